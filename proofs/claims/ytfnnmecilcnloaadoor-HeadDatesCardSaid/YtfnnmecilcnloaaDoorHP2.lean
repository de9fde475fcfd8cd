import Derived.Test.YtfnnmecilcnloaaDoorHP1
import Derived.Test.YtfnnmecilcnloaaDoorHSHeadTexts
set_option linter.unusedSimpArgs false
set_option linter.unusedVariables false
set_option linter.unusedSectionVars false
set_option linter.defProp false
set_option maxRecDepth 100000
namespace Go.Proofs.HeadS
open Go Go.Am Go.Proofs

/-! ### the reference answers the same -/
theorem name_r {s : List UInt8} {F : Nat} (hs : s.length ≤ 20000) (hF : s.length < F) : ref18_Name F s = some (nmok s) := by
  have hp : ∀ (i : Nat) (x : UInt8), s[i]? = some x → ref18_Name_p2 s (i : Int) = some (!good x) := by
    intro i x hx
    unfold ref18_Name_p2
    rw [idx_get hx]
    simp only [Option.bind_some, good]
    by_cases h1 : x < 33
    · simp [h1]
    · by_cases h2 : 126 < x
      · simp [h1, h2]
      · simp [h1, h2]
  unfold ref18_Name
  by_cases h0 : s = [] ∨ 76 < s.length
  · rw [if_pos (by rcases h0 with h0 | h0 <;> simp <;> first | exact .inl h0 | (right; omega))]
    unfold nmok
    rcases h0 with h0 | h0
    · simp [h0]
    · have : ¬ s.length ≤ 76 := by omega
      simp [this]
  · have h1 : s ≠ [] := fun h => h0 (.inl h)
    have h2 : s.length ≤ 76 := by omega
    rw [if_neg (by simp [h1]; omega)]
    have hh := scan (s := s) (body := ref18_Name_l1 s) (mk := fun i => (i : Int)) (p := good) (rr := fun _ => false) (tt := ()) ?_ ?_ ?_ hF
    · unfold nmok
      cases ha : s.all good with
      | true =>
        have := hh.1 ha
        rw [show ((0 : Nat) : Int) = 0 from rfl] at this
        rw [this]
        simp [h1, h2]
      | false =>
        obtain ⟨j, hj⟩ := hh.2 ha
        rw [show ((0 : Nat) : Int) = 0 from rfl] at hj
        rw [hj]
        simp
    · intro i x hx hg
      have hi : i < s.length := (List.getElem?_eq_some_iff.1 hx).1
      simp only [ref18_Name_l1]
      rw [if_pos (by simpa using hi), hp i x hx, hg]
      simp only [Option.bind_some, Bool.not_true, Bool.false_eq_true, if_false]
      rw [wi (by omega)]
    · intro i x hx hg
      have hi : i < s.length := (List.getElem?_eq_some_iff.1 hx).1
      simp only [ref18_Name_l1]
      rw [if_pos (by simpa using hi), hp i x hx, hg]
      simp
    · simp only [ref18_Name_l1]
      rw [if_neg (by simp)]
theorem low_r {s : List UInt8} {F : Nat} (hs : s.length ≤ 2100) (hF : s.length < F) : ref14_Lower F s = some (s.map low) := by
  have hloop : ∀ (m i G : Nat), i + m = s.length → m < G → iter (ref14_Lower_l1 s) G ((i : Int), Bf s i) = some (.inr (s.map low)) := by
    intro m
    induction m with
    | zero =>
      intro i G hi hG
      obtain ⟨G, rfl⟩ := F_succ hG
      have : i = s.length := by omega
      subst this
      rw [← Bf_all s]
      exact iter_brk (by simp only [ref14_Lower_l1]; rw [if_neg (by simp)])
    | succ m ih =>
      intro i G hi hG
      obtain ⟨G, rfl⟩ := F_succ (show 0 < G by omega)
      have hil : i < s.length := by omega
      have hc : s[i]? = some s[i] := List.getElem?_eq_getElem hil
      have hp : ref14_Lower_p1 s (i : Int) (Bf s i) = some (decide (65 ≤ s[i]) && decide (s[i] ≤ 90)) := by
        unfold ref14_Lower_p1
        rw [ixm_ok hil, Option.bind_some, Bf_get (by omega), if_neg (by omega), hc, Option.bind_some]
        by_cases h : 65 ≤ s[i] <;> simp [h]
      have hst : ref14_Lower_l1 s ((i : Int), Bf s i) = some (.nxt (((i + 1 : Nat) : Int), Bf s (i + 1))) := by
        simp only [ref14_Lower_l1]
        rw [if_pos (by simpa using hil), hp, Option.bind_some]
        by_cases h : (decide (65 ≤ s[i]) && decide (s[i] ≤ 90)) = true
        · have hl : s[i] + 32 = low s[i] := by unfold low; rw [if_pos h]
          rw [if_pos h, ixm_ok hil, Option.bind_some, Bf_get (by omega), if_neg (by omega), hc, Option.bind_some, setx_ok (by rw [Bf_len (by omega)]; exact hil), hl, Bf_set hil hc, Option.bind_some, wi (by omega)]
        · rw [if_neg h, low_id hil hc h, wi (by omega)]
      rw [iter_nxt hst]
      exact ih (i + 1) G (by omega) (by omega)
  unfold ref14_Lower
  rw [show ((0 : Int), s) = (((0 : Nat) : Int), Bf s 0) by simp [Bf], hloop s.length 0 F (by omega) hF]
  simp only [Option.bind_some]
  rw [sub_to (j := s.length) (by simp), List.take_of_length_le (by simp)]
  rfl

theorem get_r {l : List FieldV} {name : List UInt8} {F : Nat} (hl : l.length ≤ 20000) (hn : name.length ≤ 2100) (hf : ∀ f ∈ l, f.name.length ≤ 2100) (hF : 2200 < F) (hF2 : l.length < F) :
    ref18_Get F l name = some ((getf l name).1, ((getf l name).2 : Int)) := by
  have hloop : ∀ (r : List FieldV) (i G : Nat) (o : List UInt8) (n : Nat), l.drop i = r → i + r.length = l.length → r.length < G → n ≤ i →
      iter (ref18_Get_l1 F l name) G (o, (n : Int), (i : Int)) = some (.inr ((r.foldl (gst name) (o, n)).1, ((r.foldl (gst name) (o, n)).2 : Int))) := by
    intro r
    induction r with
    | nil =>
      intro i G o n hd hi hG hni
      obtain ⟨G, rfl⟩ := F_succ hG
      have : i = l.length := by simpa using hi
      subst this
      exact iter_brk (by simp only [ref18_Get_l1]; rw [if_neg (by simp)]; rfl)
    | cons f r ih =>
      intro i G o n hd hi hG hni
      obtain ⟨G, rfl⟩ := F_succ (show 0 < G by omega)
      obtain ⟨hil, hx, hr⟩ := drop_cons hd
      simp only [List.length_cons] at hi hG
      have hfl : f.name.length ≤ 2100 := hf f (List.mem_of_getElem? hx)
      have hst : ref18_Get_l1 F l name (o, (n : Int), (i : Int)) = some (.nxt ((gst name (o, n) f).1, ((gst name (o, n) f).2 : Int), ((i + 1 : Nat) : Int))) := by
        simp only [ref18_Get_l1]
        rw [if_pos (by simpa using hil), idx_get hx]
        simp only [Option.bind_some]
        rw [low_r hfl (by omega), low_r hn (by omega)]
        simp only [Option.bind_some]
        rw [wi (n := i) (by omega), wi (n := n) (by omega)]
        unfold gst
        by_cases h : f.name.map low = name.map low
        · rw [if_pos (by simp [h]), if_pos h]
          by_cases h0 : n = 0
          · subst h0; simp
          · rw [if_neg (by simp; omega), if_neg h0]
        · rw [if_neg (by simpa using h), if_neg h]
      rw [iter_nxt hst]
      have := ih (i + 1) G (gst name (o, n) f).1 (gst name (o, n) f).2 hr (by omega) (by omega) (by unfold gst; split <;> simp <;> omega)
      rw [this]
      rfl
  unfold ref18_Get getf
  have := hloop l 0 F [] 0 rfl (by simp) hF2 (Nat.le_refl _)
  rw [show ((0 : Nat) : Int) = 0 from rfl] at this
  rw [this]
  rfl

/-! ### whole texts and lines -/
theorem ends_r {b : List UInt8} (hb : b.length ≤ 20000) : ref17_ends b nl = some (nl.isSuffixOf b) := by
  unfold ref17_ends ref17_ends_p1
  by_cases h : 2 ≤ b.length
  · rw [if_pos (by simp; omega)]
    have e : IntKind.wrap .i64 ((b.length : Int) - ((nl : List UInt8).length : Int)) = ((b.length - 2 : Nat) : Int) := by rw [wr (by simp; omega) (by simp; omega)]; simp; omega
    rw [e, sub_end (by omega)]
    simp only [Option.bind_some]
    congr 1
    by_cases h2 : b.drop (b.length - 2) = nl
    · rw [(suffix_iff h).1 h2]; simpa using h2
    · have : nl.isSuffixOf b = false := by rw [Bool.eq_false_iff]; exact fun h3 => h2 ((suffix_iff h).2 h3)
      rw [this]; simpa using h2
  · rw [if_neg (by simp; omega), not_suffix (by omega)]; rfl
theorem whole_r {b : List UInt8} (hb : b.length ≤ 19000) : ref17_Whole b = some (whole b) := by
  have hp : ref17_Whole_p1 b = some (decide (b = [] ∨ nl.isSuffixOf b = true)) := by
    unfold ref17_Whole_p1
    by_cases h : b = []
    · subst h; rfl
    · have h2 : ¬ (b.length : Int) = 0 := by have := List.length_pos_iff.2 h; omega
      rw [if_neg (by simpa using h2), ends_r (by omega)]
      simp only [Option.bind_some, h, false_or, Bool.decide_eq_true]
  unfold ref17_Whole
  rw [hp]
  simp only [Option.bind_some]
  unfold whole
  by_cases h : b = [] ∨ nl.isSuffixOf b = true
  · rw [if_pos (by simpa using h), if_pos h, capp_ok (by simp; omega) (by omega)]; simp
  · rw [if_neg (by simpa using h), if_neg h, capp_ok (by simp; omega) (by omega)]
    simp only [Option.bind_some]
    rw [capp_ok (by simp; omega) (by omega)]; simp

/-- the lines of a text -/
def lns : Nat → List UInt8 → List (List UInt8)
  | 0, _ => []
  | n + 1, w => match cg nl w with
    | none => []
    | some (x, more) => x :: lns n more
theorem cg_first : ∀ {r x more : List UInt8}, cg nl r = some (x, more) → ∀ m, m < x.length → ¬ (r[m]? = some 13 ∧ r[m + 1]? = some 10) := by
  intro r
  induction r with
  | nil => intro x more h; cases h
  | cons c r ih =>
    intro x more h m hm
    unfold cg at h
    split at h
    · injection h with h; injection h with h1 h2; subst h1; simp at hm
    · rename_i hp
      rw [Option.map_eq_some_iff] at h
      obtain ⟨⟨a, b⟩, h1, h2⟩ := h
      injection h2 with h2 h3; subst h2; subst h3
      rintro ⟨e1, e2⟩
      cases m with
      | zero =>
        simp at e1 e2
        subst e1
        cases r with
        | nil => simp at e2
        | cons d r => simp at e2; subst e2; exact hp (by simp [List.isPrefixOf])
      | succ m =>
        exact ih h1 m (by simpa using hm) ⟨by simpa using e1, by simpa using e2⟩
theorem lines_step {w rest x more : List UInt8} (hw : w.length ≤ 20000) {k : Nat} (hd : w.drop k = rest) (hc : cg nl rest = some (x, more)) {out : List (List UInt8)} (ho : out.length ≤ 20000) :
    ∀ (d m G : Nat), m + d = x.length → d < G → iter (ref17_Lines_l1 w) G (out, (k : Int), ((k + 1 + m : Nat) : Int)) = iter (ref17_Lines_l1 w) (G - (d + 1)) (out ++ [x], ((k + x.length + 2 : Nat) : Int), ((k + x.length + 2 : Nat) : Int)) := by
  have hx := cg_eq hc
  have hl : rest.length = x.length + 2 + more.length := by rw [hx]; simp [nl]; omega
  have hwl : w.length = k + rest.length := by
    have := congrArg List.length hd
    simp at this; omega
  have hget : ∀ j, w[k + j]? = rest[j]? := by intro j; rw [← hd, List.getElem?_drop]
  intro d
  induction d with
  | zero =>
    intro m G hm hG
    obtain ⟨G, rfl⟩ := F_succ hG
    have e0 : rest[m]? = some 13 := by rw [hx, show m = x.length by omega]; simp [nl]
    have e1 : rest[m + 1]? = some 10 := by rw [hx, show m = x.length by omega]; simp [nl]
    have hst : ref17_Lines_l1 w (out, (k : Int), ((k + 1 + m : Nat) : Int)) = some (.nxt (out ++ [x], ((k + x.length + 2 : Nat) : Int), ((k + x.length + 2 : Nat) : Int))) := by
      simp only [ref17_Lines_l1, ref17_Lines_p1]
      have ew : IntKind.wrap .i64 (((k + 1 + m : Nat) : Int) - 1) = ((k + m : Nat) : Int) := by rw [wr (by omega) (by omega)]; omega
      rw [if_pos (by simp; omega), idx_get (x := 10) (by rw [show k + 1 + m = k + (m + 1) by omega, hget, e1])]
      simp only [Option.bind_some]
      rw [if_pos (by simp), ew, idx_get (x := 13) (by rw [hget, e0])]
      simp only [Option.bind_some]
      rw [if_pos (by simp)]
      simp only [Option.bind_some]
      rw [if_pos (by simp; omega), sub_ok (by omega) (by omega)]
      simp only [Option.bind_some]
      rw [capp_ok (by simp; omega) (by omega), wi (by omega)]
      simp only [Option.bind_some]
      have ex : (w.take (k + m)).drop k = x := by
        rw [List.drop_take, hd, hx, show k + m - k = x.length by omega]; simp
      rw [ex, show k + 1 + m + 1 = k + x.length + 2 by omega]
    rw [iter_nxt hst]; rfl
  | succ d ih =>
    intro m G hm hG
    obtain ⟨G, rfl⟩ := F_succ (show 0 < G by omega)
    have hno := cg_first hc m (by omega)
    obtain ⟨c0, hc0⟩ : ∃ c, rest[m]? = some c := ⟨_, List.getElem?_eq_getElem (by omega)⟩
    obtain ⟨c1, hc1⟩ : ∃ c, rest[m + 1]? = some c := ⟨_, List.getElem?_eq_getElem (by omega)⟩
    have hst : ref17_Lines_l1 w (out, (k : Int), ((k + 1 + m : Nat) : Int)) = some (.nxt (out, (k : Int), ((k + 1 + (m + 1) : Nat) : Int))) := by
      simp only [ref17_Lines_l1, ref17_Lines_p1]
      have ew : IntKind.wrap .i64 (((k + 1 + m : Nat) : Int) - 1) = ((k + m : Nat) : Int) := by rw [wr (by omega) (by omega)]; omega
      rw [if_pos (by simp; omega), idx_get (x := c1) (by rw [show k + 1 + m = k + (m + 1) by omega, hget, hc1])]
      simp only [Option.bind_some]
      rw [wi (by omega), show k + 1 + m + 1 = k + 1 + (m + 1) by omega]
      by_cases h1 : c1 = 10
      · rw [if_pos (by simpa using h1), ew, idx_get (x := c0) (by rw [hget, hc0])]
        simp only [Option.bind_some]
        have h0 : ¬ c0 = 13 := fun h => hno ⟨by rw [hc0, h], by rw [hc1, h1]⟩
        rw [if_neg (by simpa using h0)]
        rfl
      · rw [if_neg (by simpa using h1)]
        rfl
    rw [iter_nxt hst, ih (m + 1) G (by omega) (by omega)]
    congr 1; omega
theorem lines_r {w : List UInt8} (hw : w.length ≤ 20000) : ∀ (n : Nat) (rest : List UInt8) (k G : Nat) (out : List (List UInt8)), rest.length < n → w.drop k = rest → k ≤ w.length → Ends rest → rest.length < G →
    out.length + rest.length ≤ 20000 → iter (ref17_Lines_l1 w) G (out, (k : Int), ((k + 1 : Nat) : Int)) = some (.inr (out ++ lns n rest)) := by
  intro n
  induction n with
  | zero => intro rest k G out h; omega
  | succ n ih =>
    intro rest k G out hn hd hk he hG ho
    have hwl : w.length = k + rest.length := by
      have := congrArg List.length hd
      simp at this; omega
    by_cases hr : rest = []
    · subst hr
      obtain ⟨G, rfl⟩ := F_succ hG
      rw [iter_brk (t := out) (by simp only [ref17_Lines_l1]; rw [if_neg (by simp at hwl ⊢; omega)])]
      simp [lns, cg]
    · obtain ⟨x, more, hc, hx, hm⟩ := cg_ends he hr
      have hl : rest.length = x.length + 2 + more.length := by rw [hx]; simp [nl]; omega
      have h1 := lines_step hw hd hc (out := out) (by omega) x.length 0 G (by omega) (by omega)
      rw [show k + 1 + 0 = k + 1 by rfl] at h1
      rw [h1]
      have hd2 : w.drop (k + x.length + 2) = more := by
        rw [show k + x.length + 2 = k + (x.length + 2) by omega, ← List.drop_drop, hd, hx]
        rw [show x.length + 2 = (x ++ nl).length by simp [nl]]
        simp
      obtain ⟨G2, hG2⟩ : ∃ g, G - (x.length + 1) = g + 1 := ⟨G - (x.length + 1) - 1, by omega⟩
      rw [hG2]
      have hlns : lns (n + 1) rest = x :: lns n more := by simp [lns, hc]
      rw [hlns]
      by_cases hmo : more = []
      · subst hmo
        rw [iter_brk (t := out ++ [x]) (by simp only [ref17_Lines_l1]; rw [if_neg (by simp at hl ⊢; omega)])]
        cases n <;> simp [lns, cg]
      · have hml := List.length_pos_iff.2 hmo
        obtain ⟨c, hcx⟩ : ∃ c, w[k + x.length + 2]? = some c := ⟨_, List.getElem?_eq_getElem (by omega)⟩
        have hcx0 : ∃ c, w[k + x.length + 1]? = some c := ⟨_, List.getElem?_eq_getElem (by omega)⟩
        obtain ⟨c0, hcx0⟩ := hcx0
        have hst : ref17_Lines_l1 w (out ++ [x], ((k + x.length + 2 : Nat) : Int), ((k + x.length + 2 : Nat) : Int)) = some (.nxt (out ++ [x], ((k + x.length + 2 : Nat) : Int), ((k + x.length + 2 + 1 : Nat) : Int))) := by
          simp only [ref17_Lines_l1, ref17_Lines_p1]
          have ew : IntKind.wrap .i64 (((k + x.length + 2 : Nat) : Int) - 1) = ((k + x.length + 1 : Nat) : Int) := by rw [wr (by omega) (by omega)]; omega
          rw [if_pos (by simp; omega), idx_get hcx]
          simp only [Option.bind_some]
          rw [ew, idx_get hcx0, wi (by omega)]
          by_cases h1 : c = 10
          · rw [if_pos (by simpa using h1)]
            simp only [Option.bind_some]
            by_cases h2 : c0 = 13
            · rw [if_pos (by simpa using h2)]
              simp
            · rw [if_neg (by simpa using h2)]
              rfl
          · rw [if_neg (by simpa using h1)]
            rfl
        rw [iter_nxt hst, ih more _ G2 (out ++ [x]) (by omega) hd2 (by omega) hm (by omega) (by simp; omega)]
        simp
theorem Lines_r {b : List UInt8} {F : Nat} (hb : b.length ≤ 10000) (hF : 10010 < F) : ref17_Lines F b = some (lns ((whole b).length + 1) (whole b)) := by
  have hw := whole_len b
  unfold ref17_Lines
  rw [whole_r (by omega)]
  simp only [Option.bind_some]
  have := lines_r (w := whole b) (by omega) ((whole b).length + 1) (whole b) 0 F [] (by omega) rfl (by omega) (whole_ends b) (by omega) (by simp; omega)
  rw [show ((0 : Nat) : Int) = 0 from rfl, show ((0 + 1 : Nat) : Int) = 1 from rfl] at this
  rw [this]
  simp

/-! ### fields -/
theorem fld_loop {s : List UInt8} (hs : s.length ≤ 20000) : ∀ (r : List UInt8) (i G : Nat), s.drop i = r → i + r.length = s.length → r.length < G →
    iter (ref18_field_l1 s) G (i : Int) = some (.inr ((match cg [58] r with | some (a, _) => i + a.length | none => s.length : Nat) : Int)) := by
  intro r
  induction r with
  | nil =>
    intro i G hd hi hG
    obtain ⟨G, rfl⟩ := F_succ hG
    have : i = s.length := by simpa using hi
    subst this
    rw [iter_brk (t := (s.length : Int)) (by simp only [ref18_field_l1, ref18_field_p1]; rw [if_neg (by simp)]; rfl)]
    rfl
  | cons c r ih =>
    intro i G hd hi hG
    obtain ⟨G, rfl⟩ := F_succ (show 0 < G by omega)
    obtain ⟨hil, hx, hr⟩ := drop_cons hd
    simp only [List.length_cons] at hi hG
    by_cases hc : c = 58
    · subst hc
      rw [iter_brk (t := (i : Int)) (by simp only [ref18_field_l1, ref18_field_p1]; rw [if_pos (by simpa using hil), idx_get hx]; rfl)]
      simp [cg, List.isPrefixOf]
    · have hst : ref18_field_l1 s (i : Int) = some (.nxt ((i + 1 : Nat) : Int)) := by
        simp only [ref18_field_l1, ref18_field_p1]
        rw [if_pos (by simpa using hil), idx_get hx, wi (by omega)]
        simp [hc]
      rw [iter_nxt hst, ih (i + 1) G hr (by omega) (by omega)]
      have hcg : cg [58] (c :: r) = (cg [58] r).map fun p => (c :: p.1, p.2) := by
        have : ¬ (58 : UInt8) = c := fun h => hc h.symm
        simp [cg, List.isPrefixOf, this]
      rw [hcg]
      cases cg [58] r with
      | none => rfl
      | some p => simp; omega
theorem field_r {s : List UInt8} {F : Nat} (hs : s.length ≤ 20000) (hF : s.length < F) : ref18_field F s = some (match fldo s with | some f => (f, true) | none => (⟨[], []⟩, false)) := by
  have h := fld_loop hs s 0 F rfl (by simp) hF
  rw [show ((0 : Nat) : Int) = 0 from rfl] at h
  unfold ref18_field fldo
  rw [h]
  cases hc : cg [58] s with
  | none =>
    simp only [Option.bind_some]
    have hp : ref18_field_p2 F (s.length : Int) s = some true := by
      unfold ref18_field_p2
      rw [if_pos (by simp)]
    rw [hp]; rfl
  | some p =>
    obtain ⟨a, b⟩ := p
    have hx := cg_eq hc
    have hxl : s.length = a.length + 1 + b.length := by rw [hx]; simp; omega
    have hta : s.take a.length = a := by rw [hx]; simp
    have htb : s.drop (a.length + 1) = b := by
      rw [hx, show a.length + 1 = (a ++ [58]).length by simp]; simp
    simp only [Option.bind_some]
    have hp : ref18_field_p2 F ((0 + a.length : Nat) : Int) s = some (!nmok a) := by
      unfold ref18_field_p2
      rw [if_neg (by simp; omega), sub_to (by omega)]
      simp only [Option.bind_some]
      rw [Nat.zero_add, hta, name_r (by omega) (by omega)]
      rfl
    rw [hp]
    simp only [Option.bind_some]
    by_cases hn : nmok a = true
    · rw [hn, if_neg (by simp), if_pos (by simp), sub_to (by omega)]
      simp only [Option.bind_some]
      rw [Nat.zero_add, hta, wi (by omega), sub_end (by omega)]
      simp only [Option.bind_some]
      rw [htb]
    · rw [Bool.not_eq_true] at hn
      rw [hn]; rfl

/-! ### splitting -/
def outr : (List FieldV × List UInt8) ⊕ List FieldV → List FieldV × List UInt8
  | .inl p => p
  | .inr s => (s, [])
theorem cont_r (s : List FieldV) (x : List UInt8) : ref18_Split_p1 x s = some (contd s x) := by
  unfold ref18_Split_p1 contd
  cases x with
  | nil => simp
  | cons c r =>
    rw [if_pos (by simp), show idx (c :: r) 0 = some c by simp [idx]]
    simp only [Option.bind_some, List.head?_cons]
    by_cases h1 : c = 32
    · simp [h1]
    · by_cases h2 : c = 9
      · simp [h2]
      · simp [h1, h2]
theorem split_r {F : Nat} (hF : 20001 < F) {w : List UInt8} {ls : List (List UInt8)} (hw : w.length ≤ 20000) : ∀ (n : Nat) (rest : List UInt8) (s : List FieldV) (k i G : Nat), rest.length < n → n ≤ G → Ends rest → Bd rest s →
    w.drop k = rest → k ≤ w.length → ls.drop i = lns n rest → i ≤ k →
    ∃ o, iter (ref18_Split_l1 F ls w) G ((k : Int), (i : Int), s) = some o ∧ outr o = spl n rest s := by
  intro n
  induction n with
  | zero => intro rest s k i G h; omega
  | succ n ih =>
    intro rest s k i G hn hG he hb hd hk hls hik
    obtain ⟨G, rfl⟩ := F_succ (show 0 < G by omega)
    have hwl : w.length = k + rest.length := by
      have := congrArg List.length hd
      simp at this; omega
    by_cases hr : rest = []
    · subst hr
      have : ls.drop i = [] := by rw [hls]; rfl
      have hli : ls.length ≤ i := List.drop_eq_nil_iff.1 this
      exact ⟨.inr s, iter_brk (by simp only [ref18_Split_l1]; rw [if_neg (by simp; omega)]), rfl⟩
    · obtain ⟨x, more, hc, hx, hm⟩ := cg_ends he hr
      have hl : rest.length = x.length + 2 + more.length := by rw [hx]; simp [nl]; omega
      have hb1 := hb.1
      have hlns : ls.drop i = x :: lns n more := by rw [hls]; simp [lns, hc]
      obtain ⟨hil, hxi, hlr⟩ := drop_cons hlns
      have hd2 : w.drop (k + x.length + 2) = more := by
        rw [show k + x.length + 2 = k + (x.length + 2) by omega, ← List.drop_drop, hd, hx]
        rw [show x.length + 2 = (x ++ nl).length by simp [nl]]
        simp
      have ek : IntKind.wrap .i64 (IntKind.wrap .i64 ((k : Int) + (x.length : Int)) + 2) = ((k + x.length + 2 : Nat) : Int) := by
        rw [wr (n := (k : Int) + (x.length : Int)) (by omega) (by omega), wr (by omega) (by omega)]; omega
      have hbody : ref18_Split_l1 F ls w ((k : Int), (i : Int), s) = (if contd s x then some (.nxt (((k + x.length + 2 : Nat) : Int), ((i + 1 : Nat) : Int), ext s x)) else match fldo x with
          | some f => some (.nxt (((k + x.length + 2 : Nat) : Int), ((i + 1 : Nat) : Int), s ++ [f]))
          | none => if x = [] then some (.ret (s, more)) else some (.ret (s, rest))) := by
        simp only [ref18_Split_l1]
        rw [if_pos (by simp; omega), idx_get hxi]
        simp only [Option.bind_some]
        rw [cont_r]
        simp only [Option.bind_some]
        rw [ek, wi (n := i) (by omega)]
        by_cases h1 : contd s x = true
        · rw [if_pos h1, if_pos h1]
          have hs0 : 0 < s.length := by unfold contd at h1; simp at h1; exact h1.1
          obtain ⟨f, hf⟩ : ∃ f, s[s.length - 1]? = some f := ⟨_, List.getElem?_eq_getElem (by omega)⟩
          have hfb := hb.2 f (List.mem_of_getElem? hf)
          have e : IntKind.wrap .i64 ((s.length : Int) - 1) = ((s.length - 1 : Nat) : Int) := by rw [wr (by omega) (by omega)]; omega
          rw [e, ixm_ok (by omega)]
          simp only [Option.bind_some]
          rw [hf]
          simp only [Option.bind_some]
          rw [cat_ok (by simp; omega)]
          simp only [Option.bind_some]
          rw [cat_ok (by simp; omega)]
          simp only [Option.bind_some, HeadS.ext, hf, List.append_assoc]
        · rw [if_neg h1, if_neg h1, field_r (by omega) (by omega)]
          cases h2 : fldo x with
          | none =>
            simp only [Option.bind_some, Bool.not_false, if_true]
            by_cases h3 : x = []
            · subst h3
              have e2 : ref18_Split_p2 [] (k : Int) = some ((k + 2 : Nat) : Int) := by
                unfold ref18_Split_p2
                rw [if_pos (by simp), wr (by omega) (by omega)]; simp
              rw [e2]
              simp only [Option.bind_some, ref18_Split_p3]
              rw [sub_end (by simp at hl; omega)]
              simp only [Option.bind_some, if_true]
              simp only [List.length_nil, Nat.add_zero] at hd2
              rw [hd2]
            · have e2 : ref18_Split_p2 x (k : Int) = some (k : Int) := by
                unfold ref18_Split_p2
                rw [if_neg (by simpa using h3)]
              rw [e2]
              simp only [Option.bind_some, ref18_Split_p3]
              rw [sub_end (by omega), hd]
              simp only [Option.bind_some]
              rw [if_neg h3]
          | some f =>
            simp only [Option.bind_some, Bool.not_true, Bool.false_eq_true, if_false]
            rw [capp_ok (by simp; omega) (by omega)]; rfl
      have hspl : spl (n + 1) rest s = (if contd s x then spl n more (ext s x) else match fldo x with
          | some f => spl n more (s ++ [f])
          | none => if x = [] then (s, more) else (s, rest)) := by
        simp only [spl, hc]
        cases fldo x <;> rfl
      rw [hspl]
      by_cases h1 : contd s x = true
      · rw [if_pos h1] at hbody ⊢
        rw [iter_nxt hbody]
        exact ih more _ _ _ G (by omega) (by omega) hm (hb.ext hx) hd2 (by omega) hlr (by omega)
      · rw [if_neg h1] at hbody ⊢
        cases h2 : fldo x with
        | some f =>
          rw [h2] at hbody
          simp only at hbody ⊢
          rw [iter_nxt hbody]
          exact ih more _ _ _ G (by omega) (by omega) hm (hb.app hx h2) hd2 (by omega) hlr (by omega)
        | none =>
          rw [h2] at hbody
          simp only at hbody ⊢
          by_cases h3 : x = []
          · rw [if_pos h3] at hbody ⊢
            exact ⟨_, iter_ret hbody, rfl⟩
          · rw [if_neg h3] at hbody ⊢
            exact ⟨_, iter_ret hbody, rfl⟩
theorem Split_r {b : List UInt8} {F : Nat} (hb : b.length ≤ 10000) (hF : 20001 < F) : ref18_Split F b = some (splw b) := by
  have hw := whole_len b
  obtain ⟨o, h1, h2⟩ := split_r hF (w := whole b) (ls := lns ((whole b).length + 1) (whole b)) (by omega) ((whole b).length + 1) (whole b) [] 0 0 F (by omega) (by omega) (whole_ends b) ⟨by simp; omega, by simp⟩ rfl (by omega) rfl (by omega)
  rw [show ((0 : Nat) : Int) = 0 from rfl] at h1
  unfold ref18_Split splw
  rw [whole_r (by omega)]
  simp only [Option.bind_some]
  rw [Lines_r (by omega) (by omega)]
  simp only [Option.bind_some]
  rw [h1, ← h2]
  cases o with
  | inl p => rfl
  | inr s => rfl

/-! ### the law -/
theorem spl_bd : ∀ (n : Nat) (rest : List UInt8) (s : List FieldV), Ends rest → Bd rest s → (spl n rest s).1.length ≤ 20000 ∧ ∀ f ∈ (spl n rest s).1, f.name.length ≤ 76 := by
  intro n
  induction n with
  | zero => intro rest s he hb; have := hb.1; exact ⟨by simp only [spl]; omega, fun f hf => (hb.2 f hf).2⟩
  | succ n ih =>
    intro rest s he hb
    have h0 : s.length ≤ 20000 ∧ ∀ f ∈ s, f.name.length ≤ 76 := ⟨by have := hb.1; omega, fun f hf => (hb.2 f hf).2⟩
    by_cases hr : rest = []
    · subst hr; exact h0
    · obtain ⟨x, more, hc, hx, hm⟩ := cg_ends he hr
      simp only [spl, hc]
      split
      · exact ih more _ hm (hb.ext hx)
      · split
        · rename_i f hf
          exact ih more _ hm (hb.app hx hf)
        · split
          · exact h0
          · exact h0
theorem splw_bd {b : List UInt8} (hb : b.length ≤ 19000) : (splw b).1.length ≤ 20000 ∧ ∀ f ∈ (splw b).1, f.name.length ≤ 76 := by
  have hw := whole_len b
  exact spl_bd _ _ _ (whole_ends b) ⟨by simp; omega, by simp⟩
theorem same_a {l : List FieldV} {F : Nat} (hl : l.length ≤ 20000) (hF : l.length < F) : law18_same F l l = some true := by
  unfold law18_same
  rw [if_neg (by simp)]
  have hh := scan (s := l) (body := law18_same_l1 l l) (mk := fun i => (false, (i : Int))) (p := fun _ => true) (rr := fun _ => false) (tt := ()) ?_ ?_ ?_ hF
  · have := hh.1 (by simp)
    rw [show ((0 : Nat) : Int) = 0 from rfl] at this
    rw [this]; rfl
  · intro i x hx _
    have hi : i < l.length := (List.getElem?_eq_some_iff.1 hx).1
    simp only [law18_same_l1]
    rw [if_pos (by simpa using hi), idx_get hx]
    simp only [Option.bind_some]
    rw [if_neg (by simp), wi (by omega)]
  · intro i x _ h; cases h
  · simp only [law18_same_l1]
    rw [if_neg (by simp)]
theorem known_a (n : Nat) : law18_known (n + 100) = some true := by kernel_rfl
theorem headTexts_law (b name : List UInt8) : ∃ F, law18_HeadTexts F b name = some true := by
  refine ⟨29900 + 100, ?_⟩
  unfold law18_HeadTexts
  rw [known_a]
  simp only [Option.bind_some, Bool.not_true, Bool.false_eq_true, if_false]
  by_cases h : 4096 < b.length ∨ 300 < name.length
  · rw [if_pos (by simp; omega)]
  · rw [if_neg (by simp; omega)]
    have hb : b.length ≤ 4096 := by omega
    have hn : name.length ≤ 300 := by omega
    obtain ⟨h1, h2⟩ := splw_bd (b := b) (by omega)
    have h3 : ∀ f ∈ (splw b).1, f.name.length ≤ 2100 := fun f hf => by have := h2 f hf; omega
    rw [Split_a (by omega) (by omega), Split_r (by omega) (by omega)]
    simp only [Option.bind_some]
    rw [get_a h1 (by omega) h3 (by omega) (by omega), get_r h1 (by omega) h3 (by omega) (by omega)]
    simp only [Option.bind_some]
    unfold law18_HeadTexts_p2 head_Hops ref18_Hops
    rw [same_a h1 (by omega)]
    simp only [Option.bind_some, if_true, decide_true]
    rw [get_a h1 (by simp) h3 (by omega) (by omega), get_r h1 (by simp) h3 (by omega) (by omega), name_a (by omega) (by omega), name_r (by omega) (by omega)]
    simp only [Option.bind_some]
    rw [if_pos ?_]
    · simp
    · have : getf (splw b).1 [82, 101, 99, 101, 105, 118, 101, 100] = getf (splw b).1 [114, 101, 99, 101, 105, 118, 101, 100] := by
        unfold getf
        congr 1
      rw [this]; simp
end Go.Proofs.HeadS
