import Derived.Test.YtfnnmecilcnloaaDoorHP0
set_option linter.unusedSimpArgs false
set_option linter.unusedVariables false
set_option linter.unusedSectionVars false
set_option linter.defProp false
set_option maxRecDepth 100000
namespace Go.Proofs.HeadS
open Go Go.Am Go.Proofs

/-! ### names -/
def good (c : UInt8) : Bool := !(decide (c < 33) || decide (126 < c) || decide (c = 58))
def nmok (s : List UInt8) : Bool := !decide (s = []) && decide (s.length ≤ 76) && s.all good
theorem name_a {s : List UInt8} {F : Nat} (hs : s.length ≤ 20000) (hF : s.length < F) : head_Name F s = some (nmok s) := by
  have hp : ∀ (i : Nat) (x : UInt8), s[i]? = some x → head_Name_p1 s (i : Int) = some (!good x) := by
    intro i x hx
    unfold head_Name_p1
    rw [idx_get hx]
    simp only [Option.bind_some, good]
    by_cases h1 : x < 33
    · simp [h1]
    · by_cases h2 : 126 < x
      · simp [h1, h2]
      · simp [h1, h2]
  have hh := scan (s := s) (body := head_Name_l1 s) (mk := fun i => (i : Int)) (p := good) (rr := fun _ => false) (tt := ()) ?_ ?_ ?_ hF
  · unfold head_Name nmok
    cases ha : s.all good with
    | true =>
      have := hh.1 ha
      rw [show ((0 : Nat) : Int) = 0 from rfl] at this
      rw [this]
      simp only [Bool.and_true]
      by_cases h0 : s = []
      · simp [h0]
      · simp only [h0, decide_false, Bool.not_false, Bool.true_and]
        rw [show decide ((s.length : Int) ≤ 76) = decide (s.length ≤ 76) from by rw [decide_eq_decide]; omega]
        simp [h0]
    | false =>
      obtain ⟨j, hj⟩ := hh.2 ha
      rw [show ((0 : Nat) : Int) = 0 from rfl] at hj
      rw [hj]
      simp
  · intro i x hx hg
    have hi : i < s.length := (List.getElem?_eq_some_iff.1 hx).1
    simp only [head_Name_l1]
    rw [if_pos (by simpa using hi), hp i x hx, hg]
    simp only [Option.bind_some, Bool.not_true, Bool.false_eq_true, if_false]
    rw [wi (by omega)]
  · intro i x hx hg
    have hi : i < s.length := (List.getElem?_eq_some_iff.1 hx).1
    simp only [head_Name_l1]
    rw [if_pos (by simpa using hi), hp i x hx, hg]
    simp
  · simp only [head_Name_l1]
    rw [if_neg (by simp)]

/-! ### the fields of a name -/
def gst (name : List UInt8) (p : List UInt8 × Nat) (f : FieldV) : List UInt8 × Nat :=
  if f.name.map low = name.map low then (if p.2 = 0 then f.value else p.1, p.2 + 1) else p
def getf (l : List FieldV) (name : List UInt8) : List UInt8 × Nat := l.foldl (gst name) ([], 0)
theorem get_a {l : List FieldV} {name : List UInt8} {F : Nat} (hl : l.length ≤ 20000) (hn : name.length ≤ 2100) (hf : ∀ f ∈ l, f.name.length ≤ 2100) (hF : 2200 < F) (hF2 : l.length < F) :
    head_Get F l name = some ((getf l name).1, ((getf l name).2 : Int)) := by
  have hloop : ∀ (r : List FieldV) (i G : Nat) (o : List UInt8) (n : Nat), l.drop i = r → i + r.length = l.length → r.length < G → n ≤ i →
      iter (head_Get_l1 F l name) G (o, (n : Int), (i : Int)) = some (.inr ((r.foldl (gst name) (o, n)).1, ((r.foldl (gst name) (o, n)).2 : Int))) := by
    intro r
    induction r with
    | nil =>
      intro i G o n hd hi hG hni
      obtain ⟨G, rfl⟩ := F_succ hG
      have : i = l.length := by simpa using hi
      subst this
      exact iter_brk (by simp only [head_Get_l1]; rw [if_neg (by simp)]; rfl)
    | cons f r ih =>
      intro i G o n hd hi hG hni
      obtain ⟨G, rfl⟩ := F_succ (show 0 < G by omega)
      obtain ⟨hil, hx, hr⟩ := drop_cons hd
      simp only [List.length_cons] at hi hG
      have hfl : f.name.length ≤ 2100 := hf f (List.mem_of_getElem? hx)
      have hst : head_Get_l1 F l name (o, (n : Int), (i : Int)) = some (.nxt ((gst name (o, n) f).1, ((gst name (o, n) f).2 : Int), ((i + 1 : Nat) : Int))) := by
        simp only [head_Get_l1]
        rw [if_pos (by simpa using hil), idx_get hx]
        simp only [Option.bind_some]
        rw [low_a hfl (by omega), low_a hn (by omega)]
        simp only [Option.bind_some]
        rw [wi (n := i) (by omega), wi (n := n) (by omega)]
        unfold gst
        by_cases h : f.name.map low = name.map low
        · rw [if_neg (by simp [h]), if_pos h]
          by_cases h0 : n = 0
          · subst h0; simp
          · rw [if_neg (by simp; omega), if_neg h0]
        · rw [if_pos (by simpa using h), if_neg h]
      rw [iter_nxt hst]
      have := ih (i + 1) G (gst name (o, n) f).1 (gst name (o, n) f).2 hr (by omega) (by omega) (by unfold gst; split <;> simp <;> omega)
      rw [this]
      rfl
  unfold head_Get getf
  have := hloop l 0 F [] 0 rfl (by simp) hF2 (Nat.le_refl _)
  rw [show ((0 : Nat) : Int) = 0 from rfl] at this
  rw [this]
  rfl

/-! ### a header -/
def fldo (s : List UInt8) : Option FieldV := match cg [58] s with
  | some (a, b) => if nmok a then some ⟨a, b⟩ else none
  | none => none
def contd (s : List FieldV) (x : List UInt8) : Bool := decide (0 < s.length) && (x.head? == some 32 || x.head? == some 9)
def ext (s : List FieldV) (x : List UInt8) : List FieldV := match s[s.length - 1]? with
  | some f => s.set (s.length - 1) (FieldV.mk f.name (f.value ++ (nl ++ x)))
  | none => s
def spl : Nat → List UInt8 → List FieldV → List FieldV × List UInt8
  | 0, _, s => (s, [])
  | n + 1, rest, s => match cg nl rest with
    | none => (s, [])
    | some (x, more) => if contd s x then spl n more (ext s x) else match fldo x with
      | some f => spl n more (s ++ [f])
      | none => if x = [] then (s, more) else (s, rest)
def outv : (List FieldV × List UInt8) ⊕ List FieldV → List FieldV × List UInt8
  | .inl p => p
  | .inr s => (s, [])
theorem cont_a (s : List FieldV) (x : List UInt8) : head_Split_p1 s x = some (contd s x) := by
  unfold head_Split_p1 contd
  by_cases h : 0 < s.length
  · rw [if_pos (by simpa using h)]
    cases x with
    | nil => simp
    | cons c r =>
      rw [if_pos (by simp), show idx (c :: r) 0 = some c by simp [idx]]
      simp only [Option.bind_some, List.head?_cons]
      by_cases h1 : c = 32
      · simp [h1, h]
      · simp only [h, h1, decide_true, Bool.true_and, if_false]
        by_cases h2 : c = 9
        · simp [h2]
        · simp [h1, h2]
  · rw [if_neg (by simpa using h)]; simp [h]
/-- how long all is -/
def Bd (rest : List UInt8) (s : List FieldV) : Prop := rest.length + s.length ≤ 20000 ∧ ∀ f ∈ s, f.value.length + rest.length ≤ 20000 ∧ f.name.length ≤ 76
theorem Bd.ext {x more rest : List UInt8} {s : List FieldV} (h : Bd rest s) (hr : rest = x ++ nl ++ more) : Bd more (ext s x) := by
  obtain ⟨h1, h2⟩ := h
  have hl : rest.length = x.length + 2 + more.length := by rw [hr]; simp [nl]; omega
  unfold HeadS.ext
  split
  · rename_i f hf
    refine ⟨by simp; omega, fun g hg => ?_⟩
    rcases List.mem_or_eq_of_mem_set hg with hg | rfl
    · have := h2 g hg; omega
    · have := h2 f (List.mem_of_getElem? hf)
      simp; omega
  · exact ⟨by omega, fun g hg => by have := h2 g hg; omega⟩
theorem Bd.app {x more rest : List UInt8} {s : List FieldV} {f : FieldV} (h : Bd rest s) (hr : rest = x ++ nl ++ more) (hf : fldo x = some f) : Bd more (s ++ [f]) := by
  obtain ⟨h1, h2⟩ := h
  have hl : rest.length = x.length + 2 + more.length := by rw [hr]; simp [nl]; omega
  unfold fldo at hf
  split at hf
  · rename_i a b hc
    split at hf
    · rename_i hn
      injection hf with hf; subst hf
      have hx := cg_eq hc
      have hxl : x.length = a.length + 1 + b.length := by rw [hx]; simp [nl]; omega
      refine ⟨by simp; omega, fun g hg => ?_⟩
      rcases List.mem_append.1 hg with hg | hg
      · have := h2 g hg; omega
      · simp at hg; subst hg
        unfold nmok at hn
        simp at hn
        simp; omega
    · cases hf
  · cases hf
theorem split_a {F : Nat} (hF : 20001 < F) : ∀ (n : Nat) (rest : List UInt8) (s : List FieldV) (G : Nat), rest.length < n → n ≤ G → Ends rest → Bd rest s →
    ∃ o, iter (head_Split_l1 F) G (rest, s) = some o ∧ outv o = spl n rest s := by
  intro n
  induction n with
  | zero => intro rest s G h; omega
  | succ n ih =>
    intro rest s G hn hG he hb
    obtain ⟨G, rfl⟩ := F_succ (show 0 < G by omega)
    by_cases hr : rest = []
    · subst hr
      exact ⟨.inr s, iter_brk (by simp only [head_Split_l1]; rw [if_neg (by simp)]), rfl⟩
    · obtain ⟨x, more, hc, hx, hm⟩ := cg_ends he hr
      have hl : rest.length = x.length + 2 + more.length := by rw [hx]; simp [nl]; omega
      have hb1 := hb.1
      have hbody : head_Split_l1 F (rest, s) = (if contd s x then some (.nxt (more, ext s x)) else match fldo x with
          | some f => some (.nxt (more, s ++ [f]))
          | none => if x = [] then some (.ret (s, more)) else some (.ret (s, rest))) := by
        simp only [head_Split_l1]
        rw [if_pos (by simpa using hr), cut_ok (by simp) (by omega), hc]
        simp only [Option.bind_some]
        rw [cut_ok (by simp) (by omega)]
        simp only [Option.bind_some, cont_a]
        by_cases h1 : contd s x = true
        · rw [if_pos h1, if_pos h1]
          have hs0 : 0 < s.length := by unfold contd at h1; simp at h1; exact h1.1
          obtain ⟨f, hf⟩ : ∃ f, s[s.length - 1]? = some f := ⟨_, List.getElem?_eq_getElem (by omega)⟩
          have hfb := hb.2 f (List.mem_of_getElem? hf)
          have e : IntKind.wrap .i64 ((s.length : Int) - 1) = ((s.length - 1 : Nat) : Int) := by rw [wr (by omega) (by omega)]; omega
          rw [e, ixm_ok (by omega)]
          simp only [Option.bind_some]
          rw [hf]
          simp only [Option.bind_some]
          rw [cat_ok (by simp; omega)]
          simp only [Option.bind_some]
          rw [cat_ok (by simp; omega)]
          simp only [Option.bind_some, HeadS.ext, hf]
        · rw [if_neg h1, if_neg h1]
          unfold fldo
          cases h2 : cg [58] x with
          | none =>
            simp only [head_Split_p2, Bool.false_eq_true, if_false, Option.bind_some, decide_eq_true_eq]
          | some p =>
            obtain ⟨a, b⟩ := p
            have hx2 := cg_eq h2
            have hxl : x.length = a.length + 1 + b.length := by rw [hx2]; simp; omega
            simp only [head_Split_p2, if_true]
            rw [name_a (by omega) (by omega)]
            simp only [Option.bind_some]
            by_cases h3 : nmok a = true
            · rw [if_pos h3, if_pos h3, capp_ok (by simp; omega) (by omega)]; rfl
            · rw [if_neg h3, if_neg h3]
              simp only [decide_eq_true_eq]
      have hspl : spl (n + 1) rest s = (if contd s x then spl n more (ext s x) else match fldo x with
          | some f => spl n more (s ++ [f])
          | none => if x = [] then (s, more) else (s, rest)) := by
        simp only [spl, hc]
      rw [hspl]
      by_cases h1 : contd s x = true
      · rw [if_pos h1] at hbody ⊢
        rw [iter_nxt hbody]
        exact ih more _ G (by omega) (by omega) hm (hb.ext hx)
      · rw [if_neg h1] at hbody ⊢
        cases h2 : fldo x with
        | some f =>
          rw [h2] at hbody
          simp only at hbody ⊢
          rw [iter_nxt hbody]
          exact ih more _ G (by omega) (by omega) hm (hb.app hx h2)
        | none =>
          rw [h2] at hbody
          simp only at hbody ⊢
          by_cases h3 : x = []
          · rw [if_pos h3] at hbody ⊢
            exact ⟨_, iter_ret hbody, rfl⟩
          · rw [if_neg h3] at hbody ⊢
            exact ⟨_, iter_ret hbody, rfl⟩
def splw (b : List UInt8) : List FieldV × List UInt8 := spl ((whole b).length + 1) (whole b) []
theorem Split_a {b : List UInt8} {F : Nat} (hb : b.length ≤ 19000) (hF : 20001 < F) : head_Split F b = some (splw b) := by
  have hw := whole_len b
  obtain ⟨o, h1, h2⟩ := split_a hF ((whole b).length + 1) (whole b) [] F (by omega) (by omega) (whole_ends b) ⟨by simp; omega, by simp⟩
  unfold head_Split splw
  rw [whole_a (by omega) (by omega)]
  simp only [Option.bind_some]
  rw [h1, ← h2]
  cases o with
  | inl p => rfl
  | inr s => rfl
end Go.Proofs.HeadS
