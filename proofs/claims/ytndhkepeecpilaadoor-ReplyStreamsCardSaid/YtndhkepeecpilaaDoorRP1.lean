import Derived.Test.YtndhkepeecpilaaDoorRP0
set_option linter.unusedSimpArgs false
set_option linter.unusedVariables false
set_option linter.unusedSectionVars false
set_option linter.defProp false
namespace Go.Proofs.ReplyS
open Go Go.Am Go.Proofs

/-! ### the reader, in plain words -/
def prn (c : UInt8) : Bool := !(decide (c < 32) || decide (126 < c))
def textOk (s : List UInt8) : Bool := s.all prn && decide (s.length ≤ 480)
def dg (x : Nat) : UInt8 := UInt8.ofNat (48 + x)
theorem dg_facts : ∀ x : Fin 10, (decide (dg x.val < 48) = false ∧ decide (57 < dg x.val) = false ∧ (dg x.val - 48).toNat = x.val ∧ dg x.val ≠ 13 ∧ prn (dg x.val) = true ∧ UInt8.ofInt (48 + (x.val : Int)) = dg x.val) := by decide
theorem text_loop {s : List UInt8} (hb : s.length ≤ 1000000000) : ∀ (r : List UInt8) (i F : Nat), s.drop i = r → i ≤ s.length → r.length < F →
    iter (reply_text_l1 s) F (i : Int) = some (if r.all prn then .inr () else .inl false) := by
  intro r
  induction r with
  | nil =>
    intro i F hd hi hF
    obtain ⟨G, rfl⟩ := F_succ hF
    have := drop_nil_ge hd
    refine iter_brk ?_
    have : ¬ (i : Int) < s.length := by omega
    simp [reply_text_l1, this]
  | cons c r ih =>
    intro i F hd hi hF
    obtain ⟨G, rfl⟩ := F_succ hF
    obtain ⟨h1, h2, h3⟩ := drop_cons hd
    have hlt : (i : Int) < s.length := by omega
    have hw : IntKind.wrap .i64 ((i : Int) + 1) = ((i + 1 : Nat) : Int) := by rw [wr (by omega) (by omega)]; rfl
    have hp : reply_text_p1 s (i : Int) = some (!prn c) := by
      unfold reply_text_p1 prn
      rw [idx_get h2, Option.bind_some]
      by_cases hc : c < 32 <;> simp [hc]
    by_cases hc : prn c = true
    · rw [iter_nxt (s' := ((i + 1 : Nat) : Int)) (by simp [reply_text_l1, hlt, hp, hc, hw])]
      rw [ih (i + 1) G h3 (by omega) (by simp at hF; omega)]
      simp [hc]
    · rw [iter_ret (r := false) (by simp [reply_text_l1, hlt, hp, hc])]
      simp [hc]
theorem text_eq {F : Nat} {s : List UInt8} (hb : s.length ≤ 1000000) (hF : s.length < F) : reply_text F s = some (textOk s) := by
  unfold reply_text textOk
  have := text_loop (s := s) (by omega) s 0 F rfl (Nat.zero_le _) hF
  rw [show (0 : Int) = ((0 : Nat) : Int) from rfl, this]
  by_cases h : s.all prn = true
  · rw [if_pos h, h]; simp; omega
  · rw [if_neg h]; simp [h]
theorem class_eq {c : Int} (h1 : 200 ≤ c) (h2 : c ≤ 599) : reply_Class c = some (c.tdiv 100) ∧ c.tdiv 100 ≠ 0 := by
  have h3 : ¬ c < 200 := by omega
  have h4 : ¬ 599 < c := by omega
  have h5 : c.tdiv 100 = c / 100 := Int.tdiv_eq_ediv_of_nonneg (by omega)
  unfold reply_Class
  simp only [h3, h4, decide_false, Bool.or_self, Bool.false_eq_true, if_false]
  rw [wr (by omega) (by omega)]
  exact ⟨rfl, by omega⟩
theorem dig_step {l : LineV} {r : ReaderV} {i x : Nat} {code : Int} (h : l.text[i]? = some (dg x)) (hx : x < 10) (hi : i < 3) (h0 : 0 ≤ code) (h1 : code ≤ 1000) :
    reply_Reader_take_l1 l r (code, (i : Int)) = some (.nxt (10 * code + x, ((i + 1 : Nat) : Int))) := by
  obtain ⟨e1, e2, e3, -, -⟩ := dg_facts ⟨x, hx⟩
  simp only at e1 e2 e3
  have hlt : (i : Int) < 3 := by omega
  unfold reply_Reader_take_l1 reply_Reader_take_p2
  simp only [hlt, decide_true, if_true, idx_get h, Option.bind_some, e1, e2, e3, Bool.false_eq_true, if_false]
  rw [wr (n := (i : Int) + 1) (by omega) (by omega), wr (n := 10 * code) (by omega) (by omega), wr (n := (x : Int)) (by omega) (by omega), wr (by omega) (by omega)]
  rfl
theorem dig_loop {l : LineV} {r : ReaderV} {x y z : Nat} {t : List UInt8} {F : Nat} (h : l.text = dg x :: dg y :: dg z :: t) (hx : x < 10) (hy : y < 10) (hz : z < 10) :
    iter (reply_Reader_take_l1 l r) (F + 4) (0, 0) = some (.inr ((100 * x + 10 * y + z : Nat) : Int)) := by
  have s1 := dig_step (l := l) (r := r) (i := 0) (x := x) (code := 0) (by rw [h]; rfl) hx (by omega) (by omega) (by omega)
  have s2 := dig_step (l := l) (r := r) (i := 1) (x := y) (code := x) (by rw [h]; rfl) hy (by omega) (by omega) (by omega)
  have s3 := dig_step (l := l) (r := r) (i := 2) (x := z) (code := 10 * x + y) (by rw [h]; rfl) hz (by omega) (by omega) (by omega)
  rw [iter_nxt (s' := ((x : Int), 1)) (by simpa using s1), iter_nxt (s' := (10 * (x : Int) + y, 2)) (by simpa using s2), iter_nxt (s' := (((100 * x + 10 * y + z : Nat) : Int), 3)) (by rw [show (2 : Int) = ((2 : Nat) : Int) from rfl, s3]; simp; omega)]
  exact iter_brk (by simp [reply_Reader_take_l1])
def okLine (r : ReplyV) (c : Int) (rest : List UInt8) : Prop := textOk rest = true ∧ r.lines.length ≠ 20 ∧ (r.lines.length = 0 ∨ c = r.code)
instance (r : ReplyV) (c : Int) (rest : List UInt8) : Decidable (okLine r c rest) := by unfold okLine; infer_instance
theorem take_eq {F : Nat} {r : ReaderV} {x y z : Nat} {sep : UInt8} {rest : List UInt8} {c : Nat} (hc : c = 100 * x + 10 * y + z) (hx : x < 10) (hy : y < 10) (hz : z < 10) (h1 : 200 ≤ c) (h2 : c ≤ 599)
    (hs : sep = 45 ∨ sep = 32) (hb : rest.length ≤ 1000000) (hF : rest.length + 4 < F) (hl : r.r.lines.length ≤ 20) :
    reply_Reader_take F r ⟨dg x :: dg y :: dg z :: sep :: rest, false⟩ = some (if okLine r.r c rest then (!decide (sep = 45), true, ⟨r.splitter, ⟨c, r.r.lines ++ [rest]⟩, IntKind.wrap .i64 (r.n + (rest.length : Int)), r.bad⟩) else (false, false, r)) := by
  obtain ⟨k1, k2⟩ := class_eq (c := (c : Int)) (by omega) (by omega)
  have ht := text_eq (F := F) (s := rest) hb (by omega)
  obtain ⟨G, rfl⟩ : ∃ G, F = G + 4 := ⟨F - 4, by omega⟩
  have hd := dig_loop (l := ⟨dg x :: dg y :: dg z :: sep :: rest, false⟩) (r := r) (F := G) rfl hx hy hz
  rw [← hc] at hd
  unfold reply_Reader_take
  have h3 : ¬ (((dg x :: dg y :: dg z :: sep :: rest).length : Int) < 3) := by simp; omega
  simp only [h3, decide_false, Bool.or_false, Bool.false_eq_true, if_false]
  have hsub : sub (dg x :: dg y :: dg z :: sep :: rest) 3 ((dg x :: dg y :: dg z :: sep :: rest).length : Int) = some (sep :: rest) := by
    have := sub_end (l := dg x :: dg y :: dg z :: sep :: rest) (i := 3) (by simp)
    simpa using this
  rw [hsub, Option.bind_some, hd, Option.bind_some]
  have h4 : reply_Reader_take_p4 (sep :: rest) r = some (.nxt (rest, decide (sep = 45))) := by
    unfold reply_Reader_take_p4 reply_Reader_take_p3
    have hi : idx (sep :: rest) 0 = some sep := by have := idx_nat (sep :: rest) 0; simpa using this
    rw [hi]
    simp only [sub_one (l := sep :: rest) rfl, Option.bind_some]
    rcases hs with rfl | rfl <;> simp
  simp only [h4, Option.bind_some]
  have h5 : reply_Reader_take_p5 (G + 4) c rest r = some (decide (¬ okLine r.r c rest)) := by
    unfold reply_Reader_take_p5
    rw [k1, Option.bind_some, ht, Option.bind_some]
    simp only [k2, decide_false, Bool.false_eq_true, if_false]
    unfold okLine
    by_cases q1 : textOk rest = true
    · by_cases q2 : r.r.lines.length = 20
      · simp [q1, q2]
      · have q2' : ¬ ((r.r.lines.length : Int) = 20) := by omega
        by_cases q3 : r.r.lines.length = 0
        · simp [q1, q2, q2', q3]
        · have : 0 < (r.r.lines.length : Int) := by omega
          simp [q1, q2, q2', q3, this]
    · simp [q1]
  rw [h5, Option.bind_some]
  by_cases hk : okLine r.r c rest
  · simp only [hk, not_true_eq_false, decide_false, Bool.false_eq_true, if_false, if_true]
    rw [capp_ok (by simp; omega) (by omega), Option.bind_some]
  · simp [hk]
theorem take_long {F : Nat} {r : ReaderV} {t : List UInt8} : reply_Reader_take F r ⟨t, true⟩ = some (false, false, r) := by
  simp [reply_Reader_take]
end Go.Proofs.ReplyS
