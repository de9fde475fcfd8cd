import Derived.Test.YtndhkepeecpilaaDoorRS2
import Derived.Test.YtndhkepeecpilaaDoorAmP
set_option linter.unusedSimpArgs false
set_option linter.unusedVariables false
set_option linter.unusedSectionVars false
set_option linter.defProp false
namespace Go.Proofs.ReplyS
open Go Go.Am Go.Proofs

/-! ### the splitter, in plain words -/
def put (s : SplitterV) (c : UInt8) : SplitterV := if (s.b.length : Int) = s.most - 2 then ⟨s.most, s.b, 1, true⟩ else ⟨s.most, s.b ++ [c], 1, s.long⟩
def step (s : SplitterV) (c : UInt8) : SplitterV × Option LineV :=
  if s.state = 2 then
    if c = 10 then (⟨s.most, [], 0, false⟩, some ⟨s.b, s.long⟩)
    else if c = 13 then ({ put s 13 with state := 2 }, none) else (put (put s 13) c, none)
  else if c = 13 then ({ s with state := 2 }, none) else (put s c, none)
def next : SplitterV → List UInt8 → SplitterV × Option (LineV × List UInt8)
  | s, [] => (s, none)
  | s, c :: r => match (step s c).2 with
    | some l => ((step s c).1, some (l, r))
    | none => next (step s c).1 r
def feed : SplitterV → List UInt8 → SplitterV × List LineV
  | s, [] => (s, [])
  | s, c :: r => match (step s c).2 with
    | some l => ((feed (step s c).1 r).1, l :: (feed (step s c).1 r).2)
    | none => feed (step s c).1 r
def held (s : SplitterV) : Int := if s.state = 2 then s.b.length + 1 else s.b.length
def Ok (s : SplitterV) : Prop := 2 ≤ s.most ∧ s.most ≤ 65536 ∧ s.b.length ≤ s.most - 2
def start (m : Int) : SplitterV := ⟨m, [], 0, false⟩

theorem put_most (s : SplitterV) (c : UInt8) : (put s c).most = s.most := by unfold put; split <;> rfl
theorem step_most (s : SplitterV) (c : UInt8) : (step s c).1.most = s.most := by
  unfold step; split
  · split
    · rfl
    · split
      · exact put_most s 13
      · rw [put_most, put_most]
  · split
    · rfl
    · exact put_most s c
theorem feed_most : ∀ (bs : List UInt8) (s : SplitterV), (feed s bs).1.most = s.most := by
  intro bs
  induction bs with
  | nil => intro s; rfl
  | cons c r ih =>
    intro s
    simp only [feed]
    split
    · exact (ih _).trans (step_most s c)
    · exact (ih _).trans (step_most s c)
theorem put_okS {s : SplitterV} (h : Ok s) (c : UInt8) : Ok (put s c) := by
  obtain ⟨h1, h2, h3⟩ := h
  unfold put
  split
  · exact ⟨h1, h2, h3⟩
  · refine ⟨h1, h2, ?_⟩
    simp only [List.length_append, List.length_cons, List.length_nil]
    omega
theorem step_okS {s : SplitterV} (h : Ok s) (c : UInt8) : Ok (step s c).1 := by
  unfold step
  split
  · split
    · exact ⟨h.1, h.2.1, by have := h.1; simp; omega⟩
    · split
      · exact put_okS h 13
      · exact put_okS (put_okS h 13) c
  · split
    · exact h
    · exact put_okS h c
theorem next_okS : ∀ {bs : List UInt8} {s : SplitterV}, Ok s → Ok (next s bs).1 := by
  intro bs
  induction bs with
  | nil => intro s h; exact h
  | cons c r ih =>
    intro s h
    simp only [next]
    split
    · exact step_okS h c
    · exact ih (step_okS h c)
theorem feed_okS : ∀ {bs : List UInt8} {s : SplitterV}, Ok s → Ok (feed s bs).1 := by
  intro bs
  induction bs with
  | nil => intro s h; exact h
  | cons c r ih =>
    intro s h
    simp only [feed]
    split
    · exact ih (step_okS h c)
    · exact ih (step_okS h c)
theorem feed_next : ∀ (bs : List UInt8) (s : SplitterV), feed s bs = match next s bs with
    | (s', none) => (s', [])
    | (s', some (l, r)) => ((feed s' r).1, l :: (feed s' r).2) := by
  intro bs
  induction bs with
  | nil => intro s; rfl
  | cons c r ih =>
    intro s
    simp only [feed, next]
    cases (step s c).2 with
    | some l => rfl
    | none => exact ih _
theorem next_lt : ∀ (bs : List UInt8) (s s' : SplitterV) (l : LineV) (r : List UInt8), next s bs = (s', some (l, r)) → r.length < bs.length ∧ ∃ q, bs = q ++ r := by
  intro bs
  induction bs with
  | nil => intro s s' l r h; simp [next] at h
  | cons c t ih =>
    intro s s' l r h
    simp only [next] at h
    split at h
    · simp only [Prod.mk.injEq, Option.some.injEq] at h
      obtain ⟨-, -, rfl⟩ := h
      exact ⟨by simp, [c], rfl⟩
    · obtain ⟨h1, q, rfl⟩ := ih _ _ _ _ h
      exact ⟨by simp; omega, c :: q, rfl⟩
theorem feed_app : ∀ (a b : List UInt8) (s : SplitterV), feed s (a ++ b) = ((feed (feed s a).1 b).1, (feed s a).2 ++ (feed (feed s a).1 b).2) := by
  intro a
  induction a with
  | nil => intro b s; rfl
  | cons c r ih =>
    intro b s
    simp only [List.cons_append, feed]
    cases (step s c).2 with
    | some l => simp only [ih]; rfl
    | none => exact ih b _
theorem held_lt {s : SplitterV} (h : Ok s) : 0 ≤ held s ∧ held s < s.most := by
  obtain ⟨h1, h2, h3⟩ := h
  unfold held
  split <;> omega
theorem feed_len : ∀ (bs : List UInt8) (s : SplitterV), (feed s bs).2.length ≤ bs.length := by
  intro bs
  induction bs with
  | nil => intro s; simp [feed]
  | cons c r ih =>
    intro s
    simp only [feed]
    split
    · have := ih (step s c).1; simp; omega
    · have := ih (step s c).1; simp; omega
theorem start_ok {m : Int} (h1 : 2 ≤ m) (h2 : m ≤ 65536) : Ok (start m) := ⟨h1, h2, by simp [start]; omega⟩

/-! ### the program's functions are these -/
theorem put_eq {s : SplitterV} (h : Ok s) (c : UInt8) : line_Splitter_put s c = some (put s c) := by
  obtain ⟨h1, h2, h3⟩ := h
  unfold line_Splitter_put put
  rw [wr (by omega) (by omega)]
  by_cases hc : (s.b.length : Int) = s.most - 2
  · simp [hc]
  · simp only [hc, decide_false, Bool.false_eq_true, if_false]
    rw [capp_ok (by simp; omega) (by omega)]
    rfl
theorem body_eq {b : List UInt8} {i : Nat} {s : SplitterV} {l0 : LineV} {c : UInt8} (h : Ok s) (hb : b.length ≤ 1000000000) (hc : b[i]? = some c) :
    line_Splitter_Next_l1 b ((i : Int), s, l0) = some (match (step s c).2 with | some l => .ret (l, true, b.drop (i + 1), (step s c).1) | none => .nxt (((i + 1 : Nat) : Int), (step s c).1, l0)) := by
  have hlt : i < b.length := (List.getElem?_eq_some_iff.1 hc).1
  have hw : IntKind.wrap .i64 ((i : Int) + 1) = ((i + 1 : Nat) : Int) := by rw [wr (by omega) (by omega)]; rfl
  have hi : ((i : Int) < (b.length : Int)) := by omega
  unfold line_Splitter_Next_l1
  simp only [hi, decide_true, if_true, idx_get hc, Option.bind_some, hw]
  unfold line_Splitter_Next_p1
  by_cases h2 : s.state = 2
  · by_cases h10 : c = 10
    · subst h10
      simp only [h2, decide_true, if_true, line_Splitter_Reset, Option.bind_some, hw, step]
      rw [sub_end (by omega), Option.bind_some, capp_ok (by simp; omega) (by omega)]
      simp
    · by_cases h13 : c = 13
      · subst h13
        simp only [h2, decide_true, if_true, h10, decide_false, Bool.false_eq_true, if_false, put_eq h, Option.bind_some, step]
      · simp only [h2, decide_true, if_true, h10, h13, decide_false, Bool.false_eq_true, if_false, put_eq h, Option.bind_some, step, put_eq (put_okS h 13)]
  · by_cases h13 : c = 13
    · subst h13
      simp only [h2, decide_true, if_true, decide_false, Bool.false_eq_true, if_false, Option.bind_some, step]
    · simp only [h2, h13, decide_false, Bool.false_eq_true, if_false, Option.bind_some, step, put_eq h]
theorem next_loop {b : List UInt8} (hb : b.length ≤ 1000000000) (l0 : LineV) : ∀ (r : List UInt8) (i : Nat) (s : SplitterV) (F : Nat), b.drop i = r → i ≤ b.length → Ok s → r.length < F →
    iter (line_Splitter_Next_l1 b) F ((i : Int), s, l0) = some (match next s r with | (s', none) => .inr (s', l0) | (s', some (l, q)) => .inl (l, true, q, s')) := by
  intro r
  induction r with
  | nil =>
    intro i s F hd hi hk hF
    obtain ⟨G, rfl⟩ := F_succ hF
    have := drop_nil_ge hd
    refine iter_brk ?_
    unfold line_Splitter_Next_l1
    have : ¬ (i : Int) < b.length := by omega
    simp [this]
  | cons c r ih =>
    intro i s F hd hi hk hF
    obtain ⟨G, rfl⟩ := F_succ hF
    obtain ⟨h1, h2, h3⟩ := drop_cons hd
    have hbd := body_eq (l0 := l0) hk hb h2
    simp only [next]
    cases hs : (step s c).2 with
    | some l =>
      simp only [hs] at hbd ⊢
      rw [iter_ret hbd, h3]
    | none =>
      simp only [hs] at hbd ⊢
      rw [iter_nxt hbd]
      exact ih (i + 1) _ G h3 (by omega) (step_okS hk c) (by simp at hF; omega)
theorem next_eq {F : Nat} {s : SplitterV} {b : List UInt8} (h : Ok s) (hb : b.length ≤ 1000000000) (hF : b.length < F) :
    line_Splitter_Next F s b = some (match next s b with | (s', none) => (⟨[], false⟩, false, [], s') | (s', some (l, q)) => (l, true, q, s')) := by
  unfold line_Splitter_Next
  have := next_loop hb ⟨[], false⟩ b 0 s F rfl (Nat.zero_le _) h hF
  rw [show (0 : Int) = ((0 : Nat) : Int) from rfl, this]
  rcases next s b with ⟨s', _ | ⟨l, q⟩⟩ <;> rfl
theorem held_eq {s : SplitterV} (h : Ok s) : line_Splitter_Held_s s = some (held s) := by
  obtain ⟨h1, h2, h3⟩ := h
  unfold line_Splitter_Held_s held
  by_cases hc : s.state = 2
  · simp [hc]; exact wr (by omega) (by omega)
  · simp [hc]
theorem new_eq {m : Int} (h1 : 2 ≤ m) (h2 : m ≤ 65536) : line_New m = some (some (start m), 0) := by
  simp [line_New, line_may, h1, h2, start]
theorem new_no {m : Int} (h : ¬ (2 ≤ m ∧ m ≤ 65536)) : line_New m = some (none, 1) := by
  have : (decide (2 ≤ m) && decide (m ≤ 65536)) = false := by
    rw [Bool.and_eq_false_iff, decide_eq_false_iff_not, decide_eq_false_iff_not]; omega
  simp [line_New, line_may, this]
theorem feed_text : ∀ (t : List UInt8) (s : SplitterV), (∀ c ∈ t, c ≠ 13) → s.state ≠ 2 → Ok s → (s.long = true → (s.b.length : Int) = s.most - 2) →
    (feed s t).2 = [] ∧ (feed s t).1.b = (s.b ++ t).take (s.most - 2).toNat ∧ (feed s t).1.long = (s.long || decide (s.most - 2 < ((s.b ++ t).length : Int))) ∧ (feed s t).1.state ≠ 2 := by
  intro t
  induction t with
  | nil =>
    intro s _ h2 hk hl
    obtain ⟨h3, h4, h5⟩ := hk
    refine ⟨rfl, ?_, ?_, h2⟩
    · simp only [feed, List.append_nil]; rw [List.take_of_length_le (by omega)]
    · have : ¬ s.most - 2 < (s.b.length : Int) := by omega
      simp [feed, this]
  | cons c r ih =>
    intro s hc h2 hk hl
    have hc13 : c ≠ 13 := hc c (by simp)
    have hst : step s c = (put s c, none) := by simp [step, h2, hc13]
    simp only [feed, hst]
    obtain ⟨h3, h4, h5⟩ := hk
    have hp : (put s c).state ≠ 2 := by unfold put; split <;> simp
    have hpm := put_most s c
    by_cases hfull : (s.b.length : Int) = s.most - 2
    · have hput : put s c = ⟨s.most, s.b, 1, true⟩ := by simp [put, hfull]
      obtain ⟨g1, g2, g3, g4⟩ := ih (put s c) (fun x hx => hc x (by simp [hx])) hp (put_okS ⟨h3, h4, h5⟩ c) (by rw [hput]; intro _; exact hfull)
      refine ⟨g1, ?_, ?_, g4⟩
      · rw [g2, hput]
        simp only
        rw [List.take_append_of_le_length (by omega), List.take_append_of_le_length (by omega)]
      · rw [g3, hput]
        simp only [Bool.true_or, List.length_append, List.length_cons]
        have : s.most - 2 < ((s.b.length + (r.length + 1) : Nat) : Int) := by omega
        rw [decide_eq_true this, Bool.or_true]
    · have hput : put s c = ⟨s.most, s.b ++ [c], 1, s.long⟩ := by simp [put, hfull]
      have hlf : s.long = false := by cases hb : s.long with | false => rfl | true => exact absurd (hl hb) hfull
      obtain ⟨g1, g2, g3, g4⟩ := ih (put s c) (fun x hx => hc x (by simp [hx])) hp (put_okS ⟨h3, h4, h5⟩ c) (by rw [hput]; simp [hlf])
      refine ⟨g1, ?_, ?_, g4⟩
      · rw [g2, hput]; simp
      · rw [g3, hput]; simp

theorem next_app : ∀ (a b : List UInt8) (s s' : SplitterV), next s a = (s', none) → next s (a ++ b) = next s' b := by
  intro a
  induction a with
  | nil => intro b s s' h; simp only [next, Prod.mk.injEq, and_true] at h; subst h; rfl
  | cons c r ih =>
    intro b s s' h
    simp only [List.cons_append, next] at h ⊢
    cases hs : (step s c).2 with
    | some l => simp [hs] at h
    | none => simp only [hs] at h ⊢; exact ih b _ _ h
/-- a line and its end -/
theorem next_line {m : Int} (h1 : 2 ≤ m) (h2 : m ≤ 65536) {t : List UInt8} (ht : ∀ c ∈ t, c ≠ 13) (r : List UInt8) :
    next (start m) (t ++ 13 :: 10 :: r) = (start m, some (⟨t.take (m - 2).toNat, decide (m - 2 < (t.length : Int))⟩, r)) := by
  obtain ⟨g1, g2, g3, g4⟩ := feed_text t (start m) ht (by simp [start]) (start_ok h1 h2) (by simp [start])
  have hm := feed_most t (start m)
  have hf := feed_next t (start m)
  rcases hx : next (start m) t with ⟨s', _ | ⟨l, q⟩⟩
  · simp only [hx] at hf
    rw [hf] at g1 g2 g3 g4 hm
    rw [next_app _ _ _ _ hx]
    simp only at g1 g2 g3 g4 hm
    have hs : step s' 13 = ({ s' with state := 2 }, none) := by simp [step, g4]
    simp only [next, hs]
    simp [step, start, g2, g3, hm]
    try rfl
  · simp only [hx] at hf
    rw [hf] at g1
    simp at g1
end Go.Proofs.ReplyS
