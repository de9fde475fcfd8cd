import Derived.Test.YtndhkepeecpilaaAmEval
set_option linter.unusedSimpArgs false
set_option linter.unusedVariables false
set_option linter.unusedSectionVars false
namespace Go.Proofs.Line
open Go Go.Am

/-- a splitter's state -/
structure S where
  b : List UInt8
  st : Int
  lg : Bool
def put (m : Int) (s : S) (c : UInt8) : S := if (s.b.length : Int) = m - 2 then ⟨s.b, 1, true⟩ else ⟨s.b ++ [c], 1, s.lg⟩
def step (m : Int) (s : S) (c : UInt8) : S × Option (List UInt8 × Bool) :=
  if s.st = 2 then
    if (c.toNat : Int) = 10 then (⟨[], 0, false⟩, some (s.b, s.lg))
    else if (c.toNat : Int) = 13 then ({ put m s 13 with st := 2 }, none) else (put m (put m s 13) c, none)
  else if (c.toNat : Int) = 13 then ({ s with st := 2 }, none) else (put m s c, none)
def next (m : Int) : S → List UInt8 → S × Option ((List UInt8 × Bool) × List UInt8)
  | s, [] => (s, none)
  | s, c :: r => match (step m s c).2 with
    | some l => ((step m s c).1, some (l, r))
    | none => next m (step m s c).1 r
def feed (m : Int) : S → List UInt8 → S × List (List UInt8 × Bool)
  | s, [] => (s, [])
  | s, c :: r => match (step m s c).2 with
    | some l => ((feed m (step m s c).1 r).1, l :: (feed m (step m s c).1 r).2)
    | none => feed m (step m s c).1 r
def held (s : S) : Int := if s.st = 2 then s.b.length + 1 else s.b.length
def Ok (m : Int) (s : S) : Prop := 2 ≤ m ∧ m ≤ 65536 ∧ s.b.length ≤ m - 2

theorem put_okS {m : Int} {s : S} (h : Ok m s) (c : UInt8) : Ok m (put m s c) := by
  obtain ⟨h1, h2, h3⟩ := h
  unfold put
  split
  · exact ⟨h1, h2, h3⟩
  · refine ⟨h1, h2, ?_⟩
    simp only [List.length_append, List.length_cons, List.length_nil]
    omega
theorem step_okS {m : Int} {s : S} (h : Ok m s) (c : UInt8) : Ok m (step m s c).1 := by
  unfold step
  split
  · split
    · exact ⟨h.1, h.2.1, by have := h.1; simp; omega⟩
    · split
      · exact put_okS h 13
      · exact put_okS (put_okS h 13) c
  · split
    · exact h
    · exact put_okS h c
theorem next_okS {m : Int} : ∀ {bs : List UInt8} {s : S}, Ok m s → Ok m (next m s bs).1 := by
  intro bs
  induction bs with
  | nil => intro s h; exact h
  | cons c r ih =>
    intro s h
    simp only [next]
    split
    · exact step_okS h c
    · exact ih (step_okS h c)
theorem feed_okS {m : Int} : ∀ {bs : List UInt8} {s : S}, Ok m s → Ok m (feed m s bs).1 := by
  intro bs
  induction bs with
  | nil => intro s h; exact h
  | cons c r ih =>
    intro s h
    simp only [feed]
    split
    · exact ih (step_okS h c)
    · exact ih (step_okS h c)
theorem feed_next {m : Int} : ∀ (bs : List UInt8) (s : S), feed m s bs = match next m s bs with
    | (s', none) => (s', [])
    | (s', some (l, r)) => ((feed m s' r).1, l :: (feed m s' r).2) := by
  intro bs
  induction bs with
  | nil => intro s; rfl
  | cons c r ih =>
    intro s
    simp only [feed, next]
    cases (step m s c).2 with
    | some l => rfl
    | none => exact ih _
theorem next_lt {m : Int} : ∀ (bs : List UInt8) (s s' : S) (l : List UInt8 × Bool) (r : List UInt8), next m s bs = (s', some (l, r)) → r.length < bs.length ∧ ∃ q, bs = q ++ r := by
  intro bs
  induction bs with
  | nil => intro s s' l r h; simp [next] at h
  | cons c t ih =>
    intro s s' l r h
    simp only [next] at h
    split at h
    · simp only [Prod.mk.injEq, Option.some.injEq] at h
      obtain ⟨-, -, rfl⟩ := h
      exact ⟨by simp, [c], rfl⟩
    · obtain ⟨h1, q, rfl⟩ := ih _ _ _ _ h
      exact ⟨by simp; omega, c :: q, rfl⟩
theorem feed_app {m : Int} : ∀ (a b : List UInt8) (s : S), feed m s (a ++ b) = ((feed m (feed m s a).1 b).1, (feed m s a).2 ++ (feed m (feed m s a).1 b).2) := by
  intro a
  induction a with
  | nil => intro b s; rfl
  | cons c r ih =>
    intro b s
    simp only [List.cons_append, feed]
    cases (step m s c).2 with
    | some l => simp only [ih]; rfl
    | none => exact ih b _
theorem held_lt {m : Int} {s : S} (h : Ok m s) : 0 ≤ held s ∧ held s < m := by
  obtain ⟨h1, h2, h3⟩ := h
  unfold held
  split <;> omega
theorem feed_len {m : Int} : ∀ (bs : List UInt8) (s : S), (feed m s bs).2.length ≤ bs.length := by
  intro bs
  induction bs with
  | nil => intro s; simp [feed]
  | cons c r ih =>
    intro s
    simp only [feed]
    split
    · have := ih (step m s c).1; simp; omega
    · have := ih (step m s c).1; simp; omega
end Go.Proofs.Line
