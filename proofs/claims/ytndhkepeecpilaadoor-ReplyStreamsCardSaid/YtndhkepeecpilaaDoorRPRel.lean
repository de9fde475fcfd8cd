import Derived.Test.YtndhkepeecpilaaDoorRPT
import Derived.Test.YtndhkepeecpilaaDoorRSReplyStreams
set_option linter.unusedSimpArgs false
set_option linter.unusedVariables false
set_option linter.unusedSectionVars false
set_option linter.defProp false
namespace Go.Proofs.ReplyS
open Go Go.Am Go.Proofs

/-! ### the document's splitter goes with the program's -/
structure Rel (s : SplitterV) (r : SplitterVx) (k : Int) : Prop where
  ok : Ok s
  most : r.most = s.most
  b : r.b = s.b
  cr : r.cR = decide (s.state = 2)
  lg : s.long = decide (s.most - 2 < r.n)
  n0 : 0 ≤ r.n
  nk : r.n ≤ k
  short : r.n ≤ s.most - 2 → r.n = s.b.length
  full : s.most - 2 < r.n → (s.b.length : Int) = s.most - 2
  st0 : s.state = 0 → r.n = 0
  st1 : s.state = 1 → 0 < r.n
  sts : s.state = 0 ∨ s.state = 1 ∨ s.state = 2
theorem Rel.up {s : SplitterV} {r : SplitterVx} {k k' : Int} (h : Rel s r k) (hk : k ≤ k') : Rel s r k' := { h with nk := by have := h.nk; omega }

def addR (r : SplitterVx) (c : UInt8) : SplitterVx := if (r.b.length : Int) < r.most - 2 then ⟨r.most, r.b ++ [c], r.n + 1, r.cR⟩ else ⟨r.most, r.b, r.n + 1, r.cR⟩
def stepR (r : SplitterVx) (c : UInt8) : SplitterVx × Option LineV :=
  if r.cR = true ∧ c = 10 then (⟨r.most, [], 0, false⟩, some ⟨r.b, decide (r.most - 2 < r.n)⟩)
  else
    let r2 := if r.cR then { addR r 13 with cR := false } else r
    if c = 13 then ({ r2 with cR := true }, none) else (addR r2 c, none)
theorem add_rel {s : SplitterV} {r : SplitterVx} {k : Int} (h : Rel s r k) (hs : s.state ≠ 2) (c : UInt8) : Rel (put s c) (addR r c) (k + 1) ∧ (put s c).state = 1 := by
  obtain ⟨⟨h1, h2, h3⟩, hm, hb, hcr, hlg, h0, hk, hsh, hfu, hs0, hs1, hst⟩ := h
  by_cases hf : (s.b.length : Int) = s.most - 2
  · have hp : put s c = ⟨s.most, s.b, 1, true⟩ := by simp [put, hf]
    have hr : addR r c = ⟨r.most, r.b, r.n + 1, r.cR⟩ := by
      unfold addR; rw [if_neg]; rw [hb, hm]; omega
    rw [hp, hr]
    have hgt : s.most - 2 < r.n + 1 := by
      by_cases hx : r.n ≤ s.most - 2
      · have := hsh hx; omega
      · omega
    refine ⟨⟨⟨h1, h2, h3⟩, hm, hb, by simp [hcr, hs], by simp [hgt], by simp; omega, by simp; omega, ?_, ?_, by simp, by simp; omega, by simp⟩, rfl⟩
    · simp only; intro hx; omega
    · simp only; intro _; exact hf
  · have hp : put s c = ⟨s.most, s.b ++ [c], 1, s.long⟩ := by simp [put, hf]
    have hr : addR r c = ⟨r.most, r.b ++ [c], r.n + 1, r.cR⟩ := by
      unfold addR; rw [if_pos]; rw [hb, hm]; omega
    have hle : r.n ≤ s.most - 2 := by
      rcases Int.lt_or_le (s.most - 2) r.n with h | h
      · exact absurd (hfu h) hf
      · exact h
    have hn := hsh hle
    have hnl : ¬ s.most - 2 < r.n := by omega
    rw [hp, hr]
    refine ⟨⟨⟨h1, h2, by simp; omega⟩, hm, by simp [hb], by simp [hcr, hs], ?_, by simp; omega, by simp; omega, ?_, ?_, by simp, by simp; omega, by simp⟩, rfl⟩
    · rw [hlg]
      have : ¬ s.most - 2 < r.n + 1 := by omega
      simp [hnl, this]
    · simp only [List.length_append, List.length_cons, List.length_nil]; intro _; omega
    · simp only; intro hx; omega
theorem step_rel {s : SplitterV} {r : SplitterVx} {k : Int} (h : Rel s r k) (hk0 : 0 ≤ k) (c : UInt8) : Rel (step s c).1 (stepR r c).1 (k + 2) ∧ (step s c).2 = (stepR r c).2 := by
  by_cases hs : s.state = 2
  · have hcr : r.cR = true := by rw [h.cr]; simp [hs]
    by_cases h10 : c = 10
    · subst h10
      have e1 : step s 10 = (⟨s.most, [], 0, false⟩, some ⟨s.b, s.long⟩) := by simp [step, hs]
      have e2 : stepR r 10 = (⟨r.most, [], 0, false⟩, some ⟨r.b, decide (r.most - 2 < r.n)⟩) := by simp [stepR, hcr]
      rw [e1, e2]
      obtain ⟨⟨h1, h2, h3⟩, hm, hb, -, hlg, -⟩ := h
      refine ⟨⟨⟨h1, h2, by simp; omega⟩, hm, rfl, by simp, ?_, by simp, by simp; omega, by simp, ?_, by simp, by simp, by simp⟩, by simp [hb, hlg, hm]⟩
      · have : ¬ s.most - 2 < 0 := by omega
        simp [this]
      · simp only; intro hx; omega
    · -- the CR is put
      have hput : ∀ st : Int, put { s with state := st } 13 = put s 13 := by intro st; unfold put; rfl
      have h' : Rel { s with state := 1 } { r with cR := false } (k + 1) ∨ True := .inr trivial
      have key : Rel (put s 13) { addR r 13 with cR := false } (k + 1) ∧ (put s 13).state = 1 := by
        obtain ⟨⟨h1, h2, h3⟩, hm, hb, hc0, hlg, h0, hk, hsh, hfu, hs0, hs1, hst⟩ := h
        by_cases hf : (s.b.length : Int) = s.most - 2
        · have hp : put s 13 = ⟨s.most, s.b, 1, true⟩ := by simp [put, hf]
          have hr : addR r 13 = ⟨r.most, r.b, r.n + 1, r.cR⟩ := by
            unfold addR; rw [if_neg]; rw [hb, hm]; omega
          rw [hp, hr]
          have hgt : s.most - 2 < r.n + 1 := by
            by_cases hx : r.n ≤ s.most - 2
            · have := hsh hx; omega
            · omega
          refine ⟨⟨⟨h1, h2, h3⟩, hm, hb, by simp, by simp [hgt], by simp; omega, by simp; omega, ?_, ?_, by simp, by simp; omega, by simp⟩, rfl⟩
          · simp only; intro hx; omega
          · simp only; intro _; exact hf
        · have hp : put s 13 = ⟨s.most, s.b ++ [13], 1, s.long⟩ := by simp [put, hf]
          have hr : addR r 13 = ⟨r.most, r.b ++ [13], r.n + 1, r.cR⟩ := by
            unfold addR; rw [if_pos]; rw [hb, hm]; omega
          have hle : r.n ≤ s.most - 2 := by
            rcases Int.lt_or_le (s.most - 2) r.n with h | h
            · exact absurd (hfu h) hf
            · exact h
          have hn := hsh hle
          have hnl : ¬ s.most - 2 < r.n := by omega
          rw [hp, hr]
          refine ⟨⟨⟨h1, h2, by simp; omega⟩, hm, by simp [hb], by simp, ?_, by simp; omega, by simp; omega, ?_, ?_, by simp, by simp; omega, by simp⟩, rfl⟩
          · rw [hlg]
            have : ¬ s.most - 2 < r.n + 1 := by omega
            simp [hnl, this]
          · simp only [List.length_append, List.length_cons, List.length_nil]; intro _; omega
          · simp only; intro hx; omega
      by_cases h13 : c = 13
      · subst h13
        have e1 : step s 13 = ({ put s 13 with state := 2 }, none) := by simp [step, hs]
        have e2 : stepR r 13 = ({ addR r 13 with cR := true }, none) := by simp [stepR, hcr]
        rw [e1, e2]
        refine ⟨?_, rfl⟩
        obtain ⟨⟨h1, h2, h3⟩, hm, hb, hc0, hlg, h0, hk, hsh, hfu, hs0, hs1, hst⟩ := key.1
        exact ⟨⟨h1, h2, h3⟩, hm, hb, by simp, hlg, h0, by simp at hk ⊢; omega, hsh, hfu, by simp, by simp, by simp⟩
      · have e1 : step s c = (put (put s 13) c, none) := by simp [step, hs, h10, h13]
        have e2 : stepR r c = (addR { addR r 13 with cR := false } c, none) := by simp [stepR, hcr, h10, h13]
        rw [e1, e2]
        have := add_rel key.1 (by rw [key.2]; decide) c
        exact ⟨this.1.up (by omega), rfl⟩
  · have hcr : r.cR = false := by rw [h.cr]; simp [hs]
    by_cases h13 : c = 13
    · subst h13
      have e1 : step s 13 = ({ s with state := 2 }, none) := by simp [step, hs]
      have e2 : stepR r 13 = ({ r with cR := true }, none) := by simp [stepR, hcr]
      rw [e1, e2]
      obtain ⟨⟨h1, h2, h3⟩, hm, hb, hc0, hlg, h0, hk, hsh, hfu, hs0, hs1, hst⟩ := h
      exact ⟨⟨⟨h1, h2, h3⟩, hm, hb, by simp, hlg, h0, by simp; omega, hsh, hfu, by simp, by simp, by simp⟩, rfl⟩
    · have e1 : step s c = (put s c, none) := by simp [step, hs, h13]
      have e2 : stepR r c = (addR r c, none) := by simp [stepR, hcr, h13]
      rw [e1, e2]
      exact ⟨(add_rel h hs c).1.up (by omega), rfl⟩

theorem addx_eq {s : SplitterV} {q : ReaderVx} {k : Int} (h : Rel s q.s k) (hk : k ≤ 1000000) (c : UInt8) : ref13_Splitter_add_sx q c = some { q with s := addR q.s c } := by
  obtain ⟨h1, h2, h3⟩ := h.ok
  have h4 := h.most; have h5 := h.b; have h6 := h.nk; have h7 := h.n0
  unfold ref13_Splitter_add_sx addR
  rw [wr (by omega) (by omega), wr (by omega) (by omega)]
  have hbl : q.s.b.length ≤ 65536 := by rw [h5]; omega
  by_cases hc : (q.s.b.length : Int) < q.s.most - 2
  · simp only [hc, decide_true, if_true]
    rw [capp_ok (by simp; omega) (by omega), Option.bind_some, capp_ok (by simp; omega) (by omega)]
    rfl
  · simp [hc]
theorem putx_eq {s : SplitterV} {q : ReaderVx} {k : Int} (h : Rel s q.s k) (hk : k ≤ 900000) (c : UInt8) :
    ref13_Splitter_Put_sx q c = some (match stepR q.s c with | (r', some l) => (l, true, { q with s := r' }) | (r', none) => (⟨[], false⟩, false, { q with s := r' })) := by
  obtain ⟨h1, h2, h3⟩ := h.ok
  have h4 := h.most; have h5 := h.b; have h6 := h.nk; have h7 := h.n0
  unfold ref13_Splitter_Put_sx stepR
  by_cases hc : q.s.cR = true
  · by_cases h10 : c = 10
    · have hw : IntKind.wrap .i64 (q.s.most - 2) = q.s.most - 2 := wr (by omega) (by omega)
      simp [hc, h10, ref13_Splitter_Reset_sx, hw]
    · have ha := addx_eq h (by omega) 13
      have hsub : ∀ c, ref13_Splitter_add_sx { q with s := { addR q.s 13 with cR := false } } c = some { q with s := addR { addR q.s 13 with cR := false } c } := by
        intro c
        unfold ref13_Splitter_add_sx
        have hm : (addR q.s 13).most = q.s.most := by unfold addR; split <;> rfl
        have hn : (addR q.s 13).n = q.s.n + 1 := by unfold addR; split <;> rfl
        have hbl : (addR q.s 13).b.length ≤ 65537 := by unfold addR; split <;> simp [h5] <;> omega
        simp only
        rw [hm, hn, wr (by omega) (by omega), wr (by omega) (by omega)]
        generalize hA : addR q.s 13 = A at hm hn hbl
        unfold addR
        simp only
        by_cases hx : (A.b.length : Int) < q.s.most - 2
        · have hx2 : (A.b.length : Int) < A.most - 2 := by rw [hm]; exact hx
          simp only [hx, decide_true, if_true, hx2, hm, hn]
          rw [capp_ok (by simp; omega) (by omega), Option.bind_some, capp_ok (by simp; omega) (by omega)]
          rfl
        · have hx2 : ¬ (A.b.length : Int) < A.most - 2 := by rw [hm]; exact hx
          simp only [hx, decide_false, Bool.false_eq_true, if_false, hx2, hm, hn]
      by_cases h13 : c = 13
      · simp [hc, h13, ref13_Splitter_Put_sx_p2, ha]
      · have hsub' := hsub c
        simp only [hc, h10, h13, decide_false, Bool.and_false, Bool.false_eq_true, if_false, ref13_Splitter_Put_sx_p2, if_true, ha, Option.bind_some, and_false]
        rw [hsub']; rfl
  · have hc' : q.s.cR = false := by simpa using hc
    have ha := addx_eq h (by omega) c
    by_cases h13 : c = 13
    · simp [hc', h13, ref13_Splitter_Put_sx_p2]
    · simp [hc', h13, ref13_Splitter_Put_sx_p2, ha]
end Go.Proofs.ReplyS
