import Derived.Test.YtndhkepeecpilaaP13
import Derived.Test.YtndhkepeecpilaaLSLineStreams
set_option linter.unusedSimpArgs false
set_option linter.unusedVariables false
set_option linter.unusedSectionVars false
set_option linter.defProp false
namespace Go.Proofs.LineS
open Go Go.Am Go.Proofs

/-! ### the document's splitter goes with the program's -/
structure Rel (s : SplitterV) (r : SplitterVx) (k : Int) : Prop where
  ok : Ok s
  most : r.most = s.most
  b : r.b = s.b
  cr : r.cR = decide (s.state = 2)
  lg : s.long = decide (s.most - 2 < r.n)
  n0 : 0 ≤ r.n
  nk : r.n ≤ k
  short : r.n ≤ s.most - 2 → r.n = s.b.length
  full : s.most - 2 < r.n → (s.b.length : Int) = s.most - 2
  st0 : s.state = 0 → r.n = 0
  st1 : s.state = 1 → 0 < r.n
  sts : s.state = 0 ∨ s.state = 1 ∨ s.state = 2
theorem Rel.up {s : SplitterV} {r : SplitterVx} {k k' : Int} (h : Rel s r k) (hk : k ≤ k') : Rel s r k' := { h with nk := by have := h.nk; omega }

def addR (r : SplitterVx) (c : UInt8) : SplitterVx := if (r.b.length : Int) < r.most - 2 then ⟨r.most, r.b ++ [c], r.n + 1, r.cR⟩ else ⟨r.most, r.b, r.n + 1, r.cR⟩
def stepR (r : SplitterVx) (c : UInt8) : SplitterVx × Option LineV :=
  if r.cR = true ∧ c = 10 then (⟨r.most, [], 0, false⟩, some ⟨r.b, decide (r.most - 2 < r.n)⟩)
  else
    let r2 := if r.cR then { addR r 13 with cR := false } else r
    if c = 13 then ({ r2 with cR := true }, none) else (addR r2 c, none)
theorem add_eq {s : SplitterV} {r : SplitterVx} {k : Int} (h : Rel s r k) (hk : k ≤ 1000000) (c : UInt8) : ref13_Splitter_add r c = some (addR r c) := by
  obtain ⟨h1, h2, h3⟩ := h.ok
  have h4 := h.most; have h5 := h.b; have h6 := h.nk; have h7 := h.n0
  unfold ref13_Splitter_add addR
  rw [wr (by omega) (by omega), wr (by omega) (by omega)]
  have hbl : r.b.length ≤ 65536 := by rw [h5]; omega
  by_cases hc : (r.b.length : Int) < r.most - 2
  · simp only [hc, decide_true, if_true]
    rw [capp_ok (by simp; omega) (by omega), Option.bind_some, capp_ok (by simp; omega) (by omega)]
    rfl
  · simp [hc]
theorem add_rel {s : SplitterV} {r : SplitterVx} {k : Int} (h : Rel s r k) (hs : s.state ≠ 2) (c : UInt8) : Rel (put s c) (addR r c) (k + 1) ∧ (put s c).state = 1 := by
  obtain ⟨⟨h1, h2, h3⟩, hm, hb, hcr, hlg, h0, hk, hsh, hfu, hs0, hs1, hst⟩ := h
  by_cases hf : (s.b.length : Int) = s.most - 2
  · have hp : put s c = ⟨s.most, s.b, 1, true⟩ := by simp [put, hf]
    have hr : addR r c = ⟨r.most, r.b, r.n + 1, r.cR⟩ := by
      unfold addR; rw [if_neg]; rw [hb, hm]; omega
    rw [hp, hr]
    have hgt : s.most - 2 < r.n + 1 := by
      by_cases hx : r.n ≤ s.most - 2
      · have := hsh hx; omega
      · omega
    refine ⟨⟨⟨h1, h2, h3⟩, hm, hb, by simp [hcr, hs], by simp [hgt], by simp; omega, by simp; omega, ?_, ?_, by simp, by simp; omega, by simp⟩, rfl⟩
    · simp only; intro hx; omega
    · simp only; intro _; exact hf
  · have hp : put s c = ⟨s.most, s.b ++ [c], 1, s.long⟩ := by simp [put, hf]
    have hr : addR r c = ⟨r.most, r.b ++ [c], r.n + 1, r.cR⟩ := by
      unfold addR; rw [if_pos]; rw [hb, hm]; omega
    have hle : r.n ≤ s.most - 2 := by
      rcases Int.lt_or_le (s.most - 2) r.n with h | h
      · exact absurd (hfu h) hf
      · exact h
    have hn := hsh hle
    have hnl : ¬ s.most - 2 < r.n := by omega
    rw [hp, hr]
    refine ⟨⟨⟨h1, h2, by simp; omega⟩, hm, by simp [hb], by simp [hcr, hs], ?_, by simp; omega, by simp; omega, ?_, ?_, by simp, by simp; omega, by simp⟩, rfl⟩
    · rw [hlg]
      have : ¬ s.most - 2 < r.n + 1 := by omega
      simp [hnl, this]
    · simp only [List.length_append, List.length_cons, List.length_nil]; intro _; omega
    · simp only; intro hx; omega
theorem putR_eq {s : SplitterV} {r : SplitterVx} {k : Int} (h : Rel s r k) (hk : k ≤ 900000) (c : UInt8) :
    ref13_Splitter_Put r c = some (match stepR r c with | (r', some l) => (l, true, r') | (r', none) => (⟨[], false⟩, false, r')) := by
  obtain ⟨h1, h2, h3⟩ := h.ok
  have h4 := h.most; have h5 := h.b; have h6 := h.nk; have h7 := h.n0
  unfold ref13_Splitter_Put stepR
  by_cases hc : r.cR = true
  · by_cases h10 : c = 10
    · have hw : IntKind.wrap .i64 (r.most - 2) = r.most - 2 := wr (by omega) (by omega)
      simp [hc, h10, ref13_Splitter_Reset, hw]
    · have hs2 : s.state = 2 := by have := h.cr; rw [hc] at this; simpa using this.symm
      have ha := add_eq h (by omega) 13
      -- behind the CR
      have hsub : ∀ c, ref13_Splitter_add { addR r 13 with cR := false } c = some (addR { addR r 13 with cR := false } c) := by
        intro c
        unfold ref13_Splitter_add
        have hm : (addR r 13).most = r.most := by unfold addR; split <;> rfl
        have hn : (addR r 13).n = r.n + 1 := by unfold addR; split <;> rfl
        have hbl : (addR r 13).b.length ≤ 65537 := by unfold addR; split <;> simp [h5] <;> omega
        simp only
        rw [hm, hn, wr (by omega) (by omega), wr (by omega) (by omega)]
        unfold addR
        simp only
        by_cases hx : ((addR r 13).b.length : Int) < r.most - 2
        · have hx2 : ((addR r 13).b.length : Int) < (addR r 13).most - 2 := by rw [hm]; exact hx
          simp only [addR] at hx hx2 hbl hm hn ⊢
          simp only [hx, decide_true, if_true]
          rw [capp_ok (by simp; omega) (by omega), Option.bind_some, capp_ok (by simp; omega) (by omega)]
          simp only [Option.bind_some, hx2, if_true, hm, hn]
          rfl
        · have hx2 : ¬ ((addR r 13).b.length : Int) < (addR r 13).most - 2 := by rw [hm]; exact hx
          simp only [addR] at hx hx2 hm hn ⊢
          simp only [hx, decide_false, Bool.false_eq_true, if_false, hx2, hm, hn]
      by_cases h13 : c = 13
      · simp [hc, h13, ref13_Splitter_Put_p2, ha]
      · simp [hc, h10, h13, ref13_Splitter_Put_p2, ha, hsub]
  · have hc' : r.cR = false := by simpa using hc
    have ha := add_eq h (by omega) c
    by_cases h13 : c = 13
    · simp [hc', h13, ref13_Splitter_Put_p2]
    · simp [hc', h13, ref13_Splitter_Put_p2, ha]
theorem step_rel {s : SplitterV} {r : SplitterVx} {k : Int} (h : Rel s r k) (hk0 : 0 ≤ k) (c : UInt8) : Rel (step s c).1 (stepR r c).1 (k + 2) ∧ (step s c).2 = (stepR r c).2 := by
  by_cases hs : s.state = 2
  · have hcr : r.cR = true := by rw [h.cr]; simp [hs]
    by_cases h10 : c = 10
    · subst h10
      have e1 : step s 10 = (⟨s.most, [], 0, false⟩, some ⟨s.b, s.long⟩) := by simp [step, hs]
      have e2 : stepR r 10 = (⟨r.most, [], 0, false⟩, some ⟨r.b, decide (r.most - 2 < r.n)⟩) := by simp [stepR, hcr]
      rw [e1, e2]
      obtain ⟨⟨h1, h2, h3⟩, hm, hb, -, hlg, -⟩ := h
      refine ⟨⟨⟨h1, h2, by simp; omega⟩, hm, rfl, by simp, ?_, by simp, by simp; omega, by simp, ?_, by simp, by simp, by simp⟩, by simp [hb, hlg, hm]⟩
      · have : ¬ s.most - 2 < 0 := by omega
        simp [this]
      · simp only; intro hx; omega
    · -- the CR is put
      have hput : ∀ st : Int, put { s with state := st } 13 = put s 13 := by intro st; unfold put; rfl
      have h' : Rel { s with state := 1 } { r with cR := false } (k + 1) ∨ True := .inr trivial
      have key : Rel (put s 13) { addR r 13 with cR := false } (k + 1) ∧ (put s 13).state = 1 := by
        obtain ⟨⟨h1, h2, h3⟩, hm, hb, hc0, hlg, h0, hk, hsh, hfu, hs0, hs1, hst⟩ := h
        by_cases hf : (s.b.length : Int) = s.most - 2
        · have hp : put s 13 = ⟨s.most, s.b, 1, true⟩ := by simp [put, hf]
          have hr : addR r 13 = ⟨r.most, r.b, r.n + 1, r.cR⟩ := by
            unfold addR; rw [if_neg]; rw [hb, hm]; omega
          rw [hp, hr]
          have hgt : s.most - 2 < r.n + 1 := by
            by_cases hx : r.n ≤ s.most - 2
            · have := hsh hx; omega
            · omega
          refine ⟨⟨⟨h1, h2, h3⟩, hm, hb, by simp, by simp [hgt], by simp; omega, by simp; omega, ?_, ?_, by simp, by simp; omega, by simp⟩, rfl⟩
          · simp only; intro hx; omega
          · simp only; intro _; exact hf
        · have hp : put s 13 = ⟨s.most, s.b ++ [13], 1, s.long⟩ := by simp [put, hf]
          have hr : addR r 13 = ⟨r.most, r.b ++ [13], r.n + 1, r.cR⟩ := by
            unfold addR; rw [if_pos]; rw [hb, hm]; omega
          have hle : r.n ≤ s.most - 2 := by
            rcases Int.lt_or_le (s.most - 2) r.n with h | h
            · exact absurd (hfu h) hf
            · exact h
          have hn := hsh hle
          have hnl : ¬ s.most - 2 < r.n := by omega
          rw [hp, hr]
          refine ⟨⟨⟨h1, h2, by simp; omega⟩, hm, by simp [hb], by simp, ?_, by simp; omega, by simp; omega, ?_, ?_, by simp, by simp; omega, by simp⟩, rfl⟩
          · rw [hlg]
            have : ¬ s.most - 2 < r.n + 1 := by omega
            simp [hnl, this]
          · simp only [List.length_append, List.length_cons, List.length_nil]; intro _; omega
          · simp only; intro hx; omega
      by_cases h13 : c = 13
      · subst h13
        have e1 : step s 13 = ({ put s 13 with state := 2 }, none) := by simp [step, hs]
        have e2 : stepR r 13 = ({ addR r 13 with cR := true }, none) := by simp [stepR, hcr]
        rw [e1, e2]
        refine ⟨?_, rfl⟩
        obtain ⟨⟨h1, h2, h3⟩, hm, hb, hc0, hlg, h0, hk, hsh, hfu, hs0, hs1, hst⟩ := key.1
        exact ⟨⟨h1, h2, h3⟩, hm, hb, by simp, hlg, h0, by simp at hk ⊢; omega, hsh, hfu, by simp, by simp, by simp⟩
      · have e1 : step s c = (put (put s 13) c, none) := by simp [step, hs, h10, h13]
        have e2 : stepR r c = (addR { addR r 13 with cR := false } c, none) := by simp [stepR, hcr, h10, h13]
        rw [e1, e2]
        have := add_rel key.1 (by rw [key.2]; decide) c
        exact ⟨this.1.up (by omega), rfl⟩
  · have hcr : r.cR = false := by rw [h.cr]; simp [hs]
    by_cases h13 : c = 13
    · subst h13
      have e1 : step s 13 = ({ s with state := 2 }, none) := by simp [step, hs]
      have e2 : stepR r 13 = ({ r with cR := true }, none) := by simp [stepR, hcr]
      rw [e1, e2]
      obtain ⟨⟨h1, h2, h3⟩, hm, hb, hc0, hlg, h0, hk, hsh, hfu, hs0, hs1, hst⟩ := h
      exact ⟨⟨⟨h1, h2, h3⟩, hm, hb, by simp, hlg, h0, by simp; omega, hsh, hfu, by simp, by simp, by simp⟩, rfl⟩
    · have e1 : step s c = (put s c, none) := by simp [step, hs, h13]
      have e2 : stepR r c = (addR r c, none) := by simp [stepR, hcr, h13]
      rw [e1, e2]
      exact ⟨(add_rel h hs c).1.up (by omega), rfl⟩
theorem feedR_loop {b : List UInt8} (hb : b.length ≤ 100000) : ∀ (rest : List UInt8) (i : Nat) (s : SplitterV) (r : SplitterVx) (k : Int) (out : List LineV) (F : Nat), b.drop i = rest → i ≤ b.length → Rel s r k → 0 ≤ k → k + 2 * rest.length ≤ 800000 →
    out.length + rest.length ≤ 1000000 → rest.length < F →
    ∃ r', iter (ref13_Splitter_Feed_l1 b) F (out, (i : Int), r) = some (.inr (out ++ (feed s rest).2, r')) ∧ Rel (feed s rest).1 r' (k + 2 * rest.length) := by
  intro rest
  induction rest with
  | nil =>
    intro i s r k out F hd hi h hk0 hk ho hF
    obtain ⟨G, rfl⟩ := F_succ hF
    have := drop_nil_ge hd
    refine ⟨r, ?_, by simpa [feed] using h⟩
    refine iter_brk ?_
    have hn : ¬ (i : Int) < b.length := by omega
    simp [ref13_Splitter_Feed_l1, hn, feed]
  | cons c t ih =>
    intro i s r k out F hd hi h hk0 hk ho hF
    obtain ⟨G, rfl⟩ := F_succ hF
    obtain ⟨h1, h2, h3⟩ := drop_cons hd
    simp only [List.length_cons] at hk ho hF
    have hp := putR_eq h (by omega) c
    obtain ⟨hr, he⟩ := step_rel h hk0 c
    have hlt : (i : Int) < b.length := by omega
    have hw : IntKind.wrap .i64 ((i : Int) + 1) = ((i + 1 : Nat) : Int) := by rw [wr (by omega) (by omega)]; rfl
    simp only [feed]
    rcases hx : stepR r c with ⟨r', _ | l⟩
    · simp only [hx] at hp hr he
      rw [he]
      obtain ⟨r2, g1, g2⟩ := ih (i + 1) _ r' (k + 2) out G h3 (by omega) hr (by omega) (by omega) (by omega) (by omega)
      refine ⟨r2, ?_, by simp only [List.length_cons]; exact g2.up (by omega)⟩
      rw [iter_nxt (s' := (out, ((i + 1 : Nat) : Int), r')) (by simp [ref13_Splitter_Feed_l1, hlt, idx_get h2, hp, hw])]
      exact g1
    · simp only [hx] at hp hr he
      rw [he]
      obtain ⟨r2, g1, g2⟩ := ih (i + 1) _ r' (k + 2) (out ++ [l]) G h3 (by omega) hr (by omega) (by omega) (by simp; omega) (by omega)
      refine ⟨r2, ?_, by simp only [List.length_cons]; exact g2.up (by omega)⟩
      rw [iter_nxt (s' := (out ++ [l], ((i + 1 : Nat) : Int), r')) (by simp [ref13_Splitter_Feed_l1, hlt, idx_get h2, hp, hw, capp_ok (b := 24) (xs := out) (ys := [l]) (by simp; omega) (by omega)])]
      rw [g1]; simp
theorem feedR_eq {s : SplitterV} {r : SplitterVx} {k : Int} {b : List UInt8} {F : Nat} (h : Rel s r k) (hk0 : 0 ≤ k) (hb : b.length ≤ 100000) (hk : k + 2 * b.length ≤ 800000) (hF : b.length < F) :
    ∃ r', ref13_Splitter_Feed F r b = some ((feed s b).2, r') ∧ Rel (feed s b).1 r' (k + 2 * b.length) := by
  obtain ⟨r', h1, h2⟩ := feedR_loop hb b 0 s r k [] F rfl (Nat.zero_le _) h hk0 hk (by simp; omega) hF
  refine ⟨r', ?_, h2⟩
  unfold ref13_Splitter_Feed
  rw [show (0 : Int) = ((0 : Nat) : Int) from rfl, h1]
  simp
theorem heldR_eq {s : SplitterV} {r : SplitterVx} {k : Int} (h : Rel s r k) : ref13_Splitter_Held r = some (held s) := by
  obtain ⟨h1, h2, h3⟩ := h.ok
  unfold ref13_Splitter_Held held
  rw [h.cr, h.b]
  by_cases hc : s.state = 2
  · simp [hc]; exact wr (by omega) (by omega)
  · simp [hc]
theorem mostR {s : SplitterV} {r : SplitterVx} {k : Int} (h : Rel s r k) (hk0 : 0 ≤ k) (n : Int) : ∃ v s' r', line_Splitter_Most s n = some (v, s') ∧ ref13_Splitter_Set r n = some (v, r') ∧ Rel s' r' k := by
  obtain ⟨h1, h2, h3⟩ := h.ok
  have hcr := h.cr
  have hn0 := h.n0
  unfold line_Splitter_Most line_Splitter_Most_p1 ref13_Splitter_Set ref13_Splitter_Set_p1 line_may ref13_Right
  simp only [Option.bind_some]
  by_cases hn : 2 ≤ n ∧ n ≤ 65536
  · obtain ⟨hn1, hn2⟩ := hn
    simp only [hn1, hn2, decide_true, Bool.and_self, Bool.not_true, Bool.false_eq_true, if_false]
    rcases h.sts with hs | hs | hs
    · have hz := h.st0 hs
      have hcr' : r.cR = false := by rw [hcr]; simp [hs]
      refine ⟨true, { s with most := n }, { r with most := n }, by simp [hs], by simp [hz, hcr'], ?_⟩
      have hb0 : (s.b.length : Int) = 0 := by have := h.short (by omega); omega
      have hlg : s.long = false := by rw [h.lg]; simp; omega
      refine ⟨⟨hn1, hn2, by simp; omega⟩, rfl, h.b, hcr, ?_, h.n0, h.nk, ?_, ?_, h.st0, h.st1, h.sts⟩
      · simp only; rw [hlg]; simp; omega
      · simp only; intro _; omega
      · simp only; intro hx; omega
    · have hp := h.st1 hs
      exact ⟨false, s, r, by simp [hs], by simp [hp], h⟩
    · have hcr' : r.cR = true := by rw [hcr]; simp [hs]
      refine ⟨false, s, r, by simp [hs], ?_, h⟩
      by_cases hp : 0 < r.n <;> simp [hp, hcr']
  · have hf : (decide (2 ≤ n) && decide (n ≤ 65536)) = false := by
      rw [Bool.and_eq_false_iff, decide_eq_false_iff_not, decide_eq_false_iff_not]; omega
    exact ⟨false, s, r, by simp [hf], by simp [hf], h⟩
theorem resetR {s : SplitterV} {r : SplitterVx} {k : Int} (h : Rel s r k) (hk0 : 0 ≤ k) : ∃ s' r', line_Splitter_Reset s = some s' ∧ ref13_Splitter_Reset r = some r' ∧ Rel s' r' k := by
  obtain ⟨h1, h2, h3⟩ := h.ok
  refine ⟨_, _, rfl, rfl, ⟨h1, h2, by simp; omega⟩, h.most, rfl, by simp, ?_, by simp, hk0, by simp, ?_, by simp, by simp, by simp⟩
  · simp; omega
  · simp only; intro hx; omega
theorem same13_eq {l : List LineV} (hl : l.length ≤ 1000000) {F : Nat} (hF : l.length < F) : law13_same F l l = some true := by
  obtain ⟨o, h1, h2⟩ := iter_inv (body := law13_same_l1 l l) (fun x => ∃ n : Nat, x = (false, (n : Int)) ∧ n ≤ l.length) (fun x => l.length - x.2.toNat) (fun o => o = .inr ()) (by
    rintro _ ⟨n, rfl, hn⟩
    unfold law13_same_l1
    by_cases hlt : n < l.length
    · refine .inr (.inr ⟨(false, ((n + 1 : Nat) : Int)), ?_, ⟨n + 1, rfl, by omega⟩, by simp; omega⟩)
      have h : (n : Int) < l.length := by omega
      simp only [h, decide_true, if_true, idx_lt hlt, Option.bind_some]
      rw [wr (by omega) (by omega)]
      simp
    · refine .inr (.inl ⟨(), ?_, rfl⟩)
      have h : ¬ (n : Int) < l.length := by omega
      simp [h]) F (false, 0) ⟨0, rfl, Nat.zero_le _⟩ (by simpa using hF)
  unfold law13_same
  simp only [decide_true, Bool.not_true, Bool.false_eq_true, if_false]
  rw [h1, h2]; rfl
theorem nexts_loop {F : Nat} : ∀ (n : Nat) (b : List UInt8) (out : List LineV) (kk : Nat) (s : SplitterV) (G : Nat), b.length ≤ n → n < G → n < F → Ok s → out.length + n ≤ 4096 → kk + n ≤ 4096 →
    iter (law13_nexts_l1 F) G (b, out, (kk : Int), s) = some (.inl (out ++ (feed s b).2, true, (feed s b).1)) := by
  intro n
  induction n with
  | zero =>
    intro b out kk s G hb hG hF hk ho hkk
    obtain ⟨G, rfl⟩ := F_succ hG
    obtain rfl : b = [] := List.eq_nil_of_length_eq_zero (by omega)
    refine iter_ret ?_
    have : (kk : Int) ≤ 4096 := by omega
    simp [law13_nexts_l1, this, next_eq hk (b := []) (by simp) (by simpa using hF), next, feed]
  | succ n ih =>
    intro b out kk s G hb hG hF hk ho hkk
    obtain ⟨G, rfl⟩ := F_succ hG
    have hn := next_eq hk (b := b) (F := F) (by omega) (by omega)
    have hfn := feed_next b s
    have h4 : (kk : Int) ≤ 4096 := by omega
    rcases hx : next s b with ⟨s', _ | ⟨l, q⟩⟩
    · simp only [hx] at hn hfn
      refine iter_ret ?_
      simp [law13_nexts_l1, h4, hn, hfn]
    · simp only [hx] at hn hfn
      obtain ⟨hlt, p, hp⟩ := next_lt b s s' l q hx
      have hk' : Ok s' := by have := next_okS (bs := b) hk; rwa [hx] at this
      have hp2 : law13_nexts_p2 b q = some false := by
        unfold law13_nexts_p2
        have h1 : ¬ (b.length : Int) ≤ q.length := by omega
        simp only [h1, decide_false, Bool.false_eq_true, if_false]
        rw [wr (by omega) (by omega), show (b.length : Int) - q.length = ((b.length - q.length : Nat) : Int) by omega, sub_end (by omega)]
        have h2 : b.drop (b.length - q.length) = q := by
          rw [hp, List.length_append, Nat.add_sub_cancel]; simp
        simp [h2]
      have hw : IntKind.wrap .i64 ((kk : Int) + 1) = ((kk + 1 : Nat) : Int) := by rw [wr (by omega) (by omega)]; rfl
      rw [iter_nxt (s' := (q, out ++ [l], ((kk + 1 : Nat) : Int), s')) (by simp [law13_nexts_l1, h4, hn, hp2, hw, capp_ok (b := 24) (xs := out) (ys := [l]) (by simp; omega) (by omega)])]
      rw [ih q (out ++ [l]) (kk + 1) s' G (by omega) (by omega) (by omega) hk' (by simp; omega) (by omega), hfn]
      simp
theorem nexts_eq {F : Nat} {s : SplitterV} {b : List UInt8} (h : Ok s) (hb : b.length ≤ 4096) (hF : b.length < F) : law13_nexts F s b = some ((feed s b).2, true, (feed s b).1) := by
  unfold law13_nexts
  rw [show (0 : Int) = ((0 : Nat) : Int) from rfl, nexts_loop b.length b [] 0 s F (Nat.le_refl _) hF hF h (by simp; omega) (by omega)]
  simp

/-! ### LineStreams -/
def total (l : List PieceV) : Nat := (l.map fun x => x.b.length).sum
theorem few_loop {l : List PieceV} (hl : l.length ≤ 300) : ∀ (rest : List PieceV) (i : Nat) (nn : Nat) (F : Nat), l.drop i = rest → i ≤ l.length → nn ≤ 4096 * i → rest.length < F →
    ∃ o, iter (law13_few_l1 l) F (false, (nn : Int), (i : Int)) = some o ∧ (o = .inl false ∨ (o = .inr ((nn + total rest : Nat) : Int) ∧ ∀ x ∈ rest, x.b.length ≤ 4096)) := by
  intro rest
  induction rest with
  | nil =>
    intro i nn F hd hi hnn hF
    obtain ⟨G, rfl⟩ := F_succ hF
    have := drop_nil_ge hd
    have hn : ¬ (i : Int) < l.length := by omega
    exact ⟨_, iter_brk (t := (nn : Int)) (by simp [law13_few_l1, hn]), .inr ⟨by simp [total], by simp⟩⟩
  | cons x t ih =>
    intro i nn F hd hi hnn hF
    obtain ⟨G, rfl⟩ := F_succ hF
    obtain ⟨h1, h2, h3⟩ := drop_cons hd
    simp only [List.length_cons] at hF
    have hlt : (i : Int) < l.length := by omega
    by_cases hb : 4096 < (x.b.length : Int)
    · exact ⟨_, iter_ret (r := false) (by simp [law13_few_l1, hlt, idx_get h2, hb]), .inl rfl⟩
    · have hw : IntKind.wrap .i64 ((i : Int) + 1) = ((i + 1 : Nat) : Int) := by rw [wr (by omega) (by omega)]; rfl
      have hw2 : IntKind.wrap .i64 ((nn : Int) + (x.b.length : Int)) = ((nn + x.b.length : Nat) : Int) := by rw [wr (by omega) (by omega)]; rfl
      obtain ⟨o, g1, g2⟩ := ih (i + 1) (nn + x.b.length) G h3 (by omega) (by omega) (by omega)
      refine ⟨o, ?_, ?_⟩
      · rw [iter_nxt (s' := (false, ((nn + x.b.length : Nat) : Int), ((i + 1 : Nat) : Int))) (by simp only [law13_few_l1, hlt, decide_true, if_true, idx_get h2, Option.bind_some, hb, decide_false, Bool.false_eq_true, if_false, hw, hw2])]
        exact g1
      · rcases g2 with g2 | ⟨g2, g3⟩
        · exact .inl g2
        · refine .inr ⟨?_, ?_⟩
          · rw [g2]; simp [total, Nat.add_assoc]
          · intro y hy
            rcases List.mem_cons.1 hy with rfl | hy
            · omega
            · exact g3 y hy
theorem few_eq (l : List PieceV) (F : Nat) (hF : l.length < F) : ∃ v, law13_few F l = some v ∧ (v = true → l.length ≤ 300 ∧ total l ≤ 4096) := by
  unfold law13_few
  by_cases h : 300 < (l.length : Int)
  · exact ⟨false, by simp [h], by simp⟩
  · obtain ⟨o, h1, h2⟩ := few_loop (l := l) (by omega) l 0 0 F rfl (Nat.zero_le _) (by omega) hF
    simp only [h, decide_false, Bool.false_eq_true, if_false]
    rw [show (0 : Int) = ((0 : Nat) : Int) from rfl, h1]
    rcases h2 with rfl | ⟨rfl, h3⟩
    · exact ⟨false, rfl, by simp⟩
    · refine ⟨_, rfl, fun hv => ⟨by omega, ?_⟩⟩
      have := of_decide_eq_true hv
      omega
theorem total_get {l : List PieceV} {i : Nat} {x : PieceV} (h : l[i]? = some x) : total (l.drop i) = x.b.length + total (l.drop (i + 1)) ∧ total (l.drop i) ≤ total l := by
  have hlt := (List.getElem?_eq_some_iff.1 h).1
  have hd : l.drop i = x :: l.drop (i + 1) := by
    rw [List.drop_eq_getElem_cons hlt]; congr 1; exact (List.getElem?_eq_some_iff.1 h).2
  refine ⟨by rw [hd]; simp [total], ?_⟩
  have : total l = total (l.take i) + total (l.drop i) := by
    conv => lhs; rw [← List.take_append_drop i l]
    simp only [total, List.map_append, List.sum_append]
  omega
theorem streams_p3 {F : Nat} {s : SplitterV} {r : SplitterVx} {k : Int} {l : List PieceV} {i : Nat} {x : PieceV} (h : Rel s r k) (hk0 : 0 ≤ k) (hx : l[i]? = some x) (hb : x.b.length ≤ 4096) (hk : k + 2 * x.b.length ≤ 800000) (hF : 4096 < F) :
    ∃ r', law13_LineStreams_p3 F true r l (i : Int) (feed s x.b).2 = some (false, r') ∧ Rel (feed s x.b).1 r' (k + 2 * x.b.length) := by
  obtain ⟨r', g1, g2⟩ := feedR_eq (F := F) h hk0 (by omega) hk (by omega)
  refine ⟨r', ?_, g2⟩
  have hl := feed_len x.b s
  unfold law13_LineStreams_p3
  simp only [Bool.not_true, Bool.false_eq_true, if_false, idx_get hx, Option.bind_some, g1]
  rw [same13_eq (by omega) (by omega)]
  rfl
theorem streams_p4 {F : Nat} {s : SplitterV} {r : SplitterVx} {k : Int} {l : List PieceV} {i : Nat} {x : PieceV} (h : Rel s r k) (hk0 : 0 ≤ k) (hx : l[i]? = some x) (hb : x.b.length ≤ 4096) (hk : k + 2 * x.b.length ≤ 800000) (hF : 4096 < F) :
    ∃ s' r', law13_LineStreams_p4 F x l (i : Int) s r = some (.nxt (s', r')) ∧ Rel s' r' (k + 2 * x.b.length) := by
  unfold law13_LineStreams_p4
  have hl := feed_len x.b s
  by_cases h1 : x.kind = 1
  · obtain ⟨r', g1, g2⟩ := streams_p3 h hk0 hx hb hk hF
    refine ⟨_, r', ?_, g2⟩
    simp only [h1, decide_true, if_true, idx_get hx, Option.bind_some]
    rw [nexts_eq h.ok hb (by omega)]
    simp only [Option.bind_some, g1, Bool.false_eq_true, if_false]
  · simp only [h1, decide_false, Bool.false_eq_true, if_false]
    by_cases h2 : x.kind = 2
    · obtain ⟨v, s', r', g1, g2, g3⟩ := mostR h hk0 x.n
      refine ⟨s', r', ?_, g3.up (by omega)⟩
      simp [h2, idx_get hx, g1, g2]
    · simp only [h2, decide_false, Bool.false_eq_true, if_false]
      by_cases h3 : x.kind = 3
      · obtain ⟨s', r', g1, g2, g3⟩ := resetR h hk0
        refine ⟨s', r', ?_, g3.up (by omega)⟩
        simp [h3, g1, g2]
      · simp only [h3, decide_false, Bool.false_eq_true, if_false, idx_get hx, Option.bind_some]
        obtain ⟨r', g1, g2⟩ := feedR_eq (F := F) h hk0 (by omega) hk (by omega)
        refine ⟨_, r', ?_, g2⟩
        rw [feed_eq h.ok (by omega) (by omega)]
        simp only [Option.bind_some, g1]
        rw [same13_eq (by omega) (by omega)]
        rfl
theorem start_rel {m : Int} (h1 : 2 ≤ m) (h2 : m ≤ 65536) : Rel (start m) ⟨m, [], 0, false⟩ 0 := by
  refine ⟨start_ok h1 h2, rfl, rfl, rfl, ?_, by simp, by simp, by simp [start], ?_, by simp, by simp [start], by simp [start]⟩
  · have : ¬ (start m).most - 2 < 0 := by simp only [start]; omega
    simp only [this, decide_false]; rfl
  · simp only [start]; intro hx; omega
theorem streams_law (m : Int) (l : List PieceV) : ∃ F, law13_LineStreams F m l = some true := by
  refine ⟨(l.length + 10000) + 100, ?_⟩
  unfold law13_LineStreams
  obtain ⟨v, hv, hfew⟩ := few_eq l (l.length + 10000 + 100) (by omega)
  simp only [known_eq, hv, Option.bind_some, Bool.not_true, Bool.false_eq_true, if_false]
  cases v with
  | false => rfl
  | true =>
    obtain ⟨hl, ht⟩ := hfew rfl
    simp only [Bool.not_true, Bool.false_eq_true, if_false]
    by_cases hm : 2 ≤ m ∧ m ≤ 65536
    case neg =>
      have hf : (decide (2 ≤ m) && decide (m ≤ 65536)) = false := by
        rw [Bool.and_eq_false_iff, decide_eq_false_iff_not, decide_eq_false_iff_not]; omega
      simp [new_no hm, ref13_Right, hf]
    obtain ⟨hm1, hm2⟩ := hm
    simp only [new_eq hm1 hm2, ref13_Right, hm1, hm2, decide_true, Bool.and_self, Option.bind_some, Bool.not_true, Bool.false_eq_true, if_false]
    obtain ⟨o, h1, h2⟩ := iter_inv (body := law13_LineStreams_l1 (l.length + 10000 + 100) l) (fun x => ∃ (i : Nat) (s : SplitterV) (r : SplitterVx), i ≤ l.length ∧ x = ((i : Int), s, r) ∧ Rel s r (2 * ((total l : Int) - (total (l.drop i) : Int))) ∧ total (l.drop i) ≤ total l)
      (fun x => l.length - x.1.toNat) (fun o => ∃ q, o = .inr q) (by
      rintro _ ⟨i, s, r, hi, rfl, hrel, hle⟩
      unfold law13_LineStreams_l1
      by_cases hlt : i < l.length
      · have h : (i : Int) < l.length := by omega
        have hx : l[i]? = some l[i] := List.getElem?_eq_getElem hlt
        generalize l[i] = x at hx
        obtain ⟨t1, t2⟩ := total_get hx
        obtain ⟨s', r', g1, g2⟩ := streams_p4 (F := l.length + 10000 + 100) hrel (by omega) hx (by omega) (by omega) (by omega)
        refine .inr (.inr ⟨(((i + 1 : Nat) : Int), s', r'), ?_, ⟨i + 1, s', r', by omega, rfl, g2.up (by omega), by omega⟩, by simp; omega⟩)
        simp only [h, decide_true, if_true, idx_get hx, Option.bind_some, g1, held_eq g2.ok, heldR_eq g2, Bool.not_true, Bool.false_eq_true, if_false]
        rw [wr (by omega) (by omega)]
        rfl
      · have h : ¬ (i : Int) < l.length := by omega
        exact .inr (.inl ⟨(s, r), by simp [h], _, rfl⟩)) (l.length + 10000 + 100) (0, start m, ⟨m, [], 0, false⟩) ⟨0, _, _, Nat.zero_le _, rfl, by simpa using start_rel hm1 hm2, by simp⟩ (by simp; omega)
    obtain ⟨q, rfl⟩ := h2
    rw [h1]
    rfl
end Go.Proofs.LineS
