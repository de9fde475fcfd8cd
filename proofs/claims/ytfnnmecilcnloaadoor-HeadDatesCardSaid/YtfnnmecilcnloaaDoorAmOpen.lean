import Derived.Test.YtfnnmecilcnloaaDoorAmRow
import Derived.Deep.Slices
set_option linter.unusedSimpArgs false
set_option linter.unusedVariables false
set_option linter.unusedSectionVars false
set_option linter.defProp false
namespace Go.Am
open Go Go.RowKit Go.Deep
variable [Tabs]

theorem C0_cell {W : World} {b o : Nat} {v : Value} (h : W.cell? ⟨b, o, none⟩ = some v) : o < (C0 W b).length ∧ (C0 W b).getD o undef = v := by
  unfold C0
  unfold World.cell? at h
  simp only at h
  split at h
  · rename_i cs ty fr hb
    rw [hb]
    simp only at h ⊢
    have hlt : o < cs.size := by
      rcases Nat.lt_or_ge o cs.size with h' | h'
      · exact h'
      · rw [Array.getElem?_eq_none h'] at h; cases h
    rw [Array.getElem?_eq_getElem hlt] at h
    injection h with h
    refine ⟨by simpa using hlt, ?_⟩
    rw [List.getD_eq_getElem?_getD, List.getElem?_eq_getElem (by simpa using hlt)]
    simpa using h
  · cases h

section
variable {H : Type} {enc : TypeId × Value → H} {P : Program} {W : World} {sp : Nat → Bool} {held : Bool}

/-- a slice of one-cell elements, opened -/
theorem open1 {t e : TypeId} {A : Type} (g : A → AV) {v : Value} {d : DataW H} {ps : List MemPlace} {base : Nat} {r : Reach} (ht : P.underlying t = some (.slice e)) (hc : P.cellsOf e = 1) (hval : Value.okWide P W r base t v)
    (h : DataW.Trod enc P W 0 sp held t v d ps)
    (hg : ∀ x, (g x).cells = [g x]) (he : ∀ n V y, DataW.trod enc P W 0 sp held n e [V] = some y → V.oneCell' = true ∧ ∃ x, VR (C0 W) [] (g x) V) : ∃ xs : List A, VR (C0 W) [] (.sl .n 1 (xs.map g)) v := by
  have hv : (v = .slice none 0 0) ∨ ∃ a len cap, v = .slice (some a) len cap ∧ a.spot = none := by
    unfold Value.okWide at hval
    rw [ht] at hval
    simp only [Cell.okWide, ht, Cell.ok] at hval
    cases v with
    | slice a len cap =>
      cases a with
      | none => cases len <;> cases cap <;> first | exact .inl rfl | exact hval.elim
      | some a => exact .inr ⟨a, len, cap, rfl, hval.2.2.2.1⟩
    | _ => exact hval.elim
  obtain ⟨fuel, h⟩ := h
  rcases hv with rfl | ⟨a, len, cap, rfl, hsp⟩
  · exact ⟨[], .sl0 ..⟩
  · rcases open_slice1 ht hc h with ⟨h0, -⟩ | ⟨a', len', cap', m, n, V, D, Pl, h1, hb, hl, hm, hmm, hx, hall⟩
    · simp [Value.cells] at h0
    · have h1 : a' = a ∧ len' = len ∧ cap' = cap := by simpa [Value.cells, eq_comm] using h1
      obtain ⟨rfl, rfl, rfl⟩ := h1
      have hlm : len' ≤ m := by rw [hmm]; split <;> omega
      have key : ∀ i, i < len' → ∃ x, VR (C0 W) [] (g x) (V i) := fun i hi => (he n (V i) _ (hall i (by omega)).2).2
      obtain ⟨b, o, s⟩ := a'
      simp only at hsp
      subst hsp
      have hcell : ∀ i, i < len' → o + i < (C0 W b).length ∧ (C0 W b).getD (o + i) undef = V i := fun i hi => by
        have := (hall i (by omega)).1
        rw [add_eq] at this
        exact C0_cell this
      by_cases h0 : len' = 0
      · subst h0; exact ⟨[], .sl0 ..⟩
      let f : Nat → A := fun i => if hi : i < len' then Classical.choose (key i hi) else Classical.choose (key 0 (by omega))
      have hf : ∀ i, i < len' → VR (C0 W) [] (g (f i)) (V i) := fun i hi => by
        show VR (C0 W) [] (g (if hi : i < len' then Classical.choose (key i hi) else Classical.choose (key 0 (by omega)))) (V i)
        rw [dif_pos hi]
        exact Classical.choose_spec (key i hi)
      refine ⟨(List.range len').map f, .sl _ _ _ _ _ _ _ _ (by simp) hl (fun i a hi => ?_) ?_ (fun q h1 h2 => ?_) fun i a hi j y hj => ?_⟩
      · rw [List.getElem?_map, List.getElem?_map] at hi
        cases hr : (List.range len')[i]? with
        | none => rw [hr] at hi; simp at hi
        | some q => rw [hr] at hi; simp at hi; subst hi; rw [hg]; rfl
      · have := (hcell (len' - 1) (by omega)).1; omega
      · have := hcell (q - o) (by omega)
        rw [show o + (q - o) = q by omega] at this
        rw [this.2]
        exact (he n (V (q - o)) _ (hall (q - o) (by omega)).2).1
      · rw [List.getElem?_map, List.getElem?_map] at hi
        cases hr : (List.range len')[i]? with
        | none => rw [hr] at hi; simp at hi
        | some q =>
          rw [hr] at hi
          have hq := (List.getElem?_eq_some_iff.1 hr)
          obtain ⟨hlt, hq⟩ := hq
          simp at hlt hq
          subst hq
          simp at hi
          subst hi
          rw [hg] at hj
          cases j with
          | zero =>
            simp at hj
            subst hj
            have := hcell i hlt
            rw [Nat.mul_one, Nat.add_zero, this.2]
            exact hf i hlt
          | succ j => simp at hj
end
end Go.Am
