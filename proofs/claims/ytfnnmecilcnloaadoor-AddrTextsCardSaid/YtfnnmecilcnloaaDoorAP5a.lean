import Derived.Test.YtfnnmecilcnloaaDoorAP3
set_option linter.unusedSimpArgs false
set_option linter.unusedVariables false
set_option linter.unusedSectionVars false
set_option linter.defProp false
set_option maxRecDepth 100000
namespace Go.Proofs.AddrS
open Go Go.Am Go.Proofs

theorem splitD_mid (a b : List UInt8) : splitD (a ++ 46 :: b) = splitD a ++ splitD b := by
  induction a with
  | nil => simp [splitD]
  | cons c a ih =>
    simp only [List.cons_append, splitD, ih]
    by_cases hc : c = 46
    · simp [hc]
    · simp only [if_neg hc]
      cases h : splitD a with
      | nil => exact absurd h (splitD_ne a)
      | cons x t => simp
theorem mem_split (s : List UInt8) : ∀ c ∈ s, c = 46 ∨ ∃ p ∈ splitD s, c ∈ p := by
  induction s with
  | nil => simp
  | cons a r ih =>
    intro c hc
    simp only [splitD]
    rcases List.mem_cons.1 hc with rfl | hc
    · by_cases h : c = 46
      · exact .inl h
      · right
        rw [if_neg h]
        cases hs : splitD r with
        | nil => exact absurd hs (splitD_ne r)
        | cons x t => exact ⟨c :: x, by simp, by simp⟩
    · rcases ih c hc with h | ⟨p, hp, hcp⟩
      · exact .inl h
      · right
        by_cases ha : a = 46
        · rw [if_pos ha]; exact ⟨p, by simp [hp], hcp⟩
        · rw [if_neg ha]
          cases hs : splitD r with
          | nil => exact absurd hs (splitD_ne r)
          | cons x t =>
            rw [hs] at hp
            rcases List.mem_cons.1 hp with rfl | hp
            · exact ⟨a :: p, by simp, by simp [hcp]⟩
            · exact ⟨p, by simp [hp], hcp⟩
theorem inB_no {s : List UInt8} (h : s.head? ≠ some 91) : inB s = false := by
  unfold inB
  have : (s.head? == some 91) = false := by simpa using h
  rw [this]; simp
theorem inB_no' {s : List UInt8} (h : s.getLast? ≠ some 93) : inB s = false := by
  unfold inB
  have : (s.getLast? == some 93) = false := by simpa using h
  rw [this]; simp
theorem dom_bad {s : List UInt8} (hi : inB s = false) {p : List UInt8} (hp : p ∈ splitD s) (hl : labB p = false) : domB s = false := by
  unfold domB shapeB
  rw [hi]
  have : (splitD s).all labB = false := by
    rw [List.all_eq_false]
    exact ⟨p, hp, by simp [hl]⟩
  simp [this]
end Go.Proofs.AddrS
