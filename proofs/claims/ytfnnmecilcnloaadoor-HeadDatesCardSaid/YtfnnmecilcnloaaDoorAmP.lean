import Derived.Test.YtfnnmecilcnloaaDoorAmW
set_option linter.unusedSimpArgs false
set_option linter.unusedVariables false
set_option linter.unusedSectionVars false
set_option linter.defProp false
namespace Go.Am
open Go

/-! ### plain facts about the words of printed functions -/
theorem wr {n : Int} (h1 : -9223372036854775808 ≤ n) (h2 : n ≤ 9223372036854775807) : IntKind.wrap .i64 n = n := by
  simp only [IntKind.wrap, IntKind.bits, IntKind.signed, Bool.true_and, decide_eq_true_eq, Int.reducePow, Nat.reduceSub, ge_iff_le]
  split <;> omega
theorem idx_nat {α : Type} (l : List α) (n : Nat) : idx l (n : Int) = l[n]? := by simp [idx]
theorem idx_get {α : Type} {l : List α} {n : Nat} {x : α} (h : l[n]? = some x) : idx l (n : Int) = some x := by rw [idx_nat, h]
theorem idx_lt {α : Type} {l : List α} {n : Nat} (h : n < l.length) : idx l (n : Int) = some l[n] := by rw [idx_nat, List.getElem?_eq_getElem h]
theorem idx_ex {α : Type} {l : List α} {i : Int} (h0 : 0 ≤ i) (h1 : i < l.length) : ∃ x, idx l i = some x ∧ l[i.toNat]? = some x := by
  obtain ⟨n, rfl⟩ := Int.eq_ofNat_of_zero_le h0
  have hn : n < l.length := by omega
  exact ⟨l[n], idx_lt hn, by simp [List.getElem?_eq_getElem hn]⟩
theorem sub_ok {α : Type} {l : List α} {i j : Nat} (h : i ≤ j) (h2 : j ≤ l.length) : sub l (i : Int) (j : Int) = some ((l.take j).drop i) := by
  unfold sub; rw [if_pos (by omega)]; simp
theorem sub_end {α : Type} {l : List α} {i : Nat} (h : i ≤ l.length) : sub l (i : Int) (l.length : Int) = some (l.drop i) := by
  rw [sub_ok h (Nat.le_refl _), List.take_length]
theorem sub_to {α : Type} {l : List α} {j : Nat} (h : j ≤ l.length) : sub l 0 (j : Int) = some (l.take j) := by
  have := sub_ok (l := l) (i := 0) (Nat.zero_le j) h
  simpa using this
theorem sub_len {α : Type} {l : List α} {i : Int} (h0 : 0 ≤ i) (h : i ≤ l.length) : sub l i (l.length : Int) = some (l.drop i.toNat) := by
  obtain ⟨n, rfl⟩ := Int.eq_ofNat_of_zero_le h0
  rw [sub_end (by omega)]; simp
theorem sub_one {α : Type} {l : List α} {c : α} {r : List α} (h : l = c :: r) : sub l 1 (l.length : Int) = some r := by
  have := sub_end (l := l) (i := 1) (by rw [h]; simp)
  rw [h] at this ⊢; simpa using this
theorem capp_ok {α : Type} {b : Nat} {xs ys : List α} (h : xs.length + ys.length ≤ 1000000000) (hb : b ≤ 1000) : capp b xs ys = some (xs ++ ys) := by
  unfold capp
  rw [if_pos]
  refine ⟨?_, by omega⟩
  calc (xs.length + ys.length) * b ≤ 1000000000 * 1000 := Nat.mul_le_mul h hb
    _ ≤ _ := by omega
theorem cat_ok {l m : List UInt8} (h : l.length + m.length ≤ 1000000000) : cat l m = some (l ++ m) := by
  unfold cat; rw [if_pos (by omega)]

theorem iter_nxt {ρ τ σ : Type} {body : σ → Option (St ρ τ σ)} {F : Nat} {s s' : σ} (h : body s = some (.nxt s')) : iter body (F + 1) s = iter body F s' := by simp only [iter, h]
theorem iter_brk {ρ τ σ : Type} {body : σ → Option (St ρ τ σ)} {F : Nat} {s : σ} {t : τ} (h : body s = some (.brk t)) : iter body (F + 1) s = some (.inr t) := by simp only [iter, h]
theorem iter_ret {ρ τ σ : Type} {body : σ → Option (St ρ τ σ)} {F : Nat} {s : σ} {r : ρ} (h : body s = some (.ret r)) : iter body (F + 1) s = some (.inl r) := by simp only [iter, h]
/-- a loop: what holds at its head, a number that falls; what it comes to -/
theorem iter_inv {ρ τ σ : Type} {body : σ → Option (St ρ τ σ)} (I : σ → Prop) (m : σ → Nat) (post : ρ ⊕ τ → Prop)
    (step : ∀ s, I s → (∃ r, body s = some (.ret r) ∧ post (.inl r)) ∨ (∃ t, body s = some (.brk t) ∧ post (.inr t)) ∨ ∃ s', body s = some (.nxt s') ∧ I s' ∧ m s' < m s) :
    ∀ (F : Nat) (s : σ), I s → m s < F → ∃ o, iter body F s = some o ∧ post o := by
  intro F
  induction F with
  | zero => intro s _ h; omega
  | succ F ih =>
    intro s hI hm
    rcases step s hI with ⟨r, h, hp⟩ | ⟨t, h, hp⟩ | ⟨s', h, hI', hlt⟩
    · exact ⟨_, iter_ret h, hp⟩
    · exact ⟨_, iter_brk h, hp⟩
    · obtain ⟨o, ho, hp⟩ := ih s' hI' (by omega)
      exact ⟨o, by rw [iter_nxt h]; exact ho, hp⟩
theorem drop_cons {α : Type} {l r : List α} {i : Nat} {c : α} (h : l.drop i = c :: r) : i < l.length ∧ l[i]? = some c ∧ l.drop (i + 1) = r := by
  have hlt : i < l.length := by
    rcases Nat.lt_or_ge i l.length with h1 | h1
    · exact h1
    · rw [List.drop_eq_nil_of_le h1] at h; cases h
  rw [List.drop_eq_getElem_cons hlt] at h
  injection h with h1 h2
  exact ⟨hlt, by rw [List.getElem?_eq_getElem hlt, h1], h2⟩
theorem drop_nil_ge {α : Type} {l : List α} {i : Nat} (h : l.drop i = []) : l.length ≤ i := List.drop_eq_nil_iff.1 h
theorem F_succ {n F : Nat} (h : n < F) : ∃ G, F = G + 1 := ⟨F - 1, by omega⟩
end Go.Am
