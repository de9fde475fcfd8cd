import Derived.Test.YtndhkepeecpilaaDoorRP2
set_option linter.unusedSimpArgs false
set_option linter.unusedVariables false
set_option linter.unusedSectionVars false
set_option linter.defProp false
namespace Go.Proofs.ReplyS
open Go Go.Am Go.Proofs

/-! ### Print, and Feed over what is printed -/
theorem known_eqB (n : Nat) : law16_known (n + 100) = some true := by kernel_rfl
theorem itoa3 : ∀ c : Fin 600, 200 ≤ c.val → Lib.itoa (c.val : Int) = [dg (c.val / 100), dg (c.val / 10 % 10), dg (c.val % 10)] := by decide +kernel
def ptext (D : List UInt8) : List (List UInt8) → List UInt8
  | [] => []
  | [l] => D ++ 32 :: (l ++ [13, 10])
  | l :: m :: r => D ++ 45 :: (l ++ [13, 10]) ++ ptext D (m :: r)
def txt (r : ReplyV) : List UInt8 := ptext (Lib.itoa r.code) r.lines
structure RightOk (r : ReplyV) : Prop where
  h1 : 200 ≤ r.code
  h2 : r.code ≤ 599
  h3 : 1 ≤ r.lines.length
  h4 : r.lines.length ≤ 20
  h5 : ∀ l ∈ r.lines, textOk l = true
theorem text_len {l : List UInt8} (h : textOk l = true) : l.length ≤ 480 := by
  unfold textOk at h; simp only [Bool.and_eq_true, decide_eq_true_eq] at h; exact h.2
theorem text_no13 {l : List UInt8} (h : textOk l = true) : ∀ k ∈ l, k ≠ 13 := by
  unfold textOk at h; simp only [Bool.and_eq_true] at h
  intro k hk e
  have := List.all_eq_true.1 h.1 k hk
  rw [e] at this
  revert this; decide
theorem ptext_len {D : List UInt8} (hD : D.length = 3) : ∀ ls : List (List UInt8), (∀ l ∈ ls, textOk l = true) → (ptext D ls).length ≤ 486 * ls.length := by
  intro ls
  induction ls with
  | nil => intro _; simp [ptext]
  | cons l r ih =>
    intro h
    have h0 := text_len (h l (by simp))
    cases r with
    | nil => simp [ptext, hD]; omega
    | cons m r =>
      have := ih (fun x hx => h x (by simp at hx ⊢; exact .inr hx))
      simp only [ptext, List.length_append, List.length_cons, List.length_nil, hD] at this ⊢
      omega
theorem code_dig {c : Int} (h1 : 200 ≤ c) (h2 : c ≤ 599) : ∃ (n x y z : Nat), c = (n : Int) ∧ n = 100 * x + 10 * y + z ∧ x < 10 ∧ y < 10 ∧ z < 10 ∧ 200 ≤ n ∧ n ≤ 599 ∧ Lib.itoa c = [dg x, dg y, dg z] := by
  obtain ⟨n, rfl⟩ := Int.eq_ofNat_of_zero_le (show 0 ≤ c by omega)
  exact ⟨n, n / 100, n / 10 % 10, n % 10, rfl, by omega, by omega, by omega, by omega, by omega, by omega, itoa3 ⟨n, by omega⟩ (by simp only; omega)⟩
theorem txt_len {r : ReplyV} (h : RightOk r) : (txt r).length ≤ 9720 := by
  obtain ⟨n, x, y, z, -, -, -, -, -, -, -, e⟩ := code_dig h.h1 h.h2
  have := ptext_len (D := Lib.itoa r.code) (by rw [e]; rfl) r.lines h.h5
  have := h.h4
  unfold txt; omega
section
variable {x y z c : Nat} (hc : c = 100 * x + 10 * y + z) (hx : x < 10) (hy : y < 10) (hz : z < 10) (h1 : 200 ≤ c) (h2 : c ≤ 599)
include hc hx hy hz h1 h2
theorem feed_ptext {F : Nat} {b' : List UInt8} {out : List ReplyV} (ho : out.length ≤ 1000) : ∀ (ls pre : List (List UInt8)) (G : Nat) (n k : Int), ls ≠ [] → (∀ l ∈ ls, textOk l = true) → pre.length + ls.length ≤ 20 →
    (pre.length = 0 ∨ (c : Int) = k) → (ptext [dg x, dg y, dg z] ls ++ b').length ≤ 99000 → 100000 < F →
    iter (reply_Reader_Feed_l1 F) (G + ls.length) (ptext [dg x, dg y, dg z] ls ++ b', [], 0, out, ⟨S0, ⟨k, pre⟩, n, false⟩, S0) =
      iter (reply_Reader_Feed_l1 F) G (b', [], 0, out ++ [⟨c, pre ++ ls⟩], ⟨S0, ⟨0, []⟩, 0, false⟩, S0) := by
  intro ls
  induction ls with
  | nil => intro _ _ _ _ h; exact absurd rfl h
  | cons l r ih =>
    intro pre G n k _ ht hl hI hb hF
    have t0 := ht l (by simp)
    have t1 := text_len t0
    simp only [List.length_cons] at hl
    cases r with
    | nil =>
      have e : ptext [dg x, dg y, dg z] [l] ++ b' = dg x :: dg y :: dg z :: 32 :: (l ++ 13 :: 10 :: b') := by simp [ptext]
      rw [e] at hb ⊢
      simp only [List.length_cons, List.length_append] at hb
      have hf := feed_line (F := F) (G := G) (b' := b') (t6 := []) (t7 := 0) (out := out) (n := n) (s := S0) (r := ⟨k, pre⟩) (sep := 32) (rest := l) hc hx hy hz h1 h2 (.inr rfl) (text_no13 t0) (by omega) (by omega) (by simp only; omega) (by omega)
      rw [if_pos ⟨⟨t0, by simp only; omega, hI⟩, by omega⟩, if_neg (by decide)] at hf
      exact hf
    | cons m r =>
      have e : ptext [dg x, dg y, dg z] (l :: m :: r) ++ b' = dg x :: dg y :: dg z :: 45 :: (l ++ 13 :: 10 :: (ptext [dg x, dg y, dg z] (m :: r) ++ b')) := by simp [ptext]
      rw [e] at hb ⊢
      simp only [List.length_cons, List.length_append] at hb
      have hf := feed_line (F := F) (G := G + (m :: r).length) (b' := ptext [dg x, dg y, dg z] (m :: r) ++ b') (t6 := []) (t7 := 0) (out := out) (n := n) (s := S0) (r := ⟨k, pre⟩) (sep := 45) (rest := l) hc hx hy hz h1 h2 (.inl rfl) (text_no13 t0)
        (by simp only [List.length_append]; omega) (by simp only [List.length_append]; omega) (by simp only; omega) (by omega)
      rw [if_pos ⟨⟨t0, by simp only; omega, hI⟩, by omega⟩, if_pos rfl] at hf
      rw [show G + (l :: m :: r).length = G + (m :: r).length + 1 by simp; omega, hf]
      rw [ih (pre ++ [l]) G _ c (by simp) (fun q hq => ht q (by simp at hq ⊢; exact .inr hq)) (by simp at hl ⊢; omega) (.inr rfl) (by simp only [List.length_append]; omega) hF]
      simp
end
theorem feed_all {F : Nat} {b' : List UInt8} : ∀ (L : List ReplyV) (out : List ReplyV) (G : Nat), (∀ r ∈ L, RightOk r) → out.length + L.length ≤ 1000 → ((L.map txt).flatten ++ b').length ≤ 99000 → 100000 < F →
    iter (reply_Reader_Feed_l1 F) (G + (L.map fun r => r.lines.length).sum) ((L.map txt).flatten ++ b', [], 0, out, ⟨S0, ⟨0, []⟩, 0, false⟩, S0) =
      iter (reply_Reader_Feed_l1 F) G (b', [], 0, out ++ L, ⟨S0, ⟨0, []⟩, 0, false⟩, S0) := by
  intro L
  induction L with
  | nil => intro out G _ _ _ _; simp
  | cons r L ih =>
    intro out G hL ho hb hF
    have hr := hL r (by simp)
    obtain ⟨n, x, y, z, hn, hc, hx, hy, hz, h1, h2, e⟩ := code_dig hr.h1 hr.h2
    have hne : r.lines ≠ [] := by intro e; have := hr.h3; rw [e] at this; simp at this
    have h4 := hr.h4
    simp only [List.map_cons, List.flatten_cons, List.append_assoc, List.sum_cons, List.length_cons] at hb ho ⊢
    have hp := feed_ptext hc hx hy hz h1 h2 (F := F) (b' := (L.map txt).flatten ++ b') (out := out) (by omega) r.lines [] (G + (L.map fun r => r.lines.length).sum) 0 0 hne hr.h5 (by simpa using h4) (.inl rfl) (by rw [← e]; exact hb) hF
    have e2 : txt r = ptext [dg x, dg y, dg z] r.lines := by unfold txt; rw [e]
    rw [e2, show G + (r.lines.length + (L.map fun r => r.lines.length).sum) = G + (L.map fun r => r.lines.length).sum + r.lines.length by omega, hp]
    have hrr : (⟨(n : Int), [] ++ r.lines⟩ : ReplyV) = r := by rw [List.nil_append, ← hn]
    rw [hrr, ih (out ++ [r]) G (fun q hq => hL q (by simp [hq])) (by simp; omega) (by simp only [List.length_append] at hb ⊢; omega) hF]
    simp
end Go.Proofs.ReplyS
