import Derived.Test.YtfnnmecilcnloaaDoorAS3
import Derived.Test.YtfnnmecilcnloaaDoorAmP
set_option linter.unusedSimpArgs false
set_option linter.unusedVariables false
set_option linter.unusedSectionVars false
set_option linter.defProp false
set_option maxRecDepth 100000
namespace Go.Proofs.AddrS
open Go Go.Am Go.Proofs
theorem known_eq (n : Nat) : law14_known (n + 100) = some true := by kernel_rfl

theorem u8_all {p : UInt8 → Bool} (h : (List.range 256).all (fun n => p (UInt8.ofNat n)) = true) (c : UInt8) : p c = true := by
  have := List.all_eq_true.1 h c.toNat (by simpa using c.toNat_lt)
  simpa using this
/-- a row of things, looked at one by one -/
theorem scan {α ρ τ σ : Type} {s : List α} {body : σ → Option (St ρ τ σ)} {mk : Nat → σ} {p : α → Bool} {rr : Nat → ρ} {tt : τ}
    (h1 : ∀ i x, s[i]? = some x → p x = true → body (mk i) = some (.nxt (mk (i + 1)))) (h2 : ∀ i x, s[i]? = some x → p x = false → body (mk i) = some (.ret (rr i)))
    (h3 : body (mk s.length) = some (.brk tt)) {F : Nat} (hF : s.length < F) :
    (s.all p = true → iter body F (mk 0) = some (.inr tt)) ∧ (s.all p = false → ∃ j, iter body F (mk 0) = some (.inl (rr j))) := by
  suffices h : ∀ (r : List α) (i F : Nat), s.drop i = r → i + r.length = s.length → r.length < F →
      (r.all p = true → iter body F (mk i) = some (.inr tt)) ∧ (r.all p = false → ∃ j, iter body F (mk i) = some (.inl (rr j))) from h s 0 F rfl (by simp) hF
  intro r
  induction r with
  | nil =>
    intro i F hd hl hF
    obtain ⟨G, rfl⟩ := F_succ hF
    have : i = s.length := by simpa using hl
    subst this
    exact ⟨fun _ => iter_brk h3, fun h => by simp at h⟩
  | cons x r ih =>
    intro i F hd hl hF
    obtain ⟨G, rfl⟩ := F_succ hF
    obtain ⟨hi, hx, hr⟩ := drop_cons hd
    simp only [List.length_cons] at hl hF
    cases hp : p x with
    | true =>
      rw [iter_nxt (h1 i x hx hp)]
      simp only [List.all_cons, hp, Bool.true_and]
      exact ih (i + 1) G hr (by omega) (by omega)
    | false =>
      rw [iter_ret (h2 i x hx hp)]
      simp only [List.all_cons, hp, Bool.false_and]
      exact ⟨fun h => by simp at h, fun _ => ⟨i, rfl⟩⟩
theorem wi {n : Nat} (h : n ≤ 1000000000) : IntKind.wrap .i64 ((n : Int) + 1) = ((n + 1 : Nat) : Int) := by rw [wr (by omega) (by omega)]; simp

/-! ### bytes -/
def isL (c : UInt8) : Bool := (decide (65 ≤ c) && decide (c ≤ 90)) || (decide (97 ≤ c) && decide (c ≤ 122))
def isD (c : UInt8) : Bool := decide (48 ≤ c) && decide (c ≤ 57)
def isW (c : UInt8) : Bool := isL c || isD c || c == 45
theorem letter_a (c : UInt8) : addr_letter c = some (isL c || isD c) := by
  have := u8_all (p := fun c => decide (addr_letter c = some (isL c || isD c))) (by kernel_rfl) c
  simpa using this
theorem label_1 (c : UInt8) : addr_label_1 c = some (isW c) := by
  have := u8_all (p := fun c => decide (addr_label_1 c = some (isW c))) (by kernel_rfl) c
  simpa using this
theorem letter_r (c : UInt8) : ref14_letter c = some (isL c) := by
  have := u8_all (p := fun c => decide (ref14_letter c = some (isL c))) (by kernel_rfl) c
  simpa using this
theorem digit_r (c : UInt8) : ref14_digit c = some (isD c) := by
  have := u8_all (p := fun c => decide (ref14_digit c = some (isD c))) (by kernel_rfl) c
  simpa using this

/-! ### what stands between dots -/
def splitD : List UInt8 → List (List UInt8)
  | [] => [[]]
  | c :: r => if c = 46 then [] :: splitD r else match splitD r with | [] => [[c]] | h :: t => (c :: h) :: t
theorem splitD_ne : ∀ s, splitD s ≠ []
  | [] => by simp [splitD]
  | c :: r => by
    unfold splitD
    split
    · simp
    · split <;> simp
theorem split_dot (r : List UInt8) : Lib.split (46 :: r) [46] = [] :: Lib.split r [46] := by
  have hi : Lib.index (46 :: r) [46] = ((0 : Nat) : Int) := by unfold Lib.index; rw [if_pos (by simp [List.isPrefixOf])]; rfl
  have hc := Lib.count_hit (by simp) hi
  unfold Lib.split
  rw [hc, Nat.add_comm]
  simp only [Lib.splitK, hi]
  rfl
theorem split_else {c : UInt8} (hc : c ≠ 46) (r : List UInt8) : Lib.split (c :: r) [46] = match Lib.split r [46] with | [] => [[c]] | h :: t => (c :: h) :: t := by
  have hp : ([46] : List UInt8).isPrefixOf (c :: r) = false := by simp [List.isPrefixOf]; exact fun h => hc h.symm
  have hi : Lib.index (c :: r) [46] = if Lib.index r [46] == -1 then -1 else Lib.index r [46] + 1 := by
    conv => lhs; unfold Lib.index
    rw [if_neg (by rw [hp]; simp)]
  rcases Lib.index_spec r [46] with ⟨h, -⟩ | ⟨i, h, -, -, -⟩
  · rw [h] at hi
    unfold Lib.split
    rw [Lib.count_miss h, Lib.count_miss hi]
    rfl
  · have hne : (((i : Nat) : Int) == -1) = false := by rw [beq_eq_false_iff_ne]; omega
    rw [h, hne] at hi
    have hi' : Lib.index (c :: r) [46] = ((i + 1 : Nat) : Int) := by rw [hi]; simp
    unfold Lib.split
    rw [Lib.count_hit (by simp) h, Lib.count_hit (by simp) hi', Nat.add_comm 1, Nat.add_comm 1]
    have hne' : (((i + 1 : Nat) : Int) == -1) = false := by rw [beq_eq_false_iff_ne]; omega
    simp only [Lib.splitK, h, hi', hne, hne', Bool.false_eq_true, if_false, Int.toNat_natCast, Nat.add_zero, List.take_succ_cons, List.length_cons, List.length_nil, Nat.zero_add, List.drop_succ_cons]
theorem split_eq : ∀ s : List UInt8, Lib.split s [46] = splitD s
  | [] => by rfl
  | c :: r => by
    by_cases hc : c = 46
    · subst hc; rw [split_dot, split_eq r]; simp [splitD]
    · rw [split_else hc, split_eq r]; simp only [splitD, if_neg hc]
theorem splitD_len (s : List UInt8) : ∀ p ∈ splitD s, p.length ≤ s.length := by
  induction s with
  | nil => simp [splitD]
  | cons c r ih =>
    unfold splitD
    split
    · intro p hp
      rcases List.mem_cons.1 hp with rfl | hp
      · simp
      · have := ih p hp; simp; omega
    · cases hs : splitD r with
      | nil => exact absurd hs (splitD_ne r)
      | cons h t =>
        simp only
        intro p hp
        rcases List.mem_cons.1 hp with rfl | hp
        · have := ih h (by rw [hs]; simp); simp; omega
        · have := ih p (by rw [hs]; simp [hp]); simp; omega
theorem splitD_n (s : List UInt8) : (splitD s).length ≤ s.length + 1 := by
  induction s with
  | nil => simp [splitD]
  | cons c r ih =>
    unfold splitD
    split
    · simp; omega
    · cases hs : splitD r with
      | nil => exact absurd hs (splitD_ne r)
      | cons h t => rw [hs] at ih; simp at ih ⊢; omega
/-- a piece without a dot, ahead -/
theorem splitD_app {p : List UInt8} (hp : ∀ c ∈ p, c ≠ 46) (r : List UInt8) : splitD (p ++ 46 :: r) = p :: splitD r := by
  induction p with
  | nil => simp [splitD]
  | cons c p ih =>
    simp only [List.cons_append, splitD, if_neg (hp c (by simp)), ih fun x hx => hp x (by simp [hx])]
theorem splitD_one {p : List UInt8} (hp : ∀ c ∈ p, c ≠ 46) : splitD p = [p] := by
  induction p with
  | nil => simp [splitD]
  | cons c p ih =>
    simp only [splitD, if_neg (hp c (by simp)), ih fun x hx => hp x (by simp [hx])]

/-! ### numbers -/
def octs : List (List UInt8) := (List.range 256).map fun n : Nat => Lib.itoa (n : Int)
def numB (s : List UInt8) : Bool := octs.contains s
theorem number_oct : (List.range 256).all (fun n : Nat => decide (addr_number (Lib.itoa (n : Int)) = some true)) = true := by kernel_rfl
theorem octs_len : octs.all (fun s => decide (s.length ≤ 3 ∧ s.all isD = true ∧ s ≠ [] ∧ (s.head? = some 48 → s.length ≤ 1))) = true := by kernel_rfl
theorem numB_mem {s : List UInt8} : numB s = true ↔ ∃ n : Nat, n < 256 ∧ Lib.itoa (n : Int) = s := by
  simp [numB, octs]
theorem num_facts {s : List UInt8} (h : numB s = true) : s.length ≤ 3 ∧ s.all isD = true ∧ s ≠ [] ∧ (s.head? = some 48 → s.length ≤ 1) := by
  have := List.all_eq_true.1 octs_len s (by simpa [numB] using h)
  exact of_decide_eq_true this
def valD (s : List UInt8) : Nat := s.foldl (fun a c => 10 * a + (c.toNat - 48)) 0
theorem val_itoa : (List.range 256).all (fun n : Nat => decide (valD (Lib.itoa (n : Int)) = n)) = true := by kernel_rfl
def numV (s : List UInt8) : Bool := decide (valD s < 256) && decide (Lib.itoa (valD s : Int) = s)
theorem numB_V (s : List UInt8) : numB s = numV s := by
  cases h : numB s with
  | true =>
    obtain ⟨n, hn, rfl⟩ := numB_mem.1 h
    have hv : valD (Lib.itoa (n : Int)) = n := of_decide_eq_true (List.all_eq_true.1 val_itoa n (by simpa using hn))
    unfold numV
    rw [hv]
    simp [hn]
  | false =>
    cases h' : numV s with
    | false => rfl
    | true =>
      simp only [numV, Bool.and_eq_true, decide_eq_true_eq] at h'
      rw [numB_mem.2 ⟨valD s, h'.1, h'.2⟩] at h; cases h
theorem number_ok {s : List UInt8} (hs : s.length ≤ 100000) : addr_number s = some (numB s) := by
  cases hn : numB s with
  | true =>
    obtain ⟨n, hlt, rfl⟩ := numB_mem.1 hn
    have := List.all_eq_true.1 number_oct n (by simpa using hlt)
    simpa using this
  | false =>
    unfold addr_number strconv_Atoi
    rw [if_pos (by omega)]
    rcases hat : Lib.atoiAll s with v | _ | _
    · simp only [Option.bind_some, addr_number_p1, Bool.not_false, if_true, decide_eq_true_eq]
      by_cases h0 : 0 ≤ v
      · by_cases h1 : v ≤ 255
        · rw [if_pos h0, if_pos h1]
          unfold strconv_Itoa
          rw [if_pos (by omega)]
          simp only [Option.bind_some, Option.some.injEq, decide_eq_false_iff_not]
          intro he
          have : numB s = true := numB_mem.2 ⟨v.toNat, by omega, by rw [← he]; congr 1; omega⟩
          rw [hn] at this; cases this
        · rw [if_pos h0, if_neg h1]; rfl
      · rw [if_neg h0]; rfl
    · simp [addr_number_p1]
    · simp [addr_number_p1]
end Go.Proofs.AddrS
