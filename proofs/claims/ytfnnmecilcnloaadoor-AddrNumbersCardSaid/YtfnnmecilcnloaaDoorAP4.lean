import Derived.Test.YtfnnmecilcnloaaDoorAP3
import Derived.Test.YtfnnmecilcnloaaDoorASAddrNumbers
set_option linter.unusedSimpArgs false
set_option linter.unusedVariables false
set_option linter.unusedSectionVars false
set_option linter.defProp false
set_option maxRecDepth 100000
namespace Go.Proofs.AddrS
open Go Go.Am Go.Proofs

def eD (n : Nat) : UInt8 := UInt8.ofNat (48 + n % 10)
theorem eD_d (n : Nat) : isD (eD n) = true := by
  have : (List.range 10).all (fun m => isD (UInt8.ofNat (48 + m))) = true := by decide
  exact List.all_eq_true.1 this (n % 10) (by simp; omega)
theorem eD_eq (n : Nat) (hn : n ≤ 1000000) : UInt8.ofInt (IntKind.wrap .i64 (48 + (Int.tmod (n : Int) 10))) = eD n := by
  have : Int.tmod (n : Int) 10 = ((n % 10 : Nat) : Int) := rfl
  rw [this, wr (by omega) (by omega)]
  have h10 : (List.range 10).all (fun m : Nat => decide (UInt8.ofInt (48 + (m : Int)) = UInt8.ofNat (48 + m))) = true := by kernel_rfl
  exact of_decide_eq_true (List.all_eq_true.1 h10 (n % 10) (by simp; omega))
theorem dec_nxt {n : Nat} {s : List UInt8} (h : 10 ≤ n) (hn : n ≤ 1000000) (hs : s.length ≤ 1000) : law14_decimal_l1 ((n : Int), s) = some (.nxt (((n / 10 : Nat) : Int), eD (n / 10) :: s)) := by
  simp only [law14_decimal_l1]
  have : Int.tdiv (n : Int) 10 = ((n / 10 : Nat) : Int) := rfl
  rw [if_pos (by simp; omega), this, show IntKind.wrap .i64 ((n / 10 : Nat) : Int) = ((n / 10 : Nat) : Int) from wr (by omega) (by omega), eD_eq _ (by omega), cat_ok (by simp; omega)]
  rfl
theorem dec_brk {n : Nat} {s : List UInt8} (h : n < 10) : law14_decimal_l1 ((n : Int), s) = some (.brk s) := by
  simp only [law14_decimal_l1]
  rw [if_neg (by simp; omega)]
theorem dec_small (k : Nat) : (List.range 256).all (fun n : Nat => decide (law14_decimal (k + 10) (n : Int) = some (Lib.itoa (n : Int)))) = true := by kernel_rfl
theorem eD_val (n : Nat) : (eD n).toNat - 48 = n % 10 := by
  have h10 : (List.range 10).all (fun m : Nat => decide ((UInt8.ofNat (48 + m)).toNat - 48 = m)) = true := by kernel_rfl
  exact of_decide_eq_true (List.all_eq_true.1 h10 (n % 10) (by simp; omega))
theorem dec_ok {F n : Nat} (hn : n ≤ 65535) (hF : 10 ≤ F) : ∃ t, law14_decimal F (n : Int) = some t ∧ t.all isD = true ∧ 1 ≤ t.length ∧ t.length ≤ 5 ∧ numB t = decide (n ≤ 255) := by
  obtain ⟨k, rfl⟩ : ∃ k, F = k + 10 := ⟨F - 10, by omega⟩
  by_cases h1 : n < 256
  · have h := of_decide_eq_true (List.all_eq_true.1 (dec_small k) n (by simpa using h1))
    have hb : numB (Lib.itoa (n : Int)) = true := numB_mem.2 ⟨n, h1, rfl⟩
    obtain ⟨h2, h3, h4, -⟩ := num_facts hb
    refine ⟨_, h, h3, ?_, by omega, by rw [hb]; simp; omega⟩
    cases hh : Lib.itoa (n : Int) with
    | nil => exact absurd hh h4
    | cons => simp
  · by_cases h2 : n < 1000
    · have hst : law14_decimal (k + 10) (n : Int) = ((iter law14_decimal_l1 (k + 10) ((n : Int), [eD n])).bind fun o7 => match o7 with | .inr s6 => some s6 | .inl _ => none) := by
        unfold law14_decimal; rw [eD_eq _ (by omega)]; rfl
      rw [hst, iter_nxt (dec_nxt (by omega) (by omega) (by simp)), iter_nxt (dec_nxt (by omega) (by omega) (by simp)), iter_brk (dec_brk (by omega))]
      refine ⟨_, rfl, by simp [eD_d], by simp, by simp, ?_⟩
      have hv : valD [eD (n / 10 / 10), eD (n / 10), eD n] = n := by
        simp only [valD, List.foldl_cons, List.foldl_nil, eD_val]
        omega
      rw [numB_V, numV, hv, decide_eq_false (by omega : ¬ n < 256), decide_eq_false (by omega : ¬ n ≤ 255)]
      rfl
    · have hst : law14_decimal (k + 10) (n : Int) = ((iter law14_decimal_l1 (k + 10) ((n : Int), [eD n])).bind fun o7 => match o7 with | .inr s6 => some s6 | .inl _ => none) := by
        unfold law14_decimal; rw [eD_eq _ (by omega)]; rfl
      rw [hst, iter_nxt (dec_nxt (by omega) (by omega) (by simp)), iter_nxt (dec_nxt (by omega) (by omega) (by simp)), iter_nxt (dec_nxt (by omega) (by omega) (by simp))]
      have hnb : ∀ t : List UInt8, 3 < t.length → numB t = false := by
        intro t ht
        cases h : numB t with
        | false => rfl
        | true => have := (num_facts h).1; omega
      by_cases h3 : n / 10 / 10 / 10 < 10
      · rw [iter_brk (dec_brk h3)]
        exact ⟨_, rfl, by simp [eD_d], by simp, by simp, by rw [hnb _ (by simp)]; simp; omega⟩
      · rw [iter_nxt (dec_nxt (by omega) (by omega) (by simp)), iter_brk (dec_brk (by omega))]
        exact ⟨_, rfl, by simp [eD_d], by simp, by simp, by rw [hnb _ (by simp)]; simp; omega⟩
theorem d46 {t : List UInt8} (h : t.all isD = true) : ∀ c ∈ t, c ≠ 46 := by
  intro c hc h'
  subst h'
  have := List.all_eq_true.1 h 46 hc
  revert this; decide
theorem dom_num {p q r u : List UInt8} (hp : p.all isD = true) (hq : q.all isD = true) (hr : r.all isD = true) (hu : u.all isD = true) (hl : p.length + q.length + r.length + u.length ≤ 50) :
    domB (91 :: (p ++ 46 :: (q ++ 46 :: (r ++ 46 :: (u ++ [93]))))) = (numB p && numB q && numB r && numB u) := by
  have hin : inB (91 :: (p ++ 46 :: (q ++ 46 :: (r ++ 46 :: (u ++ [93]))))) = true := by
    have : (91 :: (p ++ 46 :: (q ++ 46 :: (r ++ 46 :: (u ++ [93]))))) = (91 :: (p ++ 46 :: (q ++ 46 :: (r ++ 46 :: u)))) ++ [93] := by simp
    unfold inB
    rw [this, List.getLast?_concat]
    simp
    omega
  have hinn : inner (91 :: (p ++ 46 :: (q ++ 46 :: (r ++ 46 :: (u ++ [93]))))) = p ++ 46 :: (q ++ 46 :: (r ++ 46 :: u)) := by
    have : (p ++ 46 :: (q ++ 46 :: (r ++ 46 :: (u ++ [93])))) = (p ++ 46 :: (q ++ 46 :: (r ++ 46 :: u))) ++ [93] := by simp
    unfold inner
    rw [List.drop_one, List.tail_cons, this, List.dropLast_concat]
  unfold domB shapeB
  rw [hin, hinn, splitD_app (d46 hp), splitD_app (d46 hq), splitD_app (d46 hr), splitD_one (d46 hu)]
  have h63 : (splitD (91 :: (p ++ 46 :: (q ++ 46 :: (r ++ 46 :: (u ++ [93])))))).all (fun p => decide (p.length ≤ 63)) = true := by
    rw [List.all_eq_true]
    intro x hx
    have := splitD_len _ x hx
    simp at this ⊢
    omega
  rw [h63, decide_eq_true (by simp; omega)]
  simp [Bool.and_assoc]
theorem dom_num1 {p q r u : List UInt8} (hp : p.all isD = true) (h1 : 1 ≤ p.length) (hq : q.all isD = true) (hr : r.all isD = true) (hu : u.all isD = true) :
    domB (p ++ 46 :: (q ++ 46 :: (r ++ 46 :: (u ++ [93])))) = false := by
  have hin : inB (p ++ 46 :: (q ++ 46 :: (r ++ 46 :: (u ++ [93])))) = false := by
    cases p with
    | nil => simp at h1
    | cons c p =>
      have : c ≠ 91 := by
        intro h; subst h
        have := List.all_eq_true.1 hp 91 (by simp)
        revert this; decide
      simp [inB, this]
  have hu' : ∀ c ∈ u ++ [93], c ≠ 46 := by
    intro c hc
    rcases List.mem_append.1 hc with h | h
    · exact d46 hu c h
    · simp at h; subst h; decide
  have hl : labB (u ++ [93]) = false := by
    have : isW 93 = false := by decide
    simp [labB, this]
  unfold domB shapeB
  rw [hin, splitD_app (d46 hp), splitD_app (d46 hq), splitD_app (d46 hr), splitD_one hu']
  simp [hl]
theorem numbers_ok (a : Int) (b c d : UInt8) (nought : Bool) (h0 : 0 ≤ a) (h1 : a ≤ 65535) : ∃ F, law14_AddrNumbers F a b c d nought = some true := by
  refine ⟨100 + 100, ?_⟩
  obtain ⟨n, rfl⟩ := Int.eq_ofNat_of_zero_le h0
  obtain ⟨p, hp, pd, p1, p5, pn⟩ := dec_ok (F := 100 + 100) (n := n) (by omega) (by omega)
  obtain ⟨q, hq, qd, q1, q5, qn⟩ := dec_ok (F := 100 + 100) (n := b.toNat) (by have := b.toNat_lt; omega) (by omega)
  obtain ⟨r, hr, rd, r1, r5, rn⟩ := dec_ok (F := 100 + 100) (n := c.toNat) (by have := c.toNat_lt; omega) (by omega)
  obtain ⟨u, hu, ud, u1, u5, un⟩ := dec_ok (F := 100 + 100) (n := d.toNat) (by have := d.toNat_lt; omega) (by omega)
  have hqn : numB q = true := by rw [qn]; have := b.toNat_lt; simp; omega
  have hrn : numB r = true := by rw [rn]; have := c.toNat_lt; simp; omega
  have hun : numB u = true := by rw [un]; have := d.toNat_lt; simp; omega
  -- the first number
  obtain ⟨p', hp', pd', p1', p5', pn'⟩ : ∃ p', law14_AddrNumbers_p1 nought p = some p' ∧ p'.all isD = true ∧ 1 ≤ p'.length ∧ p'.length ≤ 6 ∧ numB p' = (decide (n ≤ 255) && !nought) := by
    unfold law14_AddrNumbers_p1
    cases nought with
    | false => exact ⟨p, rfl, pd, p1, by omega, by rw [pn]; simp⟩
    | true =>
      refine ⟨48 :: p, ?_, ?_, by simp, by simp; omega, ?_⟩
      · simp only [if_true]; rw [cat_ok (by simp; omega)]; rfl
      · have : isD 48 = true := by decide
        simp [this, pd]
      · cases h : numB (48 :: p) with
        | false => simp
        | true => have := (num_facts h).2.2.2 rfl; simp at this; subst this; simp at p1
  have hdom := dom_num pd' qd rd ud (by omega)
  have hdom1 := dom_num1 pd' p1' qd rd ud
  rw [hqn, hrn, hun, pn'] at hdom
  simp only [Bool.and_true] at hdom
  generalize hS : (91 :: (p' ++ 46 :: (q ++ 46 :: (r ++ 46 :: (u ++ [93]))))) = S at hdom
  have hSl : S.length ≤ 60 := by rw [← hS]; simp; omega
  unfold law14_AddrNumbers
  rw [known_eq, Option.bind_some]
  simp only [Bool.not_true, Bool.false_eq_true, if_false]
  rw [wr (by omega) (by omega), wr (by have := b.toNat_lt; omega) (by have := b.toNat_lt; omega), wr (by have := c.toNat_lt; omega) (by have := c.toNat_lt; omega), wr (by have := d.toNat_lt; omega) (by have := d.toNat_lt; omega)]
  rw [hp]; simp only [Option.bind_some]
  rw [hp']; simp only [Option.bind_some]
  rw [cat_ok (by simp; omega)]; simp only [Option.bind_some]
  rw [cat_ok (by simp; omega)]; simp only [Option.bind_some]
  rw [hq]; simp only [Option.bind_some]
  rw [cat_ok (by simp; omega)]; simp only [Option.bind_some]
  rw [cat_ok (by simp; omega)]; simp only [Option.bind_some]
  rw [hr]; simp only [Option.bind_some]
  rw [cat_ok (by simp; omega)]; simp only [Option.bind_some]
  rw [cat_ok (by simp; omega)]; simp only [Option.bind_some]
  rw [hu]; simp only [Option.bind_some]
  rw [cat_ok (by simp; omega)]; simp only [Option.bind_some]
  rw [cat_ok (by simp; omega)]; simp only [Option.bind_some]
  have hT : ([91] ++ p' ++ [46] ++ q ++ [46] ++ r ++ [46] ++ u ++ [93] : List UInt8) = S := by rw [← hS]; simp
  rw [hT]
  unfold law14_AddrNumbers_p2
  rw [dom_a (by omega) (by omega)]
  simp only [Option.bind_some]
  rw [dom_r (by omega) (by omega), sub_one hS.symm]
  simp only [Option.bind_some]
  rw [dom_a (by have : S.length = (p' ++ 46 :: (q ++ 46 :: (r ++ 46 :: (u ++ [93])))).length + 1 := by rw [← hS]; simp
                omega) (by have : S.length = (p' ++ 46 :: (q ++ 46 :: (r ++ 46 :: (u ++ [93])))).length + 1 := by rw [← hS]; simp
                           omega), hdom1, hdom]
  by_cases hn : n ≤ 255
  · rw [if_pos (by simp; omega), decide_eq_true hn]
    cases nought <;> simp
  · rw [if_neg (by simp; omega), decide_eq_false hn]
    simp
end Go.Proofs.AddrS
namespace Go.Proofs.AddrS
open Go Go.Am Go.Proofs
theorem numbers_law (a : Int) (b c d : UInt8) (nought : Bool) (h : IntKind.has .u16 a) : ∃ F, law14_AddrNumbers F a b c d nought = some true := by
  have h1 : (0 : Int) ≤ a ∧ a ≤ 65535 := by
    obtain ⟨h1, h2⟩ := h
    exact ⟨h1, h2⟩
  exact numbers_ok a b c d nought h1.1 h1.2
end Go.Proofs.AddrS
