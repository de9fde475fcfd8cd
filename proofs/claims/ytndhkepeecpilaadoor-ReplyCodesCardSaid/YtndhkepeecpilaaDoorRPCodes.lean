import Derived.Test.YtndhkepeecpilaaDoorRP2
import Derived.Test.YtndhkepeecpilaaDoorRSReplyCodes
set_option linter.unusedSimpArgs false
set_option linter.unusedVariables false
set_option linter.unusedSectionVars false
set_option linter.defProp false
namespace Go.Proofs.ReplyS
open Go Go.Am Go.Proofs

/-! ### ReplyCodes -/
theorem known_eq (n : Nat) : law16_known (n + 100) = some true := by kernel_rfl
theorem digits_eq {a x y z : Nat} (ha : a = 100 * x + 10 * y + z) (hx : x < 10) (hy : y < 10) (hz : z < 10) : law16_digits (a : Int) = some [dg x, dg y, dg z] := by
  obtain ⟨-, -, -, -, -, dx⟩ := dg_facts ⟨x, hx⟩
  obtain ⟨-, -, -, -, -, dy⟩ := dg_facts ⟨y, hy⟩
  obtain ⟨-, -, -, -, -, dz⟩ := dg_facts ⟨z, hz⟩
  simp only at dx dy dz
  have e1 : Int.tdiv (a : Int) 100 = (x : Int) := by rw [Int.tdiv_eq_ediv_of_nonneg (by omega)]; omega
  have e2 : Int.tdiv (a : Int) 10 = ((10 * x + y : Nat) : Int) := by rw [Int.tdiv_eq_ediv_of_nonneg (by omega)]; omega
  have e3 : Int.tmod (a : Int) 10 = (z : Int) := by rw [Int.tmod_eq_emod_of_nonneg (by omega)]; omega
  have e4 : Int.tmod ((10 * x + y : Nat) : Int) 10 = (y : Int) := by rw [Int.tmod_eq_emod_of_nonneg (by omega)]; omega
  unfold law16_digits
  rw [e1, e2, e3, wr (n := ((10 * x + y : Nat) : Int)) (by omega) (by omega), e4, wr (n := (x : Int)) (by omega) (by omega), wr (by omega) (by omega), wr (by omega) (by omega), wr (by omega) (by omega), dx, dy, dz]
def cps (D : List UInt8) (m : Nat) : List UInt8 := (List.replicate m (D ++ [45, 108, 13, 10])).flatten
theorem cps_succ (D : List UInt8) (m : Nat) : cps D (m + 1) = D ++ [45, 108, 13, 10] ++ cps D m := by simp [cps, List.replicate_succ]
theorem cps_add (D : List UInt8) : ∀ (k m : Nat), cps D (k + m) = cps D k ++ cps D m := by
  intro k m
  induction k with
  | zero => simp [cps]
  | succ k ih => rw [show k + 1 + m = (k + m) + 1 by omega, cps_succ, cps_succ, ih]; simp only [List.append_assoc]
theorem cps_len (D : List UInt8) : ∀ (m : Nat), (cps D m).length = (D.length + 4) * m := by
  intro m
  induction m with
  | zero => rfl
  | succ m ih => rw [cps_succ, List.length_append, List.length_append, ih, Nat.mul_succ]; simp; omega
theorem loop1 {a : Int} {D : List UInt8} (hD : law16_digits a = some D) (hD3 : D.length = 3) {n : Nat} (hn : n ≤ 100) : ∀ (k i F : Nat) (s : List UInt8), i + k = n → k < F → s.length + 7 * k ≤ 100000 →
    iter (law16_ReplyCodes_l1 (n : Int) a) F (s, (i : Int)) = some (.inr (s ++ cps D k)) := by
  intro k
  induction k with
  | zero =>
    intro i F s hi hF hs
    obtain ⟨G, rfl⟩ := F_succ hF
    have : ¬ (i : Int) < n := by omega
    exact iter_brk (by simp [law16_ReplyCodes_l1, this, cps])
  | succ k ih =>
    intro i F s hi hF hs
    obtain ⟨G, rfl⟩ := F_succ hF
    have hlt : (i : Int) < n := by omega
    have c1 : cat s D = some (s ++ D) := cat_ok (by omega)
    have c2 : cat (s ++ D) [45, 108, 13, 10] = some (s ++ D ++ [45, 108, 13, 10]) := cat_ok (by simp; omega)
    rw [iter_nxt (s' := (s ++ D ++ [45, 108, 13, 10], ((i + 1 : Nat) : Int))) (by simp only [law16_ReplyCodes_l1, hlt, decide_true, if_true, hD, Option.bind_some, c1, c2]; rw [wr (by omega) (by omega)]; rfl)]
    rw [ih (i + 1) G _ (by omega) (by omega) (by simp; omega), cps_succ]
    simp
theorem loop2 {l : Nat} (hl : l ≤ 1000) : ∀ (k i F : Nat) (s : List UInt8), i + k = l → k < F → s.length + k ≤ 100000 →
    iter (law16_ReplyCodes_l2 (l : Int)) F (s, (i : Int)) = some (.inr (s ++ List.replicate k 119)) := by
  intro k
  induction k with
  | zero =>
    intro i F s hi hF hs
    obtain ⟨G, rfl⟩ := F_succ hF
    have : ¬ (i : Int) < l := by omega
    exact iter_brk (by simp [law16_ReplyCodes_l2, this])
  | succ k ih =>
    intro i F s hi hF hs
    obtain ⟨G, rfl⟩ := F_succ hF
    have hlt : (i : Int) < l := by omega
    have c1 : cat s [119] = some (s ++ [119]) := cat_ok (by simp; omega)
    rw [iter_nxt (s' := (s ++ [119], ((i + 1 : Nat) : Int))) (by simp only [law16_ReplyCodes_l2, hlt, decide_true, if_true, Option.bind_some, c1]; rw [wr (by omega) (by omega)]; rfl)]
    rw [ih (i + 1) G _ (by omega) (by omega) (by simp; omega), List.replicate_succ]
    simp
section
variable {x y z c : Nat} (hc : c = 100 * x + 10 * y + z) (hx : x < 10) (hy : y < 10) (hz : z < 10) (h1 : 200 ≤ c) (h2 : c ≤ 599)
include hc hx hy hz h1 h2
theorem copies {F : Nat} {b' : List UInt8} (hb : b'.length ≤ 50000) : ∀ (m G : Nat) (n : Int) (r : ReplyV), b'.length + 7 * m + 20 < F → m ≤ 20 → r.lines.length + m ≤ 20 → (r.lines.length = 0 ∨ (c : Int) = r.code) →
    ∃ (n' k : Int), (r.lines.length + m = 0 ∨ (c : Int) = k) ∧ iter (reply_Reader_Feed_l1 F) (G + m) (cps [dg x, dg y, dg z] m ++ b', [], 0, [], ⟨S0, r, n, false⟩, S0) =
      iter (reply_Reader_Feed_l1 F) G (b', [], 0, [], ⟨S0, ⟨k, r.lines ++ List.replicate m [108]⟩, n', false⟩, S0) := by
  intro m
  induction m with
  | zero => intro G n r _ _ _ hI; exact ⟨n, r.code, hI, by simp [cps]⟩
  | succ m ih =>
    intro G n r hF hm hl hI
    have hl1 := cps_len [dg x, dg y, dg z] m
    simp only [List.length_cons, List.length_nil] at hl1
    have hf := feed_line (F := F) (G := G + m) (b' := cps [dg x, dg y, dg z] m ++ b') (t6 := []) (t7 := 0) (out := []) (n := n) (s := S0) (r := r) (sep := 45) (rest := [108]) hc hx hy hz h1 h2 (.inl rfl) (by decide)
      (by simp; omega) (by simp; omega) (by omega) (by simp)
    rw [if_pos ⟨⟨by decide, by omega, hI⟩, by simp⟩, if_pos rfl] at hf
    obtain ⟨n', k, g1, g2⟩ := ih G (IntKind.wrap .i64 (n + (([108] : List UInt8).length : Int))) ⟨c, r.lines ++ [[108]]⟩ (by omega) (by omega) (by simp; omega) (.inr rfl)
    refine ⟨n', k, .inr ?_, ?_⟩
    · simp only [List.length_append, List.length_cons, List.length_nil] at g1; omega
    · rw [cps_succ]
      have e : [dg x, dg y, dg z] ++ [45, 108, 13, 10] ++ cps [dg x, dg y, dg z] m ++ b' = dg x :: dg y :: dg z :: 45 :: ([108] ++ 13 :: 10 :: (cps [dg x, dg y, dg z] m ++ b')) := by simp
      rw [e, ← Nat.add_assoc, hf, g2]
      simp [List.replicate_succ]
theorem w_ok {l : Nat} : textOk (List.replicate l 119) = decide (l ≤ 480) := by
  have : (List.replicate l (119 : UInt8)).all prn = true := by
    rw [List.all_eq_true]; intro k hk; rw [List.eq_of_mem_replicate hk]; decide
  unfold textOk
  rw [this]; simp
/-- the second text -/
theorem parse2 {F n l : Nat} (hF : 2000 < F) (hn1 : 1 ≤ n) (hn : n ≤ 40) (hl : l ≤ 600) :
    reply_Parse F (cps [dg x, dg y, dg z] (n - 1) ++ (dg x :: dg y :: dg z :: 32 :: (List.replicate l 119 ++ 13 :: 10 :: []))) =
      some (if n ≤ 20 ∧ l ≤ 480 then (⟨c, List.replicate (n - 1) [108] ++ [List.replicate l 119]⟩, 0) else (⟨0, []⟩, 3)) := by
  by_cases h20 : n ≤ 20
  · obtain ⟨G, hG⟩ : ∃ G, F = (G + 2) + (n - 1) := ⟨F - (n - 1) - 2, by omega⟩
    obtain ⟨n', k, g1, g2⟩ := copies hc hx hy hz h1 h2 (F := F) (b' := dg x :: dg y :: dg z :: 32 :: (List.replicate l 119 ++ 13 :: 10 :: [])) (by simp; omega) (n - 1) (G + 2) 0 ⟨0, []⟩ (by simp; omega) (by omega) (by simp; omega) (.inl rfl)
    rw [← hG] at g2
    have hf := feed_line (F := F) (G := G + 1) (b' := []) (t6 := []) (t7 := 0) (out := []) (n := n') (s := S0) (r := ⟨k, [] ++ List.replicate (n - 1) [108]⟩) (sep := 32) (rest := List.replicate l 119) hc hx hy hz h1 h2 (.inr rfl)
      (by intro q hq; rw [List.eq_of_mem_replicate hq]; decide) (by simp; omega) (by simp; omega) (by simp; omega) (by simp)
    rw [hf] at g2
    by_cases hl4 : l ≤ 480
    · rw [if_pos ⟨⟨by rw [w_ok hc hx hy hz h1 h2]; simpa using hl4, by simp; omega, by simp at g1 ⊢; omega⟩, by simp; omega⟩, if_neg (by decide), feed_end (by omega)] at g2
      rw [if_pos ⟨h20, hl4⟩]
      exact parse_one g2
    · rw [if_neg (by rintro ⟨⟨q, -⟩, -⟩; rw [w_ok hc hx hy hz h1 h2] at q; simp at q; omega), feed_bad] at g2
      rw [if_neg (by omega)]
      exact parse_bad g2
  · rw [if_neg (by omega)]
    obtain ⟨m, rfl⟩ : ∃ m, n = 21 + m := ⟨n - 21, by omega⟩
    obtain ⟨G, hG⟩ : ∃ G, F = (G + 2) + 20 := ⟨F - 22, by omega⟩
    rw [show 21 + m - 1 = 20 + m by omega, cps_add, List.append_assoc]
    have hl1 := cps_len [dg x, dg y, dg z] m
    simp only [List.length_cons, List.length_nil] at hl1
    obtain ⟨n', k, g1, g2⟩ := copies hc hx hy hz h1 h2 (F := F) (b' := cps [dg x, dg y, dg z] m ++ (dg x :: dg y :: dg z :: 32 :: (List.replicate l 119 ++ 13 :: 10 :: []))) (by simp; omega) 20 (G + 2) 0 ⟨0, []⟩ (by simp; omega) (by omega) (by simp) (.inl rfl)
    rw [← hG] at g2
    refine parse_bad (o := []) (s := S0) (s' := S0) (r := ⟨0, []⟩) (n := 0) (x := true) (g2.trans ?_)
    cases m with
    | zero =>
      have hf := feed_line (F := F) (G := G + 1) (b' := []) (t6 := []) (t7 := 0) (out := []) (n := n') (s := S0) (r := ⟨k, [] ++ List.replicate 20 [108]⟩) (sep := 32) (rest := List.replicate l 119) hc hx hy hz h1 h2 (.inr rfl)
        (by intro q hq; rw [List.eq_of_mem_replicate hq]; decide) (by simp; omega) (by simp; omega) (by simp) (by simp)
      rw [if_neg (by rintro ⟨⟨-, q, -⟩, -⟩; simp at q), feed_bad] at hf
      exact hf
    | succ m =>
      have hl2 := cps_len [dg x, dg y, dg z] (m + 1)
      rw [cps_succ] at hl2 ⊢
      simp only [List.length_append, List.length_cons, List.length_nil] at hl2
      have hf := feed_line (F := F) (G := G + 1) (b' := cps [dg x, dg y, dg z] m ++ (dg x :: dg y :: dg z :: 32 :: (List.replicate l 119 ++ 13 :: 10 :: []))) (t6 := []) (t7 := 0) (out := []) (n := n') (s := S0) (r := ⟨k, [] ++ List.replicate 20 [108]⟩) (sep := 45) (rest := [108]) hc hx hy hz h1 h2 (.inl rfl)
        (by decide) (by simp; omega) (by simp; omega) (by simp) (by simp)
      rw [if_neg (by rintro ⟨⟨-, q, -⟩, -⟩; simp at q), feed_bad] at hf
      simpa using hf
/-- the first text -/
theorem parse1 {F x' y' z' c' : Nat} (hc' : c' = 100 * x' + 10 * y' + z') (hx' : x' < 10) (hy' : y' < 10) (hz' : z' < 10) (h1' : 200 ≤ c') (h2' : c' ≤ 599) (hF : 2000 < F) :
    reply_Parse F (dg x :: dg y :: dg z :: 45 :: ([111, 110, 101] ++ 13 :: 10 :: (dg x' :: dg y' :: dg z' :: 32 :: ([116, 119, 111] ++ 13 :: 10 :: [])))) =
      some (if c = c' then (⟨c, [[111, 110, 101], [116, 119, 111]]⟩, 0) else (⟨0, []⟩, 3)) := by
  obtain ⟨G, hG⟩ : ∃ G, F = G + 3 := ⟨F - 3, by omega⟩
  have hf := feed_line (F := F) (G := G + 2) (b' := dg x' :: dg y' :: dg z' :: 32 :: ([116, 119, 111] ++ 13 :: 10 :: [])) (t6 := []) (t7 := 0) (out := []) (n := 0) (s := S0) (r := ⟨0, []⟩) (sep := 45) (rest := [111, 110, 101]) hc hx hy hz h1 h2 (.inl rfl)
    (by decide) (by simp) (by simp; omega) (by simp) (by simp)
  rw [if_pos ⟨⟨by decide, by simp, .inl rfl⟩, by simp⟩, if_pos rfl] at hf
  have hf2 := feed_line (F := F) (G := G + 1) (b' := []) (t6 := []) (t7 := 0) (out := []) (n := IntKind.wrap .i64 (0 + (([111, 110, 101] : List UInt8).length : Int))) (s := S0) (r := ⟨c, [] ++ [[111, 110, 101]]⟩) (sep := 32) (rest := [116, 119, 111]) hc' hx' hy' hz' h1' h2' (.inr rfl)
    (by decide) (by simp) (by simp; omega) (by simp) (by simp)
  by_cases he : c = c'
  · subst he
    rw [if_pos ⟨⟨by decide, by simp, .inr rfl⟩, by simp⟩, if_neg (by decide), feed_end (by omega)] at hf2
    rw [if_pos rfl]
    refine parse_one ?_
    exact (congrArg (fun k => iter (reply_Reader_Feed_l1 F) k _) hG).trans (hf.trans hf2)
  · rw [if_neg (by rintro ⟨⟨-, -, q⟩, -⟩; simp at q; omega), feed_bad] at hf2
    rw [if_neg he]
    refine parse_bad (o := []) (s := S0) (s' := S0) (r := ⟨0, []⟩) (n := 0) (x := true) ?_
    exact (congrArg (fun k => iter (reply_Reader_Feed_l1 F) k _) hG).trans (hf.trans hf2)
end

theorem codes_law (a b n l : Int) : ∃ F, law16_ReplyCodes F a b n l = some true := by
  obtain ⟨F, hF, hk⟩ : ∃ F, 2000 < F ∧ law16_known F = some true := ⟨4900 + 100, by omega, known_eq 4900⟩
  refine ⟨F, ?_⟩
  unfold law16_ReplyCodes
  rw [hk, Option.bind_some]
  simp only [Bool.not_true, Bool.false_eq_true, if_false]
  by_cases hr : 200 ≤ a ∧ a ≤ 599 ∧ 200 ≤ b ∧ b ≤ 599 ∧ 1 ≤ n ∧ n ≤ 40 ∧ 0 ≤ l ∧ l ≤ 600
  · have hb : ((((((((decide (a < 200)) || (decide (599 < a))) || (decide (b < 200))) || (decide (599 < b))) || (decide (n < 1))) || (decide (40 < n))) || (decide (l < 0))) || (decide (600 < l))) = false := by
      simp only [Bool.or_eq_false_iff, decide_eq_false_iff_not]; omega
    simp only [hb, Bool.false_eq_true, if_false]
    obtain ⟨ra, ra2, rb, rb2, rn, rn2, rl, rl2⟩ := hr
    obtain ⟨c, rfl⟩ := Int.eq_ofNat_of_zero_le (show 0 ≤ a by omega)
    obtain ⟨c', rfl⟩ := Int.eq_ofNat_of_zero_le (show 0 ≤ b by omega)
    obtain ⟨n, rfl⟩ := Int.eq_ofNat_of_zero_le (show 0 ≤ n by omega)
    obtain ⟨l, rfl⟩ := Int.eq_ofNat_of_zero_le rl
    obtain ⟨x, y, z, hc, hx, hy, hz⟩ : ∃ x y z, c = 100 * x + 10 * y + z ∧ x < 10 ∧ y < 10 ∧ z < 10 := ⟨c / 100, c / 10 % 10, c % 10, by omega, by omega, by omega, by omega⟩
    obtain ⟨x', y', z', hc', hx', hy', hz'⟩ : ∃ x y z, c' = 100 * x + 10 * y + z ∧ x < 10 ∧ y < 10 ∧ z < 10 := ⟨c' / 100, c' / 10 % 10, c' % 10, by omega, by omega, by omega, by omega⟩
    have hd := digits_eq hc hx hy hz
    have hd' := digits_eq hc' hx' hy' hz'
    have p1 := parse1 hc hx hy hz (by omega) (by omega) hc' hx' hy' hz' (by omega) (by omega) hF
    have p2 := parse2 hc hx hy hz (by omega) (by omega) hF (n := n) (l := l) (by omega) (by omega) (by omega)
    have c1 : cat [dg x, dg y, dg z] [45, 111, 110, 101, 13, 10] = some ([dg x, dg y, dg z] ++ [45, 111, 110, 101, 13, 10]) := cat_ok (by simp)
    have c2 : cat ([dg x, dg y, dg z] ++ [45, 111, 110, 101, 13, 10]) [dg x', dg y', dg z'] = some (([dg x, dg y, dg z] ++ [45, 111, 110, 101, 13, 10]) ++ [dg x', dg y', dg z']) := cat_ok (by simp)
    have c3 : cat (([dg x, dg y, dg z] ++ [45, 111, 110, 101, 13, 10]) ++ [dg x', dg y', dg z']) [32, 116, 119, 111, 13, 10] = some ((([dg x, dg y, dg z] ++ [45, 111, 110, 101, 13, 10]) ++ [dg x', dg y', dg z']) ++ [32, 116, 119, 111, 13, 10]) := cat_ok (by simp)
    have e1 : (([dg x, dg y, dg z] ++ [45, 111, 110, 101, 13, 10]) ++ [dg x', dg y', dg z']) ++ [32, 116, 119, 111, 13, 10] = dg x :: dg y :: dg z :: 45 :: ([111, 110, 101] ++ 13 :: 10 :: (dg x' :: dg y' :: dg z' :: 32 :: ([116, 119, 111] ++ 13 :: 10 :: []))) := by simp
    rw [hd, Option.bind_some, c1, Option.bind_some, hd', Option.bind_some, c2, Option.bind_some, c3, Option.bind_some, e1]
    have hl1 := cps_len [dg x, dg y, dg z] (n - 1)
    simp only [List.length_cons, List.length_nil] at hl1
    have g1 := loop1 hd rfl (n := n) (by omega) (n - 1) 1 F [] (by omega) (by omega) (by simp; omega)
    have g2 := loop2 (l := l) (by omega) l 0 F [] (by omega) (by omega) (by simp; omega)
    simp only [List.nil_append] at g1 g2
    have d1 : cat (cps [dg x, dg y, dg z] (n - 1)) [dg x, dg y, dg z] = some (cps [dg x, dg y, dg z] (n - 1) ++ [dg x, dg y, dg z]) := cat_ok (by simp; omega)
    have d2 : cat (cps [dg x, dg y, dg z] (n - 1) ++ [dg x, dg y, dg z]) [32] = some (cps [dg x, dg y, dg z] (n - 1) ++ [dg x, dg y, dg z] ++ [32]) := cat_ok (by simp; omega)
    have d3 : cat (cps [dg x, dg y, dg z] (n - 1) ++ [dg x, dg y, dg z] ++ [32]) (List.replicate l 119) = some (cps [dg x, dg y, dg z] (n - 1) ++ [dg x, dg y, dg z] ++ [32] ++ List.replicate l 119) := cat_ok (by simp; omega)
    have d4 : cat (cps [dg x, dg y, dg z] (n - 1) ++ [dg x, dg y, dg z] ++ [32] ++ List.replicate l 119) [13, 10] = some (cps [dg x, dg y, dg z] (n - 1) ++ [dg x, dg y, dg z] ++ [32] ++ List.replicate l 119 ++ [13, 10]) := cat_ok (by simp; omega)
    have e2 : cps [dg x, dg y, dg z] (n - 1) ++ [dg x, dg y, dg z] ++ [32] ++ List.replicate l 119 ++ [13, 10] = cps [dg x, dg y, dg z] (n - 1) ++ (dg x :: dg y :: dg z :: 32 :: (List.replicate l 119 ++ 13 :: 10 :: [])) := by simp
    have cl := class_eq (c := (c : Int)) (by omega) (by omega)
    have hcl : IntKind.wrap .i64 (Int.tdiv (c : Int) 100) = Int.tdiv (c : Int) 100 := by
      rw [Int.tdiv_eq_ediv_of_nonneg (by omega)]; exact wr (by omega) (by omega)
    have tail : ((iter (law16_ReplyCodes_l1 (n : Int) (c : Int)) F (([] : List UInt8), 1)).bind fun o41 =>
        match o41 with
        | .inr s20 =>
          ((iter (law16_ReplyCodes_l2 (l : Int)) F (([] : List UInt8), 0)).bind fun o40 =>
          match o40 with
          | .inr t25 =>
            (law16_digits (c : Int)).bind fun r26 =>
            (cat s20 r26).bind fun x27 =>
            (cat x27 ([32] : List UInt8)).bind fun x28 =>
            (cat x28 t25).bind fun x29 =>
            (cat x29 ([13, 10] : List UInt8)).bind fun x30 =>
            (reply_Parse F x30).bind fun (r31, r32) =>
            (law16_ReplyCodes_p4 r32 (n : Int) (l : Int) (c : Int) r31 t25).bind fun t39 =>
            some t39
          | .inl _ => none)
        | .inl _ => none) = some true := by
      rw [show ((1 : Int)) = ((1 : Nat) : Int) from rfl, g1, Option.bind_some]
      dsimp only
      rw [show ((0 : Int)) = ((0 : Nat) : Int) from rfl, g2, Option.bind_some]
      dsimp only
      rw [hd, Option.bind_some, d1, Option.bind_some, d2, Option.bind_some, d3, Option.bind_some, d4, Option.bind_some, e2]
      by_cases h2 : n ≤ 20 ∧ l ≤ 480
      · rw [if_pos h2] at p2
        rw [p2, Option.bind_some]
        dsimp only
        obtain ⟨q1, q2⟩ := h2
        have q3 : (n : Int) ≤ 20 := by omega
        have q4 : (l : Int) ≤ 480 := by omega
        have hi : idx (List.replicate (n - 1) [108] ++ [List.replicate l 119]) (IntKind.wrap .i64 ((n : Int) - 1)) = some (List.replicate l (119 : UInt8)) := by
          rw [wr (by omega) (by omega), show (n : Int) - 1 = ((n - 1 : Nat) : Int) by omega, idx_nat]
          simp
        have hlen : (((List.replicate (n - 1) [108] ++ [List.replicate l (119 : UInt8)]).length : Nat) : Int) = (n : Int) := by simp; omega
        unfold law16_ReplyCodes_p4
        simp only [q3, q4, hlen, hi, cl.1, hcl, decide_true, Bool.and_self, beq_self_eq_true, if_true, Bool.not_true, Bool.false_eq_true, if_false, Option.bind_some]
      · rw [if_neg h2] at p2
        rw [p2, Option.bind_some]
        dsimp only
        have hq : (decide ((n : Int) ≤ 20) && decide ((l : Int) ≤ 480)) = false := by
          rw [Bool.and_eq_false_iff, decide_eq_false_iff_not, decide_eq_false_iff_not]; omega
        unfold law16_ReplyCodes_p4
        simp only [hq, cl.1, hcl, decide_true, Option.bind_some, Bool.not_false, if_true, show (decide ((3 : Int) = 0) == false) = true from rfl]
    rw [hd] at tail
    by_cases he : c = c'
    · subst he
      rw [if_pos rfl] at p1
      rw [p1, Option.bind_some]
      dsimp only
      rw [if_neg (by simp)]
      exact tail
    · have he' : ¬ ((c : Int) = (c' : Int)) := by omega
      rw [if_neg he] at p1
      rw [p1, Option.bind_some]
      dsimp only
      rw [if_neg (by simp [he'])]
      exact tail
  · have hb : ((((((((decide (a < 200)) || (decide (599 < a))) || (decide (b < 200))) || (decide (599 < b))) || (decide (n < 1))) || (decide (40 < n))) || (decide (l < 0))) || (decide (600 < l))) = true := by
      simp only [Bool.or_eq_true, decide_eq_true_eq]; omega
    simp only [hb, if_true]
end Go.Proofs.ReplyS
