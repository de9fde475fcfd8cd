import Derived.Test.YtfnnmecilcnloaaDoorAP13
set_option linter.unusedSimpArgs false
set_option linter.unusedVariables false
set_option linter.unusedSectionVars false
set_option linter.defProp false
set_option maxRecDepth 100000
namespace Go.Proofs.AddrS
open Go Go.Am Go.Proofs

theorem path_p1r (s : List UInt8) : ref14_Path_p1 s = some (!decide (nx s = 60)) := by
  unfold ref14_Path_p1
  cases s with
  | nil => simp [nx]
  | cons c r => rw [if_neg (by simp), show idx (c :: r) 0 = some c by simp [idx]]; rfl
theorem path_p2r (c : UInt8) (r : List UInt8) : ref14_Path_p2 (c :: r) = some (decide (nx r = 62)) := by
  unfold ref14_Path_p2
  cases r with
  | nil => simp [nx]
  | cons d t => rw [if_pos (by simp; omega), show idx (c :: d :: t) 1 = some d by simp [idx]]; rfl
theorem path_p3r {s r : List UInt8} {n : Nat} (h : At s n r) : ref14_Path_p3 (n : Int) s = some (!decide (nx r = 64)) := by
  unfold ref14_Path_p3
  rw [if_neg (by simp)]
  rcases at_cases h with ⟨rfl, h1⟩ | ⟨c, t, rfl, h1, h2⟩
  · rw [if_pos (by simp; omega)]; simp [nx]
  · rw [if_neg (by simp; omega), idx_get h2]; rfl
theorem path_p4r {s : List UInt8} {F : Nat} (hs : s.length ≤ 2100) (hF : 99010 < F) : ref14_Path_p4 F s (((s.takeWhile isDom).length : Nat) : Int) = some (!(shapeB (s.takeWhile isDom) && decide (nx (s.dropWhile isDom) = 62))) := by
  have hz := At.zero (s := s) (by omega)
  have htw := tw_len isDom s
  have hsk := hz.skip isDom
  rw [Nat.zero_add] at hsk
  unfold ref14_Path_p4
  rw [sub_to htw]
  have ht : s.take (s.takeWhile isDom).length = s.takeWhile isDom := by
    conv => lhs; arg 2; rw [← List.takeWhile_append_dropWhile (p := isDom) (l := s)]
    exact List.take_left ..
  rw [ht, Option.bind_some, shape_r (by omega) hF, Option.bind_some]
  cases shapeB (s.takeWhile isDom) with
  | false => rfl
  | true =>
    simp only [Bool.not_true, Bool.false_eq_true, if_false, Bool.true_and]
    rcases at_cases hsk with ⟨hr, h1⟩ | ⟨c, t, hr, h1, h2⟩
    · rw [hr, if_pos (by simp; omega)]; simp [nx]
    · rw [hr, if_neg (by simp; omega), idx_get h2]; rfl
theorem path_r {s : List UInt8} {F : Nat} (hs : s.length ≤ 2000) (hF : 99010 < F) : ref14_Path F s = some (pathV s) := by
  unfold ref14_Path pathV pathL
  rw [path_p1r, Option.bind_some]
  by_cases h60 : nx s = 60
  · obtain ⟨r, rfl⟩ := nx_cons h60 (by decide)
    have hz := At.zero (s := 60 :: r) (by omega)
    have hrl : r.length ≤ 2000 := by simp at hs; omega
    rw [if_neg (by simp [h60]), path_p2r, Option.bind_some, if_pos h60]
    simp only [List.drop_succ_cons, List.drop_zero]
    by_cases h62 : nx r = 62
    · obtain ⟨t, rfl⟩ := nx_cons h62 (by decide)
      have nullR : rightB ⟨[], []⟩ = true := by simp [rightB, nullB]
      rw [if_pos (by simpa using h62), if_pos h62, show (2 : Int) = ((2 : Nat) : Int) from rfl, sub_end hz.next.next.le]
      simp only [Option.bind_some, nullR, if_true]
      rfl
    · rw [if_neg (show ¬ (decide (nx r = 62) = true) by simpa using h62), if_neg h62, sub_one rfl, Option.bind_some]
      have hr := route_r (s := r) (F := F) (by omega) hF
      unfold boxL
      cases hrl1 : routeL r with
      | none =>
        rw [hrl1] at hr
        rw [hr]
        rfl
      | some r1 =>
        rw [hrl1] at hr
        obtain ⟨n, h1, h2⟩ := hr
        have hl1 := routeL_len hrl1
        have hle := h2.le
        rw [h1, Option.bind_some, if_neg (by simp), show (1 : Int) + (n : Int) = ((n : Nat) : Int) + ((1 : Nat) : Int) by simp; omega, wadd (by omega), sub_end (by simp; omega)]
        have hd : (60 :: r).drop (n + 1) = r1 := by rw [List.drop_succ_cons, h2.dr]
        rw [hd, Option.bind_some]
        have hl := local_rr (s := r1) (F := F) (by omega) hF
        simp only
        cases hll : localL r1 with
        | none =>
          rw [hll] at hl
          rw [hl]
          rfl
        | some x =>
          obtain ⟨l, r2⟩ := x
          rw [hll] at hl
          obtain ⟨n2, h3, h4⟩ := hl
          obtain ⟨hll1, hll2⟩ := localL_len hll
          rw [h3]
          simp only [Option.bind_some]
          rw [path_p3r h4, Option.bind_some]
          by_cases h64 : nx r2 = 64
          · obtain ⟨t, rfl⟩ := nx_cons h64 (by decide)
            have htl : t.length ≤ 2000 := by simp at hll2; omega
            have htw := tw_len isDom t
            rw [if_neg (by simp [h64]), wi (by have := h4.le; omega), sub_end h4.next.le, h4.next.dr, Option.bind_some, domain_r (by omega) (by omega), Option.bind_some, path_p4r (by omega) hF, Option.bind_some, if_pos h64]
            simp only [List.drop_succ_cons, List.drop_zero]
            unfold domainL
            cases hsh : shapeB (t.takeWhile isDom) with
            | false => simp
            | true =>
              simp only [Bool.true_and, if_true]
              by_cases h62' : nx (t.dropWhile isDom) = 62
              · have hzt := At.zero (s := t) (by omega)
                have hsk := hzt.skip isDom
                rw [Nat.zero_add] at hsk
                obtain ⟨u, hu⟩ := nx_cons h62' (by decide)
                rw [if_neg (by simp [h62']), if_pos h62', sub_to htw]
                have ht : t.take (t.takeWhile isDom).length = t.takeWhile isDom := by
                  conv => lhs; arg 2; rw [← List.takeWhile_append_dropWhile (p := isDom) (l := t)]
                  exact List.take_left ..
                rw [ht, Option.bind_some, right_r (by simp only; omega) (by simp only; omega) hF, Option.bind_some]
                simp only
                cases hR : rightB ⟨l, t.takeWhile isDom⟩ with
                | false => simp
                | true =>
                  rw [hu] at hsk
                  unfold ref14_Path_p5
                  rw [wi (by omega), sub_end hsk.next.le, hsk.next.dr, hu]
                  simp
              · rw [if_pos (by simp [h62']), if_neg h62']
          · rw [if_pos (by simp [h64]), if_neg h64]
  · rw [if_pos (by simp [h60]), if_neg h60]
theorem parse_r {s : List UInt8} {F : Nat} (hs : s.length ≤ 2000) (hF : 99010 < F) : ref14_Parse F s = some (parseV s) := by
  unfold ref14_Parse parseV
  rw [path_r hs hF, Option.bind_some]
  simp only
  by_cases h : (pathV s).2.2 = 0 ∧ (pathV s).2.1 ≠ []
  · rw [if_pos (by simpa using h), if_pos h]
  · rw [if_neg (by simpa using h), if_neg h]

/-! ### small letters -/
def low (c : UInt8) : UInt8 := if (decide (65 ≤ c) && decide (c ≤ 90)) = true then c + 32 else c
def Bf (s : List UInt8) (i : Nat) : List UInt8 := (s.map low).take i ++ s.drop i
theorem Bf_get {s : List UInt8} {i : Nat} (hi : i ≤ s.length) (j : Nat) : (Bf s i)[j]? = if j < i then (s.map low)[j]? else s[j]? := by
  unfold Bf
  have hl : ((s.map low).take i).length = i := by simp; omega
  by_cases h : j < i
  · rw [if_pos h, List.getElem?_append_left (by omega), List.getElem?_take_of_lt h]
  · rw [if_neg h, List.getElem?_append_right (by omega), hl, List.getElem?_drop]
    congr 1; omega
theorem Bf_len {s : List UInt8} {i : Nat} (hi : i ≤ s.length) : (Bf s i).length = s.length := by
  unfold Bf; simp; omega
theorem Bf_set {s : List UInt8} {i : Nat} (hi : i < s.length) {c : UInt8} (hc : s[i]? = some c) : (Bf s i).set i (low c) = Bf s (i + 1) := by
  apply List.ext_getElem?
  intro j
  rw [List.getElem?_set, Bf_get (by omega), Bf_get (by omega), Bf_len (by omega)]
  by_cases h : i = j
  · subst h
    rw [if_pos rfl, if_pos hi, if_pos (by omega), List.getElem?_map, hc]; rfl
  · rw [if_neg h]
    by_cases h2 : j < i
    · rw [if_pos h2, if_pos (by omega)]
    · rw [if_neg h2, if_neg (by omega)]
theorem Bf_all (s : List UInt8) : Bf s s.length = s.map low := by
  unfold Bf; rw [List.drop_length, List.append_nil, List.take_of_length_le (by simp)]
theorem low_or (c : UInt8) (h : (decide (65 ≤ c) && decide (c ≤ 90)) = true) : c ||| 32 = low c := by
  have := u8_all (p := fun c => !(decide (65 ≤ c) && decide (c ≤ 90)) || (c ||| 32 == low c)) (by kernel_rfl) c
  rw [h] at this
  simpa using this
theorem ixm_ok {n i : Nat} (h : i < n) : ixm n (i : Int) = some i := by unfold ixm; rw [if_pos (by omega)]; simp
theorem setx_ok {xs : List UInt8} {j : Nat} {c : UInt8} (h : j < xs.length) : setx xs j c = some (xs.set j c) := by unfold setx; rw [if_pos h]
theorem low_id {s : List UInt8} {i : Nat} {c : UInt8} (hi : i < s.length) (hc : s[i]? = some c) (h : ¬ (decide (65 ≤ c) && decide (c ≤ 90)) = true) : Bf s i = Bf s (i + 1) := by
  rw [← Bf_set hi hc]
  have hl : low c = c := by unfold low; rw [if_neg h]
  rw [hl]
  apply List.ext_getElem?
  intro j
  rw [List.getElem?_set, Bf_get (by omega), Bf_len (by omega)]
  by_cases h : i = j
  · subst h; rw [if_pos rfl, if_pos hi, if_neg (by omega), hc]
  · rw [if_neg h]
theorem low_a {s : List UInt8} {F : Nat} (hs : s.length ≤ 2100) (hF : s.length < F) : addr_Lower F s = some (s.map low) := by
  have hloop : ∀ (m i G : Nat), i + m = s.length → m < G → iter (addr_Lower_l1 s) G ((i : Int), Bf s i) = some (.inr (s.map low)) := by
    intro m
    induction m with
    | zero =>
      intro i G hi hG
      obtain ⟨G, rfl⟩ := F_succ hG
      have : i = s.length := by omega
      subst this
      rw [← Bf_all s]
      exact iter_brk (by simp only [addr_Lower_l1]; rw [if_neg (by simp)])
    | succ m ih =>
      intro i G hi hG
      obtain ⟨G, rfl⟩ := F_succ (show 0 < G by omega)
      have hil : i < s.length := by omega
      have hc : s[i]? = some s[i] := List.getElem?_eq_getElem hil
      have hst : addr_Lower_l1 s ((i : Int), Bf s i) = some (.nxt (((i + 1 : Nat) : Int), Bf s (i + 1))) := by
        simp only [addr_Lower_l1]
        rw [if_pos (by simpa using hil), ixm_ok hil, Option.bind_some, Bf_get (by omega), if_neg (by omega), hc, Option.bind_some, wi (by omega)]
        by_cases h : (decide (65 ≤ s[i]) && decide (s[i] ≤ 90)) = true
        · rw [if_pos h, setx_ok (by rw [Bf_len (by omega)]; exact hil), low_or _ h, Bf_set hil hc]; rfl
        · rw [if_neg h, low_id hil hc h]
      rw [iter_nxt hst]
      exact ih (i + 1) G (by omega) (by omega)
  unfold addr_Lower
  rw [show ((0 : Int), s) = (((0 : Nat) : Int), Bf s 0) by simp [Bf], hloop s.length 0 F (by omega) hF]
  simp only [Option.bind_some]
  rw [sub_to (j := s.length) (by simp), List.take_of_length_le (by simp)]
  rfl
theorem low_r {s : List UInt8} {F : Nat} (hs : s.length ≤ 2100) (hF : s.length < F) : ref14_Lower F s = some (s.map low) := by
  have hloop : ∀ (m i G : Nat), i + m = s.length → m < G → iter (ref14_Lower_l1 s) G ((i : Int), Bf s i) = some (.inr (s.map low)) := by
    intro m
    induction m with
    | zero =>
      intro i G hi hG
      obtain ⟨G, rfl⟩ := F_succ hG
      have : i = s.length := by omega
      subst this
      rw [← Bf_all s]
      exact iter_brk (by simp only [ref14_Lower_l1]; rw [if_neg (by simp)])
    | succ m ih =>
      intro i G hi hG
      obtain ⟨G, rfl⟩ := F_succ (show 0 < G by omega)
      have hil : i < s.length := by omega
      have hc : s[i]? = some s[i] := List.getElem?_eq_getElem hil
      have hp : ref14_Lower_p1 s (i : Int) (Bf s i) = some (decide (65 ≤ s[i]) && decide (s[i] ≤ 90)) := by
        unfold ref14_Lower_p1
        rw [ixm_ok hil, Option.bind_some, Bf_get (by omega), if_neg (by omega), hc, Option.bind_some]
        by_cases h : 65 ≤ s[i] <;> simp [h]
      have hst : ref14_Lower_l1 s ((i : Int), Bf s i) = some (.nxt (((i + 1 : Nat) : Int), Bf s (i + 1))) := by
        simp only [ref14_Lower_l1]
        rw [if_pos (by simpa using hil), hp, Option.bind_some]
        by_cases h : (decide (65 ≤ s[i]) && decide (s[i] ≤ 90)) = true
        · have hl : s[i] + 32 = low s[i] := by unfold low; rw [if_pos h]
          rw [if_pos h, ixm_ok hil, Option.bind_some, Bf_get (by omega), if_neg (by omega), hc, Option.bind_some, setx_ok (by rw [Bf_len (by omega)]; exact hil), hl, Bf_set hil hc, Option.bind_some, wi (by omega)]
        · rw [if_neg h, low_id hil hc h, wi (by omega)]
      rw [iter_nxt hst]
      exact ih (i + 1) G (by omega) (by omega)
  unfold ref14_Lower
  rw [show ((0 : Int), s) = (((0 : Nat) : Int), Bf s 0) by simp [Bf], hloop s.length 0 F (by omega) hF]
  simp only [Option.bind_some]
  rw [sub_to (j := s.length) (by simp), List.take_of_length_le (by simp)]
  rfl
theorem texts_ok (s : List UInt8) : ∃ F, law14_AddrTexts F s = some true := by
  refine ⟨200000 + 100, ?_⟩
  unfold law14_AddrTexts
  rw [known_eq, Option.bind_some]
  simp only [Bool.not_true, Bool.false_eq_true, if_false]
  by_cases h : 2000 < s.length
  · rw [if_pos (by simp; omega)]
  · rw [if_neg (by simp; omega), path_ok (by omega) (by omega), path_r (by omega) (by omega), parse_ok (by omega) (by omega), parse_r (by omega) (by omega)]
    simp only [Option.bind_some]
    unfold law14_AddrTexts_p1
    rw [dom_a (by omega) (by omega), dom_r2 (by omega), local_a (by omega), local_r (by omega), low_a (by omega) (by omega), low_r (by omega) (by omega)]
    simp
end Go.Proofs.AddrS
