import Derived.Test.YtfnnmecilcnloaaDoorAP7
set_option linter.unusedSimpArgs false
set_option linter.unusedVariables false
set_option linter.unusedSectionVars false
set_option linter.defProp false
set_option maxRecDepth 100000
namespace Go.Proofs.AddrS
open Go Go.Am Go.Proofs

theorem qL_len : ∀ (k : Nat) (r b rest : List UInt8), r.length ≤ k → qL r = some (b, rest) → b.length + rest.length ≤ r.length := by
  intro k
  induction k with
  | zero =>
    intro r b rest hk h
    have hr : r = [] := List.length_eq_zero_iff.1 (by omega)
    subst hr; cases h
  | succ k ih =>
    intro r b rest hk h
    match r, hk, h with
    | [], hk, h => cases h
    | c :: r, hk, h =>
      rw [qL_cons] at h
      simp only [List.length_cons] at hk ⊢
      split at h
      · injection h with h; injection h with h1 h2; subst h1 h2; simp
      · split at h
        · match r, hk, h with
          | [], hk, h => cases h
          | d :: r', hk, h =>
            simp only at h
            split at h
            · simp only [Option.map_eq_some_iff] at h
              obtain ⟨⟨b', rest'⟩, h1, h2⟩ := h
              injection h2 with h2 h3
              subst h2 h3
              have := ih r' b' rest' (by simp at hk; omega) h1
              simp; omega
            · cases h
        · split at h
          · simp only [Option.map_eq_some_iff] at h
            obtain ⟨⟨b', rest'⟩, h1, h2⟩ := h
            injection h2 with h2 h3
            subst h2 h3
            have := ih r b' rest' (by omega) h1
            simp; omega
          · cases h
theorem dw_len (q : UInt8 → Bool) (r : List UInt8) : (r.dropWhile q).length ≤ r.length := (List.dropWhile_suffix q).length_le
theorem localL_len {r b t : List UInt8} (h : localL r = some (b, t)) : b.length ≤ r.length ∧ t.length ≤ r.length := by
  unfold localL at h
  split at h
  · split at h
    · rename_i b' rest' hq
      have := qL_len _ _ _ _ (Nat.le_refl _) hq
      have hd : (r.drop 1).length ≤ r.length := by simp
      split at h
      · cases h
      · injection h with h; injection h with h1 h2; subst h1 h2; omega
    · cases h
  · split at h
    · injection h with h; injection h with h1 h2; subst h1 h2
      exact ⟨tw_len _ _, dw_len _ _⟩
    · cases h
theorem domainL_len2 {r b t : List UInt8} (h : domainL r = some (b, t)) : b.length ≤ r.length := by
  unfold domainL at h
  split at h
  · injection h with h; injection h with h1 _; subst h1; exact tw_len _ _
  · cases h
theorem rtGo_len : ∀ (k : Nat) (r r' : List UInt8), rtGo k r = some r' → r'.length ≤ r.length := by
  intro k
  induction k with
  | zero => intro r r' h; cases h
  | succ k ih =>
    intro r r' h
    simp only [rtGo] at h
    split at h
    · split at h
      · cases h
      · rename_i b r2 hd
        have h1 := domainL_len hd
        have h2 : (r.drop 1).length ≤ r.length := by simp
        have h3 : (r2.drop 1).length ≤ r2.length := by simp
        split at h
        · have := ih _ _ h; omega
        · split at h
          · injection h with h; subst h; omega
          · cases h
    · cases h
theorem routeL_len {r r' : List UInt8} (h : routeL r = some r') : r'.length ≤ r.length := by
  unfold routeL at h
  split at h
  · exact rtGo_len _ _ _ h
  · injection h with h; subst h; exact Nat.le_refl _
theorem boxL_len {r rest : List UInt8} {a : AddressV} (h : boxL r = some (a, rest)) : a.local0.length ≤ r.length ∧ a.domain.length ≤ r.length := by
  unfold boxL at h
  split at h
  · cases h
  · rename_i r1 hr
    have h1 := routeL_len hr
    split at h
    · cases h
    · rename_i l r2 hl
      have h2 := localL_len hl
      split at h
      · split at h
        · cases h
        · rename_i d r3 hd
          have h3 := domainL_len2 hd
          have h4 : (r2.drop 1).length ≤ r2.length := by simp
          split at h
          · injection h with h; injection h with h5 _; subst h5; simp only; omega
          · cases h
      · cases h
theorem path_ok {s : List UInt8} {F : Nat} (hs : s.length ≤ 40000) (hF : 2 * s.length + 10 < F) : addr_Path F s = some (pathV s) := by
  have hz := At.zero (s := s) (by omega)
  have nullR : rightB ⟨[], []⟩ = true := by simp [rightB, nullB]
  unfold addr_Path pathV pathL
  rw [show (ScannerV.mk s 0 false) = ⟨s, ((0 : Nat) : Int), false⟩ from rfl]
  by_cases h60 : nx s = 60
  · obtain ⟨r, rfl⟩ := nx_cons h60 (by decide)
    rw [want_y hz, Option.bind_some, if_pos h60]
    simp only [List.drop_succ_cons, List.drop_zero]
    have h1 := hz.next
    by_cases h62 : nx r = 62
    · obtain ⟨t, rfl⟩ := nx_cons h62 (by decide)
      rw [takes_y h1, if_pos h62]
      simp only [Option.bind_some, addr_Path_p1, Bool.not_true, Bool.false_eq_true, if_false]
      rw [right_ok (a := ⟨[], []⟩) (by simp) (by simp) (by simp; omega), nullR]
      simp only [Option.bind_some, Bool.not_true, Bool.false_eq_true, if_false, addr_Path_p2]
      rw [sub_end h1.next.le]
      simp
    · rw [takes_n h1 h62, if_neg h62]
      simp only [Option.bind_some]
      have hp := p1_ok (F := F) h1 (by omega)
      cases hb : boxL r with
      | none =>
        rw [hb] at hp
        obtain ⟨a, n', h2, h3⟩ := hp
        rw [h2]
        rfl
      | some x =>
        obtain ⟨a, rest⟩ := x
        rw [hb] at hp
        obtain ⟨n', h2, h3⟩ := hp
        obtain ⟨hl1, hl2⟩ := boxL_len hb
        simp only [List.length_cons] at hs hF
        rw [h2]
        simp only [Option.bind_some, Bool.false_eq_true, if_false]
        rw [right_ok (by omega) (by omega) (by omega), Option.bind_some]
        cases hr : rightB a with
        | false => simp
        | true =>
          simp only [Bool.not_true, Bool.false_eq_true, if_false, addr_Path_p2, if_true]
          rw [sub_end h3.le, h3.dr]
          rfl
  · rw [want_n hz h60, Option.bind_some, if_neg h60, takes_bad (by decide)]
    simp only [Option.bind_some, addr_Path_p1, Bool.not_false, if_true]
    rw [route_bad0 (by omega), Option.bind_some]
    obtain ⟨b, h3⟩ := local_bad (s := s) (n := 0) (F := F) (Nat.zero_le _) (by omega)
    rw [h3]
    simp only [Option.bind_some]
    rw [want_bad, Option.bind_some, domain_bad (Nat.zero_le _) (by omega)]
    simp only [Option.bind_some]
    rw [want_bad]
    simp
def parseV (s : List UInt8) : AddressV × Int := if (pathV s).2.2 = 0 ∧ (pathV s).2.1 ≠ [] then (⟨[], []⟩, 3) else ((pathV s).1, (pathV s).2.2)
theorem parse_ok {s : List UInt8} {F : Nat} (hs : s.length ≤ 40000) (hF : 2 * s.length + 10 < F) : addr_Parse F s = some (parseV s) := by
  unfold addr_Parse parseV
  rw [path_ok hs hF, Option.bind_some]
  simp only
  by_cases h : (pathV s).2.2 = 0 ∧ (pathV s).2.1 ≠ []
  · rw [if_pos (by simpa using h), if_pos h]
  · rw [if_neg (by simpa using h), if_neg h]

/-! ### what is told is read -/
theorem tw_app {q : UInt8 → Bool} {l : List UInt8} {x : UInt8} (hx : q x = false) (h : ∀ c ∈ l, q c = true) (t : List UInt8) : (l ++ x :: t).takeWhile q = l ∧ (l ++ x :: t).dropWhile q = x :: t := by
  induction l with
  | nil => simp [hx]
  | cons c l ih =>
    obtain ⟨h1, h2⟩ := ih fun y hy => h y (by simp [hy])
    have := h c (by simp)
    simp [this, h1, h2]
theorem atm_facts (c : UInt8) : isAtm c = true → isLoc c = true ∧ c ≠ 62 ∧ c ≠ 64 ∧ c ≠ 34 := by
  have := u8_all (p := fun c => !isAtm c || (isLoc c && c != 62 && c != 64 && c != 34)) (by kernel_rfl) c
  intro h
  rw [h] at this
  simp at this
  exact ⟨this.1.1.1, this.1.1.2, this.1.2, this.2⟩
theorem plain_loc {l : List UInt8} (h : plainB l = true) : ∀ c ∈ l, isLoc c = true := by
  intro c hc
  rcases mem_split l c hc with rfl | ⟨p, hp, hcp⟩
  · decide
  · have := List.all_eq_true.1 h p hp
    simp only [Bool.and_eq_true] at this
    exact (atm_facts c (List.all_eq_true.1 this.2 c hcp)).1
theorem plain_head {l : List UInt8} (h : plainB l = true) : ∃ c t, l = c :: t ∧ isAtm c = true := by
  cases l with
  | nil => simp [plainB, splitD] at h
  | cons c t =>
    refine ⟨c, t, rfl, ?_⟩
    unfold plainB at h
    simp only [splitD] at h
    by_cases hc : c = 46
    · rw [if_pos hc] at h; simp at h
    · rw [if_neg hc] at h
      cases hs : splitD t with
      | nil => exact absurd hs (splitD_ne t)
      | cons x y => rw [hs] at h; simp at h; exact h.1.1
theorem W_dom (c : UInt8) : (isW c = true → isDom c = true) ∧ (isD c = true → isDom c = true) := by
  have := u8_all (p := fun c => (!isW c || isDom c) && (!isD c || isDom c)) (by kernel_rfl) c
  simp at this
  exact ⟨fun h => by simpa [h] using this.1, fun h => by simpa [h] using this.2⟩
theorem drop_last {l : List UInt8} {x : UInt8} (h : l.getLast? = some x) : l.dropLast ++ [x] = l := by
  have hne : l ≠ [] := by intro h0; subst h0; cases h
  have h2 := List.dropLast_concat_getLast hne
  rw [List.getLast?_eq_some_getLast hne] at h
  injection h with h
  rw [← h]; exact h2
theorem in_form {d : List UInt8} (h : inB d = true) : d = 91 :: (inner d ++ [93]) := by
  simp only [inB, Bool.and_eq_true, decide_eq_true_eq, beq_iff_eq] at h
  cases d with
  | nil => simp at h
  | cons c r =>
    obtain ⟨⟨h1, h2⟩, h3⟩ := h
    simp at h2
    subst h2
    cases r with
    | nil => simp at h1
    | cons a t =>
      rw [List.getLast?_cons_cons] at h3
      simp only [inner, List.drop_succ_cons, List.drop_zero]
      rw [drop_last h3]
theorem dom_isDom {d : List UInt8} (h : domB d = true) : ∀ c ∈ d, isDom c = true := by
  intro c hc
  simp only [domB, Bool.and_eq_true] at h
  have hs := h.1.2
  unfold shapeB at hs
  by_cases hi : inB d = true
  · rw [if_pos hi] at hs
    simp only [Bool.and_eq_true] at hs
    rw [in_form hi] at hc
    rcases List.mem_cons.1 hc with rfl | hc
    · decide
    · rcases List.mem_append.1 hc with hc | hc
      · rcases mem_split _ c hc with rfl | ⟨p, hp, hcp⟩
        · decide
        · exact (W_dom c).2 (List.all_eq_true.1 (num_facts (List.all_eq_true.1 hs.2 p hp)).2.1 c hcp)
      · simp at hc; subst hc; decide
  · rw [if_neg hi] at hs
    rcases mem_split _ c hc with rfl | ⟨p, hp, hcp⟩
    · decide
    · have := List.all_eq_true.1 hs p hp
      simp only [labB, Bool.and_eq_true] at this
      exact (W_dom c).1 (List.all_eq_true.1 this.2 c hcp)
theorem domain_read {d : List UInt8} (h : domB d = true) {x : UInt8} (hx : isDom x = false) (t : List UInt8) : domainL (d ++ x :: t) = some (d, x :: t) := by
  obtain ⟨h1, h2⟩ := tw_app hx (dom_isDom h) t
  unfold domainL
  rw [h1, h2, if_pos]
  simp only [domB, Bool.and_eq_true] at h
  exact h.1.2
theorem qL_esc {l : List UInt8} (h : l.all isVis = true) (rest : List UInt8) : qL (esc l ++ 34 :: rest) = some (l, rest) := by
  induction l with
  | nil => simp [esc, qL_cons]
  | cons c l ih =>
    simp only [List.all_cons, Bool.and_eq_true] at h
    have ih := ih h.2
    simp only [esc, List.flatMap_cons, List.append_assoc] at ih ⊢
    by_cases hc : c = 34 ∨ c = 92
    · rw [if_pos hc]
      simp only [List.cons_append, List.nil_append]
      rw [qL_cons, if_neg (by decide), if_pos rfl]
      simp only [h.1, if_true, ih, Option.map_some]
    · rw [if_neg hc]
      simp only [List.cons_append, List.nil_append]
      rw [qL_cons, if_neg fun h => hc (.inl h), if_neg fun h => hc (.inr h)]
      simp only [h.1, if_true, ih, Option.map_some]
theorem box_read {a : AddressV} (hn : nullB a = false) (h : rightB a = true) (more : List UInt8) : ∃ r, toldB a = 60 :: r ∧ nx r ≠ 62 ∧ nx r ≠ 64 ∧ (∀ r', routeL r' = some (r ++ more) → boxL r' = some (a, more)) := by
  simp only [rightB, hn, Bool.false_or, Bool.and_eq_true] at h
  obtain ⟨⟨hl, hd⟩, -⟩ := h
  simp only [locB, Bool.and_eq_true] at hl
  unfold toldB
  cases hp : plainB a.local0 with
  | true =>
    obtain ⟨c, t, ht, hc⟩ := plain_head hp
    obtain ⟨-, h62, h64, h34⟩ := atm_facts c hc
    refine ⟨a.local0 ++ 64 :: (a.domain ++ [62]), by simp, ?_, ?_, ?_⟩
    · rw [ht]; simpa [nx] using h62
    · rw [ht]; simpa [nx] using h64
    · intro r' hr'
      have e : (a.local0 ++ 64 :: (a.domain ++ [62])) ++ more = a.local0 ++ 64 :: (a.domain ++ 62 :: more) := by simp
      obtain ⟨h1, h2⟩ := tw_app (q := isLoc) (x := 64) (by decide) (plain_loc hp) (a.domain ++ 62 :: more)
      unfold boxL
      rw [hr', e]
      have hloc : localL (a.local0 ++ 64 :: (a.domain ++ 62 :: more)) = some (a.local0, 64 :: (a.domain ++ 62 :: more)) := by
        unfold localL
        rw [if_neg (by rw [ht]; simpa [nx] using h34), h1, h2, if_pos hp]
      simp only [hloc]
      rw [if_pos (show nx (64 :: (a.domain ++ 62 :: more)) = 64 from rfl)]
      simp only [List.drop_succ_cons, List.drop_zero]
      rw [domain_read hd (by decide)]
      rfl
  | false =>
    refine ⟨34 :: (esc a.local0 ++ 34 :: 64 :: (a.domain ++ [62])), by simp, by simp [nx], by simp [nx], ?_⟩
    intro r' hr'
    have e : (34 :: (esc a.local0 ++ 34 :: 64 :: (a.domain ++ [62]))) ++ more = 34 :: (esc a.local0 ++ 34 :: 64 :: (a.domain ++ 62 :: more)) := by simp
    unfold boxL
    rw [hr', e]
    have hloc : localL (34 :: (esc a.local0 ++ 34 :: 64 :: (a.domain ++ 62 :: more))) = some (a.local0, 64 :: (a.domain ++ 62 :: more)) := by
      unfold localL
      rw [if_pos (show nx (34 :: (esc a.local0 ++ 34 :: 64 :: (a.domain ++ 62 :: more))) = 34 from rfl)]
      simp only [List.drop_succ_cons, List.drop_zero]
      rw [qL_esc hl.2]
      simp only
      rw [if_neg (by simpa using hl.1.1)]
    simp only [hloc]
    rw [if_pos (show nx (64 :: (a.domain ++ 62 :: more)) = 64 from rfl)]
    simp only [List.drop_succ_cons, List.drop_zero]
    rw [domain_read hd (by decide)]
    rfl
theorem told_read {a : AddressV} (hn : nullB a = false) (h : rightB a = true) (more : List UInt8) : pathV (toldB a ++ more) = (a, more, 0) := by
  obtain ⟨r, hr, h62, h64, hb⟩ := box_read hn h more
  have hrne : r ≠ [] := by
    intro hr0
    subst hr0
    unfold toldB at hr
    split at hr
    · injection hr with _ hr; simp at hr
    · injection hr with _ hr; simp at hr
  have hnx : nx (r ++ more) = nx r := by
    cases r with
    | nil => exact absurd rfl hrne
    | cons => rfl
  unfold pathV pathL
  rw [hr, List.cons_append, if_pos (show nx (60 :: (r ++ more)) = 60 from rfl)]
  simp only [List.drop_succ_cons, List.drop_zero]
  rw [if_neg (by rw [hnx]; exact h62), hb (r ++ more) (by unfold routeL; rw [if_neg (by rw [hnx]; exact h64)])]
  simp only
  rw [if_pos h]
theorem print_ok {a : AddressV} {F : Nat} (hl : a.local0.length ≤ 40000) (hd : a.domain.length ≤ 40000) (hF : a.local0.length + a.domain.length + 1 < F) : addr_Print F a = some (if nullB a then [60, 62] else if rightB a then toldB a else []) := by
  unfold addr_Print
  rw [null_a, Option.bind_some]
  cases nullB a with
  | true => rfl
  | false =>
    simp only [Bool.false_eq_true, if_false]
    rw [right_ok (by omega) (by omega) hF, Option.bind_some]
    cases rightB a with
    | false => rfl
    | true =>
      simp only [Bool.not_true, Bool.false_eq_true, if_false, if_true]
      rw [told_ok (by omega) (by omega) (by omega)]
      rfl
end Go.Proofs.AddrS
