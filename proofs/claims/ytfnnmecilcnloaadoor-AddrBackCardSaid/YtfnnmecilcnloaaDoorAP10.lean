import Derived.Test.YtfnnmecilcnloaaDoorAP12
import Derived.Test.YtfnnmecilcnloaaDoorASAddrBack
set_option linter.unusedSimpArgs false
set_option linter.unusedVariables false
set_option linter.unusedSectionVars false
set_option linter.defProp false
set_option maxRecDepth 100000
namespace Go.Proofs.AddrS
open Go Go.Am Go.Proofs

/-! ### hops -/
def hopsT : List (List UInt8) → List UInt8
  | [] => []
  | [h] => 64 :: h
  | h :: g :: t => 64 :: (h ++ 44 :: hopsT (g :: t))
theorem hopsT_snoc (l : List (List UInt8)) (h : List UInt8) : hopsT (l ++ [h]) = if l = [] then 64 :: h else hopsT l ++ 44 :: 64 :: h := by
  induction l with
  | nil => rfl
  | cons a l ih =>
    cases l with
    | nil => simp [hopsT]
    | cons b l =>
      simp only [List.cons_append] at ih ⊢
      simp only [hopsT, ih]
      simp
theorem rt_step {k : Nat} {h t : List UInt8} {x : UInt8} (hd : domB h = true) (hx : isDom x = false) : rtGo (k + 1) (64 :: (h ++ x :: t)) = if x = 44 then rtGo k t else if x = 58 then some t else none := by
  simp only [rtGo]
  rw [if_pos (show nx (64 :: (h ++ x :: t)) = 64 from rfl)]
  simp only [List.drop_succ_cons, List.drop_zero]
  rw [domain_read hd hx]
  simp only [nx, List.drop_succ_cons, List.drop_zero]
theorem hops_go {rest : List UInt8} : ∀ (l : List (List UInt8)) (k : Nat), l ≠ [] → (∀ h ∈ l, domB h = true) → l.length ≤ k → rtGo k (hopsT l ++ 58 :: rest) = some rest := by
  intro l
  induction l with
  | nil => intro k h; exact absurd rfl h
  | cons h l ih =>
    intro k _ hd hk
    obtain ⟨k, rfl⟩ : ∃ j, k = j + 1 := ⟨k - 1, by simp at hk; omega⟩
    cases l with
    | nil =>
      show rtGo (k + 1) (64 :: (h ++ 58 :: rest)) = some rest
      rw [rt_step (hd h (by simp)) (by decide), if_neg (by decide), if_pos rfl]
    | cons g t =>
      have e : hopsT (h :: g :: t) ++ 58 :: rest = 64 :: (h ++ 44 :: (hopsT (g :: t) ++ 58 :: rest)) := by simp [hopsT]
      rw [e, rt_step (hd h (by simp)) (by decide), if_pos rfl]
      exact ih k (by simp) (fun x hx => hd x (by simp [hx])) (by simp at hk ⊢; omega)
theorem hopsT_len (l : List (List UInt8)) : l.length ≤ (hopsT l).length := by
  induction l with
  | nil => simp
  | cons a l ih =>
    cases l with
    | nil => simp [hopsT]
    | cons b l => simp only [hopsT, List.length_cons, List.length_append] at ih ⊢; omega
theorem domB_len {d : List UInt8} (h : domB d = true) : d.length ≤ 255 := by
  simp only [domB, Bool.and_eq_true, decide_eq_true_eq] at h; exact h.1.1
theorem hop_loop {F : Nat} {hops : List (List UInt8)} (hF : 99010 < F) (hl : hops.length ≤ 10) : ∀ (m i G : Nat), i + m = hops.length → m < G → (∀ h ∈ hops.take i, domB h = true) → (hopsT (hops.take i)).length ≤ 260 * i →
    (iter (law14_AddrBack_l1 F hops) G (hopsT (hops.take i), (i : Int)) = some (.inl true)) ∨ (iter (law14_AddrBack_l1 F hops) G (hopsT (hops.take i), (i : Int)) = some (.inr (hopsT hops)) ∧ (∀ h ∈ hops, domB h = true) ∧ (hopsT hops).length ≤ 260 * hops.length) := by
  intro m
  induction m with
  | zero =>
    intro i G hi hG hd hln
    obtain ⟨G, rfl⟩ := F_succ hG
    have hi' : i = hops.length := by omega
    subst hi'
    rw [List.take_length] at hd hln ⊢
    refine .inr ⟨iter_brk ?_, hd, hln⟩
    simp only [law14_AddrBack_l1]
    rw [if_neg (by simp)]
  | succ m ih =>
    intro i G hi hG hd hln
    obtain ⟨G, rfl⟩ := F_succ (show 0 < G by omega)
    have hil : i < hops.length := by omega
    have hb : law14_AddrBack_l1 F hops (hopsT (hops.take i), (i : Int)) = if (!domB hops[i]) = true then some (.ret true) else (if decide (0 < (i : Int)) = true then
          (cat (hopsT (hops.take i)) ([44] : List UInt8)).bind fun x23 => (cat x23 ([64] : List UInt8)).bind fun x24 => (cat x24 hops[i]).bind fun x25 => some (.nxt (x25, (IntKind.wrap .i64 ((i : Int) + 1))))
        else (cat (hopsT (hops.take i)) ([64] : List UInt8)).bind fun x26 => (cat x26 hops[i]).bind fun x27 => some (.nxt (x27, (IntKind.wrap .i64 ((i : Int) + 1))))) := by
      simp only [law14_AddrBack_l1]
      rw [if_pos (by simpa using hil), idx_lt hil, Option.bind_some, dom_r2 hF, Option.bind_some]
    cases hdom : domB hops[i] with
    | false =>
      rw [hdom] at hb
      exact .inl (iter_ret (by rw [hb]; rfl))
    | true =>
      rw [hdom] at hb
      have h255 := domB_len hdom
      have htk : hops.take (i + 1) = hops.take i ++ [hops[i]] := List.take_succ_eq_append_getElem hil
      have hstep : law14_AddrBack_l1 F hops (hopsT (hops.take i), (i : Int)) = some (.nxt (hopsT (hops.take (i + 1)), ((i + 1 : Nat) : Int))) := by
        rw [hb, htk, hopsT_snoc]
        simp only [Bool.not_true, Bool.false_eq_true, if_false]
        by_cases h0 : 0 < i
        · have hne : hops.take i ≠ [] := by
            intro h
            have := congrArg List.length h
            rw [List.length_take, List.length_nil] at this; omega
          rw [if_pos (by simpa using h0), cat_ok (by simp; omega), Option.bind_some, cat_ok (by simp; omega), Option.bind_some, cat_ok (by simp; omega), Option.bind_some, wi (by omega), if_neg hne]
          simp
        · have h00 : i = 0 := by omega
          subst h00
          rw [if_neg (by simp), cat_ok (by simp [hopsT]), Option.bind_some, cat_ok (by simp [hopsT]; omega), Option.bind_some, wi (by omega), if_pos (by simp)]
          simp [hopsT]
      rw [iter_nxt hstep]
      refine ih (i + 1) G (by omega) (by omega) ?_ ?_
      · intro h hh
        rw [htk] at hh
        rcases List.mem_append.1 hh with hh | hh
        · exact hd h hh
        · simp at hh; subst hh; exact hdom
      · rw [htk, hopsT_snoc]
        split
        · simp; omega
        · simp; omega
theorem toldB_len1 (a : AddressV) : (toldB a).length ≤ 2 * a.local0.length + a.domain.length + 5 := by
  have := esc_len a.local0
  unfold toldB
  split <;> simp <;> omega
theorem back_ok (a : AddressV) (more : List UInt8) (hops : List (List UInt8)) : ∃ F, law14_AddrBack F a more hops = some true := by
  refine ⟨200000 + 100, ?_⟩
  unfold law14_AddrBack
  rw [known_eq, Option.bind_some]
  simp only [Bool.not_true, Bool.false_eq_true, if_false]
  by_cases hg : (a.local0.length ≤ 400 ∧ a.domain.length ≤ 600) ∧ more.length ≤ 300 ∧ hops.length ≤ 10 ∧ rightB a = true
  · obtain ⟨⟨g1, g2⟩, g3, g4, g5⟩ := hg
    have hp1 : law14_AddrBack_p1 (200000 + 100) a more hops = some false := by
      unfold law14_AddrBack_p1 law14_Few
      simp only [Option.bind_some]
      rw [decide_eq_true (by omega), decide_eq_true (by omega)]
      simp only [Bool.and_self, Bool.not_true, Bool.false_eq_true, if_false]
      rw [if_neg (by simp; omega), if_neg (by simp; omega), right_r (by omega) (by omega) (by omega), g5]
      rfl
    rw [hp1]
    simp only [Option.bind_some, Bool.false_eq_true, if_false]
    rw [print_ok (by omega) (by omega) (by omega), g5]
    simp only [Option.bind_some, if_true]
    have hT : ∀ t : List UInt8, t = (if nullB a = true then [60, 62] else toldB a) → t.length ≤ 1500 ∧ 2 ≤ t.length ∧ pathV (t ++ more) = (a, more, 0) := by
      intro t ht
      have h1 := toldB_len1 a
      by_cases hn : nullB a = true
      · rw [if_pos hn] at ht
        subst ht
        refine ⟨by simp, by simp, ?_⟩
        have ha : a = ⟨[], []⟩ := by
          simp only [nullB, Bool.and_eq_true, decide_eq_true_eq] at hn
          obtain ⟨l, d⟩ := a
          simp only at hn
          rw [hn.1, hn.2]
        subst ha
        unfold pathV pathL
        simp only [List.cons_append, List.nil_append]
        rw [if_pos (show nx (60 :: 62 :: more) = 60 from rfl)]
        simp only [List.drop_succ_cons, List.drop_zero]
        rw [if_pos (show nx (62 :: more) = 62 from rfl)]
        simp only
        rw [if_pos g5]
      · rw [if_neg hn] at ht
        subst ht
        refine ⟨by omega, ?_, told_read (by simpa using hn) g5 more⟩
        unfold toldB; split <;> simp <;> omega
    obtain ⟨t, ht⟩ : ∃ t, t = (if nullB a = true then [60, 62] else toldB a) := ⟨_, rfl⟩
    rw [← ht]
    obtain ⟨ht1, ht2, ht3⟩ := hT t ht
    have hx11 : (t ++ more).length ≤ 1800 := by simp; omega
    rw [cat_ok (by omega), Option.bind_some, path_ok (by omega) (by omega), ht3]
    simp only [Option.bind_some]
    rw [if_neg (by simp; omega)]
    by_cases he : a.local0 = [] ∨ hops.length = 0
    · rw [if_pos (by rcases he with h | h <;> simp [h])]
    · rw [if_neg (by simp at he ⊢; exact ⟨he.1, he.2⟩)]
      have hne : hops ≠ [] := by intro h; subst h; exact he (.inr rfl)
      have hn : nullB a = false := by
        cases h : nullB a with
        | false => rfl
        | true => simp only [nullB, Bool.and_eq_true, decide_eq_true_eq] at h; exact absurd (.inl h.1) he
      rw [show (([] : List UInt8), (0 : Int)) = (hopsT (hops.take 0), ((0 : Nat) : Int)) from rfl]
      rcases hop_loop (F := 200000 + 100) (by omega) g4 hops.length 0 (200000 + 100) (by omega) (by omega) (by simp) (by simp [hopsT]) with h | ⟨h, hd, hln⟩
      · rw [h]; rfl
      · rw [h]
        simp only [Option.bind_some]
        rw [hn] at ht
        simp only [Bool.false_eq_true, if_false] at ht
        obtain ⟨r0, hr0, -, -, hbox⟩ := box_read hn g5 []
        rw [cat_ok (by simp; omega), Option.bind_some, cat_ok (by simp; omega), Option.bind_some, sub_one (ht.trans hr0), Option.bind_some]
        have htl : t.length = r0.length + 1 := by rw [ht, hr0]; simp
        rw [cat_ok (by simp; omega), Option.bind_some]
        have hpar : parseV ([60] ++ hopsT hops ++ [58] ++ r0) = (a, 0) := by
          have e : ([60] ++ hopsT hops ++ [58] ++ r0 : List UInt8) = 60 :: (hopsT hops ++ 58 :: r0) := by simp
          obtain ⟨u, hu⟩ : ∃ u, hopsT hops = 64 :: u := by
            cases hops with
            | nil => exact absurd rfl hne
            | cons x y => cases y with
              | nil => exact ⟨_, rfl⟩
              | cons => exact ⟨_, rfl⟩
          have hrt : routeL (hopsT hops ++ 58 :: r0) = some r0 := by
            unfold routeL
            rw [if_pos (by rw [hu]; rfl)]
            have := hopsT_len hops
            exact hops_go hops _ hne hd (by simp; omega)
          have hb := hbox _ (by rw [List.append_nil]; exact hrt)
          have hpv : pathV (60 :: (hopsT hops ++ 58 :: r0)) = (a, [], 0) := by
            unfold pathV pathL
            rw [if_pos (show nx (60 :: (hopsT hops ++ 58 :: r0)) = 60 from rfl)]
            simp only [List.drop_succ_cons, List.drop_zero]
            rw [if_neg (by rw [hu]; simp [nx]), hb]
            simp only
            rw [if_pos g5]
          rw [e]
          unfold parseV
          rw [hpv]
          simp
        have hll : ([60] ++ hopsT hops ++ [58] ++ r0 : List UInt8).length ≤ 5000 := by simp; omega
        rw [parse_ok (by omega) (by omega), hpar]
        simp
  · have hp1 : law14_AddrBack_p1 (200000 + 100) a more hops = some true := by
      unfold law14_AddrBack_p1 law14_Few
      simp only [Option.bind_some]
      by_cases h1 : a.local0.length ≤ 400 ∧ a.domain.length ≤ 600
      · rw [decide_eq_true (by omega), decide_eq_true (by omega)]
        simp only [Bool.and_self, Bool.not_true, Bool.false_eq_true, if_false]
        by_cases h2 : 300 < more.length
        · rw [if_pos (by simp; omega)]
        · rw [if_neg (by simp; omega)]
          by_cases h3 : 10 < hops.length
          · rw [if_pos (by simp; omega)]
          · rw [if_neg (by simp; omega), right_r (by omega) (by omega) (by omega)]
            cases hr : rightB a with
            | true => exact absurd ⟨h1, by omega, by omega, hr⟩ hg
            | false => rfl
      · have : (decide ((a.local0.length : Int) ≤ 400) && decide ((a.domain.length : Int) ≤ 600)) = false := by
          simp; omega
        rw [this]; rfl
    rw [hp1]
    rfl
end Go.Proofs.AddrS
