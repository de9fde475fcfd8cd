import Derived.Test.YtfnnmecilcnloaaDoorAS3
set_option linter.unusedSimpArgs false
set_option linter.unusedVariables false
set_option linter.unusedSectionVars false
set_option linter.defProp false
set_option maxRecDepth 100000
namespace Go.Proofs.AddrS
open Go Go.Am Go.Proofs

/-! ### mailbag/mailbaglaw14.Few -/
def c_law14_Few_p1 : ACode := (.rg [⟨(some 3), (.fld (.t 1) 0), none⟩, ⟨(some 4), (.ld (.t 3) none), none⟩, ⟨(some 5), (.lens (.t 4)), none⟩, ⟨(some 6), (.bin .leq (.t 5) (.c (.int .i64 400))), none⟩, ⟨(some 7), (.mv (.t 6)), none⟩, ⟨(some 8), (.fld (.t 1) 1), (some (7, true))⟩, ⟨(some 9), (.ld (.t 8) none), (some (7, true))⟩, ⟨(some 10), (.lens (.t 9)), (some (7, true))⟩, ⟨(some 11), (.bin .leq (.t 10) (.c (.int .i64 600))), (some (7, true))⟩, ⟨(some 12), (.pick (.t 7) (.t 11) (.c (.bool false))), none⟩, ⟨(some 2), (.asg (.t 12)), none⟩])
abbrev m_law14_Few_p1 := c_law14_Few_p1
def c_law14_Few : ACode := (.seq (.rg [⟨(some 1), (.box (.t 0)), none⟩, ⟨(some 2), (.asg (.c (.bool false))), none⟩]) (.seq c_law14_Few_p1 .ret))
def m_law14_Few : ACode := (.seq (.rg [⟨(some 1), (.box (.t 0)), none⟩, ⟨(some 2), (.asg (.c (.bool false))), none⟩]) (.seq (.sem c_law14_Few_p1) .ret))
theorem k_law14_Few : FnOk Tryd.prog 43 13 [(.tmp 2)] c_law14_Few := ⟨Tryd.f43, _, rfl, by decide, rfl, by kernel_rfl, rfl, rfl⟩
abbrev L_law14_Few : List Nat := [0, 1, 2]
def law14_Few (a1 : AddressV) : Option (Bool) :=
  some ((decide ((a1.local0.length : Int) ≤ 400)) && (decide ((a1.domain.length : Int) ≤ 600)))
set_option maxHeartbeats 2000000 in
theorem law14_Few_p1_ok {q2 : Nat} {a1 : AddressV} {H0 H : AH} (hfr : Fr H0 H0.length [] H) (hs_o1 : H[q2]? = some [(.str a1.local0), (.str a1.domain)]) (hi0 : H0.length ≤ q2) {K : Exit → Env → AH → Prop}
    (kn : ∀ H' : AH, Fr H0 H0.length [] H' → H'[q2]? = some [(.str a1.local0), (.str a1.domain)] → K .normal [(2, (.bool ((decide ((a1.local0.length : Int) ≤ 400)) && (decide ((a1.domain.length : Int) ≤ 600)))))] H') :
    AX Tryd.prog L_law14_Few 13 H0.length c_law14_Few_p1 K [(1, (.ptr q2 0)), (2, (.bool false))] H := by
  refine AX.go (m := m_law14_Few_p1) rfl (by decide) fun K' hK => ?_
  have hle := hfr.le
  have hl_o1 := h_lt hs_o1
  try simp (disch := first | assumption | omega | (simp only [h_sl, h_al] <;> omega) | fail) only [WW, WH, ↓reduceIte, Nat.reduceEqDiff, Nat.reduceLT, Nat.reduceLeDiff, Nat.reduceAdd, Nat.reduceSub, Nat.reduceMul, Nat.reduceBEq, reduceCtorEq, if_false, if_true, L_law14_Few, m_law14_Few_p1, c_law14_Few_p1, hs_o1]
  rcases bcases ((decide ((a1.local0.length : Int) ≤ 400))) with hy1 | hy1
  · refine UG_go hy1 ?_
    try simp (disch := first | assumption | omega | (simp only [h_sl, h_al] <;> omega) | fail) only [WW, WH, ↓reduceIte, Nat.reduceEqDiff, Nat.reduceLT, Nat.reduceLeDiff, Nat.reduceAdd, Nat.reduceSub, Nat.reduceMul, Nat.reduceBEq, reduceCtorEq, if_false, if_true, L_law14_Few, hy1, hs_o1]
    refine hK _ _ _ _ _ ?_ (WxH.refl _) (kn _ hfr ((hs_o1).trans rfl))
    exact WE.cons (Wx.boolE (by simp only [hy1, WB])) (WE.nil)
  · refine UG_nt hy1 ?_
    try simp (disch := first | assumption | omega | (simp only [h_sl, h_al] <;> omega) | fail) only [WW, WH, ↓reduceIte, Nat.reduceEqDiff, Nat.reduceLT, Nat.reduceLeDiff, Nat.reduceAdd, Nat.reduceSub, Nat.reduceMul, Nat.reduceBEq, reduceCtorEq, if_false, if_true, L_law14_Few, hy1, hs_o1]
    refine hK _ _ _ _ _ ?_ (WxH.refl _) (kn _ hfr ((hs_o1).trans rfl))
    exact WE.cons (Wx.boolE (by simp only [hy1, WB])) (WE.nil)
set_option maxHeartbeats 2000000 in
theorem law14_Few_ok {a1 : AddressV}  {H0 : AH}  {rz0 : Bool} (h : law14_Few a1 = some rz0) :
    ACalls Tryd.prog 43 [(.agg [(.str a1.local0), (.str a1.domain)])] H0 fun v H' => v = (.bool rz0) ∧ H' = H0 := by
  refine ACalls.goX k_law14_Few (m := m_law14_Few) rfl L_law14_Few (by decide) (by simp) fun hcl K0 hK0 => ?_
  refine AX.of_U (m := m_law14_Few) rfl (by decide) ?_
  have hfr := Fr.refl H0 []
  have hle := hfr.le
  rw [law14_Few.eq_1] at h
  obtain ⟨H, hHH⟩ : ∃ H, H = H0 := ⟨_, rfl⟩
  have hfr : Fr H0 H0.length [] H := hHH ▸ hfr
  have hle := hfr.le
  suffices hU : U Tryd.prog L_law14_Few 13 H0.length [.code m_law14_Few] K0 .normal (argE 0 [(.agg [(.str a1.local0), (.str a1.domain)])]) H by rwa [hHH] at hU
  try simp (disch := first | assumption | omega | (simp only [h_sl, h_al] <;> omega) | fail) only [WW, WH, ↓reduceIte, Nat.reduceEqDiff, Nat.reduceLT, Nat.reduceLeDiff, Nat.reduceAdd, Nat.reduceSub, Nat.reduceMul, Nat.reduceBEq, reduceCtorEq, if_false, if_true, L_law14_Few, m_law14_Few]
  obtain ⟨q2, hg_q2⟩ : ∃ q : Nat, H.length = q := ⟨_, rfl⟩
  try rw [hg_q2]
  refine UX_of (AX.weak ?_ (WxH.refl _) (law14_Few_p1_ok (q2 := q2) (a1 := a1) ((Fr.app hfr)) ((h_new' (by first | assumption | omega | (simp only [h_sl, h_al] <;> omega) | fail)).trans rfl) (by first | assumption | omega | (simp only [h_sl, h_al] <;> omega) | fail) ?_))
  · exact WE.cons (Wx.ptr) (WE.cons (Wx.bool) (WE.nil))
  intro H hfr hs_o1
  have hle := hfr.le
  have hl_o1 := h_lt hs_o1
  try simp (disch := first | assumption | omega | (simp only [h_sl, h_al] <;> omega) | fail) only [WW, WH, ↓reduceIte, Nat.reduceEqDiff, Nat.reduceLT, Nat.reduceLeDiff, Nat.reduceAdd, Nat.reduceSub, Nat.reduceMul, Nat.reduceBEq, reduceCtorEq, if_false, if_true, L_law14_Few, hs_o1]
  have hq := Option.some.inj h; subst hq
  refine hK0 _ _ _ (.inr rfl) ?_
  exact fn_end0 (by exact hfr) hcl (resv_tmp (a := (.bool ((decide ((a1.local0.length : Int) ≤ 400)) && (decide ((a1.domain.length : Int) ≤ 600))))) rfl rfl resv_nil) (by first | (simp [fin, b_df, b_sh, b_sh1, b_Cl]; done) | (simp [fin, AV.df, AV.sh, AV.sh1, b_df, b_sh, b_sh1, b_Cl]; done)) (Wx.bool) (r' := (.bool ((decide ((a1.local0.length : Int) ≤ 400)) && (decide ((a1.domain.length : Int) ≤ 600))))) ⟨rfl, rfl⟩

/-! ### mailbag/mailbaglaw14.AddrBack -/
def c_law14_AddrBack_p1 : ACode := (.rg [⟨(some 17), (.ld (.t 3) (some 2)), none⟩, ⟨(some 18), (.call (.c (.fn 43 [])) [(.t 17)]), none⟩, ⟨(some 19), (.un .not (.t 18)), none⟩, ⟨(some 20), (.mv (.t 19)), none⟩, ⟨(some 21), (.mv (.t 1)), (some (20, false))⟩, ⟨(some 22), (.lens (.t 21)), (some (20, false))⟩, ⟨(some 23), (.bin .gtr (.t 22) (.c (.int .i64 300))), (some (20, false))⟩, ⟨(some 24), (.pick (.t 20) (.c (.bool true)) (.t 23)), none⟩, ⟨(some 25), (.mv (.t 24)), none⟩, ⟨(some 26), (.mv (.t 2)), (some (25, false))⟩, ⟨(some 27), (.len (.t 26)), (some (25, false))⟩, ⟨(some 28), (.bin .gtr (.t 27) (.c (.int .i64 10))), (some (25, false))⟩, ⟨(some 29), (.pick (.t 25) (.c (.bool true)) (.t 28)), none⟩, ⟨(some 30), (.mv (.t 29)), none⟩, ⟨(some 31), (.ld (.t 3) (some 2)), (some (30, false))⟩, ⟨(some 32), (.call (.c (.fn 44 [])) [(.t 31)]), (some (30, false))⟩, ⟨(some 33), (.un .not (.t 32)), (some (30, false))⟩, ⟨(some 34), (.pick (.t 30) (.c (.bool true)) (.t 33)), none⟩])
abbrev m_law14_AddrBack_p1 := c_law14_AddrBack_p1
def c_law14_AddrBack_p2 : ACode := (.rg [⟨(some 45), (.mv (.t 10)), none⟩, ⟨(some 46), (.bin .neq (.t 45) (.c (.int .i64 0))), none⟩, ⟨(some 47), (.mv (.t 46)), none⟩, ⟨(some 48), (.ld (.t 8) (some 2)), (some (47, false))⟩, ⟨(some 49), (.ld (.t 3) (some 2)), (some (47, false))⟩, ⟨(some 50), (.seq [.s, .s] true (.t 48) (.t 49)), (some (47, false))⟩, ⟨(some 51), (.pick (.t 47) (.c (.bool true)) (.t 50)), none⟩, ⟨(some 52), (.mv (.t 51)), none⟩, ⟨(some 53), (.mv (.t 9)), (some (52, false))⟩, ⟨(some 54), (.mv (.t 1)), (some (52, false))⟩, ⟨(some 55), (.bin .neq (.t 53) (.t 54)), (some (52, false))⟩, ⟨(some 56), (.pick (.t 52) (.c (.bool true)) (.t 55)), none⟩, ⟨(some 57), (.mv (.t 56)), none⟩, ⟨(some 58), (.mv (.t 7)), (some (57, false))⟩, ⟨(some 59), (.lens (.t 58)), (some (57, false))⟩, ⟨(some 60), (.bin .lss (.t 59) (.c (.int .i64 2))), (some (57, false))⟩, ⟨(some 61), (.pick (.t 57) (.c (.bool true)) (.t 60)), none⟩])
abbrev m_law14_AddrBack_p2 := c_law14_AddrBack_p2
def c_law14_AddrBack_p3 : ACode := (.rg [⟨(some 62), (.fld (.t 3) 0), none⟩, ⟨(some 63), (.ld (.t 62) none), none⟩, ⟨(some 64), (.bin .eql (.t 63) (.c (.str []))), none⟩, ⟨(some 65), (.mv (.t 64)), none⟩, ⟨(some 66), (.mv (.t 2)), (some (65, false))⟩, ⟨(some 67), (.len (.t 66)), (some (65, false))⟩, ⟨(some 68), (.bin .eql (.t 67) (.c (.int .i64 0))), (some (65, false))⟩, ⟨(some 69), (.pick (.t 65) (.c (.bool true)) (.t 68)), none⟩])
abbrev m_law14_AddrBack_p3 := c_law14_AddrBack_p3
def c_law14_AddrBack_l1b : ACode := (.seq (.seq (.rg [⟨(some 70), (.mv (.t 12)), none⟩, ⟨(some 71), (.mv (.t 2)), none⟩, ⟨(some 72), (.len (.t 71)), none⟩, ⟨(some 73), (.bin .lss (.t 70) (.t 72)), none⟩]) (.cond (.t 73) .skip (.exit 0))) (.seq (.blk 1 (.seq (.seq (.rg [⟨(some 76), (.mv (.t 2)), none⟩, ⟨(some 77), (.mv (.t 12)), none⟩, ⟨(some 78), (.ixa 1 (.t 76) (.t 77)), none⟩, ⟨(some 79), (.ld (.t 78) none), none⟩, ⟨(some 80), (.call (.c (.fn 38 [])) [(.t 79)]), none⟩, ⟨(some 81), (.un .not (.t 80)), none⟩]) (.cond (.t 81) (.seq (.rg [⟨(some 6), (.asg (.c (.bool true))), none⟩]) .ret) .skip)) (.seq (.seq (.rg [⟨(some 82), (.mv (.t 12)), none⟩, ⟨(some 83), (.bin .gtr (.t 82) (.c (.int .i64 0))), none⟩]) (.cond (.t 83) (.rg [⟨(some 84), (.mv (.t 11)), none⟩, ⟨(some 85), (.bin .add (.t 84) (.c (.str [44]))), none⟩, ⟨(some 11), (.asg (.t 85)), none⟩]) .skip)) (.rg [⟨(some 86), (.mv (.t 11)), none⟩, ⟨(some 87), (.bin .add (.t 86) (.c (.str [64]))), none⟩, ⟨(some 88), (.mv (.t 2)), none⟩, ⟨(some 89), (.mv (.t 12)), none⟩, ⟨(some 90), (.ixa 1 (.t 88) (.t 89)), none⟩, ⟨(some 91), (.ld (.t 90) none), none⟩, ⟨(some 92), (.bin .add (.t 87) (.t 91)), none⟩, ⟨(some 11), (.asg (.t 92)), none⟩])))) (.rg [⟨(some 74), (.mv (.t 12)), none⟩, ⟨(some 75), (.bin .add (.t 74) (.c (.int .i64 1))), none⟩, ⟨(some 12), (.asg (.t 75)), none⟩])))
def c_law14_AddrBack_l1 : ACode := (.loop c_law14_AddrBack_l1b)
abbrev m_law14_AddrBack_l1b := c_law14_AddrBack_l1b
def c_law14_AddrBack_p4 : ACode := (.rg [⟨(some 103), (.mv (.t 14)), none⟩, ⟨(some 104), (.bin .eql (.t 103) (.c (.int .i64 0))), none⟩, ⟨(some 105), (.mv (.t 104)), none⟩, ⟨(some 106), (.ld (.t 13) (some 2)), (some (105, true))⟩, ⟨(some 107), (.ld (.t 3) (some 2)), (some (105, true))⟩, ⟨(some 108), (.seq [.s, .s] false (.t 106) (.t 107)), (some (105, true))⟩, ⟨(some 109), (.pick (.t 105) (.t 108) (.c (.bool false))), none⟩, ⟨(some 6), (.asg (.t 109)), none⟩])
abbrev m_law14_AddrBack_p4 := c_law14_AddrBack_p4
def c_law14_AddrBack : ACode := (.seq (.rg [⟨(some 3), (.box (.t 0)), none⟩, ⟨(some 6), (.asg (.c (.bool false))), none⟩]) (.seq (.seq (.rg [⟨(some 15), (.call (.c (.fn 32 [])) []), none⟩, ⟨(some 16), (.un .not (.t 15)), none⟩]) (.cond (.t 16) (.seq (.rg [⟨(some 6), (.asg (.c (.bool false))), none⟩]) .ret) .skip)) (.seq (.seq c_law14_AddrBack_p1 (.cond (.t 34) (.seq (.rg [⟨(some 6), (.asg (.c (.bool true))), none⟩]) .ret) .skip)) (.seq (.rg [⟨(some 35), (.ld (.t 3) (some 2)), none⟩, ⟨(some 36), (.call (.c (.fn 45 [])) [(.t 35)]), none⟩, ⟨(some 7), (.asg (.t 36)), none⟩]) (.seq (.rg [⟨(some 38), (.mv (.t 7)), none⟩, ⟨(some 39), (.mv (.t 1)), none⟩, ⟨(some 40), (.bin .add (.t 38) (.t 39)), none⟩, ⟨(some 41), (.call (.c (.fn 33 [])) [(.t 40)]), none⟩, ⟨(some 37), (.mv (.t 41)), none⟩, ⟨(some 42), (.ext (.t 37) 0), none⟩, ⟨(some 43), (.ext (.t 37) 1), none⟩, ⟨(some 44), (.ext (.t 37) 2), none⟩, ⟨(some 8), (.alloc [(.str []), (.str [])]), none⟩, ⟨none, (.st (.t 8) (.t 42) 2), none⟩, ⟨(some 9), (.asg (.t 43)), none⟩, ⟨(some 10), (.asg (.t 44)), none⟩]) (.seq (.seq c_law14_AddrBack_p2 (.cond (.t 61) (.seq (.rg [⟨(some 6), (.asg (.c (.bool false))), none⟩]) .ret) .skip)) (.seq (.seq c_law14_AddrBack_p3 (.cond (.t 69) (.seq (.rg [⟨(some 6), (.asg (.c (.bool true))), none⟩]) .ret) .skip)) (.seq (.rg [⟨(some 11), (.asg (.c (.str []))), none⟩]) (.seq (.seq (.rg [⟨(some 12), (.asg (.c (.int .i64 0))), none⟩]) (.blk 0 c_law14_AddrBack_l1)) (.seq (.rg [⟨(some 94), (.mv (.t 11)), none⟩, ⟨(some 95), (.bin .add (.c (.str [60])) (.t 94)), none⟩, ⟨(some 96), (.bin .add (.t 95) (.c (.str [58]))), none⟩, ⟨(some 97), (.mv (.t 7)), none⟩, ⟨(some 98), (.sls (.t 97) (some (.c (.int .i64 1))) none), none⟩, ⟨(some 99), (.bin .add (.t 96) (.t 98)), none⟩, ⟨(some 100), (.call (.c (.fn 35 [])) [(.t 99)]), none⟩, ⟨(some 93), (.mv (.t 100)), none⟩, ⟨(some 101), (.ext (.t 93) 0), none⟩, ⟨(some 102), (.ext (.t 93) 1), none⟩, ⟨(some 13), (.alloc [(.str []), (.str [])]), none⟩, ⟨none, (.st (.t 13) (.t 101) 2), none⟩, ⟨(some 14), (.asg (.t 102)), none⟩]) (.seq c_law14_AddrBack_p4 .ret)))))))))))
def m_law14_AddrBack : ACode := (.seq (.rg [⟨(some 3), (.box (.t 0)), none⟩, ⟨(some 6), (.asg (.c (.bool false))), none⟩]) (.seq (.seq (.rg [⟨(some 15), (.call (.c (.fn 32 [])) []), none⟩, ⟨(some 16), (.un .not (.t 15)), none⟩]) (.cond (.t 16) (.seq (.rg [⟨(some 6), (.asg (.c (.bool false))), none⟩]) .ret) .skip)) (.seq (.seq (.sem c_law14_AddrBack_p1) (.cond (.t 34) (.seq (.rg [⟨(some 6), (.asg (.c (.bool true))), none⟩]) .ret) .skip)) (.seq (.rg [⟨(some 35), (.ld (.t 3) (some 2)), none⟩, ⟨(some 36), (.call (.c (.fn 45 [])) [(.t 35)]), none⟩, ⟨(some 7), (.asg (.t 36)), none⟩]) (.seq (.rg [⟨(some 38), (.mv (.t 7)), none⟩, ⟨(some 39), (.mv (.t 1)), none⟩, ⟨(some 40), (.bin .add (.t 38) (.t 39)), none⟩, ⟨(some 41), (.call (.c (.fn 33 [])) [(.t 40)]), none⟩, ⟨(some 37), (.mv (.t 41)), none⟩, ⟨(some 42), (.ext (.t 37) 0), none⟩, ⟨(some 43), (.ext (.t 37) 1), none⟩, ⟨(some 44), (.ext (.t 37) 2), none⟩, ⟨(some 8), (.alloc [(.str []), (.str [])]), none⟩, ⟨none, (.st (.t 8) (.t 42) 2), none⟩, ⟨(some 9), (.asg (.t 43)), none⟩, ⟨(some 10), (.asg (.t 44)), none⟩]) (.seq (.seq (.sem c_law14_AddrBack_p2) (.cond (.t 61) (.seq (.rg [⟨(some 6), (.asg (.c (.bool false))), none⟩]) .ret) .skip)) (.seq (.seq (.sem c_law14_AddrBack_p3) (.cond (.t 69) (.seq (.rg [⟨(some 6), (.asg (.c (.bool true))), none⟩]) .ret) .skip)) (.seq (.rg [⟨(some 11), (.asg (.c (.str []))), none⟩]) (.seq (.seq (.rg [⟨(some 12), (.asg (.c (.int .i64 0))), none⟩]) (.blk 0 c_law14_AddrBack_l1)) (.seq (.rg [⟨(some 94), (.mv (.t 11)), none⟩, ⟨(some 95), (.bin .add (.c (.str [60])) (.t 94)), none⟩, ⟨(some 96), (.bin .add (.t 95) (.c (.str [58]))), none⟩, ⟨(some 97), (.mv (.t 7)), none⟩, ⟨(some 98), (.sls (.t 97) (some (.c (.int .i64 1))) none), none⟩, ⟨(some 99), (.bin .add (.t 96) (.t 98)), none⟩, ⟨(some 100), (.call (.c (.fn 35 [])) [(.t 99)]), none⟩, ⟨(some 93), (.mv (.t 100)), none⟩, ⟨(some 101), (.ext (.t 93) 0), none⟩, ⟨(some 102), (.ext (.t 93) 1), none⟩, ⟨(some 13), (.alloc [(.str []), (.str [])]), none⟩, ⟨none, (.st (.t 13) (.t 101) 2), none⟩, ⟨(some 14), (.asg (.t 102)), none⟩]) (.seq (.sem c_law14_AddrBack_p4) .ret)))))))))))
theorem k_law14_AddrBack : FnOk Tryd.prog 8 110 [(.tmp 6)] c_law14_AddrBack := ⟨Tryd.f8, _, rfl, by decide, rfl, by kernel_rfl, rfl, rfl⟩
abbrev L_law14_AddrBack : List Nat := [0, 1, 2, 3, 6, 7, 8, 9, 10, 11, 12, 13, 14, 16, 34, 61, 69, 73, 81, 83]
def law14_AddrBack_p1 (F : Nat) (a1 : AddressV) (more2 : List UInt8) (hops3 : List (List UInt8)) : Option (Bool) :=
  (law14_Few a1).bind fun r6 =>
  (if (!r6) then
    some true
  else
    (if (decide (300 < (more2.length : Int))) then
      some true
    else
      (if (decide (10 < (hops3.length : Int))) then
        some true
      else
        (ref14_Right F a1).bind fun r7 => some (!r7))))
def law14_AddrBack_l1 (F : Nat) (hops3 : List (List UInt8)) : ((List UInt8) × Int) → Option (St Bool (List UInt8) ((List UInt8) × Int))
  | (r19, i20) =>
    (if (decide (i20 < (hops3.length : Int))) then
      (idx hops3 i20).bind fun x21 =>
      (ref14_Domain F x21).bind fun r22 =>
      (if (!r22) then
        some (.ret true)
      else
        (if (decide (0 < i20)) then
          (cat r19 ([44] : List UInt8)).bind fun x23 =>
          (cat x23 ([64] : List UInt8)).bind fun x24 =>
          (cat x24 x21).bind fun x25 => some (.nxt (x25, (IntKind.wrap .i64 (i20 + 1))))
        else
          (cat r19 ([64] : List UInt8)).bind fun x26 =>
          (cat x26 x21).bind fun x27 => some (.nxt (x27, (IntKind.wrap .i64 (i20 + 1))))))
    else
      some (.brk r19))
def law14_AddrBack (F : Nat) (a1 : AddressV) (more2 : List UInt8) (hops3 : List (List UInt8)) : Option (Bool) :=
  (law14_known F ).bind fun r4 =>
  (if (!r4) then
    some false
  else
    (law14_AddrBack_p1 F a1 more2 hops3).bind fun t9 =>
    (if t9 then
      some true
    else
      (addr_Print F a1).bind fun r10 =>
      (cat r10 more2).bind fun x11 =>
      (addr_Path F x11).bind fun (r12, r13, r14) =>
      (if ((((!decide (r14 = 0)) || (!(decide (r12.local0 = a1.local0) && decide (r12.domain = a1.domain)))) || (!decide (r13 = more2))) || (decide ((r10.length : Int) < 2))) then
        some false
      else
        (if ((decide (a1.local0 = ([] : List UInt8))) || (decide ((hops3.length : Int) = 0))) then
          some true
        else
          ((iter (law14_AddrBack_l1 F hops3) F (([] : List UInt8), 0)).bind fun o40 =>
          match o40 with
          | .inr r30 =>
            (cat ([60] : List UInt8) r30).bind fun x31 =>
            (cat x31 ([58] : List UInt8)).bind fun x32 =>
            (sub r10 1 (r10.length : Int)).bind fun x33 =>
            (cat x32 x33).bind fun x34 =>
            (addr_Parse F x34).bind fun (r35, r36) =>
            some ((decide (r36 = 0)) && (decide (r35.local0 = a1.local0) && decide (r35.domain = a1.domain)))
          | .inl r39 =>
            some r39)))))
set_option maxHeartbeats 2000000 in
theorem law14_AddrBack_p1_ok {F : Nat} {a1 : AddressV} {more2 : List UInt8} {hops3 : List (List UInt8)} {q5 : Nat} {H0 H : AH} (hfr : Fr H0 H0.length [] H) (hs_o1 : H[q5]? = some [(.str a1.local0), (.str a1.domain)]) (hi0 : H0.length ≤ q5) {K : Exit → Env → AH → Prop} {t8 : Bool}
    (h : law14_AddrBack_p1 F a1 more2 hops3 = some t8)
    (kn : ∀ H' : AH, Fr H0 H0.length [] H' → H'[q5]? = some [(.str a1.local0), (.str a1.domain)] → K .normal [(1, (.str more2)), (2, (.sl .n 1 (ml AV.str hops3))), (3, (.ptr q5 0)), (34, (.bool t8))] H') :
    AX Tryd.prog L_law14_AddrBack 110 H0.length c_law14_AddrBack_p1 K [(1, (.str more2)), (2, (.sl .n 1 (ml AV.str hops3))), (3, (.ptr q5 0))] H := by
  refine AX.go (m := m_law14_AddrBack_p1) rfl (by decide) fun K' hK => ?_
  have hle := hfr.le
  have hl_o1 := h_lt hs_o1
  rw [law14_AddrBack_p1.eq_1] at h
  try simp (disch := first | assumption | omega | (simp only [h_sl, h_al] <;> omega) | fail) only [WW, WH, ↓reduceIte, Nat.reduceEqDiff, Nat.reduceLT, Nat.reduceLeDiff, Nat.reduceAdd, Nat.reduceSub, Nat.reduceMul, Nat.reduceBEq, reduceCtorEq, if_false, if_true, L_law14_AddrBack, m_law14_AddrBack_p1, c_law14_AddrBack_p1, hs_o1]
  obtain ⟨r6, hy3, h⟩ := bnd' h
  refine UK_e (as' := [(.agg [(.str a1.local0), (.str a1.domain)])]) (h := law14_Few_ok (a1 := a1)  hy3) (hw := WL.cons (Wx.agg (W1L.same (W1L.same (W1L.nil)))) (WL.nil)) (hh := WxH.refl _) ?_
  try simp (disch := first | assumption | omega | (simp only [h_sl, h_al] <;> omega) | fail) only [WW, WH, ↓reduceIte, Nat.reduceEqDiff, Nat.reduceLT, Nat.reduceLeDiff, Nat.reduceAdd, Nat.reduceSub, Nat.reduceMul, Nat.reduceBEq, reduceCtorEq, if_false, if_true, L_law14_AddrBack, hs_o1]
  rcases ifb h with ⟨hy4, h⟩ | ⟨hy4, h⟩
  · refine UG_nf hy4 ?_
    try simp (disch := first | assumption | omega | (simp only [h_sl, h_al] <;> omega) | fail) only [WW, WH, ↓reduceIte, Nat.reduceEqDiff, Nat.reduceLT, Nat.reduceLeDiff, Nat.reduceAdd, Nat.reduceSub, Nat.reduceMul, Nat.reduceBEq, reduceCtorEq, if_false, if_true, L_law14_AddrBack, hy4, hs_o1]
    have hq := Option.some.inj h; subst hq
    refine hK _ _ _ _ _ ?_ (WxH.refl _) (kn _ hfr ((hs_o1).trans rfl))
    exact WE.cons (Wx.str) (WE.cons (Wx.nn) (WE.cons (Wx.ptr) (WE.cons (Wx.bool) (WE.nil))))
  · refine UG_go hy4 ?_
    try simp (disch := first | assumption | omega | (simp only [h_sl, h_al] <;> omega) | fail) only [WW, WH, ↓reduceIte, Nat.reduceEqDiff, Nat.reduceLT, Nat.reduceLeDiff, Nat.reduceAdd, Nat.reduceSub, Nat.reduceMul, Nat.reduceBEq, reduceCtorEq, if_false, if_true, L_law14_AddrBack, hy4, hs_o1]
    rcases ifb h with ⟨hy5, h⟩ | ⟨hy5, h⟩
    · refine UG_nf hy5 ?_
      try simp (disch := first | assumption | omega | (simp only [h_sl, h_al] <;> omega) | fail) only [WW, WH, ↓reduceIte, Nat.reduceEqDiff, Nat.reduceLT, Nat.reduceLeDiff, Nat.reduceAdd, Nat.reduceSub, Nat.reduceMul, Nat.reduceBEq, reduceCtorEq, if_false, if_true, L_law14_AddrBack, hy5, hs_o1]
      have hq := Option.some.inj h; subst hq
      refine hK _ _ _ _ _ ?_ (WxH.refl _) (kn _ hfr ((hs_o1).trans rfl))
      exact WE.cons (Wx.str) (WE.cons (Wx.nn) (WE.cons (Wx.ptr) (WE.cons (Wx.bool) (WE.nil))))
    · refine UG_go hy5 ?_
      try simp (disch := first | assumption | omega | (simp only [h_sl, h_al] <;> omega) | fail) only [WW, WH, ↓reduceIte, Nat.reduceEqDiff, Nat.reduceLT, Nat.reduceLeDiff, Nat.reduceAdd, Nat.reduceSub, Nat.reduceMul, Nat.reduceBEq, reduceCtorEq, if_false, if_true, L_law14_AddrBack, hy5, hs_o1]
      rcases ifb h with ⟨hy6, h⟩ | ⟨hy6, h⟩
      · refine UG_nf hy6 ?_
        try simp (disch := first | assumption | omega | (simp only [h_sl, h_al] <;> omega) | fail) only [WW, WH, ↓reduceIte, Nat.reduceEqDiff, Nat.reduceLT, Nat.reduceLeDiff, Nat.reduceAdd, Nat.reduceSub, Nat.reduceMul, Nat.reduceBEq, reduceCtorEq, if_false, if_true, L_law14_AddrBack, hy6, hs_o1]
        have hq := Option.some.inj h; subst hq
        refine hK _ _ _ _ _ ?_ (WxH.refl _) (kn _ hfr ((hs_o1).trans rfl))
        exact WE.cons (Wx.str) (WE.cons (Wx.nn) (WE.cons (Wx.ptr) (WE.cons (Wx.bool) (WE.nil))))
      · refine UG_go hy6 ?_
        try simp (disch := first | assumption | omega | (simp only [h_sl, h_al] <;> omega) | fail) only [WW, WH, ↓reduceIte, Nat.reduceEqDiff, Nat.reduceLT, Nat.reduceLeDiff, Nat.reduceAdd, Nat.reduceSub, Nat.reduceMul, Nat.reduceBEq, reduceCtorEq, if_false, if_true, L_law14_AddrBack, hy6, hs_o1]
        obtain ⟨r7, hy7, h⟩ := bnd' h
        refine UK_e (as' := [(.agg [(.str a1.local0), (.str a1.domain)])]) (h := ref14_Right_ok (a1 := a1) (F := F)  hy7) (hw := WL.cons (Wx.agg (W1L.same (W1L.same (W1L.nil)))) (WL.nil)) (hh := WxH.refl _) ?_
        try simp (disch := first | assumption | omega | (simp only [h_sl, h_al] <;> omega) | fail) only [WW, WH, ↓reduceIte, Nat.reduceEqDiff, Nat.reduceLT, Nat.reduceLeDiff, Nat.reduceAdd, Nat.reduceSub, Nat.reduceMul, Nat.reduceBEq, reduceCtorEq, if_false, if_true, L_law14_AddrBack, hs_o1]
        have hq := Option.some.inj h; subst hq
        refine hK _ _ _ _ _ ?_ (WxH.refl _) (kn _ hfr ((hs_o1).trans rfl))
        exact WE.cons (Wx.str) (WE.cons (Wx.nn) (WE.cons (Wx.ptr) (WE.cons (Wx.bool) (WE.nil))))
set_option maxHeartbeats 2000000 in
theorem law14_AddrBack_p2_ok {more2 : List UInt8} {hops3 : List (List UInt8)} {q15 : Nat} {r10 : List UInt8} {q16 : Nat} {r13 : List UInt8} {r14 : Int} {a1 : AddressV} {r12 : AddressV} {H0 H : AH} (hfr : Fr H0 H0.length [] H) (hs_o1 : H[q15]? = some [(.str a1.local0), (.str a1.domain)]) (hs_o2 : H[q16]? = some [(.str r12.local0), (.str r12.domain)]) (hi0 : H0.length ≤ q15) (hi1 : H0.length ≤ q16) (hi2 : q15 ≠ q16) {K : Exit → Env → AH → Prop}
    (kn : ∀ H' : AH, Fr H0 H0.length [] H' → H'[q15]? = some [(.str a1.local0), (.str a1.domain)] → H'[q16]? = some [(.str r12.local0), (.str r12.domain)] → K .normal [(2, (.sl .n 1 (ml AV.str hops3))), (3, (.ptr q15 0)), (7, (.str r10)), (61, (.bool ((((!decide (r14 = 0)) || (!(decide (r12.local0 = a1.local0) && decide (r12.domain = a1.domain)))) || (!decide (r13 = more2))) || (decide ((r10.length : Int) < 2)))))] H') :
    AX Tryd.prog L_law14_AddrBack 110 H0.length c_law14_AddrBack_p2 K [(1, (.str more2)), (2, (.sl .n 1 (ml AV.str hops3))), (3, (.ptr q15 0)), (7, (.str r10)), (8, (.ptr q16 0)), (9, (.str r13)), (10, (.int .i64 r14))] H := by
  refine AX.go (m := m_law14_AddrBack_p2) rfl (by decide) fun K' hK => ?_
  have hle := hfr.le
  have hl_o1 := h_lt hs_o1
  have hl_o2 := h_lt hs_o2
  try simp (disch := first | assumption | omega | (simp only [h_sl, h_al] <;> omega) | fail) only [WW, WH, ↓reduceIte, Nat.reduceEqDiff, Nat.reduceLT, Nat.reduceLeDiff, Nat.reduceAdd, Nat.reduceSub, Nat.reduceMul, Nat.reduceBEq, reduceCtorEq, if_false, if_true, L_law14_AddrBack, m_law14_AddrBack_p2, c_law14_AddrBack_p2, hs_o1, hs_o2]
  rcases bcases ((!decide (r14 = 0))) with hy13 | hy13
  · refine UG_nf hy13 ?_
    try simp (disch := first | assumption | omega | (simp only [h_sl, h_al] <;> omega) | fail) only [WW, WH, ↓reduceIte, Nat.reduceEqDiff, Nat.reduceLT, Nat.reduceLeDiff, Nat.reduceAdd, Nat.reduceSub, Nat.reduceMul, Nat.reduceBEq, reduceCtorEq, if_false, if_true, L_law14_AddrBack, hy13, hs_o1, hs_o2]
    refine hK _ _ _ _ _ ?_ (WxH.refl _) (kn _ hfr ((hs_o1).trans rfl) ((hs_o2).trans rfl))
    exact WE.cons (Wx.nn) (WE.cons (Wx.ptr) (WE.cons (Wx.str) (WE.cons (Wx.boolE (by simp only [hy13, WB])) (WE.nil))))
  · refine UG_go hy13 ?_
    try simp (disch := first | assumption | omega | (simp only [h_sl, h_al] <;> omega) | fail) only [WW, WH, ↓reduceIte, Nat.reduceEqDiff, Nat.reduceLT, Nat.reduceLeDiff, Nat.reduceAdd, Nat.reduceSub, Nat.reduceMul, Nat.reduceBEq, reduceCtorEq, if_false, if_true, L_law14_AddrBack, hy13, hs_o1, hs_o2]
    rcases bcases ((!(decide (r12.local0 = a1.local0) && decide (r12.domain = a1.domain)))) with hy14 | hy14
    · refine UG_nf hy14 ?_
      try simp (disch := first | assumption | omega | (simp only [h_sl, h_al] <;> omega) | fail) only [WW, WH, ↓reduceIte, Nat.reduceEqDiff, Nat.reduceLT, Nat.reduceLeDiff, Nat.reduceAdd, Nat.reduceSub, Nat.reduceMul, Nat.reduceBEq, reduceCtorEq, if_false, if_true, L_law14_AddrBack, hy14, hs_o1, hs_o2]
      refine hK _ _ _ _ _ ?_ (WxH.refl _) (kn _ hfr ((hs_o1).trans rfl) ((hs_o2).trans rfl))
      exact WE.cons (Wx.nn) (WE.cons (Wx.ptr) (WE.cons (Wx.str) (WE.cons (Wx.boolE (by first | (simp only [hy13, hy14, WB]; done) | (try rw [hy13]; try rw [hy14]; try simp only [WB]))) (WE.nil))))
    · refine UG_go hy14 ?_
      try simp (disch := first | assumption | omega | (simp only [h_sl, h_al] <;> omega) | fail) only [WW, WH, ↓reduceIte, Nat.reduceEqDiff, Nat.reduceLT, Nat.reduceLeDiff, Nat.reduceAdd, Nat.reduceSub, Nat.reduceMul, Nat.reduceBEq, reduceCtorEq, if_false, if_true, L_law14_AddrBack, hy14, hs_o1, hs_o2]
      rcases bcases ((!decide (r13 = more2))) with hy15 | hy15
      · refine UG_nf hy15 ?_
        try simp (disch := first | assumption | omega | (simp only [h_sl, h_al] <;> omega) | fail) only [WW, WH, ↓reduceIte, Nat.reduceEqDiff, Nat.reduceLT, Nat.reduceLeDiff, Nat.reduceAdd, Nat.reduceSub, Nat.reduceMul, Nat.reduceBEq, reduceCtorEq, if_false, if_true, L_law14_AddrBack, hy15, hs_o1, hs_o2]
        refine hK _ _ _ _ _ ?_ (WxH.refl _) (kn _ hfr ((hs_o1).trans rfl) ((hs_o2).trans rfl))
        exact WE.cons (Wx.nn) (WE.cons (Wx.ptr) (WE.cons (Wx.str) (WE.cons (Wx.boolE (by first | (simp only [hy13, hy14, hy15, WB]; done) | (try rw [hy13]; try rw [hy14]; try rw [hy15]; try simp only [WB]))) (WE.nil))))
      · refine UG_go hy15 ?_
        try simp (disch := first | assumption | omega | (simp only [h_sl, h_al] <;> omega) | fail) only [WW, WH, ↓reduceIte, Nat.reduceEqDiff, Nat.reduceLT, Nat.reduceLeDiff, Nat.reduceAdd, Nat.reduceSub, Nat.reduceMul, Nat.reduceBEq, reduceCtorEq, if_false, if_true, L_law14_AddrBack, hy15, hs_o1, hs_o2]
        refine hK _ _ _ _ _ ?_ (WxH.refl _) (kn _ hfr ((hs_o1).trans rfl) ((hs_o2).trans rfl))
        exact WE.cons (Wx.nn) (WE.cons (Wx.ptr) (WE.cons (Wx.str) (WE.cons (Wx.boolE (by first | (simp only [hy13, hy14, hy15, WB]; done) | (try rw [hy13]; try rw [hy14]; try rw [hy15]; try simp only [WB]))) (WE.nil))))
set_option maxHeartbeats 2000000 in
theorem law14_AddrBack_p3_ok {hops3 : List (List UInt8)} {q17 : Nat} {r10 : List UInt8} {a1 : AddressV} {H0 H : AH} (hfr : Fr H0 H0.length [] H) (hs_o1 : H[q17]? = some [(.str a1.local0), (.str a1.domain)]) (hi0 : H0.length ≤ q17) {K : Exit → Env → AH → Prop}
    (kn : ∀ H' : AH, Fr H0 H0.length [] H' → H'[q17]? = some [(.str a1.local0), (.str a1.domain)] → K .normal [(2, (.sl .n 1 (ml AV.str hops3))), (3, (.ptr q17 0)), (7, (.str r10)), (69, (.bool ((decide (a1.local0 = ([] : List UInt8))) || (decide ((hops3.length : Int) = 0)))))] H') :
    AX Tryd.prog L_law14_AddrBack 110 H0.length c_law14_AddrBack_p3 K [(2, (.sl .n 1 (ml AV.str hops3))), (3, (.ptr q17 0)), (7, (.str r10))] H := by
  refine AX.go (m := m_law14_AddrBack_p3) rfl (by decide) fun K' hK => ?_
  have hle := hfr.le
  have hl_o1 := h_lt hs_o1
  try simp (disch := first | assumption | omega | (simp only [h_sl, h_al] <;> omega) | fail) only [WW, WH, ↓reduceIte, Nat.reduceEqDiff, Nat.reduceLT, Nat.reduceLeDiff, Nat.reduceAdd, Nat.reduceSub, Nat.reduceMul, Nat.reduceBEq, reduceCtorEq, if_false, if_true, L_law14_AddrBack, m_law14_AddrBack_p3, c_law14_AddrBack_p3, hs_o1]
  rcases bcases ((decide (a1.local0 = ([] : List UInt8)))) with hy17 | hy17
  · refine UG_nf hy17 ?_
    try simp (disch := first | assumption | omega | (simp only [h_sl, h_al] <;> omega) | fail) only [WW, WH, ↓reduceIte, Nat.reduceEqDiff, Nat.reduceLT, Nat.reduceLeDiff, Nat.reduceAdd, Nat.reduceSub, Nat.reduceMul, Nat.reduceBEq, reduceCtorEq, if_false, if_true, L_law14_AddrBack, hy17, hs_o1]
    refine hK _ _ _ _ _ ?_ (WxH.refl _) (kn _ hfr ((hs_o1).trans rfl))
    exact WE.cons (Wx.nn) (WE.cons (Wx.ptr) (WE.cons (Wx.str) (WE.cons (Wx.boolE (by simp only [hy17, WB])) (WE.nil))))
  · refine UG_go hy17 ?_
    try simp (disch := first | assumption | omega | (simp only [h_sl, h_al] <;> omega) | fail) only [WW, WH, ↓reduceIte, Nat.reduceEqDiff, Nat.reduceLT, Nat.reduceLeDiff, Nat.reduceAdd, Nat.reduceSub, Nat.reduceMul, Nat.reduceBEq, reduceCtorEq, if_false, if_true, L_law14_AddrBack, hy17, hs_o1]
    refine hK _ _ _ _ _ ?_ (WxH.refl _) (kn _ hfr ((hs_o1).trans rfl))
    exact WE.cons (Wx.nn) (WE.cons (Wx.ptr) (WE.cons (Wx.str) (WE.cons (Wx.boolE (by simp only [hy17, WB])) (WE.nil))))
set_option maxHeartbeats 2000000 in
theorem law14_AddrBack_l1_ok {F : Nat} {i20 : Int} {hops3 : List (List UInt8)} {r19 : List UInt8} {q18 : Nat} {r10 : List UInt8} {a1 : AddressV} {H0 H : AH} (hfr : Fr H0 H0.length [] H) (hs_o1 : H[q18]? = some [(.str a1.local0), (.str a1.domain)]) (hi0 : H0.length ≤ q18) {K : Exit → Env → AH → Prop} {o : (Bool) ⊕ ((List UInt8))}
    (h : iter (law14_AddrBack_l1 F hops3) F (r19, i20) = some o)
    (kb0 : ∀ o' : (List UInt8), o = .inr o' → ∀ H' : AH, Fr H0 H0.length [] H' → H'[q18]? = some [(.str a1.local0), (.str a1.domain)] → K (.exit 0) [(3, (.ptr q18 0)), (7, (.str r10)), (11, (.str o'))] H')
    (kr : ∀ o' : Bool, o = .inl o' → ∀ H' : AH, Fr H0 H0.length [] H' → K .ret [(6, (.bool o'))] H') :
    AX Tryd.prog L_law14_AddrBack 110 H0.length c_law14_AddrBack_l1 K [(2, (.sl .n 1 (ml AV.str hops3))), (3, (.ptr q18 0)), (7, (.str r10)), (11, (.str r19)), (12, (.int .i64 i20))] H := by
  refine AX.iter (m := m_law14_AddrBack_l1b) rfl (by decide) (fun s e H1 => match s with | (r19, i20) => e = [(2, (.sl .n 1 (ml AV.str hops3))), (3, (.ptr q18 0)), (7, (.str r10)), (11, (.str r19)), (12, (.int .i64 i20))] ∧ Fr H0 H0.length [] H1 ∧ H1[q18]? = some [(.str a1.local0), (.str a1.domain)]) h ⟨rfl, hfr, hs_o1⟩ ?_
  skip
  rintro K' ⟨r19, i20⟩ st e H ⟨rfl, hfr, hs_o1⟩ h hN hB hR hX
  have hle := hfr.le
  have hl_o1 := h_lt hs_o1
  rw [law14_AddrBack_l1.eq_1] at h
  try simp (disch := first | assumption | omega | (simp only [h_sl, h_al] <;> omega) | fail) only [WW, WH, ↓reduceIte, Nat.reduceEqDiff, Nat.reduceLT, Nat.reduceLeDiff, Nat.reduceAdd, Nat.reduceSub, Nat.reduceMul, Nat.reduceBEq, reduceCtorEq, if_false, if_true, L_law14_AddrBack, m_law14_AddrBack_l1b, c_law14_AddrBack_l1b, hs_o1]
  rcases ifb h with ⟨hy19, h⟩ | ⟨hy19, h⟩
  · refine UC_t hy19 ?_
    obtain ⟨x21, hy20, h⟩ := bnd' h
    try simp (disch := first | assumption | omega | (simp only [h_sl, h_al] <;> omega) | fail) only [WW, WH, ↓reduceIte, Nat.reduceEqDiff, Nat.reduceLT, Nat.reduceLeDiff, Nat.reduceAdd, Nat.reduceSub, Nat.reduceMul, Nat.reduceBEq, reduceCtorEq, if_false, if_true, L_law14_AddrBack, hy20, hs_o1]
    obtain ⟨r22, hy21, h⟩ := bnd' h
    refine UK_e (as' := [(.str x21)]) (h := ref14_Domain_ok (s1 := x21) (F := F)  hy21) (hw := WL.cons (Wx.str) (WL.nil)) (hh := WxH.refl _) ?_
    try simp (disch := first | assumption | omega | (simp only [h_sl, h_al] <;> omega) | fail) only [WW, WH, ↓reduceIte, Nat.reduceEqDiff, Nat.reduceLT, Nat.reduceLeDiff, Nat.reduceAdd, Nat.reduceSub, Nat.reduceMul, Nat.reduceBEq, reduceCtorEq, if_false, if_true, L_law14_AddrBack, hs_o1]
    rcases ifb h with ⟨hy22, h⟩ | ⟨hy22, h⟩
    · refine UC_t hy22 ?_
      try simp (disch := first | assumption | omega | (simp only [h_sl, h_al] <;> omega) | fail) only [WW, WH, ↓reduceIte, Nat.reduceEqDiff, Nat.reduceLT, Nat.reduceLeDiff, Nat.reduceAdd, Nat.reduceSub, Nat.reduceMul, Nat.reduceBEq, reduceCtorEq, if_false, if_true, L_law14_AddrBack, hs_o1]
      have hq := Option.some.inj h; subst hq
      refine hX _ _ _ _ _ (by simp) ?_ (WxH.refl _) (kr _ (hR _ rfl) _ hfr)
      exact WE.cons (Wx.bool) (WE.nil)
    · refine UC_f hy22 ?_
      try simp (disch := first | assumption | omega | (simp only [h_sl, h_al] <;> omega) | fail) only [WW, WH, ↓reduceIte, Nat.reduceEqDiff, Nat.reduceLT, Nat.reduceLeDiff, Nat.reduceAdd, Nat.reduceSub, Nat.reduceMul, Nat.reduceBEq, reduceCtorEq, if_false, if_true, L_law14_AddrBack, hs_o1]
      rcases ifb h with ⟨hy23, h⟩ | ⟨hy23, h⟩
      · refine UC_t hy23 ?_
        obtain ⟨x23, hy24, h⟩ := bnd' h
        obtain ⟨x24, hy25, h⟩ := bnd' h
        obtain ⟨x25, hy26, h⟩ := bnd' h
        try simp (disch := first | assumption | omega | (simp only [h_sl, h_al] <;> omega) | fail) only [WW, WH, ↓reduceIte, Nat.reduceEqDiff, Nat.reduceLT, Nat.reduceLeDiff, Nat.reduceAdd, Nat.reduceSub, Nat.reduceMul, Nat.reduceBEq, reduceCtorEq, if_false, if_true, L_law14_AddrBack, hy24, hy25, hy20, hy26, hs_o1]
        have hq := Option.some.inj h; subst hq
        refine hN _ rfl _ _ _ _ ?_ (WxH.refl _) ⟨rfl, hfr, ((hs_o1).trans rfl)⟩
        exact WE.cons (Wx.nn) (WE.cons (Wx.ptr) (WE.cons (Wx.str) (WE.cons (Wx.str) (WE.cons (Wx.int) (WE.nil)))))
      · refine UC_f hy23 ?_
        obtain ⟨x26, hy27, h⟩ := bnd' h
        obtain ⟨x27, hy28, h⟩ := bnd' h
        try simp (disch := first | assumption | omega | (simp only [h_sl, h_al] <;> omega) | fail) only [WW, WH, ↓reduceIte, Nat.reduceEqDiff, Nat.reduceLT, Nat.reduceLeDiff, Nat.reduceAdd, Nat.reduceSub, Nat.reduceMul, Nat.reduceBEq, reduceCtorEq, if_false, if_true, L_law14_AddrBack, hy27, hy20, hy28, hs_o1]
        have hq := Option.some.inj h; subst hq
        refine hN _ rfl _ _ _ _ ?_ (WxH.refl _) ⟨rfl, hfr, ((hs_o1).trans rfl)⟩
        exact WE.cons (Wx.nn) (WE.cons (Wx.ptr) (WE.cons (Wx.str) (WE.cons (Wx.str) (WE.cons (Wx.int) (WE.nil)))))
  · refine UC_f hy19 ?_
    try simp (disch := first | assumption | omega | (simp only [h_sl, h_al] <;> omega) | fail) only [WW, WH, ↓reduceIte, Nat.reduceEqDiff, Nat.reduceLT, Nat.reduceLeDiff, Nat.reduceAdd, Nat.reduceSub, Nat.reduceMul, Nat.reduceBEq, reduceCtorEq, if_false, if_true, L_law14_AddrBack, hs_o1]
    have hq := Option.some.inj h; subst hq
    refine hX _ _ _ _ _ (by simp) ?_ (WxH.refl _) (kb0 _ (hB _ rfl) _ hfr ((hs_o1).trans rfl))
    exact WE.cons (Wx.ptr) (WE.cons (Wx.str) (WE.cons (Wx.str) (WE.nil)))
set_option maxHeartbeats 2000000 in
theorem law14_AddrBack_p4_ok {q37 : Nat} {q38 : Nat} {r36 : Int} {a1 : AddressV} {r35 : AddressV} {H0 H : AH} (hfr : Fr H0 H0.length [] H) (hs_o1 : H[q37]? = some [(.str a1.local0), (.str a1.domain)]) (hs_o3 : H[q38]? = some [(.str r35.local0), (.str r35.domain)]) (hi0 : H0.length ≤ q37) (hi1 : H0.length ≤ q38) (hi2 : q37 ≠ q38) {K : Exit → Env → AH → Prop}
    (kn : ∀ H' : AH, Fr H0 H0.length [] H' → H'[q37]? = some [(.str a1.local0), (.str a1.domain)] → H'[q38]? = some [(.str r35.local0), (.str r35.domain)] → K .normal [(6, (.bool ((decide (r36 = 0)) && (decide (r35.local0 = a1.local0) && decide (r35.domain = a1.domain)))))] H') :
    AX Tryd.prog L_law14_AddrBack 110 H0.length c_law14_AddrBack_p4 K [(3, (.ptr q37 0)), (13, (.ptr q38 0)), (14, (.int .i64 r36))] H := by
  refine AX.go (m := m_law14_AddrBack_p4) rfl (by decide) fun K' hK => ?_
  have hle := hfr.le
  have hl_o1 := h_lt hs_o1
  have hl_o3 := h_lt hs_o3
  try simp (disch := first | assumption | omega | (simp only [h_sl, h_al] <;> omega) | fail) only [WW, WH, ↓reduceIte, Nat.reduceEqDiff, Nat.reduceLT, Nat.reduceLeDiff, Nat.reduceAdd, Nat.reduceSub, Nat.reduceMul, Nat.reduceBEq, reduceCtorEq, if_false, if_true, L_law14_AddrBack, m_law14_AddrBack_p4, c_law14_AddrBack_p4, hs_o1, hs_o3]
  rcases bcases ((decide (r36 = 0))) with hy35 | hy35
  · refine UG_go hy35 ?_
    try simp (disch := first | assumption | omega | (simp only [h_sl, h_al] <;> omega) | fail) only [WW, WH, ↓reduceIte, Nat.reduceEqDiff, Nat.reduceLT, Nat.reduceLeDiff, Nat.reduceAdd, Nat.reduceSub, Nat.reduceMul, Nat.reduceBEq, reduceCtorEq, if_false, if_true, L_law14_AddrBack, hy35, hs_o1, hs_o3]
    refine hK _ _ _ _ _ ?_ (WxH.refl _) (kn _ hfr ((hs_o1).trans rfl) ((hs_o3).trans rfl))
    exact WE.cons (Wx.boolE (by simp only [hy35, WB])) (WE.nil)
  · refine UG_nt hy35 ?_
    try simp (disch := first | assumption | omega | (simp only [h_sl, h_al] <;> omega) | fail) only [WW, WH, ↓reduceIte, Nat.reduceEqDiff, Nat.reduceLT, Nat.reduceLeDiff, Nat.reduceAdd, Nat.reduceSub, Nat.reduceMul, Nat.reduceBEq, reduceCtorEq, if_false, if_true, L_law14_AddrBack, hy35, hs_o1, hs_o3]
    refine hK _ _ _ _ _ ?_ (WxH.refl _) (kn _ hfr ((hs_o1).trans rfl) ((hs_o3).trans rfl))
    exact WE.cons (Wx.boolE (by simp only [hy35, WB])) (WE.nil)
set_option maxHeartbeats 2000000 in
theorem law14_AddrBack_ok {F : Nat} {a1 : AddressV} {more2 : List UInt8} {hops3 : List (List UInt8)}  {H0 : AH}  {rz0 : Bool} (h : law14_AddrBack F a1 more2 hops3 = some rz0) :
    ACalls Tryd.prog 8 [(.agg [(.str a1.local0), (.str a1.domain)]), (.str more2), (.sl .n 1 (ml AV.str hops3))] H0 fun v H' => v = (.bool rz0) ∧ H' = H0 := by
  refine ACalls.goX k_law14_AddrBack (m := m_law14_AddrBack) rfl L_law14_AddrBack (by decide) (by simp) fun hcl K0 hK0 => ?_
  refine AX.of_U (m := m_law14_AddrBack) rfl (by decide) ?_
  have hfr := Fr.refl H0 []
  have hle := hfr.le
  rw [law14_AddrBack.eq_1] at h
  obtain ⟨H, hHH⟩ : ∃ H, H = H0 := ⟨_, rfl⟩
  have hfr : Fr H0 H0.length [] H := hHH ▸ hfr
  have hle := hfr.le
  suffices hU : U Tryd.prog L_law14_AddrBack 110 H0.length [.code m_law14_AddrBack] K0 .normal (argE 0 [(.agg [(.str a1.local0), (.str a1.domain)]), (.str more2), (.sl .n 1 (ml AV.str hops3))]) H by rwa [hHH] at hU
  try simp (disch := first | assumption | omega | (simp only [h_sl, h_al] <;> omega) | fail) only [WW, WH, ↓reduceIte, Nat.reduceEqDiff, Nat.reduceLT, Nat.reduceLeDiff, Nat.reduceAdd, Nat.reduceSub, Nat.reduceMul, Nat.reduceBEq, reduceCtorEq, if_false, if_true, L_law14_AddrBack, m_law14_AddrBack]
  obtain ⟨r4, hy1, h⟩ := bnd' h
  refine UK_e (as' := []) (h := law14_known_ok  (F := F)  hy1) (hw := WL.nil) (hh := WxH.refl _) ?_
  try simp (disch := first | assumption | omega | (simp only [h_sl, h_al] <;> omega) | fail) only [WW, WH, ↓reduceIte, Nat.reduceEqDiff, Nat.reduceLT, Nat.reduceLeDiff, Nat.reduceAdd, Nat.reduceSub, Nat.reduceMul, Nat.reduceBEq, reduceCtorEq, if_false, if_true, L_law14_AddrBack]
  rcases ifb h with ⟨hy2, h⟩ | ⟨hy2, h⟩
  · refine UC_t hy2 ?_
    try simp (disch := first | assumption | omega | (simp only [h_sl, h_al] <;> omega) | fail) only [WW, WH, ↓reduceIte, Nat.reduceEqDiff, Nat.reduceLT, Nat.reduceLeDiff, Nat.reduceAdd, Nat.reduceSub, Nat.reduceMul, Nat.reduceBEq, reduceCtorEq, if_false, if_true, L_law14_AddrBack]
    have hq := Option.some.inj h; subst hq
    refine hK0 _ _ _ (.inr rfl) ?_
    exact fn_end0 (by exact (Fr.app hfr)) hcl (resv_tmp (a := (.bool false)) rfl rfl resv_nil) (by first | (simp [fin, b_df, b_sh, b_sh1, b_Cl]; done) | (simp [fin, AV.df, AV.sh, AV.sh1, b_df, b_sh, b_sh1, b_Cl]; done)) (Wx.bool) (r' := (.bool false)) ⟨rfl, rfl⟩
  · refine UC_f hy2 ?_
    try simp (disch := first | assumption | omega | (simp only [h_sl, h_al] <;> omega) | fail) only [WW, WH, ↓reduceIte, Nat.reduceEqDiff, Nat.reduceLT, Nat.reduceLeDiff, Nat.reduceAdd, Nat.reduceSub, Nat.reduceMul, Nat.reduceBEq, reduceCtorEq, if_false, if_true, L_law14_AddrBack]
    obtain ⟨q5, hg_q5⟩ : ∃ q : Nat, H.length = q := ⟨_, rfl⟩
    try rw [hg_q5]
    obtain ⟨t9, hy8, h⟩ := bnd' h
    refine UX_of (AX.weak ?_ (WxH.refl _) (law14_AddrBack_p1_ok (F := F) (a1 := a1) (more2 := more2) (hops3 := hops3) (t8 := t9) (q5 := q5) ((Fr.app hfr)) ((h_new' (by first | assumption | omega | (simp only [h_sl, h_al] <;> omega) | fail)).trans rfl) (by first | assumption | omega | (simp only [h_sl, h_al] <;> omega) | fail) hy8 ?_))
    · exact WE.cons (Wx.str) (WE.cons (Wx.nn) (WE.cons (Wx.ptr) (WE.nil)))
    intro H hfr hs_o1
    have hle := hfr.le
    have hl_o1 := h_lt hs_o1
    try simp (disch := first | assumption | omega | (simp only [h_sl, h_al] <;> omega) | fail) only [WW, WH, ↓reduceIte, Nat.reduceEqDiff, Nat.reduceLT, Nat.reduceLeDiff, Nat.reduceAdd, Nat.reduceSub, Nat.reduceMul, Nat.reduceBEq, reduceCtorEq, if_false, if_true, L_law14_AddrBack, hs_o1]
    rcases ifb h with ⟨hy9, h⟩ | ⟨hy9, h⟩
    · refine UC_t hy9 ?_
      try simp (disch := first | assumption | omega | (simp only [h_sl, h_al] <;> omega) | fail) only [WW, WH, ↓reduceIte, Nat.reduceEqDiff, Nat.reduceLT, Nat.reduceLeDiff, Nat.reduceAdd, Nat.reduceSub, Nat.reduceMul, Nat.reduceBEq, reduceCtorEq, if_false, if_true, L_law14_AddrBack, hs_o1]
      have hq := Option.some.inj h; subst hq
      refine hK0 _ _ _ (.inr rfl) ?_
      exact fn_end0 (by exact hfr) hcl (resv_tmp (a := (.bool true)) rfl rfl resv_nil) (by first | (simp [fin, b_df, b_sh, b_sh1, b_Cl]; done) | (simp [fin, AV.df, AV.sh, AV.sh1, b_df, b_sh, b_sh1, b_Cl]; done)) (Wx.bool) (r' := (.bool true)) ⟨rfl, rfl⟩
    · refine UC_f hy9 ?_
      try simp (disch := first | assumption | omega | (simp only [h_sl, h_al] <;> omega) | fail) only [WW, WH, ↓reduceIte, Nat.reduceEqDiff, Nat.reduceLT, Nat.reduceLeDiff, Nat.reduceAdd, Nat.reduceSub, Nat.reduceMul, Nat.reduceBEq, reduceCtorEq, if_false, if_true, L_law14_AddrBack, hs_o1]
      obtain ⟨r10, hy10, h⟩ := bnd' h
      refine UK_e (as' := [(.agg [(.str a1.local0), (.str a1.domain)])]) (h := addr_Print_ok (a1 := a1) (F := F)  hy10) (hw := WL.cons (Wx.agg (W1L.same (W1L.same (W1L.nil)))) (WL.nil)) (hh := WxH.refl _) ?_
      obtain ⟨x11, hy11, h⟩ := bnd' h
      try simp (disch := first | assumption | omega | (simp only [h_sl, h_al] <;> omega) | fail) only [WW, WH, ↓reduceIte, Nat.reduceEqDiff, Nat.reduceLT, Nat.reduceLeDiff, Nat.reduceAdd, Nat.reduceSub, Nat.reduceMul, Nat.reduceBEq, reduceCtorEq, if_false, if_true, L_law14_AddrBack, hy11, hs_o1]
      obtain ⟨⟨r12, r13, r14⟩, hy12, h⟩ := bnd' h
      dsimp only at h
      refine UK_e (as' := [(.str x11)]) (h := addr_Path_ok (s1 := x11) (F := F)  hy12) (hw := WL.cons (Wx.str) (WL.nil)) (hh := WxH.refl _) ?_
      try simp (disch := first | assumption | omega | (simp only [h_sl, h_al] <;> omega) | fail) only [WW, WH, ↓reduceIte, Nat.reduceEqDiff, Nat.reduceLT, Nat.reduceLeDiff, Nat.reduceAdd, Nat.reduceSub, Nat.reduceMul, Nat.reduceBEq, reduceCtorEq, if_false, if_true, L_law14_AddrBack, hs_o1]
      obtain ⟨q16, hg_q16⟩ : ∃ q : Nat, H.length = q := ⟨_, rfl⟩
      try rw [hg_q16]
      refine UX_of (AX.weak ?_ (WxH.refl _) (law14_AddrBack_p2_ok (more2 := more2) (hops3 := hops3) (q15 := q5) (r10 := r10) (q16 := q16) (r13 := r13) (r14 := r14) (a1 := a1) (r12 := r12) ((Fr.set (s := q16) (Fr.app hfr) (.inr (by first | assumption | omega | (simp only [h_sl, h_al] <;> omega) | fail)))) (((h_ne (by first | assumption | omega | (simp only [h_sl, h_al] <;> omega) | fail)).trans ((h_app (by first | assumption | omega | (simp only [h_sl, h_al] <;> omega) | fail)).trans (hs_o1))).trans rfl) ((h_eq (by first | assumption | omega | (simp only [h_sl, h_al] <;> omega) | fail)).trans rfl) (by first | assumption | omega | (simp only [h_sl, h_al] <;> omega) | fail) (by first | assumption | omega | (simp only [h_sl, h_al] <;> omega) | fail) (by first | assumption | omega | (simp only [h_sl, h_al] <;> omega) | fail) ?_))
      · exact WE.cons (Wx.str) (WE.cons (Wx.nn) (WE.cons (Wx.ptr) (WE.cons (Wx.str) (WE.cons (Wx.ptr) (WE.cons (Wx.str) (WE.cons (Wx.int) (WE.nil)))))))
      intro H hfr hs_o1 hs_o2
      have hle := hfr.le
      have hl_o1 := h_lt hs_o1
      have hl_o2 := h_lt hs_o2
      try simp (disch := first | assumption | omega | (simp only [h_sl, h_al] <;> omega) | fail) only [WW, WH, ↓reduceIte, Nat.reduceEqDiff, Nat.reduceLT, Nat.reduceLeDiff, Nat.reduceAdd, Nat.reduceSub, Nat.reduceMul, Nat.reduceBEq, reduceCtorEq, if_false, if_true, L_law14_AddrBack, hs_o1, hs_o2]
      rcases ifb h with ⟨hy16, h⟩ | ⟨hy16, h⟩
      · refine UC_t hy16 ?_
        try simp (disch := first | assumption | omega | (simp only [h_sl, h_al] <;> omega) | fail) only [WW, WH, ↓reduceIte, Nat.reduceEqDiff, Nat.reduceLT, Nat.reduceLeDiff, Nat.reduceAdd, Nat.reduceSub, Nat.reduceMul, Nat.reduceBEq, reduceCtorEq, if_false, if_true, L_law14_AddrBack, hs_o1, hs_o2]
        have hq := Option.some.inj h; subst hq
        refine hK0 _ _ _ (.inr rfl) ?_
        exact fn_end0 (by exact hfr) hcl (resv_tmp (a := (.bool false)) rfl rfl resv_nil) (by first | (simp [fin, b_df, b_sh, b_sh1, b_Cl]; done) | (simp [fin, AV.df, AV.sh, AV.sh1, b_df, b_sh, b_sh1, b_Cl]; done)) (Wx.bool) (r' := (.bool false)) ⟨rfl, rfl⟩
      · refine UC_f hy16 ?_
        try simp (disch := first | assumption | omega | (simp only [h_sl, h_al] <;> omega) | fail) only [WW, WH, ↓reduceIte, Nat.reduceEqDiff, Nat.reduceLT, Nat.reduceLeDiff, Nat.reduceAdd, Nat.reduceSub, Nat.reduceMul, Nat.reduceBEq, reduceCtorEq, if_false, if_true, L_law14_AddrBack, hs_o1, hs_o2]
        refine UX_of (AX.weak ?_ (WxH.refl _) (law14_AddrBack_p3_ok (hops3 := hops3) (q17 := q5) (r10 := r10) (a1 := a1) (hfr) ((hs_o1).trans rfl) (by first | assumption | omega | (simp only [h_sl, h_al] <;> omega) | fail) ?_))
        · exact WE.cons (Wx.nn) (WE.cons (Wx.ptr) (WE.cons (Wx.str) (WE.nil)))
        intro H hfr hs_o1
        have hle := hfr.le
        have hl_o1 := h_lt hs_o1
        try simp (disch := first | assumption | omega | (simp only [h_sl, h_al] <;> omega) | fail) only [WW, WH, ↓reduceIte, Nat.reduceEqDiff, Nat.reduceLT, Nat.reduceLeDiff, Nat.reduceAdd, Nat.reduceSub, Nat.reduceMul, Nat.reduceBEq, reduceCtorEq, if_false, if_true, L_law14_AddrBack, hs_o1]
        rcases ifb h with ⟨hy18, h⟩ | ⟨hy18, h⟩
        · refine UC_t hy18 ?_
          try simp (disch := first | assumption | omega | (simp only [h_sl, h_al] <;> omega) | fail) only [WW, WH, ↓reduceIte, Nat.reduceEqDiff, Nat.reduceLT, Nat.reduceLeDiff, Nat.reduceAdd, Nat.reduceSub, Nat.reduceMul, Nat.reduceBEq, reduceCtorEq, if_false, if_true, L_law14_AddrBack, hs_o1]
          have hq := Option.some.inj h; subst hq
          refine hK0 _ _ _ (.inr rfl) ?_
          exact fn_end0 (by exact hfr) hcl (resv_tmp (a := (.bool true)) rfl rfl resv_nil) (by first | (simp [fin, b_df, b_sh, b_sh1, b_Cl]; done) | (simp [fin, AV.df, AV.sh, AV.sh1, b_df, b_sh, b_sh1, b_Cl]; done)) (Wx.bool) (r' := (.bool true)) ⟨rfl, rfl⟩
        · refine UC_f hy18 ?_
          try simp (disch := first | assumption | omega | (simp only [h_sl, h_al] <;> omega) | fail) only [WW, WH, ↓reduceIte, Nat.reduceEqDiff, Nat.reduceLT, Nat.reduceLeDiff, Nat.reduceAdd, Nat.reduceSub, Nat.reduceMul, Nat.reduceBEq, reduceCtorEq, if_false, if_true, L_law14_AddrBack, hs_o1]
          obtain ⟨o40, hy29, h⟩ := bnd' h
          refine UX_of (AX.weak ?_ (WxH.refl _) (law14_AddrBack_l1_ok  (hops3 := hops3) (r10 := r10) (a1 := a1) (r19 := ([] : List UInt8)) (i20 := 0) (q18 := q5) (hfr) ((hs_o1).trans rfl) (by first | assumption | omega | (simp only [h_sl, h_al] <;> omega) | fail) (o := o40) hy29 ?_ ?_))
          · exact WE.cons (Wx.nn) (WE.cons (Wx.ptr) (WE.cons (Wx.str) (WE.cons (Wx.str) (WE.cons (Wx.int) (WE.nil)))))
          · rintro r30 rfl H hfr hs_o1
            try dsimp only at h hs_o1
            have hle := hfr.le
            have hl_o1 := h_lt hs_o1
            obtain ⟨x31, hy30, h⟩ := bnd' h
            obtain ⟨x32, hy31, h⟩ := bnd' h
            obtain ⟨x33, hy32, h⟩ := bnd' h
            obtain ⟨x34, hy33, h⟩ := bnd' h
            try simp (disch := first | assumption | omega | (simp only [h_sl, h_al] <;> omega) | fail) only [WW, WH, ↓reduceIte, Nat.reduceEqDiff, Nat.reduceLT, Nat.reduceLeDiff, Nat.reduceAdd, Nat.reduceSub, Nat.reduceMul, Nat.reduceBEq, reduceCtorEq, if_false, if_true, L_law14_AddrBack, hy30, hy31, hy32, hy33, hs_o1]
            obtain ⟨⟨r35, r36⟩, hy34, h⟩ := bnd' h
            dsimp only at h
            refine UK_e (as' := [(.str x34)]) (h := addr_Parse_ok (s1 := x34) (F := F)  hy34) (hw := WL.cons (Wx.str) (WL.nil)) (hh := WxH.refl _) ?_
            try simp (disch := first | assumption | omega | (simp only [h_sl, h_al] <;> omega) | fail) only [WW, WH, ↓reduceIte, Nat.reduceEqDiff, Nat.reduceLT, Nat.reduceLeDiff, Nat.reduceAdd, Nat.reduceSub, Nat.reduceMul, Nat.reduceBEq, reduceCtorEq, if_false, if_true, L_law14_AddrBack, hs_o1]
            obtain ⟨q38, hg_q38⟩ : ∃ q : Nat, H.length = q := ⟨_, rfl⟩
            try rw [hg_q38]
            refine UX_of (AX.weak ?_ (WxH.refl _) (law14_AddrBack_p4_ok (q37 := q5) (q38 := q38) (r36 := r36) (a1 := a1) (r35 := r35) ((Fr.set (s := q38) (Fr.app hfr) (.inr (by first | assumption | omega | (simp only [h_sl, h_al] <;> omega) | fail)))) (((h_ne (by first | assumption | omega | (simp only [h_sl, h_al] <;> omega) | fail)).trans ((h_app (by first | assumption | omega | (simp only [h_sl, h_al] <;> omega) | fail)).trans (hs_o1))).trans rfl) ((h_eq (by first | assumption | omega | (simp only [h_sl, h_al] <;> omega) | fail)).trans rfl) (by first | assumption | omega | (simp only [h_sl, h_al] <;> omega) | fail) (by first | assumption | omega | (simp only [h_sl, h_al] <;> omega) | fail) (by first | assumption | omega | (simp only [h_sl, h_al] <;> omega) | fail) ?_))
            · exact WE.cons (Wx.ptr) (WE.cons (Wx.ptr) (WE.cons (Wx.int) (WE.nil)))
            intro H hfr hs_o1 hs_o3
            have hle := hfr.le
            have hl_o1 := h_lt hs_o1
            have hl_o3 := h_lt hs_o3
            try simp (disch := first | assumption | omega | (simp only [h_sl, h_al] <;> omega) | fail) only [WW, WH, ↓reduceIte, Nat.reduceEqDiff, Nat.reduceLT, Nat.reduceLeDiff, Nat.reduceAdd, Nat.reduceSub, Nat.reduceMul, Nat.reduceBEq, reduceCtorEq, if_false, if_true, L_law14_AddrBack, hs_o1, hs_o3]
            have hq := Option.some.inj h; subst hq
            refine hK0 _ _ _ (.inr rfl) ?_
            exact fn_end0 (by exact hfr) hcl (resv_tmp (a := (.bool ((decide (r36 = 0)) && (decide (r35.local0 = a1.local0) && decide (r35.domain = a1.domain))))) rfl rfl resv_nil) (by first | (simp [fin, b_df, b_sh, b_sh1, b_Cl]; done) | (simp [fin, AV.df, AV.sh, AV.sh1, b_df, b_sh, b_sh1, b_Cl]; done)) (Wx.bool) (r' := (.bool ((decide (r36 = 0)) && (decide (r35.local0 = a1.local0) && decide (r35.domain = a1.domain))))) ⟨rfl, rfl⟩
          · rintro r39 rfl H hfr
            try dsimp only at h 
            have hle := hfr.le
            try simp (disch := first | assumption | omega | (simp only [h_sl, h_al] <;> omega) | fail) only [WW, WH, ↓reduceIte, Nat.reduceEqDiff, Nat.reduceLT, Nat.reduceLeDiff, Nat.reduceAdd, Nat.reduceSub, Nat.reduceMul, Nat.reduceBEq, reduceCtorEq, if_false, if_true, L_law14_AddrBack]
            have hq := Option.some.inj h; subst hq
            refine hK0 _ _ _ (.inr rfl) ?_
            exact fn_end0 (by exact hfr) hcl (resv_tmp (a := (.bool r39)) rfl rfl resv_nil) (by first | (simp [fin, b_df, b_sh, b_sh1, b_Cl]; done) | (simp [fin, AV.df, AV.sh, AV.sh1, b_df, b_sh, b_sh1, b_Cl]; done)) (Wx.bool) (r' := (.bool r39)) ⟨rfl, rfl⟩

end Go.Proofs.AddrS
