import Derived.Test.YtndhkepeecpilaaDoorRS2
set_option linter.unusedSimpArgs false
set_option linter.unusedVariables false
set_option linter.unusedSectionVars false
set_option linter.defProp false
set_option maxRecDepth 100000
namespace Go.Proofs.ReplyS
open Go Go.Am Go.Proofs

/-! ### mailbag/mailbaglaw16.digits -/
def c_law16_digits : ACode := (.seq (.rg [⟨(some 2), (.asg (.c (.str []))), none⟩]) (.seq (.rg [⟨(some 3), (.mv (.t 0)), none⟩, ⟨(some 4), (.bin .quo (.t 3) (.c (.int .i64 100))), none⟩, ⟨(some 5), (.bin .add (.c (.int .i64 48)) (.t 4)), none⟩, ⟨(some 6), (.cvt (.int .u8) (.t 5)), none⟩, ⟨(some 7), (.mv (.t 0)), none⟩, ⟨(some 8), (.bin .quo (.t 7) (.c (.int .i64 10))), none⟩, ⟨(some 9), (.bin .rem (.t 8) (.c (.int .i64 10))), none⟩, ⟨(some 10), (.bin .add (.c (.int .i64 48)) (.t 9)), none⟩, ⟨(some 11), (.cvt (.int .u8) (.t 10)), none⟩, ⟨(some 12), (.mv (.t 0)), none⟩, ⟨(some 13), (.bin .rem (.t 12) (.c (.int .i64 10))), none⟩, ⟨(some 14), (.bin .add (.c (.int .i64 48)) (.t 13)), none⟩, ⟨(some 15), (.cvt (.int .u8) (.t 14)), none⟩, ⟨(some 16), (.bsl 1 [(.t 6), (.t 11), (.t 15)]), none⟩, ⟨(some 17), (.cvt .bs (.t 16)), none⟩, ⟨(some 2), (.asg (.t 17)), none⟩]) .ret))
abbrev m_law16_digits := c_law16_digits
theorem k_law16_digits : FnOk Tryd.prog 10 18 [(.tmp 2)] c_law16_digits := ⟨Tryd.f10, _, rfl, by decide, rfl, by kernel_rfl, rfl, rfl⟩
abbrev L_law16_digits : List Nat := [0, 2]
def law16_digits (nn1 : Int) : Option ((List UInt8)) :=
  some ([(UInt8.ofInt (IntKind.wrap .i64 (48 + (IntKind.wrap .i64 (Int.tdiv nn1 100))))), (UInt8.ofInt (IntKind.wrap .i64 (48 + (Int.tmod (IntKind.wrap .i64 (Int.tdiv nn1 10)) 10)))), (UInt8.ofInt (IntKind.wrap .i64 (48 + (Int.tmod nn1 10))))] : List UInt8)
set_option maxHeartbeats 2000000 in
theorem law16_digits_ok {nn1 : Int}  {H0 : AH}  {rz0 : List UInt8} (h : law16_digits nn1 = some rz0) :
    ACalls Tryd.prog 10 [(.int .i64 nn1)] H0 fun v H' => v = (.str rz0) ∧ H' = H0 := by
  refine ACalls.goX k_law16_digits (m := m_law16_digits) rfl L_law16_digits (by decide) (by simp) fun hcl K0 hK0 => ?_
  refine AX.of_U (m := m_law16_digits) rfl (by decide) ?_
  rw [law16_digits.eq_1] at h
  have hy1 : dv .i64 nn1 100 = some (IntKind.wrap .i64 (Int.tdiv nn1 100)) := rfl
  have hy2 : dv .i64 nn1 10 = some (IntKind.wrap .i64 (Int.tdiv nn1 10)) := rfl
  have hy3 : rm .i64 (IntKind.wrap .i64 (Int.tdiv nn1 10)) 10 = some (Int.tmod (IntKind.wrap .i64 (Int.tdiv nn1 10)) 10) := rfl
  have hy4 : rm .i64 nn1 10 = some (Int.tmod nn1 10) := rfl
  simp only [WW, ↓reduceIte, Nat.reduceEqDiff, Nat.reduceLT, Nat.reduceLeDiff, Nat.reduceAdd, Nat.reduceSub, Nat.reduceMul, Nat.reduceBEq, reduceCtorEq, if_false, if_true, L_law16_digits, m_law16_digits, c_law16_digits, hy1, hy2, hy3, hy4, encReplyV]
  have hq := Option.some.inj h; subst hq
  refine hK0 _ _ _ (.inr rfl) ?_
  exact fn_endp hcl (resv_tmp (a := (.str ([(UInt8.ofInt (IntKind.wrap .i64 (48 + (IntKind.wrap .i64 (Int.tdiv nn1 100))))), (UInt8.ofInt (IntKind.wrap .i64 (48 + (Int.tmod (IntKind.wrap .i64 (Int.tdiv nn1 10)) 10)))), (UInt8.ofInt (IntKind.wrap .i64 (48 + (Int.tmod nn1 10))))] : List UInt8))) rfl rfl resv_nil) (by simp [fin, AV.df, AV.sh, AV.sh1, b_df, b_sh, b_sh1, b_Cl]) (Wx.str) (r' := (.str ([(UInt8.ofInt (IntKind.wrap .i64 (48 + (IntKind.wrap .i64 (Int.tdiv nn1 100))))), (UInt8.ofInt (IntKind.wrap .i64 (48 + (Int.tmod (IntKind.wrap .i64 (Int.tdiv nn1 10)) 10)))), (UInt8.ofInt (IntKind.wrap .i64 (48 + (Int.tmod nn1 10))))] : List UInt8))) ⟨rfl, rfl⟩

/-! ### mailbag/mailbaglaw16.ReplyCodes -/
def c_law16_ReplyCodes_p1 : ACode := (.rg [⟨(some 20), (.mv (.t 0)), none⟩, ⟨(some 21), (.bin .lss (.t 20) (.c (.int .i64 200))), none⟩, ⟨(some 22), (.mv (.t 21)), none⟩, ⟨(some 23), (.mv (.t 0)), (some (22, false))⟩, ⟨(some 24), (.bin .gtr (.t 23) (.c (.int .i64 599))), (some (22, false))⟩, ⟨(some 25), (.pick (.t 22) (.c (.bool true)) (.t 24)), none⟩, ⟨(some 26), (.mv (.t 25)), none⟩, ⟨(some 27), (.mv (.t 1)), (some (26, false))⟩, ⟨(some 28), (.bin .lss (.t 27) (.c (.int .i64 200))), (some (26, false))⟩, ⟨(some 29), (.pick (.t 26) (.c (.bool true)) (.t 28)), none⟩, ⟨(some 30), (.mv (.t 29)), none⟩, ⟨(some 31), (.mv (.t 1)), (some (30, false))⟩, ⟨(some 32), (.bin .gtr (.t 31) (.c (.int .i64 599))), (some (30, false))⟩, ⟨(some 33), (.pick (.t 30) (.c (.bool true)) (.t 32)), none⟩, ⟨(some 34), (.mv (.t 33)), none⟩, ⟨(some 35), (.mv (.t 2)), (some (34, false))⟩, ⟨(some 36), (.bin .lss (.t 35) (.c (.int .i64 1))), (some (34, false))⟩, ⟨(some 37), (.pick (.t 34) (.c (.bool true)) (.t 36)), none⟩, ⟨(some 38), (.mv (.t 37)), none⟩, ⟨(some 39), (.mv (.t 2)), (some (38, false))⟩, ⟨(some 40), (.bin .gtr (.t 39) (.c (.int .i64 40))), (some (38, false))⟩, ⟨(some 41), (.pick (.t 38) (.c (.bool true)) (.t 40)), none⟩, ⟨(some 42), (.mv (.t 41)), none⟩, ⟨(some 43), (.mv (.t 3)), (some (42, false))⟩, ⟨(some 44), (.bin .lss (.t 43) (.c (.int .i64 0))), (some (42, false))⟩, ⟨(some 45), (.pick (.t 42) (.c (.bool true)) (.t 44)), none⟩, ⟨(some 46), (.mv (.t 45)), none⟩, ⟨(some 47), (.mv (.t 3)), (some (46, false))⟩, ⟨(some 48), (.bin .gtr (.t 47) (.c (.int .i64 600))), (some (46, false))⟩, ⟨(some 49), (.pick (.t 46) (.c (.bool true)) (.t 48)), none⟩])
abbrev m_law16_ReplyCodes_p1 := c_law16_ReplyCodes_p1
def c_law16_ReplyCodes_p2 : ACode := (.rg [⟨(some 62), (.mv (.t 10)), none⟩, ⟨(some 63), (.bin .eql (.t 62) (.c (.int .i64 0))), none⟩, ⟨(some 64), (.mv (.t 0)), none⟩, ⟨(some 65), (.mv (.t 1)), none⟩, ⟨(some 66), (.bin .eql (.t 64) (.t 65)), none⟩, ⟨(some 67), (.bq true (.t 63) (.t 66)), none⟩, ⟨(some 68), (.mv (.t 67)), none⟩, ⟨(some 69), (.mv (.t 0)), (some (68, false))⟩, ⟨(some 70), (.mv (.t 1)), (some (68, false))⟩, ⟨(some 71), (.bin .eql (.t 69) (.t 70)), (some (68, false))⟩, ⟨(some 72), (.mv (.t 71)), (some (68, false))⟩, ⟨(some 73), (.fld (.t 9) 1), (some (72, true))⟩, ⟨(some 74), (.ld (.t 73) none), (some (72, true))⟩, ⟨(some 75), (.len (.t 74)), (some (72, true))⟩, ⟨(some 76), (.bin .neq (.t 75) (.c (.int .i64 2))), (some (72, true))⟩, ⟨(some 77), (.mv (.t 76)), (some (72, true))⟩, ⟨(some 78), (.fld (.t 9) 0), (some (77, false))⟩, ⟨(some 79), (.ld (.t 78) none), (some (77, false))⟩, ⟨(some 80), (.mv (.t 0)), (some (77, false))⟩, ⟨(some 81), (.bin .neq (.t 79) (.t 80)), (some (77, false))⟩, ⟨(some 82), (.pick (.t 77) (.c (.bool true)) (.t 81)), (some (72, true))⟩, ⟨(some 83), (.pick (.t 72) (.t 82) (.c (.bool false))), (some (68, false))⟩, ⟨(some 84), (.pick (.t 68) (.c (.bool true)) (.t 83)), none⟩])
abbrev m_law16_ReplyCodes_p2 := c_law16_ReplyCodes_p2
def c_law16_ReplyCodes_l1b : ACode := (.seq (.seq (.rg [⟨(some 85), (.mv (.t 12)), none⟩, ⟨(some 86), (.mv (.t 2)), none⟩, ⟨(some 87), (.bin .lss (.t 85) (.t 86)), none⟩]) (.cond (.t 87) .skip (.exit 0))) (.seq (.blk 1 (.rg [⟨(some 90), (.mv (.t 11)), none⟩, ⟨(some 91), (.mv (.t 0)), none⟩, ⟨(some 92), (.call (.c (.fn 10 [])) [(.t 91)]), none⟩, ⟨(some 93), (.bin .add (.t 90) (.t 92)), none⟩, ⟨(some 94), (.bin .add (.t 93) (.c (.str [45, 108, 13, 10]))), none⟩, ⟨(some 11), (.asg (.t 94)), none⟩])) (.rg [⟨(some 88), (.mv (.t 12)), none⟩, ⟨(some 89), (.bin .add (.t 88) (.c (.int .i64 1))), none⟩, ⟨(some 12), (.asg (.t 89)), none⟩])))
def c_law16_ReplyCodes_l1 : ACode := (.loop c_law16_ReplyCodes_l1b)
abbrev m_law16_ReplyCodes_l1b := c_law16_ReplyCodes_l1b
def c_law16_ReplyCodes_l2b : ACode := (.seq (.seq (.rg [⟨(some 95), (.mv (.t 14)), none⟩, ⟨(some 96), (.mv (.t 3)), none⟩, ⟨(some 97), (.bin .lss (.t 95) (.t 96)), none⟩]) (.cond (.t 97) .skip (.exit 2))) (.seq (.blk 3 (.rg [⟨(some 100), (.mv (.t 13)), none⟩, ⟨(some 101), (.bin .add (.t 100) (.c (.str [119]))), none⟩, ⟨(some 13), (.asg (.t 101)), none⟩])) (.rg [⟨(some 98), (.mv (.t 14)), none⟩, ⟨(some 99), (.bin .add (.t 98) (.c (.int .i64 1))), none⟩, ⟨(some 14), (.asg (.t 99)), none⟩])))
def c_law16_ReplyCodes_l2 : ACode := (.loop c_law16_ReplyCodes_l2b)
abbrev m_law16_ReplyCodes_l2b := c_law16_ReplyCodes_l2b
def c_law16_ReplyCodes_p3 : ACode := (.rg [⟨(some 115), (.mv (.t 2)), none⟩, ⟨(some 116), (.bin .leq (.t 115) (.c (.int .i64 20))), none⟩, ⟨(some 117), (.mv (.t 116)), none⟩, ⟨(some 118), (.mv (.t 3)), (some (117, true))⟩, ⟨(some 119), (.bin .leq (.t 118) (.c (.int .i64 480))), (some (117, true))⟩, ⟨(some 120), (.pick (.t 117) (.t 119) (.c (.bool false))), none⟩, ⟨(some 17), (.asg (.t 120)), none⟩])
abbrev m_law16_ReplyCodes_p3 := c_law16_ReplyCodes_p3
def c_law16_ReplyCodes_p4 : ACode := (.rg [⟨(some 121), (.mv (.t 16)), none⟩, ⟨(some 122), (.bin .eql (.t 121) (.c (.int .i64 0))), none⟩, ⟨(some 123), (.mv (.t 17)), none⟩, ⟨(some 124), (.bq false (.t 122) (.t 123)), none⟩, ⟨(some 125), (.mv (.t 124)), none⟩, ⟨(some 126), (.mv (.t 17)), (some (125, true))⟩, ⟨(some 127), (.un .not (.t 126)), (some (125, true))⟩, ⟨(some 128), (.mv (.t 127)), (some (125, true))⟩, ⟨(some 129), (.fld (.t 15) 1), (some (128, false))⟩, ⟨(some 130), (.ld (.t 129) none), (some (128, false))⟩, ⟨(some 131), (.len (.t 130)), (some (128, false))⟩, ⟨(some 132), (.mv (.t 2)), (some (128, false))⟩, ⟨(some 133), (.bin .eql (.t 131) (.t 132)), (some (128, false))⟩, ⟨(some 134), (.mv (.t 133)), (some (128, false))⟩, ⟨(some 135), (.fld (.t 15) 1), (some (134, true))⟩, ⟨(some 136), (.ld (.t 135) none), (some (134, true))⟩, ⟨(some 137), (.mv (.t 2)), (some (134, true))⟩, ⟨(some 138), (.bin .sub (.t 137) (.c (.int .i64 1))), (some (134, true))⟩, ⟨(some 139), (.ixa 1 (.t 136) (.t 138)), (some (134, true))⟩, ⟨(some 140), (.ld (.t 139) none), (some (134, true))⟩, ⟨(some 141), (.mv (.t 13)), (some (134, true))⟩, ⟨(some 142), (.bin .eql (.t 140) (.t 141)), (some (134, true))⟩, ⟨(some 143), (.pick (.t 134) (.t 142) (.c (.bool false))), (some (128, false))⟩, ⟨(some 144), (.pick (.t 128) (.c (.bool true)) (.t 143)), (some (125, true))⟩, ⟨(some 145), (.pick (.t 125) (.t 144) (.c (.bool false))), none⟩, ⟨(some 146), (.mv (.t 145)), none⟩, ⟨(some 147), (.mv (.t 0)), (some (146, true))⟩, ⟨(some 148), (.call (.c (.fn 11 [])) [(.t 147)]), (some (146, true))⟩, ⟨(some 149), (.mv (.t 0)), (some (146, true))⟩, ⟨(some 150), (.bin .quo (.t 149) (.c (.int .i64 100))), (some (146, true))⟩, ⟨(some 151), (.bin .eql (.t 148) (.t 150)), (some (146, true))⟩, ⟨(some 152), (.pick (.t 146) (.t 151) (.c (.bool false))), none⟩, ⟨(some 8), (.asg (.t 152)), none⟩])
abbrev m_law16_ReplyCodes_p4 := c_law16_ReplyCodes_p4
def c_law16_ReplyCodes : ACode := (.seq (.rg [⟨(some 8), (.asg (.c (.bool false))), none⟩]) (.seq (.seq (.rg [⟨(some 18), (.call (.c (.fn 8 [])) []), none⟩, ⟨(some 19), (.un .not (.t 18)), none⟩]) (.cond (.t 19) (.seq (.rg [⟨(some 8), (.asg (.c (.bool false))), none⟩]) .ret) .skip)) (.seq (.seq c_law16_ReplyCodes_p1 (.cond (.t 49) (.seq (.rg [⟨(some 8), (.asg (.c (.bool true))), none⟩]) .ret) .skip)) (.seq (.rg [⟨(some 51), (.mv (.t 0)), none⟩, ⟨(some 52), (.call (.c (.fn 10 [])) [(.t 51)]), none⟩, ⟨(some 53), (.bin .add (.t 52) (.c (.str [45, 111, 110, 101, 13, 10]))), none⟩, ⟨(some 54), (.mv (.t 1)), none⟩, ⟨(some 55), (.call (.c (.fn 10 [])) [(.t 54)]), none⟩, ⟨(some 56), (.bin .add (.t 53) (.t 55)), none⟩, ⟨(some 57), (.bin .add (.t 56) (.c (.str [32, 116, 119, 111, 13, 10]))), none⟩, ⟨(some 58), (.cvt .sb (.t 57)), none⟩, ⟨(some 59), (.call (.c (.fn 9 [])) [(.t 58)]), none⟩, ⟨(some 50), (.mv (.t 59)), none⟩, ⟨(some 60), (.ext (.t 50) 0), none⟩, ⟨(some 61), (.ext (.t 50) 1), none⟩, ⟨(some 9), (.alloc [(.int .i64 0), (.sl .ex 1 [])]), none⟩, ⟨none, (.st (.t 9) (.t 60) 2), none⟩, ⟨(some 10), (.asg (.t 61)), none⟩]) (.seq (.seq c_law16_ReplyCodes_p2 (.cond (.t 84) (.seq (.rg [⟨(some 8), (.asg (.c (.bool false))), none⟩]) .ret) .skip)) (.seq (.rg [⟨(some 11), (.asg (.c (.str []))), none⟩]) (.seq (.seq (.rg [⟨(some 12), (.asg (.c (.int .i64 1))), none⟩]) (.blk 0 c_law16_ReplyCodes_l1)) (.seq (.rg [⟨(some 13), (.asg (.c (.str []))), none⟩]) (.seq (.seq (.rg [⟨(some 14), (.asg (.c (.int .i64 0))), none⟩]) (.blk 2 c_law16_ReplyCodes_l2)) (.seq (.rg [⟨(some 103), (.mv (.t 11)), none⟩, ⟨(some 104), (.mv (.t 0)), none⟩, ⟨(some 105), (.call (.c (.fn 10 [])) [(.t 104)]), none⟩, ⟨(some 106), (.bin .add (.t 103) (.t 105)), none⟩, ⟨(some 107), (.bin .add (.t 106) (.c (.str [32]))), none⟩, ⟨(some 108), (.mv (.t 13)), none⟩, ⟨(some 109), (.bin .add (.t 107) (.t 108)), none⟩, ⟨(some 110), (.bin .add (.t 109) (.c (.str [13, 10]))), none⟩, ⟨(some 111), (.cvt .sb (.t 110)), none⟩, ⟨(some 112), (.call (.c (.fn 9 [])) [(.t 111)]), none⟩, ⟨(some 102), (.mv (.t 112)), none⟩, ⟨(some 113), (.ext (.t 102) 0), none⟩, ⟨(some 114), (.ext (.t 102) 1), none⟩, ⟨(some 15), (.alloc [(.int .i64 0), (.sl .ex 1 [])]), none⟩, ⟨none, (.st (.t 15) (.t 113) 2), none⟩, ⟨(some 16), (.asg (.t 114)), none⟩]) (.seq c_law16_ReplyCodes_p3 (.seq c_law16_ReplyCodes_p4 .ret))))))))))))
def m_law16_ReplyCodes : ACode := (.seq (.rg [⟨(some 8), (.asg (.c (.bool false))), none⟩]) (.seq (.seq (.rg [⟨(some 18), (.call (.c (.fn 8 [])) []), none⟩, ⟨(some 19), (.un .not (.t 18)), none⟩]) (.cond (.t 19) (.seq (.rg [⟨(some 8), (.asg (.c (.bool false))), none⟩]) .ret) .skip)) (.seq (.seq (.sem c_law16_ReplyCodes_p1) (.cond (.t 49) (.seq (.rg [⟨(some 8), (.asg (.c (.bool true))), none⟩]) .ret) .skip)) (.seq (.rg [⟨(some 51), (.mv (.t 0)), none⟩, ⟨(some 52), (.call (.c (.fn 10 [])) [(.t 51)]), none⟩, ⟨(some 53), (.bin .add (.t 52) (.c (.str [45, 111, 110, 101, 13, 10]))), none⟩, ⟨(some 54), (.mv (.t 1)), none⟩, ⟨(some 55), (.call (.c (.fn 10 [])) [(.t 54)]), none⟩, ⟨(some 56), (.bin .add (.t 53) (.t 55)), none⟩, ⟨(some 57), (.bin .add (.t 56) (.c (.str [32, 116, 119, 111, 13, 10]))), none⟩, ⟨(some 58), (.cvt .sb (.t 57)), none⟩, ⟨(some 59), (.call (.c (.fn 9 [])) [(.t 58)]), none⟩, ⟨(some 50), (.mv (.t 59)), none⟩, ⟨(some 60), (.ext (.t 50) 0), none⟩, ⟨(some 61), (.ext (.t 50) 1), none⟩, ⟨(some 9), (.alloc [(.int .i64 0), (.sl .ex 1 [])]), none⟩, ⟨none, (.st (.t 9) (.t 60) 2), none⟩, ⟨(some 10), (.asg (.t 61)), none⟩]) (.seq (.seq (.sem c_law16_ReplyCodes_p2) (.cond (.t 84) (.seq (.rg [⟨(some 8), (.asg (.c (.bool false))), none⟩]) .ret) .skip)) (.seq (.rg [⟨(some 11), (.asg (.c (.str []))), none⟩]) (.seq (.seq (.rg [⟨(some 12), (.asg (.c (.int .i64 1))), none⟩]) (.blk 0 c_law16_ReplyCodes_l1)) (.seq (.rg [⟨(some 13), (.asg (.c (.str []))), none⟩]) (.seq (.seq (.rg [⟨(some 14), (.asg (.c (.int .i64 0))), none⟩]) (.blk 2 c_law16_ReplyCodes_l2)) (.seq (.rg [⟨(some 103), (.mv (.t 11)), none⟩, ⟨(some 104), (.mv (.t 0)), none⟩, ⟨(some 105), (.call (.c (.fn 10 [])) [(.t 104)]), none⟩, ⟨(some 106), (.bin .add (.t 103) (.t 105)), none⟩, ⟨(some 107), (.bin .add (.t 106) (.c (.str [32]))), none⟩, ⟨(some 108), (.mv (.t 13)), none⟩, ⟨(some 109), (.bin .add (.t 107) (.t 108)), none⟩, ⟨(some 110), (.bin .add (.t 109) (.c (.str [13, 10]))), none⟩, ⟨(some 111), (.cvt .sb (.t 110)), none⟩, ⟨(some 112), (.call (.c (.fn 9 [])) [(.t 111)]), none⟩, ⟨(some 102), (.mv (.t 112)), none⟩, ⟨(some 113), (.ext (.t 102) 0), none⟩, ⟨(some 114), (.ext (.t 102) 1), none⟩, ⟨(some 15), (.alloc [(.int .i64 0), (.sl .ex 1 [])]), none⟩, ⟨none, (.st (.t 15) (.t 113) 2), none⟩, ⟨(some 16), (.asg (.t 114)), none⟩]) (.seq (.sem c_law16_ReplyCodes_p3) (.seq (.sem c_law16_ReplyCodes_p4) .ret))))))))))))
theorem k_law16_ReplyCodes : FnOk Tryd.prog 3 153 [(.tmp 8)] c_law16_ReplyCodes := ⟨Tryd.f3, _, rfl, by decide, rfl, by kernel_rfl, rfl, rfl⟩
abbrev L_law16_ReplyCodes : List Nat := [0, 1, 2, 3, 8, 9, 10, 11, 12, 13, 14, 15, 16, 17, 19, 49, 84, 87, 97]
def law16_ReplyCodes_l1 (nn3 : Int) (a1 : Int) : ((List UInt8) × Int) → Option (St Bool (List UInt8) ((List UInt8) × Int))
  | (s14, i15) =>
    (if (decide (i15 < nn3)) then
      (law16_digits a1).bind fun r16 =>
      (cat s14 r16).bind fun x17 =>
      (cat x17 ([45, 108, 13, 10] : List UInt8)).bind fun x18 => some (.nxt (x18, (IntKind.wrap .i64 (i15 + 1))))
    else
      some (.brk s14))
def law16_ReplyCodes_l2 (long4 : Int) : ((List UInt8) × Int) → Option (St Bool (List UInt8) ((List UInt8) × Int))
  | (t21, i22) =>
    (if (decide (i22 < long4)) then
      (cat t21 ([119] : List UInt8)).bind fun x23 => some (.nxt (x23, (IntKind.wrap .i64 (i22 + 1))))
    else
      some (.brk t21))
def law16_ReplyCodes_p4 (r32 : Int) (nn3 : Int) (long4 : Int) (a1 : Int) (r31 : ReplyV) (t25 : List UInt8) : Option (Bool) :=
  (if ((decide (r32 = 0)) == ((decide (nn3 ≤ 20)) && (decide (long4 ≤ 480)))) then
    (if (!((decide (nn3 ≤ 20)) && (decide (long4 ≤ 480)))) then
      (reply_Class a1).bind fun r35 => some (decide (r35 = (IntKind.wrap .i64 (Int.tdiv a1 100))))
    else
      (if (decide ((r31.lines.length : Int) = nn3)) then
        (idx r31.lines (IntKind.wrap .i64 (nn3 - 1))).bind fun x36 =>
        (if (decide (x36 = t25)) then
          (reply_Class a1).bind fun r37 => some (decide (r37 = (IntKind.wrap .i64 (Int.tdiv a1 100))))
        else
          some false)
      else
        some false))
  else
    some false)
def law16_ReplyCodes (F : Nat) (a1 : Int) (b2 : Int) (nn3 : Int) (long4 : Int) : Option (Bool) :=
  (law16_known F ).bind fun r5 =>
  (if (!r5) then
    some false
  else
    (if ((((((((decide (a1 < 200)) || (decide (599 < a1))) || (decide (b2 < 200))) || (decide (599 < b2))) || (decide (nn3 < 1))) || (decide (40 < nn3))) || (decide (long4 < 0))) || (decide (600 < long4))) then
      some true
    else
      (law16_digits a1).bind fun r6 =>
      (cat r6 ([45, 111, 110, 101, 13, 10] : List UInt8)).bind fun x7 =>
      (law16_digits b2).bind fun r8 =>
      (cat x7 r8).bind fun x9 =>
      (cat x9 ([32, 116, 119, 111, 13, 10] : List UInt8)).bind fun x10 =>
      (reply_Parse F x10).bind fun (r11, r12) =>
      (if ((!((decide (r12 = 0)) == (decide (a1 = b2)))) || ((decide (a1 = b2)) && ((!decide ((r11.lines.length : Int) = 2)) || (!decide (r11.code = a1))))) then
        some false
      else
        ((iter (law16_ReplyCodes_l1 nn3 a1) F (([] : List UInt8), 1)).bind fun o41 =>
        match o41 with
        | .inr s20 =>
          ((iter (law16_ReplyCodes_l2 long4) F (([] : List UInt8), 0)).bind fun o40 =>
          match o40 with
          | .inr t25 =>
            (law16_digits a1).bind fun r26 =>
            (cat s20 r26).bind fun x27 =>
            (cat x27 ([32] : List UInt8)).bind fun x28 =>
            (cat x28 t25).bind fun x29 =>
            (cat x29 ([13, 10] : List UInt8)).bind fun x30 =>
            (reply_Parse F x30).bind fun (r31, r32) =>
            (law16_ReplyCodes_p4 r32 nn3 long4 a1 r31 t25).bind fun t39 =>
            some t39
          | .inl _ => none)
        | .inl _ => none))))
set_option maxHeartbeats 2000000 in
theorem law16_ReplyCodes_p1_ok {a1 : Int} {b2 : Int} {nn3 : Int} {long4 : Int} {H0 H : AH} (hfr : Fr H0 H0.length [] H) {K : Exit → Env → AH → Prop}
    (kn : ∀ H' : AH, Fr H0 H0.length [] H' → K .normal [(0, (.int .i64 a1)), (1, (.int .i64 b2)), (2, (.int .i64 nn3)), (3, (.int .i64 long4)), (49, (.bool ((((((((decide (a1 < 200)) || (decide (599 < a1))) || (decide (b2 < 200))) || (decide (599 < b2))) || (decide (nn3 < 1))) || (decide (40 < nn3))) || (decide (long4 < 0))) || (decide (600 < long4)))))] H') :
    AX Tryd.prog L_law16_ReplyCodes 153 H0.length c_law16_ReplyCodes_p1 K [(0, (.int .i64 a1)), (1, (.int .i64 b2)), (2, (.int .i64 nn3)), (3, (.int .i64 long4))] H := by
  refine AX.go (m := m_law16_ReplyCodes_p1) rfl (by decide) fun K' hK => ?_
  have hle := hfr.le
  simp (disch := first | assumption | omega | (simp only [h_sl, h_al] <;> omega) | fail) only [WW, WH, ↓reduceIte, Nat.reduceEqDiff, Nat.reduceLT, Nat.reduceLeDiff, Nat.reduceAdd, Nat.reduceSub, Nat.reduceMul, Nat.reduceBEq, reduceCtorEq, if_false, if_true, L_law16_ReplyCodes, m_law16_ReplyCodes_p1, c_law16_ReplyCodes_p1, encReplyV]
  rcases bcases ((decide (a1 < 200))) with hy3 | hy3
  · refine UG_nf hy3 ?_
    simp (disch := first | assumption | omega | (simp only [h_sl, h_al] <;> omega) | fail) only [WW, WH, ↓reduceIte, Nat.reduceEqDiff, Nat.reduceLT, Nat.reduceLeDiff, Nat.reduceAdd, Nat.reduceSub, Nat.reduceMul, Nat.reduceBEq, reduceCtorEq, if_false, if_true, L_law16_ReplyCodes, hy3, encReplyV]
    refine hK _ _ _ _ _ ?_ (WxH.refl _) (kn _ hfr)
    exact WE.cons (Wx.int) (WE.cons (Wx.int) (WE.cons (Wx.int) (WE.cons (Wx.int) (WE.cons (Wx.boolE (by simp only [hy3, WB])) (WE.nil)))))
  · refine UG_go hy3 ?_
    simp (disch := first | assumption | omega | (simp only [h_sl, h_al] <;> omega) | fail) only [WW, WH, ↓reduceIte, Nat.reduceEqDiff, Nat.reduceLT, Nat.reduceLeDiff, Nat.reduceAdd, Nat.reduceSub, Nat.reduceMul, Nat.reduceBEq, reduceCtorEq, if_false, if_true, L_law16_ReplyCodes, hy3, encReplyV]
    rcases bcases ((decide (599 < a1))) with hy4 | hy4
    · refine UG_nf hy4 ?_
      simp (disch := first | assumption | omega | (simp only [h_sl, h_al] <;> omega) | fail) only [WW, WH, ↓reduceIte, Nat.reduceEqDiff, Nat.reduceLT, Nat.reduceLeDiff, Nat.reduceAdd, Nat.reduceSub, Nat.reduceMul, Nat.reduceBEq, reduceCtorEq, if_false, if_true, L_law16_ReplyCodes, hy4, encReplyV]
      refine hK _ _ _ _ _ ?_ (WxH.refl _) (kn _ hfr)
      exact WE.cons (Wx.int) (WE.cons (Wx.int) (WE.cons (Wx.int) (WE.cons (Wx.int) (WE.cons (Wx.boolE (by first | (simp only [hy3, hy4, WB]; done) | (try rw [hy3]; try rw [hy4]; try simp only [WB]))) (WE.nil)))))
    · refine UG_go hy4 ?_
      simp (disch := first | assumption | omega | (simp only [h_sl, h_al] <;> omega) | fail) only [WW, WH, ↓reduceIte, Nat.reduceEqDiff, Nat.reduceLT, Nat.reduceLeDiff, Nat.reduceAdd, Nat.reduceSub, Nat.reduceMul, Nat.reduceBEq, reduceCtorEq, if_false, if_true, L_law16_ReplyCodes, hy4, encReplyV]
      rcases bcases ((decide (b2 < 200))) with hy5 | hy5
      · refine UG_nf hy5 ?_
        simp (disch := first | assumption | omega | (simp only [h_sl, h_al] <;> omega) | fail) only [WW, WH, ↓reduceIte, Nat.reduceEqDiff, Nat.reduceLT, Nat.reduceLeDiff, Nat.reduceAdd, Nat.reduceSub, Nat.reduceMul, Nat.reduceBEq, reduceCtorEq, if_false, if_true, L_law16_ReplyCodes, hy5, encReplyV]
        refine hK _ _ _ _ _ ?_ (WxH.refl _) (kn _ hfr)
        exact WE.cons (Wx.int) (WE.cons (Wx.int) (WE.cons (Wx.int) (WE.cons (Wx.int) (WE.cons (Wx.boolE (by first | (simp only [hy3, hy4, hy5, WB]; done) | (try rw [hy3]; try rw [hy4]; try rw [hy5]; try simp only [WB]))) (WE.nil)))))
      · refine UG_go hy5 ?_
        simp (disch := first | assumption | omega | (simp only [h_sl, h_al] <;> omega) | fail) only [WW, WH, ↓reduceIte, Nat.reduceEqDiff, Nat.reduceLT, Nat.reduceLeDiff, Nat.reduceAdd, Nat.reduceSub, Nat.reduceMul, Nat.reduceBEq, reduceCtorEq, if_false, if_true, L_law16_ReplyCodes, hy5, encReplyV]
        rcases bcases ((decide (599 < b2))) with hy6 | hy6
        · refine UG_nf hy6 ?_
          simp (disch := first | assumption | omega | (simp only [h_sl, h_al] <;> omega) | fail) only [WW, WH, ↓reduceIte, Nat.reduceEqDiff, Nat.reduceLT, Nat.reduceLeDiff, Nat.reduceAdd, Nat.reduceSub, Nat.reduceMul, Nat.reduceBEq, reduceCtorEq, if_false, if_true, L_law16_ReplyCodes, hy6, encReplyV]
          refine hK _ _ _ _ _ ?_ (WxH.refl _) (kn _ hfr)
          exact WE.cons (Wx.int) (WE.cons (Wx.int) (WE.cons (Wx.int) (WE.cons (Wx.int) (WE.cons (Wx.boolE (by first | (simp only [hy3, hy4, hy5, hy6, WB]; done) | (try rw [hy3]; try rw [hy4]; try rw [hy5]; try rw [hy6]; try simp only [WB]))) (WE.nil)))))
        · refine UG_go hy6 ?_
          simp (disch := first | assumption | omega | (simp only [h_sl, h_al] <;> omega) | fail) only [WW, WH, ↓reduceIte, Nat.reduceEqDiff, Nat.reduceLT, Nat.reduceLeDiff, Nat.reduceAdd, Nat.reduceSub, Nat.reduceMul, Nat.reduceBEq, reduceCtorEq, if_false, if_true, L_law16_ReplyCodes, hy6, encReplyV]
          rcases bcases ((decide (nn3 < 1))) with hy7 | hy7
          · refine UG_nf hy7 ?_
            simp (disch := first | assumption | omega | (simp only [h_sl, h_al] <;> omega) | fail) only [WW, WH, ↓reduceIte, Nat.reduceEqDiff, Nat.reduceLT, Nat.reduceLeDiff, Nat.reduceAdd, Nat.reduceSub, Nat.reduceMul, Nat.reduceBEq, reduceCtorEq, if_false, if_true, L_law16_ReplyCodes, hy7, encReplyV]
            refine hK _ _ _ _ _ ?_ (WxH.refl _) (kn _ hfr)
            exact WE.cons (Wx.int) (WE.cons (Wx.int) (WE.cons (Wx.int) (WE.cons (Wx.int) (WE.cons (Wx.boolE (by first | (simp only [hy3, hy4, hy5, hy6, hy7, WB]; done) | (try rw [hy3]; try rw [hy4]; try rw [hy5]; try rw [hy6]; try rw [hy7]; try simp only [WB]))) (WE.nil)))))
          · refine UG_go hy7 ?_
            simp (disch := first | assumption | omega | (simp only [h_sl, h_al] <;> omega) | fail) only [WW, WH, ↓reduceIte, Nat.reduceEqDiff, Nat.reduceLT, Nat.reduceLeDiff, Nat.reduceAdd, Nat.reduceSub, Nat.reduceMul, Nat.reduceBEq, reduceCtorEq, if_false, if_true, L_law16_ReplyCodes, hy7, encReplyV]
            rcases bcases ((decide (40 < nn3))) with hy8 | hy8
            · refine UG_nf hy8 ?_
              simp (disch := first | assumption | omega | (simp only [h_sl, h_al] <;> omega) | fail) only [WW, WH, ↓reduceIte, Nat.reduceEqDiff, Nat.reduceLT, Nat.reduceLeDiff, Nat.reduceAdd, Nat.reduceSub, Nat.reduceMul, Nat.reduceBEq, reduceCtorEq, if_false, if_true, L_law16_ReplyCodes, hy8, encReplyV]
              refine hK _ _ _ _ _ ?_ (WxH.refl _) (kn _ hfr)
              exact WE.cons (Wx.int) (WE.cons (Wx.int) (WE.cons (Wx.int) (WE.cons (Wx.int) (WE.cons (Wx.boolE (by first | (simp only [hy3, hy4, hy5, hy6, hy7, hy8, WB]; done) | (try rw [hy3]; try rw [hy4]; try rw [hy5]; try rw [hy6]; try rw [hy7]; try rw [hy8]; try simp only [WB]))) (WE.nil)))))
            · refine UG_go hy8 ?_
              simp (disch := first | assumption | omega | (simp only [h_sl, h_al] <;> omega) | fail) only [WW, WH, ↓reduceIte, Nat.reduceEqDiff, Nat.reduceLT, Nat.reduceLeDiff, Nat.reduceAdd, Nat.reduceSub, Nat.reduceMul, Nat.reduceBEq, reduceCtorEq, if_false, if_true, L_law16_ReplyCodes, hy8, encReplyV]
              rcases bcases ((decide (long4 < 0))) with hy9 | hy9
              · refine UG_nf hy9 ?_
                simp (disch := first | assumption | omega | (simp only [h_sl, h_al] <;> omega) | fail) only [WW, WH, ↓reduceIte, Nat.reduceEqDiff, Nat.reduceLT, Nat.reduceLeDiff, Nat.reduceAdd, Nat.reduceSub, Nat.reduceMul, Nat.reduceBEq, reduceCtorEq, if_false, if_true, L_law16_ReplyCodes, hy9, encReplyV]
                refine hK _ _ _ _ _ ?_ (WxH.refl _) (kn _ hfr)
                exact WE.cons (Wx.int) (WE.cons (Wx.int) (WE.cons (Wx.int) (WE.cons (Wx.int) (WE.cons (Wx.boolE (by first | (simp only [hy3, hy4, hy5, hy6, hy7, hy8, hy9, WB]; done) | (try rw [hy3]; try rw [hy4]; try rw [hy5]; try rw [hy6]; try rw [hy7]; try rw [hy8]; try rw [hy9]; try simp only [WB]))) (WE.nil)))))
              · refine UG_go hy9 ?_
                simp (disch := first | assumption | omega | (simp only [h_sl, h_al] <;> omega) | fail) only [WW, WH, ↓reduceIte, Nat.reduceEqDiff, Nat.reduceLT, Nat.reduceLeDiff, Nat.reduceAdd, Nat.reduceSub, Nat.reduceMul, Nat.reduceBEq, reduceCtorEq, if_false, if_true, L_law16_ReplyCodes, hy9, encReplyV]
                refine hK _ _ _ _ _ ?_ (WxH.refl _) (kn _ hfr)
                exact WE.cons (Wx.int) (WE.cons (Wx.int) (WE.cons (Wx.int) (WE.cons (Wx.int) (WE.cons (Wx.boolE (by first | (simp only [hy3, hy4, hy5, hy6, hy7, hy8, hy9, WB]; done) | (try rw [hy3]; try rw [hy4]; try rw [hy5]; try rw [hy6]; try rw [hy7]; try rw [hy8]; try rw [hy9]; try simp only [WB]))) (WE.nil)))))
set_option maxHeartbeats 2000000 in
theorem law16_ReplyCodes_p2_ok {a1 : Int} {b2 : Int} {nn3 : Int} {long4 : Int} {q13 : Nat} {r12 : Int} {r11 : ReplyV} {H0 H : AH} (hfr : Fr H0 H0.length [] H) (hs_o1 : H[q13]? = some [(.int .i64 r11.code), (.sl .n 1 (ml AV.str r11.lines))]) (hi0 : H0.length ≤ q13) {K : Exit → Env → AH → Prop}
    (kn : ∀ H' : AH, Fr H0 H0.length [] H' → H'[q13]? = some [(.int .i64 r11.code), (.sl .n 1 (ml AV.str r11.lines))] → K .normal [(0, (.int .i64 a1)), (2, (.int .i64 nn3)), (3, (.int .i64 long4)), (84, (.bool ((!((decide (r12 = 0)) == (decide (a1 = b2)))) || ((decide (a1 = b2)) && ((!decide ((r11.lines.length : Int) = 2)) || (!decide (r11.code = a1)))))))] H') :
    AX Tryd.prog L_law16_ReplyCodes 153 H0.length c_law16_ReplyCodes_p2 K [(0, (.int .i64 a1)), (1, (.int .i64 b2)), (2, (.int .i64 nn3)), (3, (.int .i64 long4)), (9, (.ptr q13 0)), (10, (.int .i64 r12))] H := by
  refine AX.go (m := m_law16_ReplyCodes_p2) rfl (by decide) fun K' hK => ?_
  have hle := hfr.le
  have hl_o1 := h_lt hs_o1
  simp (disch := first | assumption | omega | (simp only [h_sl, h_al] <;> omega) | fail) only [WW, WH, ↓reduceIte, Nat.reduceEqDiff, Nat.reduceLT, Nat.reduceLeDiff, Nat.reduceAdd, Nat.reduceSub, Nat.reduceMul, Nat.reduceBEq, reduceCtorEq, if_false, if_true, L_law16_ReplyCodes, m_law16_ReplyCodes_p2, c_law16_ReplyCodes_p2, hs_o1, encReplyV]
  rcases bcases ((!((decide (r12 = 0)) == (decide (a1 = b2))))) with hy17 | hy17
  · refine UG_nf hy17 ?_
    simp (disch := first | assumption | omega | (simp only [h_sl, h_al] <;> omega) | fail) only [WW, WH, ↓reduceIte, Nat.reduceEqDiff, Nat.reduceLT, Nat.reduceLeDiff, Nat.reduceAdd, Nat.reduceSub, Nat.reduceMul, Nat.reduceBEq, reduceCtorEq, if_false, if_true, L_law16_ReplyCodes, hy17, hs_o1, encReplyV]
    refine hK _ _ _ _ _ ?_ (WxH.refl _) (kn _ hfr ((hs_o1).trans rfl))
    exact WE.cons (Wx.int) (WE.cons (Wx.int) (WE.cons (Wx.int) (WE.cons (Wx.boolE (by simp only [hy17, WB])) (WE.nil))))
  · refine UG_go hy17 ?_
    simp (disch := first | assumption | omega | (simp only [h_sl, h_al] <;> omega) | fail) only [WW, WH, ↓reduceIte, Nat.reduceEqDiff, Nat.reduceLT, Nat.reduceLeDiff, Nat.reduceAdd, Nat.reduceSub, Nat.reduceMul, Nat.reduceBEq, reduceCtorEq, if_false, if_true, L_law16_ReplyCodes, hy17, hs_o1, encReplyV]
    rcases bcases ((decide (a1 = b2))) with hy18 | hy18
    · refine UG_go hy18 ?_
      simp (disch := first | assumption | omega | (simp only [h_sl, h_al] <;> omega) | fail) only [WW, WH, ↓reduceIte, Nat.reduceEqDiff, Nat.reduceLT, Nat.reduceLeDiff, Nat.reduceAdd, Nat.reduceSub, Nat.reduceMul, Nat.reduceBEq, reduceCtorEq, if_false, if_true, L_law16_ReplyCodes, hy18, hs_o1, encReplyV]
      rcases bcases ((!decide ((r11.lines.length : Int) = 2))) with hy19 | hy19
      · refine UG_nf hy19 ?_
        simp (disch := first | assumption | omega | (simp only [h_sl, h_al] <;> omega) | fail) only [WW, WH, ↓reduceIte, Nat.reduceEqDiff, Nat.reduceLT, Nat.reduceLeDiff, Nat.reduceAdd, Nat.reduceSub, Nat.reduceMul, Nat.reduceBEq, reduceCtorEq, if_false, if_true, L_law16_ReplyCodes, hy19, hs_o1, encReplyV]
        refine hK _ _ _ _ _ ?_ (WxH.refl _) (kn _ hfr ((hs_o1).trans rfl))
        exact WE.cons (Wx.int) (WE.cons (Wx.int) (WE.cons (Wx.int) (WE.cons (Wx.boolE (by first | (simp only [hy17, hy18, hy19, WB]; done) | (try rw [hy17]; try rw [hy18]; try rw [hy19]; try simp only [WB]))) (WE.nil))))
      · refine UG_go hy19 ?_
        simp (disch := first | assumption | omega | (simp only [h_sl, h_al] <;> omega) | fail) only [WW, WH, ↓reduceIte, Nat.reduceEqDiff, Nat.reduceLT, Nat.reduceLeDiff, Nat.reduceAdd, Nat.reduceSub, Nat.reduceMul, Nat.reduceBEq, reduceCtorEq, if_false, if_true, L_law16_ReplyCodes, hy19, hs_o1, encReplyV]
        refine hK _ _ _ _ _ ?_ (WxH.refl _) (kn _ hfr ((hs_o1).trans rfl))
        exact WE.cons (Wx.int) (WE.cons (Wx.int) (WE.cons (Wx.int) (WE.cons (Wx.boolE (by first | (simp only [hy17, hy18, hy19, WB]; done) | (try rw [hy17]; try rw [hy18]; try rw [hy19]; try simp only [WB]))) (WE.nil))))
    · refine UG_nt hy18 ?_
      simp (disch := first | assumption | omega | (simp only [h_sl, h_al] <;> omega) | fail) only [WW, WH, ↓reduceIte, Nat.reduceEqDiff, Nat.reduceLT, Nat.reduceLeDiff, Nat.reduceAdd, Nat.reduceSub, Nat.reduceMul, Nat.reduceBEq, reduceCtorEq, if_false, if_true, L_law16_ReplyCodes, hy18, hs_o1, encReplyV]
      refine hK _ _ _ _ _ ?_ (WxH.refl _) (kn _ hfr ((hs_o1).trans rfl))
      exact WE.cons (Wx.int) (WE.cons (Wx.int) (WE.cons (Wx.int) (WE.cons (Wx.boolE (by first | (simp only [hy17, hy18, WB]; done) | (try rw [hy17]; try rw [hy18]; try simp only [WB]))) (WE.nil))))
set_option maxHeartbeats 2000000 in
theorem law16_ReplyCodes_l1_ok {F : Nat} {i15 : Int} {nn3 : Int} {a1 : Int} {s14 : List UInt8} {long4 : Int} {H0 H : AH} (hfr : Fr H0 H0.length [] H) {K : Exit → Env → AH → Prop} {o : (Bool) ⊕ ((List UInt8))}
    (h : iter (law16_ReplyCodes_l1 nn3 a1) F (s14, i15) = some o)
    (kb0 : ∀ o' : (List UInt8), o = .inr o' → ∀ H' : AH, Fr H0 H0.length [] H' → K (.exit 0) [(0, (.int .i64 a1)), (2, (.int .i64 nn3)), (3, (.int .i64 long4)), (11, (.str o'))] H') :
    AX Tryd.prog L_law16_ReplyCodes 153 H0.length c_law16_ReplyCodes_l1 K [(0, (.int .i64 a1)), (2, (.int .i64 nn3)), (3, (.int .i64 long4)), (11, (.str s14)), (12, (.int .i64 i15))] H := by
  refine AX.iter (m := m_law16_ReplyCodes_l1b) rfl (by decide) (fun s e H1 => match s with | (s14, i15) => e = [(0, (.int .i64 a1)), (2, (.int .i64 nn3)), (3, (.int .i64 long4)), (11, (.str s14)), (12, (.int .i64 i15))] ∧ Fr H0 H0.length [] H1) h ⟨rfl, hfr⟩ ?_
  skip
  rintro K' ⟨s14, i15⟩ st e H ⟨rfl, hfr⟩ h hN hB hR hX
  have hle := hfr.le
  rw [law16_ReplyCodes_l1.eq_1] at h
  simp (disch := first | assumption | omega | (simp only [h_sl, h_al] <;> omega) | fail) only [WW, WH, ↓reduceIte, Nat.reduceEqDiff, Nat.reduceLT, Nat.reduceLeDiff, Nat.reduceAdd, Nat.reduceSub, Nat.reduceMul, Nat.reduceBEq, reduceCtorEq, if_false, if_true, L_law16_ReplyCodes, m_law16_ReplyCodes_l1b, c_law16_ReplyCodes_l1b, encReplyV]
  rcases ifb h with ⟨hy21, h⟩ | ⟨hy21, h⟩
  · refine UC_t hy21 ?_
    simp (disch := first | assumption | omega | (simp only [h_sl, h_al] <;> omega) | fail) only [WW, WH, ↓reduceIte, Nat.reduceEqDiff, Nat.reduceLT, Nat.reduceLeDiff, Nat.reduceAdd, Nat.reduceSub, Nat.reduceMul, Nat.reduceBEq, reduceCtorEq, if_false, if_true, L_law16_ReplyCodes, encReplyV]
    obtain ⟨r16, hy22, h⟩ := bnd' h
    refine UK_e (as' := [(.int .i64 a1)]) (h := law16_digits_ok (nn1 := a1)  hy22) (hw := WL.cons (Wx.int) (WL.nil)) (hh := WxH.refl _) ?_
    obtain ⟨x17, hy23, h⟩ := bnd' h
    obtain ⟨x18, hy24, h⟩ := bnd' h
    simp (disch := first | assumption | omega | (simp only [h_sl, h_al] <;> omega) | fail) only [WW, WH, ↓reduceIte, Nat.reduceEqDiff, Nat.reduceLT, Nat.reduceLeDiff, Nat.reduceAdd, Nat.reduceSub, Nat.reduceMul, Nat.reduceBEq, reduceCtorEq, if_false, if_true, L_law16_ReplyCodes, hy23, hy24, encReplyV]
    have hq := Option.some.inj h; subst hq
    refine hN _ rfl _ _ _ _ ?_ (WxH.refl _) ⟨rfl, hfr⟩
    exact WE.cons (Wx.int) (WE.cons (Wx.int) (WE.cons (Wx.int) (WE.cons (Wx.str) (WE.cons (Wx.int) (WE.nil)))))
  · refine UC_f hy21 ?_
    simp (disch := first | assumption | omega | (simp only [h_sl, h_al] <;> omega) | fail) only [WW, WH, ↓reduceIte, Nat.reduceEqDiff, Nat.reduceLT, Nat.reduceLeDiff, Nat.reduceAdd, Nat.reduceSub, Nat.reduceMul, Nat.reduceBEq, reduceCtorEq, if_false, if_true, L_law16_ReplyCodes, encReplyV]
    have hq := Option.some.inj h; subst hq
    refine hX _ _ _ _ _ (by simp) ?_ (WxH.refl _) (kb0 _ (hB _ rfl) _ hfr)
    exact WE.cons (Wx.int) (WE.cons (Wx.int) (WE.cons (Wx.int) (WE.cons (Wx.str) (WE.nil))))
set_option maxHeartbeats 2000000 in
theorem law16_ReplyCodes_l2_ok {F : Nat} {i22 : Int} {long4 : Int} {t21 : List UInt8} {a1 : Int} {nn3 : Int} {s20 : List UInt8} {H0 H : AH} (hfr : Fr H0 H0.length [] H) {K : Exit → Env → AH → Prop} {o : (Bool) ⊕ ((List UInt8))}
    (h : iter (law16_ReplyCodes_l2 long4) F (t21, i22) = some o)
    (kb2 : ∀ o' : (List UInt8), o = .inr o' → ∀ H' : AH, Fr H0 H0.length [] H' → K (.exit 2) [(0, (.int .i64 a1)), (2, (.int .i64 nn3)), (3, (.int .i64 long4)), (11, (.str s20)), (13, (.str o'))] H') :
    AX Tryd.prog L_law16_ReplyCodes 153 H0.length c_law16_ReplyCodes_l2 K [(0, (.int .i64 a1)), (2, (.int .i64 nn3)), (3, (.int .i64 long4)), (11, (.str s20)), (13, (.str t21)), (14, (.int .i64 i22))] H := by
  refine AX.iter (m := m_law16_ReplyCodes_l2b) rfl (by decide) (fun s e H1 => match s with | (t21, i22) => e = [(0, (.int .i64 a1)), (2, (.int .i64 nn3)), (3, (.int .i64 long4)), (11, (.str s20)), (13, (.str t21)), (14, (.int .i64 i22))] ∧ Fr H0 H0.length [] H1) h ⟨rfl, hfr⟩ ?_
  skip
  rintro K' ⟨t21, i22⟩ st e H ⟨rfl, hfr⟩ h hN hB hR hX
  have hle := hfr.le
  rw [law16_ReplyCodes_l2.eq_1] at h
  simp (disch := first | assumption | omega | (simp only [h_sl, h_al] <;> omega) | fail) only [WW, WH, ↓reduceIte, Nat.reduceEqDiff, Nat.reduceLT, Nat.reduceLeDiff, Nat.reduceAdd, Nat.reduceSub, Nat.reduceMul, Nat.reduceBEq, reduceCtorEq, if_false, if_true, L_law16_ReplyCodes, m_law16_ReplyCodes_l2b, c_law16_ReplyCodes_l2b, encReplyV]
  rcases ifb h with ⟨hy26, h⟩ | ⟨hy26, h⟩
  · refine UC_t hy26 ?_
    obtain ⟨x23, hy27, h⟩ := bnd' h
    simp (disch := first | assumption | omega | (simp only [h_sl, h_al] <;> omega) | fail) only [WW, WH, ↓reduceIte, Nat.reduceEqDiff, Nat.reduceLT, Nat.reduceLeDiff, Nat.reduceAdd, Nat.reduceSub, Nat.reduceMul, Nat.reduceBEq, reduceCtorEq, if_false, if_true, L_law16_ReplyCodes, hy27, encReplyV]
    have hq := Option.some.inj h; subst hq
    refine hN _ rfl _ _ _ _ ?_ (WxH.refl _) ⟨rfl, hfr⟩
    exact WE.cons (Wx.int) (WE.cons (Wx.int) (WE.cons (Wx.int) (WE.cons (Wx.str) (WE.cons (Wx.str) (WE.cons (Wx.int) (WE.nil))))))
  · refine UC_f hy26 ?_
    simp (disch := first | assumption | omega | (simp only [h_sl, h_al] <;> omega) | fail) only [WW, WH, ↓reduceIte, Nat.reduceEqDiff, Nat.reduceLT, Nat.reduceLeDiff, Nat.reduceAdd, Nat.reduceSub, Nat.reduceMul, Nat.reduceBEq, reduceCtorEq, if_false, if_true, L_law16_ReplyCodes, encReplyV]
    have hq := Option.some.inj h; subst hq
    refine hX _ _ _ _ _ (by simp) ?_ (WxH.refl _) (kb2 _ (hB _ rfl) _ hfr)
    exact WE.cons (Wx.int) (WE.cons (Wx.int) (WE.cons (Wx.int) (WE.cons (Wx.str) (WE.cons (Wx.str) (WE.nil)))))
set_option maxHeartbeats 2000000 in
theorem law16_ReplyCodes_p3_ok {a1 : Int} {nn3 : Int} {long4 : Int} {t25 : List UInt8} {q33 : Nat} {r32 : Int} {r31 : ReplyV} {H0 H : AH} (hfr : Fr H0 H0.length [] H) (hs_o2 : H[q33]? = some [(.int .i64 r31.code), (.sl .n 1 (ml AV.str r31.lines))]) (hi0 : H0.length ≤ q33) {K : Exit → Env → AH → Prop}
    (kn : ∀ H' : AH, Fr H0 H0.length [] H' → H'[q33]? = some [(.int .i64 r31.code), (.sl .n 1 (ml AV.str r31.lines))] → K .normal [(0, (.int .i64 a1)), (2, (.int .i64 nn3)), (13, (.str t25)), (15, (.ptr q33 0)), (16, (.int .i64 r32)), (17, (.bool ((decide (nn3 ≤ 20)) && (decide (long4 ≤ 480)))))] H') :
    AX Tryd.prog L_law16_ReplyCodes 153 H0.length c_law16_ReplyCodes_p3 K [(0, (.int .i64 a1)), (2, (.int .i64 nn3)), (3, (.int .i64 long4)), (13, (.str t25)), (15, (.ptr q33 0)), (16, (.int .i64 r32))] H := by
  refine AX.go (m := m_law16_ReplyCodes_p3) rfl (by decide) fun K' hK => ?_
  have hle := hfr.le
  have hl_o2 := h_lt hs_o2
  simp (disch := first | assumption | omega | (simp only [h_sl, h_al] <;> omega) | fail) only [WW, WH, ↓reduceIte, Nat.reduceEqDiff, Nat.reduceLT, Nat.reduceLeDiff, Nat.reduceAdd, Nat.reduceSub, Nat.reduceMul, Nat.reduceBEq, reduceCtorEq, if_false, if_true, L_law16_ReplyCodes, m_law16_ReplyCodes_p3, c_law16_ReplyCodes_p3, hs_o2, encReplyV]
  rcases bcases ((decide (nn3 ≤ 20))) with hy35 | hy35
  · refine UG_go hy35 ?_
    simp (disch := first | assumption | omega | (simp only [h_sl, h_al] <;> omega) | fail) only [WW, WH, ↓reduceIte, Nat.reduceEqDiff, Nat.reduceLT, Nat.reduceLeDiff, Nat.reduceAdd, Nat.reduceSub, Nat.reduceMul, Nat.reduceBEq, reduceCtorEq, if_false, if_true, L_law16_ReplyCodes, hy35, hs_o2, encReplyV]
    refine hK _ _ _ _ _ ?_ (WxH.refl _) (kn _ hfr ((hs_o2).trans rfl))
    exact WE.cons (Wx.int) (WE.cons (Wx.int) (WE.cons (Wx.str) (WE.cons (Wx.ptr) (WE.cons (Wx.int) (WE.cons (Wx.boolE (by simp only [hy35, WB])) (WE.nil))))))
  · refine UG_nt hy35 ?_
    simp (disch := first | assumption | omega | (simp only [h_sl, h_al] <;> omega) | fail) only [WW, WH, ↓reduceIte, Nat.reduceEqDiff, Nat.reduceLT, Nat.reduceLeDiff, Nat.reduceAdd, Nat.reduceSub, Nat.reduceMul, Nat.reduceBEq, reduceCtorEq, if_false, if_true, L_law16_ReplyCodes, hy35, hs_o2, encReplyV]
    refine hK _ _ _ _ _ ?_ (WxH.refl _) (kn _ hfr ((hs_o2).trans rfl))
    exact WE.cons (Wx.int) (WE.cons (Wx.int) (WE.cons (Wx.str) (WE.cons (Wx.ptr) (WE.cons (Wx.int) (WE.cons (Wx.boolE (by simp only [hy35, WB])) (WE.nil))))))
set_option maxHeartbeats 2000000 in
theorem law16_ReplyCodes_p4_ok {r32 : Int} {nn3 : Int} {long4 : Int} {a1 : Int} {r31 : ReplyV} {t25 : List UInt8} {q34 : Nat} {H0 H : AH} (hfr : Fr H0 H0.length [] H) (hs_o2 : H[q34]? = some [(.int .i64 r31.code), (.sl .n 1 (ml AV.str r31.lines))]) (hi0 : H0.length ≤ q34) {K : Exit → Env → AH → Prop} {t38 : Bool}
    (h : law16_ReplyCodes_p4 r32 nn3 long4 a1 r31 t25 = some t38)
    (kn : ∀ H' : AH, Fr H0 H0.length [] H' → H'[q34]? = some [(.int .i64 r31.code), (.sl .n 1 (ml AV.str r31.lines))] → K .normal [(8, (.bool t38))] H') :
    AX Tryd.prog L_law16_ReplyCodes 153 H0.length c_law16_ReplyCodes_p4 K [(0, (.int .i64 a1)), (2, (.int .i64 nn3)), (13, (.str t25)), (15, (.ptr q34 0)), (16, (.int .i64 r32)), (17, (.bool ((decide (nn3 ≤ 20)) && (decide (long4 ≤ 480)))))] H := by
  refine AX.go (m := m_law16_ReplyCodes_p4) rfl (by decide) fun K' hK => ?_
  have hle := hfr.le
  have hl_o2 := h_lt hs_o2
  rw [law16_ReplyCodes_p4.eq_1] at h
  simp (disch := first | assumption | omega | (simp only [h_sl, h_al] <;> omega) | fail) only [WW, WH, ↓reduceIte, Nat.reduceEqDiff, Nat.reduceLT, Nat.reduceLeDiff, Nat.reduceAdd, Nat.reduceSub, Nat.reduceMul, Nat.reduceBEq, reduceCtorEq, if_false, if_true, L_law16_ReplyCodes, m_law16_ReplyCodes_p4, c_law16_ReplyCodes_p4, hs_o2, encReplyV]
  rcases ifb h with ⟨hy36, h⟩ | ⟨hy36, h⟩
  · refine UG_go hy36 ?_
    simp (disch := first | assumption | omega | (simp only [h_sl, h_al] <;> omega) | fail) only [WW, WH, ↓reduceIte, Nat.reduceEqDiff, Nat.reduceLT, Nat.reduceLeDiff, Nat.reduceAdd, Nat.reduceSub, Nat.reduceMul, Nat.reduceBEq, reduceCtorEq, if_false, if_true, L_law16_ReplyCodes, hy36, hs_o2, encReplyV]
    rcases ifb h with ⟨hy37, h⟩ | ⟨hy37, h⟩
    · refine UG_nf hy37 ?_
      simp (disch := first | assumption | omega | (simp only [h_sl, h_al] <;> omega) | fail) only [WW, WH, ↓reduceIte, Nat.reduceEqDiff, Nat.reduceLT, Nat.reduceLeDiff, Nat.reduceAdd, Nat.reduceSub, Nat.reduceMul, Nat.reduceBEq, reduceCtorEq, if_false, if_true, L_law16_ReplyCodes, hy37, hs_o2, encReplyV]
      obtain ⟨r35, hy38, h⟩ := bnd' h
      refine UK_e (as' := [(.int .i64 a1)]) (h := reply_Class_ok (code1 := a1)  hy38) (hw := WL.cons (Wx.int) (WL.nil)) (hh := WxH.refl _) ?_
      have hy39 : dv .i64 a1 100 = some (IntKind.wrap .i64 (Int.tdiv a1 100)) := rfl
      simp (disch := first | assumption | omega | (simp only [h_sl, h_al] <;> omega) | fail) only [WW, WH, ↓reduceIte, Nat.reduceEqDiff, Nat.reduceLT, Nat.reduceLeDiff, Nat.reduceAdd, Nat.reduceSub, Nat.reduceMul, Nat.reduceBEq, reduceCtorEq, if_false, if_true, L_law16_ReplyCodes, hy39, hs_o2, encReplyV]
      have hq := Option.some.inj h; subst hq
      refine hK _ _ _ _ _ ?_ (WxH.refl _) (kn _ hfr ((hs_o2).trans rfl))
      exact WE.cons (Wx.bool) (WE.nil)
    · refine UG_go hy37 ?_
      simp (disch := first | assumption | omega | (simp only [h_sl, h_al] <;> omega) | fail) only [WW, WH, ↓reduceIte, Nat.reduceEqDiff, Nat.reduceLT, Nat.reduceLeDiff, Nat.reduceAdd, Nat.reduceSub, Nat.reduceMul, Nat.reduceBEq, reduceCtorEq, if_false, if_true, L_law16_ReplyCodes, hy37, hs_o2, encReplyV]
      rcases ifb h with ⟨hy40, h⟩ | ⟨hy40, h⟩
      · refine UG_go hy40 ?_
        obtain ⟨x36, hy41, h⟩ := bnd' h
        simp (disch := first | assumption | omega | (simp only [h_sl, h_al] <;> omega) | fail) only [WW, WH, ↓reduceIte, Nat.reduceEqDiff, Nat.reduceLT, Nat.reduceLeDiff, Nat.reduceAdd, Nat.reduceSub, Nat.reduceMul, Nat.reduceBEq, reduceCtorEq, if_false, if_true, L_law16_ReplyCodes, hy40, hy41, hs_o2, encReplyV]
        rcases ifb h with ⟨hy42, h⟩ | ⟨hy42, h⟩
        · refine UG_go hy42 ?_
          simp (disch := first | assumption | omega | (simp only [h_sl, h_al] <;> omega) | fail) only [WW, WH, ↓reduceIte, Nat.reduceEqDiff, Nat.reduceLT, Nat.reduceLeDiff, Nat.reduceAdd, Nat.reduceSub, Nat.reduceMul, Nat.reduceBEq, reduceCtorEq, if_false, if_true, L_law16_ReplyCodes, hy42, hs_o2, encReplyV]
          obtain ⟨r37, hy43, h⟩ := bnd' h
          refine UK_e (as' := [(.int .i64 a1)]) (h := reply_Class_ok (code1 := a1)  hy43) (hw := WL.cons (Wx.int) (WL.nil)) (hh := WxH.refl _) ?_
          have hy44 : dv .i64 a1 100 = some (IntKind.wrap .i64 (Int.tdiv a1 100)) := rfl
          simp (disch := first | assumption | omega | (simp only [h_sl, h_al] <;> omega) | fail) only [WW, WH, ↓reduceIte, Nat.reduceEqDiff, Nat.reduceLT, Nat.reduceLeDiff, Nat.reduceAdd, Nat.reduceSub, Nat.reduceMul, Nat.reduceBEq, reduceCtorEq, if_false, if_true, L_law16_ReplyCodes, hy44, hs_o2, encReplyV]
          have hq := Option.some.inj h; subst hq
          refine hK _ _ _ _ _ ?_ (WxH.refl _) (kn _ hfr ((hs_o2).trans rfl))
          exact WE.cons (Wx.bool) (WE.nil)
        · refine UG_nt hy42 ?_
          simp (disch := first | assumption | omega | (simp only [h_sl, h_al] <;> omega) | fail) only [WW, WH, ↓reduceIte, Nat.reduceEqDiff, Nat.reduceLT, Nat.reduceLeDiff, Nat.reduceAdd, Nat.reduceSub, Nat.reduceMul, Nat.reduceBEq, reduceCtorEq, if_false, if_true, L_law16_ReplyCodes, hy42, hs_o2, encReplyV]
          have hq := Option.some.inj h; subst hq
          refine hK _ _ _ _ _ ?_ (WxH.refl _) (kn _ hfr ((hs_o2).trans rfl))
          exact WE.cons (Wx.bool) (WE.nil)
      · refine UG_nt hy40 ?_
        simp (disch := first | assumption | omega | (simp only [h_sl, h_al] <;> omega) | fail) only [WW, WH, ↓reduceIte, Nat.reduceEqDiff, Nat.reduceLT, Nat.reduceLeDiff, Nat.reduceAdd, Nat.reduceSub, Nat.reduceMul, Nat.reduceBEq, reduceCtorEq, if_false, if_true, L_law16_ReplyCodes, hy40, hs_o2, encReplyV]
        have hq := Option.some.inj h; subst hq
        refine hK _ _ _ _ _ ?_ (WxH.refl _) (kn _ hfr ((hs_o2).trans rfl))
        exact WE.cons (Wx.bool) (WE.nil)
  · refine UG_nt hy36 ?_
    simp (disch := first | assumption | omega | (simp only [h_sl, h_al] <;> omega) | fail) only [WW, WH, ↓reduceIte, Nat.reduceEqDiff, Nat.reduceLT, Nat.reduceLeDiff, Nat.reduceAdd, Nat.reduceSub, Nat.reduceMul, Nat.reduceBEq, reduceCtorEq, if_false, if_true, L_law16_ReplyCodes, hy36, hs_o2, encReplyV]
    have hq := Option.some.inj h; subst hq
    refine hK _ _ _ _ _ ?_ (WxH.refl _) (kn _ hfr ((hs_o2).trans rfl))
    exact WE.cons (Wx.bool) (WE.nil)
set_option maxHeartbeats 2000000 in
theorem law16_ReplyCodes_ok {F : Nat} {a1 : Int} {b2 : Int} {nn3 : Int} {long4 : Int}  {H0 : AH}  {rz0 : Bool} (h : law16_ReplyCodes F a1 b2 nn3 long4 = some rz0) :
    ACalls Tryd.prog 3 [(.int .i64 a1), (.int .i64 b2), (.int .i64 nn3), (.int .i64 long4)] H0 fun v H' => v = (.bool rz0) ∧ H' = H0 := by
  refine ACalls.goX k_law16_ReplyCodes (m := m_law16_ReplyCodes) rfl L_law16_ReplyCodes (by decide) (by simp) fun hcl K0 hK0 => ?_
  refine AX.of_U (m := m_law16_ReplyCodes) rfl (by decide) ?_
  have hfr := Fr.refl H0 []
  have hle := hfr.le
  rw [law16_ReplyCodes.eq_1] at h
  obtain ⟨H, hHH⟩ : ∃ H, H = H0 := ⟨_, rfl⟩
  have hfr : Fr H0 H0.length [] H := hHH ▸ hfr
  have hle := hfr.le
  suffices hU : U Tryd.prog L_law16_ReplyCodes 153 H0.length [.code m_law16_ReplyCodes] K0 .normal (argE 0 [(.int .i64 a1), (.int .i64 b2), (.int .i64 nn3), (.int .i64 long4)]) H by rwa [hHH] at hU
  simp (disch := first | assumption | omega | (simp only [h_sl, h_al] <;> omega) | fail) only [WW, WH, ↓reduceIte, Nat.reduceEqDiff, Nat.reduceLT, Nat.reduceLeDiff, Nat.reduceAdd, Nat.reduceSub, Nat.reduceMul, Nat.reduceBEq, reduceCtorEq, if_false, if_true, L_law16_ReplyCodes, m_law16_ReplyCodes, encReplyV]
  obtain ⟨r5, hy1, h⟩ := bnd' h
  refine UK_e (as' := []) (h := law16_known_ok  (F := F)  hy1) (hw := WL.nil) (hh := WxH.refl _) ?_
  simp (disch := first | assumption | omega | (simp only [h_sl, h_al] <;> omega) | fail) only [WW, WH, ↓reduceIte, Nat.reduceEqDiff, Nat.reduceLT, Nat.reduceLeDiff, Nat.reduceAdd, Nat.reduceSub, Nat.reduceMul, Nat.reduceBEq, reduceCtorEq, if_false, if_true, L_law16_ReplyCodes, encReplyV]
  rcases ifb h with ⟨hy2, h⟩ | ⟨hy2, h⟩
  · refine UC_t hy2 ?_
    simp (disch := first | assumption | omega | (simp only [h_sl, h_al] <;> omega) | fail) only [WW, WH, ↓reduceIte, Nat.reduceEqDiff, Nat.reduceLT, Nat.reduceLeDiff, Nat.reduceAdd, Nat.reduceSub, Nat.reduceMul, Nat.reduceBEq, reduceCtorEq, if_false, if_true, L_law16_ReplyCodes, encReplyV]
    have hq := Option.some.inj h; subst hq
    refine hK0 _ _ _ (.inr rfl) ?_
    exact fn_end0 (by exact hfr) hcl (resv_tmp (a := (.bool false)) rfl rfl resv_nil) (by simp [fin, AV.df, AV.sh, AV.sh1, b_df, b_sh, b_sh1, b_Cl]) (Wx.bool) (r' := (.bool false)) ⟨rfl, rfl⟩
  · refine UC_f hy2 ?_
    simp (disch := first | assumption | omega | (simp only [h_sl, h_al] <;> omega) | fail) only [WW, WH, ↓reduceIte, Nat.reduceEqDiff, Nat.reduceLT, Nat.reduceLeDiff, Nat.reduceAdd, Nat.reduceSub, Nat.reduceMul, Nat.reduceBEq, reduceCtorEq, if_false, if_true, L_law16_ReplyCodes, encReplyV]
    refine UX_of (AX.weak ?_ (WxH.refl _) (law16_ReplyCodes_p1_ok (a1 := a1) (b2 := b2) (nn3 := nn3) (long4 := long4) (hfr) ?_))
    · exact WE.cons (Wx.int) (WE.cons (Wx.int) (WE.cons (Wx.int) (WE.cons (Wx.int) (WE.nil))))
    intro H hfr 
    have hle := hfr.le
    simp (disch := first | assumption | omega | (simp only [h_sl, h_al] <;> omega) | fail) only [WW, WH, ↓reduceIte, Nat.reduceEqDiff, Nat.reduceLT, Nat.reduceLeDiff, Nat.reduceAdd, Nat.reduceSub, Nat.reduceMul, Nat.reduceBEq, reduceCtorEq, if_false, if_true, L_law16_ReplyCodes, encReplyV]
    rcases ifb h with ⟨hy10, h⟩ | ⟨hy10, h⟩
    · refine UC_t hy10 ?_
      simp (disch := first | assumption | omega | (simp only [h_sl, h_al] <;> omega) | fail) only [WW, WH, ↓reduceIte, Nat.reduceEqDiff, Nat.reduceLT, Nat.reduceLeDiff, Nat.reduceAdd, Nat.reduceSub, Nat.reduceMul, Nat.reduceBEq, reduceCtorEq, if_false, if_true, L_law16_ReplyCodes, encReplyV]
      have hq := Option.some.inj h; subst hq
      refine hK0 _ _ _ (.inr rfl) ?_
      exact fn_end0 (by exact hfr) hcl (resv_tmp (a := (.bool true)) rfl rfl resv_nil) (by simp [fin, AV.df, AV.sh, AV.sh1, b_df, b_sh, b_sh1, b_Cl]) (Wx.bool) (r' := (.bool true)) ⟨rfl, rfl⟩
    · refine UC_f hy10 ?_
      simp (disch := first | assumption | omega | (simp only [h_sl, h_al] <;> omega) | fail) only [WW, WH, ↓reduceIte, Nat.reduceEqDiff, Nat.reduceLT, Nat.reduceLeDiff, Nat.reduceAdd, Nat.reduceSub, Nat.reduceMul, Nat.reduceBEq, reduceCtorEq, if_false, if_true, L_law16_ReplyCodes, encReplyV]
      obtain ⟨r6, hy11, h⟩ := bnd' h
      refine UK_e (as' := [(.int .i64 a1)]) (h := law16_digits_ok (nn1 := a1)  hy11) (hw := WL.cons (Wx.int) (WL.nil)) (hh := WxH.refl _) ?_
      obtain ⟨x7, hy12, h⟩ := bnd' h
      simp (disch := first | assumption | omega | (simp only [h_sl, h_al] <;> omega) | fail) only [WW, WH, ↓reduceIte, Nat.reduceEqDiff, Nat.reduceLT, Nat.reduceLeDiff, Nat.reduceAdd, Nat.reduceSub, Nat.reduceMul, Nat.reduceBEq, reduceCtorEq, if_false, if_true, L_law16_ReplyCodes, hy12, encReplyV]
      obtain ⟨r8, hy13, h⟩ := bnd' h
      refine UK_e (as' := [(.int .i64 b2)]) (h := law16_digits_ok (nn1 := b2)  hy13) (hw := WL.cons (Wx.int) (WL.nil)) (hh := WxH.refl _) ?_
      obtain ⟨x9, hy14, h⟩ := bnd' h
      obtain ⟨x10, hy15, h⟩ := bnd' h
      simp (disch := first | assumption | omega | (simp only [h_sl, h_al] <;> omega) | fail) only [WW, WH, ↓reduceIte, Nat.reduceEqDiff, Nat.reduceLT, Nat.reduceLeDiff, Nat.reduceAdd, Nat.reduceSub, Nat.reduceMul, Nat.reduceBEq, reduceCtorEq, if_false, if_true, L_law16_ReplyCodes, hy14, hy15, encReplyV]
      obtain ⟨⟨r11, r12⟩, hy16, h⟩ := bnd' h
      dsimp only at h
      refine UK_e (as' := [(.sl .n 1 (ml b8 x10))]) (h := reply_Parse_ok (b1 := x10) (F := F)  hy16) (hw := WL.cons (Wx.nn) (WL.nil)) (hh := WxH.refl _) ?_
      simp (disch := first | assumption | omega | (simp only [h_sl, h_al] <;> omega) | fail) only [WW, WH, ↓reduceIte, Nat.reduceEqDiff, Nat.reduceLT, Nat.reduceLeDiff, Nat.reduceAdd, Nat.reduceSub, Nat.reduceMul, Nat.reduceBEq, reduceCtorEq, if_false, if_true, L_law16_ReplyCodes, encReplyV]
      obtain ⟨q13, hg_q13⟩ : ∃ q : Nat, H.length = q := ⟨_, rfl⟩
      try rw [hg_q13]
      refine UX_of (AX.weak ?_ (WxH.refl _) (law16_ReplyCodes_p2_ok (a1 := a1) (b2 := b2) (nn3 := nn3) (long4 := long4) (q13 := q13) (r12 := r12) (r11 := r11) ((Fr.set (s := q13) (Fr.app hfr) (.inr (by first | assumption | omega | (simp only [h_sl, h_al] <;> omega) | fail)))) ((h_eq (by first | assumption | omega | (simp only [h_sl, h_al] <;> omega) | fail)).trans rfl) (by first | assumption | omega | (simp only [h_sl, h_al] <;> omega) | fail) ?_))
      · exact WE.cons (Wx.int) (WE.cons (Wx.int) (WE.cons (Wx.int) (WE.cons (Wx.int) (WE.cons (Wx.ptr) (WE.cons (Wx.int) (WE.nil))))))
      intro H hfr hs_o1
      have hle := hfr.le
      have hl_o1 := h_lt hs_o1
      simp (disch := first | assumption | omega | (simp only [h_sl, h_al] <;> omega) | fail) only [WW, WH, ↓reduceIte, Nat.reduceEqDiff, Nat.reduceLT, Nat.reduceLeDiff, Nat.reduceAdd, Nat.reduceSub, Nat.reduceMul, Nat.reduceBEq, reduceCtorEq, if_false, if_true, L_law16_ReplyCodes, hs_o1, encReplyV]
      rcases ifb h with ⟨hy20, h⟩ | ⟨hy20, h⟩
      · refine UC_t hy20 ?_
        simp (disch := first | assumption | omega | (simp only [h_sl, h_al] <;> omega) | fail) only [WW, WH, ↓reduceIte, Nat.reduceEqDiff, Nat.reduceLT, Nat.reduceLeDiff, Nat.reduceAdd, Nat.reduceSub, Nat.reduceMul, Nat.reduceBEq, reduceCtorEq, if_false, if_true, L_law16_ReplyCodes, hs_o1, encReplyV]
        have hq := Option.some.inj h; subst hq
        refine hK0 _ _ _ (.inr rfl) ?_
        exact fn_end0 (by exact hfr) hcl (resv_tmp (a := (.bool false)) rfl rfl resv_nil) (by simp [fin, AV.df, AV.sh, AV.sh1, b_df, b_sh, b_sh1, b_Cl]) (Wx.bool) (r' := (.bool false)) ⟨rfl, rfl⟩
      · refine UC_f hy20 ?_
        simp (disch := first | assumption | omega | (simp only [h_sl, h_al] <;> omega) | fail) only [WW, WH, ↓reduceIte, Nat.reduceEqDiff, Nat.reduceLT, Nat.reduceLeDiff, Nat.reduceAdd, Nat.reduceSub, Nat.reduceMul, Nat.reduceBEq, reduceCtorEq, if_false, if_true, L_law16_ReplyCodes, hs_o1, encReplyV]
        obtain ⟨o41, hy25, h⟩ := bnd' h
        refine UX_of (AX.weak ?_ (WxH.refl _) (law16_ReplyCodes_l1_ok  (nn3 := nn3) (a1 := a1) (long4 := long4) (s14 := ([] : List UInt8)) (i15 := 1)  (hfr) (o := o41) hy25 ?_))
        · exact WE.cons (Wx.int) (WE.cons (Wx.int) (WE.cons (Wx.int) (WE.cons (Wx.str) (WE.cons (Wx.int) (WE.nil)))))
        · rintro s20 rfl H hfr
          try dsimp only at h 
          have hle := hfr.le
          simp (disch := first | assumption | omega | (simp only [h_sl, h_al] <;> omega) | fail) only [WW, WH, ↓reduceIte, Nat.reduceEqDiff, Nat.reduceLT, Nat.reduceLeDiff, Nat.reduceAdd, Nat.reduceSub, Nat.reduceMul, Nat.reduceBEq, reduceCtorEq, if_false, if_true, L_law16_ReplyCodes, encReplyV]
          obtain ⟨o40, hy28, h⟩ := bnd' h
          refine UX_of (AX.weak ?_ (WxH.refl _) (law16_ReplyCodes_l2_ok  (long4 := long4) (a1 := a1) (nn3 := nn3) (s20 := s20) (t21 := ([] : List UInt8)) (i22 := 0)  (hfr) (o := o40) hy28 ?_))
          · exact WE.cons (Wx.int) (WE.cons (Wx.int) (WE.cons (Wx.int) (WE.cons (Wx.str) (WE.cons (Wx.str) (WE.cons (Wx.int) (WE.nil))))))
          · rintro t25 rfl H hfr
            try dsimp only at h 
            have hle := hfr.le
            simp (disch := first | assumption | omega | (simp only [h_sl, h_al] <;> omega) | fail) only [WW, WH, ↓reduceIte, Nat.reduceEqDiff, Nat.reduceLT, Nat.reduceLeDiff, Nat.reduceAdd, Nat.reduceSub, Nat.reduceMul, Nat.reduceBEq, reduceCtorEq, if_false, if_true, L_law16_ReplyCodes, encReplyV]
            obtain ⟨r26, hy29, h⟩ := bnd' h
            refine UK_e (as' := [(.int .i64 a1)]) (h := law16_digits_ok (nn1 := a1)  hy29) (hw := WL.cons (Wx.int) (WL.nil)) (hh := WxH.refl _) ?_
            obtain ⟨x27, hy30, h⟩ := bnd' h
            obtain ⟨x28, hy31, h⟩ := bnd' h
            obtain ⟨x29, hy32, h⟩ := bnd' h
            obtain ⟨x30, hy33, h⟩ := bnd' h
            simp (disch := first | assumption | omega | (simp only [h_sl, h_al] <;> omega) | fail) only [WW, WH, ↓reduceIte, Nat.reduceEqDiff, Nat.reduceLT, Nat.reduceLeDiff, Nat.reduceAdd, Nat.reduceSub, Nat.reduceMul, Nat.reduceBEq, reduceCtorEq, if_false, if_true, L_law16_ReplyCodes, hy30, hy31, hy32, hy33, encReplyV]
            obtain ⟨⟨r31, r32⟩, hy34, h⟩ := bnd' h
            dsimp only at h
            refine UK_e (as' := [(.sl .n 1 (ml b8 x30))]) (h := reply_Parse_ok (b1 := x30) (F := F)  hy34) (hw := WL.cons (Wx.nn) (WL.nil)) (hh := WxH.refl _) ?_
            simp (disch := first | assumption | omega | (simp only [h_sl, h_al] <;> omega) | fail) only [WW, WH, ↓reduceIte, Nat.reduceEqDiff, Nat.reduceLT, Nat.reduceLeDiff, Nat.reduceAdd, Nat.reduceSub, Nat.reduceMul, Nat.reduceBEq, reduceCtorEq, if_false, if_true, L_law16_ReplyCodes, encReplyV]
            obtain ⟨q33, hg_q33⟩ : ∃ q : Nat, H.length = q := ⟨_, rfl⟩
            try rw [hg_q33]
            refine UX_of (AX.weak ?_ (WxH.refl _) (law16_ReplyCodes_p3_ok (a1 := a1) (nn3 := nn3) (long4 := long4) (t25 := t25) (q33 := q33) (r32 := r32) (r31 := r31) ((Fr.set (s := q33) (Fr.app hfr) (.inr (by first | assumption | omega | (simp only [h_sl, h_al] <;> omega) | fail)))) ((h_eq (by first | assumption | omega | (simp only [h_sl, h_al] <;> omega) | fail)).trans rfl) (by first | assumption | omega | (simp only [h_sl, h_al] <;> omega) | fail) ?_))
            · exact WE.cons (Wx.int) (WE.cons (Wx.int) (WE.cons (Wx.int) (WE.cons (Wx.str) (WE.cons (Wx.ptr) (WE.cons (Wx.int) (WE.nil))))))
            intro H hfr hs_o2
            have hle := hfr.le
            have hl_o2 := h_lt hs_o2
            simp (disch := first | assumption | omega | (simp only [h_sl, h_al] <;> omega) | fail) only [WW, WH, ↓reduceIte, Nat.reduceEqDiff, Nat.reduceLT, Nat.reduceLeDiff, Nat.reduceAdd, Nat.reduceSub, Nat.reduceMul, Nat.reduceBEq, reduceCtorEq, if_false, if_true, L_law16_ReplyCodes, hs_o2, encReplyV]
            obtain ⟨t39, hy45, h⟩ := bnd' h
            refine UX_of (AX.weak ?_ (WxH.refl _) (law16_ReplyCodes_p4_ok  (r32 := r32) (nn3 := nn3) (long4 := long4) (a1 := a1) (r31 := r31) (t25 := t25) (t38 := t39) (q34 := q33) (hfr) ((hs_o2).trans rfl) (by first | assumption | omega | (simp only [h_sl, h_al] <;> omega) | fail) hy45 ?_))
            · exact WE.cons (Wx.int) (WE.cons (Wx.int) (WE.cons (Wx.str) (WE.cons (Wx.ptr) (WE.cons (Wx.int) (WE.cons (Wx.bool) (WE.nil))))))
            intro H hfr hs_o2
            have hle := hfr.le
            have hl_o2 := h_lt hs_o2
            simp (disch := first | assumption | omega | (simp only [h_sl, h_al] <;> omega) | fail) only [WW, WH, ↓reduceIte, Nat.reduceEqDiff, Nat.reduceLT, Nat.reduceLeDiff, Nat.reduceAdd, Nat.reduceSub, Nat.reduceMul, Nat.reduceBEq, reduceCtorEq, if_false, if_true, L_law16_ReplyCodes, hs_o2, encReplyV]
            have hq := Option.some.inj h; subst hq
            refine hK0 _ _ _ (.inr rfl) ?_
            exact fn_end0 (by exact hfr) hcl (resv_tmp (a := (.bool t39)) rfl rfl resv_nil) (by simp [fin, AV.df, AV.sh, AV.sh1, b_df, b_sh, b_sh1, b_Cl]) (Wx.bool) (r' := (.bool t39)) ⟨rfl, rfl⟩

end Go.Proofs.ReplyS
