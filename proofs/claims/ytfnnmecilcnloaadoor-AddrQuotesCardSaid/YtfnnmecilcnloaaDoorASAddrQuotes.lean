import Derived.Test.YtfnnmecilcnloaaDoorAS3
set_option linter.unusedSimpArgs false
set_option linter.unusedVariables false
set_option linter.unusedSectionVars false
set_option linter.defProp false
set_option maxRecDepth 100000
namespace Go.Proofs.AddrS
open Go Go.Am Go.Proofs

/-! ### mailbag/mailbaglaw14.AddrQuotes -/
def c_law14_AddrQuotes_p1 : ACode := (.rg [⟨(some 15), (.mv (.t 0)), none⟩, ⟨(some 16), (.len (.t 15)), none⟩, ⟨(some 17), (.bin .eql (.t 16) (.c (.int .i64 0))), none⟩, ⟨(some 18), (.mv (.t 17)), none⟩, ⟨(some 19), (.mv (.t 0)), (some (18, false))⟩, ⟨(some 20), (.len (.t 19)), (some (18, false))⟩, ⟨(some 21), (.bin .gtr (.t 20) (.c (.int .i64 64))), (some (18, false))⟩, ⟨(some 22), (.pick (.t 18) (.c (.bool true)) (.t 21)), none⟩])
abbrev m_law14_AddrQuotes_p1 := c_law14_AddrQuotes_p1
def c_law14_AddrQuotes_p2 : ACode := (.rg [⟨(some 40), (.mv (.t 8)), none⟩, ⟨(some 41), (.bin .eql (.t 40) (.c (b8 34))), none⟩, ⟨(some 42), (.mv (.t 41)), none⟩, ⟨(some 43), (.mv (.t 8)), (some (42, false))⟩, ⟨(some 44), (.bin .eql (.t 43) (.c (b8 92))), (some (42, false))⟩, ⟨(some 45), (.pick (.t 42) (.c (.bool true)) (.t 44)), none⟩, ⟨(some 46), (.mv (.t 45)), none⟩, ⟨(some 47), (.mv (.t 7)), (some (46, false))⟩, ⟨(some 48), (.mv (.t 1)), (some (46, false))⟩, ⟨(some 49), (.len (.t 48)), (some (46, false))⟩, ⟨(some 50), (.bin .lss (.t 47) (.t 49)), (some (46, false))⟩, ⟨(some 51), (.mv (.t 50)), (some (46, false))⟩, ⟨(some 52), (.mv (.t 1)), (some (51, true))⟩, ⟨(some 53), (.mv (.t 7)), (some (51, true))⟩, ⟨(some 54), (.ixa 1 (.t 52) (.t 53)), (some (51, true))⟩, ⟨(some 55), (.ld (.t 54) none), (some (51, true))⟩, ⟨(some 56), (.pick (.t 51) (.t 55) (.c (.bool false))), (some (46, false))⟩, ⟨(some 57), (.pick (.t 46) (.c (.bool true)) (.t 56)), none⟩])
abbrev m_law14_AddrQuotes_p2 := c_law14_AddrQuotes_p2
def c_law14_AddrQuotes_l1b : ACode := (.seq (.seq (.rg [⟨(some 23), (.mv (.t 7)), none⟩, ⟨(some 24), (.mv (.t 0)), none⟩, ⟨(some 25), (.len (.t 24)), none⟩, ⟨(some 26), (.bin .lss (.t 23) (.t 25)), none⟩]) (.cond (.t 26) .skip (.exit 0))) (.seq (.blk 1 (.seq (.rg [⟨(some 29), (.mv (.t 0)), none⟩, ⟨(some 30), (.mv (.t 7)), none⟩, ⟨(some 31), (.ixa 1 (.t 29) (.t 30)), none⟩, ⟨(some 32), (.ld (.t 31) none), none⟩, ⟨(some 33), (.bin .rem (.t 32) (.c (b8 95))), none⟩, ⟨(some 34), (.bin .add (.c (b8 32)) (.t 33)), none⟩, ⟨(some 8), (.asg (.t 34)), none⟩]) (.seq (.rg [⟨(some 35), (.mv (.t 6)), none⟩, ⟨(some 36), (.mv (.t 8)), none⟩, ⟨(some 37), (.bsl 1 [(.t 36)]), none⟩, ⟨(some 38), (.cvt .bs (.t 37)), none⟩, ⟨(some 39), (.bin .add (.t 35) (.t 38)), none⟩, ⟨(some 6), (.asg (.t 39)), none⟩]) (.seq (.seq c_law14_AddrQuotes_p2 (.cond (.t 57) (.rg [⟨(some 58), (.mv (.t 5)), none⟩, ⟨(some 59), (.bin .add (.t 58) (.c (.str [92]))), none⟩, ⟨(some 5), (.asg (.t 59)), none⟩]) .skip)) (.rg [⟨(some 60), (.mv (.t 5)), none⟩, ⟨(some 61), (.mv (.t 8)), none⟩, ⟨(some 62), (.bsl 1 [(.t 61)]), none⟩, ⟨(some 63), (.cvt .bs (.t 62)), none⟩, ⟨(some 64), (.bin .add (.t 60) (.t 63)), none⟩, ⟨(some 5), (.asg (.t 64)), none⟩]))))) (.rg [⟨(some 27), (.mv (.t 7)), none⟩, ⟨(some 28), (.bin .add (.t 27) (.c (.int .i64 1))), none⟩, ⟨(some 7), (.asg (.t 28)), none⟩])))
def c_law14_AddrQuotes_l1 : ACode := (.loop c_law14_AddrQuotes_l1b)
def m_law14_AddrQuotes_l1b : ACode := (.seq (.seq (.rg [⟨(some 23), (.mv (.t 7)), none⟩, ⟨(some 24), (.mv (.t 0)), none⟩, ⟨(some 25), (.len (.t 24)), none⟩, ⟨(some 26), (.bin .lss (.t 23) (.t 25)), none⟩]) (.cond (.t 26) .skip (.exit 0))) (.seq (.blk 1 (.seq (.rg [⟨(some 29), (.mv (.t 0)), none⟩, ⟨(some 30), (.mv (.t 7)), none⟩, ⟨(some 31), (.ixa 1 (.t 29) (.t 30)), none⟩, ⟨(some 32), (.ld (.t 31) none), none⟩, ⟨(some 33), (.bin .rem (.t 32) (.c (b8 95))), none⟩, ⟨(some 34), (.bin .add (.c (b8 32)) (.t 33)), none⟩, ⟨(some 8), (.asg (.t 34)), none⟩]) (.seq (.rg [⟨(some 35), (.mv (.t 6)), none⟩, ⟨(some 36), (.mv (.t 8)), none⟩, ⟨(some 37), (.bsl 1 [(.t 36)]), none⟩, ⟨(some 38), (.cvt .bs (.t 37)), none⟩, ⟨(some 39), (.bin .add (.t 35) (.t 38)), none⟩, ⟨(some 6), (.asg (.t 39)), none⟩]) (.seq (.seq (.sem c_law14_AddrQuotes_p2) (.cond (.t 57) (.rg [⟨(some 58), (.mv (.t 5)), none⟩, ⟨(some 59), (.bin .add (.t 58) (.c (.str [92]))), none⟩, ⟨(some 5), (.asg (.t 59)), none⟩]) .skip)) (.rg [⟨(some 60), (.mv (.t 5)), none⟩, ⟨(some 61), (.mv (.t 8)), none⟩, ⟨(some 62), (.bsl 1 [(.t 61)]), none⟩, ⟨(some 63), (.cvt .bs (.t 62)), none⟩, ⟨(some 64), (.bin .add (.t 60) (.t 63)), none⟩, ⟨(some 5), (.asg (.t 64)), none⟩]))))) (.rg [⟨(some 27), (.mv (.t 7)), none⟩, ⟨(some 28), (.bin .add (.t 27) (.c (.int .i64 1))), none⟩, ⟨(some 7), (.asg (.t 28)), none⟩])))
def c_law14_AddrQuotes_p3 : ACode := (.rg [⟨(some 79), (.mv (.t 10)), none⟩, ⟨(some 80), (.mv (.t 12)), none⟩, ⟨(some 81), (.bin .add (.t 79) (.t 80)), none⟩, ⟨(some 82), (.bin .eql (.t 81) (.c (.int .i64 0))), none⟩, ⟨(some 83), (.mv (.t 82)), none⟩, ⟨(some 84), (.ld (.t 9) (some 2)), (some (83, true))⟩, ⟨(some 85), (.mv (.t 6)), (some (83, true))⟩, ⟨(some 86), (.build [(.str []), (.str [])] [(0, (1, (.t 85))), (1, (1, (.c (.str [120, 46, 121]))))]), (some (83, true))⟩, ⟨(some 87), (.seq [.s, .s] false (.t 84) (.t 86)), (some (83, true))⟩, ⟨(some 88), (.pick (.t 83) (.t 87) (.c (.bool false))), none⟩, ⟨(some 89), (.mv (.t 88)), none⟩, ⟨(some 90), (.ld (.t 11) (some 2)), (some (89, true))⟩, ⟨(some 91), (.ld (.t 9) (some 2)), (some (89, true))⟩, ⟨(some 92), (.seq [.s, .s] false (.t 90) (.t 91)), (some (89, true))⟩, ⟨(some 93), (.pick (.t 89) (.t 92) (.c (.bool false))), none⟩, ⟨(some 4), (.asg (.t 93)), none⟩])
abbrev m_law14_AddrQuotes_p3 := c_law14_AddrQuotes_p3
def c_law14_AddrQuotes : ACode := (.seq (.rg [⟨(some 4), (.asg (.c (.bool false))), none⟩]) (.seq (.seq (.rg [⟨(some 13), (.call (.c (.fn 32 [])) []), none⟩, ⟨(some 14), (.un .not (.t 13)), none⟩]) (.cond (.t 14) (.seq (.rg [⟨(some 4), (.asg (.c (.bool false))), none⟩]) .ret) .skip)) (.seq (.seq c_law14_AddrQuotes_p1 (.cond (.t 22) (.seq (.rg [⟨(some 4), (.asg (.c (.bool true))), none⟩]) .ret) .skip)) (.seq (.rg [⟨(some 5), (.asg (.c (.str []))), none⟩]) (.seq (.rg [⟨(some 6), (.asg (.c (.str []))), none⟩]) (.seq (.seq (.rg [⟨(some 7), (.asg (.c (.int .i64 0))), none⟩]) (.blk 0 c_law14_AddrQuotes_l1)) (.seq (.rg [⟨(some 66), (.mv (.t 5)), none⟩, ⟨(some 67), (.bin .add (.c (.str [60, 34])) (.t 66)), none⟩, ⟨(some 68), (.bin .add (.t 67) (.c (.str [34, 64, 120, 46, 121, 62]))), none⟩, ⟨(some 69), (.call (.c (.fn 35 [])) [(.t 68)]), none⟩, ⟨(some 65), (.mv (.t 69)), none⟩, ⟨(some 70), (.ext (.t 65) 0), none⟩, ⟨(some 71), (.ext (.t 65) 1), none⟩, ⟨(some 9), (.alloc [(.str []), (.str [])]), none⟩, ⟨none, (.st (.t 9) (.t 70) 2), none⟩, ⟨(some 10), (.asg (.t 71)), none⟩]) (.seq (.rg [⟨(some 73), (.mv (.t 6)), none⟩, ⟨(some 74), (.build [(.str []), (.str [])] [(0, (1, (.t 73))), (1, (1, (.c (.str [120, 46, 121]))))]), none⟩, ⟨(some 75), (.call (.c (.fn 45 [])) [(.t 74)]), none⟩, ⟨(some 76), (.call (.c (.fn 35 [])) [(.t 75)]), none⟩, ⟨(some 72), (.mv (.t 76)), none⟩, ⟨(some 77), (.ext (.t 72) 0), none⟩, ⟨(some 78), (.ext (.t 72) 1), none⟩, ⟨(some 11), (.alloc [(.str []), (.str [])]), none⟩, ⟨none, (.st (.t 11) (.t 77) 2), none⟩, ⟨(some 12), (.asg (.t 78)), none⟩]) (.seq c_law14_AddrQuotes_p3 .ret)))))))))
def m_law14_AddrQuotes : ACode := (.seq (.rg [⟨(some 4), (.asg (.c (.bool false))), none⟩]) (.seq (.seq (.rg [⟨(some 13), (.call (.c (.fn 32 [])) []), none⟩, ⟨(some 14), (.un .not (.t 13)), none⟩]) (.cond (.t 14) (.seq (.rg [⟨(some 4), (.asg (.c (.bool false))), none⟩]) .ret) .skip)) (.seq (.seq (.sem c_law14_AddrQuotes_p1) (.cond (.t 22) (.seq (.rg [⟨(some 4), (.asg (.c (.bool true))), none⟩]) .ret) .skip)) (.seq (.rg [⟨(some 5), (.asg (.c (.str []))), none⟩]) (.seq (.rg [⟨(some 6), (.asg (.c (.str []))), none⟩]) (.seq (.seq (.rg [⟨(some 7), (.asg (.c (.int .i64 0))), none⟩]) (.blk 0 c_law14_AddrQuotes_l1)) (.seq (.rg [⟨(some 66), (.mv (.t 5)), none⟩, ⟨(some 67), (.bin .add (.c (.str [60, 34])) (.t 66)), none⟩, ⟨(some 68), (.bin .add (.t 67) (.c (.str [34, 64, 120, 46, 121, 62]))), none⟩, ⟨(some 69), (.call (.c (.fn 35 [])) [(.t 68)]), none⟩, ⟨(some 65), (.mv (.t 69)), none⟩, ⟨(some 70), (.ext (.t 65) 0), none⟩, ⟨(some 71), (.ext (.t 65) 1), none⟩, ⟨(some 9), (.alloc [(.str []), (.str [])]), none⟩, ⟨none, (.st (.t 9) (.t 70) 2), none⟩, ⟨(some 10), (.asg (.t 71)), none⟩]) (.seq (.rg [⟨(some 73), (.mv (.t 6)), none⟩, ⟨(some 74), (.build [(.str []), (.str [])] [(0, (1, (.t 73))), (1, (1, (.c (.str [120, 46, 121]))))]), none⟩, ⟨(some 75), (.call (.c (.fn 45 [])) [(.t 74)]), none⟩, ⟨(some 76), (.call (.c (.fn 35 [])) [(.t 75)]), none⟩, ⟨(some 72), (.mv (.t 76)), none⟩, ⟨(some 77), (.ext (.t 72) 0), none⟩, ⟨(some 78), (.ext (.t 72) 1), none⟩, ⟨(some 11), (.alloc [(.str []), (.str [])]), none⟩, ⟨none, (.st (.t 11) (.t 77) 2), none⟩, ⟨(some 12), (.asg (.t 78)), none⟩]) (.seq (.sem c_law14_AddrQuotes_p3) .ret)))))))))
theorem k_law14_AddrQuotes : FnOk Tryd.prog 11 94 [(.tmp 4)] c_law14_AddrQuotes := ⟨Tryd.f11, _, rfl, by decide, rfl, by kernel_rfl, rfl, rfl⟩
abbrev L_law14_AddrQuotes : List Nat := [0, 1, 4, 5, 6, 7, 8, 9, 10, 11, 12, 14, 22, 26, 57]
def law14_AddrQuotes_p2 (x7 : UInt8) (i6 : Int) (strokes2 : List Bool) : Option (Bool) :=
  (if (decide ((32 + (x7 % 95)) = 34)) then
    some true
  else
    (if (decide ((32 + (x7 % 95)) = 92)) then
      some true
    else
      (if (decide (i6 < (strokes2.length : Int))) then
        (idx strokes2 i6).bind fun x9 => some x9
      else
        some false)))
def law14_AddrQuotes_l1 (local1 : List UInt8) (strokes2 : List Bool) : ((List UInt8) × (List UInt8) × Int) → Option (St Bool ((List UInt8) × (List UInt8)) ((List UInt8) × (List UInt8) × Int))
  | (t4, l5, i6) =>
    (if (decide (i6 < (local1.length : Int))) then
      (idx local1 i6).bind fun x7 =>
      (cat l5 ([(32 + (x7 % 95))] : List UInt8)).bind fun x8 =>
      (law14_AddrQuotes_p2 x7 i6 strokes2).bind fun t11 =>
      (if t11 then
        (cat t4 ([92] : List UInt8)).bind fun x12 =>
        (cat x12 ([(32 + (x7 % 95))] : List UInt8)).bind fun x13 => some (.nxt (x13, x8, (IntKind.wrap .i64 (i6 + 1))))
      else
        (cat t4 ([(32 + (x7 % 95))] : List UInt8)).bind fun x14 => some (.nxt (x14, x8, (IntKind.wrap .i64 (i6 + 1)))))
    else
      some (.brk (t4, l5)))
def law14_AddrQuotes (F : Nat) (local1 : List UInt8) (strokes2 : List Bool) : Option (Bool) :=
  (law14_known F ).bind fun r3 =>
  (if (!r3) then
    some false
  else
    (if ((decide ((local1.length : Int) = 0)) || (decide (64 < (local1.length : Int)))) then
      some true
    else
      ((iter (law14_AddrQuotes_l1 local1 strokes2) F (([] : List UInt8), ([] : List UInt8), 0)).bind fun o28 =>
      match o28 with
      | .inr (t17, l18) =>
        (cat ([60, 34] : List UInt8) t17).bind fun x19 =>
        (cat x19 ([34, 64, 120, 46, 121, 62] : List UInt8)).bind fun x20 =>
        (addr_Parse F x20).bind fun (r21, r22) =>
        (addr_Print F (AddressV.mk l18 ([120, 46, 121] : List UInt8))).bind fun r23 =>
        (addr_Parse F r23).bind fun (r24, r25) =>
        some (((decide ((IntKind.wrap .i64 (r22 + r25)) = 0)) && (decide (r21.local0 = l18) && decide (r21.domain = ([120, 46, 121] : List UInt8)))) && (decide (r24.local0 = r21.local0) && decide (r24.domain = r21.domain)))
      | .inl _ => none)))
set_option maxHeartbeats 2000000 in
theorem law14_AddrQuotes_p1_ok {local1 : List UInt8} {strokes2 : List Bool} {H0 H : AH} (hfr : Fr H0 H0.length [] H) {K : Exit → Env → AH → Prop}
    (kn : ∀ H' : AH, Fr H0 H0.length [] H' → K .normal [(0, (.sl .n 1 (ml b8 local1))), (1, (.sl .n 1 (ml AV.bool strokes2))), (22, (.bool ((decide ((local1.length : Int) = 0)) || (decide (64 < (local1.length : Int))))))] H') :
    AX Tryd.prog L_law14_AddrQuotes 94 H0.length c_law14_AddrQuotes_p1 K [(0, (.sl .n 1 (ml b8 local1))), (1, (.sl .n 1 (ml AV.bool strokes2)))] H := by
  refine AX.go (m := m_law14_AddrQuotes_p1) rfl (by decide) fun K' hK => ?_
  have hle := hfr.le
  try simp (disch := first | assumption | omega | (simp only [h_sl, h_al] <;> omega) | fail) only [WW, WH, ↓reduceIte, Nat.reduceEqDiff, Nat.reduceLT, Nat.reduceLeDiff, Nat.reduceAdd, Nat.reduceSub, Nat.reduceMul, Nat.reduceBEq, reduceCtorEq, if_false, if_true, L_law14_AddrQuotes, m_law14_AddrQuotes_p1, c_law14_AddrQuotes_p1]
  rcases bcases ((decide ((local1.length : Int) = 0))) with hy3 | hy3
  · refine UG_nf hy3 ?_
    try simp (disch := first | assumption | omega | (simp only [h_sl, h_al] <;> omega) | fail) only [WW, WH, ↓reduceIte, Nat.reduceEqDiff, Nat.reduceLT, Nat.reduceLeDiff, Nat.reduceAdd, Nat.reduceSub, Nat.reduceMul, Nat.reduceBEq, reduceCtorEq, if_false, if_true, L_law14_AddrQuotes, hy3]
    refine hK _ _ _ _ _ ?_ (WxH.refl _) (kn _ hfr)
    exact WE.cons (Wx.nn) (WE.cons (Wx.nn) (WE.cons (Wx.boolE (by simp only [hy3, WB])) (WE.nil)))
  · refine UG_go hy3 ?_
    try simp (disch := first | assumption | omega | (simp only [h_sl, h_al] <;> omega) | fail) only [WW, WH, ↓reduceIte, Nat.reduceEqDiff, Nat.reduceLT, Nat.reduceLeDiff, Nat.reduceAdd, Nat.reduceSub, Nat.reduceMul, Nat.reduceBEq, reduceCtorEq, if_false, if_true, L_law14_AddrQuotes, hy3]
    refine hK _ _ _ _ _ ?_ (WxH.refl _) (kn _ hfr)
    exact WE.cons (Wx.nn) (WE.cons (Wx.nn) (WE.cons (Wx.boolE (by simp only [hy3, WB])) (WE.nil)))
set_option maxHeartbeats 2000000 in
theorem law14_AddrQuotes_p2_ok {x7 : UInt8} {i6 : Int} {strokes2 : List Bool} {local1 : List UInt8} {t4 : List UInt8} {x8 : List UInt8} {H0 H : AH} (hfr : Fr H0 H0.length [] H) {K : Exit → Env → AH → Prop} {t10 : Bool}
    (h : law14_AddrQuotes_p2 x7 i6 strokes2 = some t10)
    (kn : ∀ H' : AH, Fr H0 H0.length [] H' → K .normal [(0, (.sl .n 1 (ml b8 local1))), (1, (.sl .n 1 (ml AV.bool strokes2))), (5, (.str t4)), (6, (.str x8)), (7, (.int .i64 i6)), (8, (b8 (32 + (x7 % 95)))), (57, (.bool t10))] H') :
    AX Tryd.prog L_law14_AddrQuotes 94 H0.length c_law14_AddrQuotes_p2 K [(0, (.sl .n 1 (ml b8 local1))), (1, (.sl .n 1 (ml AV.bool strokes2))), (5, (.str t4)), (6, (.str x8)), (7, (.int .i64 i6)), (8, (b8 (32 + (x7 % 95))))] H := by
  refine AX.go (m := m_law14_AddrQuotes_p2) rfl (by decide) fun K' hK => ?_
  have hle := hfr.le
  rw [law14_AddrQuotes_p2.eq_1] at h
  try simp (disch := first | assumption | omega | (simp only [h_sl, h_al] <;> omega) | fail) only [WW, WH, ↓reduceIte, Nat.reduceEqDiff, Nat.reduceLT, Nat.reduceLeDiff, Nat.reduceAdd, Nat.reduceSub, Nat.reduceMul, Nat.reduceBEq, reduceCtorEq, if_false, if_true, L_law14_AddrQuotes, m_law14_AddrQuotes_p2, c_law14_AddrQuotes_p2]
  rcases ifb h with ⟨hy8, h⟩ | ⟨hy8, h⟩
  · refine UG_nf hy8 ?_
    try simp (disch := first | assumption | omega | (simp only [h_sl, h_al] <;> omega) | fail) only [WW, WH, ↓reduceIte, Nat.reduceEqDiff, Nat.reduceLT, Nat.reduceLeDiff, Nat.reduceAdd, Nat.reduceSub, Nat.reduceMul, Nat.reduceBEq, reduceCtorEq, if_false, if_true, L_law14_AddrQuotes, hy8]
    have hq := Option.some.inj h; subst hq
    refine hK _ _ _ _ _ ?_ (WxH.refl _) (kn _ hfr)
    exact WE.cons (Wx.nn) (WE.cons (Wx.nn) (WE.cons (Wx.str) (WE.cons (Wx.str) (WE.cons (Wx.int) (WE.cons (Wx.b8) (WE.cons (Wx.bool) (WE.nil)))))))
  · refine UG_go hy8 ?_
    try simp (disch := first | assumption | omega | (simp only [h_sl, h_al] <;> omega) | fail) only [WW, WH, ↓reduceIte, Nat.reduceEqDiff, Nat.reduceLT, Nat.reduceLeDiff, Nat.reduceAdd, Nat.reduceSub, Nat.reduceMul, Nat.reduceBEq, reduceCtorEq, if_false, if_true, L_law14_AddrQuotes, hy8]
    rcases ifb h with ⟨hy9, h⟩ | ⟨hy9, h⟩
    · refine UG_nf hy9 ?_
      try simp (disch := first | assumption | omega | (simp only [h_sl, h_al] <;> omega) | fail) only [WW, WH, ↓reduceIte, Nat.reduceEqDiff, Nat.reduceLT, Nat.reduceLeDiff, Nat.reduceAdd, Nat.reduceSub, Nat.reduceMul, Nat.reduceBEq, reduceCtorEq, if_false, if_true, L_law14_AddrQuotes, hy9]
      have hq := Option.some.inj h; subst hq
      refine hK _ _ _ _ _ ?_ (WxH.refl _) (kn _ hfr)
      exact WE.cons (Wx.nn) (WE.cons (Wx.nn) (WE.cons (Wx.str) (WE.cons (Wx.str) (WE.cons (Wx.int) (WE.cons (Wx.b8) (WE.cons (Wx.bool) (WE.nil)))))))
    · refine UG_go hy9 ?_
      try simp (disch := first | assumption | omega | (simp only [h_sl, h_al] <;> omega) | fail) only [WW, WH, ↓reduceIte, Nat.reduceEqDiff, Nat.reduceLT, Nat.reduceLeDiff, Nat.reduceAdd, Nat.reduceSub, Nat.reduceMul, Nat.reduceBEq, reduceCtorEq, if_false, if_true, L_law14_AddrQuotes, hy9]
      rcases ifb h with ⟨hy10, h⟩ | ⟨hy10, h⟩
      · refine UG_go hy10 ?_
        obtain ⟨x9, hy11, h⟩ := bnd' h
        try simp (disch := first | assumption | omega | (simp only [h_sl, h_al] <;> omega) | fail) only [WW, WH, ↓reduceIte, Nat.reduceEqDiff, Nat.reduceLT, Nat.reduceLeDiff, Nat.reduceAdd, Nat.reduceSub, Nat.reduceMul, Nat.reduceBEq, reduceCtorEq, if_false, if_true, L_law14_AddrQuotes, hy10, hy11]
        have hq := Option.some.inj h; subst hq
        refine hK _ _ _ _ _ ?_ (WxH.refl _) (kn _ hfr)
        exact WE.cons (Wx.nn) (WE.cons (Wx.nn) (WE.cons (Wx.str) (WE.cons (Wx.str) (WE.cons (Wx.int) (WE.cons (Wx.b8) (WE.cons (Wx.bool) (WE.nil)))))))
      · refine UG_nt hy10 ?_
        try simp (disch := first | assumption | omega | (simp only [h_sl, h_al] <;> omega) | fail) only [WW, WH, ↓reduceIte, Nat.reduceEqDiff, Nat.reduceLT, Nat.reduceLeDiff, Nat.reduceAdd, Nat.reduceSub, Nat.reduceMul, Nat.reduceBEq, reduceCtorEq, if_false, if_true, L_law14_AddrQuotes, hy10]
        have hq := Option.some.inj h; subst hq
        refine hK _ _ _ _ _ ?_ (WxH.refl _) (kn _ hfr)
        exact WE.cons (Wx.nn) (WE.cons (Wx.nn) (WE.cons (Wx.str) (WE.cons (Wx.str) (WE.cons (Wx.int) (WE.cons (Wx.b8) (WE.cons (Wx.bool) (WE.nil)))))))
set_option maxHeartbeats 2000000 in
theorem law14_AddrQuotes_l1_ok {F : Nat} {i6 : Int} {local1 : List UInt8} {l5 : List UInt8} {strokes2 : List Bool} {t4 : List UInt8} {H0 H : AH} (hfr : Fr H0 H0.length [] H) {K : Exit → Env → AH → Prop} {o : (Bool) ⊕ ((List UInt8) × (List UInt8))}
    (h : iter (law14_AddrQuotes_l1 local1 strokes2) F (t4, l5, i6) = some o)
    (kb0 : ∀ o' : (List UInt8) × (List UInt8), o = .inr o' → ∀ H' : AH, Fr H0 H0.length [] H' → K (.exit 0) [(5, (.str o'.1)), (6, (.str o'.2))] H') :
    AX Tryd.prog L_law14_AddrQuotes 94 H0.length c_law14_AddrQuotes_l1 K [(0, (.sl .n 1 (ml b8 local1))), (1, (.sl .n 1 (ml AV.bool strokes2))), (5, (.str t4)), (6, (.str l5)), (7, (.int .i64 i6))] H := by
  refine AX.iter (m := m_law14_AddrQuotes_l1b) rfl (by decide) (fun s e H1 => match s with | (t4, l5, i6) => e = [(0, (.sl .n 1 (ml b8 local1))), (1, (.sl .n 1 (ml AV.bool strokes2))), (5, (.str t4)), (6, (.str l5)), (7, (.int .i64 i6))] ∧ Fr H0 H0.length [] H1) h ⟨rfl, hfr⟩ ?_
  skip
  rintro K' ⟨t4, l5, i6⟩ st e H ⟨rfl, hfr⟩ h hN hB hR hX
  have hle := hfr.le
  rw [law14_AddrQuotes_l1.eq_1] at h
  try simp (disch := first | assumption | omega | (simp only [h_sl, h_al] <;> omega) | fail) only [WW, WH, ↓reduceIte, Nat.reduceEqDiff, Nat.reduceLT, Nat.reduceLeDiff, Nat.reduceAdd, Nat.reduceSub, Nat.reduceMul, Nat.reduceBEq, reduceCtorEq, if_false, if_true, L_law14_AddrQuotes, m_law14_AddrQuotes_l1b]
  rcases ifb h with ⟨hy5, h⟩ | ⟨hy5, h⟩
  · refine UC_t hy5 ?_
    obtain ⟨x7, hy6, h⟩ := bnd' h
    obtain ⟨x8, hy7, h⟩ := bnd' h
    try simp (disch := first | assumption | omega | (simp only [h_sl, h_al] <;> omega) | fail) only [WW, WH, ↓reduceIte, Nat.reduceEqDiff, Nat.reduceLT, Nat.reduceLeDiff, Nat.reduceAdd, Nat.reduceSub, Nat.reduceMul, Nat.reduceBEq, reduceCtorEq, if_false, if_true, L_law14_AddrQuotes, hy6, (show ((95 : UInt8) = 0) = False from by decide), hy7]
    obtain ⟨t11, hy12, h⟩ := bnd' h
    refine UX_of (AX.weak ?_ (WxH.refl _) (law14_AddrQuotes_p2_ok  (x7 := x7) (i6 := i6) (strokes2 := strokes2) (local1 := local1) (t4 := t4) (x8 := x8) (t10 := t11)  (hfr) hy12 ?_))
    · exact WE.cons (Wx.nn) (WE.cons (Wx.nn) (WE.cons (Wx.str) (WE.cons (Wx.str) (WE.cons (Wx.int) (WE.cons (Wx.b8) (WE.nil))))))
    intro H hfr
    have hle := hfr.le
    try simp (disch := first | assumption | omega | (simp only [h_sl, h_al] <;> omega) | fail) only [WW, WH, ↓reduceIte, Nat.reduceEqDiff, Nat.reduceLT, Nat.reduceLeDiff, Nat.reduceAdd, Nat.reduceSub, Nat.reduceMul, Nat.reduceBEq, reduceCtorEq, if_false, if_true, L_law14_AddrQuotes]
    rcases ifb h with ⟨hy13, h⟩ | ⟨hy13, h⟩
    · refine UC_t hy13 ?_
      obtain ⟨x12, hy14, h⟩ := bnd' h
      obtain ⟨x13, hy15, h⟩ := bnd' h
      try simp (disch := first | assumption | omega | (simp only [h_sl, h_al] <;> omega) | fail) only [WW, WH, ↓reduceIte, Nat.reduceEqDiff, Nat.reduceLT, Nat.reduceLeDiff, Nat.reduceAdd, Nat.reduceSub, Nat.reduceMul, Nat.reduceBEq, reduceCtorEq, if_false, if_true, L_law14_AddrQuotes, hy14, hy15]
      have hq := Option.some.inj h; subst hq
      refine hN _ rfl _ _ _ _ ?_ (WxH.refl _) ⟨rfl, hfr⟩
      exact WE.cons (Wx.nn) (WE.cons (Wx.nn) (WE.cons (Wx.str) (WE.cons (Wx.str) (WE.cons (Wx.int) (WE.nil)))))
    · refine UC_f hy13 ?_
      obtain ⟨x14, hy16, h⟩ := bnd' h
      try simp (disch := first | assumption | omega | (simp only [h_sl, h_al] <;> omega) | fail) only [WW, WH, ↓reduceIte, Nat.reduceEqDiff, Nat.reduceLT, Nat.reduceLeDiff, Nat.reduceAdd, Nat.reduceSub, Nat.reduceMul, Nat.reduceBEq, reduceCtorEq, if_false, if_true, L_law14_AddrQuotes, hy16]
      have hq := Option.some.inj h; subst hq
      refine hN _ rfl _ _ _ _ ?_ (WxH.refl _) ⟨rfl, hfr⟩
      exact WE.cons (Wx.nn) (WE.cons (Wx.nn) (WE.cons (Wx.str) (WE.cons (Wx.str) (WE.cons (Wx.int) (WE.nil)))))
  · refine UC_f hy5 ?_
    try simp (disch := first | assumption | omega | (simp only [h_sl, h_al] <;> omega) | fail) only [WW, WH, ↓reduceIte, Nat.reduceEqDiff, Nat.reduceLT, Nat.reduceLeDiff, Nat.reduceAdd, Nat.reduceSub, Nat.reduceMul, Nat.reduceBEq, reduceCtorEq, if_false, if_true, L_law14_AddrQuotes]
    have hq := Option.some.inj h; subst hq
    refine hX _ _ _ _ _ (by simp) ?_ (WxH.refl _) (kb0 _ (hB _ rfl) _ hfr)
    exact WE.cons (Wx.str) (WE.cons (Wx.str) (WE.nil))
set_option maxHeartbeats 2000000 in
theorem law14_AddrQuotes_p3_ok {l18 : List UInt8} {q26 : Nat} {r22 : Int} {q27 : Nat} {r25 : Int} {r21 : AddressV} {r24 : AddressV} {H0 H : AH} (hfr : Fr H0 H0.length [] H) (hs_o1 : H[q26]? = some [(.str r21.local0), (.str r21.domain)]) (hs_o2 : H[q27]? = some [(.str r24.local0), (.str r24.domain)]) (hi0 : H0.length ≤ q26) (hi1 : H0.length ≤ q27) (hi2 : q26 ≠ q27) {K : Exit → Env → AH → Prop}
    (kn : ∀ H' : AH, Fr H0 H0.length [] H' → H'[q26]? = some [(.str r21.local0), (.str r21.domain)] → H'[q27]? = some [(.str r24.local0), (.str r24.domain)] → K .normal [(4, (.bool (((decide ((IntKind.wrap .i64 (r22 + r25)) = 0)) && (decide (r21.local0 = l18) && decide (r21.domain = ([120, 46, 121] : List UInt8)))) && (decide (r24.local0 = r21.local0) && decide (r24.domain = r21.domain)))))] H') :
    AX Tryd.prog L_law14_AddrQuotes 94 H0.length c_law14_AddrQuotes_p3 K [(6, (.str l18)), (9, (.ptr q26 0)), (10, (.int .i64 r22)), (11, (.ptr q27 0)), (12, (.int .i64 r25))] H := by
  refine AX.go (m := m_law14_AddrQuotes_p3) rfl (by decide) fun K' hK => ?_
  have hle := hfr.le
  have hl_o1 := h_lt hs_o1
  have hl_o2 := h_lt hs_o2
  try simp (disch := first | assumption | omega | (simp only [h_sl, h_al] <;> omega) | fail) only [WW, WH, ↓reduceIte, Nat.reduceEqDiff, Nat.reduceLT, Nat.reduceLeDiff, Nat.reduceAdd, Nat.reduceSub, Nat.reduceMul, Nat.reduceBEq, reduceCtorEq, if_false, if_true, L_law14_AddrQuotes, m_law14_AddrQuotes_p3, c_law14_AddrQuotes_p3, hs_o1, hs_o2]
  rcases bcases ((decide ((IntKind.wrap .i64 (r22 + r25)) = 0))) with hy23 | hy23
  · refine UG_go hy23 ?_
    try simp (disch := first | assumption | omega | (simp only [h_sl, h_al] <;> omega) | fail) only [WW, WH, ↓reduceIte, Nat.reduceEqDiff, Nat.reduceLT, Nat.reduceLeDiff, Nat.reduceAdd, Nat.reduceSub, Nat.reduceMul, Nat.reduceBEq, reduceCtorEq, if_false, if_true, L_law14_AddrQuotes, hy23, hs_o1, hs_o2]
    rcases bcases ((decide (r21.local0 = l18) && decide (r21.domain = ([120, 46, 121] : List UInt8)))) with hy24 | hy24
    · refine UG_go hy24 ?_
      try simp (disch := first | assumption | omega | (simp only [h_sl, h_al] <;> omega) | fail) only [WW, WH, ↓reduceIte, Nat.reduceEqDiff, Nat.reduceLT, Nat.reduceLeDiff, Nat.reduceAdd, Nat.reduceSub, Nat.reduceMul, Nat.reduceBEq, reduceCtorEq, if_false, if_true, L_law14_AddrQuotes, hy24, hs_o1, hs_o2]
      refine hK _ _ _ _ _ ?_ (WxH.refl _) (kn _ hfr ((hs_o1).trans rfl) ((hs_o2).trans rfl))
      exact WE.cons (Wx.boolE (by first | (simp only [hy23, hy24, WB]; done) | (try rw [hy23]; try rw [hy24]; try simp only [WB]))) (WE.nil)
    · refine UG_nt hy24 ?_
      try simp (disch := first | assumption | omega | (simp only [h_sl, h_al] <;> omega) | fail) only [WW, WH, ↓reduceIte, Nat.reduceEqDiff, Nat.reduceLT, Nat.reduceLeDiff, Nat.reduceAdd, Nat.reduceSub, Nat.reduceMul, Nat.reduceBEq, reduceCtorEq, if_false, if_true, L_law14_AddrQuotes, hy24, hs_o1, hs_o2]
      refine hK _ _ _ _ _ ?_ (WxH.refl _) (kn _ hfr ((hs_o1).trans rfl) ((hs_o2).trans rfl))
      exact WE.cons (Wx.boolE (by first | (simp only [hy23, hy24, WB]; done) | (try rw [hy23]; try rw [hy24]; try simp only [WB]))) (WE.nil)
  · refine UG_nt hy23 ?_
    try simp (disch := first | assumption | omega | (simp only [h_sl, h_al] <;> omega) | fail) only [WW, WH, ↓reduceIte, Nat.reduceEqDiff, Nat.reduceLT, Nat.reduceLeDiff, Nat.reduceAdd, Nat.reduceSub, Nat.reduceMul, Nat.reduceBEq, reduceCtorEq, if_false, if_true, L_law14_AddrQuotes, hy23, hs_o1, hs_o2]
    refine hK _ _ _ _ _ ?_ (WxH.refl _) (kn _ hfr ((hs_o1).trans rfl) ((hs_o2).trans rfl))
    exact WE.cons (Wx.boolE (by simp only [hy23, WB])) (WE.nil)
set_option maxHeartbeats 2000000 in
theorem law14_AddrQuotes_ok {F : Nat} {local1 : List UInt8} {strokes2 : List Bool}  {H0 : AH}  {rz0 : Bool} (h : law14_AddrQuotes F local1 strokes2 = some rz0) :
    ACalls Tryd.prog 11 [(.sl .n 1 (ml b8 local1)), (.sl .n 1 (ml AV.bool strokes2))] H0 fun v H' => v = (.bool rz0) ∧ H' = H0 := by
  refine ACalls.goX k_law14_AddrQuotes (m := m_law14_AddrQuotes) rfl L_law14_AddrQuotes (by decide) (by simp) fun hcl K0 hK0 => ?_
  refine AX.of_U (m := m_law14_AddrQuotes) rfl (by decide) ?_
  have hfr := Fr.refl H0 []
  have hle := hfr.le
  rw [law14_AddrQuotes.eq_1] at h
  obtain ⟨H, hHH⟩ : ∃ H, H = H0 := ⟨_, rfl⟩
  have hfr : Fr H0 H0.length [] H := hHH ▸ hfr
  have hle := hfr.le
  suffices hU : U Tryd.prog L_law14_AddrQuotes 94 H0.length [.code m_law14_AddrQuotes] K0 .normal (argE 0 [(.sl .n 1 (ml b8 local1)), (.sl .n 1 (ml AV.bool strokes2))]) H by rwa [hHH] at hU
  try simp (disch := first | assumption | omega | (simp only [h_sl, h_al] <;> omega) | fail) only [WW, WH, ↓reduceIte, Nat.reduceEqDiff, Nat.reduceLT, Nat.reduceLeDiff, Nat.reduceAdd, Nat.reduceSub, Nat.reduceMul, Nat.reduceBEq, reduceCtorEq, if_false, if_true, L_law14_AddrQuotes, m_law14_AddrQuotes]
  obtain ⟨r3, hy1, h⟩ := bnd' h
  refine UK_e (as' := []) (h := law14_known_ok  (F := F)  hy1) (hw := WL.nil) (hh := WxH.refl _) ?_
  try simp (disch := first | assumption | omega | (simp only [h_sl, h_al] <;> omega) | fail) only [WW, WH, ↓reduceIte, Nat.reduceEqDiff, Nat.reduceLT, Nat.reduceLeDiff, Nat.reduceAdd, Nat.reduceSub, Nat.reduceMul, Nat.reduceBEq, reduceCtorEq, if_false, if_true, L_law14_AddrQuotes]
  rcases ifb h with ⟨hy2, h⟩ | ⟨hy2, h⟩
  · refine UC_t hy2 ?_
    try simp (disch := first | assumption | omega | (simp only [h_sl, h_al] <;> omega) | fail) only [WW, WH, ↓reduceIte, Nat.reduceEqDiff, Nat.reduceLT, Nat.reduceLeDiff, Nat.reduceAdd, Nat.reduceSub, Nat.reduceMul, Nat.reduceBEq, reduceCtorEq, if_false, if_true, L_law14_AddrQuotes]
    have hq := Option.some.inj h; subst hq
    refine hK0 _ _ _ (.inr rfl) ?_
    exact fn_end0 (by exact hfr) hcl (resv_tmp (a := (.bool false)) rfl rfl resv_nil) (by first | (simp [fin, b_df, b_sh, b_sh1, b_Cl]; done) | (simp [fin, AV.df, AV.sh, AV.sh1, b_df, b_sh, b_sh1, b_Cl]; done)) (Wx.bool) (r' := (.bool false)) ⟨rfl, rfl⟩
  · refine UC_f hy2 ?_
    try simp (disch := first | assumption | omega | (simp only [h_sl, h_al] <;> omega) | fail) only [WW, WH, ↓reduceIte, Nat.reduceEqDiff, Nat.reduceLT, Nat.reduceLeDiff, Nat.reduceAdd, Nat.reduceSub, Nat.reduceMul, Nat.reduceBEq, reduceCtorEq, if_false, if_true, L_law14_AddrQuotes]
    refine UX_of (AX.weak ?_ (WxH.refl _) (law14_AddrQuotes_p1_ok (local1 := local1) (strokes2 := strokes2) (hfr) ?_))
    · exact WE.cons (Wx.nn) (WE.cons (Wx.nn) (WE.nil))
    intro H hfr 
    have hle := hfr.le
    try simp (disch := first | assumption | omega | (simp only [h_sl, h_al] <;> omega) | fail) only [WW, WH, ↓reduceIte, Nat.reduceEqDiff, Nat.reduceLT, Nat.reduceLeDiff, Nat.reduceAdd, Nat.reduceSub, Nat.reduceMul, Nat.reduceBEq, reduceCtorEq, if_false, if_true, L_law14_AddrQuotes]
    rcases ifb h with ⟨hy4, h⟩ | ⟨hy4, h⟩
    · refine UC_t hy4 ?_
      try simp (disch := first | assumption | omega | (simp only [h_sl, h_al] <;> omega) | fail) only [WW, WH, ↓reduceIte, Nat.reduceEqDiff, Nat.reduceLT, Nat.reduceLeDiff, Nat.reduceAdd, Nat.reduceSub, Nat.reduceMul, Nat.reduceBEq, reduceCtorEq, if_false, if_true, L_law14_AddrQuotes]
      have hq := Option.some.inj h; subst hq
      refine hK0 _ _ _ (.inr rfl) ?_
      exact fn_end0 (by exact hfr) hcl (resv_tmp (a := (.bool true)) rfl rfl resv_nil) (by first | (simp [fin, b_df, b_sh, b_sh1, b_Cl]; done) | (simp [fin, AV.df, AV.sh, AV.sh1, b_df, b_sh, b_sh1, b_Cl]; done)) (Wx.bool) (r' := (.bool true)) ⟨rfl, rfl⟩
    · refine UC_f hy4 ?_
      try simp (disch := first | assumption | omega | (simp only [h_sl, h_al] <;> omega) | fail) only [WW, WH, ↓reduceIte, Nat.reduceEqDiff, Nat.reduceLT, Nat.reduceLeDiff, Nat.reduceAdd, Nat.reduceSub, Nat.reduceMul, Nat.reduceBEq, reduceCtorEq, if_false, if_true, L_law14_AddrQuotes]
      obtain ⟨o28, hy17, h⟩ := bnd' h
      refine UX_of (AX.weak ?_ (WxH.refl _) (law14_AddrQuotes_l1_ok  (local1 := local1) (strokes2 := strokes2) (t4 := ([] : List UInt8)) (l5 := ([] : List UInt8)) (i6 := 0)  (hfr) (o := o28) hy17 ?_))
      · exact WE.cons (Wx.nn) (WE.cons (Wx.nn) (WE.cons (Wx.str) (WE.cons (Wx.str) (WE.cons (Wx.int) (WE.nil)))))
      · rintro ⟨t17, l18⟩ rfl H hfr
        try dsimp only at h 
        have hle := hfr.le
        obtain ⟨x19, hy18, h⟩ := bnd' h
        obtain ⟨x20, hy19, h⟩ := bnd' h
        try simp (disch := first | assumption | omega | (simp only [h_sl, h_al] <;> omega) | fail) only [WW, WH, ↓reduceIte, Nat.reduceEqDiff, Nat.reduceLT, Nat.reduceLeDiff, Nat.reduceAdd, Nat.reduceSub, Nat.reduceMul, Nat.reduceBEq, reduceCtorEq, if_false, if_true, L_law14_AddrQuotes, hy18, hy19]
        obtain ⟨⟨r21, r22⟩, hy20, h⟩ := bnd' h
        dsimp only at h
        refine UK_e (as' := [(.str x20)]) (h := addr_Parse_ok (s1 := x20) (F := F)  hy20) (hw := WL.cons (Wx.str) (WL.nil)) (hh := WxH.refl _) ?_
        try simp (disch := first | assumption | omega | (simp only [h_sl, h_al] <;> omega) | fail) only [WW, WH, ↓reduceIte, Nat.reduceEqDiff, Nat.reduceLT, Nat.reduceLeDiff, Nat.reduceAdd, Nat.reduceSub, Nat.reduceMul, Nat.reduceBEq, reduceCtorEq, if_false, if_true, L_law14_AddrQuotes]
        obtain ⟨r23, hy21, h⟩ := bnd' h
        refine UK_e (as' := [(.agg [(.str l18), (.str ([120, 46, 121] : List UInt8))])]) (h := addr_Print_ok (a1 := (AddressV.mk l18 ([120, 46, 121] : List UInt8))) (F := F)  hy21) (hw := WL.cons (Wx.agg (W1L.same (W1L.same (W1L.nil)))) (WL.nil)) (hh := WxH.refl _) ?_
        try simp (disch := first | assumption | omega | (simp only [h_sl, h_al] <;> omega) | fail) only [WW, WH, ↓reduceIte, Nat.reduceEqDiff, Nat.reduceLT, Nat.reduceLeDiff, Nat.reduceAdd, Nat.reduceSub, Nat.reduceMul, Nat.reduceBEq, reduceCtorEq, if_false, if_true, L_law14_AddrQuotes]
        obtain ⟨⟨r24, r25⟩, hy22, h⟩ := bnd' h
        dsimp only at h
        refine UK_e (as' := [(.str r23)]) (h := addr_Parse_ok (s1 := r23) (F := F)  hy22) (hw := WL.cons (Wx.str) (WL.nil)) (hh := WxH.refl _) ?_
        try simp (disch := first | assumption | omega | (simp only [h_sl, h_al] <;> omega) | fail) only [WW, WH, ↓reduceIte, Nat.reduceEqDiff, Nat.reduceLT, Nat.reduceLeDiff, Nat.reduceAdd, Nat.reduceSub, Nat.reduceMul, Nat.reduceBEq, reduceCtorEq, if_false, if_true, L_law14_AddrQuotes]
        obtain ⟨q27, hg_q27⟩ : ∃ q : Nat, (H.length + 1) = q := ⟨_, rfl⟩
        try rw [hg_q27]
        obtain ⟨q26, hg_q26⟩ : ∃ q : Nat, H.length = q := ⟨_, rfl⟩
        try rw [hg_q26]
        try rw [show q26 + 1 = q27 from by omega]
        refine UX_of (AX.weak ?_ (WxH.refl _) (law14_AddrQuotes_p3_ok (l18 := l18) (q26 := q26) (r22 := r22) (q27 := q27) (r25 := r25) (r21 := r21) (r24 := r24) ((Fr.set (s := q27) (Fr.app (Fr.set (s := q26) (Fr.app hfr) (.inr (by first | assumption | omega | (simp only [h_sl, h_al] <;> omega) | fail)))) (.inr (by first | assumption | omega | (simp only [h_sl, h_al] <;> omega) | fail)))) (((h_ne (by first | assumption | omega | (simp only [h_sl, h_al] <;> omega) | fail)).trans ((h_app (by first | assumption | omega | (simp only [h_sl, h_al] <;> omega) | fail)).trans (h_eq (by first | assumption | omega | (simp only [h_sl, h_al] <;> omega) | fail)))).trans rfl) ((h_eq (by first | assumption | omega | (simp only [h_sl, h_al] <;> omega) | fail)).trans rfl) (by first | assumption | omega | (simp only [h_sl, h_al] <;> omega) | fail) (by first | assumption | omega | (simp only [h_sl, h_al] <;> omega) | fail) (by first | assumption | omega | (simp only [h_sl, h_al] <;> omega) | fail) ?_))
        · exact WE.cons (Wx.str) (WE.cons (Wx.ptr) (WE.cons (Wx.int) (WE.cons (Wx.ptr) (WE.cons (Wx.int) (WE.nil)))))
        intro H hfr hs_o1 hs_o2
        have hle := hfr.le
        have hl_o1 := h_lt hs_o1
        have hl_o2 := h_lt hs_o2
        try simp (disch := first | assumption | omega | (simp only [h_sl, h_al] <;> omega) | fail) only [WW, WH, ↓reduceIte, Nat.reduceEqDiff, Nat.reduceLT, Nat.reduceLeDiff, Nat.reduceAdd, Nat.reduceSub, Nat.reduceMul, Nat.reduceBEq, reduceCtorEq, if_false, if_true, L_law14_AddrQuotes, hs_o1, hs_o2]
        have hq := Option.some.inj h; subst hq
        refine hK0 _ _ _ (.inr rfl) ?_
        exact fn_end0 (by exact hfr) hcl (resv_tmp (a := (.bool (((decide ((IntKind.wrap .i64 (r22 + r25)) = 0)) && (decide (r21.local0 = l18) && decide (r21.domain = ([120, 46, 121] : List UInt8)))) && (decide (r24.local0 = r21.local0) && decide (r24.domain = r21.domain))))) rfl rfl resv_nil) (by first | (simp [fin, b_df, b_sh, b_sh1, b_Cl]; done) | (simp [fin, AV.df, AV.sh, AV.sh1, b_df, b_sh, b_sh1, b_Cl]; done)) (Wx.bool) (r' := (.bool (((decide ((IntKind.wrap .i64 (r22 + r25)) = 0)) && (decide (r21.local0 = l18) && decide (r21.domain = ([120, 46, 121] : List UInt8)))) && (decide (r24.local0 = r21.local0) && decide (r24.domain = r21.domain))))) ⟨rfl, rfl⟩

end Go.Proofs.AddrS
