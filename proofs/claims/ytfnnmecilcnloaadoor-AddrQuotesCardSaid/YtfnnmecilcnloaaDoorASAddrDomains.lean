import Derived.Test.YtfnnmecilcnloaaDoorAS3
set_option linter.unusedSimpArgs false
set_option linter.unusedVariables false
set_option linter.unusedSectionVars false
set_option linter.defProp false
set_option maxRecDepth 100000
namespace Go.Proofs.AddrS
open Go Go.Am Go.Proofs

/-! ### mailbag/mailbaglaw14.AddrDomains -/
def c_law14_AddrDomains_p1 : ACode := (.rg [⟨(some 9), (.mv (.t 0)), none⟩, ⟨(some 10), (.len (.t 9)), none⟩, ⟨(some 11), (.bin .eql (.t 10) (.c (.int .i64 0))), none⟩, ⟨(some 12), (.mv (.t 11)), none⟩, ⟨(some 13), (.mv (.t 0)), (some (12, false))⟩, ⟨(some 14), (.len (.t 13)), (some (12, false))⟩, ⟨(some 15), (.bin .gtr (.t 14) (.c (.int .i64 60))), (some (12, false))⟩, ⟨(some 16), (.pick (.t 12) (.c (.bool true)) (.t 15)), none⟩])
abbrev m_law14_AddrDomains_p1 := c_law14_AddrDomains_p1
def c_law14_AddrDomains_p2 : ACode := (.rg [⟨(some 23), (.mv (.t 6)), none⟩, ⟨(some 24), (.mv (.t 0)), none⟩, ⟨(some 25), (.mv (.t 4)), none⟩, ⟨(some 26), (.ixa 1 (.t 24) (.t 25)), none⟩, ⟨(some 27), (.ld (.t 26) none), none⟩, ⟨(some 28), (.lens (.t 27)), none⟩, ⟨(some 29), (.bin .lss (.t 23) (.t 28)), none⟩, ⟨(some 30), (.mv (.t 29)), none⟩, ⟨(some 31), (.mv (.t 6)), (some (30, true))⟩, ⟨(some 32), (.bin .lss (.t 31) (.c (.int .i64 63))), (some (30, true))⟩, ⟨(some 33), (.pick (.t 30) (.t 32) (.c (.bool false))), none⟩])
abbrev m_law14_AddrDomains_p2 := c_law14_AddrDomains_p2
def c_law14_AddrDomains_l1b : ACode := (.seq (.seq c_law14_AddrDomains_p2 (.cond (.t 33) .skip (.exit 2))) (.seq (.blk 3 (.rg [⟨(some 36), (.mv (.t 5)), none⟩, ⟨(some 37), (.mv (.t 0)), none⟩, ⟨(some 38), (.mv (.t 4)), none⟩, ⟨(some 39), (.ixa 1 (.t 37) (.t 38)), none⟩, ⟨(some 40), (.ld (.t 39) none), none⟩, ⟨(some 41), (.mv (.t 6)), none⟩, ⟨(some 42), (.ixs (.t 40) (.t 41)), none⟩, ⟨(some 43), (.bin .rem (.t 42) (.c (b8 9))), none⟩, ⟨(some 44), (.ixs (.c (.str [97, 98, 99, 88, 89, 90, 48, 49, 57])) (.t 43)), none⟩, ⟨(some 45), (.bsl 1 [(.t 44)]), none⟩, ⟨(some 46), (.cvt .bs (.t 45)), none⟩, ⟨(some 47), (.bin .add (.t 36) (.t 46)), none⟩, ⟨(some 5), (.asg (.t 47)), none⟩])) (.rg [⟨(some 34), (.mv (.t 6)), none⟩, ⟨(some 35), (.bin .add (.t 34) (.c (.int .i64 1))), none⟩, ⟨(some 6), (.asg (.t 35)), none⟩])))
def c_law14_AddrDomains_l1 : ACode := (.loop c_law14_AddrDomains_l1b)
def m_law14_AddrDomains_l1b : ACode := (.seq (.seq (.sem c_law14_AddrDomains_p2) (.cond (.t 33) .skip (.exit 2))) (.seq (.blk 3 (.rg [⟨(some 36), (.mv (.t 5)), none⟩, ⟨(some 37), (.mv (.t 0)), none⟩, ⟨(some 38), (.mv (.t 4)), none⟩, ⟨(some 39), (.ixa 1 (.t 37) (.t 38)), none⟩, ⟨(some 40), (.ld (.t 39) none), none⟩, ⟨(some 41), (.mv (.t 6)), none⟩, ⟨(some 42), (.ixs (.t 40) (.t 41)), none⟩, ⟨(some 43), (.bin .rem (.t 42) (.c (b8 9))), none⟩, ⟨(some 44), (.ixs (.c (.str [97, 98, 99, 88, 89, 90, 48, 49, 57])) (.t 43)), none⟩, ⟨(some 45), (.bsl 1 [(.t 44)]), none⟩, ⟨(some 46), (.cvt .bs (.t 45)), none⟩, ⟨(some 47), (.bin .add (.t 36) (.t 46)), none⟩, ⟨(some 5), (.asg (.t 47)), none⟩])) (.rg [⟨(some 34), (.mv (.t 6)), none⟩, ⟨(some 35), (.bin .add (.t 34) (.c (.int .i64 1))), none⟩, ⟨(some 6), (.asg (.t 35)), none⟩])))
def c_law14_AddrDomains_p3 : ACode := (.cond (.t 49) (.rg [⟨(some 5), (.asg (.c (.str [113]))), none⟩]) .skip)
abbrev m_law14_AddrDomains_p3 := c_law14_AddrDomains_p3
def c_law14_AddrDomains_l2b : ACode := (.seq (.seq (.rg [⟨(some 17), (.mv (.t 4)), none⟩, ⟨(some 18), (.mv (.t 0)), none⟩, ⟨(some 19), (.len (.t 18)), none⟩, ⟨(some 20), (.bin .lss (.t 17) (.t 19)), none⟩]) (.cond (.t 20) .skip (.exit 0))) (.seq (.blk 1 (.seq (.rg [⟨(some 5), (.asg (.c (.str []))), none⟩]) (.seq (.seq (.rg [⟨(some 6), (.asg (.c (.int .i64 0))), none⟩]) (.blk 2 c_law14_AddrDomains_l1)) (.seq (.seq (.rg [⟨(some 48), (.mv (.t 5)), none⟩, ⟨(some 49), (.bin .eql (.t 48) (.c (.str []))), none⟩]) c_law14_AddrDomains_p3) (.seq (.seq (.rg [⟨(some 50), (.mv (.t 4)), none⟩, ⟨(some 51), (.bin .gtr (.t 50) (.c (.int .i64 0))), none⟩]) (.cond (.t 51) (.rg [⟨(some 52), (.mv (.t 3)), none⟩, ⟨(some 53), (.bin .add (.t 52) (.c (.str [46]))), none⟩, ⟨(some 3), (.asg (.t 53)), none⟩]) .skip)) (.rg [⟨(some 54), (.mv (.t 3)), none⟩, ⟨(some 55), (.mv (.t 5)), none⟩, ⟨(some 56), (.bin .add (.t 54) (.t 55)), none⟩, ⟨(some 3), (.asg (.t 56)), none⟩])))))) (.rg [⟨(some 21), (.mv (.t 4)), none⟩, ⟨(some 22), (.bin .add (.t 21) (.c (.int .i64 1))), none⟩, ⟨(some 4), (.asg (.t 22)), none⟩])))
def c_law14_AddrDomains_l2 : ACode := (.loop c_law14_AddrDomains_l2b)
def m_law14_AddrDomains_l2b : ACode := (.seq (.seq (.rg [⟨(some 17), (.mv (.t 4)), none⟩, ⟨(some 18), (.mv (.t 0)), none⟩, ⟨(some 19), (.len (.t 18)), none⟩, ⟨(some 20), (.bin .lss (.t 17) (.t 19)), none⟩]) (.cond (.t 20) .skip (.exit 0))) (.seq (.blk 1 (.seq (.rg [⟨(some 5), (.asg (.c (.str []))), none⟩]) (.seq (.seq (.rg [⟨(some 6), (.asg (.c (.int .i64 0))), none⟩]) (.blk 2 c_law14_AddrDomains_l1)) (.seq (.seq (.rg [⟨(some 48), (.mv (.t 5)), none⟩, ⟨(some 49), (.bin .eql (.t 48) (.c (.str []))), none⟩]) (.sem c_law14_AddrDomains_p3)) (.seq (.seq (.rg [⟨(some 50), (.mv (.t 4)), none⟩, ⟨(some 51), (.bin .gtr (.t 50) (.c (.int .i64 0))), none⟩]) (.cond (.t 51) (.rg [⟨(some 52), (.mv (.t 3)), none⟩, ⟨(some 53), (.bin .add (.t 52) (.c (.str [46]))), none⟩, ⟨(some 3), (.asg (.t 53)), none⟩]) .skip)) (.rg [⟨(some 54), (.mv (.t 3)), none⟩, ⟨(some 55), (.mv (.t 5)), none⟩, ⟨(some 56), (.bin .add (.t 54) (.t 55)), none⟩, ⟨(some 3), (.asg (.t 56)), none⟩])))))) (.rg [⟨(some 21), (.mv (.t 4)), none⟩, ⟨(some 22), (.bin .add (.t 21) (.c (.int .i64 1))), none⟩, ⟨(some 4), (.asg (.t 22)), none⟩])))
def c_law14_AddrDomains_p4 : ACode := (.rg [⟨(some 57), (.mv (.t 3)), none⟩, ⟨(some 58), (.call (.c (.fn 37 [])) [(.t 57)]), none⟩, ⟨(some 59), (.mv (.t 3)), none⟩, ⟨(some 60), (.lens (.t 59)), none⟩, ⟨(some 61), (.bin .leq (.t 60) (.c (.int .i64 255))), none⟩, ⟨(some 62), (.bq false (.t 58) (.t 61)), none⟩, ⟨(some 63), (.mv (.t 62)), none⟩, ⟨(some 64), (.mv (.t 3)), (some (63, true))⟩, ⟨(some 65), (.bin .add (.t 64) (.c (.str [46]))), (some (63, true))⟩, ⟨(some 66), (.call (.c (.fn 37 [])) [(.t 65)]), (some (63, true))⟩, ⟨(some 67), (.un .not (.t 66)), (some (63, true))⟩, ⟨(some 68), (.pick (.t 63) (.t 67) (.c (.bool false))), none⟩, ⟨(some 69), (.mv (.t 68)), none⟩, ⟨(some 70), (.mv (.t 3)), (some (69, true))⟩, ⟨(some 71), (.bin .add (.c (.str [46])) (.t 70)), (some (69, true))⟩, ⟨(some 72), (.call (.c (.fn 37 [])) [(.t 71)]), (some (69, true))⟩, ⟨(some 73), (.un .not (.t 72)), (some (69, true))⟩, ⟨(some 74), (.pick (.t 69) (.t 73) (.c (.bool false))), none⟩, ⟨(some 75), (.mv (.t 74)), none⟩, ⟨(some 76), (.mv (.t 3)), (some (75, true))⟩, ⟨(some 77), (.bin .add (.t 76) (.c (.str [46, 46, 97]))), (some (75, true))⟩, ⟨(some 78), (.call (.c (.fn 37 [])) [(.t 77)]), (some (75, true))⟩, ⟨(some 79), (.un .not (.t 78)), (some (75, true))⟩, ⟨(some 80), (.pick (.t 75) (.t 79) (.c (.bool false))), none⟩, ⟨(some 81), (.mv (.t 80)), none⟩, ⟨(some 82), (.mv (.t 3)), (some (81, true))⟩, ⟨(some 83), (.bin .add (.c (.str [91])) (.t 82)), (some (81, true))⟩, ⟨(some 84), (.call (.c (.fn 37 [])) [(.t 83)]), (some (81, true))⟩, ⟨(some 85), (.un .not (.t 84)), (some (81, true))⟩, ⟨(some 86), (.pick (.t 81) (.t 85) (.c (.bool false))), none⟩, ⟨(some 87), (.mv (.t 86)), none⟩, ⟨(some 88), (.mv (.t 3)), (some (87, true))⟩, ⟨(some 89), (.bin .add (.t 88) (.c (.str [45]))), (some (87, true))⟩, ⟨(some 90), (.call (.c (.fn 37 [])) [(.t 89)]), (some (87, true))⟩, ⟨(some 91), (.un .not (.t 90)), (some (87, true))⟩, ⟨(some 92), (.pick (.t 87) (.t 91) (.c (.bool false))), none⟩, ⟨(some 2), (.asg (.t 92)), none⟩])
abbrev m_law14_AddrDomains_p4 := c_law14_AddrDomains_p4
def c_law14_AddrDomains : ACode := (.seq (.rg [⟨(some 2), (.asg (.c (.bool false))), none⟩]) (.seq (.seq (.rg [⟨(some 7), (.call (.c (.fn 32 [])) []), none⟩, ⟨(some 8), (.un .not (.t 7)), none⟩]) (.cond (.t 8) (.seq (.rg [⟨(some 2), (.asg (.c (.bool false))), none⟩]) .ret) .skip)) (.seq (.seq c_law14_AddrDomains_p1 (.cond (.t 16) (.seq (.rg [⟨(some 2), (.asg (.c (.bool true))), none⟩]) .ret) .skip)) (.seq (.rg [⟨(some 3), (.asg (.c (.str []))), none⟩]) (.seq (.seq (.rg [⟨(some 4), (.asg (.c (.int .i64 0))), none⟩]) (.blk 0 c_law14_AddrDomains_l2)) (.seq c_law14_AddrDomains_p4 .ret))))))
def m_law14_AddrDomains : ACode := (.seq (.rg [⟨(some 2), (.asg (.c (.bool false))), none⟩]) (.seq (.seq (.rg [⟨(some 7), (.call (.c (.fn 32 [])) []), none⟩, ⟨(some 8), (.un .not (.t 7)), none⟩]) (.cond (.t 8) (.seq (.rg [⟨(some 2), (.asg (.c (.bool false))), none⟩]) .ret) .skip)) (.seq (.seq (.sem c_law14_AddrDomains_p1) (.cond (.t 16) (.seq (.rg [⟨(some 2), (.asg (.c (.bool true))), none⟩]) .ret) .skip)) (.seq (.rg [⟨(some 3), (.asg (.c (.str []))), none⟩]) (.seq (.seq (.rg [⟨(some 4), (.asg (.c (.int .i64 0))), none⟩]) (.blk 0 c_law14_AddrDomains_l2)) (.seq (.sem c_law14_AddrDomains_p4) .ret))))))
theorem k_law14_AddrDomains : FnOk Tryd.prog 9 93 [(.tmp 2)] c_law14_AddrDomains := ⟨Tryd.f9, _, rfl, by decide, rfl, by kernel_rfl, rfl, rfl⟩
abbrev L_law14_AddrDomains : List Nat := [0, 2, 3, 4, 5, 6, 8, 16, 20, 33, 49, 51]
def law14_AddrDomains_p2 (l1 : List (List UInt8)) (i4 : Int) (kk6 : Int) : Option (Bool) :=
  (idx l1 i4).bind fun x7 =>
  (if (decide (kk6 < (x7.length : Int))) then
    some (decide (kk6 < 63))
  else
    some false)
def law14_AddrDomains_l1 (l1 : List (List UInt8)) (i4 : Int) : ((List UInt8) × Int) → Option (St Bool (List UInt8) ((List UInt8) × Int))
  | (t5, kk6) =>
    (law14_AddrDomains_p2 l1 i4 kk6).bind fun t9 =>
    (if t9 then
      (idx l1 i4).bind fun x10 =>
      (idx x10 kk6).bind fun x11 =>
      (idx ([97, 98, 99, 88, 89, 90, 48, 49, 57] : List UInt8) ((x11 % 9).toNat : Int)).bind fun x12 =>
      (cat t5 ([x12] : List UInt8)).bind fun x13 => some (.nxt (x13, (IntKind.wrap .i64 (kk6 + 1))))
    else
      some (.brk t5))
def law14_AddrDomains_p3 (t15 : List UInt8) : Option ((List UInt8)) :=
  (if (decide (t15 = ([] : List UInt8))) then
    some ([113] : List UInt8)
  else
    some t15)
def law14_AddrDomains_l2 (F : Nat) (l1 : List (List UInt8)) : ((List UInt8) × Int) → Option (St Bool (List UInt8) ((List UInt8) × Int))
  | (s3, i4) =>
    (if (decide (i4 < (l1.length : Int))) then
      ((iter (law14_AddrDomains_l1 l1 i4) F (([] : List UInt8), 0)).bind fun o21 =>
      match o21 with
      | .inr t15 =>
        (law14_AddrDomains_p3 t15).bind fun t17 =>
        (if (decide (0 < i4)) then
          (cat s3 ([46] : List UInt8)).bind fun x18 =>
          (cat x18 t17).bind fun x19 => some (.nxt (x19, (IntKind.wrap .i64 (i4 + 1))))
        else
          (cat s3 t17).bind fun x20 => some (.nxt (x20, (IntKind.wrap .i64 (i4 + 1)))))
      | .inl _ => none)
    else
      some (.brk s3))
def law14_AddrDomains_p4 (F : Nat) (s23 : List UInt8) : Option (Bool) :=
  (addr_Domain F s23).bind fun r24 =>
  (if (r24 == (decide ((s23.length : Int) ≤ 255))) then
    (cat s23 ([46] : List UInt8)).bind fun x25 =>
    (addr_Domain F x25).bind fun r26 =>
    (if (!r26) then
      (cat ([46] : List UInt8) s23).bind fun x27 =>
      (addr_Domain F x27).bind fun r28 =>
      (if (!r28) then
        (cat s23 ([46, 46, 97] : List UInt8)).bind fun x29 =>
        (addr_Domain F x29).bind fun r30 =>
        (if (!r30) then
          (cat ([91] : List UInt8) s23).bind fun x31 =>
          (addr_Domain F x31).bind fun r32 =>
          (if (!r32) then
            (cat s23 ([45] : List UInt8)).bind fun x33 => (addr_Domain F x33).bind fun r34 => some (!r34)
          else
            some false)
        else
          some false)
      else
        some false)
    else
      some false)
  else
    some false)
def law14_AddrDomains (F : Nat) (l1 : List (List UInt8)) : Option (Bool) :=
  (law14_known F ).bind fun r2 =>
  (if (!r2) then
    some false
  else
    (if ((decide ((l1.length : Int) = 0)) || (decide (60 < (l1.length : Int)))) then
      some true
    else
      ((iter (law14_AddrDomains_l2 F l1) F (([] : List UInt8), 0)).bind fun o37 =>
      match o37 with
      | .inr s23 =>
        (law14_AddrDomains_p4 F s23).bind fun t36 =>
        some t36
      | .inl _ => none)))
set_option maxHeartbeats 2000000 in
theorem law14_AddrDomains_p1_ok {l1 : List (List UInt8)} {H : AH}  {K : Exit → Env → AH → Prop}
    (kn : K .normal [(0, (.sl .n 1 (ml AV.str l1))), (16, (.bool ((decide ((l1.length : Int) = 0)) || (decide (60 < (l1.length : Int))))))] H) :
    AX Tryd.prog L_law14_AddrDomains 93 H.length c_law14_AddrDomains_p1 K [(0, (.sl .n 1 (ml AV.str l1)))] H := by
  refine AX.go (m := m_law14_AddrDomains_p1) rfl (by decide) fun K' hK => ?_
  try simp only [WW, ↓reduceIte, Nat.reduceEqDiff, Nat.reduceLT, Nat.reduceLeDiff, Nat.reduceAdd, Nat.reduceSub, Nat.reduceMul, Nat.reduceBEq, reduceCtorEq, if_false, if_true, L_law14_AddrDomains, m_law14_AddrDomains_p1, c_law14_AddrDomains_p1]
  rcases bcases ((decide ((l1.length : Int) = 0))) with hy3 | hy3
  · refine UG_nf hy3 ?_
    try simp only [WW, ↓reduceIte, Nat.reduceEqDiff, Nat.reduceLT, Nat.reduceLeDiff, Nat.reduceAdd, Nat.reduceSub, Nat.reduceMul, Nat.reduceBEq, reduceCtorEq, if_false, if_true, L_law14_AddrDomains, hy3]
    refine hK _ _ _ _ _ ?_ (WxH.refl _) (kn )
    exact WE.cons (Wx.nn) (WE.cons (Wx.boolE (by simp only [hy3, WB])) (WE.nil))
  · refine UG_go hy3 ?_
    try simp only [WW, ↓reduceIte, Nat.reduceEqDiff, Nat.reduceLT, Nat.reduceLeDiff, Nat.reduceAdd, Nat.reduceSub, Nat.reduceMul, Nat.reduceBEq, reduceCtorEq, if_false, if_true, L_law14_AddrDomains, hy3]
    refine hK _ _ _ _ _ ?_ (WxH.refl _) (kn )
    exact WE.cons (Wx.nn) (WE.cons (Wx.boolE (by simp only [hy3, WB])) (WE.nil))
set_option maxHeartbeats 2000000 in
theorem law14_AddrDomains_p2_ok {l1 : List (List UInt8)} {i4 : Int} {kk6 : Int} {s3 : List UInt8} {t5 : List UInt8} {H : AH}  {K : Exit → Env → AH → Prop} {t8 : Bool}
    (h : law14_AddrDomains_p2 l1 i4 kk6 = some t8)
    (kn : K .normal [(0, (.sl .n 1 (ml AV.str l1))), (3, (.str s3)), (4, (.int .i64 i4)), (5, (.str t5)), (6, (.int .i64 kk6)), (33, (.bool t8))] H) :
    AX Tryd.prog L_law14_AddrDomains 93 H.length c_law14_AddrDomains_p2 K [(0, (.sl .n 1 (ml AV.str l1))), (3, (.str s3)), (4, (.int .i64 i4)), (5, (.str t5)), (6, (.int .i64 kk6))] H := by
  refine AX.go (m := m_law14_AddrDomains_p2) rfl (by decide) fun K' hK => ?_
  rw [law14_AddrDomains_p2.eq_1] at h
  obtain ⟨x7, hy6, h⟩ := bnd' h
  try simp only [WW, ↓reduceIte, Nat.reduceEqDiff, Nat.reduceLT, Nat.reduceLeDiff, Nat.reduceAdd, Nat.reduceSub, Nat.reduceMul, Nat.reduceBEq, reduceCtorEq, if_false, if_true, L_law14_AddrDomains, m_law14_AddrDomains_p2, c_law14_AddrDomains_p2, hy6]
  rcases ifb h with ⟨hy7, h⟩ | ⟨hy7, h⟩
  · refine UG_go hy7 ?_
    try simp only [WW, ↓reduceIte, Nat.reduceEqDiff, Nat.reduceLT, Nat.reduceLeDiff, Nat.reduceAdd, Nat.reduceSub, Nat.reduceMul, Nat.reduceBEq, reduceCtorEq, if_false, if_true, L_law14_AddrDomains, hy7]
    have hq := Option.some.inj h; subst hq
    refine hK _ _ _ _ _ ?_ (WxH.refl _) (kn )
    exact WE.cons (Wx.nn) (WE.cons (Wx.str) (WE.cons (Wx.int) (WE.cons (Wx.str) (WE.cons (Wx.int) (WE.cons (Wx.bool) (WE.nil))))))
  · refine UG_nt hy7 ?_
    try simp only [WW, ↓reduceIte, Nat.reduceEqDiff, Nat.reduceLT, Nat.reduceLeDiff, Nat.reduceAdd, Nat.reduceSub, Nat.reduceMul, Nat.reduceBEq, reduceCtorEq, if_false, if_true, L_law14_AddrDomains, hy7]
    have hq := Option.some.inj h; subst hq
    refine hK _ _ _ _ _ ?_ (WxH.refl _) (kn )
    exact WE.cons (Wx.nn) (WE.cons (Wx.str) (WE.cons (Wx.int) (WE.cons (Wx.str) (WE.cons (Wx.int) (WE.cons (Wx.bool) (WE.nil))))))
set_option maxHeartbeats 2000000 in
theorem law14_AddrDomains_l1_ok {F : Nat} {l1 : List (List UInt8)} {i4 : Int} {kk6 : Int} {t5 : List UInt8} {s3 : List UInt8} {H : AH}  {K : Exit → Env → AH → Prop} {o : (Bool) ⊕ ((List UInt8))}
    (h : iter (law14_AddrDomains_l1 l1 i4) F (t5, kk6) = some o)
    (kb2 : ∀ o' : (List UInt8), o = .inr o' → K (.exit 2) [(0, (.sl .n 1 (ml AV.str l1))), (3, (.str s3)), (4, (.int .i64 i4)), (5, (.str o'))] H) :
    AX Tryd.prog L_law14_AddrDomains 93 H.length c_law14_AddrDomains_l1 K [(0, (.sl .n 1 (ml AV.str l1))), (3, (.str s3)), (4, (.int .i64 i4)), (5, (.str t5)), (6, (.int .i64 kk6))] H := by
  refine AX.iter (m := m_law14_AddrDomains_l1b) rfl (by decide) (fun s e H1 => match s with | (t5, kk6) => e = [(0, (.sl .n 1 (ml AV.str l1))), (3, (.str s3)), (4, (.int .i64 i4)), (5, (.str t5)), (6, (.int .i64 kk6))] ∧ H1 = H) h ⟨rfl, rfl⟩ ?_
  rintro K' ⟨t5, kk6⟩ st e H ⟨rfl, rfl⟩ h hN hB hR hX
  rw [law14_AddrDomains_l1.eq_1] at h
  try simp only [WW, ↓reduceIte, Nat.reduceEqDiff, Nat.reduceLT, Nat.reduceLeDiff, Nat.reduceAdd, Nat.reduceSub, Nat.reduceMul, Nat.reduceBEq, reduceCtorEq, if_false, if_true, L_law14_AddrDomains, m_law14_AddrDomains_l1b]
  obtain ⟨t9, hy8, h⟩ := bnd' h
  refine UX_of (AX.weak ?_ (WxH.refl _) (law14_AddrDomains_p2_ok  (l1 := l1) (i4 := i4) (kk6 := kk6) (s3 := s3) (t5 := t5) (t8 := t9)   hy8 ?_))
  · exact WE.cons (Wx.nn) (WE.cons (Wx.str) (WE.cons (Wx.int) (WE.cons (Wx.str) (WE.cons (Wx.int) (WE.nil)))))
  try simp only [WW, ↓reduceIte, Nat.reduceEqDiff, Nat.reduceLT, Nat.reduceLeDiff, Nat.reduceAdd, Nat.reduceSub, Nat.reduceMul, Nat.reduceBEq, reduceCtorEq, if_false, if_true, L_law14_AddrDomains]
  rcases ifb h with ⟨hy9, h⟩ | ⟨hy9, h⟩
  · refine UC_t hy9 ?_
    obtain ⟨x10, hy10, h⟩ := bnd' h
    obtain ⟨x11, hy11, h⟩ := bnd' h
    obtain ⟨x12, hy12, h⟩ := bnd' h
    obtain ⟨x13, hy13, h⟩ := bnd' h
    try simp only [WW, ↓reduceIte, Nat.reduceEqDiff, Nat.reduceLT, Nat.reduceLeDiff, Nat.reduceAdd, Nat.reduceSub, Nat.reduceMul, Nat.reduceBEq, reduceCtorEq, if_false, if_true, L_law14_AddrDomains, hy10, hy11, (show ((9 : UInt8) = 0) = False from by decide), hy12, hy13]
    have hq := Option.some.inj h; subst hq
    refine hN _ rfl _ _ _ _ ?_ (WxH.refl _) ⟨rfl, rfl⟩
    exact WE.cons (Wx.nn) (WE.cons (Wx.str) (WE.cons (Wx.int) (WE.cons (Wx.str) (WE.cons (Wx.int) (WE.nil)))))
  · refine UC_f hy9 ?_
    try simp only [WW, ↓reduceIte, Nat.reduceEqDiff, Nat.reduceLT, Nat.reduceLeDiff, Nat.reduceAdd, Nat.reduceSub, Nat.reduceMul, Nat.reduceBEq, reduceCtorEq, if_false, if_true, L_law14_AddrDomains]
    have hq := Option.some.inj h; subst hq
    refine hX _ _ _ _ _ (by simp) ?_ (WxH.refl _) (kb2 _ (hB _ rfl) )
    exact WE.cons (Wx.nn) (WE.cons (Wx.str) (WE.cons (Wx.int) (WE.cons (Wx.str) (WE.nil))))
set_option maxHeartbeats 2000000 in
theorem law14_AddrDomains_p3_ok {t15 : List UInt8} {l1 : List (List UInt8)} {s3 : List UInt8} {i4 : Int} {H : AH}  {K : Exit → Env → AH → Prop} {t16 : List UInt8}
    (h : law14_AddrDomains_p3 t15 = some t16)
    (kn : K .normal [(0, (.sl .n 1 (ml AV.str l1))), (3, (.str s3)), (4, (.int .i64 i4)), (5, (.str t16))] H) :
    AX Tryd.prog L_law14_AddrDomains 93 H.length c_law14_AddrDomains_p3 K [(0, (.sl .n 1 (ml AV.str l1))), (3, (.str s3)), (4, (.int .i64 i4)), (5, (.str t15)), (49, (.bool (decide (t15 = ([] : List UInt8)))))] H := by
  refine AX.go (m := m_law14_AddrDomains_p3) rfl (by decide) fun K' hK => ?_
  rw [law14_AddrDomains_p3.eq_1] at h
  try simp only [WW, ↓reduceIte, Nat.reduceEqDiff, Nat.reduceLT, Nat.reduceLeDiff, Nat.reduceAdd, Nat.reduceSub, Nat.reduceMul, Nat.reduceBEq, reduceCtorEq, if_false, if_true, L_law14_AddrDomains, m_law14_AddrDomains_p3, c_law14_AddrDomains_p3]
  rcases ifb h with ⟨hy15, h⟩ | ⟨hy15, h⟩
  · refine UC_t hy15 ?_
    try simp only [WW, ↓reduceIte, Nat.reduceEqDiff, Nat.reduceLT, Nat.reduceLeDiff, Nat.reduceAdd, Nat.reduceSub, Nat.reduceMul, Nat.reduceBEq, reduceCtorEq, if_false, if_true, L_law14_AddrDomains]
    have hq := Option.some.inj h; subst hq
    refine hK _ _ _ _ _ ?_ (WxH.refl _) (kn )
    exact WE.cons (Wx.nn) (WE.cons (Wx.str) (WE.cons (Wx.int) (WE.cons (Wx.str) (WE.nil))))
  · refine UC_f hy15 ?_
    try simp only [WW, ↓reduceIte, Nat.reduceEqDiff, Nat.reduceLT, Nat.reduceLeDiff, Nat.reduceAdd, Nat.reduceSub, Nat.reduceMul, Nat.reduceBEq, reduceCtorEq, if_false, if_true, L_law14_AddrDomains]
    have hq := Option.some.inj h; subst hq
    refine hK _ _ _ _ _ ?_ (WxH.refl _) (kn )
    exact WE.cons (Wx.nn) (WE.cons (Wx.str) (WE.cons (Wx.int) (WE.cons (Wx.str) (WE.nil))))
set_option maxHeartbeats 2000000 in
theorem law14_AddrDomains_l2_ok {F : Nat} {i4 : Int} {l1 : List (List UInt8)} {s3 : List UInt8} {H : AH}  {K : Exit → Env → AH → Prop} {o : (Bool) ⊕ ((List UInt8))}
    (h : iter (law14_AddrDomains_l2 F l1) F (s3, i4) = some o)
    (kb0 : ∀ o' : (List UInt8), o = .inr o' → K (.exit 0) [(3, (.str o'))] H) :
    AX Tryd.prog L_law14_AddrDomains 93 H.length c_law14_AddrDomains_l2 K [(0, (.sl .n 1 (ml AV.str l1))), (3, (.str s3)), (4, (.int .i64 i4))] H := by
  refine AX.iter (m := m_law14_AddrDomains_l2b) rfl (by decide) (fun s e H1 => match s with | (s3, i4) => e = [(0, (.sl .n 1 (ml AV.str l1))), (3, (.str s3)), (4, (.int .i64 i4))] ∧ H1 = H) h ⟨rfl, rfl⟩ ?_
  rintro K' ⟨s3, i4⟩ st e H ⟨rfl, rfl⟩ h hN hB hR hX
  rw [law14_AddrDomains_l2.eq_1] at h
  try simp only [WW, ↓reduceIte, Nat.reduceEqDiff, Nat.reduceLT, Nat.reduceLeDiff, Nat.reduceAdd, Nat.reduceSub, Nat.reduceMul, Nat.reduceBEq, reduceCtorEq, if_false, if_true, L_law14_AddrDomains, m_law14_AddrDomains_l2b]
  rcases ifb h with ⟨hy5, h⟩ | ⟨hy5, h⟩
  · refine UC_t hy5 ?_
    try simp only [WW, ↓reduceIte, Nat.reduceEqDiff, Nat.reduceLT, Nat.reduceLeDiff, Nat.reduceAdd, Nat.reduceSub, Nat.reduceMul, Nat.reduceBEq, reduceCtorEq, if_false, if_true, L_law14_AddrDomains]
    obtain ⟨o21, hy14, h⟩ := bnd' h
    refine UX_of (AX.weak ?_ (WxH.refl _) (law14_AddrDomains_l1_ok  (l1 := l1) (i4 := i4) (s3 := s3) (t5 := ([] : List UInt8)) (kk6 := 0)   (o := o21) hy14 ?_))
    · exact WE.cons (Wx.nn) (WE.cons (Wx.str) (WE.cons (Wx.int) (WE.cons (Wx.str) (WE.cons (Wx.int) (WE.nil)))))
    · rintro t15 rfl  
      try dsimp only at h 
      try simp only [WW, ↓reduceIte, Nat.reduceEqDiff, Nat.reduceLT, Nat.reduceLeDiff, Nat.reduceAdd, Nat.reduceSub, Nat.reduceMul, Nat.reduceBEq, reduceCtorEq, if_false, if_true, L_law14_AddrDomains]
      obtain ⟨t17, hy16, h⟩ := bnd' h
      refine UX_of (AX.weak ?_ (WxH.refl _) (law14_AddrDomains_p3_ok  (t15 := t15) (l1 := l1) (s3 := s3) (i4 := i4) (t16 := t17)   hy16 ?_))
      · exact WE.cons (Wx.nn) (WE.cons (Wx.str) (WE.cons (Wx.int) (WE.cons (Wx.str) (WE.cons (Wx.bool) (WE.nil)))))
      try simp only [WW, ↓reduceIte, Nat.reduceEqDiff, Nat.reduceLT, Nat.reduceLeDiff, Nat.reduceAdd, Nat.reduceSub, Nat.reduceMul, Nat.reduceBEq, reduceCtorEq, if_false, if_true, L_law14_AddrDomains]
      rcases ifb h with ⟨hy17, h⟩ | ⟨hy17, h⟩
      · refine UC_t hy17 ?_
        obtain ⟨x18, hy18, h⟩ := bnd' h
        obtain ⟨x19, hy19, h⟩ := bnd' h
        try simp only [WW, ↓reduceIte, Nat.reduceEqDiff, Nat.reduceLT, Nat.reduceLeDiff, Nat.reduceAdd, Nat.reduceSub, Nat.reduceMul, Nat.reduceBEq, reduceCtorEq, if_false, if_true, L_law14_AddrDomains, hy18, hy19]
        have hq := Option.some.inj h; subst hq
        refine hN _ rfl _ _ _ _ ?_ (WxH.refl _) ⟨rfl, rfl⟩
        exact WE.cons (Wx.nn) (WE.cons (Wx.str) (WE.cons (Wx.int) (WE.nil)))
      · refine UC_f hy17 ?_
        obtain ⟨x20, hy20, h⟩ := bnd' h
        try simp only [WW, ↓reduceIte, Nat.reduceEqDiff, Nat.reduceLT, Nat.reduceLeDiff, Nat.reduceAdd, Nat.reduceSub, Nat.reduceMul, Nat.reduceBEq, reduceCtorEq, if_false, if_true, L_law14_AddrDomains, hy20]
        have hq := Option.some.inj h; subst hq
        refine hN _ rfl _ _ _ _ ?_ (WxH.refl _) ⟨rfl, rfl⟩
        exact WE.cons (Wx.nn) (WE.cons (Wx.str) (WE.cons (Wx.int) (WE.nil)))
  · refine UC_f hy5 ?_
    try simp only [WW, ↓reduceIte, Nat.reduceEqDiff, Nat.reduceLT, Nat.reduceLeDiff, Nat.reduceAdd, Nat.reduceSub, Nat.reduceMul, Nat.reduceBEq, reduceCtorEq, if_false, if_true, L_law14_AddrDomains]
    have hq := Option.some.inj h; subst hq
    refine hX _ _ _ _ _ (by simp) ?_ (WxH.refl _) (kb0 _ (hB _ rfl) )
    exact WE.cons (Wx.str) (WE.nil)
set_option maxHeartbeats 2000000 in
theorem law14_AddrDomains_p4_ok {F : Nat} {s23 : List UInt8} {H : AH}  {K : Exit → Env → AH → Prop} {t35 : Bool}
    (h : law14_AddrDomains_p4 F s23 = some t35)
    (kn : K .normal [(2, (.bool t35))] H) :
    AX Tryd.prog L_law14_AddrDomains 93 H.length c_law14_AddrDomains_p4 K [(3, (.str s23))] H := by
  refine AX.go (m := m_law14_AddrDomains_p4) rfl (by decide) fun K' hK => ?_
  rw [law14_AddrDomains_p4.eq_1] at h
  try simp only [WW, ↓reduceIte, Nat.reduceEqDiff, Nat.reduceLT, Nat.reduceLeDiff, Nat.reduceAdd, Nat.reduceSub, Nat.reduceMul, Nat.reduceBEq, reduceCtorEq, if_false, if_true, L_law14_AddrDomains, m_law14_AddrDomains_p4, c_law14_AddrDomains_p4]
  obtain ⟨r24, hy22, h⟩ := bnd' h
  refine UK_e (as' := [(.str s23)]) (h := addr_Domain_ok (s1 := s23) (F := F)  hy22) (hw := WL.cons (Wx.str) (WL.nil)) (hh := WxH.refl _) ?_
  try simp only [WW, ↓reduceIte, Nat.reduceEqDiff, Nat.reduceLT, Nat.reduceLeDiff, Nat.reduceAdd, Nat.reduceSub, Nat.reduceMul, Nat.reduceBEq, reduceCtorEq, if_false, if_true, L_law14_AddrDomains]
  rcases ifb h with ⟨hy23, h⟩ | ⟨hy23, h⟩
  · refine UG_go hy23 ?_
    obtain ⟨x25, hy24, h⟩ := bnd' h
    try simp only [WW, ↓reduceIte, Nat.reduceEqDiff, Nat.reduceLT, Nat.reduceLeDiff, Nat.reduceAdd, Nat.reduceSub, Nat.reduceMul, Nat.reduceBEq, reduceCtorEq, if_false, if_true, L_law14_AddrDomains, hy23, hy24]
    obtain ⟨r26, hy25, h⟩ := bnd' h
    refine UK_e (as' := [(.str x25)]) (h := addr_Domain_ok (s1 := x25) (F := F)  hy25) (hw := WL.cons (Wx.str) (WL.nil)) (hh := WxH.refl _) ?_
    try simp only [WW, ↓reduceIte, Nat.reduceEqDiff, Nat.reduceLT, Nat.reduceLeDiff, Nat.reduceAdd, Nat.reduceSub, Nat.reduceMul, Nat.reduceBEq, reduceCtorEq, if_false, if_true, L_law14_AddrDomains]
    rcases ifb h with ⟨hy26, h⟩ | ⟨hy26, h⟩
    · refine UG_go hy26 ?_
      obtain ⟨x27, hy27, h⟩ := bnd' h
      try simp only [WW, ↓reduceIte, Nat.reduceEqDiff, Nat.reduceLT, Nat.reduceLeDiff, Nat.reduceAdd, Nat.reduceSub, Nat.reduceMul, Nat.reduceBEq, reduceCtorEq, if_false, if_true, L_law14_AddrDomains, hy26, hy27]
      obtain ⟨r28, hy28, h⟩ := bnd' h
      refine UK_e (as' := [(.str x27)]) (h := addr_Domain_ok (s1 := x27) (F := F)  hy28) (hw := WL.cons (Wx.str) (WL.nil)) (hh := WxH.refl _) ?_
      try simp only [WW, ↓reduceIte, Nat.reduceEqDiff, Nat.reduceLT, Nat.reduceLeDiff, Nat.reduceAdd, Nat.reduceSub, Nat.reduceMul, Nat.reduceBEq, reduceCtorEq, if_false, if_true, L_law14_AddrDomains]
      rcases ifb h with ⟨hy29, h⟩ | ⟨hy29, h⟩
      · refine UG_go hy29 ?_
        obtain ⟨x29, hy30, h⟩ := bnd' h
        try simp only [WW, ↓reduceIte, Nat.reduceEqDiff, Nat.reduceLT, Nat.reduceLeDiff, Nat.reduceAdd, Nat.reduceSub, Nat.reduceMul, Nat.reduceBEq, reduceCtorEq, if_false, if_true, L_law14_AddrDomains, hy29, hy30]
        obtain ⟨r30, hy31, h⟩ := bnd' h
        refine UK_e (as' := [(.str x29)]) (h := addr_Domain_ok (s1 := x29) (F := F)  hy31) (hw := WL.cons (Wx.str) (WL.nil)) (hh := WxH.refl _) ?_
        try simp only [WW, ↓reduceIte, Nat.reduceEqDiff, Nat.reduceLT, Nat.reduceLeDiff, Nat.reduceAdd, Nat.reduceSub, Nat.reduceMul, Nat.reduceBEq, reduceCtorEq, if_false, if_true, L_law14_AddrDomains]
        rcases ifb h with ⟨hy32, h⟩ | ⟨hy32, h⟩
        · refine UG_go hy32 ?_
          obtain ⟨x31, hy33, h⟩ := bnd' h
          try simp only [WW, ↓reduceIte, Nat.reduceEqDiff, Nat.reduceLT, Nat.reduceLeDiff, Nat.reduceAdd, Nat.reduceSub, Nat.reduceMul, Nat.reduceBEq, reduceCtorEq, if_false, if_true, L_law14_AddrDomains, hy32, hy33]
          obtain ⟨r32, hy34, h⟩ := bnd' h
          refine UK_e (as' := [(.str x31)]) (h := addr_Domain_ok (s1 := x31) (F := F)  hy34) (hw := WL.cons (Wx.str) (WL.nil)) (hh := WxH.refl _) ?_
          try simp only [WW, ↓reduceIte, Nat.reduceEqDiff, Nat.reduceLT, Nat.reduceLeDiff, Nat.reduceAdd, Nat.reduceSub, Nat.reduceMul, Nat.reduceBEq, reduceCtorEq, if_false, if_true, L_law14_AddrDomains]
          rcases ifb h with ⟨hy35, h⟩ | ⟨hy35, h⟩
          · refine UG_go hy35 ?_
            obtain ⟨x33, hy36, h⟩ := bnd' h
            try simp only [WW, ↓reduceIte, Nat.reduceEqDiff, Nat.reduceLT, Nat.reduceLeDiff, Nat.reduceAdd, Nat.reduceSub, Nat.reduceMul, Nat.reduceBEq, reduceCtorEq, if_false, if_true, L_law14_AddrDomains, hy35, hy36]
            obtain ⟨r34, hy37, h⟩ := bnd' h
            refine UK_e (as' := [(.str x33)]) (h := addr_Domain_ok (s1 := x33) (F := F)  hy37) (hw := WL.cons (Wx.str) (WL.nil)) (hh := WxH.refl _) ?_
            try simp only [WW, ↓reduceIte, Nat.reduceEqDiff, Nat.reduceLT, Nat.reduceLeDiff, Nat.reduceAdd, Nat.reduceSub, Nat.reduceMul, Nat.reduceBEq, reduceCtorEq, if_false, if_true, L_law14_AddrDomains]
            have hq := Option.some.inj h; subst hq
            refine hK _ _ _ _ _ ?_ (WxH.refl _) (kn )
            exact WE.cons (Wx.bool) (WE.nil)
          · refine UG_nt hy35 ?_
            try simp only [WW, ↓reduceIte, Nat.reduceEqDiff, Nat.reduceLT, Nat.reduceLeDiff, Nat.reduceAdd, Nat.reduceSub, Nat.reduceMul, Nat.reduceBEq, reduceCtorEq, if_false, if_true, L_law14_AddrDomains, hy35]
            have hq := Option.some.inj h; subst hq
            refine hK _ _ _ _ _ ?_ (WxH.refl _) (kn )
            exact WE.cons (Wx.bool) (WE.nil)
        · refine UG_nt hy32 ?_
          try simp only [WW, ↓reduceIte, Nat.reduceEqDiff, Nat.reduceLT, Nat.reduceLeDiff, Nat.reduceAdd, Nat.reduceSub, Nat.reduceMul, Nat.reduceBEq, reduceCtorEq, if_false, if_true, L_law14_AddrDomains, hy32]
          have hq := Option.some.inj h; subst hq
          refine hK _ _ _ _ _ ?_ (WxH.refl _) (kn )
          exact WE.cons (Wx.bool) (WE.nil)
      · refine UG_nt hy29 ?_
        try simp only [WW, ↓reduceIte, Nat.reduceEqDiff, Nat.reduceLT, Nat.reduceLeDiff, Nat.reduceAdd, Nat.reduceSub, Nat.reduceMul, Nat.reduceBEq, reduceCtorEq, if_false, if_true, L_law14_AddrDomains, hy29]
        have hq := Option.some.inj h; subst hq
        refine hK _ _ _ _ _ ?_ (WxH.refl _) (kn )
        exact WE.cons (Wx.bool) (WE.nil)
    · refine UG_nt hy26 ?_
      try simp only [WW, ↓reduceIte, Nat.reduceEqDiff, Nat.reduceLT, Nat.reduceLeDiff, Nat.reduceAdd, Nat.reduceSub, Nat.reduceMul, Nat.reduceBEq, reduceCtorEq, if_false, if_true, L_law14_AddrDomains, hy26]
      have hq := Option.some.inj h; subst hq
      refine hK _ _ _ _ _ ?_ (WxH.refl _) (kn )
      exact WE.cons (Wx.bool) (WE.nil)
  · refine UG_nt hy23 ?_
    try simp only [WW, ↓reduceIte, Nat.reduceEqDiff, Nat.reduceLT, Nat.reduceLeDiff, Nat.reduceAdd, Nat.reduceSub, Nat.reduceMul, Nat.reduceBEq, reduceCtorEq, if_false, if_true, L_law14_AddrDomains, hy23]
    have hq := Option.some.inj h; subst hq
    refine hK _ _ _ _ _ ?_ (WxH.refl _) (kn )
    exact WE.cons (Wx.bool) (WE.nil)
set_option maxHeartbeats 2000000 in
theorem law14_AddrDomains_ok {F : Nat} {l1 : List (List UInt8)}  {H0 : AH}  {rz0 : Bool} (h : law14_AddrDomains F l1 = some rz0) :
    ACalls Tryd.prog 9 [(.sl .n 1 (ml AV.str l1))] H0 fun v H' => v = (.bool rz0) ∧ H' = H0 := by
  refine ACalls.goX k_law14_AddrDomains (m := m_law14_AddrDomains) rfl L_law14_AddrDomains (by decide) (by simp) fun hcl K0 hK0 => ?_
  refine AX.of_U (m := m_law14_AddrDomains) rfl (by decide) ?_
  rw [law14_AddrDomains.eq_1] at h
  try simp only [WW, ↓reduceIte, Nat.reduceEqDiff, Nat.reduceLT, Nat.reduceLeDiff, Nat.reduceAdd, Nat.reduceSub, Nat.reduceMul, Nat.reduceBEq, reduceCtorEq, if_false, if_true, L_law14_AddrDomains, m_law14_AddrDomains]
  obtain ⟨r2, hy1, h⟩ := bnd' h
  refine UK_e (as' := []) (h := law14_known_ok  (F := F)  hy1) (hw := WL.nil) (hh := WxH.refl _) ?_
  try simp only [WW, ↓reduceIte, Nat.reduceEqDiff, Nat.reduceLT, Nat.reduceLeDiff, Nat.reduceAdd, Nat.reduceSub, Nat.reduceMul, Nat.reduceBEq, reduceCtorEq, if_false, if_true, L_law14_AddrDomains]
  rcases ifb h with ⟨hy2, h⟩ | ⟨hy2, h⟩
  · refine UC_t hy2 ?_
    try simp only [WW, ↓reduceIte, Nat.reduceEqDiff, Nat.reduceLT, Nat.reduceLeDiff, Nat.reduceAdd, Nat.reduceSub, Nat.reduceMul, Nat.reduceBEq, reduceCtorEq, if_false, if_true, L_law14_AddrDomains]
    have hq := Option.some.inj h; subst hq
    refine hK0 _ _ _ (.inr rfl) ?_
    exact fn_endp hcl (resv_tmp (a := (.bool false)) rfl rfl resv_nil) (by first | (simp [fin, b_df, b_sh, b_sh1, b_Cl]; done) | (simp [fin, AV.df, AV.sh, AV.sh1, b_df, b_sh, b_sh1, b_Cl]; done)) (Wx.bool) (r' := (.bool false)) ⟨rfl, rfl⟩
  · refine UC_f hy2 ?_
    try simp only [WW, ↓reduceIte, Nat.reduceEqDiff, Nat.reduceLT, Nat.reduceLeDiff, Nat.reduceAdd, Nat.reduceSub, Nat.reduceMul, Nat.reduceBEq, reduceCtorEq, if_false, if_true, L_law14_AddrDomains]
    refine UX_of (AX.weak ?_ (WxH.refl _) (law14_AddrDomains_p1_ok (l1 := l1)  ?_))
    · exact WE.cons (Wx.nn) (WE.nil)
    try simp only [WW, ↓reduceIte, Nat.reduceEqDiff, Nat.reduceLT, Nat.reduceLeDiff, Nat.reduceAdd, Nat.reduceSub, Nat.reduceMul, Nat.reduceBEq, reduceCtorEq, if_false, if_true, L_law14_AddrDomains]
    rcases ifb h with ⟨hy4, h⟩ | ⟨hy4, h⟩
    · refine UC_t hy4 ?_
      try simp only [WW, ↓reduceIte, Nat.reduceEqDiff, Nat.reduceLT, Nat.reduceLeDiff, Nat.reduceAdd, Nat.reduceSub, Nat.reduceMul, Nat.reduceBEq, reduceCtorEq, if_false, if_true, L_law14_AddrDomains]
      have hq := Option.some.inj h; subst hq
      refine hK0 _ _ _ (.inr rfl) ?_
      exact fn_endp hcl (resv_tmp (a := (.bool true)) rfl rfl resv_nil) (by first | (simp [fin, b_df, b_sh, b_sh1, b_Cl]; done) | (simp [fin, AV.df, AV.sh, AV.sh1, b_df, b_sh, b_sh1, b_Cl]; done)) (Wx.bool) (r' := (.bool true)) ⟨rfl, rfl⟩
    · refine UC_f hy4 ?_
      try simp only [WW, ↓reduceIte, Nat.reduceEqDiff, Nat.reduceLT, Nat.reduceLeDiff, Nat.reduceAdd, Nat.reduceSub, Nat.reduceMul, Nat.reduceBEq, reduceCtorEq, if_false, if_true, L_law14_AddrDomains]
      obtain ⟨o37, hy21, h⟩ := bnd' h
      refine UX_of (AX.weak ?_ (WxH.refl _) (law14_AddrDomains_l2_ok  (l1 := l1) (s3 := ([] : List UInt8)) (i4 := 0)   (o := o37) hy21 ?_))
      · exact WE.cons (Wx.nn) (WE.cons (Wx.str) (WE.cons (Wx.int) (WE.nil)))
      · rintro s23 rfl  
        try dsimp only at h 
        try simp only [WW, ↓reduceIte, Nat.reduceEqDiff, Nat.reduceLT, Nat.reduceLeDiff, Nat.reduceAdd, Nat.reduceSub, Nat.reduceMul, Nat.reduceBEq, reduceCtorEq, if_false, if_true, L_law14_AddrDomains]
        obtain ⟨t36, hy38, h⟩ := bnd' h
        refine UX_of (AX.weak ?_ (WxH.refl _) (law14_AddrDomains_p4_ok (F := F) (s23 := s23) (t35 := t36)   hy38 ?_))
        · exact WE.cons (Wx.str) (WE.nil)
        try simp only [WW, ↓reduceIte, Nat.reduceEqDiff, Nat.reduceLT, Nat.reduceLeDiff, Nat.reduceAdd, Nat.reduceSub, Nat.reduceMul, Nat.reduceBEq, reduceCtorEq, if_false, if_true, L_law14_AddrDomains]
        have hq := Option.some.inj h; subst hq
        refine hK0 _ _ _ (.inr rfl) ?_
        exact fn_endp hcl (resv_tmp (a := (.bool t36)) rfl rfl resv_nil) (by first | (simp [fin, b_df, b_sh, b_sh1, b_Cl]; done) | (simp [fin, AV.df, AV.sh, AV.sh1, b_df, b_sh, b_sh1, b_Cl]; done)) (Wx.bool) (r' := (.bool t36)) ⟨rfl, rfl⟩

end Go.Proofs.AddrS
