import Derived.Test.YtndhkepeecpilaaDoorRS2
set_option linter.unusedSimpArgs false
set_option linter.unusedVariables false
set_option linter.unusedSectionVars false
set_option linter.defProp false
set_option maxRecDepth 100000
namespace Go.Proofs.ReplyS
open Go Go.Am Go.Proofs

/-! ### mailbag/mailbaglaw16.ReplyRows -/
def c_law16_ReplyRows_p1 : ACode := (.rg [⟨(some 16), (.mv (.t 0)), none⟩, ⟨(some 17), (.len (.t 16)), none⟩, ⟨(some 18), (.bin .gtr (.t 17) (.c (.int .i64 12))), none⟩, ⟨(some 19), (.mv (.t 18)), none⟩, ⟨(some 20), (.mv (.t 1)), (some (19, false))⟩, ⟨(some 21), (.len (.t 20)), (some (19, false))⟩, ⟨(some 22), (.bin .gtr (.t 21) (.c (.int .i64 100))), (some (19, false))⟩, ⟨(some 23), (.pick (.t 19) (.c (.bool true)) (.t 22)), none⟩])
abbrev m_law16_ReplyRows_p1 := c_law16_ReplyRows_p1
def c_law16_ReplyRows_p2 : ACode := (.rg [⟨(some 30), (.mv (.t 0)), none⟩, ⟨(some 31), (.mv (.t 6)), none⟩, ⟨(some 32), (.ixa 2 (.t 30) (.t 31)), none⟩, ⟨(some 33), (.ld (.t 32) (some 2)), none⟩, ⟨(some 34), (.call (.c (.fn 21 [])) [(.t 33)]), none⟩, ⟨(some 35), (.un .not (.t 34)), none⟩, ⟨(some 36), (.mv (.t 35)), none⟩, ⟨(some 37), (.mv (.t 0)), (some (36, false))⟩, ⟨(some 38), (.mv (.t 6)), (some (36, false))⟩, ⟨(some 39), (.ixa 2 (.t 37) (.t 38)), (some (36, false))⟩, ⟨(some 40), (.ld (.t 39) (some 2)), (some (36, false))⟩, ⟨(some 41), (.call (.c (.fn 20 [])) [(.t 40)]), (some (36, false))⟩, ⟨(some 42), (.call (.c (.fn 25 [])) [(.t 41)]), (some (36, false))⟩, ⟨(some 43), (.un .not (.t 42)), (some (36, false))⟩, ⟨(some 44), (.pick (.t 36) (.c (.bool true)) (.t 43)), none⟩])
abbrev m_law16_ReplyRows_p2 := c_law16_ReplyRows_p2
def c_law16_ReplyRows_l1b : ACode := (.seq (.seq (.rg [⟨(some 24), (.mv (.t 6)), none⟩, ⟨(some 25), (.mv (.t 0)), none⟩, ⟨(some 26), (.len (.t 25)), none⟩, ⟨(some 27), (.bin .lss (.t 24) (.t 26)), none⟩]) (.cond (.t 27) .skip (.exit 0))) (.seq (.blk 1 (.seq (.seq c_law16_ReplyRows_p2 (.cond (.t 44) (.seq (.rg [⟨(some 4), (.asg (.c (.bool true))), none⟩]) .ret) .skip)) (.rg [⟨(some 45), (.mv (.t 5)), none⟩, ⟨(some 46), (.mv (.t 0)), none⟩, ⟨(some 47), (.mv (.t 6)), none⟩, ⟨(some 48), (.ixa 2 (.t 46) (.t 47)), none⟩, ⟨(some 49), (.ld (.t 48) (some 2)), none⟩, ⟨(some 50), (.call (.c (.fn 22 [])) [(.t 49)]), none⟩, ⟨(some 51), (.app 1 1 (.t 45) (.t 50)), none⟩, ⟨(some 5), (.asg (.t 51)), none⟩]))) (.rg [⟨(some 28), (.mv (.t 6)), none⟩, ⟨(some 29), (.bin .add (.t 28) (.c (.int .i64 1))), none⟩, ⟨(some 6), (.asg (.t 29)), none⟩])))
def c_law16_ReplyRows_l1 : ACode := (.loop c_law16_ReplyRows_l1b)
def m_law16_ReplyRows_l1b : ACode := (.seq (.seq (.rg [⟨(some 24), (.mv (.t 6)), none⟩, ⟨(some 25), (.mv (.t 0)), none⟩, ⟨(some 26), (.len (.t 25)), none⟩, ⟨(some 27), (.bin .lss (.t 24) (.t 26)), none⟩]) (.cond (.t 27) .skip (.exit 0))) (.seq (.blk 1 (.seq (.seq (.sem c_law16_ReplyRows_p2) (.cond (.t 44) (.seq (.rg [⟨(some 4), (.asg (.c (.bool true))), none⟩]) .ret) .skip)) (.rg [⟨(some 45), (.mv (.t 5)), none⟩, ⟨(some 46), (.mv (.t 0)), none⟩, ⟨(some 47), (.mv (.t 6)), none⟩, ⟨(some 48), (.ixa 2 (.t 46) (.t 47)), none⟩, ⟨(some 49), (.ld (.t 48) (some 2)), none⟩, ⟨(some 50), (.call (.c (.fn 22 [])) [(.t 49)]), none⟩, ⟨(some 51), (.app 1 1 (.t 45) (.t 50)), none⟩, ⟨(some 5), (.asg (.t 51)), none⟩]))) (.rg [⟨(some 28), (.mv (.t 6)), none⟩, ⟨(some 29), (.bin .add (.t 28) (.c (.int .i64 1))), none⟩, ⟨(some 6), (.asg (.t 29)), none⟩])))
def c_law16_ReplyRows_p3 : ACode := (.cond (.t 65) (.seq (.rg [⟨(some 66), (.mv (.t 1)), none⟩, ⟨(some 67), (.mv (.t 9)), none⟩, ⟨(some 68), (.ixa 1 (.t 66) (.t 67)), none⟩, ⟨(some 69), (.ld (.t 68) none), none⟩, ⟨(some 70), (.mv (.t 10)), none⟩, ⟨(some 71), (.bin .add (.t 70) (.c (.int .i64 1))), none⟩, ⟨(some 72), (.bin .rem (.t 69) (.t 71)), none⟩, ⟨(some 10), (.asg (.t 72)), none⟩]) (.seq (.rg [⟨(some 73), (.mv (.t 10)), none⟩, ⟨(some 74), (.bin .lss (.t 73) (.c (.int .i64 0))), none⟩]) (.cond (.t 74) (.rg [⟨(some 75), (.mv (.t 10)), none⟩, ⟨(some 76), (.bin .sub (.c (.int .i64 0)) (.t 75)), none⟩, ⟨(some 10), (.asg (.t 76)), none⟩]) .skip))) .skip)
abbrev m_law16_ReplyRows_p3 := c_law16_ReplyRows_p3
def c_law16_ReplyRows_l2b : ACode := (.seq (.seq (.rg [⟨(some 55), (.mv (.t 5)), none⟩, ⟨(some 56), (.len (.t 55)), none⟩, ⟨(some 57), (.bin .gtr (.t 56) (.c (.int .i64 0))), none⟩]) (.cond (.t 57) .skip (.exit 2))) (.seq (.blk 3 (.seq (.rg [⟨(some 60), (.mv (.t 5)), none⟩, ⟨(some 61), (.len (.t 60)), none⟩, ⟨(some 10), (.asg (.t 61)), none⟩]) (.seq (.seq (.rg [⟨(some 62), (.mv (.t 9)), none⟩, ⟨(some 63), (.mv (.t 1)), none⟩, ⟨(some 64), (.len (.t 63)), none⟩, ⟨(some 65), (.bin .lss (.t 62) (.t 64)), none⟩]) c_law16_ReplyRows_p3) (.seq (.rg [⟨(some 78), (.mv (.t 7)), none⟩, ⟨(some 79), (.mv (.t 5)), none⟩, ⟨(some 80), (.mv (.t 10)), none⟩, ⟨(some 81), (.slc 1 (.t 79) none (some (.t 80)) none), none⟩, ⟨(some 82), (.call (.c (.fn 14 [])) [(.t 78), (.t 81)]), none⟩, ⟨(some 77), (.mv (.t 82)), none⟩, ⟨(some 83), (.ext (.t 77) 0), none⟩, ⟨(some 84), (.ext (.t 77) 1), none⟩, ⟨(some 11), (.asg (.t 83)), none⟩, ⟨(some 12), (.asg (.t 84)), none⟩]) (.seq (.seq (.rg [⟨(some 85), (.mv (.t 12)), none⟩, ⟨(some 86), (.bin .neq (.t 85) (.c (.int .i64 0))), none⟩]) (.cond (.t 86) (.seq (.rg [⟨(some 4), (.asg (.c (.bool false))), none⟩]) .ret) .skip)) (.seq (.rg [⟨(some 87), (.mv (.t 8)), none⟩, ⟨(some 88), (.mv (.t 11)), none⟩, ⟨(some 89), (.app 2 32 (.t 87) (.t 88)), none⟩, ⟨(some 8), (.asg (.t 89)), none⟩]) (.rg [⟨(some 90), (.mv (.t 5)), none⟩, ⟨(some 91), (.mv (.t 10)), none⟩, ⟨(some 92), (.slc 1 (.t 90) (some (.t 91)) none none), none⟩, ⟨(some 5), (.asg (.t 92)), none⟩]))))))) (.rg [⟨(some 58), (.mv (.t 9)), none⟩, ⟨(some 59), (.bin .add (.t 58) (.c (.int .i64 1))), none⟩, ⟨(some 9), (.asg (.t 59)), none⟩])))
def c_law16_ReplyRows_l2 : ACode := (.loop c_law16_ReplyRows_l2b)
def m_law16_ReplyRows_l2b : ACode := (.seq (.seq (.rg [⟨(some 55), (.mv (.t 5)), none⟩, ⟨(some 56), (.len (.t 55)), none⟩, ⟨(some 57), (.bin .gtr (.t 56) (.c (.int .i64 0))), none⟩]) (.cond (.t 57) .skip (.exit 2))) (.seq (.blk 3 (.seq (.rg [⟨(some 60), (.mv (.t 5)), none⟩, ⟨(some 61), (.len (.t 60)), none⟩, ⟨(some 10), (.asg (.t 61)), none⟩]) (.seq (.seq (.rg [⟨(some 62), (.mv (.t 9)), none⟩, ⟨(some 63), (.mv (.t 1)), none⟩, ⟨(some 64), (.len (.t 63)), none⟩, ⟨(some 65), (.bin .lss (.t 62) (.t 64)), none⟩]) (.sem c_law16_ReplyRows_p3)) (.seq (.rg [⟨(some 78), (.mv (.t 7)), none⟩, ⟨(some 79), (.mv (.t 5)), none⟩, ⟨(some 80), (.mv (.t 10)), none⟩, ⟨(some 81), (.slc 1 (.t 79) none (some (.t 80)) none), none⟩, ⟨(some 82), (.call (.c (.fn 14 [])) [(.t 78), (.t 81)]), none⟩, ⟨(some 77), (.mv (.t 82)), none⟩, ⟨(some 83), (.ext (.t 77) 0), none⟩, ⟨(some 84), (.ext (.t 77) 1), none⟩, ⟨(some 11), (.asg (.t 83)), none⟩, ⟨(some 12), (.asg (.t 84)), none⟩]) (.seq (.seq (.rg [⟨(some 85), (.mv (.t 12)), none⟩, ⟨(some 86), (.bin .neq (.t 85) (.c (.int .i64 0))), none⟩]) (.cond (.t 86) (.seq (.rg [⟨(some 4), (.asg (.c (.bool false))), none⟩]) .ret) .skip)) (.seq (.rg [⟨(some 87), (.mv (.t 8)), none⟩, ⟨(some 88), (.mv (.t 11)), none⟩, ⟨(some 89), (.app 2 32 (.t 87) (.t 88)), none⟩, ⟨(some 8), (.asg (.t 89)), none⟩]) (.rg [⟨(some 90), (.mv (.t 5)), none⟩, ⟨(some 91), (.mv (.t 10)), none⟩, ⟨(some 92), (.slc 1 (.t 90) (some (.t 91)) none none), none⟩, ⟨(some 5), (.asg (.t 92)), none⟩]))))))) (.rg [⟨(some 58), (.mv (.t 9)), none⟩, ⟨(some 59), (.bin .add (.t 58) (.c (.int .i64 1))), none⟩, ⟨(some 9), (.asg (.t 59)), none⟩])))
def c_law16_ReplyRows_l3b : ACode := (.seq (.seq (.rg [⟨(some 98), (.mv (.t 13)), none⟩, ⟨(some 99), (.mv (.t 0)), none⟩, ⟨(some 100), (.len (.t 99)), none⟩, ⟨(some 101), (.bin .lss (.t 98) (.t 100)), none⟩]) (.cond (.t 101) .skip (.exit 4))) (.seq (.blk 5 (.seq (.rg [⟨(some 104), (.mv (.t 8)), none⟩, ⟨(some 105), (.mv (.t 13)), none⟩, ⟨(some 106), (.ixa 2 (.t 104) (.t 105)), none⟩, ⟨(some 107), (.ld (.t 106) (some 2)), none⟩, ⟨(some 108), (.mv (.t 0)), none⟩, ⟨(some 109), (.mv (.t 13)), none⟩, ⟨(some 110), (.ixa 2 (.t 108) (.t 109)), none⟩, ⟨(some 111), (.ld (.t 110) (some 2)), none⟩, ⟨(some 112), (.call (.c (.fn 26 [])) [(.t 107), (.t 111)]), none⟩, ⟨(some 113), (.un .not (.t 112)), none⟩]) (.cond (.t 113) (.seq (.rg [⟨(some 4), (.asg (.c (.bool false))), none⟩]) .ret) .skip))) (.rg [⟨(some 102), (.mv (.t 13)), none⟩, ⟨(some 103), (.bin .add (.t 102) (.c (.int .i64 1))), none⟩, ⟨(some 13), (.asg (.t 103)), none⟩])))
def c_law16_ReplyRows_l3 : ACode := (.loop c_law16_ReplyRows_l3b)
abbrev m_law16_ReplyRows_l3b := c_law16_ReplyRows_l3b
def c_law16_ReplyRows : ACode := (.seq (.rg [⟨(some 4), (.asg (.c (.bool false))), none⟩]) (.seq (.seq (.rg [⟨(some 14), (.call (.c (.fn 8 [])) []), none⟩, ⟨(some 15), (.un .not (.t 14)), none⟩]) (.cond (.t 15) (.seq (.rg [⟨(some 4), (.asg (.c (.bool false))), none⟩]) .ret) .skip)) (.seq (.seq c_law16_ReplyRows_p1 (.cond (.t 23) (.seq (.rg [⟨(some 4), (.asg (.c (.bool true))), none⟩]) .ret) .skip)) (.seq (.rg [⟨(some 5), (.asg (.c (.sl .ex 1 []))), none⟩]) (.seq (.seq (.rg [⟨(some 6), (.asg (.c (.int .i64 0))), none⟩]) (.blk 0 c_law16_ReplyRows_l1)) (.seq (.rg [⟨(some 52), (.call (.c (.fn 12 [])) []), none⟩, ⟨(some 7), (.asg (.t 52)), none⟩]) (.seq (.seq (.rg [⟨(some 53), (.mv (.t 7)), none⟩, ⟨(some 54), (.pq false (.t 53) (.c (.v (.pointer none)))), none⟩]) (.cond (.t 54) (.seq (.rg [⟨(some 4), (.asg (.c (.bool false))), none⟩]) .ret) .skip)) (.seq (.rg [⟨(some 8), (.asg (.c (.sl .ex 2 []))), none⟩]) (.seq (.seq (.rg [⟨(some 9), (.asg (.c (.int .i64 0))), none⟩]) (.blk 2 c_law16_ReplyRows_l2)) (.seq (.seq (.rg [⟨(some 93), (.mv (.t 8)), none⟩, ⟨(some 94), (.len (.t 93)), none⟩, ⟨(some 95), (.mv (.t 0)), none⟩, ⟨(some 96), (.len (.t 95)), none⟩, ⟨(some 97), (.bin .neq (.t 94) (.t 96)), none⟩]) (.cond (.t 97) (.seq (.rg [⟨(some 4), (.asg (.c (.bool false))), none⟩]) .ret) .skip)) (.seq (.seq (.rg [⟨(some 13), (.asg (.c (.int .i64 0))), none⟩]) (.blk 4 c_law16_ReplyRows_l3)) (.seq (.rg [⟨(some 114), (.mv (.t 7)), none⟩, ⟨(some 115), (.call (.c (.fn 17 [])) [(.t 114)]), none⟩, ⟨(some 116), (.bin .eql (.t 115) (.c (.int .i64 0))), none⟩, ⟨(some 4), (.asg (.t 116)), none⟩]) .ret))))))))))))
def m_law16_ReplyRows : ACode := (.seq (.rg [⟨(some 4), (.asg (.c (.bool false))), none⟩]) (.seq (.seq (.rg [⟨(some 14), (.call (.c (.fn 8 [])) []), none⟩, ⟨(some 15), (.un .not (.t 14)), none⟩]) (.cond (.t 15) (.seq (.rg [⟨(some 4), (.asg (.c (.bool false))), none⟩]) .ret) .skip)) (.seq (.seq (.sem c_law16_ReplyRows_p1) (.cond (.t 23) (.seq (.rg [⟨(some 4), (.asg (.c (.bool true))), none⟩]) .ret) .skip)) (.seq (.rg [⟨(some 5), (.asg (.c (.sl .ex 1 []))), none⟩]) (.seq (.seq (.rg [⟨(some 6), (.asg (.c (.int .i64 0))), none⟩]) (.blk 0 c_law16_ReplyRows_l1)) (.seq (.rg [⟨(some 52), (.call (.c (.fn 12 [])) []), none⟩, ⟨(some 7), (.asg (.t 52)), none⟩]) (.seq (.seq (.rg [⟨(some 53), (.mv (.t 7)), none⟩, ⟨(some 54), (.pq false (.t 53) (.c (.v (.pointer none)))), none⟩]) (.cond (.t 54) (.seq (.rg [⟨(some 4), (.asg (.c (.bool false))), none⟩]) .ret) .skip)) (.seq (.rg [⟨(some 8), (.asg (.c (.sl .ex 2 []))), none⟩]) (.seq (.seq (.rg [⟨(some 9), (.asg (.c (.int .i64 0))), none⟩]) (.blk 2 c_law16_ReplyRows_l2)) (.seq (.seq (.rg [⟨(some 93), (.mv (.t 8)), none⟩, ⟨(some 94), (.len (.t 93)), none⟩, ⟨(some 95), (.mv (.t 0)), none⟩, ⟨(some 96), (.len (.t 95)), none⟩, ⟨(some 97), (.bin .neq (.t 94) (.t 96)), none⟩]) (.cond (.t 97) (.seq (.rg [⟨(some 4), (.asg (.c (.bool false))), none⟩]) .ret) .skip)) (.seq (.seq (.rg [⟨(some 13), (.asg (.c (.int .i64 0))), none⟩]) (.blk 4 c_law16_ReplyRows_l3)) (.seq (.rg [⟨(some 114), (.mv (.t 7)), none⟩, ⟨(some 115), (.call (.c (.fn 17 [])) [(.t 114)]), none⟩, ⟨(some 116), (.bin .eql (.t 115) (.c (.int .i64 0))), none⟩, ⟨(some 4), (.asg (.t 116)), none⟩]) .ret))))))))))))
theorem k_law16_ReplyRows : FnOk Tryd.prog 7 117 [(.tmp 4)] c_law16_ReplyRows := ⟨Tryd.f7, _, rfl, by decide, rfl, by kernel_rfl, rfl, rfl⟩
abbrev L_law16_ReplyRows : List Nat := [0, 1, 4, 5, 6, 7, 8, 9, 10, 11, 12, 13, 15, 23, 27, 44, 54, 57, 65, 74, 86, 97, 101, 113]
def law16_ReplyRows_p2 (F : Nat) (l1 : List ReplyV) (i5 : Int) : Option (Bool) :=
  (idx l1 i5).bind fun x6 =>
  (law16_Few F x6).bind fun r7 =>
  (if (!r7) then
    some true
  else
    (law16_Of x6).bind fun r8 => (ref16_Right F r8).bind fun r9 => some (!r9))
def law16_ReplyRows_l1 (F : Nat) (l1 : List ReplyV) : ((List UInt8) × Int) → Option (St Bool (List UInt8) ((List UInt8) × Int))
  | (b4, i5) =>
    (if (decide (i5 < (l1.length : Int))) then
      (law16_ReplyRows_p2 F l1 i5).bind fun t11 =>
      (if t11 then
        some (.ret true)
      else
        (idx l1 i5).bind fun x12 =>
        (reply_Print F x12).bind fun r13 =>
        (capp 1 b4 r13).bind fun x14 => some (.nxt (x14, (IntKind.wrap .i64 (i5 + 1)))))
    else
      some (.brk b4))
def law16_ReplyRows_p3 (i26 : Int) (cuts2 : List Int) (b24 : List UInt8) : Option (Int) :=
  (if (decide (i26 < (cuts2.length : Int))) then
    (idx cuts2 i26).bind fun x31 =>
    (rm .i64 x31 (IntKind.wrap .i64 ((b24.length : Int) + 1))).bind fun x32 =>
    (if (decide (x32 < 0)) then
      some (IntKind.wrap .i64 (0 - x32))
    else
      some x32)
  else
    some (b24.length : Int))
def law16_ReplyRows_l2 (F : Nat) (cuts2 : List Int) : ((List UInt8) × (List ReplyV) × Int × ReaderV × SplitterV) → Option (St Bool ((List ReplyV) × ReaderV × SplitterV) ((List UInt8) × (List ReplyV) × Int × ReaderV × SplitterV))
  | (b24, got25, i26, s27, s28) =>
    (if (decide (0 < (b24.length : Int))) then
      (law16_ReplyRows_p3 i26 cuts2 b24).bind fun nn34 =>
      (sub b24 0 nn34).bind fun x35 =>
      (reply_Reader_Feed F (ReaderV.mk s28 s27.r s27.n s27.bad) x35).bind fun (r36, r37, r38) =>
      (if (!decide (r37 = 0)) then
        some (.ret false)
      else
        (capp 32 got25 r36).bind fun x39 =>
        (sub b24 nn34 (b24.length : Int)).bind fun x40 =>
        some (.nxt (x40, x39, (IntKind.wrap .i64 (i26 + 1)), r38, r38.splitter)))
    else
      some (.brk (got25, (ReaderV.mk s28 s27.r s27.n s27.bad), s28)))
def law16_ReplyRows_l3 (F : Nat) (l1 : List ReplyV) (got45 : List ReplyV) : Int → Option (St Bool Unit Int)
  | i50 =>
    (if (decide (i50 < (l1.length : Int))) then
      (idx got45 i50).bind fun x51 =>
      (idx l1 i50).bind fun x52 =>
      (reply_Same F x51 x52).bind fun r53 =>
      (if (!r53) then
        some (.ret false)
      else
        some (.nxt (IntKind.wrap .i64 (i50 + 1))))
    else
      some (.brk ()))
def law16_ReplyRows (F : Nat) (l1 : List ReplyV) (cuts2 : List Int) : Option (Bool) :=
  (law16_known F ).bind fun r3 =>
  (if (!r3) then
    some false
  else
    (if ((decide (12 < (l1.length : Int))) || (decide (100 < (cuts2.length : Int)))) then
      some true
    else
      ((iter (law16_ReplyRows_l1 F l1) F (([] : List UInt8), 0)).bind fun o61 =>
      match o61 with
      | .inr b17 =>
        ((reply_New ).bind fun r18 =>
        match r18 with
        | none =>
          some false
        | some t19 =>
          ((iter (law16_ReplyRows_l2 F cuts2) F (b17, ([] : List ReplyV), 0, t19, t19.splitter)).bind fun o59 =>
          match o59 with
          | .inr (got45, s46, s47) =>
            (if (!decide ((got45.length : Int) = (l1.length : Int))) then
              some false
            else
              ((iter (law16_ReplyRows_l3 F l1 got45) F 0).bind fun o57 =>
              match o57 with
              | .inr () =>
                (reply_Reader_Held_s (ReaderV.mk s47 s46.r s46.n s46.bad)).bind fun r55 => some (decide (r55 = 0))
              | .inl r56 =>
                some r56))
          | .inl r58 =>
            some r58))
      | .inl r60 =>
        some r60)))
set_option maxHeartbeats 2000000 in
theorem law16_ReplyRows_p1_ok {l1 : List ReplyV} {cuts2 : List Int} {H0 H : AH} (hfr : Fr H0 H0.length [] H) {K : Exit → Env → AH → Prop}
    (kn : ∀ H' : AH, Fr H0 H0.length [] H' → K .normal [(0, (.sl .n 2 (ml encReplyV l1))), (1, (.sl .n 1 (ml (iint .i64) cuts2))), (23, (.bool ((decide (12 < (l1.length : Int))) || (decide (100 < (cuts2.length : Int))))))] H') :
    AX Tryd.prog L_law16_ReplyRows 117 H0.length c_law16_ReplyRows_p1 K [(0, (.sl .n 2 (ml encReplyV l1))), (1, (.sl .n 1 (ml (iint .i64) cuts2)))] H := by
  refine AX.go (m := m_law16_ReplyRows_p1) rfl (by decide) fun K' hK => ?_
  have hle := hfr.le
  simp (disch := first | assumption | omega | (simp only [h_sl, h_al] <;> omega) | fail) only [WW, WH, ↓reduceIte, Nat.reduceEqDiff, Nat.reduceLT, Nat.reduceLeDiff, Nat.reduceAdd, Nat.reduceSub, Nat.reduceMul, Nat.reduceBEq, reduceCtorEq, if_false, if_true, L_law16_ReplyRows, m_law16_ReplyRows_p1, c_law16_ReplyRows_p1, encReplyV]
  rcases bcases ((decide (12 < (l1.length : Int)))) with hy3 | hy3
  · refine UG_nf hy3 ?_
    simp (disch := first | assumption | omega | (simp only [h_sl, h_al] <;> omega) | fail) only [WW, WH, ↓reduceIte, Nat.reduceEqDiff, Nat.reduceLT, Nat.reduceLeDiff, Nat.reduceAdd, Nat.reduceSub, Nat.reduceMul, Nat.reduceBEq, reduceCtorEq, if_false, if_true, L_law16_ReplyRows, hy3, encReplyV]
    refine hK _ _ _ _ _ ?_ (WxH.refl _) (kn _ hfr)
    exact WE.cons (Wx.nn) (WE.cons (Wx.nn) (WE.cons (Wx.boolE (by simp only [hy3, WB])) (WE.nil)))
  · refine UG_go hy3 ?_
    simp (disch := first | assumption | omega | (simp only [h_sl, h_al] <;> omega) | fail) only [WW, WH, ↓reduceIte, Nat.reduceEqDiff, Nat.reduceLT, Nat.reduceLeDiff, Nat.reduceAdd, Nat.reduceSub, Nat.reduceMul, Nat.reduceBEq, reduceCtorEq, if_false, if_true, L_law16_ReplyRows, hy3, encReplyV]
    refine hK _ _ _ _ _ ?_ (WxH.refl _) (kn _ hfr)
    exact WE.cons (Wx.nn) (WE.cons (Wx.nn) (WE.cons (Wx.boolE (by simp only [hy3, WB])) (WE.nil)))
set_option maxHeartbeats 2000000 in
theorem law16_ReplyRows_p2_ok {F : Nat} {l1 : List ReplyV} {i5 : Int} {cuts2 : List Int} {b4 : List UInt8} {H0 H : AH} (hfr : Fr H0 H0.length [] H) {K : Exit → Env → AH → Prop} {t10 : Bool}
    (h : law16_ReplyRows_p2 F l1 i5 = some t10)
    (kn : ∀ H' : AH, Fr H0 H0.length [] H' → K .normal [(0, (.sl .n 2 (ml encReplyV l1))), (1, (.sl .n 1 (ml (iint .i64) cuts2))), (5, (.sl .own 1 (ml b8 b4))), (6, (.int .i64 i5)), (44, (.bool t10))] H') :
    AX Tryd.prog L_law16_ReplyRows 117 H0.length c_law16_ReplyRows_p2 K [(0, (.sl .n 2 (ml encReplyV l1))), (1, (.sl .n 1 (ml (iint .i64) cuts2))), (5, (.sl .own 1 (ml b8 b4))), (6, (.int .i64 i5))] H := by
  refine AX.go (m := m_law16_ReplyRows_p2) rfl (by decide) fun K' hK => ?_
  have hle := hfr.le
  rw [law16_ReplyRows_p2.eq_1] at h
  obtain ⟨x6, hy6, h⟩ := bnd' h
  simp (disch := first | assumption | omega | (simp only [h_sl, h_al] <;> omega) | fail) only [WW, WH, ↓reduceIte, Nat.reduceEqDiff, Nat.reduceLT, Nat.reduceLeDiff, Nat.reduceAdd, Nat.reduceSub, Nat.reduceMul, Nat.reduceBEq, reduceCtorEq, if_false, if_true, L_law16_ReplyRows, m_law16_ReplyRows_p2, c_law16_ReplyRows_p2, hy6, encReplyV]
  obtain ⟨r7, hy7, h⟩ := bnd' h
  refine UK_e (as' := [(.agg [(.int .i64 x6.code), (.sl .n 1 (ml AV.str x6.lines))])]) (h := law16_Few_ok (r1 := x6) (F := F)  hy7) (hw := WL.cons (Wx.agg (W1L.same (W1L.same (W1L.nil)))) (WL.nil)) (hh := WxH.refl _) ?_
  simp (disch := first | assumption | omega | (simp only [h_sl, h_al] <;> omega) | fail) only [WW, WH, ↓reduceIte, Nat.reduceEqDiff, Nat.reduceLT, Nat.reduceLeDiff, Nat.reduceAdd, Nat.reduceSub, Nat.reduceMul, Nat.reduceBEq, reduceCtorEq, if_false, if_true, L_law16_ReplyRows, encReplyV]
  rcases ifb h with ⟨hy8, h⟩ | ⟨hy8, h⟩
  · refine UG_nf hy8 ?_
    simp (disch := first | assumption | omega | (simp only [h_sl, h_al] <;> omega) | fail) only [WW, WH, ↓reduceIte, Nat.reduceEqDiff, Nat.reduceLT, Nat.reduceLeDiff, Nat.reduceAdd, Nat.reduceSub, Nat.reduceMul, Nat.reduceBEq, reduceCtorEq, if_false, if_true, L_law16_ReplyRows, hy8, encReplyV]
    have hq := Option.some.inj h; subst hq
    refine hK _ _ _ _ _ ?_ (WxH.refl _) (kn _ hfr)
    exact WE.cons (Wx.nn) (WE.cons (Wx.nn) (WE.cons (Wx.oo) (WE.cons (Wx.int) (WE.cons (Wx.bool) (WE.nil)))))
  · refine UG_go hy8 ?_
    simp (disch := first | assumption | omega | (simp only [h_sl, h_al] <;> omega) | fail) only [WW, WH, ↓reduceIte, Nat.reduceEqDiff, Nat.reduceLT, Nat.reduceLeDiff, Nat.reduceAdd, Nat.reduceSub, Nat.reduceMul, Nat.reduceBEq, reduceCtorEq, if_false, if_true, L_law16_ReplyRows, hy8, hy6, encReplyV]
    obtain ⟨r8, hy9, h⟩ := bnd' h
    refine UK_e (as' := [(.agg [(.int .i64 x6.code), (.sl .n 1 (ml AV.str x6.lines))])]) (h := law16_Of_ok (r1 := x6)  hy9) (hw := WL.cons (Wx.agg (W1L.same (W1L.same (W1L.nil)))) (WL.nil)) (hh := WxH.refl _) ?_
    simp (disch := first | assumption | omega | (simp only [h_sl, h_al] <;> omega) | fail) only [WW, WH, ↓reduceIte, Nat.reduceEqDiff, Nat.reduceLT, Nat.reduceLeDiff, Nat.reduceAdd, Nat.reduceSub, Nat.reduceMul, Nat.reduceBEq, reduceCtorEq, if_false, if_true, L_law16_ReplyRows, encReplyV]
    obtain ⟨r9, hy10, h⟩ := bnd' h
    refine UK_e (as' := [(.agg [(.int .i64 r8.code), (.sl .n 1 (ml AV.str r8.lines))])]) (h := ref16_Right_ok (r1 := r8) (F := F)  hy10) (hw := WL.cons (Wx.agg (W1L.same (W1L.same (W1L.nil)))) (WL.nil)) (hh := WxH.refl _) ?_
    simp (disch := first | assumption | omega | (simp only [h_sl, h_al] <;> omega) | fail) only [WW, WH, ↓reduceIte, Nat.reduceEqDiff, Nat.reduceLT, Nat.reduceLeDiff, Nat.reduceAdd, Nat.reduceSub, Nat.reduceMul, Nat.reduceBEq, reduceCtorEq, if_false, if_true, L_law16_ReplyRows, encReplyV]
    have hq := Option.some.inj h; subst hq
    refine hK _ _ _ _ _ ?_ (WxH.refl _) (kn _ hfr)
    exact WE.cons (Wx.nn) (WE.cons (Wx.nn) (WE.cons (Wx.oo) (WE.cons (Wx.int) (WE.cons (Wx.bool) (WE.nil)))))
set_option maxHeartbeats 2000000 in
theorem law16_ReplyRows_l1_ok {F : Nat} {i5 : Int} {l1 : List ReplyV} {b4 : List UInt8} {cuts2 : List Int} {H0 H : AH} (hfr : Fr H0 H0.length [] H) {K : Exit → Env → AH → Prop} {o : (Bool) ⊕ ((List UInt8))}
    (h : iter (law16_ReplyRows_l1 F l1) F (b4, i5) = some o)
    (kb0 : ∀ o' : (List UInt8), o = .inr o' → ∀ H' : AH, Fr H0 H0.length [] H' → K (.exit 0) [(0, (.sl .n 2 (ml encReplyV l1))), (1, (.sl .n 1 (ml (iint .i64) cuts2))), (5, (.sl .own 1 (ml b8 o')))] H')
    (kr : ∀ o' : Bool, o = .inl o' → ∀ H' : AH, Fr H0 H0.length [] H' → K .ret [(4, (.bool o'))] H') :
    AX Tryd.prog L_law16_ReplyRows 117 H0.length c_law16_ReplyRows_l1 K [(0, (.sl .n 2 (ml encReplyV l1))), (1, (.sl .n 1 (ml (iint .i64) cuts2))), (5, (.sl .own 1 (ml b8 b4))), (6, (.int .i64 i5))] H := by
  refine AX.iter (m := m_law16_ReplyRows_l1b) rfl (by decide) (fun s e H1 => match s with | (b4, i5) => e = [(0, (.sl .n 2 (ml encReplyV l1))), (1, (.sl .n 1 (ml (iint .i64) cuts2))), (5, (.sl .own 1 (ml b8 b4))), (6, (.int .i64 i5))] ∧ Fr H0 H0.length [] H1) h ⟨rfl, hfr⟩ ?_
  skip
  rintro K' ⟨b4, i5⟩ st e H ⟨rfl, hfr⟩ h hN hB hR hX
  have hle := hfr.le
  rw [law16_ReplyRows_l1.eq_1] at h
  simp (disch := first | assumption | omega | (simp only [h_sl, h_al] <;> omega) | fail) only [WW, WH, ↓reduceIte, Nat.reduceEqDiff, Nat.reduceLT, Nat.reduceLeDiff, Nat.reduceAdd, Nat.reduceSub, Nat.reduceMul, Nat.reduceBEq, reduceCtorEq, if_false, if_true, L_law16_ReplyRows, m_law16_ReplyRows_l1b, encReplyV]
  rcases ifb h with ⟨hy5, h⟩ | ⟨hy5, h⟩
  · refine UC_t hy5 ?_
    simp (disch := first | assumption | omega | (simp only [h_sl, h_al] <;> omega) | fail) only [WW, WH, ↓reduceIte, Nat.reduceEqDiff, Nat.reduceLT, Nat.reduceLeDiff, Nat.reduceAdd, Nat.reduceSub, Nat.reduceMul, Nat.reduceBEq, reduceCtorEq, if_false, if_true, L_law16_ReplyRows, encReplyV]
    obtain ⟨t11, hy11, h⟩ := bnd' h
    refine UX_of (AX.weak ?_ (WxH.refl _) (law16_ReplyRows_p2_ok (F := F) (l1 := l1) (i5 := i5) (cuts2 := cuts2) (b4 := b4) (t10 := t11)  (hfr) hy11 ?_))
    · exact WE.cons (Wx.nn) (WE.cons (Wx.nn) (WE.cons (Wx.oo) (WE.cons (Wx.int) (WE.nil))))
    intro H hfr
    have hle := hfr.le
    simp (disch := first | assumption | omega | (simp only [h_sl, h_al] <;> omega) | fail) only [WW, WH, ↓reduceIte, Nat.reduceEqDiff, Nat.reduceLT, Nat.reduceLeDiff, Nat.reduceAdd, Nat.reduceSub, Nat.reduceMul, Nat.reduceBEq, reduceCtorEq, if_false, if_true, L_law16_ReplyRows, encReplyV]
    rcases ifb h with ⟨hy12, h⟩ | ⟨hy12, h⟩
    · refine UC_t hy12 ?_
      simp (disch := first | assumption | omega | (simp only [h_sl, h_al] <;> omega) | fail) only [WW, WH, ↓reduceIte, Nat.reduceEqDiff, Nat.reduceLT, Nat.reduceLeDiff, Nat.reduceAdd, Nat.reduceSub, Nat.reduceMul, Nat.reduceBEq, reduceCtorEq, if_false, if_true, L_law16_ReplyRows, encReplyV]
      have hq := Option.some.inj h; subst hq
      refine hX _ _ _ _ _ (by simp) ?_ (WxH.refl _) (kr _ (hR _ rfl) _ hfr)
      exact WE.cons (Wx.bool) (WE.nil)
    · refine UC_f hy12 ?_
      obtain ⟨x12, hy13, h⟩ := bnd' h
      simp (disch := first | assumption | omega | (simp only [h_sl, h_al] <;> omega) | fail) only [WW, WH, ↓reduceIte, Nat.reduceEqDiff, Nat.reduceLT, Nat.reduceLeDiff, Nat.reduceAdd, Nat.reduceSub, Nat.reduceMul, Nat.reduceBEq, reduceCtorEq, if_false, if_true, L_law16_ReplyRows, hy13, encReplyV]
      obtain ⟨r13, hy14, h⟩ := bnd' h
      refine UK_e (as' := [(.agg [(.int .i64 x12.code), (.sl .n 1 (ml AV.str x12.lines))])]) (h := reply_Print_ok (r1 := x12) (F := F)  hy14) (hw := WL.cons (Wx.agg (W1L.same (W1L.same (W1L.nil)))) (WL.nil)) (hh := WxH.refl _) ?_
      obtain ⟨x14, hy15, h⟩ := bnd' h
      have hy16 : capp 1 (ml b8 b4) (ml b8 r13) = some (ml b8 x14) := capp_m (f := b8) hy15
      simp (disch := first | assumption | omega | (simp only [h_sl, h_al] <;> omega) | fail) only [WW, WH, ↓reduceIte, Nat.reduceEqDiff, Nat.reduceLT, Nat.reduceLeDiff, Nat.reduceAdd, Nat.reduceSub, Nat.reduceMul, Nat.reduceBEq, reduceCtorEq, if_false, if_true, L_law16_ReplyRows, hy16, encReplyV]
      have hq := Option.some.inj h; subst hq
      refine hN _ rfl _ _ _ _ ?_ (WxH.refl _) ⟨rfl, hfr⟩
      exact WE.cons (Wx.nn) (WE.cons (Wx.nn) (WE.cons (Wx.oo) (WE.cons (Wx.int) (WE.nil))))
  · refine UC_f hy5 ?_
    simp (disch := first | assumption | omega | (simp only [h_sl, h_al] <;> omega) | fail) only [WW, WH, ↓reduceIte, Nat.reduceEqDiff, Nat.reduceLT, Nat.reduceLeDiff, Nat.reduceAdd, Nat.reduceSub, Nat.reduceMul, Nat.reduceBEq, reduceCtorEq, if_false, if_true, L_law16_ReplyRows, encReplyV]
    have hq := Option.some.inj h; subst hq
    refine hX _ _ _ _ _ (by simp) ?_ (WxH.refl _) (kb0 _ (hB _ rfl) _ hfr)
    exact WE.cons (Wx.nn) (WE.cons (Wx.nn) (WE.cons (Wx.oo) (WE.nil)))
set_option maxHeartbeats 2000000 in
theorem law16_ReplyRows_p3_ok {i26 : Int} {cuts2 : List Int} {b24 : List UInt8} {l1 : List ReplyV} {q29 : Nat} {got25 : List ReplyV} {q30 : Nat} {s27 : ReaderV} {s28 : SplitterV} {H0 H : AH} (hfr : Fr H0 H0.length [] H) (hs_o1 : H[q29]? = some [(.ptr q30 0), (.int .i64 s27.r.code), (.sl .own 1 (ml AV.str s27.r.lines)), (.int .i64 s27.n), (.bool s27.bad)]) (hs_o2 : H[q30]? = some [(.int .i64 s28.most), (.sl .own 1 (ml b8 s28.b)), (.int .i64 s28.state), (.bool s28.long)]) (hi0 : H0.length ≤ q29) (hi1 : H0.length ≤ q30) (hi2 : q29 ≠ q30) {K : Exit → Env → AH → Prop} {nn33 : Int}
    (h : law16_ReplyRows_p3 i26 cuts2 b24 = some nn33)
    (kn : ∀ H' : AH, Fr H0 H0.length [] H' → H'[q29]? = some [(.ptr q30 0), (.int .i64 s27.r.code), (.sl .own 1 (ml AV.str s27.r.lines)), (.int .i64 s27.n), (.bool s27.bad)] → H'[q30]? = some [(.int .i64 s28.most), (.sl .own 1 (ml b8 s28.b)), (.int .i64 s28.state), (.bool s28.long)] → K .normal [(0, (.sl .n 2 (ml encReplyV l1))), (1, (.sl .n 1 (ml (iint .i64) cuts2))), (5, (.sl .n 1 (ml b8 b24))), (7, (.ptr q29 0)), (8, (.sl .own 2 (ml encReplyV got25))), (9, (.int .i64 i26)), (10, (.int .i64 nn33))] H') :
    AX Tryd.prog L_law16_ReplyRows 117 H0.length c_law16_ReplyRows_p3 K [(0, (.sl .n 2 (ml encReplyV l1))), (1, (.sl .n 1 (ml (iint .i64) cuts2))), (5, (.sl .n 1 (ml b8 b24))), (7, (.ptr q29 0)), (8, (.sl .own 2 (ml encReplyV got25))), (9, (.int .i64 i26)), (10, (.int .i64 (b24.length : Int))), (65, (.bool (decide (i26 < (cuts2.length : Int)))))] H := by
  refine AX.go (m := m_law16_ReplyRows_p3) rfl (by decide) fun K' hK => ?_
  have hle := hfr.le
  have hl_o1 := h_lt hs_o1
  have hl_o2 := h_lt hs_o2
  rw [law16_ReplyRows_p3.eq_1] at h
  simp (disch := first | assumption | omega | (simp only [h_sl, h_al] <;> omega) | fail) only [WW, WH, ↓reduceIte, Nat.reduceEqDiff, Nat.reduceLT, Nat.reduceLeDiff, Nat.reduceAdd, Nat.reduceSub, Nat.reduceMul, Nat.reduceBEq, reduceCtorEq, if_false, if_true, L_law16_ReplyRows, m_law16_ReplyRows_p3, c_law16_ReplyRows_p3, hs_o1, hs_o2, encReplyV]
  rcases ifb h with ⟨hy20, h⟩ | ⟨hy20, h⟩
  · refine UC_t hy20 ?_
    obtain ⟨x31, hy21, h⟩ := bnd' h
    obtain ⟨x32, hy22, h⟩ := bnd' h
    simp (disch := first | assumption | omega | (simp only [h_sl, h_al] <;> omega) | fail) only [WW, WH, ↓reduceIte, Nat.reduceEqDiff, Nat.reduceLT, Nat.reduceLeDiff, Nat.reduceAdd, Nat.reduceSub, Nat.reduceMul, Nat.reduceBEq, reduceCtorEq, if_false, if_true, L_law16_ReplyRows, hy21, hy22, hs_o1, hs_o2, encReplyV]
    rcases ifb h with ⟨hy23, h⟩ | ⟨hy23, h⟩
    · refine UC_t hy23 ?_
      simp (disch := first | assumption | omega | (simp only [h_sl, h_al] <;> omega) | fail) only [WW, WH, ↓reduceIte, Nat.reduceEqDiff, Nat.reduceLT, Nat.reduceLeDiff, Nat.reduceAdd, Nat.reduceSub, Nat.reduceMul, Nat.reduceBEq, reduceCtorEq, if_false, if_true, L_law16_ReplyRows, hs_o1, hs_o2, encReplyV]
      have hq := Option.some.inj h; subst hq
      refine hK _ _ _ _ _ ?_ (WxH.refl _) (kn _ hfr ((hs_o1).trans rfl) ((hs_o2).trans rfl))
      exact WE.cons (Wx.nn) (WE.cons (Wx.nn) (WE.cons (Wx.nn) (WE.cons (Wx.ptr) (WE.cons (Wx.oo) (WE.cons (Wx.int) (WE.cons (Wx.int) (WE.nil)))))))
    · refine UC_f hy23 ?_
      simp (disch := first | assumption | omega | (simp only [h_sl, h_al] <;> omega) | fail) only [WW, WH, ↓reduceIte, Nat.reduceEqDiff, Nat.reduceLT, Nat.reduceLeDiff, Nat.reduceAdd, Nat.reduceSub, Nat.reduceMul, Nat.reduceBEq, reduceCtorEq, if_false, if_true, L_law16_ReplyRows, hs_o1, hs_o2, encReplyV]
      have hq := Option.some.inj h; subst hq
      refine hK _ _ _ _ _ ?_ (WxH.refl _) (kn _ hfr ((hs_o1).trans rfl) ((hs_o2).trans rfl))
      exact WE.cons (Wx.nn) (WE.cons (Wx.nn) (WE.cons (Wx.nn) (WE.cons (Wx.ptr) (WE.cons (Wx.oo) (WE.cons (Wx.int) (WE.cons (Wx.int) (WE.nil)))))))
  · refine UC_f hy20 ?_
    simp (disch := first | assumption | omega | (simp only [h_sl, h_al] <;> omega) | fail) only [WW, WH, ↓reduceIte, Nat.reduceEqDiff, Nat.reduceLT, Nat.reduceLeDiff, Nat.reduceAdd, Nat.reduceSub, Nat.reduceMul, Nat.reduceBEq, reduceCtorEq, if_false, if_true, L_law16_ReplyRows, hs_o1, hs_o2, encReplyV]
    have hq := Option.some.inj h; subst hq
    refine hK _ _ _ _ _ ?_ (WxH.refl _) (kn _ hfr ((hs_o1).trans rfl) ((hs_o2).trans rfl))
    exact WE.cons (Wx.nn) (WE.cons (Wx.nn) (WE.cons (Wx.nn) (WE.cons (Wx.ptr) (WE.cons (Wx.oo) (WE.cons (Wx.int) (WE.cons (Wx.int) (WE.nil)))))))
set_option maxHeartbeats 2000000 in
theorem law16_ReplyRows_l2_ok {F : Nat} {b24 : List UInt8} {i26 : Int} {cuts2 : List Int} {s28 : SplitterV} {s27 : ReaderV} {got25 : List ReplyV} {l1 : List ReplyV} {q22 : Nat} {q23 : Nat} {H0 H : AH} (hfr : Fr H0 H0.length [] H) (hs_o1 : H[q22]? = some [(.ptr q23 0), (.int .i64 s27.r.code), (.sl .own 1 (ml AV.str s27.r.lines)), (.int .i64 s27.n), (.bool s27.bad)]) (hs_o2 : H[q23]? = some [(.int .i64 s28.most), (.sl .own 1 (ml b8 s28.b)), (.int .i64 s28.state), (.bool s28.long)]) (hi0 : H0.length ≤ q22) (hi1 : H0.length ≤ q23) (hi2 : q22 ≠ q23) {K : Exit → Env → AH → Prop} {o : (Bool) ⊕ ((List ReplyV) × ReaderV × SplitterV)}
    (h : iter (law16_ReplyRows_l2 F cuts2) F (b24, got25, i26, s27, s28) = some o)
    (kb2 : ∀ o' : (List ReplyV) × ReaderV × SplitterV, o = .inr o' → ∀ H' : AH, Fr H0 H0.length [] H' → H'[q22]? = some [(.ptr q23 0), (.int .i64 o'.2.1.r.code), (.sl .own 1 (ml AV.str o'.2.1.r.lines)), (.int .i64 o'.2.1.n), (.bool o'.2.1.bad)] → H'[q23]? = some [(.int .i64 o'.2.2.most), (.sl .own 1 (ml b8 o'.2.2.b)), (.int .i64 o'.2.2.state), (.bool o'.2.2.long)] → K (.exit 2) [(0, (.sl .n 2 (ml encReplyV l1))), (7, (.ptr q22 0)), (8, (.sl .own 2 (ml encReplyV o'.1)))] H')
    (kr : ∀ o' : Bool, o = .inl o' → ∀ H' : AH, Fr H0 H0.length [] H' → K .ret [(4, (.bool o'))] H') :
    AX Tryd.prog L_law16_ReplyRows 117 H0.length c_law16_ReplyRows_l2 K [(0, (.sl .n 2 (ml encReplyV l1))), (1, (.sl .n 1 (ml (iint .i64) cuts2))), (5, (.sl .n 1 (ml b8 b24))), (7, (.ptr q22 0)), (8, (.sl .own 2 (ml encReplyV got25))), (9, (.int .i64 i26))] H := by
  refine AX.iter (m := m_law16_ReplyRows_l2b) rfl (by decide) (fun s e H1 => match s with | (b24, got25, i26, s27, s28) => e = [(0, (.sl .n 2 (ml encReplyV l1))), (1, (.sl .n 1 (ml (iint .i64) cuts2))), (5, (.sl .n 1 (ml b8 b24))), (7, (.ptr q22 0)), (8, (.sl .own 2 (ml encReplyV got25))), (9, (.int .i64 i26))] ∧ Fr H0 H0.length [] H1 ∧ H1[q22]? = some [(.ptr q23 0), (.int .i64 s27.r.code), (.sl .own 1 (ml AV.str s27.r.lines)), (.int .i64 s27.n), (.bool s27.bad)] ∧ H1[q23]? = some [(.int .i64 s28.most), (.sl .own 1 (ml b8 s28.b)), (.int .i64 s28.state), (.bool s28.long)]) h ⟨rfl, hfr, hs_o1, hs_o2⟩ ?_
  skip
  rintro K' ⟨b24, got25, i26, s27, s28⟩ st e H ⟨rfl, hfr, hs_o1, hs_o2⟩ h hN hB hR hX
  have hle := hfr.le
  have hl_o1 := h_lt hs_o1
  have hl_o2 := h_lt hs_o2
  rw [law16_ReplyRows_l2.eq_1] at h
  simp (disch := first | assumption | omega | (simp only [h_sl, h_al] <;> omega) | fail) only [WW, WH, ↓reduceIte, Nat.reduceEqDiff, Nat.reduceLT, Nat.reduceLeDiff, Nat.reduceAdd, Nat.reduceSub, Nat.reduceMul, Nat.reduceBEq, reduceCtorEq, if_false, if_true, L_law16_ReplyRows, m_law16_ReplyRows_l2b, hs_o1, hs_o2, encReplyV]
  rcases ifb h with ⟨hy19, h⟩ | ⟨hy19, h⟩
  · refine UC_t hy19 ?_
    simp (disch := first | assumption | omega | (simp only [h_sl, h_al] <;> omega) | fail) only [WW, WH, ↓reduceIte, Nat.reduceEqDiff, Nat.reduceLT, Nat.reduceLeDiff, Nat.reduceAdd, Nat.reduceSub, Nat.reduceMul, Nat.reduceBEq, reduceCtorEq, if_false, if_true, L_law16_ReplyRows, hs_o1, hs_o2, encReplyV]
    obtain ⟨nn34, hy24, h⟩ := bnd' h
    refine UX_of (AX.weak ?_ (WxH.refl _) (law16_ReplyRows_p3_ok  (i26 := i26) (cuts2 := cuts2) (b24 := b24) (l1 := l1) (got25 := got25) (s27 := s27) (s28 := s28) (nn33 := nn34) (q29 := q22) (q30 := q23) (hfr) ((hs_o1).trans rfl) ((hs_o2).trans rfl) (by first | assumption | omega | (simp only [h_sl, h_al] <;> omega) | fail) (by first | assumption | omega | (simp only [h_sl, h_al] <;> omega) | fail) (by first | assumption | omega | (simp only [h_sl, h_al] <;> omega) | fail) hy24 ?_))
    · exact WE.cons (Wx.nn) (WE.cons (Wx.nn) (WE.cons (Wx.nn) (WE.cons (Wx.ptr) (WE.cons (Wx.oo) (WE.cons (Wx.int) (WE.cons (Wx.int) (WE.cons (Wx.bool) (WE.nil))))))))
    intro H hfr hs_o1 hs_o2
    have hle := hfr.le
    have hl_o1 := h_lt hs_o1
    have hl_o2 := h_lt hs_o2
    obtain ⟨x35, hy25, h⟩ := bnd' h
    have hy26 := sub_m (f := b8) hy25
    simp (disch := first | assumption | omega | (simp only [h_sl, h_al] <;> omega) | fail) only [WW, WH, ↓reduceIte, Nat.reduceEqDiff, Nat.reduceLT, Nat.reduceLeDiff, Nat.reduceAdd, Nat.reduceSub, Nat.reduceMul, Nat.reduceBEq, reduceCtorEq, if_false, if_true, L_law16_ReplyRows, hy25, hs_o1, hs_o2, encReplyV]
    obtain ⟨⟨r36, r37, r38⟩, hy27, h⟩ := bnd' h
    dsimp only at h
    refine UK_e (as' := [(.ptr q22 0), (.sl .n 1 (ml b8 x35))]) (h := reply_Reader_Feed_ok (r2 := (ReaderV.mk s28 s27.r s27.n s27.bad)) (b4 := x35) (q1 := q22) (q3 := q23) (F := F) (by exact ((hs_o1).trans rfl)) (by exact ((hs_o2).trans rfl)) (by first | assumption | omega | (simp only [h_sl, h_al] <;> omega) | fail) hy27) (hw := WL.cons (Wx.ptr) (WL.cons (Wx.nn) (WL.nil))) (hh := WxH.refl _) ?_
    simp (disch := first | assumption | omega | (simp only [h_sl, h_al] <;> omega) | fail) only [WW, WH, ↓reduceIte, Nat.reduceEqDiff, Nat.reduceLT, Nat.reduceLeDiff, Nat.reduceAdd, Nat.reduceSub, Nat.reduceMul, Nat.reduceBEq, reduceCtorEq, if_false, if_true, L_law16_ReplyRows, hs_o1, hs_o2, encReplyV]
    rcases ifb h with ⟨hy28, h⟩ | ⟨hy28, h⟩
    · refine UC_t hy28 ?_
      simp (disch := first | assumption | omega | (simp only [h_sl, h_al] <;> omega) | fail) only [WW, WH, ↓reduceIte, Nat.reduceEqDiff, Nat.reduceLT, Nat.reduceLeDiff, Nat.reduceAdd, Nat.reduceSub, Nat.reduceMul, Nat.reduceBEq, reduceCtorEq, if_false, if_true, L_law16_ReplyRows, hs_o1, hs_o2, encReplyV]
      have hq := Option.some.inj h; subst hq
      refine hX _ _ _ _ _ (by simp) ?_ (WxH.refl _) (kr _ (hR _ rfl) _ (Fr.set (s := q23) (Fr.set (s := q22) hfr (.inr (by first | assumption | omega | (simp only [h_sl, h_al] <;> omega) | fail))) (.inr (by first | assumption | omega | (simp only [h_sl, h_al] <;> omega) | fail))))
      exact WE.cons (Wx.bool) (WE.nil)
    · refine UC_f hy28 ?_
      obtain ⟨x39, hy29, h⟩ := bnd' h
      have hy30 : capp 32 (ml encReplyV got25) (ml encReplyV r36) = some (ml encReplyV x39) := capp_m (f := encReplyV) hy29
      obtain ⟨x40, hy31, h⟩ := bnd' h
      have hy32 := sub_m (f := b8) hy31
      simp (disch := first | assumption | omega | (simp only [h_sl, h_al] <;> omega) | fail) only [WW, WH, ↓reduceIte, Nat.reduceEqDiff, Nat.reduceLT, Nat.reduceLeDiff, Nat.reduceAdd, Nat.reduceSub, Nat.reduceMul, Nat.reduceBEq, reduceCtorEq, if_false, if_true, L_law16_ReplyRows, hy30, hy31, hs_o1, hs_o2, encReplyV]
      have hq := Option.some.inj h; subst hq
      refine hN _ rfl _ _ _ _ ?_ (WxH.refl _) ⟨rfl, (Fr.set (s := q23) (Fr.set (s := q22) hfr (.inr (by first | assumption | omega | (simp only [h_sl, h_al] <;> omega) | fail))) (.inr (by first | assumption | omega | (simp only [h_sl, h_al] <;> omega) | fail))), (((h_ne (by first | assumption | omega | (simp only [h_sl, h_al] <;> omega) | fail)).trans (h_eq (by first | assumption | omega | (simp only [h_sl, h_al] <;> omega) | fail))).trans rfl), ((h_eq (by first | assumption | omega | (simp only [h_sl, h_al] <;> omega) | fail)).trans rfl)⟩
      exact WE.cons (Wx.nn) (WE.cons (Wx.nn) (WE.cons (Wx.nn) (WE.cons (Wx.ptr) (WE.cons (Wx.oo) (WE.cons (Wx.int) (WE.nil))))))
  · refine UC_f hy19 ?_
    simp (disch := first | assumption | omega | (simp only [h_sl, h_al] <;> omega) | fail) only [WW, WH, ↓reduceIte, Nat.reduceEqDiff, Nat.reduceLT, Nat.reduceLeDiff, Nat.reduceAdd, Nat.reduceSub, Nat.reduceMul, Nat.reduceBEq, reduceCtorEq, if_false, if_true, L_law16_ReplyRows, hs_o1, hs_o2, encReplyV]
    have hq := Option.some.inj h; subst hq
    refine hX _ _ _ _ _ (by simp) ?_ (WxH.refl _) (kb2 _ (hB _ rfl) _ hfr ((hs_o1).trans rfl) ((hs_o2).trans rfl))
    exact WE.cons (Wx.nn) (WE.cons (Wx.ptr) (WE.cons (Wx.oo) (WE.nil)))
set_option maxHeartbeats 2000000 in
theorem law16_ReplyRows_l3_ok {F : Nat} {i50 : Int} {l1 : List ReplyV} {got45 : List ReplyV} {q48 : Nat} {q49 : Nat} {s46 : ReaderV} {s47 : SplitterV} {H0 H : AH} (hfr : Fr H0 H0.length [] H) (hs_o1 : H[q48]? = some [(.ptr q49 0), (.int .i64 s46.r.code), (.sl .own 1 (ml AV.str s46.r.lines)), (.int .i64 s46.n), (.bool s46.bad)]) (hs_o2 : H[q49]? = some [(.int .i64 s47.most), (.sl .own 1 (ml b8 s47.b)), (.int .i64 s47.state), (.bool s47.long)]) (hi0 : H0.length ≤ q48) (hi1 : H0.length ≤ q49) (hi2 : q48 ≠ q49) {K : Exit → Env → AH → Prop} {o : (Bool) ⊕ (Unit)}
    (h : iter (law16_ReplyRows_l3 F l1 got45) F i50 = some o)
    (kb4 : ∀ o' : Unit, o = .inr o' → ∀ H' : AH, Fr H0 H0.length [] H' → H'[q48]? = some [(.ptr q49 0), (.int .i64 s46.r.code), (.sl .own 1 (ml AV.str s46.r.lines)), (.int .i64 s46.n), (.bool s46.bad)] → H'[q49]? = some [(.int .i64 s47.most), (.sl .own 1 (ml b8 s47.b)), (.int .i64 s47.state), (.bool s47.long)] → K (.exit 4) [(7, (.ptr q48 0))] H')
    (kr : ∀ o' : Bool, o = .inl o' → ∀ H' : AH, Fr H0 H0.length [] H' → K .ret [(4, (.bool o'))] H') :
    AX Tryd.prog L_law16_ReplyRows 117 H0.length c_law16_ReplyRows_l3 K [(0, (.sl .n 2 (ml encReplyV l1))), (7, (.ptr q48 0)), (8, (.sl .own 2 (ml encReplyV got45))), (13, (.int .i64 i50))] H := by
  refine AX.iter (m := m_law16_ReplyRows_l3b) rfl (by decide) (fun s e H1 => match s with | i50 => e = [(0, (.sl .n 2 (ml encReplyV l1))), (7, (.ptr q48 0)), (8, (.sl .own 2 (ml encReplyV got45))), (13, (.int .i64 i50))] ∧ Fr H0 H0.length [] H1 ∧ H1[q48]? = some [(.ptr q49 0), (.int .i64 s46.r.code), (.sl .own 1 (ml AV.str s46.r.lines)), (.int .i64 s46.n), (.bool s46.bad)] ∧ H1[q49]? = some [(.int .i64 s47.most), (.sl .own 1 (ml b8 s47.b)), (.int .i64 s47.state), (.bool s47.long)]) h ⟨rfl, hfr, hs_o1, hs_o2⟩ ?_
  skip
  rintro K' i50 st e H ⟨rfl, hfr, hs_o1, hs_o2⟩ h hN hB hR hX
  have hle := hfr.le
  have hl_o1 := h_lt hs_o1
  have hl_o2 := h_lt hs_o2
  rw [law16_ReplyRows_l3.eq_1] at h
  simp (disch := first | assumption | omega | (simp only [h_sl, h_al] <;> omega) | fail) only [WW, WH, ↓reduceIte, Nat.reduceEqDiff, Nat.reduceLT, Nat.reduceLeDiff, Nat.reduceAdd, Nat.reduceSub, Nat.reduceMul, Nat.reduceBEq, reduceCtorEq, if_false, if_true, L_law16_ReplyRows, m_law16_ReplyRows_l3b, c_law16_ReplyRows_l3b, hs_o1, hs_o2, encReplyV]
  rcases ifb h with ⟨hy35, h⟩ | ⟨hy35, h⟩
  · refine UC_t hy35 ?_
    obtain ⟨x51, hy36, h⟩ := bnd' h
    obtain ⟨x52, hy37, h⟩ := bnd' h
    simp (disch := first | assumption | omega | (simp only [h_sl, h_al] <;> omega) | fail) only [WW, WH, ↓reduceIte, Nat.reduceEqDiff, Nat.reduceLT, Nat.reduceLeDiff, Nat.reduceAdd, Nat.reduceSub, Nat.reduceMul, Nat.reduceBEq, reduceCtorEq, if_false, if_true, L_law16_ReplyRows, hy36, hy37, hs_o1, hs_o2, encReplyV]
    obtain ⟨r53, hy38, h⟩ := bnd' h
    refine UK_e (as' := [(.agg [(.int .i64 x51.code), (.sl .n 1 (ml AV.str x51.lines))]), (.agg [(.int .i64 x52.code), (.sl .n 1 (ml AV.str x52.lines))])]) (h := reply_Same_ok (a1 := x51) (b2 := x52) (F := F)  hy38) (hw := WL.cons (Wx.agg (W1L.same (W1L.same (W1L.nil)))) (WL.cons (Wx.agg (W1L.same (W1L.same (W1L.nil)))) (WL.nil))) (hh := WxH.refl _) ?_
    simp (disch := first | assumption | omega | (simp only [h_sl, h_al] <;> omega) | fail) only [WW, WH, ↓reduceIte, Nat.reduceEqDiff, Nat.reduceLT, Nat.reduceLeDiff, Nat.reduceAdd, Nat.reduceSub, Nat.reduceMul, Nat.reduceBEq, reduceCtorEq, if_false, if_true, L_law16_ReplyRows, hs_o1, hs_o2, encReplyV]
    rcases ifb h with ⟨hy39, h⟩ | ⟨hy39, h⟩
    · refine UC_t hy39 ?_
      simp (disch := first | assumption | omega | (simp only [h_sl, h_al] <;> omega) | fail) only [WW, WH, ↓reduceIte, Nat.reduceEqDiff, Nat.reduceLT, Nat.reduceLeDiff, Nat.reduceAdd, Nat.reduceSub, Nat.reduceMul, Nat.reduceBEq, reduceCtorEq, if_false, if_true, L_law16_ReplyRows, hs_o1, hs_o2, encReplyV]
      have hq := Option.some.inj h; subst hq
      refine hX _ _ _ _ _ (by simp) ?_ (WxH.refl _) (kr _ (hR _ rfl) _ hfr)
      exact WE.cons (Wx.bool) (WE.nil)
    · refine UC_f hy39 ?_
      simp (disch := first | assumption | omega | (simp only [h_sl, h_al] <;> omega) | fail) only [WW, WH, ↓reduceIte, Nat.reduceEqDiff, Nat.reduceLT, Nat.reduceLeDiff, Nat.reduceAdd, Nat.reduceSub, Nat.reduceMul, Nat.reduceBEq, reduceCtorEq, if_false, if_true, L_law16_ReplyRows, hs_o1, hs_o2, encReplyV]
      have hq := Option.some.inj h; subst hq
      refine hN _ rfl _ _ _ _ ?_ (WxH.refl _) ⟨rfl, hfr, ((hs_o1).trans rfl), ((hs_o2).trans rfl)⟩
      exact WE.cons (Wx.nn) (WE.cons (Wx.ptr) (WE.cons (Wx.oo) (WE.cons (Wx.int) (WE.nil))))
  · refine UC_f hy35 ?_
    simp (disch := first | assumption | omega | (simp only [h_sl, h_al] <;> omega) | fail) only [WW, WH, ↓reduceIte, Nat.reduceEqDiff, Nat.reduceLT, Nat.reduceLeDiff, Nat.reduceAdd, Nat.reduceSub, Nat.reduceMul, Nat.reduceBEq, reduceCtorEq, if_false, if_true, L_law16_ReplyRows, hs_o1, hs_o2, encReplyV]
    have hq := Option.some.inj h; subst hq
    refine hX _ _ _ _ _ (by simp) ?_ (WxH.refl _) (kb4 _ (hB _ rfl) _ hfr ((hs_o1).trans rfl) ((hs_o2).trans rfl))
    exact WE.cons (Wx.ptr) (WE.nil)
set_option maxHeartbeats 2000000 in
theorem law16_ReplyRows_ok {F : Nat} {l1 : List ReplyV} {cuts2 : List Int}  {H0 : AH}  {rz0 : Bool} (h : law16_ReplyRows F l1 cuts2 = some rz0) :
    ACalls Tryd.prog 7 [(.sl .n 2 (ml encReplyV l1)), (.sl .n 1 (ml (iint .i64) cuts2))] H0 fun v H' => v = (.bool rz0) ∧ H' = H0 := by
  refine ACalls.goX k_law16_ReplyRows (m := m_law16_ReplyRows) rfl L_law16_ReplyRows (by decide) (by simp) fun hcl K0 hK0 => ?_
  refine AX.of_U (m := m_law16_ReplyRows) rfl (by decide) ?_
  have hfr := Fr.refl H0 []
  have hle := hfr.le
  rw [law16_ReplyRows.eq_1] at h
  obtain ⟨H, hHH⟩ : ∃ H, H = H0 := ⟨_, rfl⟩
  have hfr : Fr H0 H0.length [] H := hHH ▸ hfr
  have hle := hfr.le
  suffices hU : U Tryd.prog L_law16_ReplyRows 117 H0.length [.code m_law16_ReplyRows] K0 .normal (argE 0 [(.sl .n 2 (ml encReplyV l1)), (.sl .n 1 (ml (iint .i64) cuts2))]) H by rwa [hHH] at hU
  simp (disch := first | assumption | omega | (simp only [h_sl, h_al] <;> omega) | fail) only [WW, WH, ↓reduceIte, Nat.reduceEqDiff, Nat.reduceLT, Nat.reduceLeDiff, Nat.reduceAdd, Nat.reduceSub, Nat.reduceMul, Nat.reduceBEq, reduceCtorEq, if_false, if_true, L_law16_ReplyRows, m_law16_ReplyRows, encReplyV]
  obtain ⟨r3, hy1, h⟩ := bnd' h
  refine UK_e (as' := []) (h := law16_known_ok  (F := F)  hy1) (hw := WL.nil) (hh := WxH.refl _) ?_
  simp (disch := first | assumption | omega | (simp only [h_sl, h_al] <;> omega) | fail) only [WW, WH, ↓reduceIte, Nat.reduceEqDiff, Nat.reduceLT, Nat.reduceLeDiff, Nat.reduceAdd, Nat.reduceSub, Nat.reduceMul, Nat.reduceBEq, reduceCtorEq, if_false, if_true, L_law16_ReplyRows, encReplyV]
  rcases ifb h with ⟨hy2, h⟩ | ⟨hy2, h⟩
  · refine UC_t hy2 ?_
    simp (disch := first | assumption | omega | (simp only [h_sl, h_al] <;> omega) | fail) only [WW, WH, ↓reduceIte, Nat.reduceEqDiff, Nat.reduceLT, Nat.reduceLeDiff, Nat.reduceAdd, Nat.reduceSub, Nat.reduceMul, Nat.reduceBEq, reduceCtorEq, if_false, if_true, L_law16_ReplyRows, encReplyV]
    have hq := Option.some.inj h; subst hq
    refine hK0 _ _ _ (.inr rfl) ?_
    exact fn_end0 (by exact hfr) hcl (resv_tmp (a := (.bool false)) rfl rfl resv_nil) (by simp [fin, AV.df, AV.sh, AV.sh1, b_df, b_sh, b_sh1, b_Cl]) (Wx.bool) (r' := (.bool false)) ⟨rfl, rfl⟩
  · refine UC_f hy2 ?_
    simp (disch := first | assumption | omega | (simp only [h_sl, h_al] <;> omega) | fail) only [WW, WH, ↓reduceIte, Nat.reduceEqDiff, Nat.reduceLT, Nat.reduceLeDiff, Nat.reduceAdd, Nat.reduceSub, Nat.reduceMul, Nat.reduceBEq, reduceCtorEq, if_false, if_true, L_law16_ReplyRows, encReplyV]
    refine UX_of (AX.weak ?_ (WxH.refl _) (law16_ReplyRows_p1_ok (l1 := l1) (cuts2 := cuts2) (hfr) ?_))
    · exact WE.cons (Wx.nn) (WE.cons (Wx.nn) (WE.nil))
    intro H hfr 
    have hle := hfr.le
    simp (disch := first | assumption | omega | (simp only [h_sl, h_al] <;> omega) | fail) only [WW, WH, ↓reduceIte, Nat.reduceEqDiff, Nat.reduceLT, Nat.reduceLeDiff, Nat.reduceAdd, Nat.reduceSub, Nat.reduceMul, Nat.reduceBEq, reduceCtorEq, if_false, if_true, L_law16_ReplyRows, encReplyV]
    rcases ifb h with ⟨hy4, h⟩ | ⟨hy4, h⟩
    · refine UC_t hy4 ?_
      simp (disch := first | assumption | omega | (simp only [h_sl, h_al] <;> omega) | fail) only [WW, WH, ↓reduceIte, Nat.reduceEqDiff, Nat.reduceLT, Nat.reduceLeDiff, Nat.reduceAdd, Nat.reduceSub, Nat.reduceMul, Nat.reduceBEq, reduceCtorEq, if_false, if_true, L_law16_ReplyRows, encReplyV]
      have hq := Option.some.inj h; subst hq
      refine hK0 _ _ _ (.inr rfl) ?_
      exact fn_end0 (by exact hfr) hcl (resv_tmp (a := (.bool true)) rfl rfl resv_nil) (by simp [fin, AV.df, AV.sh, AV.sh1, b_df, b_sh, b_sh1, b_Cl]) (Wx.bool) (r' := (.bool true)) ⟨rfl, rfl⟩
    · refine UC_f hy4 ?_
      simp (disch := first | assumption | omega | (simp only [h_sl, h_al] <;> omega) | fail) only [WW, WH, ↓reduceIte, Nat.reduceEqDiff, Nat.reduceLT, Nat.reduceLeDiff, Nat.reduceAdd, Nat.reduceSub, Nat.reduceMul, Nat.reduceBEq, reduceCtorEq, if_false, if_true, L_law16_ReplyRows, encReplyV]
      obtain ⟨o61, hy17, h⟩ := bnd' h
      refine UX_of (AX.weak ?_ (WxH.refl _) (law16_ReplyRows_l1_ok  (l1 := l1) (cuts2 := cuts2) (b4 := ([] : List UInt8)) (i5 := 0)  (hfr) (o := o61) hy17 ?_ ?_))
      · exact WE.cons (Wx.nn) (WE.cons (Wx.nn) (WE.cons (Wx.own ..) (WE.cons (Wx.int) (WE.nil))))
      · rintro b17 rfl H hfr
        try dsimp only at h 
        have hle := hfr.le
        simp (disch := first | assumption | omega | (simp only [h_sl, h_al] <;> omega) | fail) only [WW, WH, ↓reduceIte, Nat.reduceEqDiff, Nat.reduceLT, Nat.reduceLeDiff, Nat.reduceAdd, Nat.reduceSub, Nat.reduceMul, Nat.reduceBEq, reduceCtorEq, if_false, if_true, L_law16_ReplyRows, encReplyV]
        obtain ⟨r18, hy18, h⟩ := bnd' h
        rcases r18 with _ | t19
        · try dsimp only at h
          refine UK_x (as' := []) (h := reply_New_ok   hy18) (hw := WL.nil) (hh := WxH.refl _) ?_
          rintro _ H ⟨rfl, hfrn⟩
          have hfr := Fr.trans hfr hfrn (by simp)
          have hle := hfr.le
          simp (disch := first | assumption | omega | (simp only [h_sl, h_al] <;> omega) | fail) only [WW, WH, ↓reduceIte, Nat.reduceEqDiff, Nat.reduceLT, Nat.reduceLeDiff, Nat.reduceAdd, Nat.reduceSub, Nat.reduceMul, Nat.reduceBEq, reduceCtorEq, if_false, if_true, L_law16_ReplyRows, encReplyV]
          have hq := Option.some.inj h; subst hq
          refine hK0 _ _ _ (.inr rfl) ?_
          exact fn_end0 (by exact hfr) hcl (resv_tmp (a := (.bool false)) rfl rfl resv_nil) (by simp [fin, AV.df, AV.sh, AV.sh1, b_df, b_sh, b_sh1, b_Cl]) (Wx.bool) (r' := (.bool false)) ⟨rfl, rfl⟩
        · try dsimp only at h
          refine UK_x (as' := []) (h := reply_New_ok   hy18) (hw := WL.nil) (hh := WxH.refl _) ?_
          rintro _ H ⟨q20, q21, rfl, hgn0, hgn1, hnn1_0, hfrn, hs_o1, hs_o2⟩
          try simp only [h_sl, h_al] at hgn0 hgn1
          have hfr := Fr.trans hfr hfrn (by simp)
          have hle := hfr.le
          have hl_o1 := h_lt hs_o1
          have hl_o2 := h_lt hs_o2
          simp (disch := first | assumption | omega | (simp only [h_sl, h_al] <;> omega) | fail) only [WW, WH, ↓reduceIte, Nat.reduceEqDiff, Nat.reduceLT, Nat.reduceLeDiff, Nat.reduceAdd, Nat.reduceSub, Nat.reduceMul, Nat.reduceBEq, reduceCtorEq, if_false, if_true, L_law16_ReplyRows, hs_o1, hs_o2, encReplyV]
          obtain ⟨o59, hy33, h⟩ := bnd' h
          refine UX_of (AX.weak ?_ (WxH.refl _) (law16_ReplyRows_l2_ok  (cuts2 := cuts2) (l1 := l1) (b24 := b17) (got25 := ([] : List ReplyV)) (i26 := 0) (s27 := t19) (s28 := t19.splitter) (q22 := q20) (q23 := q21) (hfr) ((hs_o1).trans rfl) ((hs_o2).trans rfl) (by first | assumption | omega | (simp only [h_sl, h_al] <;> omega) | fail) (by first | assumption | omega | (simp only [h_sl, h_al] <;> omega) | fail) (by first | assumption | omega | (simp only [h_sl, h_al] <;> omega) | fail) (o := o59) hy33 ?_ ?_))
          · exact WE.cons (Wx.nn) (WE.cons (Wx.nn) (WE.cons (Wx.n) (WE.cons (Wx.ptr) (WE.cons (Wx.own ..) (WE.cons (Wx.int) (WE.nil))))))
          · rintro ⟨got45, s46, s47⟩ rfl H hfr hs_o1 hs_o2
            try dsimp only at h hs_o1 hs_o2
            have hle := hfr.le
            have hl_o1 := h_lt hs_o1
            have hl_o2 := h_lt hs_o2
            simp (disch := first | assumption | omega | (simp only [h_sl, h_al] <;> omega) | fail) only [WW, WH, ↓reduceIte, Nat.reduceEqDiff, Nat.reduceLT, Nat.reduceLeDiff, Nat.reduceAdd, Nat.reduceSub, Nat.reduceMul, Nat.reduceBEq, reduceCtorEq, if_false, if_true, L_law16_ReplyRows, hs_o1, hs_o2, encReplyV]
            rcases ifb h with ⟨hy34, h⟩ | ⟨hy34, h⟩
            · refine UC_t hy34 ?_
              simp (disch := first | assumption | omega | (simp only [h_sl, h_al] <;> omega) | fail) only [WW, WH, ↓reduceIte, Nat.reduceEqDiff, Nat.reduceLT, Nat.reduceLeDiff, Nat.reduceAdd, Nat.reduceSub, Nat.reduceMul, Nat.reduceBEq, reduceCtorEq, if_false, if_true, L_law16_ReplyRows, hs_o1, hs_o2, encReplyV]
              have hq := Option.some.inj h; subst hq
              refine hK0 _ _ _ (.inr rfl) ?_
              exact fn_end0 (by exact hfr) hcl (resv_tmp (a := (.bool false)) rfl rfl resv_nil) (by simp [fin, AV.df, AV.sh, AV.sh1, b_df, b_sh, b_sh1, b_Cl]) (Wx.bool) (r' := (.bool false)) ⟨rfl, rfl⟩
            · refine UC_f hy34 ?_
              simp (disch := first | assumption | omega | (simp only [h_sl, h_al] <;> omega) | fail) only [WW, WH, ↓reduceIte, Nat.reduceEqDiff, Nat.reduceLT, Nat.reduceLeDiff, Nat.reduceAdd, Nat.reduceSub, Nat.reduceMul, Nat.reduceBEq, reduceCtorEq, if_false, if_true, L_law16_ReplyRows, hs_o1, hs_o2, encReplyV]
              obtain ⟨o57, hy40, h⟩ := bnd' h
              refine UX_of (AX.weak ?_ (WxH.refl _) (law16_ReplyRows_l3_ok  (l1 := l1) (got45 := got45) (s46 := s46) (s47 := s47) (i50 := 0) (q48 := q20) (q49 := q21) (hfr) ((hs_o1).trans rfl) ((hs_o2).trans rfl) (by first | assumption | omega | (simp only [h_sl, h_al] <;> omega) | fail) (by first | assumption | omega | (simp only [h_sl, h_al] <;> omega) | fail) (by first | assumption | omega | (simp only [h_sl, h_al] <;> omega) | fail) (o := o57) hy40 ?_ ?_))
              · exact WE.cons (Wx.nn) (WE.cons (Wx.ptr) (WE.cons (Wx.oo) (WE.cons (Wx.int) (WE.nil))))
              · rintro ⟨⟩ rfl H hfr hs_o1 hs_o2
                try dsimp only at h hs_o1 hs_o2
                have hle := hfr.le
                have hl_o1 := h_lt hs_o1
                have hl_o2 := h_lt hs_o2
                simp (disch := first | assumption | omega | (simp only [h_sl, h_al] <;> omega) | fail) only [WW, WH, ↓reduceIte, Nat.reduceEqDiff, Nat.reduceLT, Nat.reduceLeDiff, Nat.reduceAdd, Nat.reduceSub, Nat.reduceMul, Nat.reduceBEq, reduceCtorEq, if_false, if_true, L_law16_ReplyRows, hs_o1, hs_o2, encReplyV]
                obtain ⟨r55, hy41, h⟩ := bnd' h
                refine UK_e (as' := [(.ptr q20 0)]) (h := ACalls.ofE (reply_Reader_Held_s_ok (r1 := (ReaderV.mk s47 s46.r s46.n s46.bad)) (H0 := []) hy41) (PEL.cons (.one _ _ (PE1.ptrL (by exact ((hs_o1).trans rfl)) (PE1L.cons (PE1.ptrL (by exact ((hs_o2).trans rfl)) (PE1L.cons (PE1.int) (PE1L.cons (.sl _ _ _) (PE1L.cons (PE1.int) (PE1L.cons (PE1.bool) (PE1L.nil)))))) (PE1L.cons (PE1.int) (PE1L.cons (.sl _ _ _) (PE1L.cons (PE1.int) (PE1L.cons (PE1.bool) (PE1L.nil)))))))) (PEL.nil)) (by rintro _ rfl; rfl)) (hw := WL.cons (Wx.ptr) (WL.nil)) (hh := WxH.refl _) ?_
                simp (disch := first | assumption | omega | (simp only [h_sl, h_al] <;> omega) | fail) only [WW, WH, ↓reduceIte, Nat.reduceEqDiff, Nat.reduceLT, Nat.reduceLeDiff, Nat.reduceAdd, Nat.reduceSub, Nat.reduceMul, Nat.reduceBEq, reduceCtorEq, if_false, if_true, L_law16_ReplyRows, hs_o1, hs_o2, encReplyV]
                have hq := Option.some.inj h; subst hq
                refine hK0 _ _ _ (.inr rfl) ?_
                exact fn_end0 (by exact hfr) hcl (resv_tmp (a := (.bool (decide (r55 = 0)))) rfl rfl resv_nil) (by simp [fin, AV.df, AV.sh, AV.sh1, b_df, b_sh, b_sh1, b_Cl]) (Wx.bool) (r' := (.bool (decide (r55 = 0)))) ⟨rfl, rfl⟩
              · rintro r56 rfl H hfr
                try dsimp only at h 
                have hle := hfr.le
                simp (disch := first | assumption | omega | (simp only [h_sl, h_al] <;> omega) | fail) only [WW, WH, ↓reduceIte, Nat.reduceEqDiff, Nat.reduceLT, Nat.reduceLeDiff, Nat.reduceAdd, Nat.reduceSub, Nat.reduceMul, Nat.reduceBEq, reduceCtorEq, if_false, if_true, L_law16_ReplyRows, encReplyV]
                have hq := Option.some.inj h; subst hq
                refine hK0 _ _ _ (.inr rfl) ?_
                exact fn_end0 (by exact hfr) hcl (resv_tmp (a := (.bool r56)) rfl rfl resv_nil) (by simp [fin, AV.df, AV.sh, AV.sh1, b_df, b_sh, b_sh1, b_Cl]) (Wx.bool) (r' := (.bool r56)) ⟨rfl, rfl⟩
          · rintro r58 rfl H hfr
            try dsimp only at h 
            have hle := hfr.le
            simp (disch := first | assumption | omega | (simp only [h_sl, h_al] <;> omega) | fail) only [WW, WH, ↓reduceIte, Nat.reduceEqDiff, Nat.reduceLT, Nat.reduceLeDiff, Nat.reduceAdd, Nat.reduceSub, Nat.reduceMul, Nat.reduceBEq, reduceCtorEq, if_false, if_true, L_law16_ReplyRows, encReplyV]
            have hq := Option.some.inj h; subst hq
            refine hK0 _ _ _ (.inr rfl) ?_
            exact fn_end0 (by exact hfr) hcl (resv_tmp (a := (.bool r58)) rfl rfl resv_nil) (by simp [fin, AV.df, AV.sh, AV.sh1, b_df, b_sh, b_sh1, b_Cl]) (Wx.bool) (r' := (.bool r58)) ⟨rfl, rfl⟩
      · rintro r60 rfl H hfr
        try dsimp only at h 
        have hle := hfr.le
        simp (disch := first | assumption | omega | (simp only [h_sl, h_al] <;> omega) | fail) only [WW, WH, ↓reduceIte, Nat.reduceEqDiff, Nat.reduceLT, Nat.reduceLeDiff, Nat.reduceAdd, Nat.reduceSub, Nat.reduceMul, Nat.reduceBEq, reduceCtorEq, if_false, if_true, L_law16_ReplyRows, encReplyV]
        have hq := Option.some.inj h; subst hq
        refine hK0 _ _ _ (.inr rfl) ?_
        exact fn_end0 (by exact hfr) hcl (resv_tmp (a := (.bool r60)) rfl rfl resv_nil) (by simp [fin, AV.df, AV.sh, AV.sh1, b_df, b_sh, b_sh1, b_Cl]) (Wx.bool) (r' := (.bool r60)) ⟨rfl, rfl⟩

end Go.Proofs.ReplyS
