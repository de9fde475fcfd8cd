import Derived.Test.YtndhkepeecpilaaLS1
set_option linter.unusedSimpArgs false
set_option linter.unusedVariables false
set_option linter.unusedSectionVars false
set_option linter.defProp false
set_option maxRecDepth 100000
namespace Go.Proofs.LineS
open Go Go.Am Go.Proofs

/-! ### mailbag/mailbaglaw13.LineBack -/
def c_law13_LineBack_p1 : ACode := (.rg [⟨(some 12), (.mv (.t 1)), none⟩, ⟨(some 13), (.len (.t 12)), none⟩, ⟨(some 14), (.bin .gtr (.t 13) (.c (.int .i64 60))), none⟩, ⟨(some 15), (.mv (.t 14)), none⟩, ⟨(some 16), (.mv (.t 0)), (some (15, false))⟩, ⟨(some 17), (.call (.c (.fn 8 [])) [(.t 16)]), (some (15, false))⟩, ⟨(some 18), (.un .not (.t 17)), (some (15, false))⟩, ⟨(some 19), (.pick (.t 15) (.c (.bool true)) (.t 18)), none⟩])
abbrev m_law13_LineBack_p1 := c_law13_LineBack_p1
def c_law13_LineBack_p2 : ACode := (.rg [⟨(some 48), (.mv (.t 1)), none⟩, ⟨(some 49), (.mv (.t 7)), none⟩, ⟨(some 50), (.ixa 1 (.t 48) (.t 49)), none⟩, ⟨(some 51), (.ld (.t 50) none), none⟩, ⟨(some 52), (.mv (.t 8)), none⟩, ⟨(some 53), (.ixs (.t 51) (.t 52)), none⟩, ⟨(some 54), (.bin .eql (.t 53) (.c (b8 13))), none⟩, ⟨(some 55), (.mv (.t 54)), none⟩, ⟨(some 56), (.mv (.t 1)), (some (55, false))⟩, ⟨(some 57), (.mv (.t 7)), (some (55, false))⟩, ⟨(some 58), (.ixa 1 (.t 56) (.t 57)), (some (55, false))⟩, ⟨(some 59), (.ld (.t 58) none), (some (55, false))⟩, ⟨(some 60), (.mv (.t 8)), (some (55, false))⟩, ⟨(some 61), (.ixs (.t 59) (.t 60)), (some (55, false))⟩, ⟨(some 62), (.bin .eql (.t 61) (.c (b8 10))), (some (55, false))⟩, ⟨(some 63), (.pick (.t 55) (.c (.bool true)) (.t 62)), none⟩])
abbrev m_law13_LineBack_p2 := c_law13_LineBack_p2
def c_law13_LineBack_l1b : ACode := (.seq (.seq (.rg [⟨(some 39), (.mv (.t 8)), none⟩, ⟨(some 40), (.mv (.t 1)), none⟩, ⟨(some 41), (.mv (.t 7)), none⟩, ⟨(some 42), (.ixa 1 (.t 40) (.t 41)), none⟩, ⟨(some 43), (.ld (.t 42) none), none⟩, ⟨(some 44), (.lens (.t 43)), none⟩, ⟨(some 45), (.bin .lss (.t 39) (.t 44)), none⟩]) (.cond (.t 45) .skip (.exit 2))) (.seq (.blk 3 (.seq c_law13_LineBack_p2 (.cond (.t 63) (.seq (.rg [⟨(some 4), (.asg (.c (.bool true))), none⟩]) .ret) .skip))) (.rg [⟨(some 46), (.mv (.t 8)), none⟩, ⟨(some 47), (.bin .add (.t 46) (.c (.int .i64 1))), none⟩, ⟨(some 8), (.asg (.t 47)), none⟩])))
def c_law13_LineBack_l1 : ACode := (.loop c_law13_LineBack_l1b)
def m_law13_LineBack_l1b : ACode := (.seq (.seq (.rg [⟨(some 39), (.mv (.t 8)), none⟩, ⟨(some 40), (.mv (.t 1)), none⟩, ⟨(some 41), (.mv (.t 7)), none⟩, ⟨(some 42), (.ixa 1 (.t 40) (.t 41)), none⟩, ⟨(some 43), (.ld (.t 42) none), none⟩, ⟨(some 44), (.lens (.t 43)), none⟩, ⟨(some 45), (.bin .lss (.t 39) (.t 44)), none⟩]) (.cond (.t 45) .skip (.exit 2))) (.seq (.blk 3 (.seq (.sem c_law13_LineBack_p2) (.cond (.t 63) (.seq (.rg [⟨(some 4), (.asg (.c (.bool true))), none⟩]) .ret) .skip))) (.rg [⟨(some 46), (.mv (.t 8)), none⟩, ⟨(some 47), (.bin .add (.t 46) (.c (.int .i64 1))), none⟩, ⟨(some 8), (.asg (.t 47)), none⟩])))
def c_law13_LineBack_p3 : ACode := (.rg [⟨(some 72), (.mv (.t 9)), none⟩, ⟨(some 73), (.len (.t 72)), none⟩, ⟨(some 74), (.bin .neq (.t 73) (.c (.int .i64 1))), none⟩, ⟨(some 75), (.mv (.t 74)), none⟩, ⟨(some 76), (.mv (.t 9)), (some (75, false))⟩, ⟨(some 77), (.ixa 2 (.t 76) (.c (.int .i64 0))), (some (75, false))⟩, ⟨(some 78), (.fld (.t 77) 1), (some (75, false))⟩, ⟨(some 79), (.ld (.t 78) none), (some (75, false))⟩, ⟨(some 80), (.mv (.t 1)), (some (75, false))⟩, ⟨(some 81), (.mv (.t 7)), (some (75, false))⟩, ⟨(some 82), (.ixa 1 (.t 80) (.t 81)), (some (75, false))⟩, ⟨(some 83), (.ld (.t 82) none), (some (75, false))⟩, ⟨(some 84), (.lens (.t 83)), (some (75, false))⟩, ⟨(some 85), (.mv (.t 0)), (some (75, false))⟩, ⟨(some 86), (.bin .sub (.t 85) (.c (.int .i64 2))), (some (75, false))⟩, ⟨(some 87), (.bin .gtr (.t 84) (.t 86)), (some (75, false))⟩, ⟨(some 88), (.bq true (.t 79) (.t 87)), (some (75, false))⟩, ⟨(some 89), (.pick (.t 75) (.c (.bool true)) (.t 88)), none⟩])
abbrev m_law13_LineBack_p3 := c_law13_LineBack_p3
def c_law13_LineBack_p4 : ACode := (.rg [⟨(some 90), (.mv (.t 9)), none⟩, ⟨(some 91), (.ixa 2 (.t 90) (.c (.int .i64 0))), none⟩, ⟨(some 92), (.fld (.t 91) 1), none⟩, ⟨(some 93), (.ld (.t 92) none), none⟩, ⟨(some 94), (.un .not (.t 93)), none⟩, ⟨(some 95), (.mv (.t 94)), none⟩, ⟨(some 96), (.mv (.t 9)), (some (95, true))⟩, ⟨(some 97), (.ixa 2 (.t 96) (.c (.int .i64 0))), (some (95, true))⟩, ⟨(some 98), (.fld (.t 97) 0), (some (95, true))⟩, ⟨(some 99), (.ld (.t 98) none), (some (95, true))⟩, ⟨(some 100), (.mv (.t 1)), (some (95, true))⟩, ⟨(some 101), (.mv (.t 7)), (some (95, true))⟩, ⟨(some 102), (.ixa 1 (.t 100) (.t 101)), (some (95, true))⟩, ⟨(some 103), (.ld (.t 102) none), (some (95, true))⟩, ⟨(some 104), (.bin .neq (.t 99) (.t 103)), (some (95, true))⟩, ⟨(some 105), (.pick (.t 95) (.t 104) (.c (.bool false))), none⟩, ⟨(some 106), (.mv (.t 105)), none⟩, ⟨(some 107), (.mv (.t 9)), (some (106, false))⟩, ⟨(some 108), (.ixa 2 (.t 107) (.c (.int .i64 0))), (some (106, false))⟩, ⟨(some 109), (.fld (.t 108) 1), (some (106, false))⟩, ⟨(some 110), (.ld (.t 109) none), (some (106, false))⟩, ⟨(some 111), (.mv (.t 110)), (some (106, false))⟩, ⟨(some 112), (.mv (.t 9)), (some (111, true))⟩, ⟨(some 113), (.ixa 2 (.t 112) (.c (.int .i64 0))), (some (111, true))⟩, ⟨(some 114), (.fld (.t 113) 0), (some (111, true))⟩, ⟨(some 115), (.ld (.t 114) none), (some (111, true))⟩, ⟨(some 116), (.mv (.t 1)), (some (111, true))⟩, ⟨(some 117), (.mv (.t 7)), (some (111, true))⟩, ⟨(some 118), (.ixa 1 (.t 116) (.t 117)), (some (111, true))⟩, ⟨(some 119), (.ld (.t 118) none), (some (111, true))⟩, ⟨(some 120), (.mv (.t 0)), (some (111, true))⟩, ⟨(some 121), (.bin .sub (.t 120) (.c (.int .i64 2))), (some (111, true))⟩, ⟨(some 122), (.sls (.t 119) none (some (.t 121))), (some (111, true))⟩, ⟨(some 123), (.bin .neq (.t 115) (.t 122)), (some (111, true))⟩, ⟨(some 124), (.pick (.t 111) (.t 123) (.c (.bool false))), (some (106, false))⟩, ⟨(some 125), (.pick (.t 106) (.c (.bool true)) (.t 124)), none⟩])
abbrev m_law13_LineBack_p4 := c_law13_LineBack_p4
def c_law13_LineBack_l2b : ACode := (.seq (.seq (.rg [⟨(some 27), (.mv (.t 7)), none⟩, ⟨(some 28), (.mv (.t 1)), none⟩, ⟨(some 29), (.len (.t 28)), none⟩, ⟨(some 30), (.bin .lss (.t 27) (.t 29)), none⟩]) (.cond (.t 30) .skip (.exit 0))) (.seq (.blk 1 (.seq (.seq (.rg [⟨(some 33), (.mv (.t 1)), none⟩, ⟨(some 34), (.mv (.t 7)), none⟩, ⟨(some 35), (.ixa 1 (.t 33) (.t 34)), none⟩, ⟨(some 36), (.ld (.t 35) none), none⟩, ⟨(some 37), (.lens (.t 36)), none⟩, ⟨(some 38), (.bin .gtr (.t 37) (.c (.int .i64 300))), none⟩]) (.cond (.t 38) (.seq (.rg [⟨(some 4), (.asg (.c (.bool true))), none⟩]) .ret) .skip)) (.seq (.seq (.rg [⟨(some 8), (.asg (.c (.int .i64 0))), none⟩]) (.blk 2 c_law13_LineBack_l1)) (.seq (.rg [⟨(some 64), (.mv (.t 5)), none⟩, ⟨(some 65), (.mv (.t 1)), none⟩, ⟨(some 66), (.mv (.t 7)), none⟩, ⟨(some 67), (.ixa 1 (.t 65) (.t 66)), none⟩, ⟨(some 68), (.ld (.t 67) none), none⟩, ⟨(some 69), (.bin .add (.t 68) (.c (.str [13, 10]))), none⟩, ⟨(some 70), (.cvt .sb (.t 69)), none⟩, ⟨(some 71), (.call (.c (.fn 10 [])) [(.t 64), (.t 70)]), none⟩, ⟨(some 9), (.asg (.t 71)), none⟩]) (.seq (.seq c_law13_LineBack_p3 (.cond (.t 89) (.seq (.rg [⟨(some 4), (.asg (.c (.bool false))), none⟩]) .ret) .skip)) (.seq c_law13_LineBack_p4 (.cond (.t 125) (.seq (.rg [⟨(some 4), (.asg (.c (.bool false))), none⟩]) .ret) .skip))))))) (.rg [⟨(some 31), (.mv (.t 7)), none⟩, ⟨(some 32), (.bin .add (.t 31) (.c (.int .i64 1))), none⟩, ⟨(some 7), (.asg (.t 32)), none⟩])))
def c_law13_LineBack_l2 : ACode := (.loop c_law13_LineBack_l2b)
def m_law13_LineBack_l2b : ACode := (.seq (.seq (.rg [⟨(some 27), (.mv (.t 7)), none⟩, ⟨(some 28), (.mv (.t 1)), none⟩, ⟨(some 29), (.len (.t 28)), none⟩, ⟨(some 30), (.bin .lss (.t 27) (.t 29)), none⟩]) (.cond (.t 30) .skip (.exit 0))) (.seq (.blk 1 (.seq (.seq (.rg [⟨(some 33), (.mv (.t 1)), none⟩, ⟨(some 34), (.mv (.t 7)), none⟩, ⟨(some 35), (.ixa 1 (.t 33) (.t 34)), none⟩, ⟨(some 36), (.ld (.t 35) none), none⟩, ⟨(some 37), (.lens (.t 36)), none⟩, ⟨(some 38), (.bin .gtr (.t 37) (.c (.int .i64 300))), none⟩]) (.cond (.t 38) (.seq (.rg [⟨(some 4), (.asg (.c (.bool true))), none⟩]) .ret) .skip)) (.seq (.seq (.rg [⟨(some 8), (.asg (.c (.int .i64 0))), none⟩]) (.blk 2 c_law13_LineBack_l1)) (.seq (.rg [⟨(some 64), (.mv (.t 5)), none⟩, ⟨(some 65), (.mv (.t 1)), none⟩, ⟨(some 66), (.mv (.t 7)), none⟩, ⟨(some 67), (.ixa 1 (.t 65) (.t 66)), none⟩, ⟨(some 68), (.ld (.t 67) none), none⟩, ⟨(some 69), (.bin .add (.t 68) (.c (.str [13, 10]))), none⟩, ⟨(some 70), (.cvt .sb (.t 69)), none⟩, ⟨(some 71), (.call (.c (.fn 10 [])) [(.t 64), (.t 70)]), none⟩, ⟨(some 9), (.asg (.t 71)), none⟩]) (.seq (.seq (.sem c_law13_LineBack_p3) (.cond (.t 89) (.seq (.rg [⟨(some 4), (.asg (.c (.bool false))), none⟩]) .ret) .skip)) (.seq (.sem c_law13_LineBack_p4) (.cond (.t 125) (.seq (.rg [⟨(some 4), (.asg (.c (.bool false))), none⟩]) .ret) .skip))))))) (.rg [⟨(some 31), (.mv (.t 7)), none⟩, ⟨(some 32), (.bin .add (.t 31) (.c (.int .i64 1))), none⟩, ⟨(some 7), (.asg (.t 32)), none⟩])))
def c_law13_LineBack : ACode := (.seq (.rg [⟨(some 4), (.asg (.c (.bool false))), none⟩]) (.seq (.seq (.rg [⟨(some 10), (.call (.c (.fn 7 [])) []), none⟩, ⟨(some 11), (.un .not (.t 10)), none⟩]) (.cond (.t 11) (.seq (.rg [⟨(some 4), (.asg (.c (.bool false))), none⟩]) .ret) .skip)) (.seq (.seq c_law13_LineBack_p1 (.cond (.t 19) (.seq (.rg [⟨(some 4), (.asg (.c (.bool true))), none⟩]) .ret) .skip)) (.seq (.rg [⟨(some 21), (.mv (.t 0)), none⟩, ⟨(some 22), (.call (.c (.fn 9 [])) [(.t 21)]), none⟩, ⟨(some 20), (.mv (.t 22)), none⟩, ⟨(some 23), (.ext (.t 20) 0), none⟩, ⟨(some 24), (.ext (.t 20) 1), none⟩, ⟨(some 5), (.asg (.t 23)), none⟩, ⟨(some 6), (.asg (.t 24)), none⟩]) (.seq (.seq (.rg [⟨(some 25), (.mv (.t 5)), none⟩, ⟨(some 26), (.pq false (.t 25) (.c (.v (.pointer none)))), none⟩]) (.cond (.t 26) (.seq (.rg [⟨(some 4), (.asg (.c (.bool false))), none⟩]) .ret) .skip)) (.seq (.seq (.rg [⟨(some 7), (.asg (.c (.int .i64 0))), none⟩]) (.blk 0 c_law13_LineBack_l2)) (.seq (.rg [⟨(some 126), (.mv (.t 5)), none⟩, ⟨(some 127), (.call (.c (.fn 11 [])) [(.t 126)]), none⟩, ⟨(some 128), (.bin .eql (.t 127) (.c (.int .i64 0))), none⟩, ⟨(some 4), (.asg (.t 128)), none⟩]) .ret)))))))
def m_law13_LineBack : ACode := (.seq (.rg [⟨(some 4), (.asg (.c (.bool false))), none⟩]) (.seq (.seq (.rg [⟨(some 10), (.call (.c (.fn 7 [])) []), none⟩, ⟨(some 11), (.un .not (.t 10)), none⟩]) (.cond (.t 11) (.seq (.rg [⟨(some 4), (.asg (.c (.bool false))), none⟩]) .ret) .skip)) (.seq (.seq (.sem c_law13_LineBack_p1) (.cond (.t 19) (.seq (.rg [⟨(some 4), (.asg (.c (.bool true))), none⟩]) .ret) .skip)) (.seq (.rg [⟨(some 21), (.mv (.t 0)), none⟩, ⟨(some 22), (.call (.c (.fn 9 [])) [(.t 21)]), none⟩, ⟨(some 20), (.mv (.t 22)), none⟩, ⟨(some 23), (.ext (.t 20) 0), none⟩, ⟨(some 24), (.ext (.t 20) 1), none⟩, ⟨(some 5), (.asg (.t 23)), none⟩, ⟨(some 6), (.asg (.t 24)), none⟩]) (.seq (.seq (.rg [⟨(some 25), (.mv (.t 5)), none⟩, ⟨(some 26), (.pq false (.t 25) (.c (.v (.pointer none)))), none⟩]) (.cond (.t 26) (.seq (.rg [⟨(some 4), (.asg (.c (.bool false))), none⟩]) .ret) .skip)) (.seq (.seq (.rg [⟨(some 7), (.asg (.c (.int .i64 0))), none⟩]) (.blk 0 c_law13_LineBack_l2)) (.seq (.rg [⟨(some 126), (.mv (.t 5)), none⟩, ⟨(some 127), (.call (.c (.fn 11 [])) [(.t 126)]), none⟩, ⟨(some 128), (.bin .eql (.t 127) (.c (.int .i64 0))), none⟩, ⟨(some 4), (.asg (.t 128)), none⟩]) .ret)))))))
theorem k_law13_LineBack : FnOk Try.prog 4 129 [(.tmp 4)] c_law13_LineBack := ⟨Try.f4, _, rfl, by decide, rfl, by kernel_rfl, rfl, rfl⟩
abbrev L_law13_LineBack : List Nat := [0, 1, 4, 5, 7, 8, 9, 11, 19, 26, 30, 38, 45, 63, 89, 125]
def law13_LineBack_p1 (l2 : List (List UInt8)) (most1 : Int) : Option (Bool) :=
  (if (decide (60 < (l2.length : Int))) then
    some true
  else
    (ref13_Right most1).bind fun r4 => some (!r4))
def law13_LineBack_p2 (l2 : List (List UInt8)) (i12 : Int) (kk16 : Int) : Option (Bool) :=
  (idx l2 i12).bind fun x19 =>
  (idx x19 kk16).bind fun x20 =>
  (if (decide (x20 = 13)) then
    some true
  else
    some (decide (x20 = 10)))
def law13_LineBack_l1 (l2 : List (List UInt8)) (i12 : Int) : Int → Option (St Bool Unit Int)
  | kk16 =>
    (idx l2 i12).bind fun x17 =>
    (if (decide (kk16 < (x17.length : Int))) then
      (law13_LineBack_p2 l2 i12 kk16).bind fun t22 =>
      (if t22 then
        some (.ret true)
      else
        some (.nxt (IntKind.wrap .i64 (kk16 + 1))))
    else
      some (.brk ()))
def law13_LineBack_p3 (r25 : List LineV) (l2 : List (List UInt8)) (i12 : Int) (most1 : Int) : Option (Bool) :=
  (if (!decide ((r25.length : Int) = 1)) then
    some true
  else
    (idx r25 0).bind fun x28 =>
    (idx l2 i12).bind fun x29 =>
    some (!(x28.long == (decide ((IntKind.wrap .i64 (most1 - 2)) < (x29.length : Int))))))
def law13_LineBack_p4 (r25 : List LineV) (l2 : List (List UInt8)) (i12 : Int) (most1 : Int) : Option (Bool) :=
  (idx r25 0).bind fun x33 =>
  (if (!x33.long) then
    (idx l2 i12).bind fun x34 =>
    (if (!decide (x33.text = x34)) then
      some true
    else
      (if x33.long then
        (sub x34 0 (IntKind.wrap .i64 (most1 - 2))).bind fun x35 => some (!decide (x33.text = x35))
      else
        some false))
  else
    (if x33.long then
      (idx l2 i12).bind fun x36 =>
      (sub x36 0 (IntKind.wrap .i64 (most1 - 2))).bind fun x37 => some (!decide (x33.text = x37))
    else
      some false))
def law13_LineBack_l2 (F : Nat) (l2 : List (List UInt8)) (most1 : Int) : (Int × SplitterV) → Option (St Bool SplitterV (Int × SplitterV))
  | (i12, s13) =>
    (if (decide (i12 < (l2.length : Int))) then
      (idx l2 i12).bind fun x14 =>
      (if (decide (300 < (x14.length : Int))) then
        some (.ret true)
      else
        ((iter (law13_LineBack_l1 l2 i12) F 0).bind fun o41 =>
        match o41 with
        | .inr () =>
          (cat x14 ([13, 10] : List UInt8)).bind fun x24 =>
          (line_Splitter_Feed F s13 x24).bind fun (r25, r26) =>
          (law13_LineBack_p3 r25 l2 i12 most1).bind fun t31 =>
          (if t31 then
            some (.ret false)
          else
            (law13_LineBack_p4 r25 l2 i12 most1).bind fun t39 =>
            (if t39 then
              some (.ret false)
            else
              some (.nxt ((IntKind.wrap .i64 (i12 + 1)), r26))))
        | .inl r40 =>
          some (.ret r40)))
    else
      some (.brk s13))
def law13_LineBack (F : Nat) (most1 : Int) (l2 : List (List UInt8)) : Option (Bool) :=
  (law13_known F ).bind fun r3 =>
  (if (!r3) then
    some false
  else
    (law13_LineBack_p1 l2 most1).bind fun t6 =>
    (if t6 then
      some true
    else
      ((line_New most1).bind fun (r7, r8) =>
      match r7 with
      | none =>
        some false
      | some t9 =>
        ((iter (law13_LineBack_l2 F l2 most1) F (0, t9)).bind fun o47 =>
        match o47 with
        | .inr s44 =>
          (line_Splitter_Held s44).bind fun r45 => some (decide (r45 = 0))
        | .inl r46 =>
          some r46))))
set_option maxHeartbeats 2000000 in
theorem law13_LineBack_p1_ok {l2 : List (List UInt8)} {most1 : Int} {H0 H : AH} (hfr : Fr H0 H0.length [] H) {K : Exit → Env → AH → Prop} {t5 : Bool}
    (h : law13_LineBack_p1 l2 most1 = some t5)
    (kn : ∀ H' : AH, Fr H0 H0.length [] H' → K .normal [(0, (.int .i64 most1)), (1, (.sl .n 1 (ml AV.str l2))), (19, (.bool t5))] H') :
    AX Try.prog L_law13_LineBack 129 H0.length c_law13_LineBack_p1 K [(0, (.int .i64 most1)), (1, (.sl .n 1 (ml AV.str l2)))] H := by
  refine AX.go (m := m_law13_LineBack_p1) rfl (by decide) fun K' hK => ?_
  have hle := hfr.le
  rw [law13_LineBack_p1.eq_1] at h
  simp (disch := first | assumption | omega | (simp only [h_sl, h_al] <;> omega) | fail) only [WW, WH, ↓reduceIte, Nat.reduceEqDiff, Nat.reduceLT, Nat.reduceLeDiff, Nat.reduceAdd, Nat.reduceSub, Nat.reduceMul, Nat.reduceBEq, reduceCtorEq, if_false, if_true, L_law13_LineBack, m_law13_LineBack_p1, c_law13_LineBack_p1, encLineV]
  rcases ifb h with ⟨hy3, h⟩ | ⟨hy3, h⟩
  · refine UG_nf hy3 ?_
    simp (disch := first | assumption | omega | (simp only [h_sl, h_al] <;> omega) | fail) only [WW, WH, ↓reduceIte, Nat.reduceEqDiff, Nat.reduceLT, Nat.reduceLeDiff, Nat.reduceAdd, Nat.reduceSub, Nat.reduceMul, Nat.reduceBEq, reduceCtorEq, if_false, if_true, L_law13_LineBack, hy3, encLineV]
    have hq := Option.some.inj h; subst hq
    refine hK _ _ _ _ _ ?_ (WxH.refl _) (kn _ hfr)
    exact WE.cons (Wx.int) (WE.cons (Wx.nn) (WE.cons (Wx.bool) (WE.nil)))
  · refine UG_go hy3 ?_
    simp (disch := first | assumption | omega | (simp only [h_sl, h_al] <;> omega) | fail) only [WW, WH, ↓reduceIte, Nat.reduceEqDiff, Nat.reduceLT, Nat.reduceLeDiff, Nat.reduceAdd, Nat.reduceSub, Nat.reduceMul, Nat.reduceBEq, reduceCtorEq, if_false, if_true, L_law13_LineBack, hy3, encLineV]
    obtain ⟨r4, hy4, h⟩ := bnd' h
    refine UK_e (as' := [(.int .i64 most1)]) (h := ref13_Right_ok (most1 := most1)  hy4) (hw := WL.cons (Wx.int) (WL.nil)) (hh := WxH.refl _) ?_
    simp (disch := first | assumption | omega | (simp only [h_sl, h_al] <;> omega) | fail) only [WW, WH, ↓reduceIte, Nat.reduceEqDiff, Nat.reduceLT, Nat.reduceLeDiff, Nat.reduceAdd, Nat.reduceSub, Nat.reduceMul, Nat.reduceBEq, reduceCtorEq, if_false, if_true, L_law13_LineBack, encLineV]
    have hq := Option.some.inj h; subst hq
    refine hK _ _ _ _ _ ?_ (WxH.refl _) (kn _ hfr)
    exact WE.cons (Wx.int) (WE.cons (Wx.nn) (WE.cons (Wx.bool) (WE.nil)))
set_option maxHeartbeats 2000000 in
theorem law13_LineBack_p2_ok {l2 : List (List UInt8)} {i12 : Int} {kk16 : Int} {most1 : Int} {q18 : Nat} {s13 : SplitterV} {H0 H : AH} (hfr : Fr H0 H0.length [] H) (hs_o1 : H[q18]? = some [(.int .i64 s13.most), (.sl .own 1 (ml b8 s13.b)), (.int .i64 s13.state), (.bool s13.long)]) (hi0 : H0.length ≤ q18) {K : Exit → Env → AH → Prop} {t21 : Bool}
    (h : law13_LineBack_p2 l2 i12 kk16 = some t21)
    (kn : ∀ H' : AH, Fr H0 H0.length [] H' → H'[q18]? = some [(.int .i64 s13.most), (.sl .own 1 (ml b8 s13.b)), (.int .i64 s13.state), (.bool s13.long)] → K .normal [(0, (.int .i64 most1)), (1, (.sl .n 1 (ml AV.str l2))), (5, (.ptr q18 0)), (7, (.int .i64 i12)), (8, (.int .i64 kk16)), (63, (.bool t21))] H') :
    AX Try.prog L_law13_LineBack 129 H0.length c_law13_LineBack_p2 K [(0, (.int .i64 most1)), (1, (.sl .n 1 (ml AV.str l2))), (5, (.ptr q18 0)), (7, (.int .i64 i12)), (8, (.int .i64 kk16))] H := by
  refine AX.go (m := m_law13_LineBack_p2) rfl (by decide) fun K' hK => ?_
  have hle := hfr.le
  have hl_o1 := h_lt hs_o1
  rw [law13_LineBack_p2.eq_1] at h
  obtain ⟨x19, hy13, h⟩ := bnd' h
  obtain ⟨x20, hy14, h⟩ := bnd' h
  simp (disch := first | assumption | omega | (simp only [h_sl, h_al] <;> omega) | fail) only [WW, WH, ↓reduceIte, Nat.reduceEqDiff, Nat.reduceLT, Nat.reduceLeDiff, Nat.reduceAdd, Nat.reduceSub, Nat.reduceMul, Nat.reduceBEq, reduceCtorEq, if_false, if_true, L_law13_LineBack, m_law13_LineBack_p2, c_law13_LineBack_p2, hy13, hy14, hs_o1, encLineV]
  rcases ifb h with ⟨hy15, h⟩ | ⟨hy15, h⟩
  · refine UG_nf hy15 ?_
    simp (disch := first | assumption | omega | (simp only [h_sl, h_al] <;> omega) | fail) only [WW, WH, ↓reduceIte, Nat.reduceEqDiff, Nat.reduceLT, Nat.reduceLeDiff, Nat.reduceAdd, Nat.reduceSub, Nat.reduceMul, Nat.reduceBEq, reduceCtorEq, if_false, if_true, L_law13_LineBack, hy15, hs_o1, encLineV]
    have hq := Option.some.inj h; subst hq
    refine hK _ _ _ _ _ ?_ (WxH.refl _) (kn _ hfr ((hs_o1).trans rfl))
    exact WE.cons (Wx.int) (WE.cons (Wx.nn) (WE.cons (Wx.ptr) (WE.cons (Wx.int) (WE.cons (Wx.int) (WE.cons (Wx.bool) (WE.nil))))))
  · refine UG_go hy15 ?_
    simp (disch := first | assumption | omega | (simp only [h_sl, h_al] <;> omega) | fail) only [WW, WH, ↓reduceIte, Nat.reduceEqDiff, Nat.reduceLT, Nat.reduceLeDiff, Nat.reduceAdd, Nat.reduceSub, Nat.reduceMul, Nat.reduceBEq, reduceCtorEq, if_false, if_true, L_law13_LineBack, hy15, hy13, hy14, hs_o1, encLineV]
    have hq := Option.some.inj h; subst hq
    refine hK _ _ _ _ _ ?_ (WxH.refl _) (kn _ hfr ((hs_o1).trans rfl))
    exact WE.cons (Wx.int) (WE.cons (Wx.nn) (WE.cons (Wx.ptr) (WE.cons (Wx.int) (WE.cons (Wx.int) (WE.cons (Wx.bool) (WE.nil))))))
set_option maxHeartbeats 2000000 in
theorem law13_LineBack_l1_ok {F : Nat} {l2 : List (List UInt8)} {i12 : Int} {kk16 : Int} {most1 : Int} {q15 : Nat} {s13 : SplitterV} {H0 H : AH} (hfr : Fr H0 H0.length [] H) (hs_o1 : H[q15]? = some [(.int .i64 s13.most), (.sl .own 1 (ml b8 s13.b)), (.int .i64 s13.state), (.bool s13.long)]) (hi0 : H0.length ≤ q15) {K : Exit → Env → AH → Prop} {o : (Bool) ⊕ (Unit)}
    (h : iter (law13_LineBack_l1 l2 i12) F kk16 = some o)
    (kb2 : ∀ o' : Unit, o = .inr o' → ∀ H' : AH, Fr H0 H0.length [] H' → H'[q15]? = some [(.int .i64 s13.most), (.sl .own 1 (ml b8 s13.b)), (.int .i64 s13.state), (.bool s13.long)] → K (.exit 2) [(0, (.int .i64 most1)), (1, (.sl .n 1 (ml AV.str l2))), (5, (.ptr q15 0)), (7, (.int .i64 i12))] H')
    (kr : ∀ o' : Bool, o = .inl o' → ∀ H' : AH, Fr H0 H0.length [] H' → K .ret [(4, (.bool o'))] H') :
    AX Try.prog L_law13_LineBack 129 H0.length c_law13_LineBack_l1 K [(0, (.int .i64 most1)), (1, (.sl .n 1 (ml AV.str l2))), (5, (.ptr q15 0)), (7, (.int .i64 i12)), (8, (.int .i64 kk16))] H := by
  refine AX.iter (m := m_law13_LineBack_l1b) rfl (by decide) (fun s e H1 => match s with | kk16 => e = [(0, (.int .i64 most1)), (1, (.sl .n 1 (ml AV.str l2))), (5, (.ptr q15 0)), (7, (.int .i64 i12)), (8, (.int .i64 kk16))] ∧ Fr H0 H0.length [] H1 ∧ H1[q15]? = some [(.int .i64 s13.most), (.sl .own 1 (ml b8 s13.b)), (.int .i64 s13.state), (.bool s13.long)]) h ⟨rfl, hfr, hs_o1⟩ ?_
  skip
  rintro K' kk16 st e H ⟨rfl, hfr, hs_o1⟩ h hN hB hR hX
  have hle := hfr.le
  have hl_o1 := h_lt hs_o1
  rw [law13_LineBack_l1.eq_1] at h
  obtain ⟨x17, hy11, h⟩ := bnd' h
  simp (disch := first | assumption | omega | (simp only [h_sl, h_al] <;> omega) | fail) only [WW, WH, ↓reduceIte, Nat.reduceEqDiff, Nat.reduceLT, Nat.reduceLeDiff, Nat.reduceAdd, Nat.reduceSub, Nat.reduceMul, Nat.reduceBEq, reduceCtorEq, if_false, if_true, L_law13_LineBack, m_law13_LineBack_l1b, hy11, hs_o1, encLineV]
  rcases ifb h with ⟨hy12, h⟩ | ⟨hy12, h⟩
  · refine UC_t hy12 ?_
    simp (disch := first | assumption | omega | (simp only [h_sl, h_al] <;> omega) | fail) only [WW, WH, ↓reduceIte, Nat.reduceEqDiff, Nat.reduceLT, Nat.reduceLeDiff, Nat.reduceAdd, Nat.reduceSub, Nat.reduceMul, Nat.reduceBEq, reduceCtorEq, if_false, if_true, L_law13_LineBack, hs_o1, encLineV]
    obtain ⟨t22, hy16, h⟩ := bnd' h
    refine UX_of (AX.weak ?_ (WxH.refl _) (law13_LineBack_p2_ok  (l2 := l2) (i12 := i12) (kk16 := kk16) (most1 := most1) (s13 := s13) (t21 := t22) (q18 := q15) (hfr) ((hs_o1).trans rfl) (by first | assumption | omega | (simp only [h_sl, h_al] <;> omega) | fail) hy16 ?_))
    · exact WE.cons (Wx.int) (WE.cons (Wx.nn) (WE.cons (Wx.ptr) (WE.cons (Wx.int) (WE.cons (Wx.int) (WE.nil)))))
    intro H hfr hs_o1
    have hle := hfr.le
    have hl_o1 := h_lt hs_o1
    simp (disch := first | assumption | omega | (simp only [h_sl, h_al] <;> omega) | fail) only [WW, WH, ↓reduceIte, Nat.reduceEqDiff, Nat.reduceLT, Nat.reduceLeDiff, Nat.reduceAdd, Nat.reduceSub, Nat.reduceMul, Nat.reduceBEq, reduceCtorEq, if_false, if_true, L_law13_LineBack, hs_o1, encLineV]
    rcases ifb h with ⟨hy17, h⟩ | ⟨hy17, h⟩
    · refine UC_t hy17 ?_
      simp (disch := first | assumption | omega | (simp only [h_sl, h_al] <;> omega) | fail) only [WW, WH, ↓reduceIte, Nat.reduceEqDiff, Nat.reduceLT, Nat.reduceLeDiff, Nat.reduceAdd, Nat.reduceSub, Nat.reduceMul, Nat.reduceBEq, reduceCtorEq, if_false, if_true, L_law13_LineBack, hs_o1, encLineV]
      have hq := Option.some.inj h; subst hq
      refine hX _ _ _ _ _ (by simp) ?_ (WxH.refl _) (kr _ (hR _ rfl) _ hfr)
      exact WE.cons (Wx.bool) (WE.nil)
    · refine UC_f hy17 ?_
      simp (disch := first | assumption | omega | (simp only [h_sl, h_al] <;> omega) | fail) only [WW, WH, ↓reduceIte, Nat.reduceEqDiff, Nat.reduceLT, Nat.reduceLeDiff, Nat.reduceAdd, Nat.reduceSub, Nat.reduceMul, Nat.reduceBEq, reduceCtorEq, if_false, if_true, L_law13_LineBack, hs_o1, encLineV]
      have hq := Option.some.inj h; subst hq
      refine hN _ rfl _ _ _ _ ?_ (WxH.refl _) ⟨rfl, hfr, ((hs_o1).trans rfl)⟩
      exact WE.cons (Wx.int) (WE.cons (Wx.nn) (WE.cons (Wx.ptr) (WE.cons (Wx.int) (WE.cons (Wx.int) (WE.nil)))))
  · refine UC_f hy12 ?_
    simp (disch := first | assumption | omega | (simp only [h_sl, h_al] <;> omega) | fail) only [WW, WH, ↓reduceIte, Nat.reduceEqDiff, Nat.reduceLT, Nat.reduceLeDiff, Nat.reduceAdd, Nat.reduceSub, Nat.reduceMul, Nat.reduceBEq, reduceCtorEq, if_false, if_true, L_law13_LineBack, hs_o1, encLineV]
    have hq := Option.some.inj h; subst hq
    refine hX _ _ _ _ _ (by simp) ?_ (WxH.refl _) (kb2 _ (hB _ rfl) _ hfr ((hs_o1).trans rfl))
    exact WE.cons (Wx.int) (WE.cons (Wx.nn) (WE.cons (Wx.ptr) (WE.cons (Wx.int) (WE.nil))))
set_option maxHeartbeats 2000000 in
theorem law13_LineBack_p3_ok {r25 : List LineV} {l2 : List (List UInt8)} {i12 : Int} {most1 : Int} {q27 : Nat} {r26 : SplitterV} {H0 H : AH} (hfr : Fr H0 H0.length [] H) (hs_o1 : H[q27]? = some [(.int .i64 r26.most), (.sl .own 1 (ml b8 r26.b)), (.int .i64 r26.state), (.bool r26.long)]) (hi0 : H0.length ≤ q27) {K : Exit → Env → AH → Prop} {t30 : Bool}
    (h : law13_LineBack_p3 r25 l2 i12 most1 = some t30)
    (kn : ∀ H' : AH, Fr H0 H0.length [] H' → H'[q27]? = some [(.int .i64 r26.most), (.sl .own 1 (ml b8 r26.b)), (.int .i64 r26.state), (.bool r26.long)] → K .normal [(0, (.int .i64 most1)), (1, (.sl .n 1 (ml AV.str l2))), (5, (.ptr q27 0)), (7, (.int .i64 i12)), (9, (.sl .n 2 (ml encLineV r25))), (89, (.bool t30))] H') :
    AX Try.prog L_law13_LineBack 129 H0.length c_law13_LineBack_p3 K [(0, (.int .i64 most1)), (1, (.sl .n 1 (ml AV.str l2))), (5, (.ptr q27 0)), (7, (.int .i64 i12)), (9, (.sl .n 2 (ml encLineV r25)))] H := by
  refine AX.go (m := m_law13_LineBack_p3) rfl (by decide) fun K' hK => ?_
  have hle := hfr.le
  have hl_o1 := h_lt hs_o1
  rw [law13_LineBack_p3.eq_1] at h
  simp (disch := first | assumption | omega | (simp only [h_sl, h_al] <;> omega) | fail) only [WW, WH, ↓reduceIte, Nat.reduceEqDiff, Nat.reduceLT, Nat.reduceLeDiff, Nat.reduceAdd, Nat.reduceSub, Nat.reduceMul, Nat.reduceBEq, reduceCtorEq, if_false, if_true, L_law13_LineBack, m_law13_LineBack_p3, c_law13_LineBack_p3, hs_o1, encLineV]
  rcases ifb h with ⟨hy21, h⟩ | ⟨hy21, h⟩
  · refine UG_nf hy21 ?_
    simp (disch := first | assumption | omega | (simp only [h_sl, h_al] <;> omega) | fail) only [WW, WH, ↓reduceIte, Nat.reduceEqDiff, Nat.reduceLT, Nat.reduceLeDiff, Nat.reduceAdd, Nat.reduceSub, Nat.reduceMul, Nat.reduceBEq, reduceCtorEq, if_false, if_true, L_law13_LineBack, hy21, hs_o1, encLineV]
    have hq := Option.some.inj h; subst hq
    refine hK _ _ _ _ _ ?_ (WxH.refl _) (kn _ hfr ((hs_o1).trans rfl))
    exact WE.cons (Wx.int) (WE.cons (Wx.nn) (WE.cons (Wx.ptr) (WE.cons (Wx.int) (WE.cons (Wx.nn) (WE.cons (Wx.bool) (WE.nil))))))
  · refine UG_go hy21 ?_
    obtain ⟨x28, hy22, h⟩ := bnd' h
    obtain ⟨x29, hy23, h⟩ := bnd' h
    simp (disch := first | assumption | omega | (simp only [h_sl, h_al] <;> omega) | fail) only [WW, WH, ↓reduceIte, Nat.reduceEqDiff, Nat.reduceLT, Nat.reduceLeDiff, Nat.reduceAdd, Nat.reduceSub, Nat.reduceMul, Nat.reduceBEq, reduceCtorEq, if_false, if_true, L_law13_LineBack, hy21, hy22, hy23, hs_o1, encLineV]
    have hq := Option.some.inj h; subst hq
    refine hK _ _ _ _ _ ?_ (WxH.refl _) (kn _ hfr ((hs_o1).trans rfl))
    exact WE.cons (Wx.int) (WE.cons (Wx.nn) (WE.cons (Wx.ptr) (WE.cons (Wx.int) (WE.cons (Wx.nn) (WE.cons (Wx.bool) (WE.nil))))))
set_option maxHeartbeats 2000000 in
theorem law13_LineBack_p4_ok {r25 : List LineV} {l2 : List (List UInt8)} {i12 : Int} {most1 : Int} {q32 : Nat} {r26 : SplitterV} {H0 H : AH} (hfr : Fr H0 H0.length [] H) (hs_o1 : H[q32]? = some [(.int .i64 r26.most), (.sl .own 1 (ml b8 r26.b)), (.int .i64 r26.state), (.bool r26.long)]) (hi0 : H0.length ≤ q32) {K : Exit → Env → AH → Prop} {t38 : Bool}
    (h : law13_LineBack_p4 r25 l2 i12 most1 = some t38)
    (kn : ∀ H' : AH, Fr H0 H0.length [] H' → H'[q32]? = some [(.int .i64 r26.most), (.sl .own 1 (ml b8 r26.b)), (.int .i64 r26.state), (.bool r26.long)] → K .normal [(0, (.int .i64 most1)), (1, (.sl .n 1 (ml AV.str l2))), (5, (.ptr q32 0)), (7, (.int .i64 i12)), (125, (.bool t38))] H') :
    AX Try.prog L_law13_LineBack 129 H0.length c_law13_LineBack_p4 K [(0, (.int .i64 most1)), (1, (.sl .n 1 (ml AV.str l2))), (5, (.ptr q32 0)), (7, (.int .i64 i12)), (9, (.sl .n 2 (ml encLineV r25)))] H := by
  refine AX.go (m := m_law13_LineBack_p4) rfl (by decide) fun K' hK => ?_
  have hle := hfr.le
  have hl_o1 := h_lt hs_o1
  rw [law13_LineBack_p4.eq_1] at h
  obtain ⟨x33, hy26, h⟩ := bnd' h
  simp (disch := first | assumption | omega | (simp only [h_sl, h_al] <;> omega) | fail) only [WW, WH, ↓reduceIte, Nat.reduceEqDiff, Nat.reduceLT, Nat.reduceLeDiff, Nat.reduceAdd, Nat.reduceSub, Nat.reduceMul, Nat.reduceBEq, reduceCtorEq, if_false, if_true, L_law13_LineBack, m_law13_LineBack_p4, c_law13_LineBack_p4, hy26, hs_o1, encLineV]
  rcases ifb h with ⟨hy27, h⟩ | ⟨hy27, h⟩
  · refine UG_go hy27 ?_
    obtain ⟨x34, hy28, h⟩ := bnd' h
    simp (disch := first | assumption | omega | (simp only [h_sl, h_al] <;> omega) | fail) only [WW, WH, ↓reduceIte, Nat.reduceEqDiff, Nat.reduceLT, Nat.reduceLeDiff, Nat.reduceAdd, Nat.reduceSub, Nat.reduceMul, Nat.reduceBEq, reduceCtorEq, if_false, if_true, L_law13_LineBack, hy27, hy26, hy28, hs_o1, encLineV]
    rcases ifb h with ⟨hy29, h⟩ | ⟨hy29, h⟩
    · refine UG_nf hy29 ?_
      simp (disch := first | assumption | omega | (simp only [h_sl, h_al] <;> omega) | fail) only [WW, WH, ↓reduceIte, Nat.reduceEqDiff, Nat.reduceLT, Nat.reduceLeDiff, Nat.reduceAdd, Nat.reduceSub, Nat.reduceMul, Nat.reduceBEq, reduceCtorEq, if_false, if_true, L_law13_LineBack, hy29, hs_o1, encLineV]
      have hq := Option.some.inj h; subst hq
      refine hK _ _ _ _ _ ?_ (WxH.refl _) (kn _ hfr ((hs_o1).trans rfl))
      exact WE.cons (Wx.int) (WE.cons (Wx.nn) (WE.cons (Wx.ptr) (WE.cons (Wx.int) (WE.cons (Wx.bool) (WE.nil)))))
    · refine UG_go hy29 ?_
      simp (disch := first | assumption | omega | (simp only [h_sl, h_al] <;> omega) | fail) only [WW, WH, ↓reduceIte, Nat.reduceEqDiff, Nat.reduceLT, Nat.reduceLeDiff, Nat.reduceAdd, Nat.reduceSub, Nat.reduceMul, Nat.reduceBEq, reduceCtorEq, if_false, if_true, L_law13_LineBack, hy29, hy26, hs_o1, encLineV]
      rcases ifb h with ⟨hy30, h⟩ | ⟨hy30, h⟩
      · refine UG_go hy30 ?_
        obtain ⟨x35, hy31, h⟩ := bnd' h
        simp (disch := first | assumption | omega | (simp only [h_sl, h_al] <;> omega) | fail) only [WW, WH, ↓reduceIte, Nat.reduceEqDiff, Nat.reduceLT, Nat.reduceLeDiff, Nat.reduceAdd, Nat.reduceSub, Nat.reduceMul, Nat.reduceBEq, reduceCtorEq, if_false, if_true, L_law13_LineBack, hy30, hy26, hy28, hy31, hs_o1, encLineV]
        have hq := Option.some.inj h; subst hq
        refine hK _ _ _ _ _ ?_ (WxH.refl _) (kn _ hfr ((hs_o1).trans rfl))
        exact WE.cons (Wx.int) (WE.cons (Wx.nn) (WE.cons (Wx.ptr) (WE.cons (Wx.int) (WE.cons (Wx.bool) (WE.nil)))))
      · refine UG_nt hy30 ?_
        simp (disch := first | assumption | omega | (simp only [h_sl, h_al] <;> omega) | fail) only [WW, WH, ↓reduceIte, Nat.reduceEqDiff, Nat.reduceLT, Nat.reduceLeDiff, Nat.reduceAdd, Nat.reduceSub, Nat.reduceMul, Nat.reduceBEq, reduceCtorEq, if_false, if_true, L_law13_LineBack, hy30, hs_o1, encLineV]
        have hq := Option.some.inj h; subst hq
        refine hK _ _ _ _ _ ?_ (WxH.refl _) (kn _ hfr ((hs_o1).trans rfl))
        exact WE.cons (Wx.int) (WE.cons (Wx.nn) (WE.cons (Wx.ptr) (WE.cons (Wx.int) (WE.cons (Wx.bool) (WE.nil)))))
  · refine UG_nt hy27 ?_
    simp (disch := first | assumption | omega | (simp only [h_sl, h_al] <;> omega) | fail) only [WW, WH, ↓reduceIte, Nat.reduceEqDiff, Nat.reduceLT, Nat.reduceLeDiff, Nat.reduceAdd, Nat.reduceSub, Nat.reduceMul, Nat.reduceBEq, reduceCtorEq, if_false, if_true, L_law13_LineBack, hy27, hy26, hs_o1, encLineV]
    rcases ifb h with ⟨hy32, h⟩ | ⟨hy32, h⟩
    · refine UG_go hy32 ?_
      obtain ⟨x36, hy33, h⟩ := bnd' h
      obtain ⟨x37, hy34, h⟩ := bnd' h
      simp (disch := first | assumption | omega | (simp only [h_sl, h_al] <;> omega) | fail) only [WW, WH, ↓reduceIte, Nat.reduceEqDiff, Nat.reduceLT, Nat.reduceLeDiff, Nat.reduceAdd, Nat.reduceSub, Nat.reduceMul, Nat.reduceBEq, reduceCtorEq, if_false, if_true, L_law13_LineBack, hy32, hy26, hy33, hy34, hs_o1, encLineV]
      have hq := Option.some.inj h; subst hq
      refine hK _ _ _ _ _ ?_ (WxH.refl _) (kn _ hfr ((hs_o1).trans rfl))
      exact WE.cons (Wx.int) (WE.cons (Wx.nn) (WE.cons (Wx.ptr) (WE.cons (Wx.int) (WE.cons (Wx.bool) (WE.nil)))))
    · refine UG_nt hy32 ?_
      simp (disch := first | assumption | omega | (simp only [h_sl, h_al] <;> omega) | fail) only [WW, WH, ↓reduceIte, Nat.reduceEqDiff, Nat.reduceLT, Nat.reduceLeDiff, Nat.reduceAdd, Nat.reduceSub, Nat.reduceMul, Nat.reduceBEq, reduceCtorEq, if_false, if_true, L_law13_LineBack, hy32, hs_o1, encLineV]
      have hq := Option.some.inj h; subst hq
      refine hK _ _ _ _ _ ?_ (WxH.refl _) (kn _ hfr ((hs_o1).trans rfl))
      exact WE.cons (Wx.int) (WE.cons (Wx.nn) (WE.cons (Wx.ptr) (WE.cons (Wx.int) (WE.cons (Wx.bool) (WE.nil)))))
set_option maxHeartbeats 2000000 in
theorem law13_LineBack_l2_ok {F : Nat} {i12 : Int} {l2 : List (List UInt8)} {s13 : SplitterV} {most1 : Int} {q11 : Nat} {H0 H : AH} (hfr : Fr H0 H0.length [] H) (hs_o1 : H[q11]? = some [(.int .i64 s13.most), (.sl .own 1 (ml b8 s13.b)), (.int .i64 s13.state), (.bool s13.long)]) (hi0 : H0.length ≤ q11) {K : Exit → Env → AH → Prop} {o : (Bool) ⊕ (SplitterV)}
    (h : iter (law13_LineBack_l2 F l2 most1) F (i12, s13) = some o)
    (kb0 : ∀ o' : SplitterV, o = .inr o' → ∀ H' : AH, Fr H0 H0.length [] H' → H'[q11]? = some [(.int .i64 o'.most), (.sl .own 1 (ml b8 o'.b)), (.int .i64 o'.state), (.bool o'.long)] → K (.exit 0) [(5, (.ptr q11 0))] H')
    (kr : ∀ o' : Bool, o = .inl o' → ∀ H' : AH, Fr H0 H0.length [] H' → K .ret [(4, (.bool o'))] H') :
    AX Try.prog L_law13_LineBack 129 H0.length c_law13_LineBack_l2 K [(0, (.int .i64 most1)), (1, (.sl .n 1 (ml AV.str l2))), (5, (.ptr q11 0)), (7, (.int .i64 i12))] H := by
  refine AX.iter (m := m_law13_LineBack_l2b) rfl (by decide) (fun s e H1 => match s with | (i12, s13) => e = [(0, (.int .i64 most1)), (1, (.sl .n 1 (ml AV.str l2))), (5, (.ptr q11 0)), (7, (.int .i64 i12))] ∧ Fr H0 H0.length [] H1 ∧ H1[q11]? = some [(.int .i64 s13.most), (.sl .own 1 (ml b8 s13.b)), (.int .i64 s13.state), (.bool s13.long)]) h ⟨rfl, hfr, hs_o1⟩ ?_
  skip
  rintro K' ⟨i12, s13⟩ st e H ⟨rfl, hfr, hs_o1⟩ h hN hB hR hX
  have hle := hfr.le
  have hl_o1 := h_lt hs_o1
  rw [law13_LineBack_l2.eq_1] at h
  simp (disch := first | assumption | omega | (simp only [h_sl, h_al] <;> omega) | fail) only [WW, WH, ↓reduceIte, Nat.reduceEqDiff, Nat.reduceLT, Nat.reduceLeDiff, Nat.reduceAdd, Nat.reduceSub, Nat.reduceMul, Nat.reduceBEq, reduceCtorEq, if_false, if_true, L_law13_LineBack, m_law13_LineBack_l2b, hs_o1, encLineV]
  rcases ifb h with ⟨hy8, h⟩ | ⟨hy8, h⟩
  · refine UC_t hy8 ?_
    obtain ⟨x14, hy9, h⟩ := bnd' h
    simp (disch := first | assumption | omega | (simp only [h_sl, h_al] <;> omega) | fail) only [WW, WH, ↓reduceIte, Nat.reduceEqDiff, Nat.reduceLT, Nat.reduceLeDiff, Nat.reduceAdd, Nat.reduceSub, Nat.reduceMul, Nat.reduceBEq, reduceCtorEq, if_false, if_true, L_law13_LineBack, hy9, hs_o1, encLineV]
    rcases ifb h with ⟨hy10, h⟩ | ⟨hy10, h⟩
    · refine UC_t hy10 ?_
      simp (disch := first | assumption | omega | (simp only [h_sl, h_al] <;> omega) | fail) only [WW, WH, ↓reduceIte, Nat.reduceEqDiff, Nat.reduceLT, Nat.reduceLeDiff, Nat.reduceAdd, Nat.reduceSub, Nat.reduceMul, Nat.reduceBEq, reduceCtorEq, if_false, if_true, L_law13_LineBack, hs_o1, encLineV]
      have hq := Option.some.inj h; subst hq
      refine hX _ _ _ _ _ (by simp) ?_ (WxH.refl _) (kr _ (hR _ rfl) _ hfr)
      exact WE.cons (Wx.bool) (WE.nil)
    · refine UC_f hy10 ?_
      simp (disch := first | assumption | omega | (simp only [h_sl, h_al] <;> omega) | fail) only [WW, WH, ↓reduceIte, Nat.reduceEqDiff, Nat.reduceLT, Nat.reduceLeDiff, Nat.reduceAdd, Nat.reduceSub, Nat.reduceMul, Nat.reduceBEq, reduceCtorEq, if_false, if_true, L_law13_LineBack, hs_o1, encLineV]
      obtain ⟨o41, hy18, h⟩ := bnd' h
      refine UX_of (AX.weak ?_ (WxH.refl _) (law13_LineBack_l1_ok  (l2 := l2) (i12 := i12) (most1 := most1) (s13 := s13) (kk16 := 0) (q15 := q11) (hfr) ((hs_o1).trans rfl) (by first | assumption | omega | (simp only [h_sl, h_al] <;> omega) | fail) (o := o41) hy18 ?_ ?_))
      · exact WE.cons (Wx.int) (WE.cons (Wx.nn) (WE.cons (Wx.ptr) (WE.cons (Wx.int) (WE.cons (Wx.int) (WE.nil)))))
      · rintro ⟨⟩ rfl H hfr hs_o1
        try dsimp only at h hs_o1
        have hle := hfr.le
        have hl_o1 := h_lt hs_o1
        obtain ⟨x24, hy19, h⟩ := bnd' h
        simp (disch := first | assumption | omega | (simp only [h_sl, h_al] <;> omega) | fail) only [WW, WH, ↓reduceIte, Nat.reduceEqDiff, Nat.reduceLT, Nat.reduceLeDiff, Nat.reduceAdd, Nat.reduceSub, Nat.reduceMul, Nat.reduceBEq, reduceCtorEq, if_false, if_true, L_law13_LineBack, hy9, hy19, hs_o1, encLineV]
        obtain ⟨⟨r25, r26⟩, hy20, h⟩ := bnd' h
        dsimp only at h
        refine UK_e (as' := [(.ptr q11 0), (.sl .n 1 (ml b8 x24))]) (h := line_Splitter_Feed_ok (s2 := s13) (b3 := x24) (q1 := q11) (F := F) (by exact ((hs_o1).trans rfl)) hy20) (hw := WL.cons (Wx.ptr) (WL.cons (Wx.nn) (WL.nil))) (hh := WxH.refl _) ?_
        simp (disch := first | assumption | omega | (simp only [h_sl, h_al] <;> omega) | fail) only [WW, WH, ↓reduceIte, Nat.reduceEqDiff, Nat.reduceLT, Nat.reduceLeDiff, Nat.reduceAdd, Nat.reduceSub, Nat.reduceMul, Nat.reduceBEq, reduceCtorEq, if_false, if_true, L_law13_LineBack, hs_o1, encLineV]
        obtain ⟨t31, hy24, h⟩ := bnd' h
        refine UX_of (AX.weak ?_ (WxH.refl _) (law13_LineBack_p3_ok  (r25 := r25) (l2 := l2) (i12 := i12) (most1 := most1) (r26 := r26) (t30 := t31) (q27 := q11) ((Fr.set (s := q11) hfr (.inr (by first | assumption | omega | (simp only [h_sl, h_al] <;> omega) | fail)))) ((h_eq (by first | assumption | omega | (simp only [h_sl, h_al] <;> omega) | fail)).trans rfl) (by first | assumption | omega | (simp only [h_sl, h_al] <;> omega) | fail) hy24 ?_))
        · exact WE.cons (Wx.int) (WE.cons (Wx.nn) (WE.cons (Wx.ptr) (WE.cons (Wx.int) (WE.cons (Wx.nn) (WE.nil)))))
        intro H hfr hs_o1
        have hle := hfr.le
        have hl_o1 := h_lt hs_o1
        simp (disch := first | assumption | omega | (simp only [h_sl, h_al] <;> omega) | fail) only [WW, WH, ↓reduceIte, Nat.reduceEqDiff, Nat.reduceLT, Nat.reduceLeDiff, Nat.reduceAdd, Nat.reduceSub, Nat.reduceMul, Nat.reduceBEq, reduceCtorEq, if_false, if_true, L_law13_LineBack, hs_o1, encLineV]
        rcases ifb h with ⟨hy25, h⟩ | ⟨hy25, h⟩
        · refine UC_t hy25 ?_
          simp (disch := first | assumption | omega | (simp only [h_sl, h_al] <;> omega) | fail) only [WW, WH, ↓reduceIte, Nat.reduceEqDiff, Nat.reduceLT, Nat.reduceLeDiff, Nat.reduceAdd, Nat.reduceSub, Nat.reduceMul, Nat.reduceBEq, reduceCtorEq, if_false, if_true, L_law13_LineBack, hs_o1, encLineV]
          have hq := Option.some.inj h; subst hq
          refine hX _ _ _ _ _ (by simp) ?_ (WxH.refl _) (kr _ (hR _ rfl) _ hfr)
          exact WE.cons (Wx.bool) (WE.nil)
        · refine UC_f hy25 ?_
          simp (disch := first | assumption | omega | (simp only [h_sl, h_al] <;> omega) | fail) only [WW, WH, ↓reduceIte, Nat.reduceEqDiff, Nat.reduceLT, Nat.reduceLeDiff, Nat.reduceAdd, Nat.reduceSub, Nat.reduceMul, Nat.reduceBEq, reduceCtorEq, if_false, if_true, L_law13_LineBack, hs_o1, encLineV]
          obtain ⟨t39, hy35, h⟩ := bnd' h
          refine UX_of (AX.weak ?_ (WxH.refl _) (law13_LineBack_p4_ok  (r25 := r25) (l2 := l2) (i12 := i12) (most1 := most1) (r26 := r26) (t38 := t39) (q32 := q11) (hfr) ((hs_o1).trans rfl) (by first | assumption | omega | (simp only [h_sl, h_al] <;> omega) | fail) hy35 ?_))
          · exact WE.cons (Wx.int) (WE.cons (Wx.nn) (WE.cons (Wx.ptr) (WE.cons (Wx.int) (WE.cons (Wx.nn) (WE.nil)))))
          intro H hfr hs_o1
          have hle := hfr.le
          have hl_o1 := h_lt hs_o1
          simp (disch := first | assumption | omega | (simp only [h_sl, h_al] <;> omega) | fail) only [WW, WH, ↓reduceIte, Nat.reduceEqDiff, Nat.reduceLT, Nat.reduceLeDiff, Nat.reduceAdd, Nat.reduceSub, Nat.reduceMul, Nat.reduceBEq, reduceCtorEq, if_false, if_true, L_law13_LineBack, hs_o1, encLineV]
          rcases ifb h with ⟨hy36, h⟩ | ⟨hy36, h⟩
          · refine UC_t hy36 ?_
            simp (disch := first | assumption | omega | (simp only [h_sl, h_al] <;> omega) | fail) only [WW, WH, ↓reduceIte, Nat.reduceEqDiff, Nat.reduceLT, Nat.reduceLeDiff, Nat.reduceAdd, Nat.reduceSub, Nat.reduceMul, Nat.reduceBEq, reduceCtorEq, if_false, if_true, L_law13_LineBack, hs_o1, encLineV]
            have hq := Option.some.inj h; subst hq
            refine hX _ _ _ _ _ (by simp) ?_ (WxH.refl _) (kr _ (hR _ rfl) _ hfr)
            exact WE.cons (Wx.bool) (WE.nil)
          · refine UC_f hy36 ?_
            simp (disch := first | assumption | omega | (simp only [h_sl, h_al] <;> omega) | fail) only [WW, WH, ↓reduceIte, Nat.reduceEqDiff, Nat.reduceLT, Nat.reduceLeDiff, Nat.reduceAdd, Nat.reduceSub, Nat.reduceMul, Nat.reduceBEq, reduceCtorEq, if_false, if_true, L_law13_LineBack, hs_o1, encLineV]
            have hq := Option.some.inj h; subst hq
            refine hN _ rfl _ _ _ _ ?_ (WxH.refl _) ⟨rfl, hfr, ((hs_o1).trans rfl)⟩
            exact WE.cons (Wx.int) (WE.cons (Wx.nn) (WE.cons (Wx.ptr) (WE.cons (Wx.int) (WE.nil))))
      · rintro r40 rfl H hfr
        try dsimp only at h 
        have hle := hfr.le
        simp (disch := first | assumption | omega | (simp only [h_sl, h_al] <;> omega) | fail) only [WW, WH, ↓reduceIte, Nat.reduceEqDiff, Nat.reduceLT, Nat.reduceLeDiff, Nat.reduceAdd, Nat.reduceSub, Nat.reduceMul, Nat.reduceBEq, reduceCtorEq, if_false, if_true, L_law13_LineBack, encLineV]
        have hq := Option.some.inj h; subst hq
        refine hX _ _ _ _ _ (by simp) ?_ (WxH.refl _) (kr _ (hR _ rfl) _ hfr)
        exact WE.cons (Wx.bool) (WE.nil)
  · refine UC_f hy8 ?_
    simp (disch := first | assumption | omega | (simp only [h_sl, h_al] <;> omega) | fail) only [WW, WH, ↓reduceIte, Nat.reduceEqDiff, Nat.reduceLT, Nat.reduceLeDiff, Nat.reduceAdd, Nat.reduceSub, Nat.reduceMul, Nat.reduceBEq, reduceCtorEq, if_false, if_true, L_law13_LineBack, hs_o1, encLineV]
    have hq := Option.some.inj h; subst hq
    refine hX _ _ _ _ _ (by simp) ?_ (WxH.refl _) (kb0 _ (hB _ rfl) _ hfr ((hs_o1).trans rfl))
    exact WE.cons (Wx.ptr) (WE.nil)
set_option maxHeartbeats 2000000 in
theorem law13_LineBack_ok {F : Nat} {most1 : Int} {l2 : List (List UInt8)}  {H0 : AH}  {r0 : Bool} (h : law13_LineBack F most1 l2 = some r0) :
    ACalls Try.prog 4 [(.int .i64 most1), (.sl .n 1 (ml AV.str l2))] H0 fun v H' => v = (.bool r0) ∧ H' = H0 := by
  refine ACalls.goX k_law13_LineBack (m := m_law13_LineBack) rfl L_law13_LineBack (by decide) (by simp) fun hcl K0 hK0 => ?_
  refine AX.of_U (m := m_law13_LineBack) rfl (by decide) ?_
  have hfr := Fr.refl H0 []
  have hle := hfr.le
  rw [law13_LineBack.eq_1] at h
  obtain ⟨H, hHH⟩ : ∃ H, H = H0 := ⟨_, rfl⟩
  have hfr : Fr H0 H0.length [] H := hHH ▸ hfr
  have hle := hfr.le
  suffices hU : U Try.prog L_law13_LineBack 129 H0.length [.code m_law13_LineBack] K0 .normal (argE 0 [(.int .i64 most1), (.sl .n 1 (ml AV.str l2))]) H by rwa [hHH] at hU
  simp (disch := first | assumption | omega | (simp only [h_sl, h_al] <;> omega) | fail) only [WW, WH, ↓reduceIte, Nat.reduceEqDiff, Nat.reduceLT, Nat.reduceLeDiff, Nat.reduceAdd, Nat.reduceSub, Nat.reduceMul, Nat.reduceBEq, reduceCtorEq, if_false, if_true, L_law13_LineBack, m_law13_LineBack, encLineV]
  obtain ⟨r3, hy1, h⟩ := bnd' h
  refine UK_e (as' := []) (h := law13_known_ok  (F := F)  hy1) (hw := WL.nil) (hh := WxH.refl _) ?_
  simp (disch := first | assumption | omega | (simp only [h_sl, h_al] <;> omega) | fail) only [WW, WH, ↓reduceIte, Nat.reduceEqDiff, Nat.reduceLT, Nat.reduceLeDiff, Nat.reduceAdd, Nat.reduceSub, Nat.reduceMul, Nat.reduceBEq, reduceCtorEq, if_false, if_true, L_law13_LineBack, encLineV]
  rcases ifb h with ⟨hy2, h⟩ | ⟨hy2, h⟩
  · refine UC_t hy2 ?_
    simp (disch := first | assumption | omega | (simp only [h_sl, h_al] <;> omega) | fail) only [WW, WH, ↓reduceIte, Nat.reduceEqDiff, Nat.reduceLT, Nat.reduceLeDiff, Nat.reduceAdd, Nat.reduceSub, Nat.reduceMul, Nat.reduceBEq, reduceCtorEq, if_false, if_true, L_law13_LineBack, encLineV]
    have hq := Option.some.inj h; subst hq
    refine hK0 _ _ _ (.inr rfl) ?_
    exact fn_end0 (by exact hfr) hcl (resv_tmp (a := (.bool false)) rfl rfl resv_nil) (by simp [fin, AV.df, AV.sh, AV.sh1, b_df, b_sh, b_sh1, b_Cl]) (Wx.bool) (r' := (.bool false)) ⟨rfl, rfl⟩
  · refine UC_f hy2 ?_
    simp (disch := first | assumption | omega | (simp only [h_sl, h_al] <;> omega) | fail) only [WW, WH, ↓reduceIte, Nat.reduceEqDiff, Nat.reduceLT, Nat.reduceLeDiff, Nat.reduceAdd, Nat.reduceSub, Nat.reduceMul, Nat.reduceBEq, reduceCtorEq, if_false, if_true, L_law13_LineBack, encLineV]
    obtain ⟨t6, hy5, h⟩ := bnd' h
    refine UX_of (AX.weak ?_ (WxH.refl _) (law13_LineBack_p1_ok  (l2 := l2) (most1 := most1) (t5 := t6)  (hfr) hy5 ?_))
    · exact WE.cons (Wx.int) (WE.cons (Wx.nn) (WE.nil))
    intro H hfr
    have hle := hfr.le
    simp (disch := first | assumption | omega | (simp only [h_sl, h_al] <;> omega) | fail) only [WW, WH, ↓reduceIte, Nat.reduceEqDiff, Nat.reduceLT, Nat.reduceLeDiff, Nat.reduceAdd, Nat.reduceSub, Nat.reduceMul, Nat.reduceBEq, reduceCtorEq, if_false, if_true, L_law13_LineBack, encLineV]
    rcases ifb h with ⟨hy6, h⟩ | ⟨hy6, h⟩
    · refine UC_t hy6 ?_
      simp (disch := first | assumption | omega | (simp only [h_sl, h_al] <;> omega) | fail) only [WW, WH, ↓reduceIte, Nat.reduceEqDiff, Nat.reduceLT, Nat.reduceLeDiff, Nat.reduceAdd, Nat.reduceSub, Nat.reduceMul, Nat.reduceBEq, reduceCtorEq, if_false, if_true, L_law13_LineBack, encLineV]
      have hq := Option.some.inj h; subst hq
      refine hK0 _ _ _ (.inr rfl) ?_
      exact fn_end0 (by exact hfr) hcl (resv_tmp (a := (.bool true)) rfl rfl resv_nil) (by simp [fin, AV.df, AV.sh, AV.sh1, b_df, b_sh, b_sh1, b_Cl]) (Wx.bool) (r' := (.bool true)) ⟨rfl, rfl⟩
    · refine UC_f hy6 ?_
      simp (disch := first | assumption | omega | (simp only [h_sl, h_al] <;> omega) | fail) only [WW, WH, ↓reduceIte, Nat.reduceEqDiff, Nat.reduceLT, Nat.reduceLeDiff, Nat.reduceAdd, Nat.reduceSub, Nat.reduceMul, Nat.reduceBEq, reduceCtorEq, if_false, if_true, L_law13_LineBack, encLineV]
      obtain ⟨⟨r7, r8⟩, hy7, h⟩ := bnd' h
      dsimp only at h
      rcases r7 with _ | t9
      · try dsimp only at h
        refine UK_x (as' := [(.int .i64 most1)]) (h := line_New_ok (most1 := most1)  hy7) (hw := WL.cons (Wx.int) (WL.nil)) (hh := WxH.refl _) ?_
        rintro _ H ⟨rfl, hfrn⟩
        have hfr := Fr.trans hfr hfrn (by simp)
        have hle := hfr.le
        simp (disch := first | assumption | omega | (simp only [h_sl, h_al] <;> omega) | fail) only [WW, WH, ↓reduceIte, Nat.reduceEqDiff, Nat.reduceLT, Nat.reduceLeDiff, Nat.reduceAdd, Nat.reduceSub, Nat.reduceMul, Nat.reduceBEq, reduceCtorEq, if_false, if_true, L_law13_LineBack, encLineV]
        have hq := Option.some.inj h; subst hq
        refine hK0 _ _ _ (.inr rfl) ?_
        exact fn_end0 (by exact hfr) hcl (resv_tmp (a := (.bool false)) rfl rfl resv_nil) (by simp [fin, AV.df, AV.sh, AV.sh1, b_df, b_sh, b_sh1, b_Cl]) (Wx.bool) (r' := (.bool false)) ⟨rfl, rfl⟩
      · try dsimp only at h
        refine UK_x (as' := [(.int .i64 most1)]) (h := line_New_ok (most1 := most1)  hy7) (hw := WL.cons (Wx.int) (WL.nil)) (hh := WxH.refl _) ?_
        rintro _ H ⟨q10, rfl, hgn0, hfrn, hs_o1⟩
        have hfr := Fr.trans hfr hfrn (by simp)
        have hle := hfr.le
        have hl_o1 := h_lt hs_o1
        simp (disch := first | assumption | omega | (simp only [h_sl, h_al] <;> omega) | fail) only [WW, WH, ↓reduceIte, Nat.reduceEqDiff, Nat.reduceLT, Nat.reduceLeDiff, Nat.reduceAdd, Nat.reduceSub, Nat.reduceMul, Nat.reduceBEq, reduceCtorEq, if_false, if_true, L_law13_LineBack, hs_o1, encLineV]
        obtain ⟨o47, hy37, h⟩ := bnd' h
        refine UX_of (AX.weak ?_ (WxH.refl _) (law13_LineBack_l2_ok  (l2 := l2) (most1 := most1) (i12 := 0) (s13 := t9) (q11 := q10) (hfr) ((hs_o1).trans rfl) (by first | assumption | omega | (simp only [h_sl, h_al] <;> omega) | fail) (o := o47) hy37 ?_ ?_))
        · exact WE.cons (Wx.int) (WE.cons (Wx.nn) (WE.cons (Wx.ptr) (WE.cons (Wx.int) (WE.nil))))
        · rintro s44 rfl H hfr hs_o1
          try dsimp only at h hs_o1
          have hle := hfr.le
          have hl_o1 := h_lt hs_o1
          simp (disch := first | assumption | omega | (simp only [h_sl, h_al] <;> omega) | fail) only [WW, WH, ↓reduceIte, Nat.reduceEqDiff, Nat.reduceLT, Nat.reduceLeDiff, Nat.reduceAdd, Nat.reduceSub, Nat.reduceMul, Nat.reduceBEq, reduceCtorEq, if_false, if_true, L_law13_LineBack, hs_o1, encLineV]
          obtain ⟨r45, hy38, h⟩ := bnd' h
          refine UK_e (as' := [(.ptr q10 0)]) (h := line_Splitter_Held_ok (s2 := s44) (q1 := q10) (by exact ((hs_o1).trans rfl)) hy38) (hw := WL.cons (Wx.ptr) (WL.nil)) (hh := WxH.refl _) ?_
          simp (disch := first | assumption | omega | (simp only [h_sl, h_al] <;> omega) | fail) only [WW, WH, ↓reduceIte, Nat.reduceEqDiff, Nat.reduceLT, Nat.reduceLeDiff, Nat.reduceAdd, Nat.reduceSub, Nat.reduceMul, Nat.reduceBEq, reduceCtorEq, if_false, if_true, L_law13_LineBack, hs_o1, encLineV]
          have hq := Option.some.inj h; subst hq
          refine hK0 _ _ _ (.inr rfl) ?_
          exact fn_end0 (by exact hfr) hcl (resv_tmp (a := (.bool (decide (r45 = 0)))) rfl rfl resv_nil) (by simp [fin, AV.df, AV.sh, AV.sh1, b_df, b_sh, b_sh1, b_Cl]) (Wx.bool) (r' := (.bool (decide (r45 = 0)))) ⟨rfl, rfl⟩
        · rintro r46 rfl H hfr
          try dsimp only at h 
          have hle := hfr.le
          simp (disch := first | assumption | omega | (simp only [h_sl, h_al] <;> omega) | fail) only [WW, WH, ↓reduceIte, Nat.reduceEqDiff, Nat.reduceLT, Nat.reduceLeDiff, Nat.reduceAdd, Nat.reduceSub, Nat.reduceMul, Nat.reduceBEq, reduceCtorEq, if_false, if_true, L_law13_LineBack, encLineV]
          have hq := Option.some.inj h; subst hq
          refine hK0 _ _ _ (.inr rfl) ?_
          exact fn_end0 (by exact hfr) hcl (resv_tmp (a := (.bool r46)) rfl rfl resv_nil) (by simp [fin, AV.df, AV.sh, AV.sh1, b_df, b_sh, b_sh1, b_Cl]) (Wx.bool) (r' := (.bool r46)) ⟨rfl, rfl⟩

end Go.Proofs.LineS
