import Derived.Test.YtndhkepeecpilaaDoorRSReplyStreamsA
set_option linter.unusedSimpArgs false
set_option linter.unusedVariables false
set_option linter.unusedSectionVars false
set_option linter.defProp false
set_option maxRecDepth 100000
namespace Go.Proofs.ReplyS
open Go Go.Am Go.Proofs

/-! ### mailbag/mailbaglaw16.ReplyStreams -/
def c_law16_ReplyStreams_p1 : ACode := (.rg [⟨(some 20), (.mv (.t 0)), none⟩, ⟨(some 21), (.len (.t 20)), none⟩, ⟨(some 22), (.bin .gtr (.t 21) (.c (.int .i64 4096))), none⟩, ⟨(some 23), (.mv (.t 22)), none⟩, ⟨(some 24), (.mv (.t 1)), (some (23, false))⟩, ⟨(some 25), (.len (.t 24)), (some (23, false))⟩, ⟨(some 26), (.bin .gtr (.t 25) (.c (.int .i64 300))), (some (23, false))⟩, ⟨(some 27), (.pick (.t 23) (.c (.bool true)) (.t 26)), none⟩])
abbrev m_law16_ReplyStreams_p1 := c_law16_ReplyStreams_p1
def c_law16_ReplyStreams_p2 : ACode := (.cond (.t 43) (.seq (.rg [⟨(some 44), (.mv (.t 1)), none⟩, ⟨(some 45), (.mv (.t 8)), none⟩, ⟨(some 46), (.ixa 1 (.t 44) (.t 45)), none⟩, ⟨(some 47), (.ld (.t 46) none), none⟩, ⟨(some 48), (.mv (.t 9)), none⟩, ⟨(some 49), (.bin .add (.t 48) (.c (.int .i64 1))), none⟩, ⟨(some 50), (.bin .rem (.t 47) (.t 49)), none⟩, ⟨(some 9), (.asg (.t 50)), none⟩]) (.seq (.rg [⟨(some 51), (.mv (.t 9)), none⟩, ⟨(some 52), (.bin .lss (.t 51) (.c (.int .i64 0))), none⟩]) (.cond (.t 52) (.rg [⟨(some 53), (.mv (.t 9)), none⟩, ⟨(some 54), (.bin .sub (.c (.int .i64 0)) (.t 53)), none⟩, ⟨(some 9), (.asg (.t 54)), none⟩]) .skip))) .skip)
abbrev m_law16_ReplyStreams_p2 := c_law16_ReplyStreams_p2
def c_law16_ReplyStreams_p3 : ACode := (.rg [⟨(some 74), (.mv (.t 10)), none⟩, ⟨(some 75), (.mv (.t 12)), none⟩, ⟨(some 76), (.call (.c (.fn 16 [])) [(.t 74), (.t 75)]), none⟩, ⟨(some 77), (.un .not (.t 76)), none⟩, ⟨(some 78), (.mv (.t 77)), none⟩, ⟨(some 79), (.mv (.t 11)), (some (78, false))⟩, ⟨(some 80), (.mv (.t 13)), (some (78, false))⟩, ⟨(some 81), (.bin .neq (.t 79) (.t 80)), (some (78, false))⟩, ⟨(some 82), (.pick (.t 78) (.c (.bool true)) (.t 81)), none⟩, ⟨(some 83), (.mv (.t 82)), none⟩, ⟨(some 84), (.mv (.t 5)), (some (83, false))⟩, ⟨(some 85), (.call (.c (.fn 17 [])) [(.t 84)]), (some (83, false))⟩, ⟨(some 86), (.bin .lss (.t 85) (.c (.int .i64 0))), (some (83, false))⟩, ⟨(some 87), (.pick (.t 83) (.c (.bool true)) (.t 86)), none⟩, ⟨(some 88), (.mv (.t 87)), none⟩, ⟨(some 89), (.mv (.t 5)), (some (88, false))⟩, ⟨(some 90), (.call (.c (.fn 17 [])) [(.t 89)]), (some (88, false))⟩, ⟨(some 91), (.bin .gtr (.t 90) (.c (.int .i64 16384))), (some (88, false))⟩, ⟨(some 92), (.pick (.t 88) (.c (.bool true)) (.t 91)), none⟩])
abbrev m_law16_ReplyStreams_p3 := c_law16_ReplyStreams_p3
def c_law16_ReplyStreams_l1b : ACode := (.seq (.seq (.rg [⟨(some 33), (.mv (.t 7)), none⟩, ⟨(some 34), (.len (.t 33)), none⟩, ⟨(some 35), (.bin .gtr (.t 34) (.c (.int .i64 0))), none⟩]) (.cond (.t 35) .skip (.exit 0))) (.seq (.blk 1 (.seq (.rg [⟨(some 38), (.mv (.t 7)), none⟩, ⟨(some 39), (.len (.t 38)), none⟩, ⟨(some 9), (.asg (.t 39)), none⟩]) (.seq (.seq (.rg [⟨(some 40), (.mv (.t 8)), none⟩, ⟨(some 41), (.mv (.t 1)), none⟩, ⟨(some 42), (.len (.t 41)), none⟩, ⟨(some 43), (.bin .lss (.t 40) (.t 42)), none⟩]) c_law16_ReplyStreams_p2) (.seq (.rg [⟨(some 56), (.mv (.t 5)), none⟩, ⟨(some 57), (.mv (.t 7)), none⟩, ⟨(some 58), (.mv (.t 9)), none⟩, ⟨(some 59), (.slc 1 (.t 57) none (some (.t 58)) none), none⟩, ⟨(some 60), (.call (.c (.fn 14 [])) [(.t 56), (.t 59)]), none⟩, ⟨(some 55), (.mv (.t 60)), none⟩, ⟨(some 61), (.ext (.t 55) 0), none⟩, ⟨(some 62), (.ext (.t 55) 1), none⟩, ⟨(some 10), (.asg (.t 61)), none⟩, ⟨(some 11), (.asg (.t 62)), none⟩]) (.seq (.rg [⟨(some 64), (.mv (.t 6)), none⟩, ⟨(some 65), (.mv (.t 7)), none⟩, ⟨(some 66), (.mv (.t 9)), none⟩, ⟨(some 67), (.slc 1 (.t 65) none (some (.t 66)) none), none⟩, ⟨(some 68), (.call (.c (.fn 15 [])) [(.t 64), (.t 67)]), none⟩, ⟨(some 63), (.mv (.t 68)), none⟩, ⟨(some 69), (.ext (.t 63) 0), none⟩, ⟨(some 70), (.ext (.t 63) 1), none⟩, ⟨(some 12), (.asg (.t 69)), none⟩, ⟨(some 13), (.asg (.t 70)), none⟩]) (.seq (.rg [⟨(some 71), (.mv (.t 7)), none⟩, ⟨(some 72), (.mv (.t 9)), none⟩, ⟨(some 73), (.slc 1 (.t 71) (some (.t 72)) none none), none⟩, ⟨(some 7), (.asg (.t 73)), none⟩]) (.seq c_law16_ReplyStreams_p3 (.cond (.t 92) (.seq (.rg [⟨(some 4), (.asg (.c (.bool false))), none⟩]) .ret) .skip)))))))) (.rg [⟨(some 36), (.mv (.t 8)), none⟩, ⟨(some 37), (.bin .add (.t 36) (.c (.int .i64 1))), none⟩, ⟨(some 8), (.asg (.t 37)), none⟩])))
def c_law16_ReplyStreams_l1 : ACode := (.loop c_law16_ReplyStreams_l1b)
def m_law16_ReplyStreams_l1b : ACode := (.seq (.seq (.rg [⟨(some 33), (.mv (.t 7)), none⟩, ⟨(some 34), (.len (.t 33)), none⟩, ⟨(some 35), (.bin .gtr (.t 34) (.c (.int .i64 0))), none⟩]) (.cond (.t 35) .skip (.exit 0))) (.seq (.blk 1 (.seq (.rg [⟨(some 38), (.mv (.t 7)), none⟩, ⟨(some 39), (.len (.t 38)), none⟩, ⟨(some 9), (.asg (.t 39)), none⟩]) (.seq (.seq (.rg [⟨(some 40), (.mv (.t 8)), none⟩, ⟨(some 41), (.mv (.t 1)), none⟩, ⟨(some 42), (.len (.t 41)), none⟩, ⟨(some 43), (.bin .lss (.t 40) (.t 42)), none⟩]) (.sem c_law16_ReplyStreams_p2)) (.seq (.rg [⟨(some 56), (.mv (.t 5)), none⟩, ⟨(some 57), (.mv (.t 7)), none⟩, ⟨(some 58), (.mv (.t 9)), none⟩, ⟨(some 59), (.slc 1 (.t 57) none (some (.t 58)) none), none⟩, ⟨(some 60), (.call (.c (.fn 14 [])) [(.t 56), (.t 59)]), none⟩, ⟨(some 55), (.mv (.t 60)), none⟩, ⟨(some 61), (.ext (.t 55) 0), none⟩, ⟨(some 62), (.ext (.t 55) 1), none⟩, ⟨(some 10), (.asg (.t 61)), none⟩, ⟨(some 11), (.asg (.t 62)), none⟩]) (.seq (.rg [⟨(some 64), (.mv (.t 6)), none⟩, ⟨(some 65), (.mv (.t 7)), none⟩, ⟨(some 66), (.mv (.t 9)), none⟩, ⟨(some 67), (.slc 1 (.t 65) none (some (.t 66)) none), none⟩, ⟨(some 68), (.call (.c (.fn 15 [])) [(.t 64), (.t 67)]), none⟩, ⟨(some 63), (.mv (.t 68)), none⟩, ⟨(some 69), (.ext (.t 63) 0), none⟩, ⟨(some 70), (.ext (.t 63) 1), none⟩, ⟨(some 12), (.asg (.t 69)), none⟩, ⟨(some 13), (.asg (.t 70)), none⟩]) (.seq (.rg [⟨(some 71), (.mv (.t 7)), none⟩, ⟨(some 72), (.mv (.t 9)), none⟩, ⟨(some 73), (.slc 1 (.t 71) (some (.t 72)) none none), none⟩, ⟨(some 7), (.asg (.t 73)), none⟩]) (.seq (.sem c_law16_ReplyStreams_p3) (.cond (.t 92) (.seq (.rg [⟨(some 4), (.asg (.c (.bool false))), none⟩]) .ret) .skip)))))))) (.rg [⟨(some 36), (.mv (.t 8)), none⟩, ⟨(some 37), (.bin .add (.t 36) (.c (.int .i64 1))), none⟩, ⟨(some 8), (.asg (.t 37)), none⟩])))
def c_law16_ReplyStreams_p4 : ACode := (.rg [⟨(some 103), (.lde (.t 14) (some 2)), none⟩, ⟨(some 105), (.lde (.t 16) (some 2)), none⟩, ⟨(some 104), (.call (.c (.fn 20 [])) [(.t 103)]), none⟩, ⟨(some 106), (.call (.c (.fn 19 [])) [(.t 104), (.t 105)]), none⟩, ⟨(some 107), (.mv (.t 106)), none⟩, ⟨(some 108), (.mv (.t 15)), (some (107, true))⟩, ⟨(some 109), (.mv (.t 17)), (some (107, true))⟩, ⟨(some 110), (.bin .eql (.t 108) (.t 109)), (some (107, true))⟩, ⟨(some 111), (.pick (.t 107) (.t 110) (.c (.bool false))), none⟩, ⟨(some 4), (.asg (.t 111)), none⟩])
abbrev m_law16_ReplyStreams_p4 := c_law16_ReplyStreams_p4
def c_law16_ReplyStreams : ACode := (.seq (.rg [⟨(some 4), (.asg (.c (.bool false))), none⟩]) (.seq (.seq (.rg [⟨(some 18), (.call (.c (.fn 8 [])) []), none⟩, ⟨(some 19), (.un .not (.t 18)), none⟩]) (.cond (.t 19) (.seq (.rg [⟨(some 4), (.asg (.c (.bool false))), none⟩]) .ret) .skip)) (.seq (.seq c_law16_ReplyStreams_p1 (.cond (.t 27) (.seq (.rg [⟨(some 4), (.asg (.c (.bool true))), none⟩]) .ret) .skip)) (.seq (.rg [⟨(some 28), (.call (.c (.fn 12 [])) []), none⟩, ⟨(some 5), (.asg (.t 28)), none⟩]) (.seq (.rg [⟨(some 29), (.call (.c (.fn 13 [])) []), none⟩, ⟨(some 6), (.asg (.t 29)), none⟩]) (.seq (.seq (.rg [⟨(some 30), (.mv (.t 5)), none⟩, ⟨(some 31), (.pq false (.t 30) (.c (.v (.pointer none)))), none⟩]) (.cond (.t 31) (.seq (.rg [⟨(some 4), (.asg (.c (.bool false))), none⟩]) .ret) .skip)) (.seq (.rg [⟨(some 32), (.mv (.t 0)), none⟩, ⟨(some 7), (.asg (.t 32)), none⟩]) (.seq (.seq (.rg [⟨(some 8), (.asg (.c (.int .i64 0))), none⟩]) (.blk 0 c_law16_ReplyStreams_l1)) (.seq (.rg [⟨(some 94), (.mv (.t 0)), none⟩, ⟨(some 95), (.call (.c (.fn 9 [])) [(.t 94)]), none⟩, ⟨(some 93), (.mv (.t 95)), none⟩, ⟨(some 96), (.ext (.t 93) 0), none⟩, ⟨(some 97), (.ext (.t 93) 1), none⟩, ⟨(some 14), (.alloc [(.int .i64 0), (.sl .ex 1 [])]), none⟩, ⟨none, (.st (.t 14) (.t 96) 2), none⟩, ⟨(some 15), (.asg (.t 97)), none⟩]) (.seq (.rg [⟨(some 99), (.mv (.t 0)), none⟩, ⟨(some 100), (.call (.c (.fn 18 [])) [(.t 99)]), none⟩, ⟨(some 98), (.mv (.t 100)), none⟩, ⟨(some 101), (.ext (.t 98) 0), none⟩, ⟨(some 102), (.ext (.t 98) 1), none⟩, ⟨(some 16), (.alloc [(.int .i64 0), (.sl .ex 1 [])]), none⟩, ⟨none, (.st (.t 16) (.t 101) 2), none⟩, ⟨(some 17), (.asg (.t 102)), none⟩]) (.seq c_law16_ReplyStreams_p4 .ret)))))))))))
def m_law16_ReplyStreams : ACode := (.seq (.rg [⟨(some 4), (.asg (.c (.bool false))), none⟩]) (.seq (.seq (.rg [⟨(some 18), (.call (.c (.fn 8 [])) []), none⟩, ⟨(some 19), (.un .not (.t 18)), none⟩]) (.cond (.t 19) (.seq (.rg [⟨(some 4), (.asg (.c (.bool false))), none⟩]) .ret) .skip)) (.seq (.seq (.sem c_law16_ReplyStreams_p1) (.cond (.t 27) (.seq (.rg [⟨(some 4), (.asg (.c (.bool true))), none⟩]) .ret) .skip)) (.seq (.rg [⟨(some 28), (.call (.c (.fn 12 [])) []), none⟩, ⟨(some 5), (.asg (.t 28)), none⟩]) (.seq (.rg [⟨(some 29), (.call (.c (.fn 13 [])) []), none⟩, ⟨(some 6), (.asg (.t 29)), none⟩]) (.seq (.seq (.rg [⟨(some 30), (.mv (.t 5)), none⟩, ⟨(some 31), (.pq false (.t 30) (.c (.v (.pointer none)))), none⟩]) (.cond (.t 31) (.seq (.rg [⟨(some 4), (.asg (.c (.bool false))), none⟩]) .ret) .skip)) (.seq (.rg [⟨(some 32), (.mv (.t 0)), none⟩, ⟨(some 7), (.asg (.t 32)), none⟩]) (.seq (.seq (.rg [⟨(some 8), (.asg (.c (.int .i64 0))), none⟩]) (.blk 0 c_law16_ReplyStreams_l1)) (.seq (.rg [⟨(some 94), (.mv (.t 0)), none⟩, ⟨(some 95), (.call (.c (.fn 9 [])) [(.t 94)]), none⟩, ⟨(some 93), (.mv (.t 95)), none⟩, ⟨(some 96), (.ext (.t 93) 0), none⟩, ⟨(some 97), (.ext (.t 93) 1), none⟩, ⟨(some 14), (.alloc [(.int .i64 0), (.sl .ex 1 [])]), none⟩, ⟨none, (.st (.t 14) (.t 96) 2), none⟩, ⟨(some 15), (.asg (.t 97)), none⟩]) (.seq (.rg [⟨(some 99), (.mv (.t 0)), none⟩, ⟨(some 100), (.call (.c (.fn 18 [])) [(.t 99)]), none⟩, ⟨(some 98), (.mv (.t 100)), none⟩, ⟨(some 101), (.ext (.t 98) 0), none⟩, ⟨(some 102), (.ext (.t 98) 1), none⟩, ⟨(some 16), (.alloc [(.int .i64 0), (.sl .ex 1 [])]), none⟩, ⟨none, (.st (.t 16) (.t 101) 2), none⟩, ⟨(some 17), (.asg (.t 102)), none⟩]) (.seq (.sem c_law16_ReplyStreams_p4) .ret)))))))))))
theorem k_law16_ReplyStreams : FnOk Tryd.prog 4 112 [(.tmp 4)] c_law16_ReplyStreams := ⟨Tryd.f4, _, rfl, by decide, rfl, by kernel_rfl, rfl, rfl⟩
abbrev L_law16_ReplyStreams : List Nat := [0, 1, 4, 5, 6, 7, 8, 9, 10, 11, 12, 13, 14, 15, 16, 17, 19, 27, 31, 35, 43, 52, 92]
def law16_ReplyStreams_p2x (i34 : Int) (cuts2 : List Int) (rest33 : List UInt8) : Option (Int) :=
  (if (decide (i34 < (cuts2.length : Int))) then
    (idx cuts2 i34).bind fun x41 =>
    (rm .i64 x41 (IntKind.wrap .i64 ((rest33.length : Int) + 1))).bind fun x42 =>
    (if (decide (x42 < 0)) then
      some (IntKind.wrap .i64 (0 - x42))
    else
      some x42)
  else
    some (rest33.length : Int))
def law16_ReplyStreams_p3 (F : Nat) (r46 : List ReplyV) (r49 : List ReplyV) (r47 : Int) (r50 : Int) (r48 : ReaderV) : Option (Bool) :=
  (law16_same F r46 r49).bind fun r56 =>
  (if (!r56) then
    some true
  else
    (if (!decide (r47 = r50)) then
      some true
    else
      (reply_Reader_Held_s r48).bind fun r57 =>
      (if (decide (r57 < 0)) then
        some true
      else
        (reply_Reader_Held_s r48).bind fun r58 => some (decide (16384 < r58)))))
def law16_ReplyStreams_l1 (F : Nat) (cuts2 : List Int) : ((List UInt8) × Int × ReaderV × SplitterV × ReaderVx) → Option (St Bool (ReaderV × SplitterV × ReaderVx) ((List UInt8) × Int × ReaderV × SplitterV × ReaderVx))
  | (rest33, i34, s35, s36, s37) =>
    (if (decide (0 < (rest33.length : Int))) then
      (law16_ReplyStreams_p2x i34 cuts2 rest33).bind fun nn44 =>
      (sub rest33 0 nn44).bind fun x45 =>
      (reply_Reader_Feed F (ReaderV.mk s36 s35.r s35.n s35.bad) x45).bind fun (r46, r47, r48) =>
      (ref16_Reader_Feed F s37 x45).bind fun (r49, r50, r51) =>
      (sub rest33 nn44 (rest33.length : Int)).bind fun x52 =>
      (law16_ReplyStreams_p3 F r46 r49 r47 r50 r48).bind fun t60 =>
      (if t60 then
        some (.ret false)
      else
        some (.nxt (x52, (IntKind.wrap .i64 (i34 + 1)), r48, r48.splitter, r51)))
    else
      some (.brk ((ReaderV.mk s36 s35.r s35.n s35.bad), s36, s37)))
def law16_ReplyStreams_p4 (F : Nat) (r68 : ReplyV) (r70 : ReplyV) (r69 : Int) (r71 : Int) : Option (Bool) :=
  (law16_Of r68).bind fun r72 =>
  (ref16_Same F r72 r70).bind fun r73 => (if r73 then
    some (decide (r69 = r71))
  else
    some false)
def law16_ReplyStreams (F : Nat) (b1 : List UInt8) (cuts2 : List Int) : Option (Bool) :=
  (law16_known F ).bind fun r3 =>
  (if (!r3) then
    some false
  else
    (if ((decide (4096 < (b1.length : Int))) || (decide (300 < (cuts2.length : Int)))) then
      some true
    else
      ((reply_New ).bind fun r4 =>
      match r4 with
      | none =>
        ((ref16_New ).bind fun r6 =>
        match r6 with
        | none =>
          some false
        | some t7 =>
          some false)
      | some t5 =>
        ((ref16_New ).bind fun r11 =>
        match r11 with
        | none =>
          none
        | some t12 =>
          ((iter (law16_ReplyStreams_l1 F cuts2) F (b1, 0, t5, t5.splitter, t12)).bind fun o77 =>
          match o77 with
          | .inr (s65, s66, s67) =>
            (reply_Parse F b1).bind fun (r68, r69) =>
            (ref16_Parse F b1).bind fun (r70, r71) =>
            (law16_ReplyStreams_p4 F r68 r70 r69 r71).bind fun t75 =>
            some t75
          | .inl r76 =>
            some r76)))))
set_option maxHeartbeats 2000000 in
theorem law16_ReplyStreams_p1_ok {b1 : List UInt8} {cuts2 : List Int} {H0 H : AH} (hfr : Fr H0 H0.length [] H) {K : Exit → Env → AH → Prop}
    (kn : ∀ H' : AH, Fr H0 H0.length [] H' → K .normal [(0, (.sl .n 1 (ml b8 b1))), (1, (.sl .n 1 (ml (iint .i64) cuts2))), (27, (.bool ((decide (4096 < (b1.length : Int))) || (decide (300 < (cuts2.length : Int))))))] H') :
    AX Tryd.prog L_law16_ReplyStreams 112 H0.length c_law16_ReplyStreams_p1 K [(0, (.sl .n 1 (ml b8 b1))), (1, (.sl .n 1 (ml (iint .i64) cuts2)))] H := by
  refine AX.go (m := m_law16_ReplyStreams_p1) rfl (by decide) fun K' hK => ?_
  have hle := hfr.le
  simp (disch := first | assumption | omega | (simp only [h_sl, h_al] <;> omega) | fail) only [WW, WH, ↓reduceIte, Nat.reduceEqDiff, Nat.reduceLT, Nat.reduceLeDiff, Nat.reduceAdd, Nat.reduceSub, Nat.reduceMul, Nat.reduceBEq, reduceCtorEq, if_false, if_true, L_law16_ReplyStreams, m_law16_ReplyStreams_p1, c_law16_ReplyStreams_p1, encReplyV]
  rcases bcases ((decide (4096 < (b1.length : Int)))) with hy3 | hy3
  · refine UG_nf hy3 ?_
    simp (disch := first | assumption | omega | (simp only [h_sl, h_al] <;> omega) | fail) only [WW, WH, ↓reduceIte, Nat.reduceEqDiff, Nat.reduceLT, Nat.reduceLeDiff, Nat.reduceAdd, Nat.reduceSub, Nat.reduceMul, Nat.reduceBEq, reduceCtorEq, if_false, if_true, L_law16_ReplyStreams, hy3, encReplyV]
    refine hK _ _ _ _ _ ?_ (WxH.refl _) (kn _ hfr)
    exact WE.cons (Wx.nn) (WE.cons (Wx.nn) (WE.cons (Wx.boolE (by simp only [hy3, WB])) (WE.nil)))
  · refine UG_go hy3 ?_
    simp (disch := first | assumption | omega | (simp only [h_sl, h_al] <;> omega) | fail) only [WW, WH, ↓reduceIte, Nat.reduceEqDiff, Nat.reduceLT, Nat.reduceLeDiff, Nat.reduceAdd, Nat.reduceSub, Nat.reduceMul, Nat.reduceBEq, reduceCtorEq, if_false, if_true, L_law16_ReplyStreams, hy3, encReplyV]
    refine hK _ _ _ _ _ ?_ (WxH.refl _) (kn _ hfr)
    exact WE.cons (Wx.nn) (WE.cons (Wx.nn) (WE.cons (Wx.boolE (by simp only [hy3, WB])) (WE.nil)))
set_option maxHeartbeats 2000000 in
theorem law16_ReplyStreams_p2x_ok {i34 : Int} {cuts2 : List Int} {rest33 : List UInt8} {b1 : List UInt8} {q38 : Nat} {q40 : Nat} {q39 : Nat} {s35 : ReaderV} {s36 : SplitterV} {s37 : ReaderVx} {H0 H : AH} (hfr : Fr H0 H0.length [] H) (hs_o1 : H[q38]? = some [(.ptr q39 0), (.int .i64 s35.r.code), (.sl .own 1 (ml AV.str s35.r.lines)), (.int .i64 s35.n), (.bool s35.bad)]) (hs_o2 : H[q39]? = some [(.int .i64 s36.most), (.sl .own 1 (ml b8 s36.b)), (.int .i64 s36.state), (.bool s36.long)]) (hs_o3 : H[q40]? = some [(.int .i64 s37.s.most), (.sl .own 1 (ml b8 s37.s.b)), (.int .i64 s37.s.n), (.bool s37.s.cR), (.int .i64 s37.code), (.sl .own 1 (ml AV.str s37.l)), (.bool s37.bad)]) (hi0 : H0.length ≤ q38) (hi1 : H0.length ≤ q39) (hi2 : q38 ≠ q39) (hi3 : H0.length ≤ q40) (hi4 : q38 ≠ q40) (hi5 : q39 ≠ q40) {K : Exit → Env → AH → Prop} {nn43 : Int}
    (h : law16_ReplyStreams_p2x i34 cuts2 rest33 = some nn43)
    (kn : ∀ H' : AH, Fr H0 H0.length [] H' → H'[q38]? = some [(.ptr q39 0), (.int .i64 s35.r.code), (.sl .own 1 (ml AV.str s35.r.lines)), (.int .i64 s35.n), (.bool s35.bad)] → H'[q39]? = some [(.int .i64 s36.most), (.sl .own 1 (ml b8 s36.b)), (.int .i64 s36.state), (.bool s36.long)] → H'[q40]? = some [(.int .i64 s37.s.most), (.sl .own 1 (ml b8 s37.s.b)), (.int .i64 s37.s.n), (.bool s37.s.cR), (.int .i64 s37.code), (.sl .own 1 (ml AV.str s37.l)), (.bool s37.bad)] → K .normal [(0, (.sl .n 1 (ml b8 b1))), (1, (.sl .n 1 (ml (iint .i64) cuts2))), (5, (.ptr q38 0)), (6, (.ptr q40 0)), (7, (.sl .n 1 (ml b8 rest33))), (8, (.int .i64 i34)), (9, (.int .i64 nn43))] H') :
    AX Tryd.prog L_law16_ReplyStreams 112 H0.length c_law16_ReplyStreams_p2 K [(0, (.sl .n 1 (ml b8 b1))), (1, (.sl .n 1 (ml (iint .i64) cuts2))), (5, (.ptr q38 0)), (6, (.ptr q40 0)), (7, (.sl .n 1 (ml b8 rest33))), (8, (.int .i64 i34)), (9, (.int .i64 (rest33.length : Int))), (43, (.bool (decide (i34 < (cuts2.length : Int)))))] H := by
  refine AX.go (m := m_law16_ReplyStreams_p2) rfl (by decide) fun K' hK => ?_
  have hle := hfr.le
  have hl_o1 := h_lt hs_o1
  have hl_o2 := h_lt hs_o2
  have hl_o3 := h_lt hs_o3
  rw [law16_ReplyStreams_p2x.eq_1] at h
  simp (disch := first | assumption | omega | (simp only [h_sl, h_al] <;> omega) | fail) only [WW, WH, ↓reduceIte, Nat.reduceEqDiff, Nat.reduceLT, Nat.reduceLeDiff, Nat.reduceAdd, Nat.reduceSub, Nat.reduceMul, Nat.reduceBEq, reduceCtorEq, if_false, if_true, L_law16_ReplyStreams, m_law16_ReplyStreams_p2, c_law16_ReplyStreams_p2, hs_o1, hs_o2, hs_o3, encReplyV]
  rcases ifb h with ⟨hy19, h⟩ | ⟨hy19, h⟩
  · refine UC_t hy19 ?_
    obtain ⟨x41, hy20, h⟩ := bnd' h
    obtain ⟨x42, hy21, h⟩ := bnd' h
    simp (disch := first | assumption | omega | (simp only [h_sl, h_al] <;> omega) | fail) only [WW, WH, ↓reduceIte, Nat.reduceEqDiff, Nat.reduceLT, Nat.reduceLeDiff, Nat.reduceAdd, Nat.reduceSub, Nat.reduceMul, Nat.reduceBEq, reduceCtorEq, if_false, if_true, L_law16_ReplyStreams, hy20, hy21, hs_o1, hs_o2, hs_o3, encReplyV]
    rcases ifb h with ⟨hy22, h⟩ | ⟨hy22, h⟩
    · refine UC_t hy22 ?_
      simp (disch := first | assumption | omega | (simp only [h_sl, h_al] <;> omega) | fail) only [WW, WH, ↓reduceIte, Nat.reduceEqDiff, Nat.reduceLT, Nat.reduceLeDiff, Nat.reduceAdd, Nat.reduceSub, Nat.reduceMul, Nat.reduceBEq, reduceCtorEq, if_false, if_true, L_law16_ReplyStreams, hs_o1, hs_o2, hs_o3, encReplyV]
      have hq := Option.some.inj h; subst hq
      refine hK _ _ _ _ _ ?_ (WxH.refl _) (kn _ hfr ((hs_o1).trans rfl) ((hs_o2).trans rfl) ((hs_o3).trans rfl))
      exact WE.cons (Wx.nn) (WE.cons (Wx.nn) (WE.cons (Wx.ptr) (WE.cons (Wx.ptr) (WE.cons (Wx.nn) (WE.cons (Wx.int) (WE.cons (Wx.int) (WE.nil)))))))
    · refine UC_f hy22 ?_
      simp (disch := first | assumption | omega | (simp only [h_sl, h_al] <;> omega) | fail) only [WW, WH, ↓reduceIte, Nat.reduceEqDiff, Nat.reduceLT, Nat.reduceLeDiff, Nat.reduceAdd, Nat.reduceSub, Nat.reduceMul, Nat.reduceBEq, reduceCtorEq, if_false, if_true, L_law16_ReplyStreams, hs_o1, hs_o2, hs_o3, encReplyV]
      have hq := Option.some.inj h; subst hq
      refine hK _ _ _ _ _ ?_ (WxH.refl _) (kn _ hfr ((hs_o1).trans rfl) ((hs_o2).trans rfl) ((hs_o3).trans rfl))
      exact WE.cons (Wx.nn) (WE.cons (Wx.nn) (WE.cons (Wx.ptr) (WE.cons (Wx.ptr) (WE.cons (Wx.nn) (WE.cons (Wx.int) (WE.cons (Wx.int) (WE.nil)))))))
  · refine UC_f hy19 ?_
    simp (disch := first | assumption | omega | (simp only [h_sl, h_al] <;> omega) | fail) only [WW, WH, ↓reduceIte, Nat.reduceEqDiff, Nat.reduceLT, Nat.reduceLeDiff, Nat.reduceAdd, Nat.reduceSub, Nat.reduceMul, Nat.reduceBEq, reduceCtorEq, if_false, if_true, L_law16_ReplyStreams, hs_o1, hs_o2, hs_o3, encReplyV]
    have hq := Option.some.inj h; subst hq
    refine hK _ _ _ _ _ ?_ (WxH.refl _) (kn _ hfr ((hs_o1).trans rfl) ((hs_o2).trans rfl) ((hs_o3).trans rfl))
    exact WE.cons (Wx.nn) (WE.cons (Wx.nn) (WE.cons (Wx.ptr) (WE.cons (Wx.ptr) (WE.cons (Wx.nn) (WE.cons (Wx.int) (WE.cons (Wx.int) (WE.nil)))))))
set_option maxHeartbeats 2000000 in
theorem law16_ReplyStreams_p3_ok {F : Nat} {r46 : List ReplyV} {r49 : List ReplyV} {r47 : Int} {r50 : Int} {r48 : ReaderV} {b1 : List UInt8} {cuts2 : List Int} {q53 : Nat} {q55 : Nat} {x52 : List UInt8} {i34 : Int} {q54 : Nat} {r51 : ReaderVx} {H0 H : AH} (hfr : Fr H0 H0.length [] H) (hs_o1 : H[q53]? = some [(.ptr q54 0), (.int .i64 r48.r.code), (.sl .own 1 (ml AV.str r48.r.lines)), (.int .i64 r48.n), (.bool r48.bad)]) (hs_o2 : H[q54]? = some [(.int .i64 r48.splitter.most), (.sl .own 1 (ml b8 r48.splitter.b)), (.int .i64 r48.splitter.state), (.bool r48.splitter.long)]) (hs_o3 : H[q55]? = some [(.int .i64 r51.s.most), (.sl .own 1 (ml b8 r51.s.b)), (.int .i64 r51.s.n), (.bool r51.s.cR), (.int .i64 r51.code), (.sl .own 1 (ml AV.str r51.l)), (.bool r51.bad)]) (hi0 : H0.length ≤ q53) (hi1 : H0.length ≤ q54) (hi2 : q53 ≠ q54) (hi3 : H0.length ≤ q55) (hi4 : q53 ≠ q55) (hi5 : q54 ≠ q55) {K : Exit → Env → AH → Prop} {t59 : Bool}
    (h : law16_ReplyStreams_p3 F r46 r49 r47 r50 r48 = some t59)
    (kn : ∀ H' : AH, Fr H0 H0.length [] H' → H'[q53]? = some [(.ptr q54 0), (.int .i64 r48.r.code), (.sl .own 1 (ml AV.str r48.r.lines)), (.int .i64 r48.n), (.bool r48.bad)] → H'[q54]? = some [(.int .i64 r48.splitter.most), (.sl .own 1 (ml b8 r48.splitter.b)), (.int .i64 r48.splitter.state), (.bool r48.splitter.long)] → H'[q55]? = some [(.int .i64 r51.s.most), (.sl .own 1 (ml b8 r51.s.b)), (.int .i64 r51.s.n), (.bool r51.s.cR), (.int .i64 r51.code), (.sl .own 1 (ml AV.str r51.l)), (.bool r51.bad)] → K .normal [(0, (.sl .n 1 (ml b8 b1))), (1, (.sl .n 1 (ml (iint .i64) cuts2))), (5, (.ptr q53 0)), (6, (.ptr q55 0)), (7, (.sl .n 1 (ml b8 x52))), (8, (.int .i64 i34)), (92, (.bool t59))] H') :
    AX Tryd.prog L_law16_ReplyStreams 112 H0.length c_law16_ReplyStreams_p3 K [(0, (.sl .n 1 (ml b8 b1))), (1, (.sl .n 1 (ml (iint .i64) cuts2))), (5, (.ptr q53 0)), (6, (.ptr q55 0)), (7, (.sl .n 1 (ml b8 x52))), (8, (.int .i64 i34)), (10, (.sl .n 2 (ml encReplyV r46))), (11, (.int .i64 r47)), (12, (.sl .n 2 (ml encReplyV r49))), (13, (.int .i64 r50))] H := by
  refine AX.go (m := m_law16_ReplyStreams_p3) rfl (by decide) fun K' hK => ?_
  have hle := hfr.le
  have hl_o1 := h_lt hs_o1
  have hl_o2 := h_lt hs_o2
  have hl_o3 := h_lt hs_o3
  rw [law16_ReplyStreams_p3.eq_1] at h
  simp (disch := first | assumption | omega | (simp only [h_sl, h_al] <;> omega) | fail) only [WW, WH, ↓reduceIte, Nat.reduceEqDiff, Nat.reduceLT, Nat.reduceLeDiff, Nat.reduceAdd, Nat.reduceSub, Nat.reduceMul, Nat.reduceBEq, reduceCtorEq, if_false, if_true, L_law16_ReplyStreams, m_law16_ReplyStreams_p3, c_law16_ReplyStreams_p3, hs_o1, hs_o2, hs_o3, encReplyV]
  obtain ⟨r56, hy31, h⟩ := bnd' h
  refine UK_e (as' := [(.sl .n 2 (ml encReplyV r46)), (.sl .n 2 (ml encReplyV r49))]) (h := law16_same_ok (a1 := r46) (b2 := r49) (F := F)  hy31) (hw := WL.cons (Wx.nn) (WL.cons (Wx.nn) (WL.nil))) (hh := WxH.refl _) ?_
  simp (disch := first | assumption | omega | (simp only [h_sl, h_al] <;> omega) | fail) only [WW, WH, ↓reduceIte, Nat.reduceEqDiff, Nat.reduceLT, Nat.reduceLeDiff, Nat.reduceAdd, Nat.reduceSub, Nat.reduceMul, Nat.reduceBEq, reduceCtorEq, if_false, if_true, L_law16_ReplyStreams, hs_o1, hs_o2, hs_o3, encReplyV]
  rcases ifb h with ⟨hy32, h⟩ | ⟨hy32, h⟩
  · refine UG_nf hy32 ?_
    simp (disch := first | assumption | omega | (simp only [h_sl, h_al] <;> omega) | fail) only [WW, WH, ↓reduceIte, Nat.reduceEqDiff, Nat.reduceLT, Nat.reduceLeDiff, Nat.reduceAdd, Nat.reduceSub, Nat.reduceMul, Nat.reduceBEq, reduceCtorEq, if_false, if_true, L_law16_ReplyStreams, hy32, hs_o1, hs_o2, hs_o3, encReplyV]
    have hq := Option.some.inj h; subst hq
    refine hK _ _ _ _ _ ?_ (WxH.refl _) (kn _ hfr ((hs_o1).trans rfl) ((hs_o2).trans rfl) ((hs_o3).trans rfl))
    exact WE.cons (Wx.nn) (WE.cons (Wx.nn) (WE.cons (Wx.ptr) (WE.cons (Wx.ptr) (WE.cons (Wx.nn) (WE.cons (Wx.int) (WE.cons (Wx.bool) (WE.nil)))))))
  · refine UG_go hy32 ?_
    simp (disch := first | assumption | omega | (simp only [h_sl, h_al] <;> omega) | fail) only [WW, WH, ↓reduceIte, Nat.reduceEqDiff, Nat.reduceLT, Nat.reduceLeDiff, Nat.reduceAdd, Nat.reduceSub, Nat.reduceMul, Nat.reduceBEq, reduceCtorEq, if_false, if_true, L_law16_ReplyStreams, hy32, hs_o1, hs_o2, hs_o3, encReplyV]
    rcases ifb h with ⟨hy33, h⟩ | ⟨hy33, h⟩
    · refine UG_nf hy33 ?_
      simp (disch := first | assumption | omega | (simp only [h_sl, h_al] <;> omega) | fail) only [WW, WH, ↓reduceIte, Nat.reduceEqDiff, Nat.reduceLT, Nat.reduceLeDiff, Nat.reduceAdd, Nat.reduceSub, Nat.reduceMul, Nat.reduceBEq, reduceCtorEq, if_false, if_true, L_law16_ReplyStreams, hy33, hs_o1, hs_o2, hs_o3, encReplyV]
      have hq := Option.some.inj h; subst hq
      refine hK _ _ _ _ _ ?_ (WxH.refl _) (kn _ hfr ((hs_o1).trans rfl) ((hs_o2).trans rfl) ((hs_o3).trans rfl))
      exact WE.cons (Wx.nn) (WE.cons (Wx.nn) (WE.cons (Wx.ptr) (WE.cons (Wx.ptr) (WE.cons (Wx.nn) (WE.cons (Wx.int) (WE.cons (Wx.bool) (WE.nil)))))))
    · refine UG_go hy33 ?_
      simp (disch := first | assumption | omega | (simp only [h_sl, h_al] <;> omega) | fail) only [WW, WH, ↓reduceIte, Nat.reduceEqDiff, Nat.reduceLT, Nat.reduceLeDiff, Nat.reduceAdd, Nat.reduceSub, Nat.reduceMul, Nat.reduceBEq, reduceCtorEq, if_false, if_true, L_law16_ReplyStreams, hy33, hs_o1, hs_o2, hs_o3, encReplyV]
      obtain ⟨r57, hy34, h⟩ := bnd' h
      refine UK_e (as' := [(.ptr q53 0)]) (h := ACalls.ofE (reply_Reader_Held_s_ok (r1 := r48) (H0 := []) hy34) (PEL.cons (.one _ _ (PE1.ptrL (by exact ((hs_o1).trans rfl)) (PE1L.cons (PE1.ptrL (by exact ((hs_o2).trans rfl)) (PE1L.cons (PE1.int) (PE1L.cons (.sl _ _ _) (PE1L.cons (PE1.int) (PE1L.cons (PE1.bool) (PE1L.nil)))))) (PE1L.cons (PE1.int) (PE1L.cons (.sl _ _ _) (PE1L.cons (PE1.int) (PE1L.cons (PE1.bool) (PE1L.nil)))))))) (PEL.nil)) (by rintro _ rfl; rfl)) (hw := WL.cons (Wx.ptr) (WL.nil)) (hh := WxH.refl _) ?_
      simp (disch := first | assumption | omega | (simp only [h_sl, h_al] <;> omega) | fail) only [WW, WH, ↓reduceIte, Nat.reduceEqDiff, Nat.reduceLT, Nat.reduceLeDiff, Nat.reduceAdd, Nat.reduceSub, Nat.reduceMul, Nat.reduceBEq, reduceCtorEq, if_false, if_true, L_law16_ReplyStreams, hs_o1, hs_o2, hs_o3, encReplyV]
      rcases ifb h with ⟨hy35, h⟩ | ⟨hy35, h⟩
      · refine UG_nf hy35 ?_
        simp (disch := first | assumption | omega | (simp only [h_sl, h_al] <;> omega) | fail) only [WW, WH, ↓reduceIte, Nat.reduceEqDiff, Nat.reduceLT, Nat.reduceLeDiff, Nat.reduceAdd, Nat.reduceSub, Nat.reduceMul, Nat.reduceBEq, reduceCtorEq, if_false, if_true, L_law16_ReplyStreams, hy35, hs_o1, hs_o2, hs_o3, encReplyV]
        have hq := Option.some.inj h; subst hq
        refine hK _ _ _ _ _ ?_ (WxH.refl _) (kn _ hfr ((hs_o1).trans rfl) ((hs_o2).trans rfl) ((hs_o3).trans rfl))
        exact WE.cons (Wx.nn) (WE.cons (Wx.nn) (WE.cons (Wx.ptr) (WE.cons (Wx.ptr) (WE.cons (Wx.nn) (WE.cons (Wx.int) (WE.cons (Wx.bool) (WE.nil)))))))
      · refine UG_go hy35 ?_
        simp (disch := first | assumption | omega | (simp only [h_sl, h_al] <;> omega) | fail) only [WW, WH, ↓reduceIte, Nat.reduceEqDiff, Nat.reduceLT, Nat.reduceLeDiff, Nat.reduceAdd, Nat.reduceSub, Nat.reduceMul, Nat.reduceBEq, reduceCtorEq, if_false, if_true, L_law16_ReplyStreams, hy35, hs_o1, hs_o2, hs_o3, encReplyV]
        obtain ⟨r58, hy36, h⟩ := bnd' h
        refine UK_e (as' := [(.ptr q53 0)]) (h := ACalls.ofE (reply_Reader_Held_s_ok (r1 := r48) (H0 := []) hy36) (PEL.cons (.one _ _ (PE1.ptrL (by exact ((hs_o1).trans rfl)) (PE1L.cons (PE1.ptrL (by exact ((hs_o2).trans rfl)) (PE1L.cons (PE1.int) (PE1L.cons (.sl _ _ _) (PE1L.cons (PE1.int) (PE1L.cons (PE1.bool) (PE1L.nil)))))) (PE1L.cons (PE1.int) (PE1L.cons (.sl _ _ _) (PE1L.cons (PE1.int) (PE1L.cons (PE1.bool) (PE1L.nil)))))))) (PEL.nil)) (by rintro _ rfl; rfl)) (hw := WL.cons (Wx.ptr) (WL.nil)) (hh := WxH.refl _) ?_
        simp (disch := first | assumption | omega | (simp only [h_sl, h_al] <;> omega) | fail) only [WW, WH, ↓reduceIte, Nat.reduceEqDiff, Nat.reduceLT, Nat.reduceLeDiff, Nat.reduceAdd, Nat.reduceSub, Nat.reduceMul, Nat.reduceBEq, reduceCtorEq, if_false, if_true, L_law16_ReplyStreams, hs_o1, hs_o2, hs_o3, encReplyV]
        have hq := Option.some.inj h; subst hq
        refine hK _ _ _ _ _ ?_ (WxH.refl _) (kn _ hfr ((hs_o1).trans rfl) ((hs_o2).trans rfl) ((hs_o3).trans rfl))
        exact WE.cons (Wx.nn) (WE.cons (Wx.nn) (WE.cons (Wx.ptr) (WE.cons (Wx.ptr) (WE.cons (Wx.nn) (WE.cons (Wx.int) (WE.cons (Wx.bool) (WE.nil)))))))
set_option maxHeartbeats 2000000 in
theorem law16_ReplyStreams_l1_ok {F : Nat} {rest33 : List UInt8} {i34 : Int} {cuts2 : List Int} {s36 : SplitterV} {s35 : ReaderV} {s37 : ReaderVx} {b1 : List UInt8} {q30 : Nat} {q32 : Nat} {q31 : Nat} {H0 H : AH} (hfr : Fr H0 H0.length [] H) (hs_o1 : H[q30]? = some [(.ptr q31 0), (.int .i64 s35.r.code), (.sl .own 1 (ml AV.str s35.r.lines)), (.int .i64 s35.n), (.bool s35.bad)]) (hs_o2 : H[q31]? = some [(.int .i64 s36.most), (.sl .own 1 (ml b8 s36.b)), (.int .i64 s36.state), (.bool s36.long)]) (hs_o3 : H[q32]? = some [(.int .i64 s37.s.most), (.sl .own 1 (ml b8 s37.s.b)), (.int .i64 s37.s.n), (.bool s37.s.cR), (.int .i64 s37.code), (.sl .own 1 (ml AV.str s37.l)), (.bool s37.bad)]) (hi0 : H0.length ≤ q30) (hi1 : H0.length ≤ q31) (hi2 : q30 ≠ q31) (hi3 : H0.length ≤ q32) (hi4 : q30 ≠ q32) (hi5 : q31 ≠ q32) {K : Exit → Env → AH → Prop} {o : (Bool) ⊕ (ReaderV × SplitterV × ReaderVx)}
    (h : iter (law16_ReplyStreams_l1 F cuts2) F (rest33, i34, s35, s36, s37) = some o)
    (kb0 : ∀ o' : ReaderV × SplitterV × ReaderVx, o = .inr o' → ∀ H' : AH, Fr H0 H0.length [] H' → H'[q30]? = some [(.ptr q31 0), (.int .i64 o'.1.r.code), (.sl .own 1 (ml AV.str o'.1.r.lines)), (.int .i64 o'.1.n), (.bool o'.1.bad)] → H'[q31]? = some [(.int .i64 o'.2.1.most), (.sl .own 1 (ml b8 o'.2.1.b)), (.int .i64 o'.2.1.state), (.bool o'.2.1.long)] → H'[q32]? = some [(.int .i64 o'.2.2.s.most), (.sl .own 1 (ml b8 o'.2.2.s.b)), (.int .i64 o'.2.2.s.n), (.bool o'.2.2.s.cR), (.int .i64 o'.2.2.code), (.sl .own 1 (ml AV.str o'.2.2.l)), (.bool o'.2.2.bad)] → K (.exit 0) [(0, (.sl .n 1 (ml b8 b1)))] H')
    (kr : ∀ o' : Bool, o = .inl o' → ∀ H' : AH, Fr H0 H0.length [] H' → K .ret [(4, (.bool o'))] H') :
    AX Tryd.prog L_law16_ReplyStreams 112 H0.length c_law16_ReplyStreams_l1 K [(0, (.sl .n 1 (ml b8 b1))), (1, (.sl .n 1 (ml (iint .i64) cuts2))), (5, (.ptr q30 0)), (6, (.ptr q32 0)), (7, (.sl .n 1 (ml b8 rest33))), (8, (.int .i64 i34))] H := by
  refine AX.iter (m := m_law16_ReplyStreams_l1b) rfl (by decide) (fun s e H1 => match s with | (rest33, i34, s35, s36, s37) => e = [(0, (.sl .n 1 (ml b8 b1))), (1, (.sl .n 1 (ml (iint .i64) cuts2))), (5, (.ptr q30 0)), (6, (.ptr q32 0)), (7, (.sl .n 1 (ml b8 rest33))), (8, (.int .i64 i34))] ∧ Fr H0 H0.length [] H1 ∧ H1[q30]? = some [(.ptr q31 0), (.int .i64 s35.r.code), (.sl .own 1 (ml AV.str s35.r.lines)), (.int .i64 s35.n), (.bool s35.bad)] ∧ H1[q31]? = some [(.int .i64 s36.most), (.sl .own 1 (ml b8 s36.b)), (.int .i64 s36.state), (.bool s36.long)] ∧ H1[q32]? = some [(.int .i64 s37.s.most), (.sl .own 1 (ml b8 s37.s.b)), (.int .i64 s37.s.n), (.bool s37.s.cR), (.int .i64 s37.code), (.sl .own 1 (ml AV.str s37.l)), (.bool s37.bad)]) h ⟨rfl, hfr, hs_o1, hs_o2, hs_o3⟩ ?_
  skip
  rintro K' ⟨rest33, i34, s35, s36, s37⟩ st e H ⟨rfl, hfr, hs_o1, hs_o2, hs_o3⟩ h hN hB hR hX
  have hle := hfr.le
  have hl_o1 := h_lt hs_o1
  have hl_o2 := h_lt hs_o2
  have hl_o3 := h_lt hs_o3
  rw [law16_ReplyStreams_l1.eq_1] at h
  simp (disch := first | assumption | omega | (simp only [h_sl, h_al] <;> omega) | fail) only [WW, WH, ↓reduceIte, Nat.reduceEqDiff, Nat.reduceLT, Nat.reduceLeDiff, Nat.reduceAdd, Nat.reduceSub, Nat.reduceMul, Nat.reduceBEq, reduceCtorEq, if_false, if_true, L_law16_ReplyStreams, m_law16_ReplyStreams_l1b, hs_o1, hs_o2, hs_o3, encReplyV]
  rcases ifb h with ⟨hy18, h⟩ | ⟨hy18, h⟩
  · refine UC_t hy18 ?_
    simp (disch := first | assumption | omega | (simp only [h_sl, h_al] <;> omega) | fail) only [WW, WH, ↓reduceIte, Nat.reduceEqDiff, Nat.reduceLT, Nat.reduceLeDiff, Nat.reduceAdd, Nat.reduceSub, Nat.reduceMul, Nat.reduceBEq, reduceCtorEq, if_false, if_true, L_law16_ReplyStreams, hs_o1, hs_o2, hs_o3, encReplyV]
    obtain ⟨nn44, hy23, h⟩ := bnd' h
    refine UX_of (AX.weak ?_ (WxH.refl _) (law16_ReplyStreams_p2x_ok  (i34 := i34) (cuts2 := cuts2) (rest33 := rest33) (b1 := b1) (s35 := s35) (s36 := s36) (s37 := s37) (nn43 := nn44) (q38 := q30) (q39 := q31) (q40 := q32) (hfr) ((hs_o1).trans rfl) ((hs_o2).trans rfl) ((hs_o3).trans rfl) (by first | assumption | omega | (simp only [h_sl, h_al] <;> omega) | fail) (by first | assumption | omega | (simp only [h_sl, h_al] <;> omega) | fail) (by first | assumption | omega | (simp only [h_sl, h_al] <;> omega) | fail) (by first | assumption | omega | (simp only [h_sl, h_al] <;> omega) | fail) (by first | assumption | omega | (simp only [h_sl, h_al] <;> omega) | fail) (by first | assumption | omega | (simp only [h_sl, h_al] <;> omega) | fail) hy23 ?_))
    · exact WE.cons (Wx.nn) (WE.cons (Wx.nn) (WE.cons (Wx.ptr) (WE.cons (Wx.ptr) (WE.cons (Wx.nn) (WE.cons (Wx.int) (WE.cons (Wx.int) (WE.cons (Wx.bool) (WE.nil))))))))
    intro H hfr hs_o1 hs_o2 hs_o3
    have hle := hfr.le
    have hl_o1 := h_lt hs_o1
    have hl_o2 := h_lt hs_o2
    have hl_o3 := h_lt hs_o3
    obtain ⟨x45, hy24, h⟩ := bnd' h
    have hy25 := sub_m (f := b8) hy24
    simp (disch := first | assumption | omega | (simp only [h_sl, h_al] <;> omega) | fail) only [WW, WH, ↓reduceIte, Nat.reduceEqDiff, Nat.reduceLT, Nat.reduceLeDiff, Nat.reduceAdd, Nat.reduceSub, Nat.reduceMul, Nat.reduceBEq, reduceCtorEq, if_false, if_true, L_law16_ReplyStreams, hy24, hs_o1, hs_o2, hs_o3, encReplyV]
    obtain ⟨⟨r46, r47, r48⟩, hy26, h⟩ := bnd' h
    dsimp only at h
    refine UK_e (as' := [(.ptr q30 0), (.sl .n 1 (ml b8 x45))]) (h := reply_Reader_Feed_ok (r2 := (ReaderV.mk s36 s35.r s35.n s35.bad)) (b4 := x45) (q1 := q30) (q3 := q31) (F := F) (by exact ((hs_o1).trans rfl)) (by exact ((hs_o2).trans rfl)) (by first | assumption | omega | (simp only [h_sl, h_al] <;> omega) | fail) hy26) (hw := WL.cons (Wx.ptr) (WL.cons (Wx.nn) (WL.nil))) (hh := WxH.refl _) ?_
    have hy27 := sub_m (f := b8) hy24
    simp (disch := first | assumption | omega | (simp only [h_sl, h_al] <;> omega) | fail) only [WW, WH, ↓reduceIte, Nat.reduceEqDiff, Nat.reduceLT, Nat.reduceLeDiff, Nat.reduceAdd, Nat.reduceSub, Nat.reduceMul, Nat.reduceBEq, reduceCtorEq, if_false, if_true, L_law16_ReplyStreams, hy24, hs_o1, hs_o2, hs_o3, encReplyV]
    obtain ⟨⟨r49, r50, r51⟩, hy28, h⟩ := bnd' h
    dsimp only at h
    refine UK_e (as' := [(.ptr q32 0), (.sl .n 1 (ml b8 x45))]) (h := ref16_Reader_Feed_ok (r2 := s37) (b3 := x45) (q1 := q32) (F := F) (by exact (((h_ne (by first | assumption | omega | (simp only [h_sl, h_al] <;> omega) | fail)).trans ((h_ne (by first | assumption | omega | (simp only [h_sl, h_al] <;> omega) | fail)).trans (hs_o3))).trans rfl)) hy28) (hw := WL.cons (Wx.ptr) (WL.cons (Wx.nn) (WL.nil))) (hh := WxH.refl _) ?_
    obtain ⟨x52, hy29, h⟩ := bnd' h
    have hy30 := sub_m (f := b8) hy29
    simp (disch := first | assumption | omega | (simp only [h_sl, h_al] <;> omega) | fail) only [WW, WH, ↓reduceIte, Nat.reduceEqDiff, Nat.reduceLT, Nat.reduceLeDiff, Nat.reduceAdd, Nat.reduceSub, Nat.reduceMul, Nat.reduceBEq, reduceCtorEq, if_false, if_true, L_law16_ReplyStreams, hy29, hs_o1, hs_o2, hs_o3, encReplyV]
    obtain ⟨t60, hy37, h⟩ := bnd' h
    refine UX_of (AX.weak ?_ (WxH.refl _) (law16_ReplyStreams_p3_ok (F := F) (r46 := r46) (r49 := r49) (r47 := r47) (r50 := r50) (r48 := r48) (b1 := b1) (cuts2 := cuts2) (x52 := x52) (i34 := i34) (r51 := r51) (t59 := t60) (q53 := q30) (q54 := q31) (q55 := q32) ((Fr.set (s := q32) (Fr.set (s := q31) (Fr.set (s := q30) hfr (.inr (by first | assumption | omega | (simp only [h_sl, h_al] <;> omega) | fail))) (.inr (by first | assumption | omega | (simp only [h_sl, h_al] <;> omega) | fail))) (.inr (by first | assumption | omega | (simp only [h_sl, h_al] <;> omega) | fail)))) (((h_ne (by first | assumption | omega | (simp only [h_sl, h_al] <;> omega) | fail)).trans ((h_ne (by first | assumption | omega | (simp only [h_sl, h_al] <;> omega) | fail)).trans (h_eq (by first | assumption | omega | (simp only [h_sl, h_al] <;> omega) | fail)))).trans rfl) (((h_ne (by first | assumption | omega | (simp only [h_sl, h_al] <;> omega) | fail)).trans (h_eq (by first | assumption | omega | (simp only [h_sl, h_al] <;> omega) | fail))).trans rfl) ((h_eq (by first | assumption | omega | (simp only [h_sl, h_al] <;> omega) | fail)).trans rfl) (by first | assumption | omega | (simp only [h_sl, h_al] <;> omega) | fail) (by first | assumption | omega | (simp only [h_sl, h_al] <;> omega) | fail) (by first | assumption | omega | (simp only [h_sl, h_al] <;> omega) | fail) (by first | assumption | omega | (simp only [h_sl, h_al] <;> omega) | fail) (by first | assumption | omega | (simp only [h_sl, h_al] <;> omega) | fail) (by first | assumption | omega | (simp only [h_sl, h_al] <;> omega) | fail) hy37 ?_))
    · exact WE.cons (Wx.nn) (WE.cons (Wx.nn) (WE.cons (Wx.ptr) (WE.cons (Wx.ptr) (WE.cons (Wx.nn) (WE.cons (Wx.int) (WE.cons (Wx.nn) (WE.cons (Wx.int) (WE.cons (Wx.nn) (WE.cons (Wx.int) (WE.nil))))))))))
    intro H hfr hs_o1 hs_o2 hs_o3
    have hle := hfr.le
    have hl_o1 := h_lt hs_o1
    have hl_o2 := h_lt hs_o2
    have hl_o3 := h_lt hs_o3
    simp (disch := first | assumption | omega | (simp only [h_sl, h_al] <;> omega) | fail) only [WW, WH, ↓reduceIte, Nat.reduceEqDiff, Nat.reduceLT, Nat.reduceLeDiff, Nat.reduceAdd, Nat.reduceSub, Nat.reduceMul, Nat.reduceBEq, reduceCtorEq, if_false, if_true, L_law16_ReplyStreams, hs_o1, hs_o2, hs_o3, encReplyV]
    rcases ifb h with ⟨hy38, h⟩ | ⟨hy38, h⟩
    · refine UC_t hy38 ?_
      simp (disch := first | assumption | omega | (simp only [h_sl, h_al] <;> omega) | fail) only [WW, WH, ↓reduceIte, Nat.reduceEqDiff, Nat.reduceLT, Nat.reduceLeDiff, Nat.reduceAdd, Nat.reduceSub, Nat.reduceMul, Nat.reduceBEq, reduceCtorEq, if_false, if_true, L_law16_ReplyStreams, hs_o1, hs_o2, hs_o3, encReplyV]
      have hq := Option.some.inj h; subst hq
      refine hX _ _ _ _ _ (by simp) ?_ (WxH.refl _) (kr _ (hR _ rfl) _ hfr)
      exact WE.cons (Wx.bool) (WE.nil)
    · refine UC_f hy38 ?_
      simp (disch := first | assumption | omega | (simp only [h_sl, h_al] <;> omega) | fail) only [WW, WH, ↓reduceIte, Nat.reduceEqDiff, Nat.reduceLT, Nat.reduceLeDiff, Nat.reduceAdd, Nat.reduceSub, Nat.reduceMul, Nat.reduceBEq, reduceCtorEq, if_false, if_true, L_law16_ReplyStreams, hs_o1, hs_o2, hs_o3, encReplyV]
      have hq := Option.some.inj h; subst hq
      refine hN _ rfl _ _ _ _ ?_ (WxH.refl _) ⟨rfl, hfr, ((hs_o1).trans rfl), ((hs_o2).trans rfl), ((hs_o3).trans rfl)⟩
      exact WE.cons (Wx.nn) (WE.cons (Wx.nn) (WE.cons (Wx.ptr) (WE.cons (Wx.ptr) (WE.cons (Wx.nn) (WE.cons (Wx.int) (WE.nil))))))
  · refine UC_f hy18 ?_
    simp (disch := first | assumption | omega | (simp only [h_sl, h_al] <;> omega) | fail) only [WW, WH, ↓reduceIte, Nat.reduceEqDiff, Nat.reduceLT, Nat.reduceLeDiff, Nat.reduceAdd, Nat.reduceSub, Nat.reduceMul, Nat.reduceBEq, reduceCtorEq, if_false, if_true, L_law16_ReplyStreams, hs_o1, hs_o2, hs_o3, encReplyV]
    have hq := Option.some.inj h; subst hq
    refine hX _ _ _ _ _ (by simp) ?_ (WxH.refl _) (kb0 _ (hB _ rfl) _ hfr ((hs_o1).trans rfl) ((hs_o2).trans rfl) ((hs_o3).trans rfl))
    exact WE.cons (Wx.nn) (WE.nil)
set_option maxHeartbeats 2000000 in
theorem law16_ReplyStreams_p4_ok {F : Nat} {r68 : ReplyV} {r70 : ReplyV} {r69 : Int} {r71 : Int} {H0 H : AH} (hfr : Fr H0 H0.length [] H) {K : Exit → Env → AH → Prop} {t74 : Bool}
    (h : law16_ReplyStreams_p4 F r68 r70 r69 r71 = some t74)
    (kn : ∀ H' : AH, Fr H0 H0.length [] H' → K .normal [(4, (.bool t74))] H') :
    AX Tryd.prog L_law16_ReplyStreams 112 H0.length c_law16_ReplyStreams_p4 K [(14, (.ep (.agg [(.int .i64 r68.code), (.sl .n 1 (ml AV.str r68.lines))]) 0)), (15, (.int .i64 r69)), (16, (.ep (.agg [(.int .i64 r70.code), (.sl .n 1 (ml AV.str r70.lines))]) 0)), (17, (.int .i64 r71))] H := by
  refine AX.go (m := m_law16_ReplyStreams_p4) rfl (by decide) fun K' hK => ?_
  have hle := hfr.le
  rw [law16_ReplyStreams_p4.eq_1] at h
  simp (disch := first | assumption | omega | (simp only [h_sl, h_al] <;> omega) | fail) only [WW, WH, ↓reduceIte, Nat.reduceEqDiff, Nat.reduceLT, Nat.reduceLeDiff, Nat.reduceAdd, Nat.reduceSub, Nat.reduceMul, Nat.reduceBEq, reduceCtorEq, if_false, if_true, L_law16_ReplyStreams, m_law16_ReplyStreams_p4, c_law16_ReplyStreams_p4, encReplyV]
  obtain ⟨r72, hy42, h⟩ := bnd' h
  refine UK_e (as' := [(.agg [(.int .i64 r68.code), (.sl .n 1 (ml AV.str r68.lines))])]) (h := law16_Of_ok (r1 := r68)  hy42) (hw := WL.cons (Wx.agg (W1L.same (W1L.same (W1L.nil)))) (WL.nil)) (hh := WxH.refl _) ?_
  simp (disch := first | assumption | omega | (simp only [h_sl, h_al] <;> omega) | fail) only [WW, WH, ↓reduceIte, Nat.reduceEqDiff, Nat.reduceLT, Nat.reduceLeDiff, Nat.reduceAdd, Nat.reduceSub, Nat.reduceMul, Nat.reduceBEq, reduceCtorEq, if_false, if_true, L_law16_ReplyStreams, encReplyV]
  obtain ⟨r73, hy43, h⟩ := bnd' h
  refine UK_e (as' := [(.agg [(.int .i64 r72.code), (.sl .n 1 (ml AV.str r72.lines))]), (.agg [(.int .i64 r70.code), (.sl .n 1 (ml AV.str r70.lines))])]) (h := ref16_Same_ok (a1 := r72) (b2 := r70) (F := F)  hy43) (hw := WL.cons (Wx.agg (W1L.same (W1L.same (W1L.nil)))) (WL.cons (Wx.agg (W1L.same (W1L.same (W1L.nil)))) (WL.nil))) (hh := WxH.refl _) ?_
  simp (disch := first | assumption | omega | (simp only [h_sl, h_al] <;> omega) | fail) only [WW, WH, ↓reduceIte, Nat.reduceEqDiff, Nat.reduceLT, Nat.reduceLeDiff, Nat.reduceAdd, Nat.reduceSub, Nat.reduceMul, Nat.reduceBEq, reduceCtorEq, if_false, if_true, L_law16_ReplyStreams, encReplyV]
  rcases ifb h with ⟨hy44, h⟩ | ⟨hy44, h⟩
  · refine UG_go hy44 ?_
    simp (disch := first | assumption | omega | (simp only [h_sl, h_al] <;> omega) | fail) only [WW, WH, ↓reduceIte, Nat.reduceEqDiff, Nat.reduceLT, Nat.reduceLeDiff, Nat.reduceAdd, Nat.reduceSub, Nat.reduceMul, Nat.reduceBEq, reduceCtorEq, if_false, if_true, L_law16_ReplyStreams, hy44, encReplyV]
    have hq := Option.some.inj h; subst hq
    refine hK _ _ _ _ _ ?_ (WxH.refl _) (kn _ hfr)
    exact WE.cons (Wx.bool) (WE.nil)
  · refine UG_nt hy44 ?_
    simp (disch := first | assumption | omega | (simp only [h_sl, h_al] <;> omega) | fail) only [WW, WH, ↓reduceIte, Nat.reduceEqDiff, Nat.reduceLT, Nat.reduceLeDiff, Nat.reduceAdd, Nat.reduceSub, Nat.reduceMul, Nat.reduceBEq, reduceCtorEq, if_false, if_true, L_law16_ReplyStreams, hy44, encReplyV]
    have hq := Option.some.inj h; subst hq
    refine hK _ _ _ _ _ ?_ (WxH.refl _) (kn _ hfr)
    exact WE.cons (Wx.bool) (WE.nil)
set_option maxHeartbeats 2000000 in
theorem law16_ReplyStreams_ok {F : Nat} {b1 : List UInt8} {cuts2 : List Int}  {H0 : AH}  {rz0 : Bool} (h : law16_ReplyStreams F b1 cuts2 = some rz0) :
    ACalls Tryd.prog 4 [(.sl .n 1 (ml b8 b1)), (.sl .n 1 (ml (iint .i64) cuts2))] H0 fun v H' => v = (.bool rz0) ∧ H' = H0 := by
  refine ACalls.goX k_law16_ReplyStreams (m := m_law16_ReplyStreams) rfl L_law16_ReplyStreams (by decide) (by simp) fun hcl K0 hK0 => ?_
  refine AX.of_U (m := m_law16_ReplyStreams) rfl (by decide) ?_
  have hfr := Fr.refl H0 []
  have hle := hfr.le
  rw [law16_ReplyStreams.eq_1] at h
  obtain ⟨H, hHH⟩ : ∃ H, H = H0 := ⟨_, rfl⟩
  have hfr : Fr H0 H0.length [] H := hHH ▸ hfr
  have hle := hfr.le
  suffices hU : U Tryd.prog L_law16_ReplyStreams 112 H0.length [.code m_law16_ReplyStreams] K0 .normal (argE 0 [(.sl .n 1 (ml b8 b1)), (.sl .n 1 (ml (iint .i64) cuts2))]) H by rwa [hHH] at hU
  simp (disch := first | assumption | omega | (simp only [h_sl, h_al] <;> omega) | fail) only [WW, WH, ↓reduceIte, Nat.reduceEqDiff, Nat.reduceLT, Nat.reduceLeDiff, Nat.reduceAdd, Nat.reduceSub, Nat.reduceMul, Nat.reduceBEq, reduceCtorEq, if_false, if_true, L_law16_ReplyStreams, m_law16_ReplyStreams, encReplyV]
  obtain ⟨r3, hy1, h⟩ := bnd' h
  refine UK_e (as' := []) (h := law16_known_ok  (F := F)  hy1) (hw := WL.nil) (hh := WxH.refl _) ?_
  simp (disch := first | assumption | omega | (simp only [h_sl, h_al] <;> omega) | fail) only [WW, WH, ↓reduceIte, Nat.reduceEqDiff, Nat.reduceLT, Nat.reduceLeDiff, Nat.reduceAdd, Nat.reduceSub, Nat.reduceMul, Nat.reduceBEq, reduceCtorEq, if_false, if_true, L_law16_ReplyStreams, encReplyV]
  rcases ifb h with ⟨hy2, h⟩ | ⟨hy2, h⟩
  · refine UC_t hy2 ?_
    simp (disch := first | assumption | omega | (simp only [h_sl, h_al] <;> omega) | fail) only [WW, WH, ↓reduceIte, Nat.reduceEqDiff, Nat.reduceLT, Nat.reduceLeDiff, Nat.reduceAdd, Nat.reduceSub, Nat.reduceMul, Nat.reduceBEq, reduceCtorEq, if_false, if_true, L_law16_ReplyStreams, encReplyV]
    have hq := Option.some.inj h; subst hq
    refine hK0 _ _ _ (.inr rfl) ?_
    exact fn_end0 (by exact hfr) hcl (resv_tmp (a := (.bool false)) rfl rfl resv_nil) (by simp [fin, AV.df, AV.sh, AV.sh1, b_df, b_sh, b_sh1, b_Cl]) (Wx.bool) (r' := (.bool false)) ⟨rfl, rfl⟩
  · refine UC_f hy2 ?_
    simp (disch := first | assumption | omega | (simp only [h_sl, h_al] <;> omega) | fail) only [WW, WH, ↓reduceIte, Nat.reduceEqDiff, Nat.reduceLT, Nat.reduceLeDiff, Nat.reduceAdd, Nat.reduceSub, Nat.reduceMul, Nat.reduceBEq, reduceCtorEq, if_false, if_true, L_law16_ReplyStreams, encReplyV]
    refine UX_of (AX.weak ?_ (WxH.refl _) (law16_ReplyStreams_p1_ok (b1 := b1) (cuts2 := cuts2) (hfr) ?_))
    · exact WE.cons (Wx.nn) (WE.cons (Wx.nn) (WE.nil))
    intro H hfr 
    have hle := hfr.le
    simp (disch := first | assumption | omega | (simp only [h_sl, h_al] <;> omega) | fail) only [WW, WH, ↓reduceIte, Nat.reduceEqDiff, Nat.reduceLT, Nat.reduceLeDiff, Nat.reduceAdd, Nat.reduceSub, Nat.reduceMul, Nat.reduceBEq, reduceCtorEq, if_false, if_true, L_law16_ReplyStreams, encReplyV]
    rcases ifb h with ⟨hy4, h⟩ | ⟨hy4, h⟩
    · refine UC_t hy4 ?_
      simp (disch := first | assumption | omega | (simp only [h_sl, h_al] <;> omega) | fail) only [WW, WH, ↓reduceIte, Nat.reduceEqDiff, Nat.reduceLT, Nat.reduceLeDiff, Nat.reduceAdd, Nat.reduceSub, Nat.reduceMul, Nat.reduceBEq, reduceCtorEq, if_false, if_true, L_law16_ReplyStreams, encReplyV]
      have hq := Option.some.inj h; subst hq
      refine hK0 _ _ _ (.inr rfl) ?_
      exact fn_end0 (by exact hfr) hcl (resv_tmp (a := (.bool true)) rfl rfl resv_nil) (by simp [fin, AV.df, AV.sh, AV.sh1, b_df, b_sh, b_sh1, b_Cl]) (Wx.bool) (r' := (.bool true)) ⟨rfl, rfl⟩
    · refine UC_f hy4 ?_
      simp (disch := first | assumption | omega | (simp only [h_sl, h_al] <;> omega) | fail) only [WW, WH, ↓reduceIte, Nat.reduceEqDiff, Nat.reduceLT, Nat.reduceLeDiff, Nat.reduceAdd, Nat.reduceSub, Nat.reduceMul, Nat.reduceBEq, reduceCtorEq, if_false, if_true, L_law16_ReplyStreams, encReplyV]
      obtain ⟨r4, hy5, h⟩ := bnd' h
      rcases r4 with _ | t5
      · try dsimp only at h
        refine UK_x (as' := []) (h := reply_New_ok   hy5) (hw := WL.nil) (hh := WxH.refl _) ?_
        rintro _ H ⟨rfl, hfrn⟩
        have hfr := Fr.trans hfr hfrn (by simp)
        have hle := hfr.le
        simp (disch := first | assumption | omega | (simp only [h_sl, h_al] <;> omega) | fail) only [WW, WH, ↓reduceIte, Nat.reduceEqDiff, Nat.reduceLT, Nat.reduceLeDiff, Nat.reduceAdd, Nat.reduceSub, Nat.reduceMul, Nat.reduceBEq, reduceCtorEq, if_false, if_true, L_law16_ReplyStreams, encReplyV]
        obtain ⟨r6, hy6, h⟩ := bnd' h
        rcases r6 with _ | t7
        · try dsimp only at h
          refine UK_x (as' := []) (h := ref16_New_ok   hy6) (hw := WL.nil) (hh := WxH.refl _) ?_
          rintro _ H ⟨rfl, hfrn⟩
          have hfr := Fr.trans hfr hfrn (by simp)
          have hle := hfr.le
          simp (disch := first | assumption | omega | (simp only [h_sl, h_al] <;> omega) | fail) only [WW, WH, ↓reduceIte, Nat.reduceEqDiff, Nat.reduceLT, Nat.reduceLeDiff, Nat.reduceAdd, Nat.reduceSub, Nat.reduceMul, Nat.reduceBEq, reduceCtorEq, if_false, if_true, L_law16_ReplyStreams, encReplyV]
          have hq := Option.some.inj h; subst hq
          refine hK0 _ _ _ (.inr rfl) ?_
          exact fn_end0 (by exact hfr) hcl (resv_tmp (a := (.bool false)) rfl rfl resv_nil) (by simp [fin, AV.df, AV.sh, AV.sh1, b_df, b_sh, b_sh1, b_Cl]) (Wx.bool) (r' := (.bool false)) ⟨rfl, rfl⟩
        · try dsimp only at h
          refine UK_x (as' := []) (h := ref16_New_ok   hy6) (hw := WL.nil) (hh := WxH.refl _) ?_
          rintro _ H ⟨q8, rfl, hgn0, hfrn, hs_o1⟩
          try simp only [h_sl, h_al] at hgn0
          have hfr := Fr.trans hfr hfrn (by simp)
          have hle := hfr.le
          have hl_o1 := h_lt hs_o1
          simp (disch := first | assumption | omega | (simp only [h_sl, h_al] <;> omega) | fail) only [WW, WH, ↓reduceIte, Nat.reduceEqDiff, Nat.reduceLT, Nat.reduceLeDiff, Nat.reduceAdd, Nat.reduceSub, Nat.reduceMul, Nat.reduceBEq, reduceCtorEq, if_false, if_true, L_law16_ReplyStreams, hs_o1, encReplyV]
          have hq := Option.some.inj h; subst hq
          refine hK0 _ _ _ (.inr rfl) ?_
          exact fn_end0 (by exact hfr) hcl (resv_tmp (a := (.bool false)) rfl rfl resv_nil) (by simp [fin, AV.df, AV.sh, AV.sh1, b_df, b_sh, b_sh1, b_Cl]) (Wx.bool) (r' := (.bool false)) ⟨rfl, rfl⟩
      · try dsimp only at h
        refine UK_x (as' := []) (h := reply_New_ok   hy5) (hw := WL.nil) (hh := WxH.refl _) ?_
        rintro _ H ⟨q9, q10, rfl, hgn0, hgn1, hnn1_0, hfrn, hs_o1, hs_o2⟩
        try simp only [h_sl, h_al] at hgn0 hgn1
        have hfr := Fr.trans hfr hfrn (by simp)
        have hle := hfr.le
        have hl_o1 := h_lt hs_o1
        have hl_o2 := h_lt hs_o2
        simp (disch := first | assumption | omega | (simp only [h_sl, h_al] <;> omega) | fail) only [WW, WH, ↓reduceIte, Nat.reduceEqDiff, Nat.reduceLT, Nat.reduceLeDiff, Nat.reduceAdd, Nat.reduceSub, Nat.reduceMul, Nat.reduceBEq, reduceCtorEq, if_false, if_true, L_law16_ReplyStreams, hs_o1, hs_o2, encReplyV]
        obtain ⟨r11, hy7, h⟩ := bnd' h
        rcases r11 with _ | t12
        · try dsimp only at h
          cases h
        · try dsimp only at h
          refine UK_x (as' := []) (h := ref16_New_ok   hy7) (hw := WL.nil) (hh := WxH.refl _) ?_
          rintro _ H ⟨q29, rfl, hgn0, hfrn, hs_o3⟩
          try simp only [h_sl, h_al] at hgn0
          have hs_o1 : H[q9]? = some [(.ptr q10 0), (.int .i64 t5.r.code), (.sl .own 1 (ml AV.str t5.r.lines)), (.int .i64 t5.n), (.bool t5.bad)] := (hfrn.eq _ (h_lt (by exact ((hs_o1).trans rfl))) (by simp <;> (first | assumption | omega | (simp only [h_sl, h_al] <;> omega) | fail))).trans (by exact ((hs_o1).trans rfl))
          have hs_o2 : H[q10]? = some [(.int .i64 t5.splitter.most), (.sl .own 1 (ml b8 t5.splitter.b)), (.int .i64 t5.splitter.state), (.bool t5.splitter.long)] := (hfrn.eq _ (h_lt (by exact ((hs_o2).trans rfl))) (by simp <;> (first | assumption | omega | (simp only [h_sl, h_al] <;> omega) | fail))).trans (by exact ((hs_o2).trans rfl))
          have hfr := Fr.trans hfr hfrn (by simp)
          have hle := hfr.le
          have hl_o1 := h_lt hs_o1
          have hl_o2 := h_lt hs_o2
          have hl_o3 := h_lt hs_o3
          simp (disch := first | assumption | omega | (simp only [h_sl, h_al] <;> omega) | fail) only [WW, WH, ↓reduceIte, Nat.reduceEqDiff, Nat.reduceLT, Nat.reduceLeDiff, Nat.reduceAdd, Nat.reduceSub, Nat.reduceMul, Nat.reduceBEq, reduceCtorEq, if_false, if_true, L_law16_ReplyStreams, hs_o1, hs_o2, hs_o3, encReplyV]
          obtain ⟨o77, hy39, h⟩ := bnd' h
          refine UX_of (AX.weak ?_ (WxH.refl _) (law16_ReplyStreams_l1_ok  (cuts2 := cuts2) (b1 := b1) (rest33 := b1) (i34 := 0) (s35 := t5) (s36 := t5.splitter) (s37 := t12) (q30 := q9) (q31 := q10) (q32 := q29) (hfr) ((hs_o1).trans rfl) ((hs_o2).trans rfl) ((hs_o3).trans rfl) (by first | assumption | omega | (simp only [h_sl, h_al] <;> omega) | fail) (by first | assumption | omega | (simp only [h_sl, h_al] <;> omega) | fail) (by first | assumption | omega | (simp only [h_sl, h_al] <;> omega) | fail) (by first | assumption | omega | (simp only [h_sl, h_al] <;> omega) | fail) (by first | assumption | omega | (simp only [h_sl, h_al] <;> omega) | fail) (by first | assumption | omega | (simp only [h_sl, h_al] <;> omega) | fail) (o := o77) hy39 ?_ ?_))
          · exact WE.cons (Wx.nn) (WE.cons (Wx.nn) (WE.cons (Wx.ptr) (WE.cons (Wx.ptr) (WE.cons (Wx.nn) (WE.cons (Wx.int) (WE.nil))))))
          · rintro ⟨s65, s66, s67⟩ rfl H hfr hs_o1 hs_o2 hs_o3
            try dsimp only at h hs_o1 hs_o2 hs_o3
            have hle := hfr.le
            have hl_o1 := h_lt hs_o1
            have hl_o2 := h_lt hs_o2
            have hl_o3 := h_lt hs_o3
            simp (disch := first | assumption | omega | (simp only [h_sl, h_al] <;> omega) | fail) only [WW, WH, ↓reduceIte, Nat.reduceEqDiff, Nat.reduceLT, Nat.reduceLeDiff, Nat.reduceAdd, Nat.reduceSub, Nat.reduceMul, Nat.reduceBEq, reduceCtorEq, if_false, if_true, L_law16_ReplyStreams, hs_o1, hs_o2, hs_o3, encReplyV]
            obtain ⟨⟨r68, r69⟩, hy40, h⟩ := bnd' h
            dsimp only at h
            refine UK_e (as' := [(.sl .n 1 (ml b8 b1))]) (h := reply_Parse_ok (b1 := b1) (F := F)  hy40) (hw := WL.cons (Wx.nn) (WL.nil)) (hh := WxH.refl _) ?_
            simp (disch := first | assumption | omega | (simp only [h_sl, h_al] <;> omega) | fail) only [WW, WH, ↓reduceIte, Nat.reduceEqDiff, Nat.reduceLT, Nat.reduceLeDiff, Nat.reduceAdd, Nat.reduceSub, Nat.reduceMul, Nat.reduceBEq, reduceCtorEq, if_false, if_true, L_law16_ReplyStreams, hs_o1, hs_o2, hs_o3, encReplyV]
            obtain ⟨⟨r70, r71⟩, hy41, h⟩ := bnd' h
            dsimp only at h
            refine UK_e (as' := [(.sl .n 1 (ml b8 b1))]) (h := ref16_Parse_ok (b1 := b1) (F := F)  hy41) (hw := WL.cons (Wx.nn) (WL.nil)) (hh := WxH.refl _) ?_
            simp (disch := first | assumption | omega | (simp only [h_sl, h_al] <;> omega) | fail) only [WW, WH, ↓reduceIte, Nat.reduceEqDiff, Nat.reduceLT, Nat.reduceLeDiff, Nat.reduceAdd, Nat.reduceSub, Nat.reduceMul, Nat.reduceBEq, reduceCtorEq, if_false, if_true, L_law16_ReplyStreams, hs_o1, hs_o2, hs_o3, encReplyV]
            refine UX_of ?_
            apply AX.freeze (s := H.length) (cs := [(.int .i64 r68.code), (.sl .n 1 (ml AV.str r68.lines))]) (by exact (((h_ne (by first | assumption | omega | (simp only [h_sl, h_al] <;> omega) | fail)).trans ((h_app (by first | assumption | omega | (simp only [h_sl, h_al] <;> omega) | fail)).trans (h_eq (by first | assumption | omega | (simp only [h_sl, h_al] <;> omega) | fail)))).trans rfl)) (W1L.same (W1L.same (W1L.nil))) (by simp) rfl
            · repeat (first | exact FZ.nil | apply FZ.ep | apply FZ.same)
            apply AX.freeze (s := (H.length + 1)) (cs := [(.int .i64 r70.code), (.sl .n 1 (ml AV.str r70.lines))]) (by exact (((h_ne (by first | assumption | omega | (simp only [h_sl, h_al] <;> omega) | fail)).trans (h_eq (by first | assumption | omega | (simp only [h_sl, h_al] <;> omega) | fail))).trans rfl)) (W1L.same (W1L.same (W1L.nil))) (by simp) rfl
            · repeat (first | exact FZ.nil | apply FZ.ep | apply FZ.same)
            obtain ⟨t75, hy45, h⟩ := bnd' h
            refine UX_of (AX.weak ?_ (WxH.refl _) (law16_ReplyStreams_p4_ok (F := F) (r68 := r68) (r70 := r70) (r69 := r69) (r71 := r71) (t74 := t75)  ((Fr.set (s := (H.length + 1)) (Fr.set (s := H.length) (Fr.set (s := (H.length + 1)) (Fr.app (Fr.set (s := H.length) (Fr.app hfr) (.inr (by first | assumption | omega | (simp only [h_sl, h_al] <;> omega) | fail)))) (.inr (by first | assumption | omega | (simp only [h_sl, h_al] <;> omega) | fail))) (.inr (by first | assumption | omega | (simp only [h_sl, h_al] <;> omega) | fail))) (.inr (by first | assumption | omega | (simp only [h_sl, h_al] <;> omega) | fail)))) hy45 ?_))
            · exact WE.cons (Wx.ep) (WE.cons (Wx.int) (WE.cons (Wx.ep) (WE.cons (Wx.int) (WE.nil))))
            intro H hfr
            have hle := hfr.le
            simp (disch := first | assumption | omega | (simp only [h_sl, h_al] <;> omega) | fail) only [WW, WH, ↓reduceIte, Nat.reduceEqDiff, Nat.reduceLT, Nat.reduceLeDiff, Nat.reduceAdd, Nat.reduceSub, Nat.reduceMul, Nat.reduceBEq, reduceCtorEq, if_false, if_true, L_law16_ReplyStreams, encReplyV]
            have hq := Option.some.inj h; subst hq
            refine hK0 _ _ _ (.inr rfl) ?_
            exact fn_end0 (by exact hfr) hcl (resv_tmp (a := (.bool t75)) rfl rfl resv_nil) (by simp [fin, AV.df, AV.sh, AV.sh1, b_df, b_sh, b_sh1, b_Cl]) (Wx.bool) (r' := (.bool t75)) ⟨rfl, rfl⟩
          · rintro r76 rfl H hfr
            try dsimp only at h 
            have hle := hfr.le
            simp (disch := first | assumption | omega | (simp only [h_sl, h_al] <;> omega) | fail) only [WW, WH, ↓reduceIte, Nat.reduceEqDiff, Nat.reduceLT, Nat.reduceLeDiff, Nat.reduceAdd, Nat.reduceSub, Nat.reduceMul, Nat.reduceBEq, reduceCtorEq, if_false, if_true, L_law16_ReplyStreams, encReplyV]
            have hq := Option.some.inj h; subst hq
            refine hK0 _ _ _ (.inr rfl) ?_
            exact fn_end0 (by exact hfr) hcl (resv_tmp (a := (.bool r76)) rfl rfl resv_nil) (by simp [fin, AV.df, AV.sh, AV.sh1, b_df, b_sh, b_sh1, b_Cl]) (Wx.bool) (r' := (.bool r76)) ⟨rfl, rfl⟩

end Go.Proofs.ReplyS
