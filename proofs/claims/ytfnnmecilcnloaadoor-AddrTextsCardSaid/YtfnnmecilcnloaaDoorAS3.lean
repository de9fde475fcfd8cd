import Derived.Test.YtfnnmecilcnloaaDoorAS2
set_option linter.unusedSimpArgs false
set_option linter.unusedVariables false
set_option linter.unusedSectionVars false
set_option linter.defProp false
set_option maxRecDepth 100000
namespace Go.Proofs.AddrS
open Go Go.Am Go.Proofs
open Nat renaming reduceEqDiff → nA, reduceLT → nB, reduceLeDiff → nC, reduceAdd → nD, reduceSub → nE, reduceMul → nF, reduceBEq → nG
set_option maxHeartbeats 2000000

/-! ### mailbag/mailbagref14.Domain -/
def c_ref14_Domain_p1 : ACode := (.rg [⟨(some 7), (.mv (.t 0)), none⟩, ⟨(some 8), (.bin .eql (.t 7) (.c (.str []))), none⟩, ⟨(some 9), (.mv (.t 8)), none⟩, ⟨(some 10), (.mv (.t 0)), (some (9, false))⟩, ⟨(some 11), (.lens (.t 10)), (some (9, false))⟩, ⟨(some 12), (.bin .gtr (.t 11) (.c (.int .i64 255))), (some (9, false))⟩, ⟨(some 13), (.pick (.t 9) (.c (.bool true)) (.t 12)), none⟩])
abbrev m_ref14_Domain_p1 := c_ref14_Domain_p1
def c_ref14_Domain_p2 : ACode := (.rg [⟨(some 18), (.mv (.t 0)), none⟩, ⟨(some 19), (.mv (.t 0)), none⟩, ⟨(some 20), (.lens (.t 19)), none⟩, ⟨(some 21), (.bin .sub (.t 20) (.c (.int .i64 1))), none⟩, ⟨(some 22), (.ixs (.t 18) (.t 21)), none⟩, ⟨(some 23), (.bin .neq (.t 22) (.c (b8 93))), none⟩, ⟨(some 24), (.mv (.t 23)), none⟩, ⟨(some 25), (.mv (.t 0)), (some (24, false))⟩, ⟨(some 26), (.lens (.t 25)), (some (24, false))⟩, ⟨(some 27), (.bin .lss (.t 26) (.c (.int .i64 2))), (some (24, false))⟩, ⟨(some 28), (.pick (.t 24) (.c (.bool true)) (.t 27)), none⟩])
abbrev m_ref14_Domain_p2 := c_ref14_Domain_p2
def c_ref14_Domain_p3 : ACode := (.cond (.t 17) (.seq (.seq c_ref14_Domain_p2 (.cond (.t 28) (.seq (.rg [⟨(some 2), (.asg (.c (.bool false))), none⟩]) .ret) .skip)) (.rg [⟨(some 29), (.mv (.t 0)), none⟩, ⟨(some 30), (.mv (.t 0)), none⟩, ⟨(some 31), (.lens (.t 30)), none⟩, ⟨(some 32), (.bin .sub (.t 31) (.c (.int .i64 1))), none⟩, ⟨(some 33), (.sls (.t 29) (some (.c (.int .i64 1))) (some (.t 32))), none⟩, ⟨(some 0), (.asg (.t 33)), none⟩])) .skip)
def m_ref14_Domain_p3 : ACode := (.cond (.t 17) (.seq (.seq (.sem c_ref14_Domain_p2) (.cond (.t 28) (.seq (.rg [⟨(some 2), (.asg (.c (.bool false))), none⟩]) .ret) .skip)) (.rg [⟨(some 29), (.mv (.t 0)), none⟩, ⟨(some 30), (.mv (.t 0)), none⟩, ⟨(some 31), (.lens (.t 30)), none⟩, ⟨(some 32), (.bin .sub (.t 31) (.c (.int .i64 1))), none⟩, ⟨(some 33), (.sls (.t 29) (some (.c (.int .i64 1))) (some (.t 32))), none⟩, ⟨(some 0), (.asg (.t 33)), none⟩])) .skip)
def c_ref14_Domain_p4 : ACode := (.rg [⟨(some 40), (.mv (.t 6)), none⟩, ⟨(some 41), (.mv (.t 0)), none⟩, ⟨(some 42), (.lens (.t 41)), none⟩, ⟨(some 43), (.bin .lss (.t 40) (.t 42)), none⟩, ⟨(some 44), (.mv (.t 43)), none⟩, ⟨(some 45), (.mv (.t 0)), (some (44, true))⟩, ⟨(some 46), (.mv (.t 6)), (some (44, true))⟩, ⟨(some 47), (.ixs (.t 45) (.t 46)), (some (44, true))⟩, ⟨(some 48), (.bin .neq (.t 47) (.c (b8 46))), (some (44, true))⟩, ⟨(some 49), (.pick (.t 44) (.t 48) (.c (.bool false))), none⟩])
abbrev m_ref14_Domain_p4 := c_ref14_Domain_p4
def c_ref14_Domain_p5 : ACode := (.rg [⟨(some 50), (.mv (.t 3)), none⟩, ⟨(some 51), (.mv (.t 50)), none⟩, ⟨(some 52), (.mv (.t 0)), (some (51, true))⟩, ⟨(some 53), (.mv (.t 4)), (some (51, true))⟩, ⟨(some 54), (.mv (.t 6)), (some (51, true))⟩, ⟨(some 55), (.sls (.t 52) (some (.t 53)) (some (.t 54))), (some (51, true))⟩, ⟨(some 56), (.call (.c (.fn 80 [])) [(.t 55)]), (some (51, true))⟩, ⟨(some 57), (.un .not (.t 56)), (some (51, true))⟩, ⟨(some 58), (.pick (.t 51) (.t 57) (.c (.bool false))), none⟩, ⟨(some 59), (.mv (.t 58)), none⟩, ⟨(some 60), (.mv (.t 3)), (some (59, false))⟩, ⟨(some 61), (.un .not (.t 60)), (some (59, false))⟩, ⟨(some 62), (.mv (.t 61)), (some (59, false))⟩, ⟨(some 63), (.mv (.t 0)), (some (62, true))⟩, ⟨(some 64), (.mv (.t 4)), (some (62, true))⟩, ⟨(some 65), (.mv (.t 6)), (some (62, true))⟩, ⟨(some 66), (.sls (.t 63) (some (.t 64)) (some (.t 65))), (some (62, true))⟩, ⟨(some 67), (.call (.c (.fn 81 [])) [(.t 66)]), (some (62, true))⟩, ⟨(some 68), (.un .not (.t 67)), (some (62, true))⟩, ⟨(some 69), (.pick (.t 62) (.t 68) (.c (.bool false))), (some (59, false))⟩, ⟨(some 70), (.pick (.t 59) (.c (.bool true)) (.t 69)), none⟩])
abbrev m_ref14_Domain_p5 := c_ref14_Domain_p5
def c_ref14_Domain_l1b : ACode := (.seq (.seq (.rg [⟨(some 34), (.mv (.t 6)), none⟩, ⟨(some 35), (.mv (.t 0)), none⟩, ⟨(some 36), (.lens (.t 35)), none⟩, ⟨(some 37), (.bin .leq (.t 34) (.t 36)), none⟩]) (.cond (.t 37) .skip (.exit 0))) (.seq (.blk 1 (.seq (.seq c_ref14_Domain_p4 (.cond (.t 49) (.exit 1) .skip)) (.seq (.seq c_ref14_Domain_p5 (.cond (.t 70) (.seq (.rg [⟨(some 2), (.asg (.c (.bool false))), none⟩]) .ret) .skip)) (.seq (.rg [⟨(some 71), (.mv (.t 5)), none⟩, ⟨(some 72), (.bin .add (.t 71) (.c (.int .i64 1))), none⟩, ⟨(some 5), (.asg (.t 72)), none⟩]) (.rg [⟨(some 73), (.mv (.t 6)), none⟩, ⟨(some 74), (.bin .add (.t 73) (.c (.int .i64 1))), none⟩, ⟨(some 4), (.asg (.t 74)), none⟩]))))) (.rg [⟨(some 38), (.mv (.t 6)), none⟩, ⟨(some 39), (.bin .add (.t 38) (.c (.int .i64 1))), none⟩, ⟨(some 6), (.asg (.t 39)), none⟩])))
def c_ref14_Domain_l1 : ACode := (.loop c_ref14_Domain_l1b)
def m_ref14_Domain_l1b : ACode := (.seq (.seq (.rg [⟨(some 34), (.mv (.t 6)), none⟩, ⟨(some 35), (.mv (.t 0)), none⟩, ⟨(some 36), (.lens (.t 35)), none⟩, ⟨(some 37), (.bin .leq (.t 34) (.t 36)), none⟩]) (.cond (.t 37) .skip (.exit 0))) (.seq (.blk 1 (.seq (.seq (.sem c_ref14_Domain_p4) (.cond (.t 49) (.exit 1) .skip)) (.seq (.seq (.sem c_ref14_Domain_p5) (.cond (.t 70) (.seq (.rg [⟨(some 2), (.asg (.c (.bool false))), none⟩]) .ret) .skip)) (.seq (.rg [⟨(some 71), (.mv (.t 5)), none⟩, ⟨(some 72), (.bin .add (.t 71) (.c (.int .i64 1))), none⟩, ⟨(some 5), (.asg (.t 72)), none⟩]) (.rg [⟨(some 73), (.mv (.t 6)), none⟩, ⟨(some 74), (.bin .add (.t 73) (.c (.int .i64 1))), none⟩, ⟨(some 4), (.asg (.t 74)), none⟩]))))) (.rg [⟨(some 38), (.mv (.t 6)), none⟩, ⟨(some 39), (.bin .add (.t 38) (.c (.int .i64 1))), none⟩, ⟨(some 6), (.asg (.t 39)), none⟩])))
def c_ref14_Domain_p6 : ACode := (.rg [⟨(some 75), (.mv (.t 3)), none⟩, ⟨(some 76), (.un .not (.t 75)), none⟩, ⟨(some 77), (.mv (.t 76)), none⟩, ⟨(some 78), (.mv (.t 5)), (some (77, false))⟩, ⟨(some 79), (.bin .eql (.t 78) (.c (.int .i64 4))), (some (77, false))⟩, ⟨(some 80), (.pick (.t 77) (.c (.bool true)) (.t 79)), none⟩, ⟨(some 2), (.asg (.t 80)), none⟩])
abbrev m_ref14_Domain_p6 := c_ref14_Domain_p6
def c_ref14_Domain : ACode := (.seq (.rg [⟨(some 2), (.asg (.c (.bool false))), none⟩]) (.seq (.seq c_ref14_Domain_p1 (.cond (.t 13) (.seq (.rg [⟨(some 2), (.asg (.c (.bool false))), none⟩]) .ret) .skip)) (.seq (.rg [⟨(some 14), (.mv (.t 0)), none⟩, ⟨(some 15), (.ixs (.t 14) (.c (.int .i64 0))), none⟩, ⟨(some 16), (.bin .eql (.t 15) (.c (b8 91))), none⟩, ⟨(some 3), (.asg (.t 16)), none⟩]) (.seq (.seq (.rg [⟨(some 17), (.mv (.t 3)), none⟩]) c_ref14_Domain_p3) (.seq (.rg [⟨(some 4), (.asg (.c (.int .i64 0))), none⟩]) (.seq (.rg [⟨(some 5), (.asg (.c (.int .i64 0))), none⟩]) (.seq (.seq (.rg [⟨(some 6), (.asg (.c (.int .i64 0))), none⟩]) (.blk 0 c_ref14_Domain_l1)) (.seq c_ref14_Domain_p6 .ret))))))))
def m_ref14_Domain : ACode := (.seq (.rg [⟨(some 2), (.asg (.c (.bool false))), none⟩]) (.seq (.seq (.sem c_ref14_Domain_p1) (.cond (.t 13) (.seq (.rg [⟨(some 2), (.asg (.c (.bool false))), none⟩]) .ret) .skip)) (.seq (.rg [⟨(some 14), (.mv (.t 0)), none⟩, ⟨(some 15), (.ixs (.t 14) (.c (.int .i64 0))), none⟩, ⟨(some 16), (.bin .eql (.t 15) (.c (b8 91))), none⟩, ⟨(some 3), (.asg (.t 16)), none⟩]) (.seq (.seq (.rg [⟨(some 17), (.mv (.t 3)), none⟩]) (.sem c_ref14_Domain_p3)) (.seq (.rg [⟨(some 4), (.asg (.c (.int .i64 0))), none⟩]) (.seq (.rg [⟨(some 5), (.asg (.c (.int .i64 0))), none⟩]) (.seq (.seq (.rg [⟨(some 6), (.asg (.c (.int .i64 0))), none⟩]) (.blk 0 c_ref14_Domain_l1)) (.seq (.sem c_ref14_Domain_p6) .ret))))))))
theorem k_ref14_Domain : FnOk Tryd.prog 38 81 [(.tmp 2)] c_ref14_Domain := ⟨Tryd.f38, _, rfl, by decide, rfl, by kernel_rfl, rfl, rfl⟩
abbrev L_ref14_Domain : List Nat := [0, 2, 3, 4, 5, 6, 13, 17, 28, 37, 49, 70]
def ref14_Domain_p2 (s1 : List UInt8) : Option (Bool) :=
  (idx s1 (IntKind.wrap .i64 ((s1.length : Int) - 1))).bind fun x3 =>
  (if (!decide (x3 = 93)) then
    some true
  else
    some (decide ((s1.length : Int) < 2)))
def ref14_Domain_p3 (x2 : UInt8) (s1 : List UInt8) : Option (St Bool Unit (List UInt8)) :=
  (if (decide (x2 = 91)) then
    (ref14_Domain_p2 s1).bind fun t5 =>
    (if t5 then
      some (.ret false)
    else
      (sub s1 1 (IntKind.wrap .i64 ((s1.length : Int) - 1))).bind fun x6 => some (.nxt x6))
  else
    some (.nxt s1))
def ref14_Domain_p4 (i12 : Int) (s9 : List UInt8) : Option (Bool) :=
  (if (decide (i12 < (s9.length : Int))) then
    (idx s9 i12).bind fun x13 => some (!decide (x13 = 46))
  else
    some false)
def ref14_Domain_p5 (F : Nat) (x2 : UInt8) (s9 : List UInt8) (at10 : Int) (i12 : Int) : Option (Bool) :=
  (if (decide (x2 = 91)) then
    (sub s9 at10 i12).bind fun x16 =>
    (ref14_octet F x16).bind fun r17 => (if (!r17) then
      some true
    else
      some false)
  else
    (sub s9 at10 i12).bind fun x18 => (ref14_label F x18).bind fun r19 => some (!r19))
def ref14_Domain_l1 (F : Nat) (s9 : List UInt8) (x2 : UInt8) : (Int × Int × Int) → Option (St Bool Int (Int × Int × Int))
  | (at10, parts11, i12) =>
    (if (decide (i12 ≤ (s9.length : Int))) then
      (ref14_Domain_p4 i12 s9).bind fun t15 =>
      (if t15 then
        some (.nxt (at10, parts11, (IntKind.wrap .i64 (i12 + 1))))
      else
        (ref14_Domain_p5 F x2 s9 at10 i12).bind fun t21 =>
        (if t21 then
          some (.ret false)
        else
          some (.nxt ((IntKind.wrap .i64 (i12 + 1)), (IntKind.wrap .i64 (parts11 + 1)), (IntKind.wrap .i64 (i12 + 1))))))
    else
      some (.brk parts11))
def ref14_Domain (F : Nat) (s1 : List UInt8) : Option (Bool) :=
  (if ((decide (s1 = ([] : List UInt8))) || (decide (255 < (s1.length : Int)))) then
    some false
  else
    (idx s1 0).bind fun x2 =>
    ((ref14_Domain_p3 x2 s1).bind fun o28 =>
    match o28 with
    | .nxt s9 =>
      ((iter (ref14_Domain_l1 F s9 x2) F (0, 0, 0)).bind fun o26 =>
      match o26 with
      | .inr parts24 =>
        some ((!(decide (x2 = 91))) || (decide (parts24 = 4)))
      | .inl r25 =>
        some r25)
    | .ret r27 =>
      some r27
    | .brk _ => none))
theorem ref14_Domain_p1_ok {s1 : List UInt8} {H : AH}  {K : Exit → Env → AH → Prop}
    (kn : K .normal [(0, (.str s1)), (13, (.bool ((decide (s1 = ([] : List UInt8))) || (decide (255 < (s1.length : Int))))))] H) :
    AX Tryd.prog L_ref14_Domain 81 H.length c_ref14_Domain_p1 K [(0, (.str s1))] H := by
  refine AX.go (m := m_ref14_Domain_p1) rfl (by decide) fun K' hK => ?_
  try simp only [WW, ↓reduceIte, nA, nB, nC, nD, nE, nF, nG, reduceCtorEq, L_ref14_Domain, m_ref14_Domain_p1, c_ref14_Domain_p1]
  rcases bcases ((decide (s1 = ([] : List UInt8)))) with hy1 | hy1
  · refine UG_nf hy1 ?_
    try simp only [WW, ↓reduceIte, nA, nB, nC, nD, nE, nF, nG, reduceCtorEq, L_ref14_Domain, hy1]
    refine hK _ _ _ _ _ ?_ (WxH.refl _) (kn )
    exact WE.cons (Wx.str) (WE.cons (Wx.boolE (by simp only [hy1, WB])) (WE.nil))
  · refine UG_go hy1 ?_
    try simp only [WW, ↓reduceIte, nA, nB, nC, nD, nE, nF, nG, reduceCtorEq, L_ref14_Domain, hy1]
    refine hK _ _ _ _ _ ?_ (WxH.refl _) (kn )
    exact WE.cons (Wx.str) (WE.cons (Wx.boolE (by simp only [hy1, WB])) (WE.nil))
theorem ref14_Domain_p2_ok {s1 : List UInt8} {x2 : UInt8} {H : AH}  {K : Exit → Env → AH → Prop} {t4 : Bool}
    (h : ref14_Domain_p2 s1 = some t4)
    (kn : K .normal [(0, (.str s1)), (3, (.bool (decide (x2 = 91)))), (28, (.bool t4))] H) :
    AX Tryd.prog L_ref14_Domain 81 H.length c_ref14_Domain_p2 K [(0, (.str s1)), (3, (.bool (decide (x2 = 91))))] H := by
  refine AX.go (m := m_ref14_Domain_p2) rfl (by decide) fun K' hK => ?_
  rw [ref14_Domain_p2.eq_1] at h
  obtain ⟨x3, hy5, h⟩ := bnd' h
  try simp only [WW, ↓reduceIte, nA, nB, nC, nD, nE, nF, nG, reduceCtorEq, L_ref14_Domain, m_ref14_Domain_p2, c_ref14_Domain_p2, hy5]
  rcases ifb h with ⟨hy6, h⟩ | ⟨hy6, h⟩
  · refine UG_nf hy6 ?_
    try simp only [WW, ↓reduceIte, nA, nB, nC, nD, nE, nF, nG, reduceCtorEq, L_ref14_Domain, hy6]
    have hq := Option.some.inj h; subst hq
    refine hK _ _ _ _ _ ?_ (WxH.refl _) (kn )
    exact WE.cons (Wx.str) (WE.cons (Wx.bool) (WE.cons (Wx.bool) (WE.nil)))
  · refine UG_go hy6 ?_
    try simp only [WW, ↓reduceIte, nA, nB, nC, nD, nE, nF, nG, reduceCtorEq, L_ref14_Domain, hy6]
    have hq := Option.some.inj h; subst hq
    refine hK _ _ _ _ _ ?_ (WxH.refl _) (kn )
    exact WE.cons (Wx.str) (WE.cons (Wx.bool) (WE.cons (Wx.bool) (WE.nil)))
theorem ref14_Domain_p3_ok {x2 : UInt8} {s1 : List UInt8} {H : AH}  {K : Exit → Env → AH → Prop} {o : St Bool Unit (List UInt8)}
    (h : ref14_Domain_p3 x2 s1 = some o)
    (kn : ∀ o' : (List UInt8), o = .nxt o' → K .normal [(0, (.str o')), (3, (.bool (decide (x2 = 91))))] H)
    (kr : ∀ o' : Bool, o = .ret o' → K .ret [(2, (.bool o'))] H) :
    AX Tryd.prog L_ref14_Domain 81 H.length c_ref14_Domain_p3 K [(0, (.str s1)), (3, (.bool (decide (x2 = 91)))), (17, (.bool (decide (x2 = 91))))] H := by
  refine AX.go (m := m_ref14_Domain_p3) rfl (by decide) fun K' hK => ?_
  rw [ref14_Domain_p3.eq_1] at h
  try simp only [WW, ↓reduceIte, nA, nB, nC, nD, nE, nF, nG, reduceCtorEq, L_ref14_Domain, m_ref14_Domain_p3]
  rcases ifb h with ⟨hy4, h⟩ | ⟨hy4, h⟩
  · refine UC_t hy4 ?_
    try simp only [WW, ↓reduceIte, nA, nB, nC, nD, nE, nF, nG, reduceCtorEq, L_ref14_Domain]
    obtain ⟨t5, hy7, h⟩ := bnd' h
    refine UX_of (AX.weak ?_ (WxH.refl _) (ref14_Domain_p2_ok  (s1 := s1) (x2 := x2) (t4 := t5)   hy7 ?_))
    · exact WE.cons (Wx.str) (WE.cons (Wx.bool) (WE.nil))
    try simp only [WW, ↓reduceIte, nA, nB, nC, nD, nE, nF, nG, reduceCtorEq, L_ref14_Domain]
    rcases ifb h with ⟨hy8, h⟩ | ⟨hy8, h⟩
    · refine UC_t hy8 ?_
      try simp only [WW, ↓reduceIte, nA, nB, nC, nD, nE, nF, nG, reduceCtorEq, L_ref14_Domain]
      have hq := Option.some.inj h; subst hq
      refine hK _ _ _ _ _ ?_ (WxH.refl _) (kr _ rfl )
      exact WE.cons (Wx.bool) (WE.nil)
    · refine UC_f hy8 ?_
      obtain ⟨x6, hy9, h⟩ := bnd' h
      try simp only [WW, ↓reduceIte, nA, nB, nC, nD, nE, nF, nG, reduceCtorEq, L_ref14_Domain, hy9]
      have hq := Option.some.inj h; subst hq
      refine hK _ _ _ _ _ ?_ (WxH.refl _) (kn _ rfl )
      exact WE.cons (Wx.str) (WE.cons (Wx.bool) (WE.nil))
  · refine UC_f hy4 ?_
    try simp only [WW, ↓reduceIte, nA, nB, nC, nD, nE, nF, nG, reduceCtorEq, L_ref14_Domain]
    have hq := Option.some.inj h; subst hq
    refine hK _ _ _ _ _ ?_ (WxH.refl _) (kn _ rfl )
    exact WE.cons (Wx.str) (WE.cons (Wx.bool) (WE.nil))
theorem ref14_Domain_p4_ok {i12 : Int} {s9 : List UInt8} {x2 : UInt8} {at10 : Int} {parts11 : Int} {H : AH}  {K : Exit → Env → AH → Prop} {t14 : Bool}
    (h : ref14_Domain_p4 i12 s9 = some t14)
    (kn : K .normal [(0, (.str s9)), (3, (.bool (decide (x2 = 91)))), (4, (.int .i64 at10)), (5, (.int .i64 parts11)), (6, (.int .i64 i12)), (49, (.bool t14))] H) :
    AX Tryd.prog L_ref14_Domain 81 H.length c_ref14_Domain_p4 K [(0, (.str s9)), (3, (.bool (decide (x2 = 91)))), (4, (.int .i64 at10)), (5, (.int .i64 parts11)), (6, (.int .i64 i12))] H := by
  refine AX.go (m := m_ref14_Domain_p4) rfl (by decide) fun K' hK => ?_
  rw [ref14_Domain_p4.eq_1] at h
  try simp only [WW, ↓reduceIte, nA, nB, nC, nD, nE, nF, nG, reduceCtorEq, L_ref14_Domain, m_ref14_Domain_p4, c_ref14_Domain_p4]
  rcases ifb h with ⟨hy12, h⟩ | ⟨hy12, h⟩
  · refine UG_go hy12 ?_
    obtain ⟨x13, hy13, h⟩ := bnd' h
    try simp only [WW, ↓reduceIte, nA, nB, nC, nD, nE, nF, nG, reduceCtorEq, L_ref14_Domain, hy12, hy13]
    have hq := Option.some.inj h; subst hq
    refine hK _ _ _ _ _ ?_ (WxH.refl _) (kn )
    exact WE.cons (Wx.str) (WE.cons (Wx.bool) (WE.cons (Wx.int) (WE.cons (Wx.int) (WE.cons (Wx.int) (WE.cons (Wx.bool) (WE.nil))))))
  · refine UG_nt hy12 ?_
    try simp only [WW, ↓reduceIte, nA, nB, nC, nD, nE, nF, nG, reduceCtorEq, L_ref14_Domain, hy12]
    have hq := Option.some.inj h; subst hq
    refine hK _ _ _ _ _ ?_ (WxH.refl _) (kn )
    exact WE.cons (Wx.str) (WE.cons (Wx.bool) (WE.cons (Wx.int) (WE.cons (Wx.int) (WE.cons (Wx.int) (WE.cons (Wx.bool) (WE.nil))))))
theorem ref14_Domain_p5_ok {F : Nat} {x2 : UInt8} {s9 : List UInt8} {at10 : Int} {i12 : Int} {parts11 : Int} {H : AH}  {K : Exit → Env → AH → Prop} {t20 : Bool}
    (h : ref14_Domain_p5 F x2 s9 at10 i12 = some t20)
    (kn : K .normal [(0, (.str s9)), (3, (.bool (decide (x2 = 91)))), (5, (.int .i64 parts11)), (6, (.int .i64 i12)), (70, (.bool t20))] H) :
    AX Tryd.prog L_ref14_Domain 81 H.length c_ref14_Domain_p5 K [(0, (.str s9)), (3, (.bool (decide (x2 = 91)))), (4, (.int .i64 at10)), (5, (.int .i64 parts11)), (6, (.int .i64 i12))] H := by
  refine AX.go (m := m_ref14_Domain_p5) rfl (by decide) fun K' hK => ?_
  rw [ref14_Domain_p5.eq_1] at h
  try simp only [WW, ↓reduceIte, nA, nB, nC, nD, nE, nF, nG, reduceCtorEq, L_ref14_Domain, m_ref14_Domain_p5, c_ref14_Domain_p5]
  rcases ifb h with ⟨hy16, h⟩ | ⟨hy16, h⟩
  · refine UG_go hy16 ?_
    obtain ⟨x16, hy17, h⟩ := bnd' h
    try simp only [WW, ↓reduceIte, nA, nB, nC, nD, nE, nF, nG, reduceCtorEq, L_ref14_Domain, hy16, hy17]
    obtain ⟨r17, hy18, h⟩ := bnd' h
    refine UK_e (as' := [(.str x16)]) (h := ref14_octet_ok (s1 := x16) (F := F)  hy18) (hw := WL.cons (Wx.str) (WL.nil)) (hh := WxH.refl _) ?_
    try simp only [WW, ↓reduceIte, nA, nB, nC, nD, nE, nF, nG, reduceCtorEq, L_ref14_Domain]
    rcases ifb h with ⟨hy19, h⟩ | ⟨hy19, h⟩
    · refine UG_nf hy19 ?_
      try simp only [WW, ↓reduceIte, nA, nB, nC, nD, nE, nF, nG, reduceCtorEq, L_ref14_Domain, hy19]
      have hq := Option.some.inj h; subst hq
      refine hK _ _ _ _ _ ?_ (WxH.refl _) (kn )
      exact WE.cons (Wx.str) (WE.cons (Wx.boolE (by first | (simp only [hy16, hy19, WB]; done) | (try rw [hy16]; try rw [hy19]; try simp only [WB]))) (WE.cons (Wx.int) (WE.cons (Wx.int) (WE.cons (Wx.bool) (WE.nil)))))
    · refine UG_go hy19 ?_
      try simp only [WW, ↓reduceIte, nA, nB, nC, nD, nE, nF, nG, reduceCtorEq, L_ref14_Domain, hy19]
      have hq := Option.some.inj h; subst hq
      refine hK _ _ _ _ _ ?_ (WxH.refl _) (kn )
      exact WE.cons (Wx.str) (WE.cons (Wx.boolE (by first | (simp only [hy16, hy19, WB]; done) | (try rw [hy16]; try rw [hy19]; try simp only [WB]))) (WE.cons (Wx.int) (WE.cons (Wx.int) (WE.cons (Wx.bool) (WE.nil)))))
  · refine UG_nt hy16 ?_
    obtain ⟨x18, hy20, h⟩ := bnd' h
    try simp only [WW, ↓reduceIte, nA, nB, nC, nD, nE, nF, nG, reduceCtorEq, L_ref14_Domain, hy16, hy20]
    obtain ⟨r19, hy21, h⟩ := bnd' h
    refine UK_e (as' := [(.str x18)]) (h := ref14_label_ok (s1 := x18) (F := F)  hy21) (hw := WL.cons (Wx.str) (WL.nil)) (hh := WxH.refl _) ?_
    try simp only [WW, ↓reduceIte, nA, nB, nC, nD, nE, nF, nG, reduceCtorEq, L_ref14_Domain]
    have hq := Option.some.inj h; subst hq
    refine hK _ _ _ _ _ ?_ (WxH.refl _) (kn )
    exact WE.cons (Wx.str) (WE.cons (Wx.boolE (by simp only [hy16, WB])) (WE.cons (Wx.int) (WE.cons (Wx.int) (WE.cons (Wx.bool) (WE.nil)))))
theorem ref14_Domain_l1_ok {F : Nat} {i12 : Int} {s9 : List UInt8} {at10 : Int} {parts11 : Int} {x2 : UInt8} {H : AH}  {K : Exit → Env → AH → Prop} {o : (Bool) ⊕ (Int)}
    (h : iter (ref14_Domain_l1 F s9 x2) F (at10, parts11, i12) = some o)
    (kb0 : ∀ o' : Int, o = .inr o' → K (.exit 0) [(3, (.bool (decide (x2 = 91)))), (5, (.int .i64 o'))] H)
    (kr : ∀ o' : Bool, o = .inl o' → K .ret [(2, (.bool o'))] H) :
    AX Tryd.prog L_ref14_Domain 81 H.length c_ref14_Domain_l1 K [(0, (.str s9)), (3, (.bool (decide (x2 = 91)))), (4, (.int .i64 at10)), (5, (.int .i64 parts11)), (6, (.int .i64 i12))] H := by
  refine AX.iter (m := m_ref14_Domain_l1b) rfl (by decide) (fun s e H1 => match s with | (at10, parts11, i12) => e = [(0, (.str s9)), (3, (.bool (decide (x2 = 91)))), (4, (.int .i64 at10)), (5, (.int .i64 parts11)), (6, (.int .i64 i12))] ∧ H1 = H) h ⟨rfl, rfl⟩ ?_
  rintro K' ⟨at10, parts11, i12⟩ st e H ⟨rfl, rfl⟩ h hN hB hR hX
  rw [ref14_Domain_l1.eq_1] at h
  try simp only [WW, ↓reduceIte, nA, nB, nC, nD, nE, nF, nG, reduceCtorEq, L_ref14_Domain, m_ref14_Domain_l1b]
  rcases ifb h with ⟨hy11, h⟩ | ⟨hy11, h⟩
  · refine UC_t hy11 ?_
    try simp only [WW, ↓reduceIte, nA, nB, nC, nD, nE, nF, nG, reduceCtorEq, L_ref14_Domain]
    obtain ⟨t15, hy14, h⟩ := bnd' h
    refine UX_of (AX.weak ?_ (WxH.refl _) (ref14_Domain_p4_ok  (i12 := i12) (s9 := s9) (x2 := x2) (at10 := at10) (parts11 := parts11) (t14 := t15)   hy14 ?_))
    · exact WE.cons (Wx.str) (WE.cons (Wx.bool) (WE.cons (Wx.int) (WE.cons (Wx.int) (WE.cons (Wx.int) (WE.nil)))))
    try simp only [WW, ↓reduceIte, nA, nB, nC, nD, nE, nF, nG, reduceCtorEq, L_ref14_Domain]
    rcases ifb h with ⟨hy15, h⟩ | ⟨hy15, h⟩
    · refine UC_t hy15 ?_
      try simp only [WW, ↓reduceIte, nA, nB, nC, nD, nE, nF, nG, reduceCtorEq, L_ref14_Domain]
      have hq := Option.some.inj h; subst hq
      refine hN _ rfl _ _ _ _ ?_ (WxH.refl _) ⟨rfl, rfl⟩
      exact WE.cons (Wx.str) (WE.cons (Wx.bool) (WE.cons (Wx.int) (WE.cons (Wx.int) (WE.cons (Wx.int) (WE.nil)))))
    · refine UC_f hy15 ?_
      try simp only [WW, ↓reduceIte, nA, nB, nC, nD, nE, nF, nG, reduceCtorEq, L_ref14_Domain]
      obtain ⟨t21, hy22, h⟩ := bnd' h
      refine UX_of (AX.weak ?_ (WxH.refl _) (ref14_Domain_p5_ok (F := F) (x2 := x2) (s9 := s9) (at10 := at10) (i12 := i12) (parts11 := parts11) (t20 := t21)   hy22 ?_))
      · exact WE.cons (Wx.str) (WE.cons (Wx.bool) (WE.cons (Wx.int) (WE.cons (Wx.int) (WE.cons (Wx.int) (WE.nil)))))
      try simp only [WW, ↓reduceIte, nA, nB, nC, nD, nE, nF, nG, reduceCtorEq, L_ref14_Domain]
      rcases ifb h with ⟨hy23, h⟩ | ⟨hy23, h⟩
      · refine UC_t hy23 ?_
        try simp only [WW, ↓reduceIte, nA, nB, nC, nD, nE, nF, nG, reduceCtorEq, L_ref14_Domain]
        have hq := Option.some.inj h; subst hq
        refine hX _ _ _ _ _ (by simp) ?_ (WxH.refl _) (kr _ (hR _ rfl) )
        exact WE.cons (Wx.bool) (WE.nil)
      · refine UC_f hy23 ?_
        try simp only [WW, ↓reduceIte, nA, nB, nC, nD, nE, nF, nG, reduceCtorEq, L_ref14_Domain]
        have hq := Option.some.inj h; subst hq
        refine hN _ rfl _ _ _ _ ?_ (WxH.refl _) ⟨rfl, rfl⟩
        exact WE.cons (Wx.str) (WE.cons (Wx.bool) (WE.cons (Wx.int) (WE.cons (Wx.int) (WE.cons (Wx.int) (WE.nil)))))
  · refine UC_f hy11 ?_
    try simp only [WW, ↓reduceIte, nA, nB, nC, nD, nE, nF, nG, reduceCtorEq, L_ref14_Domain]
    have hq := Option.some.inj h; subst hq
    refine hX _ _ _ _ _ (by simp) ?_ (WxH.refl _) (kb0 _ (hB _ rfl) )
    exact WE.cons (Wx.bool) (WE.cons (Wx.int) (WE.nil))
theorem ref14_Domain_p6_ok {x2 : UInt8} {parts24 : Int} {H : AH}  {K : Exit → Env → AH → Prop}
    (kn : K .normal [(2, (.bool ((!(decide (x2 = 91))) || (decide (parts24 = 4)))))] H) :
    AX Tryd.prog L_ref14_Domain 81 H.length c_ref14_Domain_p6 K [(3, (.bool (decide (x2 = 91)))), (5, (.int .i64 parts24))] H := by
  refine AX.go (m := m_ref14_Domain_p6) rfl (by decide) fun K' hK => ?_
  try simp only [WW, ↓reduceIte, nA, nB, nC, nD, nE, nF, nG, reduceCtorEq, L_ref14_Domain, m_ref14_Domain_p6, c_ref14_Domain_p6]
  rcases bcases ((!(decide (x2 = 91)))) with hy25 | hy25
  · refine UG_nf hy25 ?_
    try simp only [WW, ↓reduceIte, nA, nB, nC, nD, nE, nF, nG, reduceCtorEq, L_ref14_Domain, hy25]
    refine hK _ _ _ _ _ ?_ (WxH.refl _) (kn )
    exact WE.cons (Wx.boolE (by simp only [hy25, WB])) (WE.nil)
  · refine UG_go hy25 ?_
    try simp only [WW, ↓reduceIte, nA, nB, nC, nD, nE, nF, nG, reduceCtorEq, L_ref14_Domain, hy25]
    refine hK _ _ _ _ _ ?_ (WxH.refl _) (kn )
    exact WE.cons (Wx.boolE (by simp only [hy25, WB])) (WE.nil)
theorem ref14_Domain_ok {F : Nat} {s1 : List UInt8}  {H0 : AH}  {rz0 : Bool} (h : ref14_Domain F s1 = some rz0) :
    ACalls Tryd.prog 38 [(.str s1)] H0 fun v H' => v = (.bool rz0) ∧ H' = H0 := by
  refine ACalls.goX k_ref14_Domain (m := m_ref14_Domain) rfl L_ref14_Domain (by decide) (by simp) fun hcl K0 hK0 => ?_
  refine AX.of_U (m := m_ref14_Domain) rfl (by decide) ?_
  rw [ref14_Domain.eq_1] at h
  try simp only [WW, ↓reduceIte, nA, nB, nC, nD, nE, nF, nG, reduceCtorEq, L_ref14_Domain, m_ref14_Domain]
  refine UX_of (AX.weak ?_ (WxH.refl _) (ref14_Domain_p1_ok (s1 := s1)  ?_))
  · exact WE.cons (Wx.str) (WE.nil)
  try simp only [WW, ↓reduceIte, nA, nB, nC, nD, nE, nF, nG, reduceCtorEq, L_ref14_Domain]
  rcases ifb h with ⟨hy2, h⟩ | ⟨hy2, h⟩
  · refine UC_t hy2 ?_
    try simp only [WW, ↓reduceIte, nA, nB, nC, nD, nE, nF, nG, reduceCtorEq, L_ref14_Domain]
    have hq := Option.some.inj h; subst hq
    refine hK0 _ _ _ (.inr rfl) ?_
    exact fn_endp hcl (resv_tmp (a := (.bool false)) rfl rfl resv_nil) (by first | (simp [fin, b_df, b_sh, b_sh1, b_Cl]; done) | (simp [fin, AV.df, AV.sh, AV.sh1, b_df, b_sh, b_sh1, b_Cl]; done)) (Wx.bool) (r' := (.bool false)) ⟨rfl, rfl⟩
  · refine UC_f hy2 ?_
    obtain ⟨x2, hy3, h⟩ := bnd' h
    try simp only [WW, ↓reduceIte, nA, nB, nC, nD, nE, nF, nG, reduceCtorEq, L_ref14_Domain, hy3]
    obtain ⟨o28, hy10, h⟩ := bnd' h
    refine UX_of (AX.weak ?_ (WxH.refl _) (ref14_Domain_p3_ok  (x2 := x2) (s1 := s1)   (o := o28) hy10 ?_ ?_))
    · exact WE.cons (Wx.str) (WE.cons (Wx.bool) (WE.cons (Wx.bool) (WE.nil)))
    · rintro s9 rfl  
      try dsimp only at h 
      try simp only [WW, ↓reduceIte, nA, nB, nC, nD, nE, nF, nG, reduceCtorEq, L_ref14_Domain]
      obtain ⟨o26, hy24, h⟩ := bnd' h
      refine UX_of (AX.weak ?_ (WxH.refl _) (ref14_Domain_l1_ok  (s9 := s9) (x2 := x2) (at10 := 0) (parts11 := 0) (i12 := 0)   (o := o26) hy24 ?_ ?_))
      · exact WE.cons (Wx.str) (WE.cons (Wx.bool) (WE.cons (Wx.int) (WE.cons (Wx.int) (WE.cons (Wx.int) (WE.nil)))))
      · rintro parts24 rfl  
        try dsimp only at h 
        try simp only [WW, ↓reduceIte, nA, nB, nC, nD, nE, nF, nG, reduceCtorEq, L_ref14_Domain]
        refine UX_of (AX.weak ?_ (WxH.refl _) (ref14_Domain_p6_ok (x2 := x2) (parts24 := parts24)  ?_))
        · exact WE.cons (Wx.bool) (WE.cons (Wx.int) (WE.nil))
        try simp only [WW, ↓reduceIte, nA, nB, nC, nD, nE, nF, nG, reduceCtorEq, L_ref14_Domain]
        have hq := Option.some.inj h; subst hq
        refine hK0 _ _ _ (.inr rfl) ?_
        exact fn_endp hcl (resv_tmp (a := (.bool ((!(decide (x2 = 91))) || (decide (parts24 = 4))))) rfl rfl resv_nil) (by first | (simp [fin, b_df, b_sh, b_sh1, b_Cl]; done) | (simp [fin, AV.df, AV.sh, AV.sh1, b_df, b_sh, b_sh1, b_Cl]; done)) (Wx.bool) (r' := (.bool ((!(decide (x2 = 91))) || (decide (parts24 = 4))))) ⟨rfl, rfl⟩
      · rintro r25 rfl  
        try dsimp only at h 
        try simp only [WW, ↓reduceIte, nA, nB, nC, nD, nE, nF, nG, reduceCtorEq, L_ref14_Domain]
        have hq := Option.some.inj h; subst hq
        refine hK0 _ _ _ (.inr rfl) ?_
        exact fn_endp hcl (resv_tmp (a := (.bool r25)) rfl rfl resv_nil) (by first | (simp [fin, b_df, b_sh, b_sh1, b_Cl]; done) | (simp [fin, AV.df, AV.sh, AV.sh1, b_df, b_sh, b_sh1, b_Cl]; done)) (Wx.bool) (r' := (.bool r25)) ⟨rfl, rfl⟩
    · rintro r27 rfl  
      try dsimp only at h 
      try simp only [WW, ↓reduceIte, nA, nB, nC, nD, nE, nF, nG, reduceCtorEq, L_ref14_Domain]
      have hq := Option.some.inj h; subst hq
      refine hK0 _ _ _ (.inr rfl) ?_
      exact fn_endp hcl (resv_tmp (a := (.bool r27)) rfl rfl resv_nil) (by first | (simp [fin, b_df, b_sh, b_sh1, b_Cl]; done) | (simp [fin, AV.df, AV.sh, AV.sh1, b_df, b_sh, b_sh1, b_Cl]; done)) (Wx.bool) (r' := (.bool r27)) ⟨rfl, rfl⟩

/-! ### mailbag/mailbagref14.atext -/
def c_ref14_atext_p1 : ACode := (.rg [⟨(some 5), (.mv (.t 0)), none⟩, ⟨(some 6), (.call (.c (.fn 103 [])) [(.t 5)]), none⟩, ⟨(some 7), (.mv (.t 6)), none⟩, ⟨(some 8), (.mv (.t 0)), (some (7, false))⟩, ⟨(some 9), (.call (.c (.fn 104 [])) [(.t 8)]), (some (7, false))⟩, ⟨(some 10), (.pick (.t 7) (.c (.bool true)) (.t 9)), none⟩])
abbrev m_ref14_atext_p1 := c_ref14_atext_p1
def c_ref14_atext_l1b : ACode := (.seq (.seq (.rg [⟨(some 11), (.mv (.t 4)), none⟩, ⟨(some 12), (.mv (.t 3)), none⟩, ⟨(some 13), (.lens (.t 12)), none⟩, ⟨(some 14), (.bin .lss (.t 11) (.t 13)), none⟩]) (.cond (.t 14) .skip (.exit 0))) (.seq (.blk 1 (.seq (.rg [⟨(some 17), (.mv (.t 3)), none⟩, ⟨(some 18), (.mv (.t 4)), none⟩, ⟨(some 19), (.ixs (.t 17) (.t 18)), none⟩, ⟨(some 20), (.mv (.t 0)), none⟩, ⟨(some 21), (.bin .eql (.t 19) (.t 20)), none⟩]) (.cond (.t 21) (.seq (.rg [⟨(some 2), (.asg (.c (.bool true))), none⟩]) .ret) .skip))) (.rg [⟨(some 15), (.mv (.t 4)), none⟩, ⟨(some 16), (.bin .add (.t 15) (.c (.int .i64 1))), none⟩, ⟨(some 4), (.asg (.t 16)), none⟩])))
def c_ref14_atext_l1 : ACode := (.loop c_ref14_atext_l1b)
abbrev m_ref14_atext_l1b := c_ref14_atext_l1b
def c_ref14_atext : ACode := (.seq (.rg [⟨(some 2), (.asg (.c (.bool false))), none⟩]) (.seq (.seq c_ref14_atext_p1 (.cond (.t 10) (.seq (.rg [⟨(some 2), (.asg (.c (.bool true))), none⟩]) .ret) .skip)) (.seq (.rg [⟨(some 3), (.asg (.c (.str [33, 35, 36, 37, 38, 39, 42, 43, 45, 47, 61, 63, 94, 95, 123, 124, 125, 126]))), none⟩]) (.seq (.seq (.rg [⟨(some 4), (.asg (.c (.int .i64 0))), none⟩]) (.blk 0 c_ref14_atext_l1)) (.seq (.rg [⟨(some 22), (.mv (.t 0)), none⟩, ⟨(some 23), (.bin .eql (.t 22) (.c (b8 96))), none⟩, ⟨(some 2), (.asg (.t 23)), none⟩]) .ret)))))
def m_ref14_atext : ACode := (.seq (.rg [⟨(some 2), (.asg (.c (.bool false))), none⟩]) (.seq (.seq (.sem c_ref14_atext_p1) (.cond (.t 10) (.seq (.rg [⟨(some 2), (.asg (.c (.bool true))), none⟩]) .ret) .skip)) (.seq (.rg [⟨(some 3), (.asg (.c (.str [33, 35, 36, 37, 38, 39, 42, 43, 45, 47, 61, 63, 94, 95, 123, 124, 125, 126]))), none⟩]) (.seq (.seq (.rg [⟨(some 4), (.asg (.c (.int .i64 0))), none⟩]) (.blk 0 c_ref14_atext_l1)) (.seq (.rg [⟨(some 22), (.mv (.t 0)), none⟩, ⟨(some 23), (.bin .eql (.t 22) (.c (b8 96))), none⟩, ⟨(some 2), (.asg (.t 23)), none⟩]) .ret)))))
theorem k_ref14_atext : FnOk Tryd.prog 101 24 [(.tmp 2)] c_ref14_atext := ⟨Tryd.f101, _, rfl, by decide, rfl, by kernel_rfl, rfl, rfl⟩
abbrev L_ref14_atext : List Nat := [0, 2, 3, 4, 10, 14, 21]
def ref14_atext_p1 (c1 : UInt8) : Option (Bool) :=
  (ref14_letter c1).bind fun r2 =>
  (if r2 then
    some true
  else
    (ref14_digit c1).bind fun r3 => some r3)
def ref14_atext_l1 (c1 : UInt8) : Int → Option (St Bool Unit Int)
  | i6 =>
    (if (decide (i6 < (([33, 35, 36, 37, 38, 39, 42, 43, 45, 47, 61, 63, 94, 95, 123, 124, 125, 126] : List UInt8).length : Int))) then
      (idx ([33, 35, 36, 37, 38, 39, 42, 43, 45, 47, 61, 63, 94, 95, 123, 124, 125, 126] : List UInt8) i6).bind fun x7 =>
      (if (decide (x7 = c1)) then
        some (.ret true)
      else
        some (.nxt (IntKind.wrap .i64 (i6 + 1))))
    else
      some (.brk ()))
def ref14_atext (F : Nat) (c1 : UInt8) : Option (Bool) :=
  (ref14_atext_p1 c1).bind fun t5 =>
  (if t5 then
    some true
  else
    ((iter (ref14_atext_l1 c1) F 0).bind fun o10 =>
    match o10 with
    | .inr () =>
      some (decide (c1 = 96))
    | .inl r9 =>
      some r9))
theorem ref14_atext_p1_ok {c1 : UInt8} {H : AH}  {K : Exit → Env → AH → Prop} {t4 : Bool}
    (h : ref14_atext_p1 c1 = some t4)
    (kn : K .normal [(0, (b8 c1)), (10, (.bool t4))] H) :
    AX Tryd.prog L_ref14_atext 24 H.length c_ref14_atext_p1 K [(0, (b8 c1))] H := by
  refine AX.go (m := m_ref14_atext_p1) rfl (by decide) fun K' hK => ?_
  rw [ref14_atext_p1.eq_1] at h
  try simp only [WW, ↓reduceIte, nA, nB, nC, nD, nE, nF, nG, reduceCtorEq, L_ref14_atext, m_ref14_atext_p1, c_ref14_atext_p1]
  obtain ⟨r2, hy1, h⟩ := bnd' h
  refine UK_e (as' := [(b8 c1)]) (h := ref14_letter_ok (c1 := c1)  hy1) (hw := WL.cons (Wx.b8) (WL.nil)) (hh := WxH.refl _) ?_
  try simp only [WW, ↓reduceIte, nA, nB, nC, nD, nE, nF, nG, reduceCtorEq, L_ref14_atext]
  rcases ifb h with ⟨hy2, h⟩ | ⟨hy2, h⟩
  · refine UG_nf hy2 ?_
    try simp only [WW, ↓reduceIte, nA, nB, nC, nD, nE, nF, nG, reduceCtorEq, L_ref14_atext, hy2]
    have hq := Option.some.inj h; subst hq
    refine hK _ _ _ _ _ ?_ (WxH.refl _) (kn )
    exact WE.cons (Wx.b8) (WE.cons (Wx.bool) (WE.nil))
  · refine UG_go hy2 ?_
    try simp only [WW, ↓reduceIte, nA, nB, nC, nD, nE, nF, nG, reduceCtorEq, L_ref14_atext, hy2]
    obtain ⟨r3, hy3, h⟩ := bnd' h
    refine UK_e (as' := [(b8 c1)]) (h := ref14_digit_ok (c1 := c1)  hy3) (hw := WL.cons (Wx.b8) (WL.nil)) (hh := WxH.refl _) ?_
    try simp only [WW, ↓reduceIte, nA, nB, nC, nD, nE, nF, nG, reduceCtorEq, L_ref14_atext]
    have hq := Option.some.inj h; subst hq
    refine hK _ _ _ _ _ ?_ (WxH.refl _) (kn )
    exact WE.cons (Wx.b8) (WE.cons (Wx.bool) (WE.nil))
theorem ref14_atext_l1_ok {F : Nat} {i6 : Int} {c1 : UInt8} {H : AH}  {K : Exit → Env → AH → Prop} {o : (Bool) ⊕ (Unit)}
    (h : iter (ref14_atext_l1 c1) F i6 = some o)
    (kb0 : ∀ o' : Unit, o = .inr o' → K (.exit 0) [(0, (b8 c1))] H)
    (kr : ∀ o' : Bool, o = .inl o' → K .ret [(2, (.bool o'))] H) :
    AX Tryd.prog L_ref14_atext 24 H.length c_ref14_atext_l1 K [(0, (b8 c1)), (3, (.str ([33, 35, 36, 37, 38, 39, 42, 43, 45, 47, 61, 63, 94, 95, 123, 124, 125, 126] : List UInt8))), (4, (.int .i64 i6))] H := by
  refine AX.iter (m := m_ref14_atext_l1b) rfl (by decide) (fun s e H1 => match s with | i6 => e = [(0, (b8 c1)), (3, (.str ([33, 35, 36, 37, 38, 39, 42, 43, 45, 47, 61, 63, 94, 95, 123, 124, 125, 126] : List UInt8))), (4, (.int .i64 i6))] ∧ H1 = H) h ⟨rfl, rfl⟩ ?_
  rintro K' i6 st e H ⟨rfl, rfl⟩ h hN hB hR hX
  rw [ref14_atext_l1.eq_1] at h
  try simp only [WW, ↓reduceIte, nA, nB, nC, nD, nE, nF, nG, reduceCtorEq, L_ref14_atext, m_ref14_atext_l1b, c_ref14_atext_l1b]
  rcases ifb h with ⟨hy6, h⟩ | ⟨hy6, h⟩
  · refine UC_t hy6 ?_
    obtain ⟨x7, hy7, h⟩ := bnd' h
    try simp only [WW, ↓reduceIte, nA, nB, nC, nD, nE, nF, nG, reduceCtorEq, L_ref14_atext, hy7]
    rcases ifb h with ⟨hy8, h⟩ | ⟨hy8, h⟩
    · refine UC_t hy8 ?_
      try simp only [WW, ↓reduceIte, nA, nB, nC, nD, nE, nF, nG, reduceCtorEq, L_ref14_atext]
      have hq := Option.some.inj h; subst hq
      refine hX _ _ _ _ _ (by simp) ?_ (WxH.refl _) (kr _ (hR _ rfl) )
      exact WE.cons (Wx.bool) (WE.nil)
    · refine UC_f hy8 ?_
      try simp only [WW, ↓reduceIte, nA, nB, nC, nD, nE, nF, nG, reduceCtorEq, L_ref14_atext]
      have hq := Option.some.inj h; subst hq
      refine hN _ rfl _ _ _ _ ?_ (WxH.refl _) ⟨rfl, rfl⟩
      exact WE.cons (Wx.b8) (WE.cons (Wx.str) (WE.cons (Wx.int) (WE.nil)))
  · refine UC_f hy6 ?_
    try simp only [WW, ↓reduceIte, nA, nB, nC, nD, nE, nF, nG, reduceCtorEq, L_ref14_atext]
    have hq := Option.some.inj h; subst hq
    refine hX _ _ _ _ _ (by simp) ?_ (WxH.refl _) (kb0 _ (hB _ rfl) )
    exact WE.cons (Wx.b8) (WE.nil)
theorem ref14_atext_ok {F : Nat} {c1 : UInt8}  {H0 : AH}  {rz0 : Bool} (h : ref14_atext F c1 = some rz0) :
    ACalls Tryd.prog 101 [(b8 c1)] H0 fun v H' => v = (.bool rz0) ∧ H' = H0 := by
  refine ACalls.goX k_ref14_atext (m := m_ref14_atext) rfl L_ref14_atext (by decide) (by simp) fun hcl K0 hK0 => ?_
  refine AX.of_U (m := m_ref14_atext) rfl (by decide) ?_
  rw [ref14_atext.eq_1] at h
  try simp only [WW, ↓reduceIte, nA, nB, nC, nD, nE, nF, nG, reduceCtorEq, L_ref14_atext, m_ref14_atext]
  obtain ⟨t5, hy4, h⟩ := bnd' h
  refine UX_of (AX.weak ?_ (WxH.refl _) (ref14_atext_p1_ok  (c1 := c1) (t4 := t5)   hy4 ?_))
  · exact WE.cons (Wx.b8) (WE.nil)
  try simp only [WW, ↓reduceIte, nA, nB, nC, nD, nE, nF, nG, reduceCtorEq, L_ref14_atext]
  rcases ifb h with ⟨hy5, h⟩ | ⟨hy5, h⟩
  · refine UC_t hy5 ?_
    try simp only [WW, ↓reduceIte, nA, nB, nC, nD, nE, nF, nG, reduceCtorEq, L_ref14_atext]
    have hq := Option.some.inj h; subst hq
    refine hK0 _ _ _ (.inr rfl) ?_
    exact fn_endp hcl (resv_tmp (a := (.bool true)) rfl rfl resv_nil) (by first | (simp [fin, b_df, b_sh, b_sh1, b_Cl]; done) | (simp [fin, AV.df, AV.sh, AV.sh1, b_df, b_sh, b_sh1, b_Cl]; done)) (Wx.bool) (r' := (.bool true)) ⟨rfl, rfl⟩
  · refine UC_f hy5 ?_
    try simp only [WW, ↓reduceIte, nA, nB, nC, nD, nE, nF, nG, reduceCtorEq, L_ref14_atext]
    obtain ⟨o10, hy9, h⟩ := bnd' h
    refine UX_of (AX.weak ?_ (WxH.refl _) (ref14_atext_l1_ok  (c1 := c1) (i6 := 0)   (o := o10) hy9 ?_ ?_))
    · exact WE.cons (Wx.b8) (WE.cons (Wx.str) (WE.cons (Wx.int) (WE.nil)))
    · rintro ⟨⟩ rfl  
      try dsimp only at h 
      try simp only [WW, ↓reduceIte, nA, nB, nC, nD, nE, nF, nG, reduceCtorEq, L_ref14_atext]
      have hq := Option.some.inj h; subst hq
      refine hK0 _ _ _ (.inr rfl) ?_
      exact fn_endp hcl (resv_tmp (a := (.bool (decide (c1 = 96)))) rfl rfl resv_nil) (by first | (simp [fin, b_df, b_sh, b_sh1, b_Cl]; done) | (simp [fin, AV.df, AV.sh, AV.sh1, b_df, b_sh, b_sh1, b_Cl]; done)) (Wx.bool) (r' := (.bool (decide (c1 = 96)))) ⟨rfl, rfl⟩
    · rintro r9 rfl  
      try dsimp only at h 
      try simp only [WW, ↓reduceIte, nA, nB, nC, nD, nE, nF, nG, reduceCtorEq, L_ref14_atext]
      have hq := Option.some.inj h; subst hq
      refine hK0 _ _ _ (.inr rfl) ?_
      exact fn_endp hcl (resv_tmp (a := (.bool r9)) rfl rfl resv_nil) (by first | (simp [fin, b_df, b_sh, b_sh1, b_Cl]; done) | (simp [fin, AV.df, AV.sh, AV.sh1, b_df, b_sh, b_sh1, b_Cl]; done)) (Wx.bool) (r' := (.bool r9)) ⟨rfl, rfl⟩

/-! ### mailbag/mailbagref14.plain -/
def c_ref14_plain_p1 : ACode := (.rg [⟨(some 11), (.mv (.t 0)), none⟩, ⟨(some 12), (.mv (.t 3)), none⟩, ⟨(some 13), (.ixs (.t 11) (.t 12)), none⟩, ⟨(some 14), (.bin .eql (.t 13) (.c (b8 46))), none⟩, ⟨(some 15), (.mv (.t 14)), none⟩, ⟨(some 16), (.mv (.t 3)), (some (15, true))⟩, ⟨(some 17), (.bin .gtr (.t 16) (.c (.int .i64 0))), (some (15, true))⟩, ⟨(some 18), (.pick (.t 15) (.t 17) (.c (.bool false))), none⟩, ⟨(some 19), (.mv (.t 18)), none⟩, ⟨(some 20), (.mv (.t 3)), (some (19, true))⟩, ⟨(some 21), (.bin .add (.t 20) (.c (.int .i64 1))), (some (19, true))⟩, ⟨(some 22), (.mv (.t 0)), (some (19, true))⟩, ⟨(some 23), (.lens (.t 22)), (some (19, true))⟩, ⟨(some 24), (.bin .lss (.t 21) (.t 23)), (some (19, true))⟩, ⟨(some 25), (.pick (.t 19) (.t 24) (.c (.bool false))), none⟩, ⟨(some 26), (.mv (.t 25)), none⟩, ⟨(some 27), (.mv (.t 0)), (some (26, true))⟩, ⟨(some 28), (.mv (.t 3)), (some (26, true))⟩, ⟨(some 29), (.bin .sub (.t 28) (.c (.int .i64 1))), (some (26, true))⟩, ⟨(some 30), (.ixs (.t 27) (.t 29)), (some (26, true))⟩, ⟨(some 31), (.bin .neq (.t 30) (.c (b8 46))), (some (26, true))⟩, ⟨(some 32), (.pick (.t 26) (.t 31) (.c (.bool false))), none⟩, ⟨(some 4), (.asg (.t 32)), none⟩])
abbrev m_ref14_plain_p1 := c_ref14_plain_p1
def c_ref14_plain_p2 : ACode := (.rg [⟨(some 33), (.mv (.t 4)), none⟩, ⟨(some 34), (.un .not (.t 33)), none⟩, ⟨(some 35), (.mv (.t 34)), none⟩, ⟨(some 36), (.mv (.t 0)), (some (35, true))⟩, ⟨(some 37), (.mv (.t 3)), (some (35, true))⟩, ⟨(some 38), (.ixs (.t 36) (.t 37)), (some (35, true))⟩, ⟨(some 39), (.call (.c (.fn 101 [])) [(.t 38)]), (some (35, true))⟩, ⟨(some 40), (.un .not (.t 39)), (some (35, true))⟩, ⟨(some 41), (.pick (.t 35) (.t 40) (.c (.bool false))), none⟩])
abbrev m_ref14_plain_p2 := c_ref14_plain_p2
def c_ref14_plain_l1b : ACode := (.seq (.seq (.rg [⟨(some 5), (.mv (.t 3)), none⟩, ⟨(some 6), (.mv (.t 0)), none⟩, ⟨(some 7), (.lens (.t 6)), none⟩, ⟨(some 8), (.bin .lss (.t 5) (.t 7)), none⟩]) (.cond (.t 8) .skip (.exit 0))) (.seq (.blk 1 (.seq c_ref14_plain_p1 (.seq c_ref14_plain_p2 (.cond (.t 41) (.seq (.rg [⟨(some 2), (.asg (.c (.bool false))), none⟩]) .ret) .skip)))) (.rg [⟨(some 9), (.mv (.t 3)), none⟩, ⟨(some 10), (.bin .add (.t 9) (.c (.int .i64 1))), none⟩, ⟨(some 3), (.asg (.t 10)), none⟩])))
def c_ref14_plain_l1 : ACode := (.loop c_ref14_plain_l1b)
def m_ref14_plain_l1b : ACode := (.seq (.seq (.rg [⟨(some 5), (.mv (.t 3)), none⟩, ⟨(some 6), (.mv (.t 0)), none⟩, ⟨(some 7), (.lens (.t 6)), none⟩, ⟨(some 8), (.bin .lss (.t 5) (.t 7)), none⟩]) (.cond (.t 8) .skip (.exit 0))) (.seq (.blk 1 (.seq (.sem c_ref14_plain_p1) (.seq (.sem c_ref14_plain_p2) (.cond (.t 41) (.seq (.rg [⟨(some 2), (.asg (.c (.bool false))), none⟩]) .ret) .skip)))) (.rg [⟨(some 9), (.mv (.t 3)), none⟩, ⟨(some 10), (.bin .add (.t 9) (.c (.int .i64 1))), none⟩, ⟨(some 3), (.asg (.t 10)), none⟩])))
def c_ref14_plain : ACode := (.seq (.rg [⟨(some 2), (.asg (.c (.bool false))), none⟩]) (.seq (.seq (.rg [⟨(some 3), (.asg (.c (.int .i64 0))), none⟩]) (.blk 0 c_ref14_plain_l1)) (.seq (.rg [⟨(some 42), (.mv (.t 0)), none⟩, ⟨(some 43), (.bin .neq (.t 42) (.c (.str []))), none⟩, ⟨(some 2), (.asg (.t 43)), none⟩]) .ret)))
abbrev m_ref14_plain := c_ref14_plain
theorem k_ref14_plain : FnOk Tryd.prog 102 44 [(.tmp 2)] c_ref14_plain := ⟨Tryd.f102, _, rfl, by decide, rfl, by kernel_rfl, rfl, rfl⟩
abbrev L_ref14_plain : List Nat := [0, 2, 3, 4, 8, 41]
def ref14_plain_p1 (s1 : List UInt8) (i2 : Int) : Option (Bool) :=
  (idx s1 i2).bind fun x3 =>
  (if (decide (x3 = 46)) then
    (if (decide (0 < i2)) then
      (if (decide ((IntKind.wrap .i64 (i2 + 1)) < (s1.length : Int))) then
        (idx s1 (IntKind.wrap .i64 (i2 - 1))).bind fun x4 => some (!decide (x4 = 46))
      else
        some false)
    else
      some false)
  else
    some false)
def ref14_plain_p2 (F : Nat) (dot6 : Bool) (s1 : List UInt8) (i2 : Int) : Option (Bool) :=
  (if (!dot6) then
    (idx s1 i2).bind fun x7 => (ref14_atext F x7).bind fun r8 => some (!r8)
  else
    some false)
def ref14_plain_l1 (F : Nat) (s1 : List UInt8) : Int → Option (St Bool Unit Int)
  | i2 =>
    (if (decide (i2 < (s1.length : Int))) then
      (ref14_plain_p1 s1 i2).bind fun dot6 =>
      (ref14_plain_p2 F dot6 s1 i2).bind fun t10 =>
      (if t10 then
        some (.ret false)
      else
        some (.nxt (IntKind.wrap .i64 (i2 + 1))))
    else
      some (.brk ()))
def ref14_plain (F : Nat) (s1 : List UInt8) : Option (Bool) :=
  ((iter (ref14_plain_l1 F s1) F 0).bind fun o13 =>
  match o13 with
  | .inr () =>
    some (!decide (s1 = ([] : List UInt8)))
  | .inl r12 =>
    some r12)
theorem ref14_plain_p1_ok {s1 : List UInt8} {i2 : Int} {H : AH}  {K : Exit → Env → AH → Prop} {dot5 : Bool}
    (h : ref14_plain_p1 s1 i2 = some dot5)
    (kn : K .normal [(0, (.str s1)), (3, (.int .i64 i2)), (4, (.bool dot5))] H) :
    AX Tryd.prog L_ref14_plain 44 H.length c_ref14_plain_p1 K [(0, (.str s1)), (3, (.int .i64 i2))] H := by
  refine AX.go (m := m_ref14_plain_p1) rfl (by decide) fun K' hK => ?_
  rw [ref14_plain_p1.eq_1] at h
  obtain ⟨x3, hy2, h⟩ := bnd' h
  try simp only [WW, ↓reduceIte, nA, nB, nC, nD, nE, nF, nG, reduceCtorEq, L_ref14_plain, m_ref14_plain_p1, c_ref14_plain_p1, hy2]
  rcases ifb h with ⟨hy3, h⟩ | ⟨hy3, h⟩
  · refine UG_go hy3 ?_
    try simp only [WW, ↓reduceIte, nA, nB, nC, nD, nE, nF, nG, reduceCtorEq, L_ref14_plain, hy3]
    rcases ifb h with ⟨hy4, h⟩ | ⟨hy4, h⟩
    · refine UG_go hy4 ?_
      try simp only [WW, ↓reduceIte, nA, nB, nC, nD, nE, nF, nG, reduceCtorEq, L_ref14_plain, hy4]
      rcases ifb h with ⟨hy5, h⟩ | ⟨hy5, h⟩
      · refine UG_go hy5 ?_
        obtain ⟨x4, hy6, h⟩ := bnd' h
        try simp only [WW, ↓reduceIte, nA, nB, nC, nD, nE, nF, nG, reduceCtorEq, L_ref14_plain, hy5, hy6]
        have hq := Option.some.inj h; subst hq
        refine hK _ _ _ _ _ ?_ (WxH.refl _) (kn )
        exact WE.cons (Wx.str) (WE.cons (Wx.int) (WE.cons (Wx.bool) (WE.nil)))
      · refine UG_nt hy5 ?_
        try simp only [WW, ↓reduceIte, nA, nB, nC, nD, nE, nF, nG, reduceCtorEq, L_ref14_plain, hy5]
        have hq := Option.some.inj h; subst hq
        refine hK _ _ _ _ _ ?_ (WxH.refl _) (kn )
        exact WE.cons (Wx.str) (WE.cons (Wx.int) (WE.cons (Wx.bool) (WE.nil)))
    · refine UG_nt hy4 ?_
      try simp only [WW, ↓reduceIte, nA, nB, nC, nD, nE, nF, nG, reduceCtorEq, L_ref14_plain, hy4]
      have hq := Option.some.inj h; subst hq
      refine hK _ _ _ _ _ ?_ (WxH.refl _) (kn )
      exact WE.cons (Wx.str) (WE.cons (Wx.int) (WE.cons (Wx.bool) (WE.nil)))
  · refine UG_nt hy3 ?_
    try simp only [WW, ↓reduceIte, nA, nB, nC, nD, nE, nF, nG, reduceCtorEq, L_ref14_plain, hy3]
    have hq := Option.some.inj h; subst hq
    refine hK _ _ _ _ _ ?_ (WxH.refl _) (kn )
    exact WE.cons (Wx.str) (WE.cons (Wx.int) (WE.cons (Wx.bool) (WE.nil)))
theorem ref14_plain_p2_ok {F : Nat} {dot6 : Bool} {s1 : List UInt8} {i2 : Int} {H : AH}  {K : Exit → Env → AH → Prop} {t9 : Bool}
    (h : ref14_plain_p2 F dot6 s1 i2 = some t9)
    (kn : K .normal [(0, (.str s1)), (3, (.int .i64 i2)), (41, (.bool t9))] H) :
    AX Tryd.prog L_ref14_plain 44 H.length c_ref14_plain_p2 K [(0, (.str s1)), (3, (.int .i64 i2)), (4, (.bool dot6))] H := by
  refine AX.go (m := m_ref14_plain_p2) rfl (by decide) fun K' hK => ?_
  rw [ref14_plain_p2.eq_1] at h
  try simp only [WW, ↓reduceIte, nA, nB, nC, nD, nE, nF, nG, reduceCtorEq, L_ref14_plain, m_ref14_plain_p2, c_ref14_plain_p2]
  rcases ifb h with ⟨hy8, h⟩ | ⟨hy8, h⟩
  · refine UG_go hy8 ?_
    obtain ⟨x7, hy9, h⟩ := bnd' h
    try simp only [WW, ↓reduceIte, nA, nB, nC, nD, nE, nF, nG, reduceCtorEq, L_ref14_plain, hy8, hy9]
    obtain ⟨r8, hy10, h⟩ := bnd' h
    refine UK_e (as' := [(b8 x7)]) (h := ref14_atext_ok (c1 := x7) (F := F)  hy10) (hw := WL.cons (Wx.b8) (WL.nil)) (hh := WxH.refl _) ?_
    try simp only [WW, ↓reduceIte, nA, nB, nC, nD, nE, nF, nG, reduceCtorEq, L_ref14_plain]
    have hq := Option.some.inj h; subst hq
    refine hK _ _ _ _ _ ?_ (WxH.refl _) (kn )
    exact WE.cons (Wx.str) (WE.cons (Wx.int) (WE.cons (Wx.bool) (WE.nil)))
  · refine UG_nt hy8 ?_
    try simp only [WW, ↓reduceIte, nA, nB, nC, nD, nE, nF, nG, reduceCtorEq, L_ref14_plain, hy8]
    have hq := Option.some.inj h; subst hq
    refine hK _ _ _ _ _ ?_ (WxH.refl _) (kn )
    exact WE.cons (Wx.str) (WE.cons (Wx.int) (WE.cons (Wx.bool) (WE.nil)))
theorem ref14_plain_l1_ok {F : Nat} {i2 : Int} {s1 : List UInt8} {H : AH}  {K : Exit → Env → AH → Prop} {o : (Bool) ⊕ (Unit)}
    (h : iter (ref14_plain_l1 F s1) F i2 = some o)
    (kb0 : ∀ o' : Unit, o = .inr o' → K (.exit 0) [(0, (.str s1))] H)
    (kr : ∀ o' : Bool, o = .inl o' → K .ret [(2, (.bool o'))] H) :
    AX Tryd.prog L_ref14_plain 44 H.length c_ref14_plain_l1 K [(0, (.str s1)), (3, (.int .i64 i2))] H := by
  refine AX.iter (m := m_ref14_plain_l1b) rfl (by decide) (fun s e H1 => match s with | i2 => e = [(0, (.str s1)), (3, (.int .i64 i2))] ∧ H1 = H) h ⟨rfl, rfl⟩ ?_
  rintro K' i2 st e H ⟨rfl, rfl⟩ h hN hB hR hX
  rw [ref14_plain_l1.eq_1] at h
  try simp only [WW, ↓reduceIte, nA, nB, nC, nD, nE, nF, nG, reduceCtorEq, L_ref14_plain, m_ref14_plain_l1b]
  rcases ifb h with ⟨hy1, h⟩ | ⟨hy1, h⟩
  · refine UC_t hy1 ?_
    try simp only [WW, ↓reduceIte, nA, nB, nC, nD, nE, nF, nG, reduceCtorEq, L_ref14_plain]
    obtain ⟨dot6, hy7, h⟩ := bnd' h
    refine UX_of (AX.weak ?_ (WxH.refl _) (ref14_plain_p1_ok  (s1 := s1) (i2 := i2) (dot5 := dot6)   hy7 ?_))
    · exact WE.cons (Wx.str) (WE.cons (Wx.int) (WE.nil))
    try simp only [WW, ↓reduceIte, nA, nB, nC, nD, nE, nF, nG, reduceCtorEq, L_ref14_plain]
    obtain ⟨t10, hy11, h⟩ := bnd' h
    refine UX_of (AX.weak ?_ (WxH.refl _) (ref14_plain_p2_ok (F := F) (dot6 := dot6) (s1 := s1) (i2 := i2) (t9 := t10)   hy11 ?_))
    · exact WE.cons (Wx.str) (WE.cons (Wx.int) (WE.cons (Wx.bool) (WE.nil)))
    try simp only [WW, ↓reduceIte, nA, nB, nC, nD, nE, nF, nG, reduceCtorEq, L_ref14_plain]
    rcases ifb h with ⟨hy12, h⟩ | ⟨hy12, h⟩
    · refine UC_t hy12 ?_
      try simp only [WW, ↓reduceIte, nA, nB, nC, nD, nE, nF, nG, reduceCtorEq, L_ref14_plain]
      have hq := Option.some.inj h; subst hq
      refine hX _ _ _ _ _ (by simp) ?_ (WxH.refl _) (kr _ (hR _ rfl) )
      exact WE.cons (Wx.bool) (WE.nil)
    · refine UC_f hy12 ?_
      try simp only [WW, ↓reduceIte, nA, nB, nC, nD, nE, nF, nG, reduceCtorEq, L_ref14_plain]
      have hq := Option.some.inj h; subst hq
      refine hN _ rfl _ _ _ _ ?_ (WxH.refl _) ⟨rfl, rfl⟩
      exact WE.cons (Wx.str) (WE.cons (Wx.int) (WE.nil))
  · refine UC_f hy1 ?_
    try simp only [WW, ↓reduceIte, nA, nB, nC, nD, nE, nF, nG, reduceCtorEq, L_ref14_plain]
    have hq := Option.some.inj h; subst hq
    refine hX _ _ _ _ _ (by simp) ?_ (WxH.refl _) (kb0 _ (hB _ rfl) )
    exact WE.cons (Wx.str) (WE.nil)
theorem ref14_plain_ok {F : Nat} {s1 : List UInt8}  {H0 : AH}  {rz0 : Bool} (h : ref14_plain F s1 = some rz0) :
    ACalls Tryd.prog 102 [(.str s1)] H0 fun v H' => v = (.bool rz0) ∧ H' = H0 := by
  refine ACalls.goX k_ref14_plain (m := m_ref14_plain) rfl L_ref14_plain (by decide) (by simp) fun hcl K0 hK0 => ?_
  refine AX.of_U (m := m_ref14_plain) rfl (by decide) ?_
  rw [ref14_plain.eq_1] at h
  try simp only [WW, ↓reduceIte, nA, nB, nC, nD, nE, nF, nG, reduceCtorEq, L_ref14_plain, m_ref14_plain, c_ref14_plain]
  obtain ⟨o13, hy13, h⟩ := bnd' h
  refine UX_of (AX.weak ?_ (WxH.refl _) (ref14_plain_l1_ok  (s1 := s1) (i2 := 0)   (o := o13) hy13 ?_ ?_))
  · exact WE.cons (Wx.str) (WE.cons (Wx.int) (WE.nil))
  · rintro ⟨⟩ rfl  
    try dsimp only at h 
    try simp only [WW, ↓reduceIte, nA, nB, nC, nD, nE, nF, nG, reduceCtorEq, L_ref14_plain]
    have hq := Option.some.inj h; subst hq
    refine hK0 _ _ _ (.inr rfl) ?_
    exact fn_endp hcl (resv_tmp (a := (.bool (!decide (s1 = ([] : List UInt8))))) rfl rfl resv_nil) (by first | (simp [fin, b_df, b_sh, b_sh1, b_Cl]; done) | (simp [fin, AV.df, AV.sh, AV.sh1, b_df, b_sh, b_sh1, b_Cl]; done)) (Wx.bool) (r' := (.bool (!decide (s1 = ([] : List UInt8))))) ⟨rfl, rfl⟩
  · rintro r12 rfl  
    try dsimp only at h 
    try simp only [WW, ↓reduceIte, nA, nB, nC, nD, nE, nF, nG, reduceCtorEq, L_ref14_plain]
    have hq := Option.some.inj h; subst hq
    refine hK0 _ _ _ (.inr rfl) ?_
    exact fn_endp hcl (resv_tmp (a := (.bool r12)) rfl rfl resv_nil) (by first | (simp [fin, b_df, b_sh, b_sh1, b_Cl]; done) | (simp [fin, AV.df, AV.sh, AV.sh1, b_df, b_sh, b_sh1, b_Cl]; done)) (Wx.bool) (r' := (.bool r12)) ⟨rfl, rfl⟩

/-! ### mailbag/mailbagref14.Local -/
def c_ref14_Local_p1 : ACode := (.rg [⟨(some 4), (.mv (.t 0)), none⟩, ⟨(some 5), (.bin .eql (.t 4) (.c (.str []))), none⟩, ⟨(some 6), (.mv (.t 5)), none⟩, ⟨(some 7), (.mv (.t 0)), (some (6, false))⟩, ⟨(some 8), (.lens (.t 7)), (some (6, false))⟩, ⟨(some 9), (.bin .gtr (.t 8) (.c (.int .i64 64))), (some (6, false))⟩, ⟨(some 10), (.pick (.t 6) (.c (.bool true)) (.t 9)), none⟩])
abbrev m_ref14_Local_p1 := c_ref14_Local_p1
def c_ref14_Local_p2 : ACode := (.rg [⟨(some 17), (.mv (.t 0)), none⟩, ⟨(some 18), (.mv (.t 3)), none⟩, ⟨(some 19), (.ixs (.t 17) (.t 18)), none⟩, ⟨(some 20), (.bin .lss (.t 19) (.c (b8 32))), none⟩, ⟨(some 21), (.mv (.t 20)), none⟩, ⟨(some 22), (.mv (.t 0)), (some (21, false))⟩, ⟨(some 23), (.mv (.t 3)), (some (21, false))⟩, ⟨(some 24), (.ixs (.t 22) (.t 23)), (some (21, false))⟩, ⟨(some 25), (.bin .gtr (.t 24) (.c (b8 126))), (some (21, false))⟩, ⟨(some 26), (.pick (.t 21) (.c (.bool true)) (.t 25)), none⟩])
abbrev m_ref14_Local_p2 := c_ref14_Local_p2
def c_ref14_Local_l1b : ACode := (.seq (.seq (.rg [⟨(some 11), (.mv (.t 3)), none⟩, ⟨(some 12), (.mv (.t 0)), none⟩, ⟨(some 13), (.lens (.t 12)), none⟩, ⟨(some 14), (.bin .lss (.t 11) (.t 13)), none⟩]) (.cond (.t 14) .skip (.exit 0))) (.seq (.blk 1 (.seq c_ref14_Local_p2 (.cond (.t 26) (.seq (.rg [⟨(some 2), (.asg (.c (.bool false))), none⟩]) .ret) .skip))) (.rg [⟨(some 15), (.mv (.t 3)), none⟩, ⟨(some 16), (.bin .add (.t 15) (.c (.int .i64 1))), none⟩, ⟨(some 3), (.asg (.t 16)), none⟩])))
def c_ref14_Local_l1 : ACode := (.loop c_ref14_Local_l1b)
def m_ref14_Local_l1b : ACode := (.seq (.seq (.rg [⟨(some 11), (.mv (.t 3)), none⟩, ⟨(some 12), (.mv (.t 0)), none⟩, ⟨(some 13), (.lens (.t 12)), none⟩, ⟨(some 14), (.bin .lss (.t 11) (.t 13)), none⟩]) (.cond (.t 14) .skip (.exit 0))) (.seq (.blk 1 (.seq (.sem c_ref14_Local_p2) (.cond (.t 26) (.seq (.rg [⟨(some 2), (.asg (.c (.bool false))), none⟩]) .ret) .skip))) (.rg [⟨(some 15), (.mv (.t 3)), none⟩, ⟨(some 16), (.bin .add (.t 15) (.c (.int .i64 1))), none⟩, ⟨(some 3), (.asg (.t 16)), none⟩])))
def c_ref14_Local : ACode := (.seq (.rg [⟨(some 2), (.asg (.c (.bool false))), none⟩]) (.seq (.seq c_ref14_Local_p1 (.cond (.t 10) (.seq (.rg [⟨(some 2), (.asg (.c (.bool false))), none⟩]) .ret) .skip)) (.seq (.seq (.rg [⟨(some 3), (.asg (.c (.int .i64 0))), none⟩]) (.blk 0 c_ref14_Local_l1)) (.seq (.rg [⟨(some 2), (.asg (.c (.bool true))), none⟩]) .ret))))
def m_ref14_Local : ACode := (.seq (.rg [⟨(some 2), (.asg (.c (.bool false))), none⟩]) (.seq (.seq (.sem c_ref14_Local_p1) (.cond (.t 10) (.seq (.rg [⟨(some 2), (.asg (.c (.bool false))), none⟩]) .ret) .skip)) (.seq (.seq (.rg [⟨(some 3), (.asg (.c (.int .i64 0))), none⟩]) (.blk 0 c_ref14_Local_l1)) (.seq (.rg [⟨(some 2), (.asg (.c (.bool true))), none⟩]) .ret))))
theorem k_ref14_Local : FnOk Tryd.prog 40 27 [(.tmp 2)] c_ref14_Local := ⟨Tryd.f40, _, rfl, by decide, rfl, by kernel_rfl, rfl, rfl⟩
abbrev L_ref14_Local : List Nat := [0, 2, 3, 10, 14, 26]
def ref14_Local_p2 (s1 : List UInt8) (i2 : Int) : Option (Bool) :=
  (idx s1 i2).bind fun x3 =>
  (if (decide (x3 < 32)) then
    some true
  else
    some (decide (126 < x3)))
def ref14_Local_l1 (s1 : List UInt8) : Int → Option (St Bool Unit Int)
  | i2 =>
    (if (decide (i2 < (s1.length : Int))) then
      (ref14_Local_p2 s1 i2).bind fun t5 =>
      (if t5 then
        some (.ret false)
      else
        some (.nxt (IntKind.wrap .i64 (i2 + 1))))
    else
      some (.brk ()))
def ref14_Local (F : Nat) (s1 : List UInt8) : Option (Bool) :=
  (if ((decide (s1 = ([] : List UInt8))) || (decide (64 < (s1.length : Int)))) then
    some false
  else
    ((iter (ref14_Local_l1 s1) F 0).bind fun o8 =>
    match o8 with
    | .inr () =>
      some true
    | .inl r7 =>
      some r7))
theorem ref14_Local_p1_ok {s1 : List UInt8} {H : AH}  {K : Exit → Env → AH → Prop}
    (kn : K .normal [(0, (.str s1)), (10, (.bool ((decide (s1 = ([] : List UInt8))) || (decide (64 < (s1.length : Int))))))] H) :
    AX Tryd.prog L_ref14_Local 27 H.length c_ref14_Local_p1 K [(0, (.str s1))] H := by
  refine AX.go (m := m_ref14_Local_p1) rfl (by decide) fun K' hK => ?_
  try simp only [WW, ↓reduceIte, nA, nB, nC, nD, nE, nF, nG, reduceCtorEq, L_ref14_Local, m_ref14_Local_p1, c_ref14_Local_p1]
  rcases bcases ((decide (s1 = ([] : List UInt8)))) with hy1 | hy1
  · refine UG_nf hy1 ?_
    try simp only [WW, ↓reduceIte, nA, nB, nC, nD, nE, nF, nG, reduceCtorEq, L_ref14_Local, hy1]
    refine hK _ _ _ _ _ ?_ (WxH.refl _) (kn )
    exact WE.cons (Wx.str) (WE.cons (Wx.boolE (by simp only [hy1, WB])) (WE.nil))
  · refine UG_go hy1 ?_
    try simp only [WW, ↓reduceIte, nA, nB, nC, nD, nE, nF, nG, reduceCtorEq, L_ref14_Local, hy1]
    refine hK _ _ _ _ _ ?_ (WxH.refl _) (kn )
    exact WE.cons (Wx.str) (WE.cons (Wx.boolE (by simp only [hy1, WB])) (WE.nil))
theorem ref14_Local_p2_ok {s1 : List UInt8} {i2 : Int} {H : AH}  {K : Exit → Env → AH → Prop} {t4 : Bool}
    (h : ref14_Local_p2 s1 i2 = some t4)
    (kn : K .normal [(0, (.str s1)), (3, (.int .i64 i2)), (26, (.bool t4))] H) :
    AX Tryd.prog L_ref14_Local 27 H.length c_ref14_Local_p2 K [(0, (.str s1)), (3, (.int .i64 i2))] H := by
  refine AX.go (m := m_ref14_Local_p2) rfl (by decide) fun K' hK => ?_
  rw [ref14_Local_p2.eq_1] at h
  obtain ⟨x3, hy4, h⟩ := bnd' h
  try simp only [WW, ↓reduceIte, nA, nB, nC, nD, nE, nF, nG, reduceCtorEq, L_ref14_Local, m_ref14_Local_p2, c_ref14_Local_p2, hy4]
  rcases ifb h with ⟨hy5, h⟩ | ⟨hy5, h⟩
  · refine UG_nf hy5 ?_
    try simp only [WW, ↓reduceIte, nA, nB, nC, nD, nE, nF, nG, reduceCtorEq, L_ref14_Local, hy5]
    have hq := Option.some.inj h; subst hq
    refine hK _ _ _ _ _ ?_ (WxH.refl _) (kn )
    exact WE.cons (Wx.str) (WE.cons (Wx.int) (WE.cons (Wx.bool) (WE.nil)))
  · refine UG_go hy5 ?_
    try simp only [WW, ↓reduceIte, nA, nB, nC, nD, nE, nF, nG, reduceCtorEq, L_ref14_Local, hy5, hy4]
    have hq := Option.some.inj h; subst hq
    refine hK _ _ _ _ _ ?_ (WxH.refl _) (kn )
    exact WE.cons (Wx.str) (WE.cons (Wx.int) (WE.cons (Wx.bool) (WE.nil)))
theorem ref14_Local_l1_ok {F : Nat} {i2 : Int} {s1 : List UInt8} {H : AH}  {K : Exit → Env → AH → Prop} {o : (Bool) ⊕ (Unit)}
    (h : iter (ref14_Local_l1 s1) F i2 = some o)
    (kb0 : ∀ o' : Unit, o = .inr o' → K (.exit 0) [] H)
    (kr : ∀ o' : Bool, o = .inl o' → K .ret [(2, (.bool o'))] H) :
    AX Tryd.prog L_ref14_Local 27 H.length c_ref14_Local_l1 K [(0, (.str s1)), (3, (.int .i64 i2))] H := by
  refine AX.iter (m := m_ref14_Local_l1b) rfl (by decide) (fun s e H1 => match s with | i2 => e = [(0, (.str s1)), (3, (.int .i64 i2))] ∧ H1 = H) h ⟨rfl, rfl⟩ ?_
  rintro K' i2 st e H ⟨rfl, rfl⟩ h hN hB hR hX
  rw [ref14_Local_l1.eq_1] at h
  try simp only [WW, ↓reduceIte, nA, nB, nC, nD, nE, nF, nG, reduceCtorEq, L_ref14_Local, m_ref14_Local_l1b]
  rcases ifb h with ⟨hy3, h⟩ | ⟨hy3, h⟩
  · refine UC_t hy3 ?_
    try simp only [WW, ↓reduceIte, nA, nB, nC, nD, nE, nF, nG, reduceCtorEq, L_ref14_Local]
    obtain ⟨t5, hy6, h⟩ := bnd' h
    refine UX_of (AX.weak ?_ (WxH.refl _) (ref14_Local_p2_ok  (s1 := s1) (i2 := i2) (t4 := t5)   hy6 ?_))
    · exact WE.cons (Wx.str) (WE.cons (Wx.int) (WE.nil))
    try simp only [WW, ↓reduceIte, nA, nB, nC, nD, nE, nF, nG, reduceCtorEq, L_ref14_Local]
    rcases ifb h with ⟨hy7, h⟩ | ⟨hy7, h⟩
    · refine UC_t hy7 ?_
      try simp only [WW, ↓reduceIte, nA, nB, nC, nD, nE, nF, nG, reduceCtorEq, L_ref14_Local]
      have hq := Option.some.inj h; subst hq
      refine hX _ _ _ _ _ (by simp) ?_ (WxH.refl _) (kr _ (hR _ rfl) )
      exact WE.cons (Wx.bool) (WE.nil)
    · refine UC_f hy7 ?_
      try simp only [WW, ↓reduceIte, nA, nB, nC, nD, nE, nF, nG, reduceCtorEq, L_ref14_Local]
      have hq := Option.some.inj h; subst hq
      refine hN _ rfl _ _ _ _ ?_ (WxH.refl _) ⟨rfl, rfl⟩
      exact WE.cons (Wx.str) (WE.cons (Wx.int) (WE.nil))
  · refine UC_f hy3 ?_
    try simp only [WW, ↓reduceIte, nA, nB, nC, nD, nE, nF, nG, reduceCtorEq, L_ref14_Local]
    have hq := Option.some.inj h; subst hq
    refine hX _ _ _ _ _ (by simp) ?_ (WxH.refl _) (kb0 _ (hB _ rfl) )
    exact WE.nil
theorem ref14_Local_ok {F : Nat} {s1 : List UInt8}  {H0 : AH}  {rz0 : Bool} (h : ref14_Local F s1 = some rz0) :
    ACalls Tryd.prog 40 [(.str s1)] H0 fun v H' => v = (.bool rz0) ∧ H' = H0 := by
  refine ACalls.goX k_ref14_Local (m := m_ref14_Local) rfl L_ref14_Local (by decide) (by simp) fun hcl K0 hK0 => ?_
  refine AX.of_U (m := m_ref14_Local) rfl (by decide) ?_
  rw [ref14_Local.eq_1] at h
  try simp only [WW, ↓reduceIte, nA, nB, nC, nD, nE, nF, nG, reduceCtorEq, L_ref14_Local, m_ref14_Local]
  refine UX_of (AX.weak ?_ (WxH.refl _) (ref14_Local_p1_ok (s1 := s1)  ?_))
  · exact WE.cons (Wx.str) (WE.nil)
  try simp only [WW, ↓reduceIte, nA, nB, nC, nD, nE, nF, nG, reduceCtorEq, L_ref14_Local]
  rcases ifb h with ⟨hy2, h⟩ | ⟨hy2, h⟩
  · refine UC_t hy2 ?_
    try simp only [WW, ↓reduceIte, nA, nB, nC, nD, nE, nF, nG, reduceCtorEq, L_ref14_Local]
    have hq := Option.some.inj h; subst hq
    refine hK0 _ _ _ (.inr rfl) ?_
    exact fn_endp hcl (resv_tmp (a := (.bool false)) rfl rfl resv_nil) (by first | (simp [fin, b_df, b_sh, b_sh1, b_Cl]; done) | (simp [fin, AV.df, AV.sh, AV.sh1, b_df, b_sh, b_sh1, b_Cl]; done)) (Wx.bool) (r' := (.bool false)) ⟨rfl, rfl⟩
  · refine UC_f hy2 ?_
    try simp only [WW, ↓reduceIte, nA, nB, nC, nD, nE, nF, nG, reduceCtorEq, L_ref14_Local]
    obtain ⟨o8, hy8, h⟩ := bnd' h
    refine UX_of (AX.weak ?_ (WxH.refl _) (ref14_Local_l1_ok  (s1 := s1) (i2 := 0)   (o := o8) hy8 ?_ ?_))
    · exact WE.cons (Wx.str) (WE.cons (Wx.int) (WE.nil))
    · rintro ⟨⟩ rfl  
      try dsimp only at h 
      try simp only [WW, ↓reduceIte, nA, nB, nC, nD, nE, nF, nG, reduceCtorEq, L_ref14_Local]
      have hq := Option.some.inj h; subst hq
      refine hK0 _ _ _ (.inr rfl) ?_
      exact fn_endp hcl (resv_tmp (a := (.bool true)) rfl rfl resv_nil) (by first | (simp [fin, b_df, b_sh, b_sh1, b_Cl]; done) | (simp [fin, AV.df, AV.sh, AV.sh1, b_df, b_sh, b_sh1, b_Cl]; done)) (Wx.bool) (r' := (.bool true)) ⟨rfl, rfl⟩
    · rintro r7 rfl  
      try dsimp only at h 
      try simp only [WW, ↓reduceIte, nA, nB, nC, nD, nE, nF, nG, reduceCtorEq, L_ref14_Local]
      have hq := Option.some.inj h; subst hq
      refine hK0 _ _ _ (.inr rfl) ?_
      exact fn_endp hcl (resv_tmp (a := (.bool r7)) rfl rfl resv_nil) (by first | (simp [fin, b_df, b_sh, b_sh1, b_Cl]; done) | (simp [fin, AV.df, AV.sh, AV.sh1, b_df, b_sh, b_sh1, b_Cl]; done)) (Wx.bool) (r' := (.bool r7)) ⟨rfl, rfl⟩

/-! ### mailbag/mailbagref14.text -/
def c_ref14_text_p1 : ACode := (.rg [⟨(some 5), (.fld (.t 1) 0), none⟩, ⟨(some 6), (.ld (.t 5) none), none⟩, ⟨(some 7), (.bin .eql (.t 6) (.c (.str []))), none⟩, ⟨(some 8), (.mv (.t 7)), none⟩, ⟨(some 9), (.fld (.t 1) 1), (some (8, true))⟩, ⟨(some 10), (.ld (.t 9) none), (some (8, true))⟩, ⟨(some 11), (.bin .eql (.t 10) (.c (.str []))), (some (8, true))⟩, ⟨(some 12), (.pick (.t 8) (.t 11) (.c (.bool false))), none⟩])
abbrev m_ref14_text_p1 := c_ref14_text_p1
def c_ref14_text_p2 : ACode := (.rg [⟨(some 32), (.fld (.t 1) 0), none⟩, ⟨(some 33), (.ld (.t 32) none), none⟩, ⟨(some 34), (.mv (.t 4)), none⟩, ⟨(some 35), (.ixs (.t 33) (.t 34)), none⟩, ⟨(some 36), (.bin .eql (.t 35) (.c (b8 34))), none⟩, ⟨(some 37), (.mv (.t 36)), none⟩, ⟨(some 38), (.fld (.t 1) 0), (some (37, false))⟩, ⟨(some 39), (.ld (.t 38) none), (some (37, false))⟩, ⟨(some 40), (.mv (.t 4)), (some (37, false))⟩, ⟨(some 41), (.ixs (.t 39) (.t 40)), (some (37, false))⟩, ⟨(some 42), (.bin .eql (.t 41) (.c (b8 92))), (some (37, false))⟩, ⟨(some 43), (.pick (.t 37) (.c (.bool true)) (.t 42)), none⟩])
abbrev m_ref14_text_p2 := c_ref14_text_p2
def c_ref14_text_l1b : ACode := (.seq (.seq (.rg [⟨(some 25), (.mv (.t 4)), none⟩, ⟨(some 26), (.fld (.t 1) 0), none⟩, ⟨(some 27), (.ld (.t 26) none), none⟩, ⟨(some 28), (.lens (.t 27)), none⟩, ⟨(some 29), (.bin .lss (.t 25) (.t 28)), none⟩]) (.cond (.t 29) .skip (.exit 0))) (.seq (.blk 1 (.seq (.seq c_ref14_text_p2 (.cond (.t 43) (.rg [⟨(some 44), (.mv (.t 3)), none⟩, ⟨(some 45), (.bsl 1 [(.c (b8 92))]), none⟩, ⟨(some 46), (.app 1 1 (.t 44) (.t 45)), none⟩, ⟨(some 3), (.asg (.t 46)), none⟩]) .skip)) (.rg [⟨(some 47), (.mv (.t 3)), none⟩, ⟨(some 48), (.fld (.t 1) 0), none⟩, ⟨(some 49), (.ld (.t 48) none), none⟩, ⟨(some 50), (.mv (.t 4)), none⟩, ⟨(some 51), (.ixs (.t 49) (.t 50)), none⟩, ⟨(some 52), (.bsl 1 [(.t 51)]), none⟩, ⟨(some 53), (.app 1 1 (.t 47) (.t 52)), none⟩, ⟨(some 3), (.asg (.t 53)), none⟩]))) (.rg [⟨(some 30), (.mv (.t 4)), none⟩, ⟨(some 31), (.bin .add (.t 30) (.c (.int .i64 1))), none⟩, ⟨(some 4), (.asg (.t 31)), none⟩])))
def c_ref14_text_l1 : ACode := (.loop c_ref14_text_l1b)
def m_ref14_text_l1b : ACode := (.seq (.seq (.rg [⟨(some 25), (.mv (.t 4)), none⟩, ⟨(some 26), (.fld (.t 1) 0), none⟩, ⟨(some 27), (.ld (.t 26) none), none⟩, ⟨(some 28), (.lens (.t 27)), none⟩, ⟨(some 29), (.bin .lss (.t 25) (.t 28)), none⟩]) (.cond (.t 29) .skip (.exit 0))) (.seq (.blk 1 (.seq (.seq (.sem c_ref14_text_p2) (.cond (.t 43) (.rg [⟨(some 44), (.mv (.t 3)), none⟩, ⟨(some 45), (.bsl 1 [(.c (b8 92))]), none⟩, ⟨(some 46), (.app 1 1 (.t 44) (.t 45)), none⟩, ⟨(some 3), (.asg (.t 46)), none⟩]) .skip)) (.rg [⟨(some 47), (.mv (.t 3)), none⟩, ⟨(some 48), (.fld (.t 1) 0), none⟩, ⟨(some 49), (.ld (.t 48) none), none⟩, ⟨(some 50), (.mv (.t 4)), none⟩, ⟨(some 51), (.ixs (.t 49) (.t 50)), none⟩, ⟨(some 52), (.bsl 1 [(.t 51)]), none⟩, ⟨(some 53), (.app 1 1 (.t 47) (.t 52)), none⟩, ⟨(some 3), (.asg (.t 53)), none⟩]))) (.rg [⟨(some 30), (.mv (.t 4)), none⟩, ⟨(some 31), (.bin .add (.t 30) (.c (.int .i64 1))), none⟩, ⟨(some 4), (.asg (.t 31)), none⟩])))
def c_ref14_text : ACode := (.seq (.rg [⟨(some 1), (.box (.t 0)), none⟩, ⟨(some 2), (.asg (.c (.str []))), none⟩]) (.seq (.seq c_ref14_text_p1 (.cond (.t 12) (.seq (.rg [⟨(some 2), (.asg (.c (.str [60, 62]))), none⟩]) .ret) .skip)) (.seq (.seq (.rg [⟨(some 13), (.fld (.t 1) 0), none⟩, ⟨(some 14), (.ld (.t 13) none), none⟩, ⟨(some 15), (.call (.c (.fn 102 [])) [(.t 14)]), none⟩]) (.cond (.t 15) (.seq (.rg [⟨(some 16), (.fld (.t 1) 0), none⟩, ⟨(some 17), (.ld (.t 16) none), none⟩, ⟨(some 18), (.bin .add (.c (.str [60])) (.t 17)), none⟩, ⟨(some 19), (.bin .add (.t 18) (.c (.str [64]))), none⟩, ⟨(some 20), (.fld (.t 1) 1), none⟩, ⟨(some 21), (.ld (.t 20) none), none⟩, ⟨(some 22), (.bin .add (.t 19) (.t 21)), none⟩, ⟨(some 23), (.bin .add (.t 22) (.c (.str [62]))), none⟩, ⟨(some 2), (.asg (.t 23)), none⟩]) .ret) .skip)) (.seq (.rg [⟨(some 24), (.bsl 1 [(.c (b8 60)), (.c (b8 34))]), none⟩, ⟨(some 3), (.asg (.t 24)), none⟩]) (.seq (.seq (.rg [⟨(some 4), (.asg (.c (.int .i64 0))), none⟩]) (.blk 0 c_ref14_text_l1)) (.seq (.rg [⟨(some 54), (.mv (.t 3)), none⟩, ⟨(some 59), (.fld (.t 1) 1), none⟩, ⟨(some 60), (.ld (.t 59) none), none⟩, ⟨(some 55), (.bsl 1 [(.c (b8 34))]), none⟩, ⟨(some 56), (.app 1 1 (.t 54) (.t 55)), none⟩, ⟨(some 57), (.cvt .bs (.t 56)), none⟩, ⟨(some 58), (.bin .add (.t 57) (.c (.str [64]))), none⟩, ⟨(some 61), (.bin .add (.t 58) (.t 60)), none⟩, ⟨(some 62), (.bin .add (.t 61) (.c (.str [62]))), none⟩, ⟨(some 2), (.asg (.t 62)), none⟩]) .ret))))))
def m_ref14_text : ACode := (.seq (.rg [⟨(some 1), (.box (.t 0)), none⟩, ⟨(some 2), (.asg (.c (.str []))), none⟩]) (.seq (.seq (.sem c_ref14_text_p1) (.cond (.t 12) (.seq (.rg [⟨(some 2), (.asg (.c (.str [60, 62]))), none⟩]) .ret) .skip)) (.seq (.seq (.rg [⟨(some 13), (.fld (.t 1) 0), none⟩, ⟨(some 14), (.ld (.t 13) none), none⟩, ⟨(some 15), (.call (.c (.fn 102 [])) [(.t 14)]), none⟩]) (.cond (.t 15) (.seq (.rg [⟨(some 16), (.fld (.t 1) 0), none⟩, ⟨(some 17), (.ld (.t 16) none), none⟩, ⟨(some 18), (.bin .add (.c (.str [60])) (.t 17)), none⟩, ⟨(some 19), (.bin .add (.t 18) (.c (.str [64]))), none⟩, ⟨(some 20), (.fld (.t 1) 1), none⟩, ⟨(some 21), (.ld (.t 20) none), none⟩, ⟨(some 22), (.bin .add (.t 19) (.t 21)), none⟩, ⟨(some 23), (.bin .add (.t 22) (.c (.str [62]))), none⟩, ⟨(some 2), (.asg (.t 23)), none⟩]) .ret) .skip)) (.seq (.rg [⟨(some 24), (.bsl 1 [(.c (b8 60)), (.c (b8 34))]), none⟩, ⟨(some 3), (.asg (.t 24)), none⟩]) (.seq (.seq (.rg [⟨(some 4), (.asg (.c (.int .i64 0))), none⟩]) (.blk 0 c_ref14_text_l1)) (.seq (.rg [⟨(some 54), (.mv (.t 3)), none⟩, ⟨(some 59), (.fld (.t 1) 1), none⟩, ⟨(some 60), (.ld (.t 59) none), none⟩, ⟨(some 55), (.bsl 1 [(.c (b8 34))]), none⟩, ⟨(some 56), (.app 1 1 (.t 54) (.t 55)), none⟩, ⟨(some 57), (.cvt .bs (.t 56)), none⟩, ⟨(some 58), (.bin .add (.t 57) (.c (.str [64]))), none⟩, ⟨(some 61), (.bin .add (.t 58) (.t 60)), none⟩, ⟨(some 62), (.bin .add (.t 61) (.c (.str [62]))), none⟩, ⟨(some 2), (.asg (.t 62)), none⟩]) .ret))))))
theorem k_ref14_text : FnOk Tryd.prog 84 63 [(.tmp 2)] c_ref14_text := ⟨Tryd.f84, _, rfl, by decide, rfl, by kernel_rfl, rfl, rfl⟩
abbrev L_ref14_text : List Nat := [0, 1, 2, 3, 4, 12, 15, 29, 43]
def ref14_text_p2 (a1 : AddressV) (i10 : Int) : Option (Bool) :=
  (idx a1.local0 i10).bind fun x12 =>
  (if (decide (x12 = 34)) then
    some true
  else
    some (decide (x12 = 92)))
def ref14_text_l1 (a1 : AddressV) : ((List UInt8) × Int) → Option (St (List UInt8) (List UInt8) ((List UInt8) × Int))
  | (b9, i10) =>
    (if (decide (i10 < (a1.local0.length : Int))) then
      (ref14_text_p2 a1 i10).bind fun t14 =>
      (if t14 then
        (capp 1 b9 ([92] : List UInt8)).bind fun x15 =>
        (idx a1.local0 i10).bind fun x16 =>
        (capp 1 x15 ([x16] : List UInt8)).bind fun x17 => some (.nxt (x17, (IntKind.wrap .i64 (i10 + 1))))
      else
        (idx a1.local0 i10).bind fun x18 =>
        (capp 1 b9 ([x18] : List UInt8)).bind fun x19 => some (.nxt (x19, (IntKind.wrap .i64 (i10 + 1)))))
    else
      some (.brk b9))
def ref14_text (F : Nat) (a1 : AddressV) : Option ((List UInt8)) :=
  (if ((decide (a1.local0 = ([] : List UInt8))) && (decide (a1.domain = ([] : List UInt8)))) then
    some ([60, 62] : List UInt8)
  else
    (ref14_plain F a1.local0).bind fun r3 =>
    (if r3 then
      (cat ([60] : List UInt8) a1.local0).bind fun x4 =>
      (cat x4 ([64] : List UInt8)).bind fun x5 =>
      (cat x5 a1.domain).bind fun x6 => (cat x6 ([62] : List UInt8)).bind fun x7 => some x7
    else
      ((iter (ref14_text_l1 a1) F (([60, 34] : List UInt8), 0)).bind fun o26 =>
      match o26 with
      | .inr b21 =>
        (capp 1 b21 ([34] : List UInt8)).bind fun x22 =>
        (cat x22 ([64] : List UInt8)).bind fun x23 =>
        (cat x23 a1.domain).bind fun x24 => (cat x24 ([62] : List UInt8)).bind fun x25 => some x25
      | .inl _ => none)))
theorem ref14_text_p1_ok {q2 : Nat} {a1 : AddressV} {H0 H : AH} (hfr : Fr H0 H0.length [] H) (hs_o1 : H[q2]? = some [(.str a1.local0), (.str a1.domain)]) (hi0 : H0.length ≤ q2) {K : Exit → Env → AH → Prop}
    (kn : ∀ H' : AH, Fr H0 H0.length [] H' → H'[q2]? = some [(.str a1.local0), (.str a1.domain)] → K .normal [(1, (.ptr q2 0)), (12, (.bool ((decide (a1.local0 = ([] : List UInt8))) && (decide (a1.domain = ([] : List UInt8))))))] H') :
    AX Tryd.prog L_ref14_text 63 H0.length c_ref14_text_p1 K [(1, (.ptr q2 0))] H := by
  refine AX.go (m := m_ref14_text_p1) rfl (by decide) fun K' hK => ?_
  have hle := hfr.le
  have hl_o1 := h_lt hs_o1
  try simp (disch := first | assumption | omega | (simp only [h_sl, h_al] <;> omega) | fail) only [WW, WH, ↓reduceIte, nA, nB, nC, nD, nE, nF, nG, reduceCtorEq, L_ref14_text, m_ref14_text_p1, c_ref14_text_p1, hs_o1]
  rcases bcases ((decide (a1.local0 = ([] : List UInt8)))) with hy1 | hy1
  · refine UG_go hy1 ?_
    try simp (disch := first | assumption | omega | (simp only [h_sl, h_al] <;> omega) | fail) only [WW, WH, ↓reduceIte, nA, nB, nC, nD, nE, nF, nG, reduceCtorEq, L_ref14_text, hy1, hs_o1]
    refine hK _ _ _ _ _ ?_ (WxH.refl _) (kn _ hfr ((hs_o1).trans rfl))
    exact WE.cons (Wx.ptr) (WE.cons (Wx.boolE (by simp only [hy1, WB])) (WE.nil))
  · refine UG_nt hy1 ?_
    try simp (disch := first | assumption | omega | (simp only [h_sl, h_al] <;> omega) | fail) only [WW, WH, ↓reduceIte, nA, nB, nC, nD, nE, nF, nG, reduceCtorEq, L_ref14_text, hy1, hs_o1]
    refine hK _ _ _ _ _ ?_ (WxH.refl _) (kn _ hfr ((hs_o1).trans rfl))
    exact WE.cons (Wx.ptr) (WE.cons (Wx.boolE (by simp only [hy1, WB])) (WE.nil))
theorem ref14_text_p2_ok {a1 : AddressV} {i10 : Int} {q11 : Nat} {b9 : List UInt8} {H0 H : AH} (hfr : Fr H0 H0.length [] H) (hs_o1 : H[q11]? = some [(.str a1.local0), (.str a1.domain)]) (hi0 : H0.length ≤ q11) {K : Exit → Env → AH → Prop} {t13 : Bool}
    (h : ref14_text_p2 a1 i10 = some t13)
    (kn : ∀ H' : AH, Fr H0 H0.length [] H' → H'[q11]? = some [(.str a1.local0), (.str a1.domain)] → K .normal [(1, (.ptr q11 0)), (3, (.sl .own 1 (ml b8 b9))), (4, (.int .i64 i10)), (43, (.bool t13))] H') :
    AX Tryd.prog L_ref14_text 63 H0.length c_ref14_text_p2 K [(1, (.ptr q11 0)), (3, (.sl .own 1 (ml b8 b9))), (4, (.int .i64 i10))] H := by
  refine AX.go (m := m_ref14_text_p2) rfl (by decide) fun K' hK => ?_
  have hle := hfr.le
  have hl_o1 := h_lt hs_o1
  rw [ref14_text_p2.eq_1] at h
  obtain ⟨x12, hy10, h⟩ := bnd' h
  try simp (disch := first | assumption | omega | (simp only [h_sl, h_al] <;> omega) | fail) only [WW, WH, ↓reduceIte, nA, nB, nC, nD, nE, nF, nG, reduceCtorEq, L_ref14_text, m_ref14_text_p2, c_ref14_text_p2, hy10, hs_o1]
  rcases ifb h with ⟨hy11, h⟩ | ⟨hy11, h⟩
  · refine UG_nf hy11 ?_
    try simp (disch := first | assumption | omega | (simp only [h_sl, h_al] <;> omega) | fail) only [WW, WH, ↓reduceIte, nA, nB, nC, nD, nE, nF, nG, reduceCtorEq, L_ref14_text, hy11, hs_o1]
    have hq := Option.some.inj h; subst hq
    refine hK _ _ _ _ _ ?_ (WxH.refl _) (kn _ hfr ((hs_o1).trans rfl))
    exact WE.cons (Wx.ptr) (WE.cons (Wx.oo) (WE.cons (Wx.int) (WE.cons (Wx.bool) (WE.nil))))
  · refine UG_go hy11 ?_
    try simp (disch := first | assumption | omega | (simp only [h_sl, h_al] <;> omega) | fail) only [WW, WH, ↓reduceIte, nA, nB, nC, nD, nE, nF, nG, reduceCtorEq, L_ref14_text, hy11, hy10, hs_o1]
    have hq := Option.some.inj h; subst hq
    refine hK _ _ _ _ _ ?_ (WxH.refl _) (kn _ hfr ((hs_o1).trans rfl))
    exact WE.cons (Wx.ptr) (WE.cons (Wx.oo) (WE.cons (Wx.int) (WE.cons (Wx.bool) (WE.nil))))
theorem ref14_text_l1_ok {F : Nat} {i10 : Int} {a1 : AddressV} {b9 : List UInt8} {q8 : Nat} {H0 H : AH} (hfr : Fr H0 H0.length [] H) (hs_o1 : H[q8]? = some [(.str a1.local0), (.str a1.domain)]) (hi0 : H0.length ≤ q8) {K : Exit → Env → AH → Prop} {o : ((List UInt8)) ⊕ ((List UInt8))}
    (h : iter (ref14_text_l1 a1) F (b9, i10) = some o)
    (kb0 : ∀ o' : (List UInt8), o = .inr o' → ∀ H' : AH, Fr H0 H0.length [] H' → H'[q8]? = some [(.str a1.local0), (.str a1.domain)] → K (.exit 0) [(1, (.ptr q8 0)), (3, (.sl .own 1 (ml b8 o')))] H') :
    AX Tryd.prog L_ref14_text 63 H0.length c_ref14_text_l1 K [(1, (.ptr q8 0)), (3, (.sl .own 1 (ml b8 b9))), (4, (.int .i64 i10))] H := by
  refine AX.iter (m := m_ref14_text_l1b) rfl (by decide) (fun s e H1 => match s with | (b9, i10) => e = [(1, (.ptr q8 0)), (3, (.sl .own 1 (ml b8 b9))), (4, (.int .i64 i10))] ∧ Fr H0 H0.length [] H1 ∧ H1[q8]? = some [(.str a1.local0), (.str a1.domain)]) h ⟨rfl, hfr, hs_o1⟩ ?_
  skip
  rintro K' ⟨b9, i10⟩ st e H ⟨rfl, hfr, hs_o1⟩ h hN hB hR hX
  have hle := hfr.le
  have hl_o1 := h_lt hs_o1
  rw [ref14_text_l1.eq_1] at h
  try simp (disch := first | assumption | omega | (simp only [h_sl, h_al] <;> omega) | fail) only [WW, WH, ↓reduceIte, nA, nB, nC, nD, nE, nF, nG, reduceCtorEq, L_ref14_text, m_ref14_text_l1b, hs_o1]
  rcases ifb h with ⟨hy9, h⟩ | ⟨hy9, h⟩
  · refine UC_t hy9 ?_
    try simp (disch := first | assumption | omega | (simp only [h_sl, h_al] <;> omega) | fail) only [WW, WH, ↓reduceIte, nA, nB, nC, nD, nE, nF, nG, reduceCtorEq, L_ref14_text, hs_o1]
    obtain ⟨t14, hy12, h⟩ := bnd' h
    refine UX_of (AX.weak ?_ (WxH.refl _) (ref14_text_p2_ok  (a1 := a1) (i10 := i10) (b9 := b9) (t13 := t14) (q11 := q8) (hfr) ((hs_o1).trans rfl) (by first | assumption | omega | (simp only [h_sl, h_al] <;> omega) | fail) hy12 ?_))
    · exact WE.cons (Wx.ptr) (WE.cons (Wx.oo) (WE.cons (Wx.int) (WE.nil)))
    intro H hfr hs_o1
    have hle := hfr.le
    have hl_o1 := h_lt hs_o1
    try simp (disch := first | assumption | omega | (simp only [h_sl, h_al] <;> omega) | fail) only [WW, WH, ↓reduceIte, nA, nB, nC, nD, nE, nF, nG, reduceCtorEq, L_ref14_text, hs_o1]
    rcases ifb h with ⟨hy13, h⟩ | ⟨hy13, h⟩
    · refine UC_t hy13 ?_
      obtain ⟨x15, hy14, h⟩ := bnd' h
      have hy15 : capp 1 (ml b8 b9) [(b8 92)] = some (ml b8 x15) := capp_m (f := b8) hy14
      obtain ⟨x16, hy16, h⟩ := bnd' h
      obtain ⟨x17, hy17, h⟩ := bnd' h
      have hy18 : capp 1 (ml b8 x15) [(b8 x16)] = some (ml b8 x17) := capp_m (f := b8) hy17
      try simp (disch := first | assumption | omega | (simp only [h_sl, h_al] <;> omega) | fail) only [WW, WH, ↓reduceIte, nA, nB, nC, nD, nE, nF, nG, reduceCtorEq, L_ref14_text, hy15, hy16, hy18, hs_o1]
      have hq := Option.some.inj h; subst hq
      refine hN _ rfl _ _ _ _ ?_ (WxH.refl _) ⟨rfl, hfr, ((hs_o1).trans rfl)⟩
      exact WE.cons (Wx.ptr) (WE.cons (Wx.oo) (WE.cons (Wx.int) (WE.nil)))
    · refine UC_f hy13 ?_
      obtain ⟨x18, hy19, h⟩ := bnd' h
      obtain ⟨x19, hy20, h⟩ := bnd' h
      have hy21 : capp 1 (ml b8 b9) [(b8 x18)] = some (ml b8 x19) := capp_m (f := b8) hy20
      try simp (disch := first | assumption | omega | (simp only [h_sl, h_al] <;> omega) | fail) only [WW, WH, ↓reduceIte, nA, nB, nC, nD, nE, nF, nG, reduceCtorEq, L_ref14_text, hy19, hy21, hs_o1]
      have hq := Option.some.inj h; subst hq
      refine hN _ rfl _ _ _ _ ?_ (WxH.refl _) ⟨rfl, hfr, ((hs_o1).trans rfl)⟩
      exact WE.cons (Wx.ptr) (WE.cons (Wx.oo) (WE.cons (Wx.int) (WE.nil)))
  · refine UC_f hy9 ?_
    try simp (disch := first | assumption | omega | (simp only [h_sl, h_al] <;> omega) | fail) only [WW, WH, ↓reduceIte, nA, nB, nC, nD, nE, nF, nG, reduceCtorEq, L_ref14_text, hs_o1]
    have hq := Option.some.inj h; subst hq
    refine hX _ _ _ _ _ (by simp) ?_ (WxH.refl _) (kb0 _ (hB _ rfl) _ hfr ((hs_o1).trans rfl))
    exact WE.cons (Wx.ptr) (WE.cons (Wx.oo) (WE.nil))
theorem ref14_text_ok {F : Nat} {a1 : AddressV}  {H0 : AH}  {rz0 : List UInt8} (h : ref14_text F a1 = some rz0) :
    ACalls Tryd.prog 84 [(.agg [(.str a1.local0), (.str a1.domain)])] H0 fun v H' => v = (.str rz0) ∧ H' = H0 := by
  refine ACalls.goX k_ref14_text (m := m_ref14_text) rfl L_ref14_text (by decide) (by simp) fun hcl K0 hK0 => ?_
  refine AX.of_U (m := m_ref14_text) rfl (by decide) ?_
  have hfr := Fr.refl H0 []
  have hle := hfr.le
  rw [ref14_text.eq_1] at h
  obtain ⟨H, hHH⟩ : ∃ H, H = H0 := ⟨_, rfl⟩
  have hfr : Fr H0 H0.length [] H := hHH ▸ hfr
  have hle := hfr.le
  suffices hU : U Tryd.prog L_ref14_text 63 H0.length [.code m_ref14_text] K0 .normal (argE 0 [(.agg [(.str a1.local0), (.str a1.domain)])]) H by rwa [hHH] at hU
  try simp (disch := first | assumption | omega | (simp only [h_sl, h_al] <;> omega) | fail) only [WW, WH, ↓reduceIte, nA, nB, nC, nD, nE, nF, nG, reduceCtorEq, L_ref14_text, m_ref14_text]
  obtain ⟨q2, hg_q2⟩ : ∃ q : Nat, H.length = q := ⟨_, rfl⟩
  try rw [hg_q2]
  refine UX_of (AX.weak ?_ (WxH.refl _) (ref14_text_p1_ok (q2 := q2) (a1 := a1) ((Fr.app hfr)) ((h_new' (by first | assumption | omega | (simp only [h_sl, h_al] <;> omega) | fail)).trans rfl) (by first | assumption | omega | (simp only [h_sl, h_al] <;> omega) | fail) ?_))
  · exact WE.cons (Wx.ptr) (WE.nil)
  intro H hfr hs_o1
  have hle := hfr.le
  have hl_o1 := h_lt hs_o1
  try simp (disch := first | assumption | omega | (simp only [h_sl, h_al] <;> omega) | fail) only [WW, WH, ↓reduceIte, nA, nB, nC, nD, nE, nF, nG, reduceCtorEq, L_ref14_text, hs_o1]
  rcases ifb h with ⟨hy2, h⟩ | ⟨hy2, h⟩
  · refine UC_t hy2 ?_
    try simp (disch := first | assumption | omega | (simp only [h_sl, h_al] <;> omega) | fail) only [WW, WH, ↓reduceIte, nA, nB, nC, nD, nE, nF, nG, reduceCtorEq, L_ref14_text, hs_o1]
    have hq := Option.some.inj h; subst hq
    refine hK0 _ _ _ (.inr rfl) ?_
    exact fn_end0 (by exact hfr) hcl (resv_tmp (a := (.str ([60, 62] : List UInt8))) rfl rfl resv_nil) (by first | (simp [fin, b_df, b_sh, b_sh1, b_Cl]; done) | (simp [fin, AV.df, AV.sh, AV.sh1, b_df, b_sh, b_sh1, b_Cl]; done)) (Wx.str) (r' := (.str ([60, 62] : List UInt8))) ⟨rfl, rfl⟩
  · refine UC_f hy2 ?_
    try simp (disch := first | assumption | omega | (simp only [h_sl, h_al] <;> omega) | fail) only [WW, WH, ↓reduceIte, nA, nB, nC, nD, nE, nF, nG, reduceCtorEq, L_ref14_text, hs_o1]
    obtain ⟨r3, hy3, h⟩ := bnd' h
    refine UK_e (as' := [(.str a1.local0)]) (h := ref14_plain_ok (s1 := a1.local0) (F := F)  hy3) (hw := WL.cons (Wx.str) (WL.nil)) (hh := WxH.refl _) ?_
    try simp (disch := first | assumption | omega | (simp only [h_sl, h_al] <;> omega) | fail) only [WW, WH, ↓reduceIte, nA, nB, nC, nD, nE, nF, nG, reduceCtorEq, L_ref14_text, hs_o1]
    rcases ifb h with ⟨hy4, h⟩ | ⟨hy4, h⟩
    · refine UC_t hy4 ?_
      obtain ⟨x4, hy5, h⟩ := bnd' h
      obtain ⟨x5, hy6, h⟩ := bnd' h
      obtain ⟨x6, hy7, h⟩ := bnd' h
      obtain ⟨x7, hy8, h⟩ := bnd' h
      try simp (disch := first | assumption | omega | (simp only [h_sl, h_al] <;> omega) | fail) only [WW, WH, ↓reduceIte, nA, nB, nC, nD, nE, nF, nG, reduceCtorEq, L_ref14_text, hy5, hy6, hy7, hy8, hs_o1]
      have hq := Option.some.inj h; subst hq
      refine hK0 _ _ _ (.inr rfl) ?_
      exact fn_end0 (by exact hfr) hcl (resv_tmp (a := (.str x7)) rfl rfl resv_nil) (by first | (simp [fin, b_df, b_sh, b_sh1, b_Cl]; done) | (simp [fin, AV.df, AV.sh, AV.sh1, b_df, b_sh, b_sh1, b_Cl]; done)) (Wx.str) (r' := (.str x7)) ⟨rfl, rfl⟩
    · refine UC_f hy4 ?_
      try simp (disch := first | assumption | omega | (simp only [h_sl, h_al] <;> omega) | fail) only [WW, WH, ↓reduceIte, nA, nB, nC, nD, nE, nF, nG, reduceCtorEq, L_ref14_text, hs_o1]
      obtain ⟨o26, hy22, h⟩ := bnd' h
      refine UX_of (AX.weak ?_ (WxH.refl _) (ref14_text_l1_ok  (a1 := a1) (b9 := ([60, 34] : List UInt8)) (i10 := 0) (q8 := q2) (hfr) ((hs_o1).trans rfl) (by first | assumption | omega | (simp only [h_sl, h_al] <;> omega) | fail) (o := o26) hy22 ?_))
      · exact WE.cons (Wx.ptr) (WE.cons (Wx.own ..) (WE.cons (Wx.int) (WE.nil)))
      · rintro b21 rfl H hfr hs_o1
        try dsimp only at h hs_o1
        have hle := hfr.le
        have hl_o1 := h_lt hs_o1
        obtain ⟨x22, hy23, h⟩ := bnd' h
        have hy24 : capp 1 (ml b8 b21) [(b8 34)] = some (ml b8 x22) := capp_m (f := b8) hy23
        obtain ⟨x23, hy25, h⟩ := bnd' h
        obtain ⟨x24, hy26, h⟩ := bnd' h
        obtain ⟨x25, hy27, h⟩ := bnd' h
        try simp (disch := first | assumption | omega | (simp only [h_sl, h_al] <;> omega) | fail) only [WW, WH, ↓reduceIte, nA, nB, nC, nD, nE, nF, nG, reduceCtorEq, L_ref14_text, hy24, hy25, hy26, hy27, hs_o1]
        have hq := Option.some.inj h; subst hq
        refine hK0 _ _ _ (.inr rfl) ?_
        exact fn_end0 (by exact hfr) hcl (resv_tmp (a := (.str x25)) rfl rfl resv_nil) (by first | (simp [fin, b_df, b_sh, b_sh1, b_Cl]; done) | (simp [fin, AV.df, AV.sh, AV.sh1, b_df, b_sh, b_sh1, b_Cl]; done)) (Wx.str) (r' := (.str x25)) ⟨rfl, rfl⟩

/-! ### mailbag/mailbagref14.Right -/
def c_ref14_Right_p1 : ACode := (.rg [⟨(some 3), (.fld (.t 1) 0), none⟩, ⟨(some 4), (.ld (.t 3) none), none⟩, ⟨(some 5), (.bin .eql (.t 4) (.c (.str []))), none⟩, ⟨(some 6), (.mv (.t 5)), none⟩, ⟨(some 7), (.fld (.t 1) 1), (some (6, true))⟩, ⟨(some 8), (.ld (.t 7) none), (some (6, true))⟩, ⟨(some 9), (.bin .eql (.t 8) (.c (.str []))), (some (6, true))⟩, ⟨(some 10), (.pick (.t 6) (.t 9) (.c (.bool false))), none⟩])
abbrev m_ref14_Right_p1 := c_ref14_Right_p1
def c_ref14_Right_p2 : ACode := (.rg [⟨(some 11), (.fld (.t 1) 0), none⟩, ⟨(some 12), (.ld (.t 11) none), none⟩, ⟨(some 13), (.call (.c (.fn 40 [])) [(.t 12)]), none⟩, ⟨(some 14), (.mv (.t 13)), none⟩, ⟨(some 15), (.fld (.t 1) 1), (some (14, true))⟩, ⟨(some 16), (.ld (.t 15) none), (some (14, true))⟩, ⟨(some 17), (.call (.c (.fn 38 [])) [(.t 16)]), (some (14, true))⟩, ⟨(some 18), (.pick (.t 14) (.t 17) (.c (.bool false))), none⟩, ⟨(some 19), (.mv (.t 18)), none⟩, ⟨(some 20), (.ld (.t 1) (some 2)), (some (19, true))⟩, ⟨(some 21), (.call (.c (.fn 84 [])) [(.t 20)]), (some (19, true))⟩, ⟨(some 22), (.lens (.t 21)), (some (19, true))⟩, ⟨(some 23), (.bin .leq (.t 22) (.c (.int .i64 256))), (some (19, true))⟩, ⟨(some 24), (.pick (.t 19) (.t 23) (.c (.bool false))), none⟩, ⟨(some 2), (.asg (.t 24)), none⟩])
abbrev m_ref14_Right_p2 := c_ref14_Right_p2
def c_ref14_Right : ACode := (.seq (.rg [⟨(some 1), (.box (.t 0)), none⟩, ⟨(some 2), (.asg (.c (.bool false))), none⟩]) (.seq (.seq c_ref14_Right_p1 (.cond (.t 10) (.seq (.rg [⟨(some 2), (.asg (.c (.bool true))), none⟩]) .ret) .skip)) (.seq c_ref14_Right_p2 .ret)))
def m_ref14_Right : ACode := (.seq (.rg [⟨(some 1), (.box (.t 0)), none⟩, ⟨(some 2), (.asg (.c (.bool false))), none⟩]) (.seq (.seq (.sem c_ref14_Right_p1) (.cond (.t 10) (.seq (.rg [⟨(some 2), (.asg (.c (.bool true))), none⟩]) .ret) .skip)) (.seq (.sem c_ref14_Right_p2) .ret)))
theorem k_ref14_Right : FnOk Tryd.prog 44 25 [(.tmp 2)] c_ref14_Right := ⟨Tryd.f44, _, rfl, by decide, rfl, by kernel_rfl, rfl, rfl⟩
abbrev L_ref14_Right : List Nat := [0, 1, 2, 10]
def ref14_Right_p2 (F : Nat) (a1 : AddressV) : Option (Bool) :=
  (ref14_Local F a1.local0).bind fun r4 =>
  (if r4 then
    (ref14_Domain F a1.domain).bind fun r5 =>
    (if r5 then
      (ref14_text F a1).bind fun r6 => some (decide ((r6.length : Int) ≤ 256))
    else
      some false)
  else
    some false)
def ref14_Right (F : Nat) (a1 : AddressV) : Option (Bool) :=
  (if ((decide (a1.local0 = ([] : List UInt8))) && (decide (a1.domain = ([] : List UInt8)))) then
    some true
  else
    (ref14_Right_p2 F a1).bind fun t8 =>
    some t8)
theorem ref14_Right_p1_ok {q2 : Nat} {a1 : AddressV} {H0 H : AH} (hfr : Fr H0 H0.length [] H) (hs_o1 : H[q2]? = some [(.str a1.local0), (.str a1.domain)]) (hi0 : H0.length ≤ q2) {K : Exit → Env → AH → Prop}
    (kn : ∀ H' : AH, Fr H0 H0.length [] H' → H'[q2]? = some [(.str a1.local0), (.str a1.domain)] → K .normal [(1, (.ptr q2 0)), (10, (.bool ((decide (a1.local0 = ([] : List UInt8))) && (decide (a1.domain = ([] : List UInt8))))))] H') :
    AX Tryd.prog L_ref14_Right 25 H0.length c_ref14_Right_p1 K [(1, (.ptr q2 0))] H := by
  refine AX.go (m := m_ref14_Right_p1) rfl (by decide) fun K' hK => ?_
  have hle := hfr.le
  have hl_o1 := h_lt hs_o1
  try simp (disch := first | assumption | omega | (simp only [h_sl, h_al] <;> omega) | fail) only [WW, WH, ↓reduceIte, nA, nB, nC, nD, nE, nF, nG, reduceCtorEq, L_ref14_Right, m_ref14_Right_p1, c_ref14_Right_p1, hs_o1]
  rcases bcases ((decide (a1.local0 = ([] : List UInt8)))) with hy1 | hy1
  · refine UG_go hy1 ?_
    try simp (disch := first | assumption | omega | (simp only [h_sl, h_al] <;> omega) | fail) only [WW, WH, ↓reduceIte, nA, nB, nC, nD, nE, nF, nG, reduceCtorEq, L_ref14_Right, hy1, hs_o1]
    refine hK _ _ _ _ _ ?_ (WxH.refl _) (kn _ hfr ((hs_o1).trans rfl))
    exact WE.cons (Wx.ptr) (WE.cons (Wx.boolE (by simp only [hy1, WB])) (WE.nil))
  · refine UG_nt hy1 ?_
    try simp (disch := first | assumption | omega | (simp only [h_sl, h_al] <;> omega) | fail) only [WW, WH, ↓reduceIte, nA, nB, nC, nD, nE, nF, nG, reduceCtorEq, L_ref14_Right, hy1, hs_o1]
    refine hK _ _ _ _ _ ?_ (WxH.refl _) (kn _ hfr ((hs_o1).trans rfl))
    exact WE.cons (Wx.ptr) (WE.cons (Wx.boolE (by simp only [hy1, WB])) (WE.nil))
theorem ref14_Right_p2_ok {F : Nat} {a1 : AddressV} {q3 : Nat} {H0 H : AH} (hfr : Fr H0 H0.length [] H) (hs_o1 : H[q3]? = some [(.str a1.local0), (.str a1.domain)]) (hi0 : H0.length ≤ q3) {K : Exit → Env → AH → Prop} {t7 : Bool}
    (h : ref14_Right_p2 F a1 = some t7)
    (kn : ∀ H' : AH, Fr H0 H0.length [] H' → H'[q3]? = some [(.str a1.local0), (.str a1.domain)] → K .normal [(2, (.bool t7))] H') :
    AX Tryd.prog L_ref14_Right 25 H0.length c_ref14_Right_p2 K [(1, (.ptr q3 0))] H := by
  refine AX.go (m := m_ref14_Right_p2) rfl (by decide) fun K' hK => ?_
  have hle := hfr.le
  have hl_o1 := h_lt hs_o1
  rw [ref14_Right_p2.eq_1] at h
  try simp (disch := first | assumption | omega | (simp only [h_sl, h_al] <;> omega) | fail) only [WW, WH, ↓reduceIte, nA, nB, nC, nD, nE, nF, nG, reduceCtorEq, L_ref14_Right, m_ref14_Right_p2, c_ref14_Right_p2, hs_o1]
  obtain ⟨r4, hy3, h⟩ := bnd' h
  refine UK_e (as' := [(.str a1.local0)]) (h := ref14_Local_ok (s1 := a1.local0) (F := F)  hy3) (hw := WL.cons (Wx.str) (WL.nil)) (hh := WxH.refl _) ?_
  try simp (disch := first | assumption | omega | (simp only [h_sl, h_al] <;> omega) | fail) only [WW, WH, ↓reduceIte, nA, nB, nC, nD, nE, nF, nG, reduceCtorEq, L_ref14_Right, hs_o1]
  rcases ifb h with ⟨hy4, h⟩ | ⟨hy4, h⟩
  · refine UG_go hy4 ?_
    try simp (disch := first | assumption | omega | (simp only [h_sl, h_al] <;> omega) | fail) only [WW, WH, ↓reduceIte, nA, nB, nC, nD, nE, nF, nG, reduceCtorEq, L_ref14_Right, hy4, hs_o1]
    obtain ⟨r5, hy5, h⟩ := bnd' h
    refine UK_e (as' := [(.str a1.domain)]) (h := ref14_Domain_ok (s1 := a1.domain) (F := F)  hy5) (hw := WL.cons (Wx.str) (WL.nil)) (hh := WxH.refl _) ?_
    try simp (disch := first | assumption | omega | (simp only [h_sl, h_al] <;> omega) | fail) only [WW, WH, ↓reduceIte, nA, nB, nC, nD, nE, nF, nG, reduceCtorEq, L_ref14_Right, hs_o1]
    rcases ifb h with ⟨hy6, h⟩ | ⟨hy6, h⟩
    · refine UG_go hy6 ?_
      try simp (disch := first | assumption | omega | (simp only [h_sl, h_al] <;> omega) | fail) only [WW, WH, ↓reduceIte, nA, nB, nC, nD, nE, nF, nG, reduceCtorEq, L_ref14_Right, hy6, hs_o1]
      obtain ⟨r6, hy7, h⟩ := bnd' h
      refine UK_e (as' := [(.agg [(.str a1.local0), (.str a1.domain)])]) (h := ref14_text_ok (a1 := a1) (F := F)  hy7) (hw := WL.cons (Wx.agg (W1L.same (W1L.same (W1L.nil)))) (WL.nil)) (hh := WxH.refl _) ?_
      try simp (disch := first | assumption | omega | (simp only [h_sl, h_al] <;> omega) | fail) only [WW, WH, ↓reduceIte, nA, nB, nC, nD, nE, nF, nG, reduceCtorEq, L_ref14_Right, hs_o1]
      have hq := Option.some.inj h; subst hq
      refine hK _ _ _ _ _ ?_ (WxH.refl _) (kn _ hfr ((hs_o1).trans rfl))
      exact WE.cons (Wx.bool) (WE.nil)
    · refine UG_nt hy6 ?_
      try simp (disch := first | assumption | omega | (simp only [h_sl, h_al] <;> omega) | fail) only [WW, WH, ↓reduceIte, nA, nB, nC, nD, nE, nF, nG, reduceCtorEq, L_ref14_Right, hy6, hs_o1]
      have hq := Option.some.inj h; subst hq
      refine hK _ _ _ _ _ ?_ (WxH.refl _) (kn _ hfr ((hs_o1).trans rfl))
      exact WE.cons (Wx.bool) (WE.nil)
  · refine UG_nt hy4 ?_
    try simp (disch := first | assumption | omega | (simp only [h_sl, h_al] <;> omega) | fail) only [WW, WH, ↓reduceIte, nA, nB, nC, nD, nE, nF, nG, reduceCtorEq, L_ref14_Right, hy4, hs_o1]
    have hq := Option.some.inj h; subst hq
    refine hK _ _ _ _ _ ?_ (WxH.refl _) (kn _ hfr ((hs_o1).trans rfl))
    exact WE.cons (Wx.bool) (WE.nil)
theorem ref14_Right_ok {F : Nat} {a1 : AddressV}  {H0 : AH}  {rz0 : Bool} (h : ref14_Right F a1 = some rz0) :
    ACalls Tryd.prog 44 [(.agg [(.str a1.local0), (.str a1.domain)])] H0 fun v H' => v = (.bool rz0) ∧ H' = H0 := by
  refine ACalls.goX k_ref14_Right (m := m_ref14_Right) rfl L_ref14_Right (by decide) (by simp) fun hcl K0 hK0 => ?_
  refine AX.of_U (m := m_ref14_Right) rfl (by decide) ?_
  have hfr := Fr.refl H0 []
  have hle := hfr.le
  rw [ref14_Right.eq_1] at h
  obtain ⟨H, hHH⟩ : ∃ H, H = H0 := ⟨_, rfl⟩
  have hfr : Fr H0 H0.length [] H := hHH ▸ hfr
  have hle := hfr.le
  suffices hU : U Tryd.prog L_ref14_Right 25 H0.length [.code m_ref14_Right] K0 .normal (argE 0 [(.agg [(.str a1.local0), (.str a1.domain)])]) H by rwa [hHH] at hU
  try simp (disch := first | assumption | omega | (simp only [h_sl, h_al] <;> omega) | fail) only [WW, WH, ↓reduceIte, nA, nB, nC, nD, nE, nF, nG, reduceCtorEq, L_ref14_Right, m_ref14_Right]
  obtain ⟨q2, hg_q2⟩ : ∃ q : Nat, H.length = q := ⟨_, rfl⟩
  try rw [hg_q2]
  refine UX_of (AX.weak ?_ (WxH.refl _) (ref14_Right_p1_ok (q2 := q2) (a1 := a1) ((Fr.app hfr)) ((h_new' (by first | assumption | omega | (simp only [h_sl, h_al] <;> omega) | fail)).trans rfl) (by first | assumption | omega | (simp only [h_sl, h_al] <;> omega) | fail) ?_))
  · exact WE.cons (Wx.ptr) (WE.nil)
  intro H hfr hs_o1
  have hle := hfr.le
  have hl_o1 := h_lt hs_o1
  try simp (disch := first | assumption | omega | (simp only [h_sl, h_al] <;> omega) | fail) only [WW, WH, ↓reduceIte, nA, nB, nC, nD, nE, nF, nG, reduceCtorEq, L_ref14_Right, hs_o1]
  rcases ifb h with ⟨hy2, h⟩ | ⟨hy2, h⟩
  · refine UC_t hy2 ?_
    try simp (disch := first | assumption | omega | (simp only [h_sl, h_al] <;> omega) | fail) only [WW, WH, ↓reduceIte, nA, nB, nC, nD, nE, nF, nG, reduceCtorEq, L_ref14_Right, hs_o1]
    have hq := Option.some.inj h; subst hq
    refine hK0 _ _ _ (.inr rfl) ?_
    exact fn_end0 (by exact hfr) hcl (resv_tmp (a := (.bool true)) rfl rfl resv_nil) (by first | (simp [fin, b_df, b_sh, b_sh1, b_Cl]; done) | (simp [fin, AV.df, AV.sh, AV.sh1, b_df, b_sh, b_sh1, b_Cl]; done)) (Wx.bool) (r' := (.bool true)) ⟨rfl, rfl⟩
  · refine UC_f hy2 ?_
    try simp (disch := first | assumption | omega | (simp only [h_sl, h_al] <;> omega) | fail) only [WW, WH, ↓reduceIte, nA, nB, nC, nD, nE, nF, nG, reduceCtorEq, L_ref14_Right, hs_o1]
    obtain ⟨t8, hy8, h⟩ := bnd' h
    refine UX_of (AX.weak ?_ (WxH.refl _) (ref14_Right_p2_ok (F := F) (a1 := a1) (t7 := t8) (q3 := q2) (hfr) ((hs_o1).trans rfl) (by first | assumption | omega | (simp only [h_sl, h_al] <;> omega) | fail) hy8 ?_))
    · exact WE.cons (Wx.ptr) (WE.nil)
    intro H hfr hs_o1
    have hle := hfr.le
    have hl_o1 := h_lt hs_o1
    try simp (disch := first | assumption | omega | (simp only [h_sl, h_al] <;> omega) | fail) only [WW, WH, ↓reduceIte, nA, nB, nC, nD, nE, nF, nG, reduceCtorEq, L_ref14_Right, hs_o1]
    have hq := Option.some.inj h; subst hq
    refine hK0 _ _ _ (.inr rfl) ?_
    exact fn_end0 (by exact hfr) hcl (resv_tmp (a := (.bool t8)) rfl rfl resv_nil) (by first | (simp [fin, b_df, b_sh, b_sh1, b_Cl]; done) | (simp [fin, AV.df, AV.sh, AV.sh1, b_df, b_sh, b_sh1, b_Cl]; done)) (Wx.bool) (r' := (.bool t8)) ⟨rfl, rfl⟩

end Go.Proofs.AddrS
