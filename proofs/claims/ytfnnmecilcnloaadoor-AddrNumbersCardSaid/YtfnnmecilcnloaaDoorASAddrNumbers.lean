import Derived.Test.YtfnnmecilcnloaaDoorAS3
set_option linter.unusedSimpArgs false
set_option linter.unusedVariables false
set_option linter.unusedSectionVars false
set_option linter.defProp false
set_option maxRecDepth 100000
namespace Go.Proofs.AddrS
open Go Go.Am Go.Proofs

/-! ### mailbag/mailbaglaw14.decimal -/
def c_law14_decimal_l1b : ACode := (.seq (.seq (.rg [⟨(some 10), (.mv (.t 0)), none⟩, ⟨(some 11), (.bin .geq (.t 10) (.c (.int .i64 10))), none⟩]) (.cond (.t 11) .skip (.exit 0))) (.blk 1 (.seq (.rg [⟨(some 12), (.mv (.t 0)), none⟩, ⟨(some 13), (.bin .quo (.t 12) (.c (.int .i64 10))), none⟩, ⟨(some 0), (.asg (.t 13)), none⟩]) (.rg [⟨(some 14), (.mv (.t 0)), none⟩, ⟨(some 15), (.bin .rem (.t 14) (.c (.int .i64 10))), none⟩, ⟨(some 16), (.bin .add (.c (.int .i64 48)) (.t 15)), none⟩, ⟨(some 17), (.cvt (.int .u8) (.t 16)), none⟩, ⟨(some 18), (.bsl 1 [(.t 17)]), none⟩, ⟨(some 19), (.cvt .bs (.t 18)), none⟩, ⟨(some 20), (.mv (.t 3)), none⟩, ⟨(some 21), (.bin .add (.t 19) (.t 20)), none⟩, ⟨(some 3), (.asg (.t 21)), none⟩]))))
def c_law14_decimal_l1 : ACode := (.loop c_law14_decimal_l1b)
abbrev m_law14_decimal_l1b := c_law14_decimal_l1b
def c_law14_decimal : ACode := (.seq (.rg [⟨(some 2), (.asg (.c (.str []))), none⟩]) (.seq (.rg [⟨(some 4), (.mv (.t 0)), none⟩, ⟨(some 5), (.bin .rem (.t 4) (.c (.int .i64 10))), none⟩, ⟨(some 6), (.bin .add (.c (.int .i64 48)) (.t 5)), none⟩, ⟨(some 7), (.cvt (.int .u8) (.t 6)), none⟩, ⟨(some 8), (.bsl 1 [(.t 7)]), none⟩, ⟨(some 9), (.cvt .bs (.t 8)), none⟩, ⟨(some 3), (.asg (.t 9)), none⟩]) (.seq (.blk 0 c_law14_decimal_l1) (.seq (.rg [⟨(some 22), (.mv (.t 3)), none⟩, ⟨(some 2), (.asg (.t 22)), none⟩]) .ret))))
abbrev m_law14_decimal := c_law14_decimal
theorem k_law14_decimal : FnOk Tryd.prog 46 23 [(.tmp 2)] c_law14_decimal := ⟨Tryd.f46, _, rfl, by decide, rfl, by kernel_rfl, rfl, rfl⟩
abbrev L_law14_decimal : List Nat := [0, 2, 3, 11]
def law14_decimal_l1  : (Int × (List UInt8)) → Option (St (List UInt8) (List UInt8) (Int × (List UInt8)))
  | (nn2, s3) =>
    (if (decide (10 ≤ nn2)) then
      (cat ([(UInt8.ofInt (IntKind.wrap .i64 (48 + (Int.tmod (IntKind.wrap .i64 (Int.tdiv nn2 10)) 10))))] : List UInt8) s3).bind fun x4 => some (.nxt ((IntKind.wrap .i64 (Int.tdiv nn2 10)), x4))
    else
      some (.brk s3))
def law14_decimal (F : Nat) (nn1 : Int) : Option ((List UInt8)) :=
  ((iter law14_decimal_l1 F (nn1, ([(UInt8.ofInt (IntKind.wrap .i64 (48 + (Int.tmod nn1 10))))] : List UInt8))).bind fun o7 =>
  match o7 with
  | .inr s6 =>
    some s6
  | .inl _ => none)
set_option maxHeartbeats 2000000 in
theorem law14_decimal_l1_ok {F : Nat} {nn2 : Int} {s3 : List UInt8} {H : AH}  {K : Exit → Env → AH → Prop} {o : ((List UInt8)) ⊕ ((List UInt8))}
    (h : iter law14_decimal_l1 F (nn2, s3) = some o)
    (kb0 : ∀ o' : (List UInt8), o = .inr o' → K (.exit 0) [(3, (.str o'))] H) :
    AX Tryd.prog L_law14_decimal 23 H.length c_law14_decimal_l1 K [(0, (.int .i64 nn2)), (3, (.str s3))] H := by
  refine AX.iter (m := m_law14_decimal_l1b) rfl (by decide) (fun s e H1 => match s with | (nn2, s3) => e = [(0, (.int .i64 nn2)), (3, (.str s3))] ∧ H1 = H) h ⟨rfl, rfl⟩ ?_
  rintro K' ⟨nn2, s3⟩ st e H ⟨rfl, rfl⟩ h hN hB hR hX
  rw [law14_decimal_l1.eq_1] at h
  try simp only [WW, ↓reduceIte, Nat.reduceEqDiff, Nat.reduceLT, Nat.reduceLeDiff, Nat.reduceAdd, Nat.reduceSub, Nat.reduceMul, Nat.reduceBEq, reduceCtorEq, if_false, if_true, L_law14_decimal, m_law14_decimal_l1b, c_law14_decimal_l1b]
  rcases ifb h with ⟨hy2, h⟩ | ⟨hy2, h⟩
  · refine UC_t hy2 ?_
    have hy3 : dv .i64 nn2 10 = some (IntKind.wrap .i64 (Int.tdiv nn2 10)) := rfl
    have hy4 : rm .i64 (IntKind.wrap .i64 (Int.tdiv nn2 10)) 10 = some (Int.tmod (IntKind.wrap .i64 (Int.tdiv nn2 10)) 10) := rfl
    obtain ⟨x4, hy5, h⟩ := bnd' h
    try simp only [WW, ↓reduceIte, Nat.reduceEqDiff, Nat.reduceLT, Nat.reduceLeDiff, Nat.reduceAdd, Nat.reduceSub, Nat.reduceMul, Nat.reduceBEq, reduceCtorEq, if_false, if_true, L_law14_decimal, hy3, hy4, hy5]
    have hq := Option.some.inj h; subst hq
    refine hN _ rfl _ _ _ _ ?_ (WxH.refl _) ⟨rfl, rfl⟩
    exact WE.cons (Wx.int) (WE.cons (Wx.str) (WE.nil))
  · refine UC_f hy2 ?_
    try simp only [WW, ↓reduceIte, Nat.reduceEqDiff, Nat.reduceLT, Nat.reduceLeDiff, Nat.reduceAdd, Nat.reduceSub, Nat.reduceMul, Nat.reduceBEq, reduceCtorEq, if_false, if_true, L_law14_decimal]
    have hq := Option.some.inj h; subst hq
    refine hX _ _ _ _ _ (by simp) ?_ (WxH.refl _) (kb0 _ (hB _ rfl) )
    exact WE.cons (Wx.str) (WE.nil)
set_option maxHeartbeats 2000000 in
theorem law14_decimal_ok {F : Nat} {nn1 : Int}  {H0 : AH}  {rz0 : List UInt8} (h : law14_decimal F nn1 = some rz0) :
    ACalls Tryd.prog 46 [(.int .i64 nn1)] H0 fun v H' => v = (.str rz0) ∧ H' = H0 := by
  refine ACalls.goX k_law14_decimal (m := m_law14_decimal) rfl L_law14_decimal (by decide) (by simp) fun hcl K0 hK0 => ?_
  refine AX.of_U (m := m_law14_decimal) rfl (by decide) ?_
  rw [law14_decimal.eq_1] at h
  have hy1 : rm .i64 nn1 10 = some (Int.tmod nn1 10) := rfl
  try simp only [WW, ↓reduceIte, Nat.reduceEqDiff, Nat.reduceLT, Nat.reduceLeDiff, Nat.reduceAdd, Nat.reduceSub, Nat.reduceMul, Nat.reduceBEq, reduceCtorEq, if_false, if_true, L_law14_decimal, m_law14_decimal, c_law14_decimal, hy1]
  obtain ⟨o7, hy6, h⟩ := bnd' h
  refine UX_of (AX.weak ?_ (WxH.refl _) (law14_decimal_l1_ok   (nn2 := nn1) (s3 := ([(UInt8.ofInt (IntKind.wrap .i64 (48 + (Int.tmod nn1 10))))] : List UInt8))   (o := o7) hy6 ?_))
  · exact WE.cons (Wx.int) (WE.cons (Wx.str) (WE.nil))
  · rintro s6 rfl  
    try dsimp only at h 
    try simp only [WW, ↓reduceIte, Nat.reduceEqDiff, Nat.reduceLT, Nat.reduceLeDiff, Nat.reduceAdd, Nat.reduceSub, Nat.reduceMul, Nat.reduceBEq, reduceCtorEq, if_false, if_true, L_law14_decimal]
    have hq := Option.some.inj h; subst hq
    refine hK0 _ _ _ (.inr rfl) ?_
    exact fn_endp hcl (resv_tmp (a := (.str s6)) rfl rfl resv_nil) (by first | (simp [fin, b_df, b_sh, b_sh1, b_Cl]; done) | (simp [fin, AV.df, AV.sh, AV.sh1, b_df, b_sh, b_sh1, b_Cl]; done)) (Wx.str) (r' := (.str s6)) ⟨rfl, rfl⟩

/-! ### mailbag/mailbaglaw14.AddrNumbers -/
def c_law14_AddrNumbers_p1 : ACode := (.cond (.t 18) (.rg [⟨(some 19), (.mv (.t 11)), none⟩, ⟨(some 20), (.bin .add (.c (.str [48])) (.t 19)), none⟩, ⟨(some 11), (.asg (.t 20)), none⟩]) .skip)
abbrev m_law14_AddrNumbers_p1 := c_law14_AddrNumbers_p1
def c_law14_AddrNumbers_p2 : ACode := (.rg [⟨(some 39), (.mv (.t 12)), none⟩, ⟨(some 40), (.call (.c (.fn 37 [])) [(.t 39)]), none⟩, ⟨(some 41), (.mv (.t 0)), none⟩, ⟨(some 42), (.bin .leq (.t 41) (.c (.int .u16 255))), none⟩, ⟨(some 43), (.mv (.t 42)), none⟩, ⟨(some 44), (.mv (.t 4)), (some (43, true))⟩, ⟨(some 45), (.un .not (.t 44)), (some (43, true))⟩, ⟨(some 46), (.pick (.t 43) (.t 45) (.c (.bool false))), none⟩, ⟨(some 47), (.bq false (.t 40) (.t 46)), none⟩, ⟨(some 48), (.mv (.t 47)), none⟩, ⟨(some 49), (.mv (.t 12)), (some (48, true))⟩, ⟨(some 50), (.sls (.t 49) (some (.c (.int .i64 1))) none), (some (48, true))⟩, ⟨(some 51), (.call (.c (.fn 37 [])) [(.t 50)]), (some (48, true))⟩, ⟨(some 52), (.un .not (.t 51)), (some (48, true))⟩, ⟨(some 53), (.pick (.t 48) (.t 52) (.c (.bool false))), none⟩, ⟨(some 54), (.mv (.t 53)), none⟩, ⟨(some 55), (.mv (.t 12)), (some (54, true))⟩, ⟨(some 56), (.call (.c (.fn 37 [])) [(.t 55)]), (some (54, true))⟩, ⟨(some 57), (.mv (.t 12)), (some (54, true))⟩, ⟨(some 58), (.call (.c (.fn 38 [])) [(.t 57)]), (some (54, true))⟩, ⟨(some 59), (.bq false (.t 56) (.t 58)), (some (54, true))⟩, ⟨(some 60), (.pick (.t 54) (.t 59) (.c (.bool false))), none⟩, ⟨(some 10), (.asg (.t 60)), none⟩])
abbrev m_law14_AddrNumbers_p2 := c_law14_AddrNumbers_p2
def c_law14_AddrNumbers : ACode := (.seq (.rg [⟨(some 10), (.asg (.c (.bool false))), none⟩]) (.seq (.seq (.rg [⟨(some 13), (.call (.c (.fn 32 [])) []), none⟩, ⟨(some 14), (.un .not (.t 13)), none⟩]) (.cond (.t 14) (.seq (.rg [⟨(some 10), (.asg (.c (.bool false))), none⟩]) .ret) .skip)) (.seq (.rg [⟨(some 15), (.mv (.t 0)), none⟩, ⟨(some 16), (.cvt (.int .i64) (.t 15)), none⟩, ⟨(some 17), (.call (.c (.fn 46 [])) [(.t 16)]), none⟩, ⟨(some 11), (.asg (.t 17)), none⟩]) (.seq (.seq (.rg [⟨(some 18), (.mv (.t 4)), none⟩]) c_law14_AddrNumbers_p1) (.seq (.rg [⟨(some 21), (.mv (.t 11)), none⟩, ⟨(some 22), (.bin .add (.c (.str [91])) (.t 21)), none⟩, ⟨(some 23), (.bin .add (.t 22) (.c (.str [46]))), none⟩, ⟨(some 24), (.mv (.t 1)), none⟩, ⟨(some 25), (.cvt (.int .i64) (.t 24)), none⟩, ⟨(some 26), (.call (.c (.fn 46 [])) [(.t 25)]), none⟩, ⟨(some 27), (.bin .add (.t 23) (.t 26)), none⟩, ⟨(some 28), (.bin .add (.t 27) (.c (.str [46]))), none⟩, ⟨(some 29), (.mv (.t 2)), none⟩, ⟨(some 30), (.cvt (.int .i64) (.t 29)), none⟩, ⟨(some 31), (.call (.c (.fn 46 [])) [(.t 30)]), none⟩, ⟨(some 32), (.bin .add (.t 28) (.t 31)), none⟩, ⟨(some 33), (.bin .add (.t 32) (.c (.str [46]))), none⟩, ⟨(some 34), (.mv (.t 3)), none⟩, ⟨(some 35), (.cvt (.int .i64) (.t 34)), none⟩, ⟨(some 36), (.call (.c (.fn 46 [])) [(.t 35)]), none⟩, ⟨(some 37), (.bin .add (.t 33) (.t 36)), none⟩, ⟨(some 38), (.bin .add (.t 37) (.c (.str [93]))), none⟩, ⟨(some 12), (.asg (.t 38)), none⟩]) (.seq c_law14_AddrNumbers_p2 .ret))))))
def m_law14_AddrNumbers : ACode := (.seq (.rg [⟨(some 10), (.asg (.c (.bool false))), none⟩]) (.seq (.seq (.rg [⟨(some 13), (.call (.c (.fn 32 [])) []), none⟩, ⟨(some 14), (.un .not (.t 13)), none⟩]) (.cond (.t 14) (.seq (.rg [⟨(some 10), (.asg (.c (.bool false))), none⟩]) .ret) .skip)) (.seq (.rg [⟨(some 15), (.mv (.t 0)), none⟩, ⟨(some 16), (.cvt (.int .i64) (.t 15)), none⟩, ⟨(some 17), (.call (.c (.fn 46 [])) [(.t 16)]), none⟩, ⟨(some 11), (.asg (.t 17)), none⟩]) (.seq (.seq (.rg [⟨(some 18), (.mv (.t 4)), none⟩]) (.sem c_law14_AddrNumbers_p1)) (.seq (.rg [⟨(some 21), (.mv (.t 11)), none⟩, ⟨(some 22), (.bin .add (.c (.str [91])) (.t 21)), none⟩, ⟨(some 23), (.bin .add (.t 22) (.c (.str [46]))), none⟩, ⟨(some 24), (.mv (.t 1)), none⟩, ⟨(some 25), (.cvt (.int .i64) (.t 24)), none⟩, ⟨(some 26), (.call (.c (.fn 46 [])) [(.t 25)]), none⟩, ⟨(some 27), (.bin .add (.t 23) (.t 26)), none⟩, ⟨(some 28), (.bin .add (.t 27) (.c (.str [46]))), none⟩, ⟨(some 29), (.mv (.t 2)), none⟩, ⟨(some 30), (.cvt (.int .i64) (.t 29)), none⟩, ⟨(some 31), (.call (.c (.fn 46 [])) [(.t 30)]), none⟩, ⟨(some 32), (.bin .add (.t 28) (.t 31)), none⟩, ⟨(some 33), (.bin .add (.t 32) (.c (.str [46]))), none⟩, ⟨(some 34), (.mv (.t 3)), none⟩, ⟨(some 35), (.cvt (.int .i64) (.t 34)), none⟩, ⟨(some 36), (.call (.c (.fn 46 [])) [(.t 35)]), none⟩, ⟨(some 37), (.bin .add (.t 33) (.t 36)), none⟩, ⟨(some 38), (.bin .add (.t 37) (.c (.str [93]))), none⟩, ⟨(some 12), (.asg (.t 38)), none⟩]) (.seq (.sem c_law14_AddrNumbers_p2) .ret))))))
theorem k_law14_AddrNumbers : FnOk Tryd.prog 10 61 [(.tmp 10)] c_law14_AddrNumbers := ⟨Tryd.f10, _, rfl, by decide, rfl, by kernel_rfl, rfl, rfl⟩
abbrev L_law14_AddrNumbers : List Nat := [0, 1, 2, 3, 4, 10, 11, 12, 14, 18]
def law14_AddrNumbers_p1 (nought5 : Bool) (r7 : List UInt8) : Option ((List UInt8)) :=
  (if nought5 then
    (cat ([48] : List UInt8) r7).bind fun x8 => some x8
  else
    some r7)
def law14_AddrNumbers_p2 (F : Nat) (x21 : List UInt8) (a1 : Int) (nought5 : Bool) : Option (Bool) :=
  (addr_Domain F x21).bind fun r22 =>
  (if (decide (a1 ≤ 255)) then
    (if (r22 == (!nought5)) then
      (sub x21 1 (x21.length : Int)).bind fun x23 =>
      (addr_Domain F x23).bind fun r24 =>
      (if (!r24) then
        (addr_Domain F x21).bind fun r25 => (ref14_Domain F x21).bind fun r26 => some (r25 == r26)
      else
        some false)
    else
      some false)
  else
    (if (r22 == false) then
      (sub x21 1 (x21.length : Int)).bind fun x27 =>
      (addr_Domain F x27).bind fun r28 =>
      (if (!r28) then
        (addr_Domain F x21).bind fun r29 => (ref14_Domain F x21).bind fun r30 => some (r29 == r30)
      else
        some false)
    else
      some false))
def law14_AddrNumbers (F : Nat) (a1 : Int) (b2 : UInt8) (c3 : UInt8) (d4 : UInt8) (nought5 : Bool) : Option (Bool) :=
  (law14_known F ).bind fun r6 =>
  (if (!r6) then
    some false
  else
    (law14_decimal F (IntKind.wrap .i64 a1)).bind fun r7 =>
    (law14_AddrNumbers_p1 nought5 r7).bind fun nn10 =>
    (cat ([91] : List UInt8) nn10).bind fun x11 =>
    (cat x11 ([46] : List UInt8)).bind fun x12 =>
    (law14_decimal F (IntKind.wrap .i64 (b2.toNat : Int))).bind fun r13 =>
    (cat x12 r13).bind fun x14 =>
    (cat x14 ([46] : List UInt8)).bind fun x15 =>
    (law14_decimal F (IntKind.wrap .i64 (c3.toNat : Int))).bind fun r16 =>
    (cat x15 r16).bind fun x17 =>
    (cat x17 ([46] : List UInt8)).bind fun x18 =>
    (law14_decimal F (IntKind.wrap .i64 (d4.toNat : Int))).bind fun r19 =>
    (cat x18 r19).bind fun x20 =>
    (cat x20 ([93] : List UInt8)).bind fun x21 =>
    (law14_AddrNumbers_p2 F x21 a1 nought5).bind fun t32 =>
    some t32)
set_option maxHeartbeats 2000000 in
theorem law14_AddrNumbers_p1_ok {nought5 : Bool} {r7 : List UInt8} {a1 : Int} {b2 : UInt8} {c3 : UInt8} {d4 : UInt8} {H : AH}  {K : Exit → Env → AH → Prop} {nn9 : List UInt8}
    (h : law14_AddrNumbers_p1 nought5 r7 = some nn9)
    (kn : K .normal [(0, (.int .u16 a1)), (1, (b8 b2)), (2, (b8 c3)), (3, (b8 d4)), (4, (.bool nought5)), (11, (.str nn9))] H) :
    AX Tryd.prog L_law14_AddrNumbers 61 H.length c_law14_AddrNumbers_p1 K [(0, (.int .u16 a1)), (1, (b8 b2)), (2, (b8 c3)), (3, (b8 d4)), (4, (.bool nought5)), (11, (.str r7)), (18, (.bool nought5))] H := by
  refine AX.go (m := m_law14_AddrNumbers_p1) rfl (by decide) fun K' hK => ?_
  rw [law14_AddrNumbers_p1.eq_1] at h
  try simp only [WW, ↓reduceIte, Nat.reduceEqDiff, Nat.reduceLT, Nat.reduceLeDiff, Nat.reduceAdd, Nat.reduceSub, Nat.reduceMul, Nat.reduceBEq, reduceCtorEq, if_false, if_true, L_law14_AddrNumbers, m_law14_AddrNumbers_p1, c_law14_AddrNumbers_p1]
  rcases ifb h with ⟨hy4, h⟩ | ⟨hy4, h⟩
  · refine UC_t hy4 ?_
    obtain ⟨x8, hy5, h⟩ := bnd' h
    try simp only [WW, ↓reduceIte, Nat.reduceEqDiff, Nat.reduceLT, Nat.reduceLeDiff, Nat.reduceAdd, Nat.reduceSub, Nat.reduceMul, Nat.reduceBEq, reduceCtorEq, if_false, if_true, L_law14_AddrNumbers, hy5]
    have hq := Option.some.inj h; subst hq
    refine hK _ _ _ _ _ ?_ (WxH.refl _) (kn )
    exact WE.cons (Wx.int) (WE.cons (Wx.b8) (WE.cons (Wx.b8) (WE.cons (Wx.b8) (WE.cons (Wx.bool) (WE.cons (Wx.str) (WE.nil))))))
  · refine UC_f hy4 ?_
    try simp only [WW, ↓reduceIte, Nat.reduceEqDiff, Nat.reduceLT, Nat.reduceLeDiff, Nat.reduceAdd, Nat.reduceSub, Nat.reduceMul, Nat.reduceBEq, reduceCtorEq, if_false, if_true, L_law14_AddrNumbers]
    have hq := Option.some.inj h; subst hq
    refine hK _ _ _ _ _ ?_ (WxH.refl _) (kn )
    exact WE.cons (Wx.int) (WE.cons (Wx.b8) (WE.cons (Wx.b8) (WE.cons (Wx.b8) (WE.cons (Wx.bool) (WE.cons (Wx.str) (WE.nil))))))
set_option maxHeartbeats 2000000 in
theorem law14_AddrNumbers_p2_ok {F : Nat} {x21 : List UInt8} {a1 : Int} {nought5 : Bool} {H : AH}  {K : Exit → Env → AH → Prop} {t31 : Bool}
    (h : law14_AddrNumbers_p2 F x21 a1 nought5 = some t31)
    (kn : K .normal [(10, (.bool t31))] H) :
    AX Tryd.prog L_law14_AddrNumbers 61 H.length c_law14_AddrNumbers_p2 K [(0, (.int .u16 a1)), (4, (.bool nought5)), (12, (.str x21))] H := by
  refine AX.go (m := m_law14_AddrNumbers_p2) rfl (by decide) fun K' hK => ?_
  rw [law14_AddrNumbers_p2.eq_1] at h
  try simp only [WW, ↓reduceIte, Nat.reduceEqDiff, Nat.reduceLT, Nat.reduceLeDiff, Nat.reduceAdd, Nat.reduceSub, Nat.reduceMul, Nat.reduceBEq, reduceCtorEq, if_false, if_true, L_law14_AddrNumbers, m_law14_AddrNumbers_p2, c_law14_AddrNumbers_p2]
  obtain ⟨r22, hy18, h⟩ := bnd' h
  refine UK_e (as' := [(.str x21)]) (h := addr_Domain_ok (s1 := x21) (F := F)  hy18) (hw := WL.cons (Wx.str) (WL.nil)) (hh := WxH.refl _) ?_
  try simp only [WW, ↓reduceIte, Nat.reduceEqDiff, Nat.reduceLT, Nat.reduceLeDiff, Nat.reduceAdd, Nat.reduceSub, Nat.reduceMul, Nat.reduceBEq, reduceCtorEq, if_false, if_true, L_law14_AddrNumbers]
  rcases ifb h with ⟨hy19, h⟩ | ⟨hy19, h⟩
  · refine UG_go hy19 ?_
    try simp only [WW, ↓reduceIte, Nat.reduceEqDiff, Nat.reduceLT, Nat.reduceLeDiff, Nat.reduceAdd, Nat.reduceSub, Nat.reduceMul, Nat.reduceBEq, reduceCtorEq, if_false, if_true, L_law14_AddrNumbers, hy19]
    rcases ifb h with ⟨hy20, h⟩ | ⟨hy20, h⟩
    · refine UG_go hy20 ?_
      obtain ⟨x23, hy21, h⟩ := bnd' h
      try simp only [WW, ↓reduceIte, Nat.reduceEqDiff, Nat.reduceLT, Nat.reduceLeDiff, Nat.reduceAdd, Nat.reduceSub, Nat.reduceMul, Nat.reduceBEq, reduceCtorEq, if_false, if_true, L_law14_AddrNumbers, hy20, hy21]
      obtain ⟨r24, hy22, h⟩ := bnd' h
      refine UK_e (as' := [(.str x23)]) (h := addr_Domain_ok (s1 := x23) (F := F)  hy22) (hw := WL.cons (Wx.str) (WL.nil)) (hh := WxH.refl _) ?_
      try simp only [WW, ↓reduceIte, Nat.reduceEqDiff, Nat.reduceLT, Nat.reduceLeDiff, Nat.reduceAdd, Nat.reduceSub, Nat.reduceMul, Nat.reduceBEq, reduceCtorEq, if_false, if_true, L_law14_AddrNumbers]
      rcases ifb h with ⟨hy23, h⟩ | ⟨hy23, h⟩
      · refine UG_go hy23 ?_
        try simp only [WW, ↓reduceIte, Nat.reduceEqDiff, Nat.reduceLT, Nat.reduceLeDiff, Nat.reduceAdd, Nat.reduceSub, Nat.reduceMul, Nat.reduceBEq, reduceCtorEq, if_false, if_true, L_law14_AddrNumbers, hy23]
        obtain ⟨r25, hy24, h⟩ := bnd' h
        refine UK_e (as' := [(.str x21)]) (h := addr_Domain_ok (s1 := x21) (F := F)  hy24) (hw := WL.cons (Wx.str) (WL.nil)) (hh := WxH.refl _) ?_
        try simp only [WW, ↓reduceIte, Nat.reduceEqDiff, Nat.reduceLT, Nat.reduceLeDiff, Nat.reduceAdd, Nat.reduceSub, Nat.reduceMul, Nat.reduceBEq, reduceCtorEq, if_false, if_true, L_law14_AddrNumbers]
        obtain ⟨r26, hy25, h⟩ := bnd' h
        refine UK_e (as' := [(.str x21)]) (h := ref14_Domain_ok (s1 := x21) (F := F)  hy25) (hw := WL.cons (Wx.str) (WL.nil)) (hh := WxH.refl _) ?_
        try simp only [WW, ↓reduceIte, Nat.reduceEqDiff, Nat.reduceLT, Nat.reduceLeDiff, Nat.reduceAdd, Nat.reduceSub, Nat.reduceMul, Nat.reduceBEq, reduceCtorEq, if_false, if_true, L_law14_AddrNumbers]
        have hq := Option.some.inj h; subst hq
        refine hK _ _ _ _ _ ?_ (WxH.refl _) (kn )
        exact WE.cons (Wx.bool) (WE.nil)
      · refine UG_nt hy23 ?_
        try simp only [WW, ↓reduceIte, Nat.reduceEqDiff, Nat.reduceLT, Nat.reduceLeDiff, Nat.reduceAdd, Nat.reduceSub, Nat.reduceMul, Nat.reduceBEq, reduceCtorEq, if_false, if_true, L_law14_AddrNumbers, hy23]
        have hq := Option.some.inj h; subst hq
        refine hK _ _ _ _ _ ?_ (WxH.refl _) (kn )
        exact WE.cons (Wx.bool) (WE.nil)
    · refine UG_nt hy20 ?_
      try simp only [WW, ↓reduceIte, Nat.reduceEqDiff, Nat.reduceLT, Nat.reduceLeDiff, Nat.reduceAdd, Nat.reduceSub, Nat.reduceMul, Nat.reduceBEq, reduceCtorEq, if_false, if_true, L_law14_AddrNumbers, hy20]
      have hq := Option.some.inj h; subst hq
      refine hK _ _ _ _ _ ?_ (WxH.refl _) (kn )
      exact WE.cons (Wx.bool) (WE.nil)
  · refine UG_nt hy19 ?_
    try simp only [WW, ↓reduceIte, Nat.reduceEqDiff, Nat.reduceLT, Nat.reduceLeDiff, Nat.reduceAdd, Nat.reduceSub, Nat.reduceMul, Nat.reduceBEq, reduceCtorEq, if_false, if_true, L_law14_AddrNumbers, hy19]
    rcases ifb h with ⟨hy26, h⟩ | ⟨hy26, h⟩
    · refine UG_go hy26 ?_
      obtain ⟨x27, hy27, h⟩ := bnd' h
      try simp only [WW, ↓reduceIte, Nat.reduceEqDiff, Nat.reduceLT, Nat.reduceLeDiff, Nat.reduceAdd, Nat.reduceSub, Nat.reduceMul, Nat.reduceBEq, reduceCtorEq, if_false, if_true, L_law14_AddrNumbers, hy26, hy27]
      obtain ⟨r28, hy28, h⟩ := bnd' h
      refine UK_e (as' := [(.str x27)]) (h := addr_Domain_ok (s1 := x27) (F := F)  hy28) (hw := WL.cons (Wx.str) (WL.nil)) (hh := WxH.refl _) ?_
      try simp only [WW, ↓reduceIte, Nat.reduceEqDiff, Nat.reduceLT, Nat.reduceLeDiff, Nat.reduceAdd, Nat.reduceSub, Nat.reduceMul, Nat.reduceBEq, reduceCtorEq, if_false, if_true, L_law14_AddrNumbers]
      rcases ifb h with ⟨hy29, h⟩ | ⟨hy29, h⟩
      · refine UG_go hy29 ?_
        try simp only [WW, ↓reduceIte, Nat.reduceEqDiff, Nat.reduceLT, Nat.reduceLeDiff, Nat.reduceAdd, Nat.reduceSub, Nat.reduceMul, Nat.reduceBEq, reduceCtorEq, if_false, if_true, L_law14_AddrNumbers, hy29]
        obtain ⟨r29, hy30, h⟩ := bnd' h
        refine UK_e (as' := [(.str x21)]) (h := addr_Domain_ok (s1 := x21) (F := F)  hy30) (hw := WL.cons (Wx.str) (WL.nil)) (hh := WxH.refl _) ?_
        try simp only [WW, ↓reduceIte, Nat.reduceEqDiff, Nat.reduceLT, Nat.reduceLeDiff, Nat.reduceAdd, Nat.reduceSub, Nat.reduceMul, Nat.reduceBEq, reduceCtorEq, if_false, if_true, L_law14_AddrNumbers]
        obtain ⟨r30, hy31, h⟩ := bnd' h
        refine UK_e (as' := [(.str x21)]) (h := ref14_Domain_ok (s1 := x21) (F := F)  hy31) (hw := WL.cons (Wx.str) (WL.nil)) (hh := WxH.refl _) ?_
        try simp only [WW, ↓reduceIte, Nat.reduceEqDiff, Nat.reduceLT, Nat.reduceLeDiff, Nat.reduceAdd, Nat.reduceSub, Nat.reduceMul, Nat.reduceBEq, reduceCtorEq, if_false, if_true, L_law14_AddrNumbers]
        have hq := Option.some.inj h; subst hq
        refine hK _ _ _ _ _ ?_ (WxH.refl _) (kn )
        exact WE.cons (Wx.bool) (WE.nil)
      · refine UG_nt hy29 ?_
        try simp only [WW, ↓reduceIte, Nat.reduceEqDiff, Nat.reduceLT, Nat.reduceLeDiff, Nat.reduceAdd, Nat.reduceSub, Nat.reduceMul, Nat.reduceBEq, reduceCtorEq, if_false, if_true, L_law14_AddrNumbers, hy29]
        have hq := Option.some.inj h; subst hq
        refine hK _ _ _ _ _ ?_ (WxH.refl _) (kn )
        exact WE.cons (Wx.bool) (WE.nil)
    · refine UG_nt hy26 ?_
      try simp only [WW, ↓reduceIte, Nat.reduceEqDiff, Nat.reduceLT, Nat.reduceLeDiff, Nat.reduceAdd, Nat.reduceSub, Nat.reduceMul, Nat.reduceBEq, reduceCtorEq, if_false, if_true, L_law14_AddrNumbers, hy26]
      have hq := Option.some.inj h; subst hq
      refine hK _ _ _ _ _ ?_ (WxH.refl _) (kn )
      exact WE.cons (Wx.bool) (WE.nil)
set_option maxHeartbeats 2000000 in
theorem law14_AddrNumbers_ok {F : Nat} {a1 : Int} {b2 : UInt8} {c3 : UInt8} {d4 : UInt8} {nought5 : Bool}  {H0 : AH}  {rz0 : Bool} (h : law14_AddrNumbers F a1 b2 c3 d4 nought5 = some rz0) :
    ACalls Tryd.prog 10 [(.int .u16 a1), (b8 b2), (b8 c3), (b8 d4), (.bool nought5)] H0 fun v H' => v = (.bool rz0) ∧ H' = H0 := by
  refine ACalls.goX k_law14_AddrNumbers (m := m_law14_AddrNumbers) rfl L_law14_AddrNumbers (by decide) (by simp) fun hcl K0 hK0 => ?_
  refine AX.of_U (m := m_law14_AddrNumbers) rfl (by decide) ?_
  rw [law14_AddrNumbers.eq_1] at h
  try simp only [WW, ↓reduceIte, Nat.reduceEqDiff, Nat.reduceLT, Nat.reduceLeDiff, Nat.reduceAdd, Nat.reduceSub, Nat.reduceMul, Nat.reduceBEq, reduceCtorEq, if_false, if_true, L_law14_AddrNumbers, m_law14_AddrNumbers]
  obtain ⟨r6, hy1, h⟩ := bnd' h
  refine UK_e (as' := []) (h := law14_known_ok  (F := F)  hy1) (hw := WL.nil) (hh := WxH.refl _) ?_
  try simp only [WW, ↓reduceIte, Nat.reduceEqDiff, Nat.reduceLT, Nat.reduceLeDiff, Nat.reduceAdd, Nat.reduceSub, Nat.reduceMul, Nat.reduceBEq, reduceCtorEq, if_false, if_true, L_law14_AddrNumbers]
  rcases ifb h with ⟨hy2, h⟩ | ⟨hy2, h⟩
  · refine UC_t hy2 ?_
    try simp only [WW, ↓reduceIte, Nat.reduceEqDiff, Nat.reduceLT, Nat.reduceLeDiff, Nat.reduceAdd, Nat.reduceSub, Nat.reduceMul, Nat.reduceBEq, reduceCtorEq, if_false, if_true, L_law14_AddrNumbers]
    have hq := Option.some.inj h; subst hq
    refine hK0 _ _ _ (.inr rfl) ?_
    exact fn_endp hcl (resv_tmp (a := (.bool false)) rfl rfl resv_nil) (by first | (simp [fin, b_df, b_sh, b_sh1, b_Cl]; done) | (simp [fin, AV.df, AV.sh, AV.sh1, b_df, b_sh, b_sh1, b_Cl]; done)) (Wx.bool) (r' := (.bool false)) ⟨rfl, rfl⟩
  · refine UC_f hy2 ?_
    try simp only [WW, ↓reduceIte, Nat.reduceEqDiff, Nat.reduceLT, Nat.reduceLeDiff, Nat.reduceAdd, Nat.reduceSub, Nat.reduceMul, Nat.reduceBEq, reduceCtorEq, if_false, if_true, L_law14_AddrNumbers]
    obtain ⟨r7, hy3, h⟩ := bnd' h
    refine UK_e (as' := [(.int .i64 (IntKind.wrap .i64 a1))]) (h := law14_decimal_ok (nn1 := (IntKind.wrap .i64 a1)) (F := F)  hy3) (hw := WL.cons (Wx.int) (WL.nil)) (hh := WxH.refl _) ?_
    try simp only [WW, ↓reduceIte, Nat.reduceEqDiff, Nat.reduceLT, Nat.reduceLeDiff, Nat.reduceAdd, Nat.reduceSub, Nat.reduceMul, Nat.reduceBEq, reduceCtorEq, if_false, if_true, L_law14_AddrNumbers]
    obtain ⟨nn10, hy6, h⟩ := bnd' h
    refine UX_of (AX.weak ?_ (WxH.refl _) (law14_AddrNumbers_p1_ok  (nought5 := nought5) (r7 := r7) (a1 := a1) (b2 := b2) (c3 := c3) (d4 := d4) (nn9 := nn10)   hy6 ?_))
    · exact WE.cons (Wx.int) (WE.cons (Wx.b8) (WE.cons (Wx.b8) (WE.cons (Wx.b8) (WE.cons (Wx.bool) (WE.cons (Wx.str) (WE.cons (Wx.bool) (WE.nil)))))))
    obtain ⟨x11, hy7, h⟩ := bnd' h
    obtain ⟨x12, hy8, h⟩ := bnd' h
    try simp only [WW, ↓reduceIte, Nat.reduceEqDiff, Nat.reduceLT, Nat.reduceLeDiff, Nat.reduceAdd, Nat.reduceSub, Nat.reduceMul, Nat.reduceBEq, reduceCtorEq, if_false, if_true, L_law14_AddrNumbers, hy7, hy8]
    obtain ⟨r13, hy9, h⟩ := bnd' h
    refine UK_e (as' := [(.int .i64 (IntKind.wrap .i64 (b2.toNat : Int)))]) (h := law14_decimal_ok (nn1 := (IntKind.wrap .i64 (b2.toNat : Int))) (F := F)  hy9) (hw := WL.cons (Wx.int) (WL.nil)) (hh := WxH.refl _) ?_
    obtain ⟨x14, hy10, h⟩ := bnd' h
    obtain ⟨x15, hy11, h⟩ := bnd' h
    try simp only [WW, ↓reduceIte, Nat.reduceEqDiff, Nat.reduceLT, Nat.reduceLeDiff, Nat.reduceAdd, Nat.reduceSub, Nat.reduceMul, Nat.reduceBEq, reduceCtorEq, if_false, if_true, L_law14_AddrNumbers, hy10, hy11]
    obtain ⟨r16, hy12, h⟩ := bnd' h
    refine UK_e (as' := [(.int .i64 (IntKind.wrap .i64 (c3.toNat : Int)))]) (h := law14_decimal_ok (nn1 := (IntKind.wrap .i64 (c3.toNat : Int))) (F := F)  hy12) (hw := WL.cons (Wx.int) (WL.nil)) (hh := WxH.refl _) ?_
    obtain ⟨x17, hy13, h⟩ := bnd' h
    obtain ⟨x18, hy14, h⟩ := bnd' h
    try simp only [WW, ↓reduceIte, Nat.reduceEqDiff, Nat.reduceLT, Nat.reduceLeDiff, Nat.reduceAdd, Nat.reduceSub, Nat.reduceMul, Nat.reduceBEq, reduceCtorEq, if_false, if_true, L_law14_AddrNumbers, hy13, hy14]
    obtain ⟨r19, hy15, h⟩ := bnd' h
    refine UK_e (as' := [(.int .i64 (IntKind.wrap .i64 (d4.toNat : Int)))]) (h := law14_decimal_ok (nn1 := (IntKind.wrap .i64 (d4.toNat : Int))) (F := F)  hy15) (hw := WL.cons (Wx.int) (WL.nil)) (hh := WxH.refl _) ?_
    obtain ⟨x20, hy16, h⟩ := bnd' h
    obtain ⟨x21, hy17, h⟩ := bnd' h
    try simp only [WW, ↓reduceIte, Nat.reduceEqDiff, Nat.reduceLT, Nat.reduceLeDiff, Nat.reduceAdd, Nat.reduceSub, Nat.reduceMul, Nat.reduceBEq, reduceCtorEq, if_false, if_true, L_law14_AddrNumbers, hy16, hy17]
    obtain ⟨t32, hy32, h⟩ := bnd' h
    refine UX_of (AX.weak ?_ (WxH.refl _) (law14_AddrNumbers_p2_ok (F := F) (x21 := x21) (a1 := a1) (nought5 := nought5) (t31 := t32)   hy32 ?_))
    · exact WE.cons (Wx.int) (WE.cons (Wx.bool) (WE.cons (Wx.str) (WE.nil)))
    try simp only [WW, ↓reduceIte, Nat.reduceEqDiff, Nat.reduceLT, Nat.reduceLeDiff, Nat.reduceAdd, Nat.reduceSub, Nat.reduceMul, Nat.reduceBEq, reduceCtorEq, if_false, if_true, L_law14_AddrNumbers]
    have hq := Option.some.inj h; subst hq
    refine hK0 _ _ _ (.inr rfl) ?_
    exact fn_endp hcl (resv_tmp (a := (.bool t32)) rfl rfl resv_nil) (by first | (simp [fin, b_df, b_sh, b_sh1, b_Cl]; done) | (simp [fin, AV.df, AV.sh, AV.sh1, b_df, b_sh, b_sh1, b_Cl]; done)) (Wx.bool) (r' := (.bool t32)) ⟨rfl, rfl⟩

end Go.Proofs.AddrS
