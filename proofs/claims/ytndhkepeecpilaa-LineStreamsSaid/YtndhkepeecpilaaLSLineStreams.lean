import Derived.Test.YtndhkepeecpilaaLS1
set_option linter.unusedSimpArgs false
set_option linter.unusedVariables false
set_option linter.unusedSectionVars false
set_option linter.defProp false
set_option maxRecDepth 100000
namespace Go.Proofs.LineS
open Go Go.Am Go.Proofs

/-! ### mailbag/mailbaglaw13.few -/
def c_law13_few_l1b : ACode := (.seq (.seq (.rg [⟨(some 8), (.mv (.t 4)), none⟩, ⟨(some 9), (.mv (.t 0)), none⟩, ⟨(some 10), (.len (.t 9)), none⟩, ⟨(some 11), (.bin .lss (.t 8) (.t 10)), none⟩]) (.cond (.t 11) .skip (.exit 0))) (.seq (.blk 1 (.seq (.seq (.rg [⟨(some 14), (.mv (.t 0)), none⟩, ⟨(some 15), (.mv (.t 4)), none⟩, ⟨(some 16), (.ixa 3 (.t 14) (.t 15)), none⟩, ⟨(some 17), (.fld (.t 16) 2), none⟩, ⟨(some 18), (.ld (.t 17) none), none⟩, ⟨(some 19), (.len (.t 18)), none⟩, ⟨(some 20), (.bin .gtr (.t 19) (.c (.int .i64 4096))), none⟩]) (.cond (.t 20) (.seq (.rg [⟨(some 2), (.asg (.c (.bool false))), none⟩]) .ret) .skip)) (.rg [⟨(some 21), (.mv (.t 3)), none⟩, ⟨(some 22), (.mv (.t 0)), none⟩, ⟨(some 23), (.mv (.t 4)), none⟩, ⟨(some 24), (.ixa 3 (.t 22) (.t 23)), none⟩, ⟨(some 25), (.fld (.t 24) 2), none⟩, ⟨(some 26), (.ld (.t 25) none), none⟩, ⟨(some 27), (.len (.t 26)), none⟩, ⟨(some 28), (.bin .add (.t 21) (.t 27)), none⟩, ⟨(some 3), (.asg (.t 28)), none⟩]))) (.rg [⟨(some 12), (.mv (.t 4)), none⟩, ⟨(some 13), (.bin .add (.t 12) (.c (.int .i64 1))), none⟩, ⟨(some 4), (.asg (.t 13)), none⟩])))
def c_law13_few_l1 : ACode := (.loop c_law13_few_l1b)
abbrev m_law13_few_l1b := c_law13_few_l1b
def c_law13_few : ACode := (.seq (.rg [⟨(some 2), (.asg (.c (.bool false))), none⟩]) (.seq (.seq (.rg [⟨(some 5), (.mv (.t 0)), none⟩, ⟨(some 6), (.len (.t 5)), none⟩, ⟨(some 7), (.bin .gtr (.t 6) (.c (.int .i64 300))), none⟩]) (.cond (.t 7) (.seq (.rg [⟨(some 2), (.asg (.c (.bool false))), none⟩]) .ret) .skip)) (.seq (.rg [⟨(some 3), (.asg (.c (.int .i64 0))), none⟩]) (.seq (.seq (.rg [⟨(some 4), (.asg (.c (.int .i64 0))), none⟩]) (.blk 0 c_law13_few_l1)) (.seq (.rg [⟨(some 29), (.mv (.t 3)), none⟩, ⟨(some 30), (.bin .leq (.t 29) (.c (.int .i64 4096))), none⟩, ⟨(some 2), (.asg (.t 30)), none⟩]) .ret)))))
abbrev m_law13_few := c_law13_few
theorem k_law13_few : FnOk Try.prog 12 31 [(.tmp 2)] c_law13_few := ⟨Try.f12, _, rfl, by decide, rfl, by kernel_rfl, rfl, rfl⟩
abbrev L_law13_few : List Nat := [0, 2, 3, 4, 7, 11, 20]
def law13_few_l1 (l1 : List PieceV) : (Bool × Int × Int) → Option (St Bool Int (Bool × Int × Int))
  | (t2, nn3, i4) =>
    (if (decide (i4 < (l1.length : Int))) then
      (idx l1 i4).bind fun x5 =>
      (if (decide (4096 < (x5.b.length : Int))) then
        some (.ret false)
      else
        some (.nxt (t2, (IntKind.wrap .i64 (nn3 + (x5.b.length : Int))), (IntKind.wrap .i64 (i4 + 1)))))
    else
      some (.brk nn3))
def law13_few (F : Nat) (l1 : List PieceV) : Option (Bool) :=
  (if (decide (300 < (l1.length : Int))) then
    some false
  else
    ((iter (law13_few_l1 l1) F (false, 0, 0)).bind fun o10 =>
    match o10 with
    | .inr nn8 =>
      some (decide (nn8 ≤ 4096))
    | .inl r9 =>
      some r9))
set_option maxHeartbeats 2000000 in
theorem law13_few_l1_ok {F : Nat} {i4 : Int} {l1 : List PieceV} {t2 : Bool} {nn3 : Int} {H : AH}  {K : Exit → Env → AH → Prop} {o : (Bool) ⊕ (Int)}
    (h : iter (law13_few_l1 l1) F (t2, nn3, i4) = some o)
    (kb0 : ∀ o' : Int, o = .inr o' → K (.exit 0) [(3, (.int .i64 o'))] H)
    (kr : ∀ o' : Bool, o = .inl o' → K .ret [(2, (.bool o'))] H) :
    AX Try.prog L_law13_few 31 H.length c_law13_few_l1 K [(0, (.sl .n 3 (ml encPieceV l1))), (2, (.bool t2)), (3, (.int .i64 nn3)), (4, (.int .i64 i4))] H := by
  refine AX.iter (m := m_law13_few_l1b) rfl (by decide) (fun s e H1 => match s with | (t2, nn3, i4) => e = [(0, (.sl .n 3 (ml encPieceV l1))), (2, (.bool t2)), (3, (.int .i64 nn3)), (4, (.int .i64 i4))] ∧ H1 = H) h ⟨rfl, rfl⟩ ?_
  rintro K' ⟨t2, nn3, i4⟩ st e H ⟨rfl, rfl⟩ h hN hB hR hX
  rw [law13_few_l1.eq_1] at h
  simp only [WW, ↓reduceIte, Nat.reduceEqDiff, Nat.reduceLT, Nat.reduceLeDiff, Nat.reduceAdd, Nat.reduceSub, Nat.reduceMul, Nat.reduceBEq, reduceCtorEq, if_false, if_true, L_law13_few, m_law13_few_l1b, c_law13_few_l1b, encLineV, encPieceV]
  rcases ifb h with ⟨hy2, h⟩ | ⟨hy2, h⟩
  · refine UC_t hy2 ?_
    obtain ⟨x5, hy3, h⟩ := bnd' h
    simp only [WW, ↓reduceIte, Nat.reduceEqDiff, Nat.reduceLT, Nat.reduceLeDiff, Nat.reduceAdd, Nat.reduceSub, Nat.reduceMul, Nat.reduceBEq, reduceCtorEq, if_false, if_true, L_law13_few, hy3, encLineV, encPieceV]
    rcases ifb h with ⟨hy4, h⟩ | ⟨hy4, h⟩
    · refine UC_t hy4 ?_
      simp only [WW, ↓reduceIte, Nat.reduceEqDiff, Nat.reduceLT, Nat.reduceLeDiff, Nat.reduceAdd, Nat.reduceSub, Nat.reduceMul, Nat.reduceBEq, reduceCtorEq, if_false, if_true, L_law13_few, encLineV, encPieceV]
      have hq := Option.some.inj h; subst hq
      refine hX _ _ _ _ _ (by simp) ?_ (WxH.refl _) (kr _ (hR _ rfl) )
      exact WE.cons (Wx.bool) (WE.nil)
    · refine UC_f hy4 ?_
      simp only [WW, ↓reduceIte, Nat.reduceEqDiff, Nat.reduceLT, Nat.reduceLeDiff, Nat.reduceAdd, Nat.reduceSub, Nat.reduceMul, Nat.reduceBEq, reduceCtorEq, if_false, if_true, L_law13_few, hy3, encLineV, encPieceV]
      have hq := Option.some.inj h; subst hq
      refine hN _ rfl _ _ _ _ ?_ (WxH.refl _) ⟨rfl, rfl⟩
      exact WE.cons (Wx.nn) (WE.cons (Wx.bool) (WE.cons (Wx.int) (WE.cons (Wx.int) (WE.nil))))
  · refine UC_f hy2 ?_
    simp only [WW, ↓reduceIte, Nat.reduceEqDiff, Nat.reduceLT, Nat.reduceLeDiff, Nat.reduceAdd, Nat.reduceSub, Nat.reduceMul, Nat.reduceBEq, reduceCtorEq, if_false, if_true, L_law13_few, encLineV, encPieceV]
    have hq := Option.some.inj h; subst hq
    refine hX _ _ _ _ _ (by simp) ?_ (WxH.refl _) (kb0 _ (hB _ rfl) )
    exact WE.cons (Wx.int) (WE.nil)
set_option maxHeartbeats 2000000 in
theorem law13_few_ok {F : Nat} {l1 : List PieceV}  {H0 : AH}  {r0 : Bool} (h : law13_few F l1 = some r0) :
    ACalls Try.prog 12 [(.sl .n 3 (ml encPieceV l1))] H0 fun v H' => v = (.bool r0) ∧ H' = H0 := by
  refine ACalls.goX k_law13_few (m := m_law13_few) rfl L_law13_few (by decide) (by simp) fun hcl K0 hK0 => ?_
  refine AX.of_U (m := m_law13_few) rfl (by decide) ?_
  rw [law13_few.eq_1] at h
  simp only [WW, ↓reduceIte, Nat.reduceEqDiff, Nat.reduceLT, Nat.reduceLeDiff, Nat.reduceAdd, Nat.reduceSub, Nat.reduceMul, Nat.reduceBEq, reduceCtorEq, if_false, if_true, L_law13_few, m_law13_few, c_law13_few, encLineV, encPieceV]
  rcases ifb h with ⟨hy1, h⟩ | ⟨hy1, h⟩
  · refine UC_t hy1 ?_
    simp only [WW, ↓reduceIte, Nat.reduceEqDiff, Nat.reduceLT, Nat.reduceLeDiff, Nat.reduceAdd, Nat.reduceSub, Nat.reduceMul, Nat.reduceBEq, reduceCtorEq, if_false, if_true, L_law13_few, encLineV, encPieceV]
    have hq := Option.some.inj h; subst hq
    refine hK0 _ _ _ (.inr rfl) ?_
    exact fn_endp hcl (resv_tmp (a := (.bool false)) rfl rfl resv_nil) (by simp [fin, AV.df, AV.sh, AV.sh1, b_df, b_sh, b_sh1, b_Cl]) (Wx.bool) (r' := (.bool false)) ⟨rfl, rfl⟩
  · refine UC_f hy1 ?_
    simp only [WW, ↓reduceIte, Nat.reduceEqDiff, Nat.reduceLT, Nat.reduceLeDiff, Nat.reduceAdd, Nat.reduceSub, Nat.reduceMul, Nat.reduceBEq, reduceCtorEq, if_false, if_true, L_law13_few, encLineV, encPieceV]
    obtain ⟨o10, hy5, h⟩ := bnd' h
    refine UX_of (AX.weak ?_ (WxH.refl _) (law13_few_l1_ok  (l1 := l1) (t2 := false) (nn3 := 0) (i4 := 0)   (o := o10) hy5 ?_ ?_))
    · exact WE.cons (Wx.nn) (WE.cons (Wx.bool) (WE.cons (Wx.int) (WE.cons (Wx.int) (WE.nil))))
    · rintro nn8 rfl  
      try dsimp only at h 
      simp only [WW, ↓reduceIte, Nat.reduceEqDiff, Nat.reduceLT, Nat.reduceLeDiff, Nat.reduceAdd, Nat.reduceSub, Nat.reduceMul, Nat.reduceBEq, reduceCtorEq, if_false, if_true, L_law13_few, encLineV, encPieceV]
      have hq := Option.some.inj h; subst hq
      refine hK0 _ _ _ (.inr rfl) ?_
      exact fn_endp hcl (resv_tmp (a := (.bool (decide (nn8 ≤ 4096)))) rfl rfl resv_nil) (by simp [fin, AV.df, AV.sh, AV.sh1, b_df, b_sh, b_sh1, b_Cl]) (Wx.bool) (r' := (.bool (decide (nn8 ≤ 4096)))) ⟨rfl, rfl⟩
    · rintro r9 rfl  
      try dsimp only at h 
      simp only [WW, ↓reduceIte, Nat.reduceEqDiff, Nat.reduceLT, Nat.reduceLeDiff, Nat.reduceAdd, Nat.reduceSub, Nat.reduceMul, Nat.reduceBEq, reduceCtorEq, if_false, if_true, L_law13_few, encLineV, encPieceV]
      have hq := Option.some.inj h; subst hq
      refine hK0 _ _ _ (.inr rfl) ?_
      exact fn_endp hcl (resv_tmp (a := (.bool r9)) rfl rfl resv_nil) (by simp [fin, AV.df, AV.sh, AV.sh1, b_df, b_sh, b_sh1, b_Cl]) (Wx.bool) (r' := (.bool r9)) ⟨rfl, rfl⟩

/-! ### mailbag/mailbaglaw13.nexts -/
def c_law13_nexts_p1 : ACode := (.rg [⟨(some 24), (.mv (.t 6)), none⟩, ⟨(some 25), (.mv (.t 10)), none⟩, ⟨(some 26), (.len (.t 25)), none⟩, ⟨(some 27), (.bin .eql (.t 26) (.c (.int .i64 0))), none⟩, ⟨(some 28), (.mv (.t 27)), none⟩, ⟨(some 29), (.ld (.t 8) (some 2)), (some (28, true))⟩, ⟨(some 30), (.build [(.str []), (.bool false)] []), (some (28, true))⟩, ⟨(some 31), (.seq [.s, .b] false (.t 29) (.t 30)), (some (28, true))⟩, ⟨(some 32), (.pick (.t 28) (.t 31) (.c (.bool false))), none⟩, ⟨(some 4), (.asg (.t 24)), none⟩, ⟨(some 5), (.asg (.t 32)), none⟩])
abbrev m_law13_nexts_p1 := c_law13_nexts_p1
def c_law13_nexts_p2 : ACode := (.rg [⟨(some 33), (.mv (.t 10)), none⟩, ⟨(some 34), (.len (.t 33)), none⟩, ⟨(some 35), (.mv (.t 1)), none⟩, ⟨(some 36), (.len (.t 35)), none⟩, ⟨(some 37), (.bin .geq (.t 34) (.t 36)), none⟩, ⟨(some 38), (.mv (.t 37)), none⟩, ⟨(some 39), (.mv (.t 1)), (some (38, false))⟩, ⟨(some 40), (.mv (.t 1)), (some (38, false))⟩, ⟨(some 41), (.len (.t 40)), (some (38, false))⟩, ⟨(some 42), (.mv (.t 10)), (some (38, false))⟩, ⟨(some 43), (.len (.t 42)), (some (38, false))⟩, ⟨(some 44), (.bin .sub (.t 41) (.t 43)), (some (38, false))⟩, ⟨(some 45), (.slc 1 (.t 39) (some (.t 44)) none none), (some (38, false))⟩, ⟨(some 46), (.cvt .bs (.t 45)), (some (38, false))⟩, ⟨(some 47), (.mv (.t 10)), (some (38, false))⟩, ⟨(some 48), (.cvt .bs (.t 47)), (some (38, false))⟩, ⟨(some 49), (.bin .neq (.t 46) (.t 48)), (some (38, false))⟩, ⟨(some 50), (.pick (.t 38) (.c (.bool true)) (.t 49)), none⟩])
abbrev m_law13_nexts_p2 := c_law13_nexts_p2
def c_law13_nexts_l1b : ACode := (.seq (.seq (.rg [⟨(some 11), (.mv (.t 7)), none⟩, ⟨(some 12), (.bin .leq (.t 11) (.c (.int .i64 4096))), none⟩]) (.cond (.t 12) .skip (.exit 0))) (.seq (.blk 1 (.seq (.rg [⟨(some 16), (.mv (.t 0)), none⟩, ⟨(some 17), (.mv (.t 1)), none⟩, ⟨(some 18), (.call (.c (.fn 22 [])) [(.t 16), (.t 17)]), none⟩, ⟨(some 15), (.mv (.t 18)), none⟩, ⟨(some 19), (.ext (.t 15) 0), none⟩, ⟨(some 20), (.ext (.t 15) 1), none⟩, ⟨(some 21), (.ext (.t 15) 2), none⟩, ⟨(some 8), (.alloc [(.str []), (.bool false)]), none⟩, ⟨none, (.st (.t 8) (.t 19) 2), none⟩, ⟨(some 9), (.asg (.t 20)), none⟩, ⟨(some 10), (.asg (.t 21)), none⟩]) (.seq (.seq (.rg [⟨(some 22), (.mv (.t 9)), none⟩, ⟨(some 23), (.un .not (.t 22)), none⟩]) (.cond (.t 23) (.seq c_law13_nexts_p1 .ret) .skip)) (.seq (.seq c_law13_nexts_p2 (.cond (.t 50) (.seq (.rg [⟨(some 51), (.mv (.t 6)), none⟩, ⟨(some 4), (.asg (.t 51)), none⟩, ⟨(some 5), (.asg (.c (.bool false))), none⟩]) .ret) .skip)) (.seq (.rg [⟨(some 52), (.mv (.t 6)), none⟩, ⟨(some 53), (.ld (.t 8) (some 2)), none⟩, ⟨(some 54), (.bsl 2 [(.t 53)]), none⟩, ⟨(some 55), (.app 2 24 (.t 52) (.t 54)), none⟩, ⟨(some 6), (.asg (.t 55)), none⟩]) (.rg [⟨(some 56), (.mv (.t 10)), none⟩, ⟨(some 1), (.asg (.t 56)), none⟩])))))) (.rg [⟨(some 13), (.mv (.t 7)), none⟩, ⟨(some 14), (.bin .add (.t 13) (.c (.int .i64 1))), none⟩, ⟨(some 7), (.asg (.t 14)), none⟩])))
def c_law13_nexts_l1 : ACode := (.loop c_law13_nexts_l1b)
def m_law13_nexts_l1b : ACode := (.seq (.seq (.rg [⟨(some 11), (.mv (.t 7)), none⟩, ⟨(some 12), (.bin .leq (.t 11) (.c (.int .i64 4096))), none⟩]) (.cond (.t 12) .skip (.exit 0))) (.seq (.blk 1 (.seq (.rg [⟨(some 16), (.mv (.t 0)), none⟩, ⟨(some 17), (.mv (.t 1)), none⟩, ⟨(some 18), (.call (.c (.fn 22 [])) [(.t 16), (.t 17)]), none⟩, ⟨(some 15), (.mv (.t 18)), none⟩, ⟨(some 19), (.ext (.t 15) 0), none⟩, ⟨(some 20), (.ext (.t 15) 1), none⟩, ⟨(some 21), (.ext (.t 15) 2), none⟩, ⟨(some 8), (.alloc [(.str []), (.bool false)]), none⟩, ⟨none, (.st (.t 8) (.t 19) 2), none⟩, ⟨(some 9), (.asg (.t 20)), none⟩, ⟨(some 10), (.asg (.t 21)), none⟩]) (.seq (.seq (.rg [⟨(some 22), (.mv (.t 9)), none⟩, ⟨(some 23), (.un .not (.t 22)), none⟩]) (.cond (.t 23) (.seq (.sem c_law13_nexts_p1) .ret) .skip)) (.seq (.seq (.sem c_law13_nexts_p2) (.cond (.t 50) (.seq (.rg [⟨(some 51), (.mv (.t 6)), none⟩, ⟨(some 4), (.asg (.t 51)), none⟩, ⟨(some 5), (.asg (.c (.bool false))), none⟩]) .ret) .skip)) (.seq (.rg [⟨(some 52), (.mv (.t 6)), none⟩, ⟨(some 53), (.ld (.t 8) (some 2)), none⟩, ⟨(some 54), (.bsl 2 [(.t 53)]), none⟩, ⟨(some 55), (.app 2 24 (.t 52) (.t 54)), none⟩, ⟨(some 6), (.asg (.t 55)), none⟩]) (.rg [⟨(some 56), (.mv (.t 10)), none⟩, ⟨(some 1), (.asg (.t 56)), none⟩])))))) (.rg [⟨(some 13), (.mv (.t 7)), none⟩, ⟨(some 14), (.bin .add (.t 13) (.c (.int .i64 1))), none⟩, ⟨(some 7), (.asg (.t 14)), none⟩])))
def c_law13_nexts : ACode := (.seq (.rg [⟨(some 4), (.asg (.c (.sl .ex 2 []))), none⟩, ⟨(some 5), (.asg (.c (.bool false))), none⟩]) (.seq (.rg [⟨(some 6), (.asg (.c (.sl .ex 2 []))), none⟩]) (.seq (.seq (.rg [⟨(some 7), (.asg (.c (.int .i64 0))), none⟩]) (.blk 0 c_law13_nexts_l1)) (.seq (.rg [⟨(some 57), (.mv (.t 6)), none⟩, ⟨(some 4), (.asg (.t 57)), none⟩, ⟨(some 5), (.asg (.c (.bool false))), none⟩]) .ret))))
abbrev m_law13_nexts := c_law13_nexts
theorem k_law13_nexts : FnOk Try.prog 13 58 [(.tmp 4), (.tmp 5)] c_law13_nexts := ⟨Try.f13, _, rfl, by decide, rfl, by kernel_rfl, rfl, rfl⟩
abbrev L_law13_nexts : List Nat := [0, 1, 4, 5, 6, 7, 8, 9, 10, 12, 23, 50]
def law13_nexts_p2 (b4 : List UInt8) (r10 : List UInt8) : Option (Bool) :=
  (if (decide ((b4.length : Int) ≤ (r10.length : Int))) then
    some true
  else
    (sub b4 (IntKind.wrap .i64 ((b4.length : Int) - (r10.length : Int))) (b4.length : Int)).bind fun x14 => some (!decide (x14 = r10)))
def law13_nexts_l1 (F : Nat)  : ((List UInt8) × (List LineV) × Int × SplitterV) → Option (St ((List LineV) × Bool × SplitterV) ((List LineV) × SplitterV) ((List UInt8) × (List LineV) × Int × SplitterV))
  | (b4, out5, kk6, s7) =>
    (if (decide (kk6 ≤ 4096)) then
      (line_Splitter_Next F s7 b4).bind fun (r8, r9, r10, r11) =>
      (if (!r9) then
        some (.ret (out5, ((decide ((r10.length : Int) = 0)) && (decide (r8.text = ([] : List UInt8)) && (r8.long == false))), r11))
      else
        (law13_nexts_p2 b4 r10).bind fun t16 =>
        (if t16 then
          some (.ret (out5, false, r11))
        else
          (capp 24 out5 ([r8] : List LineV)).bind fun x17 => some (.nxt (r10, x17, (IntKind.wrap .i64 (kk6 + 1)), r11))))
    else
      some (.brk (out5, s7)))
def law13_nexts (F : Nat) (s2 : SplitterV) (b3 : List UInt8) : Option ((List LineV) × Bool × SplitterV) :=
  ((iter (law13_nexts_l1 F) F (b3, ([] : List LineV), 0, s2)).bind fun o28 =>
  match o28 with
  | .inr (out23, s24) =>
    some (out23, false, s24)
  | .inl (r25, r26, s27) =>
    some (r25, r26, s27))
set_option maxHeartbeats 2000000 in
theorem law13_nexts_p1_ok {out5 : List LineV} {q12 : Nat} {r10 : List UInt8} {q1 : Nat} {r11 : SplitterV} {r8 : LineV} {H0 H : AH} (hfr : Fr H0 H0.length [q1] H) (hs_o1 : H[q1]? = some [(.int .i64 r11.most), (.sl .own 1 (ml b8 r11.b)), (.int .i64 r11.state), (.bool r11.long)]) (hs_o2 : H[q12]? = some [(.str r8.text), (.bool r8.long)]) (hi0 : q1 < H0.length) (hi1 : H0.length ≤ q12) {K : Exit → Env → AH → Prop}
    (kn : ∀ H' : AH, Fr H0 H0.length [q1] H' → H'[q1]? = some [(.int .i64 r11.most), (.sl .own 1 (ml b8 r11.b)), (.int .i64 r11.state), (.bool r11.long)] → H'[q12]? = some [(.str r8.text), (.bool r8.long)] → K .normal [(4, (.sl .n 2 (ml encLineV out5))), (5, (.bool ((decide ((r10.length : Int) = 0)) && (decide (r8.text = ([] : List UInt8)) && (r8.long == false)))))] H') :
    AX Try.prog L_law13_nexts 58 H0.length c_law13_nexts_p1 K [(6, (.sl .own 2 (ml encLineV out5))), (8, (.ptr q12 0)), (10, (.sl .n 1 (ml b8 r10)))] H := by
  refine AX.go (m := m_law13_nexts_p1) rfl (by decide) fun K' hK => ?_
  have hle := hfr.le
  have hl_o1 := h_lt hs_o1
  have hl_o2 := h_lt hs_o2
  simp (disch := first | assumption | omega | (simp only [h_sl, h_al] <;> omega) | fail) only [WW, WH, ↓reduceIte, Nat.reduceEqDiff, Nat.reduceLT, Nat.reduceLeDiff, Nat.reduceAdd, Nat.reduceSub, Nat.reduceMul, Nat.reduceBEq, reduceCtorEq, if_false, if_true, L_law13_nexts, m_law13_nexts_p1, c_law13_nexts_p1, hs_o1, hs_o2, encLineV, encPieceV]
  rcases bcases ((decide ((r10.length : Int) = 0))) with hy4 | hy4
  · refine UG_go hy4 ?_
    simp (disch := first | assumption | omega | (simp only [h_sl, h_al] <;> omega) | fail) only [WW, WH, ↓reduceIte, Nat.reduceEqDiff, Nat.reduceLT, Nat.reduceLeDiff, Nat.reduceAdd, Nat.reduceSub, Nat.reduceMul, Nat.reduceBEq, reduceCtorEq, if_false, if_true, L_law13_nexts, hy4, hs_o1, hs_o2, encLineV, encPieceV]
    refine hK _ _ _ _ _ ?_ (WxH.refl _) (kn _ hfr ((hs_o1).trans rfl) ((hs_o2).trans rfl))
    exact WE.cons (Wx.nn) (WE.cons (Wx.boolE (by simp only [hy4, WB])) (WE.nil))
  · refine UG_nt hy4 ?_
    simp (disch := first | assumption | omega | (simp only [h_sl, h_al] <;> omega) | fail) only [WW, WH, ↓reduceIte, Nat.reduceEqDiff, Nat.reduceLT, Nat.reduceLeDiff, Nat.reduceAdd, Nat.reduceSub, Nat.reduceMul, Nat.reduceBEq, reduceCtorEq, if_false, if_true, L_law13_nexts, hy4, hs_o1, hs_o2, encLineV, encPieceV]
    refine hK _ _ _ _ _ ?_ (WxH.refl _) (kn _ hfr ((hs_o1).trans rfl) ((hs_o2).trans rfl))
    exact WE.cons (Wx.nn) (WE.cons (Wx.boolE (by simp only [hy4, WB])) (WE.nil))
set_option maxHeartbeats 2000000 in
theorem law13_nexts_p2_ok {b4 : List UInt8} {r10 : List UInt8} {q1 : Nat} {out5 : List LineV} {kk6 : Int} {q13 : Nat} {r11 : SplitterV} {r8 : LineV} {H0 H : AH} (hfr : Fr H0 H0.length [q1] H) (hs_o1 : H[q1]? = some [(.int .i64 r11.most), (.sl .own 1 (ml b8 r11.b)), (.int .i64 r11.state), (.bool r11.long)]) (hs_o2 : H[q13]? = some [(.str r8.text), (.bool r8.long)]) (hi0 : q1 < H0.length) (hi1 : H0.length ≤ q13) {K : Exit → Env → AH → Prop} {t15 : Bool}
    (h : law13_nexts_p2 b4 r10 = some t15)
    (kn : ∀ H' : AH, Fr H0 H0.length [q1] H' → H'[q1]? = some [(.int .i64 r11.most), (.sl .own 1 (ml b8 r11.b)), (.int .i64 r11.state), (.bool r11.long)] → H'[q13]? = some [(.str r8.text), (.bool r8.long)] → K .normal [(0, (.ptr q1 0)), (6, (.sl .own 2 (ml encLineV out5))), (7, (.int .i64 kk6)), (8, (.ptr q13 0)), (10, (.sl .n 1 (ml b8 r10))), (50, (.bool t15))] H') :
    AX Try.prog L_law13_nexts 58 H0.length c_law13_nexts_p2 K [(0, (.ptr q1 0)), (1, (.sl .n 1 (ml b8 b4))), (6, (.sl .own 2 (ml encLineV out5))), (7, (.int .i64 kk6)), (8, (.ptr q13 0)), (10, (.sl .n 1 (ml b8 r10)))] H := by
  refine AX.go (m := m_law13_nexts_p2) rfl (by decide) fun K' hK => ?_
  have hle := hfr.le
  have hl_o1 := h_lt hs_o1
  have hl_o2 := h_lt hs_o2
  rw [law13_nexts_p2.eq_1] at h
  simp (disch := first | assumption | omega | (simp only [h_sl, h_al] <;> omega) | fail) only [WW, WH, ↓reduceIte, Nat.reduceEqDiff, Nat.reduceLT, Nat.reduceLeDiff, Nat.reduceAdd, Nat.reduceSub, Nat.reduceMul, Nat.reduceBEq, reduceCtorEq, if_false, if_true, L_law13_nexts, m_law13_nexts_p2, c_law13_nexts_p2, hs_o1, hs_o2, encLineV, encPieceV]
  rcases ifb h with ⟨hy5, h⟩ | ⟨hy5, h⟩
  · refine UG_nf hy5 ?_
    simp (disch := first | assumption | omega | (simp only [h_sl, h_al] <;> omega) | fail) only [WW, WH, ↓reduceIte, Nat.reduceEqDiff, Nat.reduceLT, Nat.reduceLeDiff, Nat.reduceAdd, Nat.reduceSub, Nat.reduceMul, Nat.reduceBEq, reduceCtorEq, if_false, if_true, L_law13_nexts, hy5, hs_o1, hs_o2, encLineV, encPieceV]
    have hq := Option.some.inj h; subst hq
    refine hK _ _ _ _ _ ?_ (WxH.refl _) (kn _ hfr ((hs_o1).trans rfl) ((hs_o2).trans rfl))
    exact WE.cons (Wx.ptr) (WE.cons (Wx.oo) (WE.cons (Wx.int) (WE.cons (Wx.ptr) (WE.cons (Wx.nn) (WE.cons (Wx.bool) (WE.nil))))))
  · refine UG_go hy5 ?_
    obtain ⟨x14, hy6, h⟩ := bnd' h
    have hy7 := sub_m (f := b8) hy6
    simp (disch := first | assumption | omega | (simp only [h_sl, h_al] <;> omega) | fail) only [WW, WH, ↓reduceIte, Nat.reduceEqDiff, Nat.reduceLT, Nat.reduceLeDiff, Nat.reduceAdd, Nat.reduceSub, Nat.reduceMul, Nat.reduceBEq, reduceCtorEq, if_false, if_true, L_law13_nexts, hy5, hy6, hs_o1, hs_o2, encLineV, encPieceV]
    have hq := Option.some.inj h; subst hq
    refine hK _ _ _ _ _ ?_ (WxH.refl _) (kn _ hfr ((hs_o1).trans rfl) ((hs_o2).trans rfl))
    exact WE.cons (Wx.ptr) (WE.cons (Wx.oo) (WE.cons (Wx.int) (WE.cons (Wx.ptr) (WE.cons (Wx.nn) (WE.cons (Wx.bool) (WE.nil))))))
set_option maxHeartbeats 2000000 in
theorem law13_nexts_l1_ok {F : Nat} {kk6 : Int} {s7 : SplitterV} {b4 : List UInt8} {out5 : List LineV} {q1 : Nat} {H0 H : AH} (hfr : Fr H0 H0.length [q1] H) (hs_o1 : H[q1]? = some [(.int .i64 s7.most), (.sl .own 1 (ml b8 s7.b)), (.int .i64 s7.state), (.bool s7.long)]) (hi0 : q1 < H0.length) {K : Exit → Env → AH → Prop} {o : ((List LineV) × Bool × SplitterV) ⊕ ((List LineV) × SplitterV)}
    (h : iter (law13_nexts_l1 F) F (b4, out5, kk6, s7) = some o)
    (kb0 : ∀ o' : (List LineV) × SplitterV, o = .inr o' → ∀ H' : AH, Fr H0 H0.length [q1] H' → H'[q1]? = some [(.int .i64 o'.2.most), (.sl .own 1 (ml b8 o'.2.b)), (.int .i64 o'.2.state), (.bool o'.2.long)] → K (.exit 0) [(6, (.sl .own 2 (ml encLineV o'.1)))] H')
    (kr : ∀ o' : (List LineV) × Bool × SplitterV, o = .inl o' → ∀ H' : AH, Fr H0 H0.length [q1] H' → H'[q1]? = some [(.int .i64 o'.2.2.most), (.sl .own 1 (ml b8 o'.2.2.b)), (.int .i64 o'.2.2.state), (.bool o'.2.2.long)] → K .ret [(4, (.sl .n 2 (ml encLineV o'.1))), (5, (.bool o'.2.1))] H') :
    AX Try.prog L_law13_nexts 58 H0.length c_law13_nexts_l1 K [(0, (.ptr q1 0)), (1, (.sl .n 1 (ml b8 b4))), (6, (.sl .own 2 (ml encLineV out5))), (7, (.int .i64 kk6))] H := by
  refine AX.iter (m := m_law13_nexts_l1b) rfl (by decide) (fun s e H1 => match s with | (b4, out5, kk6, s7) => e = [(0, (.ptr q1 0)), (1, (.sl .n 1 (ml b8 b4))), (6, (.sl .own 2 (ml encLineV out5))), (7, (.int .i64 kk6))] ∧ Fr H0 H0.length [q1] H1 ∧ H1[q1]? = some [(.int .i64 s7.most), (.sl .own 1 (ml b8 s7.b)), (.int .i64 s7.state), (.bool s7.long)]) h ⟨rfl, hfr, hs_o1⟩ ?_
  skip
  rintro K' ⟨b4, out5, kk6, s7⟩ st e H ⟨rfl, hfr, hs_o1⟩ h hN hB hR hX
  have hle := hfr.le
  have hl_o1 := h_lt hs_o1
  rw [law13_nexts_l1.eq_1] at h
  simp (disch := first | assumption | omega | (simp only [h_sl, h_al] <;> omega) | fail) only [WW, WH, ↓reduceIte, Nat.reduceEqDiff, Nat.reduceLT, Nat.reduceLeDiff, Nat.reduceAdd, Nat.reduceSub, Nat.reduceMul, Nat.reduceBEq, reduceCtorEq, if_false, if_true, L_law13_nexts, m_law13_nexts_l1b, hs_o1, encLineV, encPieceV]
  rcases ifb h with ⟨hy1, h⟩ | ⟨hy1, h⟩
  · refine UC_t hy1 ?_
    simp (disch := first | assumption | omega | (simp only [h_sl, h_al] <;> omega) | fail) only [WW, WH, ↓reduceIte, Nat.reduceEqDiff, Nat.reduceLT, Nat.reduceLeDiff, Nat.reduceAdd, Nat.reduceSub, Nat.reduceMul, Nat.reduceBEq, reduceCtorEq, if_false, if_true, L_law13_nexts, hs_o1, encLineV, encPieceV]
    obtain ⟨⟨r8, r9, r10, r11⟩, hy2, h⟩ := bnd' h
    dsimp only at h
    refine UK_e (as' := [(.ptr q1 0), (.sl .n 1 (ml b8 b4))]) (h := line_Splitter_Next_ok (s2 := s7) (b3 := b4) (q1 := q1) (F := F) (by exact ((hs_o1).trans rfl)) hy2) (hw := WL.cons (Wx.ptr) (WL.cons (Wx.nn) (WL.nil))) (hh := WxH.refl _) ?_
    simp (disch := first | assumption | omega | (simp only [h_sl, h_al] <;> omega) | fail) only [WW, WH, ↓reduceIte, Nat.reduceEqDiff, Nat.reduceLT, Nat.reduceLeDiff, Nat.reduceAdd, Nat.reduceSub, Nat.reduceMul, Nat.reduceBEq, reduceCtorEq, if_false, if_true, L_law13_nexts, hs_o1, encLineV, encPieceV]
    rcases ifb h with ⟨hy3, h⟩ | ⟨hy3, h⟩
    · refine UC_t hy3 ?_
      simp (disch := first | assumption | omega | (simp only [h_sl, h_al] <;> omega) | fail) only [WW, WH, ↓reduceIte, Nat.reduceEqDiff, Nat.reduceLT, Nat.reduceLeDiff, Nat.reduceAdd, Nat.reduceSub, Nat.reduceMul, Nat.reduceBEq, reduceCtorEq, if_false, if_true, L_law13_nexts, hs_o1, encLineV, encPieceV]
      obtain ⟨q12, hg_q12⟩ : ∃ q : Nat, H.length = q := ⟨_, rfl⟩
      try rw [hg_q12]
      refine UX_of (AX.weak ?_ (WxH.refl _) (law13_nexts_p1_ok (out5 := out5) (q12 := q12) (r10 := r10) (q1 := q1) (r11 := r11) (r8 := r8) ((Fr.set (s := q12) (Fr.app (Fr.set (s := q1) hfr (.inl (by simp)))) (.inr (by first | assumption | omega | (simp only [h_sl, h_al] <;> omega) | fail)))) (((h_ne (by first | assumption | omega | (simp only [h_sl, h_al] <;> omega) | fail)).trans ((h_app (by first | assumption | omega | (simp only [h_sl, h_al] <;> omega) | fail)).trans (h_eq (by first | assumption | omega | (simp only [h_sl, h_al] <;> omega) | fail)))).trans rfl) ((h_eq (by first | assumption | omega | (simp only [h_sl, h_al] <;> omega) | fail)).trans rfl) (by first | assumption | omega | (simp only [h_sl, h_al] <;> omega) | fail) (by first | assumption | omega | (simp only [h_sl, h_al] <;> omega) | fail) ?_))
      · exact WE.cons (Wx.oo) (WE.cons (Wx.ptr) (WE.cons (Wx.nn) (WE.nil)))
      intro H hfr hs_o1 hs_o2
      have hle := hfr.le
      have hl_o1 := h_lt hs_o1
      have hl_o2 := h_lt hs_o2
      simp (disch := first | assumption | omega | (simp only [h_sl, h_al] <;> omega) | fail) only [WW, WH, ↓reduceIte, Nat.reduceEqDiff, Nat.reduceLT, Nat.reduceLeDiff, Nat.reduceAdd, Nat.reduceSub, Nat.reduceMul, Nat.reduceBEq, reduceCtorEq, if_false, if_true, L_law13_nexts, hs_o1, hs_o2, encLineV, encPieceV]
      have hq := Option.some.inj h; subst hq
      refine hX _ _ _ _ _ (by simp) ?_ (WxH.refl _) (kr _ (hR _ rfl) _ hfr ((hs_o1).trans rfl))
      exact WE.cons (Wx.nn) (WE.cons (Wx.bool) (WE.nil))
    · refine UC_f hy3 ?_
      simp (disch := first | assumption | omega | (simp only [h_sl, h_al] <;> omega) | fail) only [WW, WH, ↓reduceIte, Nat.reduceEqDiff, Nat.reduceLT, Nat.reduceLeDiff, Nat.reduceAdd, Nat.reduceSub, Nat.reduceMul, Nat.reduceBEq, reduceCtorEq, if_false, if_true, L_law13_nexts, hs_o1, encLineV, encPieceV]
      obtain ⟨q13, hg_q13⟩ : ∃ q : Nat, H.length = q := ⟨_, rfl⟩
      try rw [hg_q13]
      obtain ⟨t16, hy8, h⟩ := bnd' h
      refine UX_of (AX.weak ?_ (WxH.refl _) (law13_nexts_p2_ok  (b4 := b4) (r10 := r10) (q1 := q1) (out5 := out5) (kk6 := kk6) (r11 := r11) (r8 := r8) (t15 := t16) (q13 := q13) ((Fr.set (s := q13) (Fr.app (Fr.set (s := q1) hfr (.inl (by simp)))) (.inr (by first | assumption | omega | (simp only [h_sl, h_al] <;> omega) | fail)))) (((h_ne (by first | assumption | omega | (simp only [h_sl, h_al] <;> omega) | fail)).trans ((h_app (by first | assumption | omega | (simp only [h_sl, h_al] <;> omega) | fail)).trans (h_eq (by first | assumption | omega | (simp only [h_sl, h_al] <;> omega) | fail)))).trans rfl) ((h_eq (by first | assumption | omega | (simp only [h_sl, h_al] <;> omega) | fail)).trans rfl) (by first | assumption | omega | (simp only [h_sl, h_al] <;> omega) | fail) (by first | assumption | omega | (simp only [h_sl, h_al] <;> omega) | fail) hy8 ?_))
      · exact WE.cons (Wx.ptr) (WE.cons (Wx.nn) (WE.cons (Wx.oo) (WE.cons (Wx.int) (WE.cons (Wx.ptr) (WE.cons (Wx.nn) (WE.nil))))))
      intro H hfr hs_o1 hs_o2
      have hle := hfr.le
      have hl_o1 := h_lt hs_o1
      have hl_o2 := h_lt hs_o2
      simp (disch := first | assumption | omega | (simp only [h_sl, h_al] <;> omega) | fail) only [WW, WH, ↓reduceIte, Nat.reduceEqDiff, Nat.reduceLT, Nat.reduceLeDiff, Nat.reduceAdd, Nat.reduceSub, Nat.reduceMul, Nat.reduceBEq, reduceCtorEq, if_false, if_true, L_law13_nexts, hs_o1, hs_o2, encLineV, encPieceV]
      rcases ifb h with ⟨hy9, h⟩ | ⟨hy9, h⟩
      · refine UC_t hy9 ?_
        simp (disch := first | assumption | omega | (simp only [h_sl, h_al] <;> omega) | fail) only [WW, WH, ↓reduceIte, Nat.reduceEqDiff, Nat.reduceLT, Nat.reduceLeDiff, Nat.reduceAdd, Nat.reduceSub, Nat.reduceMul, Nat.reduceBEq, reduceCtorEq, if_false, if_true, L_law13_nexts, hs_o1, hs_o2, encLineV, encPieceV]
        have hq := Option.some.inj h; subst hq
        refine hX _ _ _ _ _ (by simp) ?_ (WxH.refl _) (kr _ (hR _ rfl) _ hfr ((hs_o1).trans rfl))
        exact WE.cons (Wx.nn) (WE.cons (Wx.bool) (WE.nil))
      · refine UC_f hy9 ?_
        obtain ⟨x17, hy10, h⟩ := bnd' h
        have hy11 : capp 24 (ml encLineV out5) [(.agg [(.str r8.text), (.bool r8.long)])] = some (ml encLineV x17) := capp_m (f := encLineV) hy10
        simp (disch := first | assumption | omega | (simp only [h_sl, h_al] <;> omega) | fail) only [WW, WH, ↓reduceIte, Nat.reduceEqDiff, Nat.reduceLT, Nat.reduceLeDiff, Nat.reduceAdd, Nat.reduceSub, Nat.reduceMul, Nat.reduceBEq, reduceCtorEq, if_false, if_true, L_law13_nexts, hy11, hs_o1, hs_o2, encLineV, encPieceV]
        have hq := Option.some.inj h; subst hq
        refine hN _ rfl _ _ _ _ ?_ (WxH.refl _) ⟨rfl, hfr, ((hs_o1).trans rfl)⟩
        exact WE.cons (Wx.ptr) (WE.cons (Wx.nn) (WE.cons (Wx.oo) (WE.cons (Wx.int) (WE.nil))))
  · refine UC_f hy1 ?_
    simp (disch := first | assumption | omega | (simp only [h_sl, h_al] <;> omega) | fail) only [WW, WH, ↓reduceIte, Nat.reduceEqDiff, Nat.reduceLT, Nat.reduceLeDiff, Nat.reduceAdd, Nat.reduceSub, Nat.reduceMul, Nat.reduceBEq, reduceCtorEq, if_false, if_true, L_law13_nexts, hs_o1, encLineV, encPieceV]
    have hq := Option.some.inj h; subst hq
    refine hX _ _ _ _ _ (by simp) ?_ (WxH.refl _) (kb0 _ (hB _ rfl) _ hfr ((hs_o1).trans rfl))
    exact WE.cons (Wx.oo) (WE.nil)
set_option maxHeartbeats 2000000 in
theorem law13_nexts_ok {F : Nat} {s2 : SplitterV} {b3 : List UInt8} {q1 : Nat} {H0 : AH} (hs_o1 : H0[q1]? = some [(.int .i64 s2.most), (.sl .own 1 (ml b8 s2.b)), (.int .i64 s2.state), (.bool s2.long)]) {r0 : List LineV} {r1 : Bool} {r2 : SplitterV} (h : law13_nexts F s2 b3 = some (r0, r1, r2)) :
    ACalls Try.prog 13 [(.ptr q1 0), (.sl .n 1 (ml b8 b3))] H0 fun v H' => v = (.tup [(.sl .n 2 (ml encLineV r0)), (.bool r1)]) ∧ H' = (H0.set q1 [(.int .i64 r2.most), (.sl .own 1 (ml b8 r2.b)), (.int .i64 r2.state), (.bool r2.long)]) := by
  refine ACalls.goX k_law13_nexts (m := m_law13_nexts) rfl L_law13_nexts (by decide) (by simp) fun hcl K0 hK0 => ?_
  refine AX.of_U (m := m_law13_nexts) rfl (by decide) ?_
  have hl_o1 := h_lt hs_o1
  have hfr := Fr.refl H0 [q1]
  have hle := hfr.le
  rw [law13_nexts.eq_1] at h
  obtain ⟨H, hHH⟩ : ∃ H, H = H0 := ⟨_, rfl⟩
  have hfr : Fr H0 H0.length [q1] H := hHH ▸ hfr
  have hs_o1 : H[q1]? = some [(.int .i64 s2.most), (.sl .own 1 (ml b8 s2.b)), (.int .i64 s2.state), (.bool s2.long)] := hHH ▸ hs_o1
  have hle := hfr.le
  have hL_o1 : q1 < H.length := h_lt hs_o1
  suffices hU : U Try.prog L_law13_nexts 58 H0.length [.code m_law13_nexts] K0 .normal (argE 0 [(.ptr q1 0), (.sl .n 1 (ml b8 b3))]) H by rwa [hHH] at hU
  simp (disch := first | assumption | omega | (simp only [h_sl, h_al] <;> omega) | fail) only [WW, WH, ↓reduceIte, Nat.reduceEqDiff, Nat.reduceLT, Nat.reduceLeDiff, Nat.reduceAdd, Nat.reduceSub, Nat.reduceMul, Nat.reduceBEq, reduceCtorEq, if_false, if_true, L_law13_nexts, m_law13_nexts, c_law13_nexts, hs_o1, encLineV, encPieceV]
  obtain ⟨o28, hy12, h⟩ := bnd' h
  refine UX_of (AX.weak ?_ (WxH.refl _) (law13_nexts_l1_ok  (q1 := q1) (b4 := b3) (out5 := ([] : List LineV)) (kk6 := 0) (s7 := s2)  (hfr) ((hs_o1).trans rfl) (by first | assumption | omega | (simp only [h_sl, h_al] <;> omega) | fail) (o := o28) hy12 ?_ ?_))
  · exact WE.cons (Wx.ptr) (WE.cons (Wx.nn) (WE.cons (Wx.own ..) (WE.cons (Wx.int) (WE.nil))))
  · rintro ⟨out23, s24⟩ rfl H hfr hs_o1
    try dsimp only at h hs_o1
    have hle := hfr.le
    have hl_o1 := h_lt hs_o1
    simp (disch := first | assumption | omega | (simp only [h_sl, h_al] <;> omega) | fail) only [WW, WH, ↓reduceIte, Nat.reduceEqDiff, Nat.reduceLT, Nat.reduceLeDiff, Nat.reduceAdd, Nat.reduceSub, Nat.reduceMul, Nat.reduceBEq, reduceCtorEq, if_false, if_true, L_law13_nexts, hs_o1, encLineV, encPieceV]
    have hq := Option.some.inj h; have hq0 := (Prod.mk.inj hq).1; replace hq := (Prod.mk.inj hq).2; have hq1 := (Prod.mk.inj hq).1; replace hq := (Prod.mk.inj hq).2; subst hq0; subst hq1; subst hq
    refine hK0 _ _ _ (.inr rfl) ?_
    exact fn_end1 (by exact hfr) hcl (resv_tmp (a := (.sl .n 2 (ml encLineV out23))) rfl rfl (resv_tmp (a := (.bool false)) rfl rfl resv_nil)) (by simp [fin, AV.df, AV.sh, AV.sh1, b_df, b_sh, b_sh1, b_Cl]) (Wx.tup (W1L.same (W1L.same (W1L.nil)))) (by exact ((hs_o1).trans rfl)) (by first | assumption | omega | (simp only [h_sl, h_al] <;> omega) | fail) (by simp [b_Cl]; try omega) (WxC.cons (Wx.int) (WxC.cons (Wx.oo) (WxC.cons (Wx.int) (WxC.cons (Wx.bool) (WxC.nil))))) (r' := (.tup [(.sl .n 2 (ml encLineV out23)), (.bool false)])) ⟨rfl, rfl⟩
  · rintro ⟨r25, r26, s27⟩ rfl H hfr hs_o1
    try dsimp only at h hs_o1
    have hle := hfr.le
    have hl_o1 := h_lt hs_o1
    simp (disch := first | assumption | omega | (simp only [h_sl, h_al] <;> omega) | fail) only [WW, WH, ↓reduceIte, Nat.reduceEqDiff, Nat.reduceLT, Nat.reduceLeDiff, Nat.reduceAdd, Nat.reduceSub, Nat.reduceMul, Nat.reduceBEq, reduceCtorEq, if_false, if_true, L_law13_nexts, hs_o1, encLineV, encPieceV]
    have hq := Option.some.inj h; have hq0 := (Prod.mk.inj hq).1; replace hq := (Prod.mk.inj hq).2; have hq1 := (Prod.mk.inj hq).1; replace hq := (Prod.mk.inj hq).2; subst hq0; subst hq1; subst hq
    refine hK0 _ _ _ (.inr rfl) ?_
    exact fn_end1 (by exact hfr) hcl (resv_tmp (a := (.sl .n 2 (ml encLineV r25))) rfl rfl (resv_tmp (a := (.bool r26)) rfl rfl resv_nil)) (by simp [fin, AV.df, AV.sh, AV.sh1, b_df, b_sh, b_sh1, b_Cl]) (Wx.tup (W1L.same (W1L.same (W1L.nil)))) (by exact ((hs_o1).trans rfl)) (by first | assumption | omega | (simp only [h_sl, h_al] <;> omega) | fail) (by simp [b_Cl]; try omega) (WxC.cons (Wx.int) (WxC.cons (Wx.oo) (WxC.cons (Wx.int) (WxC.cons (Wx.bool) (WxC.nil))))) (r' := (.tup [(.sl .n 2 (ml encLineV r25)), (.bool r26)])) ⟨rfl, rfl⟩

/-! ### (*mailbag/mailbagref13.Splitter).Reset -/
def c_ref13_Splitter_Reset : ACode := (.seq (.rg [⟨(some 2), (.mv (.t 0)), none⟩, ⟨(some 3), (.nck (.t 2)), none⟩, ⟨(some 4), (.fld (.t 3) 1), none⟩, ⟨none, (.st (.t 4) (.c (.sl .ex 1 [])) 1), none⟩]) (.seq (.rg [⟨(some 5), (.mv (.t 0)), none⟩, ⟨(some 6), (.nck (.t 5)), none⟩, ⟨(some 7), (.fld (.t 6) 2), none⟩, ⟨none, (.st (.t 7) (.c (.int .i64 0)) 1), none⟩]) (.rg [⟨(some 8), (.mv (.t 0)), none⟩, ⟨(some 9), (.nck (.t 8)), none⟩, ⟨(some 10), (.fld (.t 9) 3), none⟩, ⟨none, (.st (.t 10) (.c (.bool false)) 1), none⟩])))
abbrev m_ref13_Splitter_Reset := c_ref13_Splitter_Reset
theorem k_ref13_Splitter_Reset : FnOk Try.prog 19 11 [] c_ref13_Splitter_Reset := ⟨Try.f19, _, rfl, by decide, rfl, by kernel_rfl, rfl, rfl⟩
abbrev L_ref13_Splitter_Reset : List Nat := [0]
def ref13_Splitter_Reset (s2 : SplitterVx) : Option (SplitterVx) :=
  some (SplitterVx.mk s2.most ([] : List UInt8) 0 false)
set_option maxHeartbeats 2000000 in
theorem ref13_Splitter_Reset_ok {s2 : SplitterVx} {q1 : Nat} {H0 : AH} (hs_o1 : H0[q1]? = some [(.int .i64 s2.most), (.sl .own 1 (ml b8 s2.b)), (.int .i64 s2.n), (.bool s2.cR)]) {r0 : SplitterVx} (h : ref13_Splitter_Reset s2 = some r0) :
    ACalls Try.prog 19 [(.ptr q1 0)] H0 fun v H' => v = (.tup []) ∧ H' = (H0.set q1 [(.int .i64 r0.most), (.sl .own 1 (ml b8 r0.b)), (.int .i64 r0.n), (.bool r0.cR)]) := by
  refine ACalls.goX k_ref13_Splitter_Reset (m := m_ref13_Splitter_Reset) rfl L_ref13_Splitter_Reset (by decide) (by simp) fun hcl K0 hK0 => ?_
  refine AX.of_U (m := m_ref13_Splitter_Reset) rfl (by decide) ?_
  have hl_o1 := h_lt hs_o1
  have hfr := Fr.refl H0 [q1]
  have hle := hfr.le
  rw [ref13_Splitter_Reset.eq_1] at h
  obtain ⟨H, hHH⟩ : ∃ H, H = H0 := ⟨_, rfl⟩
  have hfr : Fr H0 H0.length [q1] H := hHH ▸ hfr
  have hs_o1 : H[q1]? = some [(.int .i64 s2.most), (.sl .own 1 (ml b8 s2.b)), (.int .i64 s2.n), (.bool s2.cR)] := hHH ▸ hs_o1
  have hle := hfr.le
  have hL_o1 : q1 < H.length := h_lt hs_o1
  suffices hU : U Try.prog L_ref13_Splitter_Reset 11 H0.length [.code m_ref13_Splitter_Reset] K0 .normal (argE 0 [(.ptr q1 0)]) H by rwa [hHH] at hU
  simp (disch := first | assumption | omega | (simp only [h_sl, h_al] <;> omega) | fail) only [WW, WH, ↓reduceIte, Nat.reduceEqDiff, Nat.reduceLT, Nat.reduceLeDiff, Nat.reduceAdd, Nat.reduceSub, Nat.reduceMul, Nat.reduceBEq, reduceCtorEq, if_false, if_true, L_ref13_Splitter_Reset, m_ref13_Splitter_Reset, c_ref13_Splitter_Reset, hs_o1, encLineV, encPieceV]
  have hq := Option.some.inj h; subst hq
  refine hK0 _ _ _ (.inl rfl) ?_
  exact fn_end1 (by exact (Fr.set (s := q1) (Fr.set (s := q1) (Fr.set (s := q1) hfr (.inl (by simp))) (.inl (by simp))) (.inl (by simp)))) hcl resv_nil (by simp [fin, AV.df, AV.sh, AV.sh1, b_df, b_sh, b_sh1, b_Cl]) (Wx.tup (W1L.nil)) (by exact ((h_eq (by first | assumption | omega | (simp only [h_sl, h_al] <;> omega) | fail)).trans rfl)) (by first | assumption | omega | (simp only [h_sl, h_al] <;> omega) | fail) (by simp [b_Cl]; try omega) (WxC.cons (Wx.int) (WxC.cons (Wx.own ..) (WxC.cons (Wx.int) (WxC.cons (Wx.bool) (WxC.nil))))) (r' := (.tup [])) ⟨rfl, rfl⟩

/-! ### (*mailbag/mailbagref13.Splitter).add -/
def c_ref13_Splitter_add : ACode := (.seq (.rg [⟨(some 4), (.mv (.t 0)), none⟩, ⟨(some 5), (.nck (.t 4)), none⟩, ⟨(some 6), (.fld (.t 5) 2), none⟩, ⟨(some 7), (.ld (.t 6) none), none⟩, ⟨(some 8), (.bin .add (.t 7) (.c (.int .i64 1))), none⟩, ⟨(some 9), (.nck (.t 4)), none⟩, ⟨(some 10), (.fld (.t 9) 2), none⟩, ⟨none, (.st (.t 10) (.t 8) 1), none⟩]) (.seq (.rg [⟨(some 11), (.mv (.t 0)), none⟩, ⟨(some 12), (.nck (.t 11)), none⟩, ⟨(some 13), (.fld (.t 12) 1), none⟩, ⟨(some 14), (.ld (.t 13) none), none⟩, ⟨(some 15), (.len (.t 14)), none⟩, ⟨(some 16), (.mv (.t 0)), none⟩, ⟨(some 17), (.nck (.t 16)), none⟩, ⟨(some 18), (.fld (.t 17) 0), none⟩, ⟨(some 19), (.ld (.t 18) none), none⟩, ⟨(some 20), (.bin .sub (.t 19) (.c (.int .i64 2))), none⟩, ⟨(some 21), (.bin .lss (.t 15) (.t 20)), none⟩]) (.cond (.t 21) (.rg [⟨(some 22), (.mv (.t 0)), none⟩, ⟨(some 23), (.bsl 1 []), none⟩, ⟨(some 24), (.mv (.t 0)), none⟩, ⟨(some 25), (.nck (.t 24)), none⟩, ⟨(some 26), (.fld (.t 25) 1), none⟩, ⟨(some 27), (.ld (.t 26) none), none⟩, ⟨(some 28), (.app 1 1 (.t 23) (.t 27)), none⟩, ⟨(some 29), (.mv (.t 1)), none⟩, ⟨(some 30), (.bsl 1 [(.t 29)]), none⟩, ⟨(some 31), (.app 1 1 (.t 28) (.t 30)), none⟩, ⟨(some 32), (.nck (.t 22)), none⟩, ⟨(some 33), (.fld (.t 32) 1), none⟩, ⟨none, (.st (.t 33) (.t 31) 1), none⟩]) .skip)))
abbrev m_ref13_Splitter_add := c_ref13_Splitter_add
theorem k_ref13_Splitter_add : FnOk Try.prog 25 34 [] c_ref13_Splitter_add := ⟨Try.f25, _, rfl, by decide, rfl, by kernel_rfl, rfl, rfl⟩
abbrev L_ref13_Splitter_add : List Nat := [0, 1, 21]
def ref13_Splitter_add (s2 : SplitterVx) (c3 : UInt8) : Option (SplitterVx) :=
  (if (decide ((s2.b.length : Int) < (IntKind.wrap .i64 (s2.most - 2)))) then
    (capp 1 ([] : List UInt8) s2.b).bind fun x4 =>
    (capp 1 x4 ([c3] : List UInt8)).bind fun x5 =>
    some (SplitterVx.mk s2.most x5 (IntKind.wrap .i64 (s2.n + 1)) s2.cR)
  else
    some (SplitterVx.mk s2.most s2.b (IntKind.wrap .i64 (s2.n + 1)) s2.cR))
set_option maxHeartbeats 2000000 in
theorem ref13_Splitter_add_ok {s2 : SplitterVx} {c3 : UInt8} {q1 : Nat} {H0 : AH} (hs_o1 : H0[q1]? = some [(.int .i64 s2.most), (.sl .own 1 (ml b8 s2.b)), (.int .i64 s2.n), (.bool s2.cR)]) {r0 : SplitterVx} (h : ref13_Splitter_add s2 c3 = some r0) :
    ACalls Try.prog 25 [(.ptr q1 0), (b8 c3)] H0 fun v H' => v = (.tup []) ∧ H' = (H0.set q1 [(.int .i64 r0.most), (.sl .own 1 (ml b8 r0.b)), (.int .i64 r0.n), (.bool r0.cR)]) := by
  refine ACalls.goX k_ref13_Splitter_add (m := m_ref13_Splitter_add) rfl L_ref13_Splitter_add (by decide) (by simp) fun hcl K0 hK0 => ?_
  refine AX.of_U (m := m_ref13_Splitter_add) rfl (by decide) ?_
  have hl_o1 := h_lt hs_o1
  have hfr := Fr.refl H0 [q1]
  have hle := hfr.le
  rw [ref13_Splitter_add.eq_1] at h
  obtain ⟨H, hHH⟩ : ∃ H, H = H0 := ⟨_, rfl⟩
  have hfr : Fr H0 H0.length [q1] H := hHH ▸ hfr
  have hs_o1 : H[q1]? = some [(.int .i64 s2.most), (.sl .own 1 (ml b8 s2.b)), (.int .i64 s2.n), (.bool s2.cR)] := hHH ▸ hs_o1
  have hle := hfr.le
  have hL_o1 : q1 < H.length := h_lt hs_o1
  suffices hU : U Try.prog L_ref13_Splitter_add 34 H0.length [.code m_ref13_Splitter_add] K0 .normal (argE 0 [(.ptr q1 0), (b8 c3)]) H by rwa [hHH] at hU
  simp (disch := first | assumption | omega | (simp only [h_sl, h_al] <;> omega) | fail) only [WW, WH, ↓reduceIte, Nat.reduceEqDiff, Nat.reduceLT, Nat.reduceLeDiff, Nat.reduceAdd, Nat.reduceSub, Nat.reduceMul, Nat.reduceBEq, reduceCtorEq, if_false, if_true, L_ref13_Splitter_add, m_ref13_Splitter_add, c_ref13_Splitter_add, hs_o1, encLineV, encPieceV]
  rcases ifb h with ⟨hy1, h⟩ | ⟨hy1, h⟩
  · refine UC_t hy1 ?_
    obtain ⟨x4, hy2, h⟩ := bnd' h
    have hy3 : capp 1 [] (ml b8 s2.b) = some (ml b8 x4) := capp_m (f := b8) hy2
    obtain ⟨x5, hy4, h⟩ := bnd' h
    have hy5 : capp 1 (ml b8 x4) [(b8 c3)] = some (ml b8 x5) := capp_m (f := b8) hy4
    simp (disch := first | assumption | omega | (simp only [h_sl, h_al] <;> omega) | fail) only [WW, WH, ↓reduceIte, Nat.reduceEqDiff, Nat.reduceLT, Nat.reduceLeDiff, Nat.reduceAdd, Nat.reduceSub, Nat.reduceMul, Nat.reduceBEq, reduceCtorEq, if_false, if_true, L_ref13_Splitter_add, hy3, hy5, hs_o1, encLineV, encPieceV]
    have hq := Option.some.inj h; subst hq
    refine hK0 _ _ _ (.inl rfl) ?_
    exact fn_end1 (by exact (Fr.set (s := q1) (Fr.set (s := q1) hfr (.inl (by simp))) (.inl (by simp)))) hcl resv_nil (by simp [fin, AV.df, AV.sh, AV.sh1, b_df, b_sh, b_sh1, b_Cl]) (Wx.tup (W1L.nil)) (by exact ((h_eq (by first | assumption | omega | (simp only [h_sl, h_al] <;> omega) | fail)).trans rfl)) (by first | assumption | omega | (simp only [h_sl, h_al] <;> omega) | fail) (by simp [b_Cl]; try omega) (WxC.cons (Wx.int) (WxC.cons (Wx.oo) (WxC.cons (Wx.int) (WxC.cons (Wx.bool) (WxC.nil))))) (r' := (.tup [])) ⟨rfl, rfl⟩
  · refine UC_f hy1 ?_
    simp (disch := first | assumption | omega | (simp only [h_sl, h_al] <;> omega) | fail) only [WW, WH, ↓reduceIte, Nat.reduceEqDiff, Nat.reduceLT, Nat.reduceLeDiff, Nat.reduceAdd, Nat.reduceSub, Nat.reduceMul, Nat.reduceBEq, reduceCtorEq, if_false, if_true, L_ref13_Splitter_add, hs_o1, encLineV, encPieceV]
    have hq := Option.some.inj h; subst hq
    refine hK0 _ _ _ (.inl rfl) ?_
    exact fn_end1 (by exact (Fr.set (s := q1) hfr (.inl (by simp)))) hcl resv_nil (by simp [fin, AV.df, AV.sh, AV.sh1, b_df, b_sh, b_sh1, b_Cl]) (Wx.tup (W1L.nil)) (by exact ((h_eq (by first | assumption | omega | (simp only [h_sl, h_al] <;> omega) | fail)).trans rfl)) (by first | assumption | omega | (simp only [h_sl, h_al] <;> omega) | fail) (by simp [b_Cl]; try omega) (WxC.cons (Wx.int) (WxC.cons (Wx.oo) (WxC.cons (Wx.int) (WxC.cons (Wx.bool) (WxC.nil))))) (r' := (.tup [])) ⟨rfl, rfl⟩

/-! ### (*mailbag/mailbagref13.Splitter).Put -/
def c_ref13_Splitter_Put_p1 : ACode := (.rg [⟨(some 7), (.mv (.t 0)), none⟩, ⟨(some 8), (.nck (.t 7)), none⟩, ⟨(some 9), (.fld (.t 8) 3), none⟩, ⟨(some 10), (.ld (.t 9) none), none⟩, ⟨(some 11), (.mv (.t 10)), none⟩, ⟨(some 12), (.mv (.t 1)), (some (11, true))⟩, ⟨(some 13), (.bin .eql (.t 12) (.c (b8 10))), (some (11, true))⟩, ⟨(some 14), (.pick (.t 11) (.t 13) (.c (.bool false))), none⟩])
abbrev m_ref13_Splitter_Put_p1 := c_ref13_Splitter_Put_p1
def c_ref13_Splitter_Put_p2 : ACode := (.cond (.t 37) (.seq (.rg [⟨(some 38), (.mv (.t 0)), none⟩, ⟨(some 39), (.call (.c (.fn 25 [])) [(.t 38), (.c (b8 13))]), none⟩]) (.rg [⟨(some 40), (.mv (.t 0)), none⟩, ⟨(some 41), (.nck (.t 40)), none⟩, ⟨(some 42), (.fld (.t 41) 3), none⟩, ⟨none, (.st (.t 42) (.c (.bool false)) 1), none⟩])) .skip)
abbrev m_ref13_Splitter_Put_p2 := c_ref13_Splitter_Put_p2
def c_ref13_Splitter_Put : ACode := (.seq (.rg [⟨(some 4), (.alloc [(.str []), (.bool false)]), none⟩, ⟨(some 5), (.asg (.c (.bool false))), none⟩]) (.seq (.seq c_ref13_Splitter_Put_p1 (.cond (.t 14) (.seq (.rg [⟨(some 15), (.mv (.t 0)), none⟩, ⟨(some 16), (.nck (.t 15)), none⟩, ⟨(some 17), (.fld (.t 16) 1), none⟩, ⟨(some 18), (.ld (.t 17) none), none⟩, ⟨(some 19), (.cvt .bs (.t 18)), none⟩, ⟨(some 20), (.mv (.t 0)), none⟩, ⟨(some 21), (.nck (.t 20)), none⟩, ⟨(some 22), (.fld (.t 21) 2), none⟩, ⟨(some 23), (.ld (.t 22) none), none⟩, ⟨(some 24), (.mv (.t 0)), none⟩, ⟨(some 25), (.nck (.t 24)), none⟩, ⟨(some 26), (.fld (.t 25) 0), none⟩, ⟨(some 27), (.ld (.t 26) none), none⟩, ⟨(some 28), (.bin .sub (.t 27) (.c (.int .i64 2))), none⟩, ⟨(some 29), (.bin .gtr (.t 23) (.t 28)), none⟩, ⟨(some 30), (.build [(.str []), (.bool false)] [(0, (1, (.t 19))), (1, (1, (.t 29)))]), none⟩, ⟨(some 6), (.alloc [(.str []), (.bool false)]), none⟩, ⟨none, (.st (.t 6) (.t 30) 2), none⟩]) (.seq (.rg [⟨(some 31), (.mv (.t 0)), none⟩, ⟨(some 32), (.call (.c (.fn 19 [])) [(.t 31)]), none⟩]) (.seq (.rg [⟨(some 33), (.ld (.t 6) (some 2)), none⟩, ⟨none, (.st (.t 4) (.t 33) 2), none⟩, ⟨(some 5), (.asg (.c (.bool true))), none⟩]) .ret))) .skip)) (.seq (.seq (.rg [⟨(some 34), (.mv (.t 0)), none⟩, ⟨(some 35), (.nck (.t 34)), none⟩, ⟨(some 36), (.fld (.t 35) 3), none⟩, ⟨(some 37), (.ld (.t 36) none), none⟩]) c_ref13_Splitter_Put_p2) (.seq (.seq (.rg [⟨(some 43), (.mv (.t 1)), none⟩, ⟨(some 44), (.bin .eql (.t 43) (.c (b8 13))), none⟩]) (.cond (.t 44) (.rg [⟨(some 45), (.mv (.t 0)), none⟩, ⟨(some 46), (.nck (.t 45)), none⟩, ⟨(some 47), (.fld (.t 46) 3), none⟩, ⟨none, (.st (.t 47) (.c (.bool true)) 1), none⟩]) (.rg [⟨(some 48), (.mv (.t 0)), none⟩, ⟨(some 49), (.mv (.t 1)), none⟩, ⟨(some 50), (.call (.c (.fn 25 [])) [(.t 48), (.t 49)]), none⟩]))) (.seq (.rg [⟨(some 51), (.build [(.str []), (.bool false)] []), none⟩, ⟨none, (.st (.t 4) (.t 51) 2), none⟩, ⟨(some 5), (.asg (.c (.bool false))), none⟩]) .ret)))))
def m_ref13_Splitter_Put : ACode := (.seq (.rg [⟨(some 4), (.alloc [(.str []), (.bool false)]), none⟩, ⟨(some 5), (.asg (.c (.bool false))), none⟩]) (.seq (.seq (.sem c_ref13_Splitter_Put_p1) (.cond (.t 14) (.seq (.rg [⟨(some 15), (.mv (.t 0)), none⟩, ⟨(some 16), (.nck (.t 15)), none⟩, ⟨(some 17), (.fld (.t 16) 1), none⟩, ⟨(some 18), (.ld (.t 17) none), none⟩, ⟨(some 19), (.cvt .bs (.t 18)), none⟩, ⟨(some 20), (.mv (.t 0)), none⟩, ⟨(some 21), (.nck (.t 20)), none⟩, ⟨(some 22), (.fld (.t 21) 2), none⟩, ⟨(some 23), (.ld (.t 22) none), none⟩, ⟨(some 24), (.mv (.t 0)), none⟩, ⟨(some 25), (.nck (.t 24)), none⟩, ⟨(some 26), (.fld (.t 25) 0), none⟩, ⟨(some 27), (.ld (.t 26) none), none⟩, ⟨(some 28), (.bin .sub (.t 27) (.c (.int .i64 2))), none⟩, ⟨(some 29), (.bin .gtr (.t 23) (.t 28)), none⟩, ⟨(some 30), (.build [(.str []), (.bool false)] [(0, (1, (.t 19))), (1, (1, (.t 29)))]), none⟩, ⟨(some 6), (.alloc [(.str []), (.bool false)]), none⟩, ⟨none, (.st (.t 6) (.t 30) 2), none⟩]) (.seq (.rg [⟨(some 31), (.mv (.t 0)), none⟩, ⟨(some 32), (.call (.c (.fn 19 [])) [(.t 31)]), none⟩]) (.seq (.rg [⟨(some 33), (.ld (.t 6) (some 2)), none⟩, ⟨none, (.st (.t 4) (.t 33) 2), none⟩, ⟨(some 5), (.asg (.c (.bool true))), none⟩]) .ret))) .skip)) (.seq (.seq (.rg [⟨(some 34), (.mv (.t 0)), none⟩, ⟨(some 35), (.nck (.t 34)), none⟩, ⟨(some 36), (.fld (.t 35) 3), none⟩, ⟨(some 37), (.ld (.t 36) none), none⟩]) (.sem c_ref13_Splitter_Put_p2)) (.seq (.seq (.rg [⟨(some 43), (.mv (.t 1)), none⟩, ⟨(some 44), (.bin .eql (.t 43) (.c (b8 13))), none⟩]) (.cond (.t 44) (.rg [⟨(some 45), (.mv (.t 0)), none⟩, ⟨(some 46), (.nck (.t 45)), none⟩, ⟨(some 47), (.fld (.t 46) 3), none⟩, ⟨none, (.st (.t 47) (.c (.bool true)) 1), none⟩]) (.rg [⟨(some 48), (.mv (.t 0)), none⟩, ⟨(some 49), (.mv (.t 1)), none⟩, ⟨(some 50), (.call (.c (.fn 25 [])) [(.t 48), (.t 49)]), none⟩]))) (.seq (.rg [⟨(some 51), (.build [(.str []), (.bool false)] []), none⟩, ⟨none, (.st (.t 4) (.t 51) 2), none⟩, ⟨(some 5), (.asg (.c (.bool false))), none⟩]) .ret)))))
theorem k_ref13_Splitter_Put : FnOk Try.prog 23 52 [(.cell 4 56), (.tmp 5)] c_ref13_Splitter_Put := ⟨Try.f23, _, rfl, by decide, rfl, by kernel_rfl, rfl, rfl⟩
abbrev L_ref13_Splitter_Put : List Nat := [0, 1, 4, 5, 6, 14, 37, 44]
def ref13_Splitter_Put_p2 (s2 : SplitterVx) : Option (SplitterVx) :=
  (if s2.cR then
    (ref13_Splitter_add s2 13).bind fun r7 => some (SplitterVx.mk r7.most r7.b r7.n false)
  else
    some s2)
def ref13_Splitter_Put (s2 : SplitterVx) (c3 : UInt8) : Option (LineV × Bool × SplitterVx) :=
  (if (s2.cR && (decide (c3 = 10))) then
    (ref13_Splitter_Reset s2).bind fun r5 =>
    some ((LineV.mk s2.b (decide ((IntKind.wrap .i64 (s2.most - 2)) < s2.n))), true, r5)
  else
    (ref13_Splitter_Put_p2 s2).bind fun s9 =>
    (if (decide (c3 = 13)) then
      some ((LineV.mk ([] : List UInt8) false), false, (SplitterVx.mk s9.most s9.b s9.n true))
    else
      (ref13_Splitter_add s9 c3).bind fun r10 => some ((LineV.mk ([] : List UInt8) false), false, r10)))
set_option maxHeartbeats 2000000 in
theorem ref13_Splitter_Put_p1_ok {q1 : Nat} {c3 : UInt8} {q4 : Nat} {s2 : SplitterVx} {H0 H : AH} (hfr : Fr H0 H0.length [q1] H) (hs_o1 : H[q1]? = some [(.int .i64 s2.most), (.sl .own 1 (ml b8 s2.b)), (.int .i64 s2.n), (.bool s2.cR)]) (hs_o2 : H[q4]? = some [(.str ([] : List UInt8)), (.bool false)]) (hi0 : q1 < H0.length) (hi1 : H0.length ≤ q4) {K : Exit → Env → AH → Prop}
    (kn : ∀ H' : AH, Fr H0 H0.length [q1] H' → H'[q1]? = some [(.int .i64 s2.most), (.sl .own 1 (ml b8 s2.b)), (.int .i64 s2.n), (.bool s2.cR)] → H'[q4]? = some [(.str ([] : List UInt8)), (.bool false)] → K .normal [(0, (.ptr q1 0)), (1, (b8 c3)), (4, (.ptr q4 0)), (14, (.bool (s2.cR && (decide (c3 = 10)))))] H') :
    AX Try.prog L_ref13_Splitter_Put 52 H0.length c_ref13_Splitter_Put_p1 K [(0, (.ptr q1 0)), (1, (b8 c3)), (4, (.ptr q4 0))] H := by
  refine AX.go (m := m_ref13_Splitter_Put_p1) rfl (by decide) fun K' hK => ?_
  have hle := hfr.le
  have hl_o1 := h_lt hs_o1
  have hl_o2 := h_lt hs_o2
  simp (disch := first | assumption | omega | (simp only [h_sl, h_al] <;> omega) | fail) only [WW, WH, ↓reduceIte, Nat.reduceEqDiff, Nat.reduceLT, Nat.reduceLeDiff, Nat.reduceAdd, Nat.reduceSub, Nat.reduceMul, Nat.reduceBEq, reduceCtorEq, if_false, if_true, L_ref13_Splitter_Put, m_ref13_Splitter_Put_p1, c_ref13_Splitter_Put_p1, hs_o1, hs_o2, encLineV, encPieceV]
  rcases bcases (s2.cR) with hy1 | hy1
  · refine UG_go hy1 ?_
    simp (disch := first | assumption | omega | (simp only [h_sl, h_al] <;> omega) | fail) only [WW, WH, ↓reduceIte, Nat.reduceEqDiff, Nat.reduceLT, Nat.reduceLeDiff, Nat.reduceAdd, Nat.reduceSub, Nat.reduceMul, Nat.reduceBEq, reduceCtorEq, if_false, if_true, L_ref13_Splitter_Put, hy1, hs_o1, hs_o2, encLineV, encPieceV]
    refine hK _ _ _ _ _ ?_ (WxH.refl _) (kn _ hfr ((hs_o1).trans rfl) ((hs_o2).trans rfl))
    exact WE.cons (Wx.ptr) (WE.cons (Wx.b8) (WE.cons (Wx.ptr) (WE.cons (Wx.boolE (by simp only [hy1, WB])) (WE.nil))))
  · refine UG_nt hy1 ?_
    simp (disch := first | assumption | omega | (simp only [h_sl, h_al] <;> omega) | fail) only [WW, WH, ↓reduceIte, Nat.reduceEqDiff, Nat.reduceLT, Nat.reduceLeDiff, Nat.reduceAdd, Nat.reduceSub, Nat.reduceMul, Nat.reduceBEq, reduceCtorEq, if_false, if_true, L_ref13_Splitter_Put, hy1, hs_o1, hs_o2, encLineV, encPieceV]
    refine hK _ _ _ _ _ ?_ (WxH.refl _) (kn _ hfr ((hs_o1).trans rfl) ((hs_o2).trans rfl))
    exact WE.cons (Wx.ptr) (WE.cons (Wx.b8) (WE.cons (Wx.ptr) (WE.cons (Wx.boolE (by simp only [hy1, WB])) (WE.nil))))
set_option maxHeartbeats 2000000 in
theorem ref13_Splitter_Put_p2_ok {s2 : SplitterVx} {q1 : Nat} {c3 : UInt8} {q6 : Nat} {H0 H : AH} (hfr : Fr H0 H0.length [q1] H) (hs_o1 : H[q1]? = some [(.int .i64 s2.most), (.sl .own 1 (ml b8 s2.b)), (.int .i64 s2.n), (.bool s2.cR)]) (hs_o2 : H[q6]? = some [(.str ([] : List UInt8)), (.bool false)]) (hi0 : q1 < H0.length) (hi1 : H0.length ≤ q6) {K : Exit → Env → AH → Prop} {s8 : SplitterVx}
    (h : ref13_Splitter_Put_p2 s2 = some s8)
    (kn : ∀ H' : AH, Fr H0 H0.length [q1] H' → H'[q1]? = some [(.int .i64 s8.most), (.sl .own 1 (ml b8 s8.b)), (.int .i64 s8.n), (.bool s8.cR)] → H'[q6]? = some [(.str ([] : List UInt8)), (.bool false)] → K .normal [(0, (.ptr q1 0)), (1, (b8 c3)), (4, (.ptr q6 0))] H') :
    AX Try.prog L_ref13_Splitter_Put 52 H0.length c_ref13_Splitter_Put_p2 K [(0, (.ptr q1 0)), (1, (b8 c3)), (4, (.ptr q6 0)), (37, (.bool s2.cR))] H := by
  refine AX.go (m := m_ref13_Splitter_Put_p2) rfl (by decide) fun K' hK => ?_
  have hle := hfr.le
  have hl_o1 := h_lt hs_o1
  have hl_o2 := h_lt hs_o2
  rw [ref13_Splitter_Put_p2.eq_1] at h
  simp (disch := first | assumption | omega | (simp only [h_sl, h_al] <;> omega) | fail) only [WW, WH, ↓reduceIte, Nat.reduceEqDiff, Nat.reduceLT, Nat.reduceLeDiff, Nat.reduceAdd, Nat.reduceSub, Nat.reduceMul, Nat.reduceBEq, reduceCtorEq, if_false, if_true, L_ref13_Splitter_Put, m_ref13_Splitter_Put_p2, c_ref13_Splitter_Put_p2, hs_o1, hs_o2, encLineV, encPieceV]
  rcases ifb h with ⟨hy4, h⟩ | ⟨hy4, h⟩
  · refine UC_t hy4 ?_
    simp (disch := first | assumption | omega | (simp only [h_sl, h_al] <;> omega) | fail) only [WW, WH, ↓reduceIte, Nat.reduceEqDiff, Nat.reduceLT, Nat.reduceLeDiff, Nat.reduceAdd, Nat.reduceSub, Nat.reduceMul, Nat.reduceBEq, reduceCtorEq, if_false, if_true, L_ref13_Splitter_Put, hs_o1, hs_o2, encLineV, encPieceV]
    obtain ⟨r7, hy5, h⟩ := bnd' h
    refine UK_e (as' := [(.ptr q1 0), (b8 13)]) (h := ref13_Splitter_add_ok (s2 := s2) (c3 := 13) (q1 := q1) (by exact ((hs_o1).trans rfl)) hy5) (hw := WL.cons (Wx.ptr) (WL.cons (Wx.b8) (WL.nil))) (hh := WxH.refl _) ?_
    simp (disch := first | assumption | omega | (simp only [h_sl, h_al] <;> omega) | fail) only [WW, WH, ↓reduceIte, Nat.reduceEqDiff, Nat.reduceLT, Nat.reduceLeDiff, Nat.reduceAdd, Nat.reduceSub, Nat.reduceMul, Nat.reduceBEq, reduceCtorEq, if_false, if_true, L_ref13_Splitter_Put, hs_o1, hs_o2, encLineV, encPieceV]
    have hq := Option.some.inj h; subst hq
    refine hK _ _ _ _ _ ?_ (WxH.refl _) (kn _ (Fr.set (s := q1) (Fr.set (s := q1) hfr (.inl (by simp))) (.inl (by simp))) ((h_eq (by first | assumption | omega | (simp only [h_sl, h_al] <;> omega) | fail)).trans rfl) (((h_ne (by first | assumption | omega | (simp only [h_sl, h_al] <;> omega) | fail)).trans ((h_ne (by first | assumption | omega | (simp only [h_sl, h_al] <;> omega) | fail)).trans (hs_o2))).trans rfl))
    exact WE.cons (Wx.ptr) (WE.cons (Wx.b8) (WE.cons (Wx.ptr) (WE.nil)))
  · refine UC_f hy4 ?_
    simp (disch := first | assumption | omega | (simp only [h_sl, h_al] <;> omega) | fail) only [WW, WH, ↓reduceIte, Nat.reduceEqDiff, Nat.reduceLT, Nat.reduceLeDiff, Nat.reduceAdd, Nat.reduceSub, Nat.reduceMul, Nat.reduceBEq, reduceCtorEq, if_false, if_true, L_ref13_Splitter_Put, hs_o1, hs_o2, encLineV, encPieceV]
    have hq := Option.some.inj h; subst hq
    refine hK _ _ _ _ _ ?_ (WxH.refl _) (kn _ hfr ((hs_o1).trans rfl) ((hs_o2).trans rfl))
    exact WE.cons (Wx.ptr) (WE.cons (Wx.b8) (WE.cons (Wx.ptr) (WE.nil)))
set_option maxHeartbeats 2000000 in
theorem ref13_Splitter_Put_ok {s2 : SplitterVx} {c3 : UInt8} {q1 : Nat} {H0 : AH} (hs_o1 : H0[q1]? = some [(.int .i64 s2.most), (.sl .own 1 (ml b8 s2.b)), (.int .i64 s2.n), (.bool s2.cR)]) {r0 : LineV} {r1 : Bool} {r2 : SplitterVx} (h : ref13_Splitter_Put s2 c3 = some (r0, r1, r2)) :
    ACalls Try.prog 23 [(.ptr q1 0), (b8 c3)] H0 fun v H' => v = (.tup [(.agg [(.str r0.text), (.bool r0.long)]), (.bool r1)]) ∧ H' = (H0.set q1 [(.int .i64 r2.most), (.sl .own 1 (ml b8 r2.b)), (.int .i64 r2.n), (.bool r2.cR)]) := by
  refine ACalls.goX k_ref13_Splitter_Put (m := m_ref13_Splitter_Put) rfl L_ref13_Splitter_Put (by decide) (by simp) fun hcl K0 hK0 => ?_
  refine AX.of_U (m := m_ref13_Splitter_Put) rfl (by decide) ?_
  have hl_o1 := h_lt hs_o1
  have hfr := Fr.refl H0 [q1]
  have hle := hfr.le
  rw [ref13_Splitter_Put.eq_1] at h
  obtain ⟨H, hHH⟩ : ∃ H, H = H0 := ⟨_, rfl⟩
  have hfr : Fr H0 H0.length [q1] H := hHH ▸ hfr
  have hs_o1 : H[q1]? = some [(.int .i64 s2.most), (.sl .own 1 (ml b8 s2.b)), (.int .i64 s2.n), (.bool s2.cR)] := hHH ▸ hs_o1
  have hle := hfr.le
  have hL_o1 : q1 < H.length := h_lt hs_o1
  suffices hU : U Try.prog L_ref13_Splitter_Put 52 H0.length [.code m_ref13_Splitter_Put] K0 .normal (argE 0 [(.ptr q1 0), (b8 c3)]) H by rwa [hHH] at hU
  simp (disch := first | assumption | omega | (simp only [h_sl, h_al] <;> omega) | fail) only [WW, WH, ↓reduceIte, Nat.reduceEqDiff, Nat.reduceLT, Nat.reduceLeDiff, Nat.reduceAdd, Nat.reduceSub, Nat.reduceMul, Nat.reduceBEq, reduceCtorEq, if_false, if_true, L_ref13_Splitter_Put, m_ref13_Splitter_Put, hs_o1, encLineV, encPieceV]
  obtain ⟨q4, hg_q4⟩ : ∃ q : Nat, H.length = q := ⟨_, rfl⟩
  try rw [hg_q4]
  refine UX_of (AX.weak ?_ (WxH.refl _) (ref13_Splitter_Put_p1_ok (q1 := q1) (c3 := c3) (q4 := q4) (s2 := s2) ((Fr.app hfr)) (((h_app (by first | assumption | omega | (simp only [h_sl, h_al] <;> omega) | fail)).trans (hs_o1)).trans rfl) ((h_new' (by first | assumption | omega | (simp only [h_sl, h_al] <;> omega) | fail)).trans rfl) (by first | assumption | omega | (simp only [h_sl, h_al] <;> omega) | fail) (by first | assumption | omega | (simp only [h_sl, h_al] <;> omega) | fail) ?_))
  · exact WE.cons (Wx.ptr) (WE.cons (Wx.b8) (WE.cons (Wx.ptr) (WE.nil)))
  intro H hfr hs_o1 hs_o2
  have hle := hfr.le
  have hl_o1 := h_lt hs_o1
  have hl_o2 := h_lt hs_o2
  simp (disch := first | assumption | omega | (simp only [h_sl, h_al] <;> omega) | fail) only [WW, WH, ↓reduceIte, Nat.reduceEqDiff, Nat.reduceLT, Nat.reduceLeDiff, Nat.reduceAdd, Nat.reduceSub, Nat.reduceMul, Nat.reduceBEq, reduceCtorEq, if_false, if_true, L_ref13_Splitter_Put, hs_o1, hs_o2, encLineV, encPieceV]
  rcases ifb h with ⟨hy2, h⟩ | ⟨hy2, h⟩
  · refine UC_t hy2 ?_
    simp (disch := first | assumption | omega | (simp only [h_sl, h_al] <;> omega) | fail) only [WW, WH, ↓reduceIte, Nat.reduceEqDiff, Nat.reduceLT, Nat.reduceLeDiff, Nat.reduceAdd, Nat.reduceSub, Nat.reduceMul, Nat.reduceBEq, reduceCtorEq, if_false, if_true, L_ref13_Splitter_Put, hs_o1, hs_o2, encLineV, encPieceV]
    obtain ⟨r5, hy3, h⟩ := bnd' h
    refine UK_e (as' := [(.ptr q1 0)]) (h := ref13_Splitter_Reset_ok (s2 := s2) (q1 := q1) (by exact (((h_ne (by first | assumption | omega | (simp only [h_sl, h_al] <;> omega) | fail)).trans ((h_app (by first | assumption | omega | (simp only [h_sl, h_al] <;> omega) | fail)).trans (hs_o1))).trans rfl)) hy3) (hw := WL.cons (Wx.ptr) (WL.nil)) (hh := WxH.refl _) ?_
    simp (disch := first | assumption | omega | (simp only [h_sl, h_al] <;> omega) | fail) only [WW, WH, ↓reduceIte, Nat.reduceEqDiff, Nat.reduceLT, Nat.reduceLeDiff, Nat.reduceAdd, Nat.reduceSub, Nat.reduceMul, Nat.reduceBEq, reduceCtorEq, if_false, if_true, L_ref13_Splitter_Put, hs_o1, hs_o2, encLineV, encPieceV]
    have hq := Option.some.inj h; have hq0 := (Prod.mk.inj hq).1; replace hq := (Prod.mk.inj hq).2; have hq1 := (Prod.mk.inj hq).1; replace hq := (Prod.mk.inj hq).2; subst hq0; subst hq1; subst hq
    refine hK0 _ _ _ (.inr rfl) ?_
    exact fn_end1 (by exact (Fr.set (s := q4) (Fr.set (s := q1) (Fr.set (s := H.length) (Fr.app hfr) (.inr (by first | assumption | omega | (simp only [h_sl, h_al] <;> omega) | fail))) (.inl (by simp))) (.inr (by first | assumption | omega | (simp only [h_sl, h_al] <;> omega) | fail)))) hcl (resv_cell (cs := [(.str s2.b), (.bool (decide ((IntKind.wrap .i64 (s2.most - 2)) < s2.n)))]) (v := (.agg [(.str s2.b), (.bool (decide ((IntKind.wrap .i64 (s2.most - 2)) < s2.n)))])) (by kernel_rfl) (n := (some 2)) (by kernel_rfl) rfl (by exact ((h_eq (by first | assumption | omega | (simp only [h_sl, h_al] <;> omega) | fail)).trans rfl)) (by simp [loadc_n, loadc_1, ld1, allFlat, AV.flat, b_flat, b_sh1, AV.sh1]) (resv_tmp (a := (.bool true)) rfl rfl resv_nil)) (by simp [fin, AV.df, AV.sh, AV.sh1, b_df, b_sh, b_sh1, b_Cl]) (Wx.tup (W1L.same (W1L.same (W1L.nil)))) (by exact (((h_ne (by first | assumption | omega | (simp only [h_sl, h_al] <;> omega) | fail)).trans (h_eq (by first | assumption | omega | (simp only [h_sl, h_al] <;> omega) | fail))).trans rfl)) (by first | assumption | omega | (simp only [h_sl, h_al] <;> omega) | fail) (by simp [b_Cl]; try omega) (WxC.cons (Wx.int) (WxC.cons (Wx.oo) (WxC.cons (Wx.int) (WxC.cons (Wx.bool) (WxC.nil))))) (r' := (.tup [(.agg [(.str ((LineV.mk s2.b (decide ((IntKind.wrap .i64 (s2.most - 2)) < s2.n))).text)), (.bool ((LineV.mk s2.b (decide ((IntKind.wrap .i64 (s2.most - 2)) < s2.n))).long))]), (.bool true)])) ⟨rfl, rfl⟩
  · refine UC_f hy2 ?_
    simp (disch := first | assumption | omega | (simp only [h_sl, h_al] <;> omega) | fail) only [WW, WH, ↓reduceIte, Nat.reduceEqDiff, Nat.reduceLT, Nat.reduceLeDiff, Nat.reduceAdd, Nat.reduceSub, Nat.reduceMul, Nat.reduceBEq, reduceCtorEq, if_false, if_true, L_ref13_Splitter_Put, hs_o1, hs_o2, encLineV, encPieceV]
    obtain ⟨s9, hy6, h⟩ := bnd' h
    refine UX_of (AX.weak ?_ (WxH.refl _) (ref13_Splitter_Put_p2_ok  (s2 := s2) (q1 := q1) (c3 := c3) (s8 := s9) (q6 := q4) (hfr) ((hs_o1).trans rfl) ((hs_o2).trans rfl) (by first | assumption | omega | (simp only [h_sl, h_al] <;> omega) | fail) (by first | assumption | omega | (simp only [h_sl, h_al] <;> omega) | fail) hy6 ?_))
    · exact WE.cons (Wx.ptr) (WE.cons (Wx.b8) (WE.cons (Wx.ptr) (WE.cons (Wx.bool) (WE.nil))))
    intro H hfr hs_o1 hs_o2
    have hle := hfr.le
    have hl_o1 := h_lt hs_o1
    have hl_o2 := h_lt hs_o2
    simp (disch := first | assumption | omega | (simp only [h_sl, h_al] <;> omega) | fail) only [WW, WH, ↓reduceIte, Nat.reduceEqDiff, Nat.reduceLT, Nat.reduceLeDiff, Nat.reduceAdd, Nat.reduceSub, Nat.reduceMul, Nat.reduceBEq, reduceCtorEq, if_false, if_true, L_ref13_Splitter_Put, hs_o1, hs_o2, encLineV, encPieceV]
    rcases ifb h with ⟨hy7, h⟩ | ⟨hy7, h⟩
    · refine UC_t hy7 ?_
      simp (disch := first | assumption | omega | (simp only [h_sl, h_al] <;> omega) | fail) only [WW, WH, ↓reduceIte, Nat.reduceEqDiff, Nat.reduceLT, Nat.reduceLeDiff, Nat.reduceAdd, Nat.reduceSub, Nat.reduceMul, Nat.reduceBEq, reduceCtorEq, if_false, if_true, L_ref13_Splitter_Put, hs_o1, hs_o2, encLineV, encPieceV]
      have hq := Option.some.inj h; have hq0 := (Prod.mk.inj hq).1; replace hq := (Prod.mk.inj hq).2; have hq1 := (Prod.mk.inj hq).1; replace hq := (Prod.mk.inj hq).2; subst hq0; subst hq1; subst hq
      refine hK0 _ _ _ (.inr rfl) ?_
      exact fn_end1 (by exact (Fr.set (s := q4) (Fr.set (s := q1) hfr (.inl (by simp))) (.inr (by first | assumption | omega | (simp only [h_sl, h_al] <;> omega) | fail)))) hcl (resv_cell (cs := [(.str ([] : List UInt8)), (.bool false)]) (v := (.agg [(.str ([] : List UInt8)), (.bool false)])) (by kernel_rfl) (n := (some 2)) (by kernel_rfl) rfl (by exact ((h_eq (by first | assumption | omega | (simp only [h_sl, h_al] <;> omega) | fail)).trans rfl)) (by simp [loadc_n, loadc_1, ld1, allFlat, AV.flat, b_flat, b_sh1, AV.sh1]) (resv_tmp (a := (.bool false)) rfl rfl resv_nil)) (by simp [fin, AV.df, AV.sh, AV.sh1, b_df, b_sh, b_sh1, b_Cl]) (Wx.tup (W1L.same (W1L.same (W1L.nil)))) (by exact (((h_ne (by first | assumption | omega | (simp only [h_sl, h_al] <;> omega) | fail)).trans (h_eq (by first | assumption | omega | (simp only [h_sl, h_al] <;> omega) | fail))).trans rfl)) (by first | assumption | omega | (simp only [h_sl, h_al] <;> omega) | fail) (by simp [b_Cl]; try omega) (WxC.cons (Wx.int) (WxC.cons (Wx.oo) (WxC.cons (Wx.int) (WxC.cons (Wx.bool) (WxC.nil))))) (r' := (.tup [(.agg [(.str ((LineV.mk ([] : List UInt8) false).text)), (.bool ((LineV.mk ([] : List UInt8) false).long))]), (.bool false)])) ⟨rfl, rfl⟩
    · refine UC_f hy7 ?_
      simp (disch := first | assumption | omega | (simp only [h_sl, h_al] <;> omega) | fail) only [WW, WH, ↓reduceIte, Nat.reduceEqDiff, Nat.reduceLT, Nat.reduceLeDiff, Nat.reduceAdd, Nat.reduceSub, Nat.reduceMul, Nat.reduceBEq, reduceCtorEq, if_false, if_true, L_ref13_Splitter_Put, hs_o1, hs_o2, encLineV, encPieceV]
      obtain ⟨r10, hy8, h⟩ := bnd' h
      refine UK_e (as' := [(.ptr q1 0), (b8 c3)]) (h := ref13_Splitter_add_ok (s2 := s9) (c3 := c3) (q1 := q1) (by exact ((hs_o1).trans rfl)) hy8) (hw := WL.cons (Wx.ptr) (WL.cons (Wx.b8) (WL.nil))) (hh := WxH.refl _) ?_
      simp (disch := first | assumption | omega | (simp only [h_sl, h_al] <;> omega) | fail) only [WW, WH, ↓reduceIte, Nat.reduceEqDiff, Nat.reduceLT, Nat.reduceLeDiff, Nat.reduceAdd, Nat.reduceSub, Nat.reduceMul, Nat.reduceBEq, reduceCtorEq, if_false, if_true, L_ref13_Splitter_Put, hs_o1, hs_o2, encLineV, encPieceV]
      have hq := Option.some.inj h; have hq0 := (Prod.mk.inj hq).1; replace hq := (Prod.mk.inj hq).2; have hq1 := (Prod.mk.inj hq).1; replace hq := (Prod.mk.inj hq).2; subst hq0; subst hq1; subst hq
      refine hK0 _ _ _ (.inr rfl) ?_
      exact fn_end1 (by exact (Fr.set (s := q4) (Fr.set (s := q1) hfr (.inl (by simp))) (.inr (by first | assumption | omega | (simp only [h_sl, h_al] <;> omega) | fail)))) hcl (resv_cell (cs := [(.str ([] : List UInt8)), (.bool false)]) (v := (.agg [(.str ([] : List UInt8)), (.bool false)])) (by kernel_rfl) (n := (some 2)) (by kernel_rfl) rfl (by exact ((h_eq (by first | assumption | omega | (simp only [h_sl, h_al] <;> omega) | fail)).trans rfl)) (by simp [loadc_n, loadc_1, ld1, allFlat, AV.flat, b_flat, b_sh1, AV.sh1]) (resv_tmp (a := (.bool false)) rfl rfl resv_nil)) (by simp [fin, AV.df, AV.sh, AV.sh1, b_df, b_sh, b_sh1, b_Cl]) (Wx.tup (W1L.same (W1L.same (W1L.nil)))) (by exact (((h_ne (by first | assumption | omega | (simp only [h_sl, h_al] <;> omega) | fail)).trans (h_eq (by first | assumption | omega | (simp only [h_sl, h_al] <;> omega) | fail))).trans rfl)) (by first | assumption | omega | (simp only [h_sl, h_al] <;> omega) | fail) (by simp [b_Cl]; try omega) (WxC.cons (Wx.int) (WxC.cons (Wx.oo) (WxC.cons (Wx.int) (WxC.cons (Wx.bool) (WxC.nil))))) (r' := (.tup [(.agg [(.str ((LineV.mk ([] : List UInt8) false).text)), (.bool ((LineV.mk ([] : List UInt8) false).long))]), (.bool false)])) ⟨rfl, rfl⟩

/-! ### (*mailbag/mailbagref13.Splitter).Feed -/
def c_ref13_Splitter_Feed_l1b : ACode := (.seq (.seq (.rg [⟨(some 9), (.mv (.t 6)), none⟩, ⟨(some 10), (.mv (.t 1)), none⟩, ⟨(some 11), (.len (.t 10)), none⟩, ⟨(some 12), (.bin .lss (.t 9) (.t 11)), none⟩]) (.cond (.t 12) .skip (.exit 0))) (.seq (.blk 1 (.seq (.rg [⟨(some 16), (.mv (.t 0)), none⟩, ⟨(some 17), (.mv (.t 1)), none⟩, ⟨(some 18), (.mv (.t 6)), none⟩, ⟨(some 19), (.ixa 1 (.t 17) (.t 18)), none⟩, ⟨(some 20), (.ld (.t 19) none), none⟩, ⟨(some 21), (.call (.c (.fn 23 [])) [(.t 16), (.t 20)]), none⟩, ⟨(some 15), (.mv (.t 21)), none⟩, ⟨(some 22), (.ext (.t 15) 0), none⟩, ⟨(some 23), (.ext (.t 15) 1), none⟩, ⟨(some 7), (.alloc [(.str []), (.bool false)]), none⟩, ⟨none, (.st (.t 7) (.t 22) 2), none⟩, ⟨(some 8), (.asg (.t 23)), none⟩]) (.seq (.rg [⟨(some 24), (.mv (.t 8)), none⟩]) (.cond (.t 24) (.rg [⟨(some 25), (.mv (.t 5)), none⟩, ⟨(some 26), (.ld (.t 7) (some 2)), none⟩, ⟨(some 27), (.bsl 2 [(.t 26)]), none⟩, ⟨(some 28), (.app 2 24 (.t 25) (.t 27)), none⟩, ⟨(some 5), (.asg (.t 28)), none⟩]) .skip)))) (.rg [⟨(some 13), (.mv (.t 6)), none⟩, ⟨(some 14), (.bin .add (.t 13) (.c (.int .i64 1))), none⟩, ⟨(some 6), (.asg (.t 14)), none⟩])))
def c_ref13_Splitter_Feed_l1 : ACode := (.loop c_ref13_Splitter_Feed_l1b)
abbrev m_ref13_Splitter_Feed_l1b := c_ref13_Splitter_Feed_l1b
def c_ref13_Splitter_Feed : ACode := (.seq (.rg [⟨(some 4), (.asg (.c (.sl .ex 2 []))), none⟩]) (.seq (.rg [⟨(some 5), (.asg (.c (.sl .ex 2 []))), none⟩]) (.seq (.seq (.rg [⟨(some 6), (.asg (.c (.int .i64 0))), none⟩]) (.blk 0 c_ref13_Splitter_Feed_l1)) (.seq (.rg [⟨(some 29), (.mv (.t 5)), none⟩, ⟨(some 4), (.asg (.t 29)), none⟩]) .ret))))
abbrev m_ref13_Splitter_Feed := c_ref13_Splitter_Feed
theorem k_ref13_Splitter_Feed : FnOk Try.prog 15 30 [(.tmp 4)] c_ref13_Splitter_Feed := ⟨Try.f15, _, rfl, by decide, rfl, by kernel_rfl, rfl, rfl⟩
abbrev L_ref13_Splitter_Feed : List Nat := [0, 1, 4, 5, 6, 7, 8, 12, 24]
def ref13_Splitter_Feed_l1 (b3 : List UInt8) : ((List LineV) × Int × SplitterVx) → Option (St ((List LineV) × SplitterVx) ((List LineV) × SplitterVx) ((List LineV) × Int × SplitterVx))
  | (out4, i5, s6) =>
    (if (decide (i5 < (b3.length : Int))) then
      (idx b3 i5).bind fun x7 =>
      (ref13_Splitter_Put s6 x7).bind fun (r8, r9, r10) =>
      (if r9 then
        (capp 24 out4 ([r8] : List LineV)).bind fun x11 => some (.nxt (x11, (IntKind.wrap .i64 (i5 + 1)), r10))
      else
        some (.nxt (out4, (IntKind.wrap .i64 (i5 + 1)), r10)))
    else
      some (.brk (out4, s6)))
def ref13_Splitter_Feed (F : Nat) (s2 : SplitterVx) (b3 : List UInt8) : Option ((List LineV) × SplitterVx) :=
  ((iter (ref13_Splitter_Feed_l1 b3) F (([] : List LineV), 0, s2)).bind fun o16 =>
  match o16 with
  | .inr (out14, s15) =>
    some (out14, s15)
  | .inl _ => none)
set_option maxHeartbeats 2000000 in
theorem ref13_Splitter_Feed_l1_ok {F : Nat} {i5 : Int} {b3 : List UInt8} {s6 : SplitterVx} {out4 : List LineV} {q1 : Nat} {H0 H : AH} (hfr : Fr H0 H0.length [q1] H) (hs_o1 : H[q1]? = some [(.int .i64 s6.most), (.sl .own 1 (ml b8 s6.b)), (.int .i64 s6.n), (.bool s6.cR)]) (hi0 : q1 < H0.length) {K : Exit → Env → AH → Prop} {o : ((List LineV) × SplitterVx) ⊕ ((List LineV) × SplitterVx)}
    (h : iter (ref13_Splitter_Feed_l1 b3) F (out4, i5, s6) = some o)
    (kb0 : ∀ o' : (List LineV) × SplitterVx, o = .inr o' → ∀ H' : AH, Fr H0 H0.length [q1] H' → H'[q1]? = some [(.int .i64 o'.2.most), (.sl .own 1 (ml b8 o'.2.b)), (.int .i64 o'.2.n), (.bool o'.2.cR)] → K (.exit 0) [(5, (.sl .own 2 (ml encLineV o'.1)))] H') :
    AX Try.prog L_ref13_Splitter_Feed 30 H0.length c_ref13_Splitter_Feed_l1 K [(0, (.ptr q1 0)), (1, (.sl .n 1 (ml b8 b3))), (5, (.sl .own 2 (ml encLineV out4))), (6, (.int .i64 i5))] H := by
  refine AX.iter (m := m_ref13_Splitter_Feed_l1b) rfl (by decide) (fun s e H1 => match s with | (out4, i5, s6) => e = [(0, (.ptr q1 0)), (1, (.sl .n 1 (ml b8 b3))), (5, (.sl .own 2 (ml encLineV out4))), (6, (.int .i64 i5))] ∧ Fr H0 H0.length [q1] H1 ∧ H1[q1]? = some [(.int .i64 s6.most), (.sl .own 1 (ml b8 s6.b)), (.int .i64 s6.n), (.bool s6.cR)]) h ⟨rfl, hfr, hs_o1⟩ ?_
  skip
  rintro K' ⟨out4, i5, s6⟩ st e H ⟨rfl, hfr, hs_o1⟩ h hN hB hR hX
  have hle := hfr.le
  have hl_o1 := h_lt hs_o1
  rw [ref13_Splitter_Feed_l1.eq_1] at h
  simp (disch := first | assumption | omega | (simp only [h_sl, h_al] <;> omega) | fail) only [WW, WH, ↓reduceIte, Nat.reduceEqDiff, Nat.reduceLT, Nat.reduceLeDiff, Nat.reduceAdd, Nat.reduceSub, Nat.reduceMul, Nat.reduceBEq, reduceCtorEq, if_false, if_true, L_ref13_Splitter_Feed, m_ref13_Splitter_Feed_l1b, c_ref13_Splitter_Feed_l1b, hs_o1, encLineV, encPieceV]
  rcases ifb h with ⟨hy1, h⟩ | ⟨hy1, h⟩
  · refine UC_t hy1 ?_
    obtain ⟨x7, hy2, h⟩ := bnd' h
    simp (disch := first | assumption | omega | (simp only [h_sl, h_al] <;> omega) | fail) only [WW, WH, ↓reduceIte, Nat.reduceEqDiff, Nat.reduceLT, Nat.reduceLeDiff, Nat.reduceAdd, Nat.reduceSub, Nat.reduceMul, Nat.reduceBEq, reduceCtorEq, if_false, if_true, L_ref13_Splitter_Feed, hy2, hs_o1, encLineV, encPieceV]
    obtain ⟨⟨r8, r9, r10⟩, hy3, h⟩ := bnd' h
    dsimp only at h
    refine UK_e (as' := [(.ptr q1 0), (b8 x7)]) (h := ref13_Splitter_Put_ok (s2 := s6) (c3 := x7) (q1 := q1) (by exact ((hs_o1).trans rfl)) hy3) (hw := WL.cons (Wx.ptr) (WL.cons (Wx.b8) (WL.nil))) (hh := WxH.refl _) ?_
    simp (disch := first | assumption | omega | (simp only [h_sl, h_al] <;> omega) | fail) only [WW, WH, ↓reduceIte, Nat.reduceEqDiff, Nat.reduceLT, Nat.reduceLeDiff, Nat.reduceAdd, Nat.reduceSub, Nat.reduceMul, Nat.reduceBEq, reduceCtorEq, if_false, if_true, L_ref13_Splitter_Feed, hs_o1, encLineV, encPieceV]
    rcases ifb h with ⟨hy4, h⟩ | ⟨hy4, h⟩
    · refine UC_t hy4 ?_
      obtain ⟨x11, hy5, h⟩ := bnd' h
      have hy6 : capp 24 (ml encLineV out4) [(.agg [(.str r8.text), (.bool r8.long)])] = some (ml encLineV x11) := capp_m (f := encLineV) hy5
      simp (disch := first | assumption | omega | (simp only [h_sl, h_al] <;> omega) | fail) only [WW, WH, ↓reduceIte, Nat.reduceEqDiff, Nat.reduceLT, Nat.reduceLeDiff, Nat.reduceAdd, Nat.reduceSub, Nat.reduceMul, Nat.reduceBEq, reduceCtorEq, if_false, if_true, L_ref13_Splitter_Feed, hy6, hs_o1, encLineV, encPieceV]
      have hq := Option.some.inj h; subst hq
      refine hN _ rfl _ _ _ _ ?_ (WxH.refl _) ⟨rfl, (Fr.set (s := H.length) (Fr.app (Fr.set (s := q1) hfr (.inl (by simp)))) (.inr (by first | assumption | omega | (simp only [h_sl, h_al] <;> omega) | fail))), (((h_ne (by first | assumption | omega | (simp only [h_sl, h_al] <;> omega) | fail)).trans ((h_app (by first | assumption | omega | (simp only [h_sl, h_al] <;> omega) | fail)).trans (h_eq (by first | assumption | omega | (simp only [h_sl, h_al] <;> omega) | fail)))).trans rfl)⟩
      exact WE.cons (Wx.ptr) (WE.cons (Wx.nn) (WE.cons (Wx.oo) (WE.cons (Wx.int) (WE.nil))))
    · refine UC_f hy4 ?_
      simp (disch := first | assumption | omega | (simp only [h_sl, h_al] <;> omega) | fail) only [WW, WH, ↓reduceIte, Nat.reduceEqDiff, Nat.reduceLT, Nat.reduceLeDiff, Nat.reduceAdd, Nat.reduceSub, Nat.reduceMul, Nat.reduceBEq, reduceCtorEq, if_false, if_true, L_ref13_Splitter_Feed, hs_o1, encLineV, encPieceV]
      have hq := Option.some.inj h; subst hq
      refine hN _ rfl _ _ _ _ ?_ (WxH.refl _) ⟨rfl, (Fr.set (s := H.length) (Fr.app (Fr.set (s := q1) hfr (.inl (by simp)))) (.inr (by first | assumption | omega | (simp only [h_sl, h_al] <;> omega) | fail))), (((h_ne (by first | assumption | omega | (simp only [h_sl, h_al] <;> omega) | fail)).trans ((h_app (by first | assumption | omega | (simp only [h_sl, h_al] <;> omega) | fail)).trans (h_eq (by first | assumption | omega | (simp only [h_sl, h_al] <;> omega) | fail)))).trans rfl)⟩
      exact WE.cons (Wx.ptr) (WE.cons (Wx.nn) (WE.cons (Wx.oo) (WE.cons (Wx.int) (WE.nil))))
  · refine UC_f hy1 ?_
    simp (disch := first | assumption | omega | (simp only [h_sl, h_al] <;> omega) | fail) only [WW, WH, ↓reduceIte, Nat.reduceEqDiff, Nat.reduceLT, Nat.reduceLeDiff, Nat.reduceAdd, Nat.reduceSub, Nat.reduceMul, Nat.reduceBEq, reduceCtorEq, if_false, if_true, L_ref13_Splitter_Feed, hs_o1, encLineV, encPieceV]
    have hq := Option.some.inj h; subst hq
    refine hX _ _ _ _ _ (by simp) ?_ (WxH.refl _) (kb0 _ (hB _ rfl) _ hfr ((hs_o1).trans rfl))
    exact WE.cons (Wx.oo) (WE.nil)
set_option maxHeartbeats 2000000 in
theorem ref13_Splitter_Feed_ok {F : Nat} {s2 : SplitterVx} {b3 : List UInt8} {q1 : Nat} {H0 : AH} (hs_o1 : H0[q1]? = some [(.int .i64 s2.most), (.sl .own 1 (ml b8 s2.b)), (.int .i64 s2.n), (.bool s2.cR)]) {r0 : List LineV} {r1 : SplitterVx} (h : ref13_Splitter_Feed F s2 b3 = some (r0, r1)) :
    ACalls Try.prog 15 [(.ptr q1 0), (.sl .n 1 (ml b8 b3))] H0 fun v H' => v = (.sl .n 2 (ml encLineV r0)) ∧ H' = (H0.set q1 [(.int .i64 r1.most), (.sl .own 1 (ml b8 r1.b)), (.int .i64 r1.n), (.bool r1.cR)]) := by
  refine ACalls.goX k_ref13_Splitter_Feed (m := m_ref13_Splitter_Feed) rfl L_ref13_Splitter_Feed (by decide) (by simp) fun hcl K0 hK0 => ?_
  refine AX.of_U (m := m_ref13_Splitter_Feed) rfl (by decide) ?_
  have hl_o1 := h_lt hs_o1
  have hfr := Fr.refl H0 [q1]
  have hle := hfr.le
  rw [ref13_Splitter_Feed.eq_1] at h
  obtain ⟨H, hHH⟩ : ∃ H, H = H0 := ⟨_, rfl⟩
  have hfr : Fr H0 H0.length [q1] H := hHH ▸ hfr
  have hs_o1 : H[q1]? = some [(.int .i64 s2.most), (.sl .own 1 (ml b8 s2.b)), (.int .i64 s2.n), (.bool s2.cR)] := hHH ▸ hs_o1
  have hle := hfr.le
  have hL_o1 : q1 < H.length := h_lt hs_o1
  suffices hU : U Try.prog L_ref13_Splitter_Feed 30 H0.length [.code m_ref13_Splitter_Feed] K0 .normal (argE 0 [(.ptr q1 0), (.sl .n 1 (ml b8 b3))]) H by rwa [hHH] at hU
  simp (disch := first | assumption | omega | (simp only [h_sl, h_al] <;> omega) | fail) only [WW, WH, ↓reduceIte, Nat.reduceEqDiff, Nat.reduceLT, Nat.reduceLeDiff, Nat.reduceAdd, Nat.reduceSub, Nat.reduceMul, Nat.reduceBEq, reduceCtorEq, if_false, if_true, L_ref13_Splitter_Feed, m_ref13_Splitter_Feed, c_ref13_Splitter_Feed, hs_o1, encLineV, encPieceV]
  obtain ⟨o16, hy7, h⟩ := bnd' h
  refine UX_of (AX.weak ?_ (WxH.refl _) (ref13_Splitter_Feed_l1_ok  (b3 := b3) (q1 := q1) (out4 := ([] : List LineV)) (i5 := 0) (s6 := s2)  (hfr) ((hs_o1).trans rfl) (by first | assumption | omega | (simp only [h_sl, h_al] <;> omega) | fail) (o := o16) hy7 ?_))
  · exact WE.cons (Wx.ptr) (WE.cons (Wx.nn) (WE.cons (Wx.own ..) (WE.cons (Wx.int) (WE.nil))))
  · rintro ⟨out14, s15⟩ rfl H hfr hs_o1
    try dsimp only at h hs_o1
    have hle := hfr.le
    have hl_o1 := h_lt hs_o1
    simp (disch := first | assumption | omega | (simp only [h_sl, h_al] <;> omega) | fail) only [WW, WH, ↓reduceIte, Nat.reduceEqDiff, Nat.reduceLT, Nat.reduceLeDiff, Nat.reduceAdd, Nat.reduceSub, Nat.reduceMul, Nat.reduceBEq, reduceCtorEq, if_false, if_true, L_ref13_Splitter_Feed, hs_o1, encLineV, encPieceV]
    have hq := Option.some.inj h; have hq0 := (Prod.mk.inj hq).1; replace hq := (Prod.mk.inj hq).2; subst hq0; subst hq
    refine hK0 _ _ _ (.inr rfl) ?_
    exact fn_end1 (by exact hfr) hcl (resv_tmp (a := (.sl .n 2 (ml encLineV out14))) rfl rfl resv_nil) (by simp [fin, AV.df, AV.sh, AV.sh1, b_df, b_sh, b_sh1, b_Cl]) (Wx.nn) (by exact ((hs_o1).trans rfl)) (by first | assumption | omega | (simp only [h_sl, h_al] <;> omega) | fail) (by simp [b_Cl]; try omega) (WxC.cons (Wx.int) (WxC.cons (Wx.oo) (WxC.cons (Wx.int) (WxC.cons (Wx.bool) (WxC.nil))))) (r' := (.sl .n 2 (ml encLineV out14))) ⟨rfl, rfl⟩

/-! ### mailbag/mailbaglaw13.same -/
def c_law13_same_l1b : ACode := (.seq (.seq (.rg [⟨(some 11), (.mv (.t 5)), none⟩, ⟨(some 12), (.mv (.t 0)), none⟩, ⟨(some 13), (.len (.t 12)), none⟩, ⟨(some 14), (.bin .lss (.t 11) (.t 13)), none⟩]) (.cond (.t 14) .skip (.exit 0))) (.seq (.blk 1 (.seq (.rg [⟨(some 17), (.mv (.t 0)), none⟩, ⟨(some 18), (.mv (.t 5)), none⟩, ⟨(some 19), (.ixa 2 (.t 17) (.t 18)), none⟩, ⟨(some 20), (.ld (.t 19) (some 2)), none⟩, ⟨(some 21), (.mv (.t 1)), none⟩, ⟨(some 22), (.mv (.t 5)), none⟩, ⟨(some 23), (.ixa 2 (.t 21) (.t 22)), none⟩, ⟨(some 24), (.ld (.t 23) (some 2)), none⟩, ⟨(some 25), (.seq [.s, .b] true (.t 20) (.t 24)), none⟩]) (.cond (.t 25) (.seq (.rg [⟨(some 4), (.asg (.c (.bool false))), none⟩]) .ret) .skip))) (.rg [⟨(some 15), (.mv (.t 5)), none⟩, ⟨(some 16), (.bin .add (.t 15) (.c (.int .i64 1))), none⟩, ⟨(some 5), (.asg (.t 16)), none⟩])))
def c_law13_same_l1 : ACode := (.loop c_law13_same_l1b)
abbrev m_law13_same_l1b := c_law13_same_l1b
def c_law13_same : ACode := (.seq (.rg [⟨(some 4), (.asg (.c (.bool false))), none⟩]) (.seq (.seq (.rg [⟨(some 6), (.mv (.t 0)), none⟩, ⟨(some 7), (.len (.t 6)), none⟩, ⟨(some 8), (.mv (.t 1)), none⟩, ⟨(some 9), (.len (.t 8)), none⟩, ⟨(some 10), (.bin .neq (.t 7) (.t 9)), none⟩]) (.cond (.t 10) (.seq (.rg [⟨(some 4), (.asg (.c (.bool false))), none⟩]) .ret) .skip)) (.seq (.seq (.rg [⟨(some 5), (.asg (.c (.int .i64 0))), none⟩]) (.blk 0 c_law13_same_l1)) (.seq (.rg [⟨(some 4), (.asg (.c (.bool true))), none⟩]) .ret))))
abbrev m_law13_same := c_law13_same
theorem k_law13_same : FnOk Try.prog 14 26 [(.tmp 4)] c_law13_same := ⟨Try.f14, _, rfl, by decide, rfl, by kernel_rfl, rfl, rfl⟩
abbrev L_law13_same : List Nat := [0, 1, 4, 5, 10, 14, 25]
def law13_same_l1 (a1 : List LineV) (b2 : List LineV) : (Bool × Int) → Option (St Bool Unit (Bool × Int))
  | (t3, i4) =>
    (if (decide (i4 < (a1.length : Int))) then
      (idx a1 i4).bind fun x5 =>
      (idx b2 i4).bind fun x6 =>
      (if (!(decide (x5.text = x6.text) && (x5.long == x6.long))) then
        some (.ret false)
      else
        some (.nxt (t3, (IntKind.wrap .i64 (i4 + 1)))))
    else
      some (.brk ()))
def law13_same (F : Nat) (a1 : List LineV) (b2 : List LineV) : Option (Bool) :=
  (if (!decide ((a1.length : Int) = (b2.length : Int))) then
    some false
  else
    ((iter (law13_same_l1 a1 b2) F (false, 0)).bind fun o9 =>
    match o9 with
    | .inr () =>
      some true
    | .inl r8 =>
      some r8))
set_option maxHeartbeats 2000000 in
theorem law13_same_l1_ok {F : Nat} {i4 : Int} {a1 : List LineV} {b2 : List LineV} {t3 : Bool} {H : AH}  {K : Exit → Env → AH → Prop} {o : (Bool) ⊕ (Unit)}
    (h : iter (law13_same_l1 a1 b2) F (t3, i4) = some o)
    (kb0 : ∀ o' : Unit, o = .inr o' → K (.exit 0) [] H)
    (kr : ∀ o' : Bool, o = .inl o' → K .ret [(4, (.bool o'))] H) :
    AX Try.prog L_law13_same 26 H.length c_law13_same_l1 K [(0, (.sl .n 2 (ml encLineV a1))), (1, (.sl .n 2 (ml encLineV b2))), (4, (.bool t3)), (5, (.int .i64 i4))] H := by
  refine AX.iter (m := m_law13_same_l1b) rfl (by decide) (fun s e H1 => match s with | (t3, i4) => e = [(0, (.sl .n 2 (ml encLineV a1))), (1, (.sl .n 2 (ml encLineV b2))), (4, (.bool t3)), (5, (.int .i64 i4))] ∧ H1 = H) h ⟨rfl, rfl⟩ ?_
  rintro K' ⟨t3, i4⟩ st e H ⟨rfl, rfl⟩ h hN hB hR hX
  rw [law13_same_l1.eq_1] at h
  simp only [WW, ↓reduceIte, Nat.reduceEqDiff, Nat.reduceLT, Nat.reduceLeDiff, Nat.reduceAdd, Nat.reduceSub, Nat.reduceMul, Nat.reduceBEq, reduceCtorEq, if_false, if_true, L_law13_same, m_law13_same_l1b, c_law13_same_l1b, encLineV, encPieceV]
  rcases ifb h with ⟨hy2, h⟩ | ⟨hy2, h⟩
  · refine UC_t hy2 ?_
    obtain ⟨x5, hy3, h⟩ := bnd' h
    obtain ⟨x6, hy4, h⟩ := bnd' h
    simp only [WW, ↓reduceIte, Nat.reduceEqDiff, Nat.reduceLT, Nat.reduceLeDiff, Nat.reduceAdd, Nat.reduceSub, Nat.reduceMul, Nat.reduceBEq, reduceCtorEq, if_false, if_true, L_law13_same, hy3, hy4, encLineV, encPieceV]
    rcases ifb h with ⟨hy5, h⟩ | ⟨hy5, h⟩
    · refine UC_t hy5 ?_
      simp only [WW, ↓reduceIte, Nat.reduceEqDiff, Nat.reduceLT, Nat.reduceLeDiff, Nat.reduceAdd, Nat.reduceSub, Nat.reduceMul, Nat.reduceBEq, reduceCtorEq, if_false, if_true, L_law13_same, encLineV, encPieceV]
      have hq := Option.some.inj h; subst hq
      refine hX _ _ _ _ _ (by simp) ?_ (WxH.refl _) (kr _ (hR _ rfl) )
      exact WE.cons (Wx.bool) (WE.nil)
    · refine UC_f hy5 ?_
      simp only [WW, ↓reduceIte, Nat.reduceEqDiff, Nat.reduceLT, Nat.reduceLeDiff, Nat.reduceAdd, Nat.reduceSub, Nat.reduceMul, Nat.reduceBEq, reduceCtorEq, if_false, if_true, L_law13_same, encLineV, encPieceV]
      have hq := Option.some.inj h; subst hq
      refine hN _ rfl _ _ _ _ ?_ (WxH.refl _) ⟨rfl, rfl⟩
      exact WE.cons (Wx.nn) (WE.cons (Wx.nn) (WE.cons (Wx.bool) (WE.cons (Wx.int) (WE.nil))))
  · refine UC_f hy2 ?_
    simp only [WW, ↓reduceIte, Nat.reduceEqDiff, Nat.reduceLT, Nat.reduceLeDiff, Nat.reduceAdd, Nat.reduceSub, Nat.reduceMul, Nat.reduceBEq, reduceCtorEq, if_false, if_true, L_law13_same, encLineV, encPieceV]
    have hq := Option.some.inj h; subst hq
    refine hX _ _ _ _ _ (by simp) ?_ (WxH.refl _) (kb0 _ (hB _ rfl) )
    exact WE.nil
set_option maxHeartbeats 2000000 in
theorem law13_same_ok {F : Nat} {a1 : List LineV} {b2 : List LineV}  {H0 : AH}  {r0 : Bool} (h : law13_same F a1 b2 = some r0) :
    ACalls Try.prog 14 [(.sl .n 2 (ml encLineV a1)), (.sl .n 2 (ml encLineV b2))] H0 fun v H' => v = (.bool r0) ∧ H' = H0 := by
  refine ACalls.goX k_law13_same (m := m_law13_same) rfl L_law13_same (by decide) (by simp) fun hcl K0 hK0 => ?_
  refine AX.of_U (m := m_law13_same) rfl (by decide) ?_
  rw [law13_same.eq_1] at h
  simp only [WW, ↓reduceIte, Nat.reduceEqDiff, Nat.reduceLT, Nat.reduceLeDiff, Nat.reduceAdd, Nat.reduceSub, Nat.reduceMul, Nat.reduceBEq, reduceCtorEq, if_false, if_true, L_law13_same, m_law13_same, c_law13_same, encLineV, encPieceV]
  rcases ifb h with ⟨hy1, h⟩ | ⟨hy1, h⟩
  · refine UC_t hy1 ?_
    simp only [WW, ↓reduceIte, Nat.reduceEqDiff, Nat.reduceLT, Nat.reduceLeDiff, Nat.reduceAdd, Nat.reduceSub, Nat.reduceMul, Nat.reduceBEq, reduceCtorEq, if_false, if_true, L_law13_same, encLineV, encPieceV]
    have hq := Option.some.inj h; subst hq
    refine hK0 _ _ _ (.inr rfl) ?_
    exact fn_endp hcl (resv_tmp (a := (.bool false)) rfl rfl resv_nil) (by simp [fin, AV.df, AV.sh, AV.sh1, b_df, b_sh, b_sh1, b_Cl]) (Wx.bool) (r' := (.bool false)) ⟨rfl, rfl⟩
  · refine UC_f hy1 ?_
    simp only [WW, ↓reduceIte, Nat.reduceEqDiff, Nat.reduceLT, Nat.reduceLeDiff, Nat.reduceAdd, Nat.reduceSub, Nat.reduceMul, Nat.reduceBEq, reduceCtorEq, if_false, if_true, L_law13_same, encLineV, encPieceV]
    obtain ⟨o9, hy6, h⟩ := bnd' h
    refine UX_of (AX.weak ?_ (WxH.refl _) (law13_same_l1_ok  (a1 := a1) (b2 := b2) (t3 := false) (i4 := 0)   (o := o9) hy6 ?_ ?_))
    · exact WE.cons (Wx.nn) (WE.cons (Wx.nn) (WE.cons (Wx.bool) (WE.cons (Wx.int) (WE.nil))))
    · rintro ⟨⟩ rfl  
      try dsimp only at h 
      simp only [WW, ↓reduceIte, Nat.reduceEqDiff, Nat.reduceLT, Nat.reduceLeDiff, Nat.reduceAdd, Nat.reduceSub, Nat.reduceMul, Nat.reduceBEq, reduceCtorEq, if_false, if_true, L_law13_same, encLineV, encPieceV]
      have hq := Option.some.inj h; subst hq
      refine hK0 _ _ _ (.inr rfl) ?_
      exact fn_endp hcl (resv_tmp (a := (.bool true)) rfl rfl resv_nil) (by simp [fin, AV.df, AV.sh, AV.sh1, b_df, b_sh, b_sh1, b_Cl]) (Wx.bool) (r' := (.bool true)) ⟨rfl, rfl⟩
    · rintro r8 rfl  
      try dsimp only at h 
      simp only [WW, ↓reduceIte, Nat.reduceEqDiff, Nat.reduceLT, Nat.reduceLeDiff, Nat.reduceAdd, Nat.reduceSub, Nat.reduceMul, Nat.reduceBEq, reduceCtorEq, if_false, if_true, L_law13_same, encLineV, encPieceV]
      have hq := Option.some.inj h; subst hq
      refine hK0 _ _ _ (.inr rfl) ?_
      exact fn_endp hcl (resv_tmp (a := (.bool r8)) rfl rfl resv_nil) (by simp [fin, AV.df, AV.sh, AV.sh1, b_df, b_sh, b_sh1, b_Cl]) (Wx.bool) (r' := (.bool r8)) ⟨rfl, rfl⟩

/-! ### (*mailbag/line.Splitter).Most -/
def c_line_Splitter_Most_p1 : ACode := (.rg [⟨(some 5), (.mv (.t 1)), none⟩, ⟨(some 6), (.call (.c (.fn 21 [])) [(.t 5)]), none⟩, ⟨(some 7), (.un .not (.t 6)), none⟩, ⟨(some 8), (.mv (.t 7)), none⟩, ⟨(some 9), (.mv (.t 0)), (some (8, false))⟩, ⟨(some 10), (.nck (.t 9)), (some (8, false))⟩, ⟨(some 11), (.fld (.t 10) 2), (some (8, false))⟩, ⟨(some 12), (.ld (.t 11) none), (some (8, false))⟩, ⟨(some 13), (.bin .neq (.t 12) (.c (.int .i64 0))), (some (8, false))⟩, ⟨(some 14), (.pick (.t 8) (.c (.bool true)) (.t 13)), none⟩])
abbrev m_line_Splitter_Most_p1 := c_line_Splitter_Most_p1
def c_line_Splitter_Most : ACode := (.seq (.rg [⟨(some 4), (.asg (.c (.bool false))), none⟩]) (.seq (.seq c_line_Splitter_Most_p1 (.cond (.t 14) (.seq (.rg [⟨(some 4), (.asg (.c (.bool false))), none⟩]) .ret) .skip)) (.seq (.rg [⟨(some 15), (.mv (.t 0)), none⟩, ⟨(some 16), (.mv (.t 1)), none⟩, ⟨(some 17), (.nck (.t 15)), none⟩, ⟨(some 18), (.fld (.t 17) 0), none⟩, ⟨none, (.st (.t 18) (.t 16) 1), none⟩]) (.seq (.rg [⟨(some 4), (.asg (.c (.bool true))), none⟩]) .ret))))
def m_line_Splitter_Most : ACode := (.seq (.rg [⟨(some 4), (.asg (.c (.bool false))), none⟩]) (.seq (.seq (.sem c_line_Splitter_Most_p1) (.cond (.t 14) (.seq (.rg [⟨(some 4), (.asg (.c (.bool false))), none⟩]) .ret) .skip)) (.seq (.rg [⟨(some 15), (.mv (.t 0)), none⟩, ⟨(some 16), (.mv (.t 1)), none⟩, ⟨(some 17), (.nck (.t 15)), none⟩, ⟨(some 18), (.fld (.t 17) 0), none⟩, ⟨none, (.st (.t 18) (.t 16) 1), none⟩]) (.seq (.rg [⟨(some 4), (.asg (.c (.bool true))), none⟩]) .ret))))
theorem k_line_Splitter_Most : FnOk Try.prog 16 19 [(.tmp 4)] c_line_Splitter_Most := ⟨Try.f16, _, rfl, by decide, rfl, by kernel_rfl, rfl, rfl⟩
abbrev L_line_Splitter_Most : List Nat := [0, 1, 4, 14]
def line_Splitter_Most_p1 (most3 : Int) (s2 : SplitterV) : Option (Bool) :=
  (line_may most3).bind fun r4 =>
  (if (!r4) then
    some true
  else
    some (!decide (s2.state = 0)))
def line_Splitter_Most (s2 : SplitterV) (most3 : Int) : Option (Bool × SplitterV) :=
  (line_Splitter_Most_p1 most3 s2).bind fun t6 =>
  (if t6 then
    some (false, s2)
  else
    some (true, (SplitterV.mk most3 s2.b s2.state s2.long)))
set_option maxHeartbeats 2000000 in
theorem line_Splitter_Most_p1_ok {most3 : Int} {s2 : SplitterV} {q1 : Nat} {H0 H : AH} (hfr : Fr H0 H0.length [q1] H) (hs_o1 : H[q1]? = some [(.int .i64 s2.most), (.sl .own 1 (ml b8 s2.b)), (.int .i64 s2.state), (.bool s2.long)]) (hi0 : q1 < H0.length) {K : Exit → Env → AH → Prop} {t5 : Bool}
    (h : line_Splitter_Most_p1 most3 s2 = some t5)
    (kn : ∀ H' : AH, Fr H0 H0.length [q1] H' → H'[q1]? = some [(.int .i64 s2.most), (.sl .own 1 (ml b8 s2.b)), (.int .i64 s2.state), (.bool s2.long)] → K .normal [(0, (.ptr q1 0)), (1, (.int .i64 most3)), (14, (.bool t5))] H') :
    AX Try.prog L_line_Splitter_Most 19 H0.length c_line_Splitter_Most_p1 K [(0, (.ptr q1 0)), (1, (.int .i64 most3))] H := by
  refine AX.go (m := m_line_Splitter_Most_p1) rfl (by decide) fun K' hK => ?_
  have hle := hfr.le
  have hl_o1 := h_lt hs_o1
  rw [line_Splitter_Most_p1.eq_1] at h
  simp (disch := first | assumption | omega | (simp only [h_sl, h_al] <;> omega) | fail) only [WW, WH, ↓reduceIte, Nat.reduceEqDiff, Nat.reduceLT, Nat.reduceLeDiff, Nat.reduceAdd, Nat.reduceSub, Nat.reduceMul, Nat.reduceBEq, reduceCtorEq, if_false, if_true, L_line_Splitter_Most, m_line_Splitter_Most_p1, c_line_Splitter_Most_p1, hs_o1, encLineV, encPieceV]
  obtain ⟨r4, hy1, h⟩ := bnd' h
  refine UK_e (as' := [(.int .i64 most3)]) (h := line_may_ok (most1 := most3)  hy1) (hw := WL.cons (Wx.int) (WL.nil)) (hh := WxH.refl _) ?_
  simp (disch := first | assumption | omega | (simp only [h_sl, h_al] <;> omega) | fail) only [WW, WH, ↓reduceIte, Nat.reduceEqDiff, Nat.reduceLT, Nat.reduceLeDiff, Nat.reduceAdd, Nat.reduceSub, Nat.reduceMul, Nat.reduceBEq, reduceCtorEq, if_false, if_true, L_line_Splitter_Most, hs_o1, encLineV, encPieceV]
  rcases ifb h with ⟨hy2, h⟩ | ⟨hy2, h⟩
  · refine UG_nf hy2 ?_
    simp (disch := first | assumption | omega | (simp only [h_sl, h_al] <;> omega) | fail) only [WW, WH, ↓reduceIte, Nat.reduceEqDiff, Nat.reduceLT, Nat.reduceLeDiff, Nat.reduceAdd, Nat.reduceSub, Nat.reduceMul, Nat.reduceBEq, reduceCtorEq, if_false, if_true, L_line_Splitter_Most, hy2, hs_o1, encLineV, encPieceV]
    have hq := Option.some.inj h; subst hq
    refine hK _ _ _ _ _ ?_ (WxH.refl _) (kn _ hfr ((hs_o1).trans rfl))
    exact WE.cons (Wx.ptr) (WE.cons (Wx.int) (WE.cons (Wx.bool) (WE.nil)))
  · refine UG_go hy2 ?_
    simp (disch := first | assumption | omega | (simp only [h_sl, h_al] <;> omega) | fail) only [WW, WH, ↓reduceIte, Nat.reduceEqDiff, Nat.reduceLT, Nat.reduceLeDiff, Nat.reduceAdd, Nat.reduceSub, Nat.reduceMul, Nat.reduceBEq, reduceCtorEq, if_false, if_true, L_line_Splitter_Most, hy2, hs_o1, encLineV, encPieceV]
    have hq := Option.some.inj h; subst hq
    refine hK _ _ _ _ _ ?_ (WxH.refl _) (kn _ hfr ((hs_o1).trans rfl))
    exact WE.cons (Wx.ptr) (WE.cons (Wx.int) (WE.cons (Wx.bool) (WE.nil)))
set_option maxHeartbeats 2000000 in
theorem line_Splitter_Most_ok {s2 : SplitterV} {most3 : Int} {q1 : Nat} {H0 : AH} (hs_o1 : H0[q1]? = some [(.int .i64 s2.most), (.sl .own 1 (ml b8 s2.b)), (.int .i64 s2.state), (.bool s2.long)]) {r0 : Bool} {r1 : SplitterV} (h : line_Splitter_Most s2 most3 = some (r0, r1)) :
    ACalls Try.prog 16 [(.ptr q1 0), (.int .i64 most3)] H0 fun v H' => v = (.bool r0) ∧ H' = (H0.set q1 [(.int .i64 r1.most), (.sl .own 1 (ml b8 r1.b)), (.int .i64 r1.state), (.bool r1.long)]) := by
  refine ACalls.goX k_line_Splitter_Most (m := m_line_Splitter_Most) rfl L_line_Splitter_Most (by decide) (by simp) fun hcl K0 hK0 => ?_
  refine AX.of_U (m := m_line_Splitter_Most) rfl (by decide) ?_
  have hl_o1 := h_lt hs_o1
  have hfr := Fr.refl H0 [q1]
  have hle := hfr.le
  rw [line_Splitter_Most.eq_1] at h
  obtain ⟨H, hHH⟩ : ∃ H, H = H0 := ⟨_, rfl⟩
  have hfr : Fr H0 H0.length [q1] H := hHH ▸ hfr
  have hs_o1 : H[q1]? = some [(.int .i64 s2.most), (.sl .own 1 (ml b8 s2.b)), (.int .i64 s2.state), (.bool s2.long)] := hHH ▸ hs_o1
  have hle := hfr.le
  have hL_o1 : q1 < H.length := h_lt hs_o1
  suffices hU : U Try.prog L_line_Splitter_Most 19 H0.length [.code m_line_Splitter_Most] K0 .normal (argE 0 [(.ptr q1 0), (.int .i64 most3)]) H by rwa [hHH] at hU
  simp (disch := first | assumption | omega | (simp only [h_sl, h_al] <;> omega) | fail) only [WW, WH, ↓reduceIte, Nat.reduceEqDiff, Nat.reduceLT, Nat.reduceLeDiff, Nat.reduceAdd, Nat.reduceSub, Nat.reduceMul, Nat.reduceBEq, reduceCtorEq, if_false, if_true, L_line_Splitter_Most, m_line_Splitter_Most, hs_o1, encLineV, encPieceV]
  obtain ⟨t6, hy3, h⟩ := bnd' h
  refine UX_of (AX.weak ?_ (WxH.refl _) (line_Splitter_Most_p1_ok  (most3 := most3) (s2 := s2) (q1 := q1) (t5 := t6)  (hfr) ((hs_o1).trans rfl) (by first | assumption | omega | (simp only [h_sl, h_al] <;> omega) | fail) hy3 ?_))
  · exact WE.cons (Wx.ptr) (WE.cons (Wx.int) (WE.nil))
  intro H hfr hs_o1
  have hle := hfr.le
  have hl_o1 := h_lt hs_o1
  simp (disch := first | assumption | omega | (simp only [h_sl, h_al] <;> omega) | fail) only [WW, WH, ↓reduceIte, Nat.reduceEqDiff, Nat.reduceLT, Nat.reduceLeDiff, Nat.reduceAdd, Nat.reduceSub, Nat.reduceMul, Nat.reduceBEq, reduceCtorEq, if_false, if_true, L_line_Splitter_Most, hs_o1, encLineV, encPieceV]
  rcases ifb h with ⟨hy4, h⟩ | ⟨hy4, h⟩
  · refine UC_t hy4 ?_
    simp (disch := first | assumption | omega | (simp only [h_sl, h_al] <;> omega) | fail) only [WW, WH, ↓reduceIte, Nat.reduceEqDiff, Nat.reduceLT, Nat.reduceLeDiff, Nat.reduceAdd, Nat.reduceSub, Nat.reduceMul, Nat.reduceBEq, reduceCtorEq, if_false, if_true, L_line_Splitter_Most, hs_o1, encLineV, encPieceV]
    have hq := Option.some.inj h; have hq0 := (Prod.mk.inj hq).1; replace hq := (Prod.mk.inj hq).2; subst hq0; subst hq
    refine hK0 _ _ _ (.inr rfl) ?_
    exact fn_end1 (by exact hfr) hcl (resv_tmp (a := (.bool false)) rfl rfl resv_nil) (by simp [fin, AV.df, AV.sh, AV.sh1, b_df, b_sh, b_sh1, b_Cl]) (Wx.bool) (by exact ((hs_o1).trans rfl)) (by first | assumption | omega | (simp only [h_sl, h_al] <;> omega) | fail) (by simp [b_Cl]; try omega) (WxC.cons (Wx.int) (WxC.cons (Wx.oo) (WxC.cons (Wx.int) (WxC.cons (Wx.bool) (WxC.nil))))) (r' := (.bool false)) ⟨rfl, rfl⟩
  · refine UC_f hy4 ?_
    simp (disch := first | assumption | omega | (simp only [h_sl, h_al] <;> omega) | fail) only [WW, WH, ↓reduceIte, Nat.reduceEqDiff, Nat.reduceLT, Nat.reduceLeDiff, Nat.reduceAdd, Nat.reduceSub, Nat.reduceMul, Nat.reduceBEq, reduceCtorEq, if_false, if_true, L_line_Splitter_Most, hs_o1, encLineV, encPieceV]
    have hq := Option.some.inj h; have hq0 := (Prod.mk.inj hq).1; replace hq := (Prod.mk.inj hq).2; subst hq0; subst hq
    refine hK0 _ _ _ (.inr rfl) ?_
    exact fn_end1 (by exact (Fr.set (s := q1) hfr (.inl (by simp)))) hcl (resv_tmp (a := (.bool true)) rfl rfl resv_nil) (by simp [fin, AV.df, AV.sh, AV.sh1, b_df, b_sh, b_sh1, b_Cl]) (Wx.bool) (by exact ((h_eq (by first | assumption | omega | (simp only [h_sl, h_al] <;> omega) | fail)).trans rfl)) (by first | assumption | omega | (simp only [h_sl, h_al] <;> omega) | fail) (by simp [b_Cl]; try omega) (WxC.cons (Wx.int) (WxC.cons (Wx.oo) (WxC.cons (Wx.int) (WxC.cons (Wx.bool) (WxC.nil))))) (r' := (.bool true)) ⟨rfl, rfl⟩

/-! ### (*mailbag/mailbagref13.Splitter).Set -/
def c_ref13_Splitter_Set_p1 : ACode := (.rg [⟨(some 5), (.mv (.t 1)), none⟩, ⟨(some 6), (.call (.c (.fn 8 [])) [(.t 5)]), none⟩, ⟨(some 7), (.un .not (.t 6)), none⟩, ⟨(some 8), (.mv (.t 7)), none⟩, ⟨(some 9), (.mv (.t 0)), (some (8, false))⟩, ⟨(some 10), (.nck (.t 9)), (some (8, false))⟩, ⟨(some 11), (.fld (.t 10) 2), (some (8, false))⟩, ⟨(some 12), (.ld (.t 11) none), (some (8, false))⟩, ⟨(some 13), (.bin .gtr (.t 12) (.c (.int .i64 0))), (some (8, false))⟩, ⟨(some 14), (.pick (.t 8) (.c (.bool true)) (.t 13)), none⟩, ⟨(some 15), (.mv (.t 14)), none⟩, ⟨(some 16), (.mv (.t 0)), (some (15, false))⟩, ⟨(some 17), (.nck (.t 16)), (some (15, false))⟩, ⟨(some 18), (.fld (.t 17) 3), (some (15, false))⟩, ⟨(some 19), (.ld (.t 18) none), (some (15, false))⟩, ⟨(some 20), (.pick (.t 15) (.c (.bool true)) (.t 19)), none⟩])
abbrev m_ref13_Splitter_Set_p1 := c_ref13_Splitter_Set_p1
def c_ref13_Splitter_Set : ACode := (.seq (.rg [⟨(some 4), (.asg (.c (.bool false))), none⟩]) (.seq (.seq c_ref13_Splitter_Set_p1 (.cond (.t 20) (.seq (.rg [⟨(some 4), (.asg (.c (.bool false))), none⟩]) .ret) .skip)) (.seq (.rg [⟨(some 21), (.mv (.t 0)), none⟩, ⟨(some 22), (.mv (.t 1)), none⟩, ⟨(some 23), (.nck (.t 21)), none⟩, ⟨(some 24), (.fld (.t 23) 0), none⟩, ⟨none, (.st (.t 24) (.t 22) 1), none⟩]) (.seq (.rg [⟨(some 4), (.asg (.c (.bool true))), none⟩]) .ret))))
def m_ref13_Splitter_Set : ACode := (.seq (.rg [⟨(some 4), (.asg (.c (.bool false))), none⟩]) (.seq (.seq (.sem c_ref13_Splitter_Set_p1) (.cond (.t 20) (.seq (.rg [⟨(some 4), (.asg (.c (.bool false))), none⟩]) .ret) .skip)) (.seq (.rg [⟨(some 21), (.mv (.t 0)), none⟩, ⟨(some 22), (.mv (.t 1)), none⟩, ⟨(some 23), (.nck (.t 21)), none⟩, ⟨(some 24), (.fld (.t 23) 0), none⟩, ⟨none, (.st (.t 24) (.t 22) 1), none⟩]) (.seq (.rg [⟨(some 4), (.asg (.c (.bool true))), none⟩]) .ret))))
theorem k_ref13_Splitter_Set : FnOk Try.prog 17 25 [(.tmp 4)] c_ref13_Splitter_Set := ⟨Try.f17, _, rfl, by decide, rfl, by kernel_rfl, rfl, rfl⟩
abbrev L_ref13_Splitter_Set : List Nat := [0, 1, 4, 20]
def ref13_Splitter_Set_p1 (most3 : Int) (s2 : SplitterVx) : Option (Bool) :=
  (ref13_Right most3).bind fun r4 =>
  (if (!r4) then
    some true
  else
    (if (decide (0 < s2.n)) then
      some true
    else
      some s2.cR))
def ref13_Splitter_Set (s2 : SplitterVx) (most3 : Int) : Option (Bool × SplitterVx) :=
  (ref13_Splitter_Set_p1 most3 s2).bind fun t6 =>
  (if t6 then
    some (false, s2)
  else
    some (true, (SplitterVx.mk most3 s2.b s2.n s2.cR)))
set_option maxHeartbeats 2000000 in
theorem ref13_Splitter_Set_p1_ok {most3 : Int} {s2 : SplitterVx} {q1 : Nat} {H0 H : AH} (hfr : Fr H0 H0.length [q1] H) (hs_o1 : H[q1]? = some [(.int .i64 s2.most), (.sl .own 1 (ml b8 s2.b)), (.int .i64 s2.n), (.bool s2.cR)]) (hi0 : q1 < H0.length) {K : Exit → Env → AH → Prop} {t5 : Bool}
    (h : ref13_Splitter_Set_p1 most3 s2 = some t5)
    (kn : ∀ H' : AH, Fr H0 H0.length [q1] H' → H'[q1]? = some [(.int .i64 s2.most), (.sl .own 1 (ml b8 s2.b)), (.int .i64 s2.n), (.bool s2.cR)] → K .normal [(0, (.ptr q1 0)), (1, (.int .i64 most3)), (20, (.bool t5))] H') :
    AX Try.prog L_ref13_Splitter_Set 25 H0.length c_ref13_Splitter_Set_p1 K [(0, (.ptr q1 0)), (1, (.int .i64 most3))] H := by
  refine AX.go (m := m_ref13_Splitter_Set_p1) rfl (by decide) fun K' hK => ?_
  have hle := hfr.le
  have hl_o1 := h_lt hs_o1
  rw [ref13_Splitter_Set_p1.eq_1] at h
  simp (disch := first | assumption | omega | (simp only [h_sl, h_al] <;> omega) | fail) only [WW, WH, ↓reduceIte, Nat.reduceEqDiff, Nat.reduceLT, Nat.reduceLeDiff, Nat.reduceAdd, Nat.reduceSub, Nat.reduceMul, Nat.reduceBEq, reduceCtorEq, if_false, if_true, L_ref13_Splitter_Set, m_ref13_Splitter_Set_p1, c_ref13_Splitter_Set_p1, hs_o1, encLineV, encPieceV]
  obtain ⟨r4, hy1, h⟩ := bnd' h
  refine UK_e (as' := [(.int .i64 most3)]) (h := ref13_Right_ok (most1 := most3)  hy1) (hw := WL.cons (Wx.int) (WL.nil)) (hh := WxH.refl _) ?_
  simp (disch := first | assumption | omega | (simp only [h_sl, h_al] <;> omega) | fail) only [WW, WH, ↓reduceIte, Nat.reduceEqDiff, Nat.reduceLT, Nat.reduceLeDiff, Nat.reduceAdd, Nat.reduceSub, Nat.reduceMul, Nat.reduceBEq, reduceCtorEq, if_false, if_true, L_ref13_Splitter_Set, hs_o1, encLineV, encPieceV]
  rcases ifb h with ⟨hy2, h⟩ | ⟨hy2, h⟩
  · refine UG_nf hy2 ?_
    simp (disch := first | assumption | omega | (simp only [h_sl, h_al] <;> omega) | fail) only [WW, WH, ↓reduceIte, Nat.reduceEqDiff, Nat.reduceLT, Nat.reduceLeDiff, Nat.reduceAdd, Nat.reduceSub, Nat.reduceMul, Nat.reduceBEq, reduceCtorEq, if_false, if_true, L_ref13_Splitter_Set, hy2, hs_o1, encLineV, encPieceV]
    have hq := Option.some.inj h; subst hq
    refine hK _ _ _ _ _ ?_ (WxH.refl _) (kn _ hfr ((hs_o1).trans rfl))
    exact WE.cons (Wx.ptr) (WE.cons (Wx.int) (WE.cons (Wx.bool) (WE.nil)))
  · refine UG_go hy2 ?_
    simp (disch := first | assumption | omega | (simp only [h_sl, h_al] <;> omega) | fail) only [WW, WH, ↓reduceIte, Nat.reduceEqDiff, Nat.reduceLT, Nat.reduceLeDiff, Nat.reduceAdd, Nat.reduceSub, Nat.reduceMul, Nat.reduceBEq, reduceCtorEq, if_false, if_true, L_ref13_Splitter_Set, hy2, hs_o1, encLineV, encPieceV]
    rcases ifb h with ⟨hy3, h⟩ | ⟨hy3, h⟩
    · refine UG_nf hy3 ?_
      simp (disch := first | assumption | omega | (simp only [h_sl, h_al] <;> omega) | fail) only [WW, WH, ↓reduceIte, Nat.reduceEqDiff, Nat.reduceLT, Nat.reduceLeDiff, Nat.reduceAdd, Nat.reduceSub, Nat.reduceMul, Nat.reduceBEq, reduceCtorEq, if_false, if_true, L_ref13_Splitter_Set, hy3, hs_o1, encLineV, encPieceV]
      have hq := Option.some.inj h; subst hq
      refine hK _ _ _ _ _ ?_ (WxH.refl _) (kn _ hfr ((hs_o1).trans rfl))
      exact WE.cons (Wx.ptr) (WE.cons (Wx.int) (WE.cons (Wx.bool) (WE.nil)))
    · refine UG_go hy3 ?_
      simp (disch := first | assumption | omega | (simp only [h_sl, h_al] <;> omega) | fail) only [WW, WH, ↓reduceIte, Nat.reduceEqDiff, Nat.reduceLT, Nat.reduceLeDiff, Nat.reduceAdd, Nat.reduceSub, Nat.reduceMul, Nat.reduceBEq, reduceCtorEq, if_false, if_true, L_ref13_Splitter_Set, hy3, hs_o1, encLineV, encPieceV]
      have hq := Option.some.inj h; subst hq
      refine hK _ _ _ _ _ ?_ (WxH.refl _) (kn _ hfr ((hs_o1).trans rfl))
      exact WE.cons (Wx.ptr) (WE.cons (Wx.int) (WE.cons (Wx.bool) (WE.nil)))
set_option maxHeartbeats 2000000 in
theorem ref13_Splitter_Set_ok {s2 : SplitterVx} {most3 : Int} {q1 : Nat} {H0 : AH} (hs_o1 : H0[q1]? = some [(.int .i64 s2.most), (.sl .own 1 (ml b8 s2.b)), (.int .i64 s2.n), (.bool s2.cR)]) {r0 : Bool} {r1 : SplitterVx} (h : ref13_Splitter_Set s2 most3 = some (r0, r1)) :
    ACalls Try.prog 17 [(.ptr q1 0), (.int .i64 most3)] H0 fun v H' => v = (.bool r0) ∧ H' = (H0.set q1 [(.int .i64 r1.most), (.sl .own 1 (ml b8 r1.b)), (.int .i64 r1.n), (.bool r1.cR)]) := by
  refine ACalls.goX k_ref13_Splitter_Set (m := m_ref13_Splitter_Set) rfl L_ref13_Splitter_Set (by decide) (by simp) fun hcl K0 hK0 => ?_
  refine AX.of_U (m := m_ref13_Splitter_Set) rfl (by decide) ?_
  have hl_o1 := h_lt hs_o1
  have hfr := Fr.refl H0 [q1]
  have hle := hfr.le
  rw [ref13_Splitter_Set.eq_1] at h
  obtain ⟨H, hHH⟩ : ∃ H, H = H0 := ⟨_, rfl⟩
  have hfr : Fr H0 H0.length [q1] H := hHH ▸ hfr
  have hs_o1 : H[q1]? = some [(.int .i64 s2.most), (.sl .own 1 (ml b8 s2.b)), (.int .i64 s2.n), (.bool s2.cR)] := hHH ▸ hs_o1
  have hle := hfr.le
  have hL_o1 : q1 < H.length := h_lt hs_o1
  suffices hU : U Try.prog L_ref13_Splitter_Set 25 H0.length [.code m_ref13_Splitter_Set] K0 .normal (argE 0 [(.ptr q1 0), (.int .i64 most3)]) H by rwa [hHH] at hU
  simp (disch := first | assumption | omega | (simp only [h_sl, h_al] <;> omega) | fail) only [WW, WH, ↓reduceIte, Nat.reduceEqDiff, Nat.reduceLT, Nat.reduceLeDiff, Nat.reduceAdd, Nat.reduceSub, Nat.reduceMul, Nat.reduceBEq, reduceCtorEq, if_false, if_true, L_ref13_Splitter_Set, m_ref13_Splitter_Set, hs_o1, encLineV, encPieceV]
  obtain ⟨t6, hy4, h⟩ := bnd' h
  refine UX_of (AX.weak ?_ (WxH.refl _) (ref13_Splitter_Set_p1_ok  (most3 := most3) (s2 := s2) (q1 := q1) (t5 := t6)  (hfr) ((hs_o1).trans rfl) (by first | assumption | omega | (simp only [h_sl, h_al] <;> omega) | fail) hy4 ?_))
  · exact WE.cons (Wx.ptr) (WE.cons (Wx.int) (WE.nil))
  intro H hfr hs_o1
  have hle := hfr.le
  have hl_o1 := h_lt hs_o1
  simp (disch := first | assumption | omega | (simp only [h_sl, h_al] <;> omega) | fail) only [WW, WH, ↓reduceIte, Nat.reduceEqDiff, Nat.reduceLT, Nat.reduceLeDiff, Nat.reduceAdd, Nat.reduceSub, Nat.reduceMul, Nat.reduceBEq, reduceCtorEq, if_false, if_true, L_ref13_Splitter_Set, hs_o1, encLineV, encPieceV]
  rcases ifb h with ⟨hy5, h⟩ | ⟨hy5, h⟩
  · refine UC_t hy5 ?_
    simp (disch := first | assumption | omega | (simp only [h_sl, h_al] <;> omega) | fail) only [WW, WH, ↓reduceIte, Nat.reduceEqDiff, Nat.reduceLT, Nat.reduceLeDiff, Nat.reduceAdd, Nat.reduceSub, Nat.reduceMul, Nat.reduceBEq, reduceCtorEq, if_false, if_true, L_ref13_Splitter_Set, hs_o1, encLineV, encPieceV]
    have hq := Option.some.inj h; have hq0 := (Prod.mk.inj hq).1; replace hq := (Prod.mk.inj hq).2; subst hq0; subst hq
    refine hK0 _ _ _ (.inr rfl) ?_
    exact fn_end1 (by exact hfr) hcl (resv_tmp (a := (.bool false)) rfl rfl resv_nil) (by simp [fin, AV.df, AV.sh, AV.sh1, b_df, b_sh, b_sh1, b_Cl]) (Wx.bool) (by exact ((hs_o1).trans rfl)) (by first | assumption | omega | (simp only [h_sl, h_al] <;> omega) | fail) (by simp [b_Cl]; try omega) (WxC.cons (Wx.int) (WxC.cons (Wx.oo) (WxC.cons (Wx.int) (WxC.cons (Wx.bool) (WxC.nil))))) (r' := (.bool false)) ⟨rfl, rfl⟩
  · refine UC_f hy5 ?_
    simp (disch := first | assumption | omega | (simp only [h_sl, h_al] <;> omega) | fail) only [WW, WH, ↓reduceIte, Nat.reduceEqDiff, Nat.reduceLT, Nat.reduceLeDiff, Nat.reduceAdd, Nat.reduceSub, Nat.reduceMul, Nat.reduceBEq, reduceCtorEq, if_false, if_true, L_ref13_Splitter_Set, hs_o1, encLineV, encPieceV]
    have hq := Option.some.inj h; have hq0 := (Prod.mk.inj hq).1; replace hq := (Prod.mk.inj hq).2; subst hq0; subst hq
    refine hK0 _ _ _ (.inr rfl) ?_
    exact fn_end1 (by exact (Fr.set (s := q1) hfr (.inl (by simp)))) hcl (resv_tmp (a := (.bool true)) rfl rfl resv_nil) (by simp [fin, AV.df, AV.sh, AV.sh1, b_df, b_sh, b_sh1, b_Cl]) (Wx.bool) (by exact ((h_eq (by first | assumption | omega | (simp only [h_sl, h_al] <;> omega) | fail)).trans rfl)) (by first | assumption | omega | (simp only [h_sl, h_al] <;> omega) | fail) (by simp [b_Cl]; try omega) (WxC.cons (Wx.int) (WxC.cons (Wx.oo) (WxC.cons (Wx.int) (WxC.cons (Wx.bool) (WxC.nil))))) (r' := (.bool true)) ⟨rfl, rfl⟩

/-! ### (*mailbag/mailbagref13.Splitter).Held -/
def c_ref13_Splitter_Held : ACode := (.seq (.rg [⟨(some 2), (.asg (.c (.int .i64 0))), none⟩]) (.seq (.seq (.rg [⟨(some 3), (.mv (.t 0)), none⟩, ⟨(some 4), (.nck (.t 3)), none⟩, ⟨(some 5), (.fld (.t 4) 3), none⟩, ⟨(some 6), (.ld (.t 5) none), none⟩]) (.cond (.t 6) (.seq (.rg [⟨(some 7), (.mv (.t 0)), none⟩, ⟨(some 8), (.nck (.t 7)), none⟩, ⟨(some 9), (.fld (.t 8) 1), none⟩, ⟨(some 10), (.ld (.t 9) none), none⟩, ⟨(some 11), (.len (.t 10)), none⟩, ⟨(some 12), (.bin .add (.t 11) (.c (.int .i64 1))), none⟩, ⟨(some 2), (.asg (.t 12)), none⟩]) .ret) .skip)) (.seq (.rg [⟨(some 13), (.mv (.t 0)), none⟩, ⟨(some 14), (.nck (.t 13)), none⟩, ⟨(some 15), (.fld (.t 14) 1), none⟩, ⟨(some 16), (.ld (.t 15) none), none⟩, ⟨(some 17), (.len (.t 16)), none⟩, ⟨(some 2), (.asg (.t 17)), none⟩]) .ret)))
abbrev m_ref13_Splitter_Held := c_ref13_Splitter_Held
theorem k_ref13_Splitter_Held : FnOk Try.prog 20 18 [(.tmp 2)] c_ref13_Splitter_Held := ⟨Try.f20, _, rfl, by decide, rfl, by kernel_rfl, rfl, rfl⟩
abbrev L_ref13_Splitter_Held : List Nat := [0, 2, 6]
def ref13_Splitter_Held (s2 : SplitterVx) : Option (Int) :=
  (if s2.cR then
    some (IntKind.wrap .i64 ((s2.b.length : Int) + 1))
  else
    some (s2.b.length : Int))
set_option maxHeartbeats 2000000 in
theorem ref13_Splitter_Held_ok {s2 : SplitterVx} {q1 : Nat} {H0 : AH} (hs_o1 : H0[q1]? = some [(.int .i64 s2.most), (.sl .own 1 (ml b8 s2.b)), (.int .i64 s2.n), (.bool s2.cR)]) {r0 : Int} (h : ref13_Splitter_Held s2 = some r0) :
    ACalls Try.prog 20 [(.ptr q1 0)] H0 fun v H' => v = (.int .i64 r0) ∧ H' = H0 := by
  refine ACalls.goX k_ref13_Splitter_Held (m := m_ref13_Splitter_Held) rfl L_ref13_Splitter_Held (by decide) (by simp) fun hcl K0 hK0 => ?_
  refine AX.of_U (m := m_ref13_Splitter_Held) rfl (by decide) ?_
  have hl_o1 := h_lt hs_o1
  have hfr := Fr.refl H0 []
  have hle := hfr.le
  rw [ref13_Splitter_Held.eq_1] at h
  obtain ⟨H, hHH⟩ : ∃ H, H = H0 := ⟨_, rfl⟩
  have hfr : Fr H0 H0.length [] H := hHH ▸ hfr
  have hs_o1 : H[q1]? = some [(.int .i64 s2.most), (.sl .own 1 (ml b8 s2.b)), (.int .i64 s2.n), (.bool s2.cR)] := hHH ▸ hs_o1
  have hle := hfr.le
  have hL_o1 : q1 < H.length := h_lt hs_o1
  suffices hU : U Try.prog L_ref13_Splitter_Held 18 H0.length [.code m_ref13_Splitter_Held] K0 .normal (argE 0 [(.ptr q1 0)]) H by rwa [hHH] at hU
  simp (disch := first | assumption | omega | (simp only [h_sl, h_al] <;> omega) | fail) only [WW, WH, ↓reduceIte, Nat.reduceEqDiff, Nat.reduceLT, Nat.reduceLeDiff, Nat.reduceAdd, Nat.reduceSub, Nat.reduceMul, Nat.reduceBEq, reduceCtorEq, if_false, if_true, L_ref13_Splitter_Held, m_ref13_Splitter_Held, c_ref13_Splitter_Held, hs_o1, encLineV, encPieceV]
  rcases ifb h with ⟨hy1, h⟩ | ⟨hy1, h⟩
  · refine UC_t hy1 ?_
    simp (disch := first | assumption | omega | (simp only [h_sl, h_al] <;> omega) | fail) only [WW, WH, ↓reduceIte, Nat.reduceEqDiff, Nat.reduceLT, Nat.reduceLeDiff, Nat.reduceAdd, Nat.reduceSub, Nat.reduceMul, Nat.reduceBEq, reduceCtorEq, if_false, if_true, L_ref13_Splitter_Held, hs_o1, encLineV, encPieceV]
    have hq := Option.some.inj h; subst hq
    refine hK0 _ _ _ (.inr rfl) ?_
    exact fn_end0 (by exact hfr) hcl (resv_tmp (a := (.int .i64 (IntKind.wrap .i64 ((s2.b.length : Int) + 1)))) rfl rfl resv_nil) (by simp [fin, AV.df, AV.sh, AV.sh1, b_df, b_sh, b_sh1, b_Cl]) (Wx.int) (r' := (.int .i64 (IntKind.wrap .i64 ((s2.b.length : Int) + 1)))) ⟨rfl, rfl⟩
  · refine UC_f hy1 ?_
    simp (disch := first | assumption | omega | (simp only [h_sl, h_al] <;> omega) | fail) only [WW, WH, ↓reduceIte, Nat.reduceEqDiff, Nat.reduceLT, Nat.reduceLeDiff, Nat.reduceAdd, Nat.reduceSub, Nat.reduceMul, Nat.reduceBEq, reduceCtorEq, if_false, if_true, L_ref13_Splitter_Held, hs_o1, encLineV, encPieceV]
    have hq := Option.some.inj h; subst hq
    refine hK0 _ _ _ (.inr rfl) ?_
    exact fn_end0 (by exact hfr) hcl (resv_tmp (a := (.int .i64 (s2.b.length : Int))) rfl rfl resv_nil) (by simp [fin, AV.df, AV.sh, AV.sh1, b_df, b_sh, b_sh1, b_Cl]) (Wx.int) (r' := (.int .i64 (s2.b.length : Int))) ⟨rfl, rfl⟩

/-! ### mailbag/mailbaglaw13.LineStreams -/
def c_law13_LineStreams_p1 : ACode := (.rg [⟨(some 24), (.mv (.t 5)), none⟩, ⟨(some 25), (.pq false (.t 24) (.c (.v (.pointer none)))), none⟩, ⟨(some 26), (.mv (.t 25)), none⟩, ⟨(some 27), (.mv (.t 6)), (some (26, true))⟩, ⟨(some 28), (.bin .eql (.t 27) (.c (.int .i64 1))), (some (26, true))⟩, ⟨(some 29), (.pick (.t 26) (.t 28) (.c (.bool false))), none⟩, ⟨(some 4), (.asg (.t 29)), none⟩])
abbrev m_law13_LineStreams_p1 := c_law13_LineStreams_p1
def c_law13_LineStreams_p2 : ACode := (.rg [⟨(some 30), (.mv (.t 6)), none⟩, ⟨(some 31), (.bin .neq (.t 30) (.c (.int .i64 0))), none⟩, ⟨(some 32), (.mv (.t 31)), none⟩, ⟨(some 33), (.mv (.t 5)), (some (32, false))⟩, ⟨(some 34), (.pq false (.t 33) (.c (.v (.pointer none)))), (some (32, false))⟩, ⟨(some 35), (.pick (.t 32) (.c (.bool true)) (.t 34)), none⟩])
abbrev m_law13_LineStreams_p2 := c_law13_LineStreams_p2
def c_law13_LineStreams_p3 : ACode := (.rg [⟨(some 78), (.mv (.t 10)), none⟩, ⟨(some 79), (.un .not (.t 78)), none⟩, ⟨(some 80), (.mv (.t 79)), none⟩, ⟨(some 81), (.mv (.t 9)), (some (80, false))⟩, ⟨(some 82), (.mv (.t 7)), (some (80, false))⟩, ⟨(some 83), (.mv (.t 1)), (some (80, false))⟩, ⟨(some 84), (.mv (.t 8)), (some (80, false))⟩, ⟨(some 85), (.ixa 3 (.t 83) (.t 84)), (some (80, false))⟩, ⟨(some 86), (.fld (.t 85) 2), (some (80, false))⟩, ⟨(some 87), (.ld (.t 86) none), (some (80, false))⟩, ⟨(some 88), (.call (.c (.fn 15 [])) [(.t 82), (.t 87)]), (some (80, false))⟩, ⟨(some 89), (.call (.c (.fn 14 [])) [(.t 81), (.t 88)]), (some (80, false))⟩, ⟨(some 90), (.un .not (.t 89)), (some (80, false))⟩, ⟨(some 91), (.pick (.t 80) (.c (.bool true)) (.t 90)), none⟩])
abbrev m_law13_LineStreams_p3 := c_law13_LineStreams_p3
def c_law13_LineStreams_p4 : ACode := (.cond (.t 66) (.seq (.rg [⟨(some 69), (.mv (.t 5)), none⟩, ⟨(some 70), (.mv (.t 1)), none⟩, ⟨(some 71), (.mv (.t 8)), none⟩, ⟨(some 72), (.ixa 3 (.t 70) (.t 71)), none⟩, ⟨(some 73), (.fld (.t 72) 2), none⟩, ⟨(some 74), (.ld (.t 73) none), none⟩, ⟨(some 75), (.call (.c (.fn 13 [])) [(.t 69), (.t 74)]), none⟩, ⟨(some 68), (.mv (.t 75)), none⟩, ⟨(some 76), (.ext (.t 68) 0), none⟩, ⟨(some 77), (.ext (.t 68) 1), none⟩, ⟨(some 9), (.asg (.t 76)), none⟩, ⟨(some 10), (.asg (.t 77)), none⟩]) (.seq c_law13_LineStreams_p3 (.cond (.t 91) (.seq (.rg [⟨(some 4), (.asg (.c (.bool false))), none⟩]) .ret) .skip))) (.seq (.rg [⟨(some 93), (.bin .eql (.t 49) (.c (.int .i64 2))), none⟩, ⟨(some 92), (.asg (.t 93)), none⟩]) (.cond (.t 92) (.seq (.rg [⟨(some 94), (.mv (.t 5)), none⟩, ⟨(some 95), (.mv (.t 1)), none⟩, ⟨(some 96), (.mv (.t 8)), none⟩, ⟨(some 97), (.ixa 3 (.t 95) (.t 96)), none⟩, ⟨(some 98), (.fld (.t 97) 1), none⟩, ⟨(some 99), (.lde (.t 98) none), none⟩, ⟨(some 101), (.mv (.t 7)), none⟩, ⟨(some 102), (.mv (.t 1)), none⟩, ⟨(some 103), (.mv (.t 8)), none⟩, ⟨(some 104), (.ixa 3 (.t 102) (.t 103)), none⟩, ⟨(some 105), (.fld (.t 104) 1), none⟩, ⟨(some 106), (.lde (.t 105) none), none⟩, ⟨(some 100), (.call (.c (.fn 16 [])) [(.t 94), (.t 99)]), none⟩, ⟨(some 107), (.call (.c (.fn 17 [])) [(.t 101), (.t 106)]), none⟩, ⟨(some 108), (.bq true (.t 100) (.t 107)), none⟩]) (.cond (.t 108) (.seq (.rg [⟨(some 4), (.asg (.c (.bool false))), none⟩]) .ret) .skip)) (.seq (.rg [⟨(some 110), (.bin .eql (.t 49) (.c (.int .i64 3))), none⟩, ⟨(some 109), (.asg (.t 110)), none⟩]) (.cond (.t 109) (.seq (.rg [⟨(some 111), (.mv (.t 5)), none⟩, ⟨(some 112), (.call (.c (.fn 18 [])) [(.t 111)]), none⟩]) (.rg [⟨(some 113), (.mv (.t 7)), none⟩, ⟨(some 114), (.call (.c (.fn 19 [])) [(.t 113)]), none⟩])) (.seq (.rg [⟨(some 50), (.mv (.t 5)), none⟩, ⟨(some 51), (.mv (.t 1)), none⟩, ⟨(some 52), (.mv (.t 8)), none⟩, ⟨(some 53), (.ixa 3 (.t 51) (.t 52)), none⟩, ⟨(some 54), (.fld (.t 53) 2), none⟩, ⟨(some 55), (.lde (.t 54) none), none⟩, ⟨(some 57), (.mv (.t 7)), none⟩, ⟨(some 58), (.mv (.t 1)), none⟩, ⟨(some 59), (.mv (.t 8)), none⟩, ⟨(some 60), (.ixa 3 (.t 58) (.t 59)), none⟩, ⟨(some 61), (.fld (.t 60) 2), none⟩, ⟨(some 62), (.lde (.t 61) none), none⟩, ⟨(some 56), (.call (.c (.fn 10 [])) [(.t 50), (.t 55)]), none⟩, ⟨(some 63), (.call (.c (.fn 15 [])) [(.t 57), (.t 62)]), none⟩, ⟨(some 64), (.call (.c (.fn 14 [])) [(.t 56), (.t 63)]), none⟩, ⟨(some 65), (.un .not (.t 64)), none⟩]) (.cond (.t 65) (.seq (.rg [⟨(some 4), (.asg (.c (.bool false))), none⟩]) .ret) .skip)))))))
def m_law13_LineStreams_p4 : ACode := (.cond (.t 66) (.seq (.rg [⟨(some 69), (.mv (.t 5)), none⟩, ⟨(some 70), (.mv (.t 1)), none⟩, ⟨(some 71), (.mv (.t 8)), none⟩, ⟨(some 72), (.ixa 3 (.t 70) (.t 71)), none⟩, ⟨(some 73), (.fld (.t 72) 2), none⟩, ⟨(some 74), (.ld (.t 73) none), none⟩, ⟨(some 75), (.call (.c (.fn 13 [])) [(.t 69), (.t 74)]), none⟩, ⟨(some 68), (.mv (.t 75)), none⟩, ⟨(some 76), (.ext (.t 68) 0), none⟩, ⟨(some 77), (.ext (.t 68) 1), none⟩, ⟨(some 9), (.asg (.t 76)), none⟩, ⟨(some 10), (.asg (.t 77)), none⟩]) (.seq (.sem c_law13_LineStreams_p3) (.cond (.t 91) (.seq (.rg [⟨(some 4), (.asg (.c (.bool false))), none⟩]) .ret) .skip))) (.seq (.rg [⟨(some 93), (.bin .eql (.t 49) (.c (.int .i64 2))), none⟩, ⟨(some 92), (.asg (.t 93)), none⟩]) (.cond (.t 92) (.seq (.rg [⟨(some 94), (.mv (.t 5)), none⟩, ⟨(some 95), (.mv (.t 1)), none⟩, ⟨(some 96), (.mv (.t 8)), none⟩, ⟨(some 97), (.ixa 3 (.t 95) (.t 96)), none⟩, ⟨(some 98), (.fld (.t 97) 1), none⟩, ⟨(some 99), (.lde (.t 98) none), none⟩, ⟨(some 101), (.mv (.t 7)), none⟩, ⟨(some 102), (.mv (.t 1)), none⟩, ⟨(some 103), (.mv (.t 8)), none⟩, ⟨(some 104), (.ixa 3 (.t 102) (.t 103)), none⟩, ⟨(some 105), (.fld (.t 104) 1), none⟩, ⟨(some 106), (.lde (.t 105) none), none⟩, ⟨(some 100), (.call (.c (.fn 16 [])) [(.t 94), (.t 99)]), none⟩, ⟨(some 107), (.call (.c (.fn 17 [])) [(.t 101), (.t 106)]), none⟩, ⟨(some 108), (.bq true (.t 100) (.t 107)), none⟩]) (.cond (.t 108) (.seq (.rg [⟨(some 4), (.asg (.c (.bool false))), none⟩]) .ret) .skip)) (.seq (.rg [⟨(some 110), (.bin .eql (.t 49) (.c (.int .i64 3))), none⟩, ⟨(some 109), (.asg (.t 110)), none⟩]) (.cond (.t 109) (.seq (.rg [⟨(some 111), (.mv (.t 5)), none⟩, ⟨(some 112), (.call (.c (.fn 18 [])) [(.t 111)]), none⟩]) (.rg [⟨(some 113), (.mv (.t 7)), none⟩, ⟨(some 114), (.call (.c (.fn 19 [])) [(.t 113)]), none⟩])) (.seq (.rg [⟨(some 50), (.mv (.t 5)), none⟩, ⟨(some 51), (.mv (.t 1)), none⟩, ⟨(some 52), (.mv (.t 8)), none⟩, ⟨(some 53), (.ixa 3 (.t 51) (.t 52)), none⟩, ⟨(some 54), (.fld (.t 53) 2), none⟩, ⟨(some 55), (.lde (.t 54) none), none⟩, ⟨(some 57), (.mv (.t 7)), none⟩, ⟨(some 58), (.mv (.t 1)), none⟩, ⟨(some 59), (.mv (.t 8)), none⟩, ⟨(some 60), (.ixa 3 (.t 58) (.t 59)), none⟩, ⟨(some 61), (.fld (.t 60) 2), none⟩, ⟨(some 62), (.lde (.t 61) none), none⟩, ⟨(some 56), (.call (.c (.fn 10 [])) [(.t 50), (.t 55)]), none⟩, ⟨(some 63), (.call (.c (.fn 15 [])) [(.t 57), (.t 62)]), none⟩, ⟨(some 64), (.call (.c (.fn 14 [])) [(.t 56), (.t 63)]), none⟩, ⟨(some 65), (.un .not (.t 64)), none⟩]) (.cond (.t 65) (.seq (.rg [⟨(some 4), (.asg (.c (.bool false))), none⟩]) .ret) .skip)))))))
def c_law13_LineStreams_l1b : ACode := (.seq (.seq (.rg [⟨(some 39), (.mv (.t 8)), none⟩, ⟨(some 40), (.mv (.t 1)), none⟩, ⟨(some 41), (.len (.t 40)), none⟩, ⟨(some 42), (.bin .lss (.t 39) (.t 41)), none⟩]) (.cond (.t 42) .skip (.exit 0))) (.seq (.blk 1 (.seq (.seq (.rg [⟨(some 45), (.mv (.t 1)), none⟩, ⟨(some 46), (.mv (.t 8)), none⟩, ⟨(some 47), (.ixa 3 (.t 45) (.t 46)), none⟩, ⟨(some 48), (.fld (.t 47) 0), none⟩, ⟨(some 49), (.ld (.t 48) none), none⟩]) (.blk 2 (.seq (.rg [⟨(some 67), (.bin .eql (.t 49) (.c (.int .i64 1))), none⟩, ⟨(some 66), (.asg (.t 67)), none⟩]) c_law13_LineStreams_p4))) (.seq (.rg [⟨(some 115), (.mv (.t 5)), none⟩, ⟨(some 116), (.call (.c (.fn 11 [])) [(.t 115)]), none⟩, ⟨(some 117), (.mv (.t 7)), none⟩, ⟨(some 118), (.call (.c (.fn 20 [])) [(.t 117)]), none⟩, ⟨(some 119), (.bin .neq (.t 116) (.t 118)), none⟩]) (.cond (.t 119) (.seq (.rg [⟨(some 4), (.asg (.c (.bool false))), none⟩]) .ret) .skip)))) (.rg [⟨(some 43), (.mv (.t 8)), none⟩, ⟨(some 44), (.bin .add (.t 43) (.c (.int .i64 1))), none⟩, ⟨(some 8), (.asg (.t 44)), none⟩])))
def c_law13_LineStreams_l1 : ACode := (.loop c_law13_LineStreams_l1b)
def m_law13_LineStreams_l1b : ACode := (.seq (.seq (.rg [⟨(some 39), (.mv (.t 8)), none⟩, ⟨(some 40), (.mv (.t 1)), none⟩, ⟨(some 41), (.len (.t 40)), none⟩, ⟨(some 42), (.bin .lss (.t 39) (.t 41)), none⟩]) (.cond (.t 42) .skip (.exit 0))) (.seq (.blk 1 (.seq (.seq (.rg [⟨(some 45), (.mv (.t 1)), none⟩, ⟨(some 46), (.mv (.t 8)), none⟩, ⟨(some 47), (.ixa 3 (.t 45) (.t 46)), none⟩, ⟨(some 48), (.fld (.t 47) 0), none⟩, ⟨(some 49), (.ld (.t 48) none), none⟩]) (.blk 2 (.seq (.rg [⟨(some 67), (.bin .eql (.t 49) (.c (.int .i64 1))), none⟩, ⟨(some 66), (.asg (.t 67)), none⟩]) (.sem c_law13_LineStreams_p4)))) (.seq (.rg [⟨(some 115), (.mv (.t 5)), none⟩, ⟨(some 116), (.call (.c (.fn 11 [])) [(.t 115)]), none⟩, ⟨(some 117), (.mv (.t 7)), none⟩, ⟨(some 118), (.call (.c (.fn 20 [])) [(.t 117)]), none⟩, ⟨(some 119), (.bin .neq (.t 116) (.t 118)), none⟩]) (.cond (.t 119) (.seq (.rg [⟨(some 4), (.asg (.c (.bool false))), none⟩]) .ret) .skip)))) (.rg [⟨(some 43), (.mv (.t 8)), none⟩, ⟨(some 44), (.bin .add (.t 43) (.c (.int .i64 1))), none⟩, ⟨(some 8), (.asg (.t 44)), none⟩])))
def c_law13_LineStreams : ACode := (.seq (.rg [⟨(some 4), (.asg (.c (.bool false))), none⟩]) (.seq (.seq (.rg [⟨(some 11), (.call (.c (.fn 7 [])) []), none⟩, ⟨(some 12), (.un .not (.t 11)), none⟩]) (.cond (.t 12) (.seq (.rg [⟨(some 4), (.asg (.c (.bool false))), none⟩]) .ret) .skip)) (.seq (.seq (.rg [⟨(some 13), (.mv (.t 1)), none⟩, ⟨(some 14), (.call (.c (.fn 12 [])) [(.t 13)]), none⟩, ⟨(some 15), (.un .not (.t 14)), none⟩]) (.cond (.t 15) (.seq (.rg [⟨(some 4), (.asg (.c (.bool true))), none⟩]) .ret) .skip)) (.seq (.rg [⟨(some 17), (.mv (.t 0)), none⟩, ⟨(some 18), (.call (.c (.fn 9 [])) [(.t 17)]), none⟩, ⟨(some 16), (.mv (.t 18)), none⟩, ⟨(some 19), (.ext (.t 16) 0), none⟩, ⟨(some 20), (.ext (.t 16) 1), none⟩, ⟨(some 5), (.asg (.t 19)), none⟩, ⟨(some 6), (.asg (.t 20)), none⟩]) (.seq (.seq (.rg [⟨(some 21), (.mv (.t 0)), none⟩, ⟨(some 22), (.call (.c (.fn 8 [])) [(.t 21)]), none⟩, ⟨(some 23), (.un .not (.t 22)), none⟩]) (.cond (.t 23) (.seq c_law13_LineStreams_p1 .ret) .skip)) (.seq (.seq c_law13_LineStreams_p2 (.cond (.t 35) (.seq (.rg [⟨(some 4), (.asg (.c (.bool false))), none⟩]) .ret) .skip)) (.seq (.rg [⟨(some 36), (.mv (.t 0)), none⟩, ⟨(some 37), (.build [(.int .i64 0), (.sl .ex 1 []), (.int .i64 0), (.bool false)] [(0, (1, (.t 36)))]), none⟩, ⟨(some 38), (.box (.t 37)), none⟩, ⟨(some 7), (.asg (.t 38)), none⟩]) (.seq (.seq (.rg [⟨(some 8), (.asg (.c (.int .i64 0))), none⟩]) (.blk 0 c_law13_LineStreams_l1)) (.seq (.rg [⟨(some 4), (.asg (.c (.bool true))), none⟩]) .ret)))))))))
def m_law13_LineStreams : ACode := (.seq (.rg [⟨(some 4), (.asg (.c (.bool false))), none⟩]) (.seq (.seq (.rg [⟨(some 11), (.call (.c (.fn 7 [])) []), none⟩, ⟨(some 12), (.un .not (.t 11)), none⟩]) (.cond (.t 12) (.seq (.rg [⟨(some 4), (.asg (.c (.bool false))), none⟩]) .ret) .skip)) (.seq (.seq (.rg [⟨(some 13), (.mv (.t 1)), none⟩, ⟨(some 14), (.call (.c (.fn 12 [])) [(.t 13)]), none⟩, ⟨(some 15), (.un .not (.t 14)), none⟩]) (.cond (.t 15) (.seq (.rg [⟨(some 4), (.asg (.c (.bool true))), none⟩]) .ret) .skip)) (.seq (.rg [⟨(some 17), (.mv (.t 0)), none⟩, ⟨(some 18), (.call (.c (.fn 9 [])) [(.t 17)]), none⟩, ⟨(some 16), (.mv (.t 18)), none⟩, ⟨(some 19), (.ext (.t 16) 0), none⟩, ⟨(some 20), (.ext (.t 16) 1), none⟩, ⟨(some 5), (.asg (.t 19)), none⟩, ⟨(some 6), (.asg (.t 20)), none⟩]) (.seq (.seq (.rg [⟨(some 21), (.mv (.t 0)), none⟩, ⟨(some 22), (.call (.c (.fn 8 [])) [(.t 21)]), none⟩, ⟨(some 23), (.un .not (.t 22)), none⟩]) (.cond (.t 23) (.seq (.sem c_law13_LineStreams_p1) .ret) .skip)) (.seq (.seq (.sem c_law13_LineStreams_p2) (.cond (.t 35) (.seq (.rg [⟨(some 4), (.asg (.c (.bool false))), none⟩]) .ret) .skip)) (.seq (.rg [⟨(some 36), (.mv (.t 0)), none⟩, ⟨(some 37), (.build [(.int .i64 0), (.sl .ex 1 []), (.int .i64 0), (.bool false)] [(0, (1, (.t 36)))]), none⟩, ⟨(some 38), (.box (.t 37)), none⟩, ⟨(some 7), (.asg (.t 38)), none⟩]) (.seq (.seq (.rg [⟨(some 8), (.asg (.c (.int .i64 0))), none⟩]) (.blk 0 c_law13_LineStreams_l1)) (.seq (.rg [⟨(some 4), (.asg (.c (.bool true))), none⟩]) .ret)))))))))
theorem k_law13_LineStreams : FnOk Try.prog 5 120 [(.tmp 4)] c_law13_LineStreams := ⟨Try.f5, _, rfl, by decide, rfl, by kernel_rfl, rfl, rfl⟩
abbrev L_law13_LineStreams : List Nat := [0, 1, 4, 5, 6, 7, 8, 9, 10, 12, 15, 23, 35, 42, 49, 65, 66, 91, 92, 108, 109, 119]
def law13_LineStreams_p3 (F : Nat) (r23 : Bool) (s17 : SplitterVx) (l2 : List PieceV) (i15 : Int) (r22 : List LineV) : Option (Bool × SplitterVx) :=
  (if (!r23) then
    some (true, s17)
  else
    (idx l2 i15).bind fun x27 =>
    (ref13_Splitter_Feed F s17 x27.b).bind fun (r28, r29) => (law13_same F r22 r28).bind fun r30 => some ((!r30), r29))
def law13_LineStreams_p4 (F : Nat) (x18 : PieceV) (l2 : List PieceV) (i15 : Int) (s16 : SplitterV) (s17 : SplitterVx) : Option (St Bool Unit (SplitterV × SplitterVx)) :=
  (if (decide (x18.kind = 1)) then
    (idx l2 i15).bind fun x21 =>
    (law13_nexts F s16 x21.b).bind fun (r22, r23, r24) =>
    (law13_LineStreams_p3 F r23 s17 l2 i15 r22).bind fun (t33, s34) =>
    (if t33 then
      some (.ret false)
    else
      some (.nxt (r24, s34)))
  else
    (if (decide (x18.kind = 2)) then
      (idx l2 i15).bind fun x35 =>
      (line_Splitter_Most s16 x35.n).bind fun (r36, r37) =>
      (ref13_Splitter_Set s17 x35.n).bind fun (r38, r39) =>
      (if (!(r36 == r38)) then
        some (.ret false)
      else
        some (.nxt (r37, r39)))
    else
      (if (decide (x18.kind = 3)) then
        (line_Splitter_Reset s16).bind fun r40 =>
        (ref13_Splitter_Reset s17).bind fun r41 => some (.nxt (r40, r41))
      else
        (idx l2 i15).bind fun x42 =>
        (line_Splitter_Feed F s16 x42.b).bind fun (r43, r44) =>
        (ref13_Splitter_Feed F s17 x42.b).bind fun (r45, r46) =>
        (law13_same F r43 r45).bind fun r47 =>
        (if (!r47) then
          some (.ret false)
        else
          some (.nxt (r44, r46))))))
def law13_LineStreams_l1 (F : Nat) (l2 : List PieceV) : (Int × SplitterV × SplitterVx) → Option (St Bool (SplitterV × SplitterVx) (Int × SplitterV × SplitterVx))
  | (i15, s16, s17) =>
    (if (decide (i15 < (l2.length : Int))) then
      (idx l2 i15).bind fun x18 =>
      ((law13_LineStreams_p4 F x18 l2 i15 s16 s17).bind fun o56 =>
      match o56 with
      | .nxt (s51, s52) =>
        (line_Splitter_Held s51).bind fun r53 =>
        (ref13_Splitter_Held s52).bind fun r54 =>
        (if (!decide (r53 = r54)) then
          some (.ret false)
        else
          some (.nxt ((IntKind.wrap .i64 (i15 + 1)), s51, s52)))
      | .ret r55 =>
        some (.ret r55)
      | .brk _ => none)
    else
      some (.brk (s16, s17)))
def law13_LineStreams (F : Nat) (most1 : Int) (l2 : List PieceV) : Option (Bool) :=
  (law13_known F ).bind fun r3 =>
  (if (!r3) then
    some false
  else
    (law13_few F l2).bind fun r4 =>
    (if (!r4) then
      some true
    else
      ((line_New most1).bind fun (r5, r6) =>
      match r5 with
      | none =>
        (ref13_Right most1).bind fun r8 => (if (!r8) then
          some (decide (r6 = 1))
        else
          some false)
      | some t7 =>
        (ref13_Right most1).bind fun r10 =>
        (if (!r10) then
          some false
        else
          (if (!decide (r6 = 0)) then
            some false
          else
            ((iter (law13_LineStreams_l1 F l2) F (0, t7, (SplitterVx.mk most1 ([] : List UInt8) 0 false))).bind fun o63 =>
            match o63 with
            | .inr (s60, s61) =>
              some true
            | .inl r62 =>
              some r62))))))
set_option maxHeartbeats 2000000 in
theorem law13_LineStreams_p1_ok {r6 : Int} {H0 H : AH} (hfr : Fr H0 H0.length [] H) {K : Exit → Env → AH → Prop}
    (kn : ∀ H' : AH, Fr H0 H0.length [] H' → K .normal [(4, (.bool (decide (r6 = 1))))] H') :
    AX Try.prog L_law13_LineStreams 120 H0.length c_law13_LineStreams_p1 K [(4, (.bool false)), (5, (.v (.pointer none))), (6, (.int .i64 r6))] H := by
  refine AX.go (m := m_law13_LineStreams_p1) rfl (by decide) fun K' hK => ?_
  have hle := hfr.le
  simp (disch := first | assumption | omega | (simp only [h_sl, h_al] <;> omega) | fail) only [WW, WH, ↓reduceIte, Nat.reduceEqDiff, Nat.reduceLT, Nat.reduceLeDiff, Nat.reduceAdd, Nat.reduceSub, Nat.reduceMul, Nat.reduceBEq, reduceCtorEq, if_false, if_true, L_law13_LineStreams, m_law13_LineStreams_p1, c_law13_LineStreams_p1, encLineV, encPieceV]
  refine hK _ _ _ _ _ ?_ (WxH.refl _) (kn _ hfr)
  exact WE.cons (Wx.bool) (WE.nil)
set_option maxHeartbeats 2000000 in
theorem law13_LineStreams_p2_ok {most1 : Int} {l2 : List PieceV} {r6 : Int} {H0 H : AH} (hfr : Fr H0 H0.length [] H) {K : Exit → Env → AH → Prop}
    (kn : ∀ H' : AH, Fr H0 H0.length [] H' → K .normal [(0, (.int .i64 most1)), (1, (.sl .n 3 (ml encPieceV l2))), (5, (.v (.pointer none))), (35, (.bool true))] H') :
    AX Try.prog L_law13_LineStreams 120 H0.length c_law13_LineStreams_p2 K [(0, (.int .i64 most1)), (1, (.sl .n 3 (ml encPieceV l2))), (5, (.v (.pointer none))), (6, (.int .i64 r6))] H := by
  refine AX.go (m := m_law13_LineStreams_p2) rfl (by decide) fun K' hK => ?_
  have hle := hfr.le
  simp (disch := first | assumption | omega | (simp only [h_sl, h_al] <;> omega) | fail) only [WW, WH, ↓reduceIte, Nat.reduceEqDiff, Nat.reduceLT, Nat.reduceLeDiff, Nat.reduceAdd, Nat.reduceSub, Nat.reduceMul, Nat.reduceBEq, reduceCtorEq, if_false, if_true, L_law13_LineStreams, m_law13_LineStreams_p2, c_law13_LineStreams_p2, encLineV, encPieceV]
  rcases bcases ((!decide (r6 = 0))) with hy8 | hy8
  · refine UG_nf hy8 ?_
    simp (disch := first | assumption | omega | (simp only [h_sl, h_al] <;> omega) | fail) only [WW, WH, ↓reduceIte, Nat.reduceEqDiff, Nat.reduceLT, Nat.reduceLeDiff, Nat.reduceAdd, Nat.reduceSub, Nat.reduceMul, Nat.reduceBEq, reduceCtorEq, if_false, if_true, L_law13_LineStreams, hy8, encLineV, encPieceV]
    refine hK _ _ _ _ _ ?_ (WxH.refl _) (kn _ hfr)
    exact WE.cons (Wx.int) (WE.cons (Wx.nn) (WE.cons (Wx.v) (WE.cons (Wx.bool) (WE.nil))))
  · refine UG_go hy8 ?_
    simp (disch := first | assumption | omega | (simp only [h_sl, h_al] <;> omega) | fail) only [WW, WH, ↓reduceIte, Nat.reduceEqDiff, Nat.reduceLT, Nat.reduceLeDiff, Nat.reduceAdd, Nat.reduceSub, Nat.reduceMul, Nat.reduceBEq, reduceCtorEq, if_false, if_true, L_law13_LineStreams, hy8, encLineV, encPieceV]
    refine hK _ _ _ _ _ ?_ (WxH.refl _) (kn _ hfr)
    exact WE.cons (Wx.int) (WE.cons (Wx.nn) (WE.cons (Wx.v) (WE.cons (Wx.bool) (WE.nil))))
set_option maxHeartbeats 2000000 in
theorem law13_LineStreams_p1x_ok {q11 : Nat} {r6 : Int} {t7 : SplitterV} {H0 H : AH} (hfr : Fr H0 H0.length [] H) (hs_o1 : H[q11]? = some [(.int .i64 t7.most), (.sl .own 1 (ml b8 t7.b)), (.int .i64 t7.state), (.bool t7.long)]) (hi0 : H0.length ≤ q11) {K : Exit → Env → AH → Prop}
    (kn : ∀ H' : AH, Fr H0 H0.length [] H' → H'[q11]? = some [(.int .i64 t7.most), (.sl .own 1 (ml b8 t7.b)), (.int .i64 t7.state), (.bool t7.long)] → K .normal [(4, (.bool false))] H') :
    AX Try.prog L_law13_LineStreams 120 H0.length c_law13_LineStreams_p1 K [(4, (.bool false)), (5, (.ptr q11 0)), (6, (.int .i64 r6))] H := by
  refine AX.go (m := m_law13_LineStreams_p1) rfl (by decide) fun K' hK => ?_
  have hle := hfr.le
  have hl_o1 := h_lt hs_o1
  simp (disch := first | assumption | omega | (simp only [h_sl, h_al] <;> omega) | fail) only [WW, WH, ↓reduceIte, Nat.reduceEqDiff, Nat.reduceLT, Nat.reduceLeDiff, Nat.reduceAdd, Nat.reduceSub, Nat.reduceMul, Nat.reduceBEq, reduceCtorEq, if_false, if_true, L_law13_LineStreams, m_law13_LineStreams_p1, c_law13_LineStreams_p1, hs_o1, encLineV, encPieceV]
  refine hK _ _ _ _ _ ?_ (WxH.refl _) (kn _ hfr ((hs_o1).trans rfl))
  exact WE.cons (Wx.bool) (WE.nil)
set_option maxHeartbeats 2000000 in
theorem law13_LineStreams_p2x_ok {most1 : Int} {l2 : List PieceV} {q12 : Nat} {r6 : Int} {t7 : SplitterV} {H0 H : AH} (hfr : Fr H0 H0.length [] H) (hs_o1 : H[q12]? = some [(.int .i64 t7.most), (.sl .own 1 (ml b8 t7.b)), (.int .i64 t7.state), (.bool t7.long)]) (hi0 : H0.length ≤ q12) {K : Exit → Env → AH → Prop}
    (kn : ∀ H' : AH, Fr H0 H0.length [] H' → H'[q12]? = some [(.int .i64 t7.most), (.sl .own 1 (ml b8 t7.b)), (.int .i64 t7.state), (.bool t7.long)] → K .normal [(0, (.int .i64 most1)), (1, (.sl .n 3 (ml encPieceV l2))), (5, (.ptr q12 0)), (35, (.bool (!decide (r6 = 0))))] H') :
    AX Try.prog L_law13_LineStreams 120 H0.length c_law13_LineStreams_p2 K [(0, (.int .i64 most1)), (1, (.sl .n 3 (ml encPieceV l2))), (5, (.ptr q12 0)), (6, (.int .i64 r6))] H := by
  refine AX.go (m := m_law13_LineStreams_p2) rfl (by decide) fun K' hK => ?_
  have hle := hfr.le
  have hl_o1 := h_lt hs_o1
  simp (disch := first | assumption | omega | (simp only [h_sl, h_al] <;> omega) | fail) only [WW, WH, ↓reduceIte, Nat.reduceEqDiff, Nat.reduceLT, Nat.reduceLeDiff, Nat.reduceAdd, Nat.reduceSub, Nat.reduceMul, Nat.reduceBEq, reduceCtorEq, if_false, if_true, L_law13_LineStreams, m_law13_LineStreams_p2, c_law13_LineStreams_p2, hs_o1, encLineV, encPieceV]
  rcases bcases ((!decide (r6 = 0))) with hy11 | hy11
  · refine UG_nf hy11 ?_
    simp (disch := first | assumption | omega | (simp only [h_sl, h_al] <;> omega) | fail) only [WW, WH, ↓reduceIte, Nat.reduceEqDiff, Nat.reduceLT, Nat.reduceLeDiff, Nat.reduceAdd, Nat.reduceSub, Nat.reduceMul, Nat.reduceBEq, reduceCtorEq, if_false, if_true, L_law13_LineStreams, hy11, hs_o1, encLineV, encPieceV]
    refine hK _ _ _ _ _ ?_ (WxH.refl _) (kn _ hfr ((hs_o1).trans rfl))
    exact WE.cons (Wx.int) (WE.cons (Wx.nn) (WE.cons (Wx.ptr) (WE.cons (Wx.boolE (by simp only [hy11, WB])) (WE.nil))))
  · refine UG_go hy11 ?_
    simp (disch := first | assumption | omega | (simp only [h_sl, h_al] <;> omega) | fail) only [WW, WH, ↓reduceIte, Nat.reduceEqDiff, Nat.reduceLT, Nat.reduceLeDiff, Nat.reduceAdd, Nat.reduceSub, Nat.reduceMul, Nat.reduceBEq, reduceCtorEq, if_false, if_true, L_law13_LineStreams, hy11, hs_o1, encLineV, encPieceV]
    refine hK _ _ _ _ _ ?_ (WxH.refl _) (kn _ hfr ((hs_o1).trans rfl))
    exact WE.cons (Wx.int) (WE.cons (Wx.nn) (WE.cons (Wx.ptr) (WE.cons (Wx.boolE (by simp only [hy11, WB])) (WE.nil))))
set_option maxHeartbeats 2000000 in
theorem law13_LineStreams_p3_ok {F : Nat} {r23 : Bool} {s17 : SplitterVx} {l2 : List PieceV} {i15 : Int} {r22 : List LineV} {q25 : Nat} {q26 : Nat} {r24 : SplitterV} {H0 H : AH} (hfr : Fr H0 H0.length [] H) (hs_o1 : H[q25]? = some [(.int .i64 r24.most), (.sl .own 1 (ml b8 r24.b)), (.int .i64 r24.state), (.bool r24.long)]) (hs_o2 : H[q26]? = some [(.int .i64 s17.most), (.sl .own 1 (ml b8 s17.b)), (.int .i64 s17.n), (.bool s17.cR)]) (hi0 : H0.length ≤ q25) (hi1 : H0.length ≤ q26) (hi2 : q25 ≠ q26) {K : Exit → Env → AH → Prop} {t31 : Bool} {s32 : SplitterVx}
    (h : law13_LineStreams_p3 F r23 s17 l2 i15 r22 = some (t31, s32))
    (kn : ∀ H' : AH, Fr H0 H0.length [] H' → H'[q25]? = some [(.int .i64 r24.most), (.sl .own 1 (ml b8 r24.b)), (.int .i64 r24.state), (.bool r24.long)] → H'[q26]? = some [(.int .i64 s32.most), (.sl .own 1 (ml b8 s32.b)), (.int .i64 s32.n), (.bool s32.cR)] → K .normal [(1, (.sl .n 3 (ml encPieceV l2))), (5, (.ptr q25 0)), (7, (.ptr q26 0)), (8, (.int .i64 i15)), (91, (.bool t31))] H') :
    AX Try.prog L_law13_LineStreams 120 H0.length c_law13_LineStreams_p3 K [(1, (.sl .n 3 (ml encPieceV l2))), (5, (.ptr q25 0)), (7, (.ptr q26 0)), (8, (.int .i64 i15)), (9, (.sl .n 2 (ml encLineV r22))), (10, (.bool r23))] H := by
  refine AX.go (m := m_law13_LineStreams_p3) rfl (by decide) fun K' hK => ?_
  have hle := hfr.le
  have hl_o1 := h_lt hs_o1
  have hl_o2 := h_lt hs_o2
  rw [law13_LineStreams_p3.eq_1] at h
  simp (disch := first | assumption | omega | (simp only [h_sl, h_al] <;> omega) | fail) only [WW, WH, ↓reduceIte, Nat.reduceEqDiff, Nat.reduceLT, Nat.reduceLeDiff, Nat.reduceAdd, Nat.reduceSub, Nat.reduceMul, Nat.reduceBEq, reduceCtorEq, if_false, if_true, L_law13_LineStreams, m_law13_LineStreams_p3, c_law13_LineStreams_p3, hs_o1, hs_o2, encLineV, encPieceV]
  rcases ifb h with ⟨hy18, h⟩ | ⟨hy18, h⟩
  · refine UG_nf hy18 ?_
    simp (disch := first | assumption | omega | (simp only [h_sl, h_al] <;> omega) | fail) only [WW, WH, ↓reduceIte, Nat.reduceEqDiff, Nat.reduceLT, Nat.reduceLeDiff, Nat.reduceAdd, Nat.reduceSub, Nat.reduceMul, Nat.reduceBEq, reduceCtorEq, if_false, if_true, L_law13_LineStreams, hy18, hs_o1, hs_o2, encLineV, encPieceV]
    have hq := Option.some.inj h; have hq0 := (Prod.mk.inj hq).1; replace hq := (Prod.mk.inj hq).2; subst hq0; subst hq
    refine hK _ _ _ _ _ ?_ (WxH.refl _) (kn _ hfr ((hs_o1).trans rfl) ((hs_o2).trans rfl))
    exact WE.cons (Wx.nn) (WE.cons (Wx.ptr) (WE.cons (Wx.ptr) (WE.cons (Wx.int) (WE.cons (Wx.bool) (WE.nil)))))
  · refine UG_go hy18 ?_
    obtain ⟨x27, hy19, h⟩ := bnd' h
    simp (disch := first | assumption | omega | (simp only [h_sl, h_al] <;> omega) | fail) only [WW, WH, ↓reduceIte, Nat.reduceEqDiff, Nat.reduceLT, Nat.reduceLeDiff, Nat.reduceAdd, Nat.reduceSub, Nat.reduceMul, Nat.reduceBEq, reduceCtorEq, if_false, if_true, L_law13_LineStreams, hy18, hy19, hs_o1, hs_o2, encLineV, encPieceV]
    obtain ⟨⟨r28, r29⟩, hy20, h⟩ := bnd' h
    dsimp only at h
    refine UK_e (as' := [(.ptr q26 0), (.sl .n 1 (ml b8 x27.b))]) (h := ref13_Splitter_Feed_ok (s2 := s17) (b3 := x27.b) (q1 := q26) (F := F) (by exact ((hs_o2).trans rfl)) hy20) (hw := WL.cons (Wx.ptr) (WL.cons (Wx.nn) (WL.nil))) (hh := WxH.refl _) ?_
    simp (disch := first | assumption | omega | (simp only [h_sl, h_al] <;> omega) | fail) only [WW, WH, ↓reduceIte, Nat.reduceEqDiff, Nat.reduceLT, Nat.reduceLeDiff, Nat.reduceAdd, Nat.reduceSub, Nat.reduceMul, Nat.reduceBEq, reduceCtorEq, if_false, if_true, L_law13_LineStreams, hs_o1, hs_o2, encLineV, encPieceV]
    obtain ⟨r30, hy21, h⟩ := bnd' h
    refine UK_e (as' := [(.sl .n 2 (ml encLineV r22)), (.sl .n 2 (ml encLineV r28))]) (h := law13_same_ok (a1 := r22) (b2 := r28) (F := F)  hy21) (hw := WL.cons (Wx.nn) (WL.cons (Wx.nn) (WL.nil))) (hh := WxH.refl _) ?_
    simp (disch := first | assumption | omega | (simp only [h_sl, h_al] <;> omega) | fail) only [WW, WH, ↓reduceIte, Nat.reduceEqDiff, Nat.reduceLT, Nat.reduceLeDiff, Nat.reduceAdd, Nat.reduceSub, Nat.reduceMul, Nat.reduceBEq, reduceCtorEq, if_false, if_true, L_law13_LineStreams, hs_o1, hs_o2, encLineV, encPieceV]
    have hq := Option.some.inj h; have hq0 := (Prod.mk.inj hq).1; replace hq := (Prod.mk.inj hq).2; subst hq0; subst hq
    refine hK _ _ _ _ _ ?_ (WxH.refl _) (kn _ (Fr.set (s := q26) hfr (.inr (by first | assumption | omega | (simp only [h_sl, h_al] <;> omega) | fail))) (((h_ne (by first | assumption | omega | (simp only [h_sl, h_al] <;> omega) | fail)).trans (hs_o1)).trans rfl) ((h_eq (by first | assumption | omega | (simp only [h_sl, h_al] <;> omega) | fail)).trans rfl))
    exact WE.cons (Wx.nn) (WE.cons (Wx.ptr) (WE.cons (Wx.ptr) (WE.cons (Wx.int) (WE.cons (Wx.bool) (WE.nil)))))
set_option maxHeartbeats 2000000 in
theorem law13_LineStreams_p4_ok {F : Nat} {x18 : PieceV} {l2 : List PieceV} {i15 : Int} {s16 : SplitterV} {s17 : SplitterVx} {q19 : Nat} {q20 : Nat} {H0 H : AH} (hfr : Fr H0 H0.length [] H) (hs_o1 : H[q19]? = some [(.int .i64 s16.most), (.sl .own 1 (ml b8 s16.b)), (.int .i64 s16.state), (.bool s16.long)]) (hs_o2 : H[q20]? = some [(.int .i64 s17.most), (.sl .own 1 (ml b8 s17.b)), (.int .i64 s17.n), (.bool s17.cR)]) (hi0 : H0.length ≤ q19) (hi1 : H0.length ≤ q20) (hi2 : q19 ≠ q20) {K : Exit → Env → AH → Prop} {o : St Bool Unit (SplitterV × SplitterVx)}
    (h : law13_LineStreams_p4 F x18 l2 i15 s16 s17 = some o)
    (kn : ∀ o' : SplitterV × SplitterVx, o = .nxt o' → ∀ H' : AH, Fr H0 H0.length [] H' → H'[q19]? = some [(.int .i64 o'.1.most), (.sl .own 1 (ml b8 o'.1.b)), (.int .i64 o'.1.state), (.bool o'.1.long)] → H'[q20]? = some [(.int .i64 o'.2.most), (.sl .own 1 (ml b8 o'.2.b)), (.int .i64 o'.2.n), (.bool o'.2.cR)] → K .normal [(1, (.sl .n 3 (ml encPieceV l2))), (5, (.ptr q19 0)), (7, (.ptr q20 0)), (8, (.int .i64 i15))] H')
    (kr : ∀ o' : Bool, o = .ret o' → ∀ H' : AH, Fr H0 H0.length [] H' → K .ret [(4, (.bool o'))] H') :
    AX Try.prog L_law13_LineStreams 120 H0.length c_law13_LineStreams_p4 K [(1, (.sl .n 3 (ml encPieceV l2))), (5, (.ptr q19 0)), (7, (.ptr q20 0)), (8, (.int .i64 i15)), (49, (.int .i64 x18.kind)), (66, (.bool (decide (x18.kind = 1))))] H := by
  refine AX.go (m := m_law13_LineStreams_p4) rfl (by decide) fun K' hK => ?_
  have hle := hfr.le
  have hl_o1 := h_lt hs_o1
  have hl_o2 := h_lt hs_o2
  rw [law13_LineStreams_p4.eq_1] at h
  simp (disch := first | assumption | omega | (simp only [h_sl, h_al] <;> omega) | fail) only [WW, WH, ↓reduceIte, Nat.reduceEqDiff, Nat.reduceLT, Nat.reduceLeDiff, Nat.reduceAdd, Nat.reduceSub, Nat.reduceMul, Nat.reduceBEq, reduceCtorEq, if_false, if_true, L_law13_LineStreams, m_law13_LineStreams_p4, hs_o1, hs_o2, encLineV, encPieceV]
  rcases ifb h with ⟨hy15, h⟩ | ⟨hy15, h⟩
  · refine UC_t hy15 ?_
    obtain ⟨x21, hy16, h⟩ := bnd' h
    simp (disch := first | assumption | omega | (simp only [h_sl, h_al] <;> omega) | fail) only [WW, WH, ↓reduceIte, Nat.reduceEqDiff, Nat.reduceLT, Nat.reduceLeDiff, Nat.reduceAdd, Nat.reduceSub, Nat.reduceMul, Nat.reduceBEq, reduceCtorEq, if_false, if_true, L_law13_LineStreams, hy16, hs_o1, hs_o2, encLineV, encPieceV]
    obtain ⟨⟨r22, r23, r24⟩, hy17, h⟩ := bnd' h
    dsimp only at h
    refine UK_e (as' := [(.ptr q19 0), (.sl .n 1 (ml b8 x21.b))]) (h := law13_nexts_ok (s2 := s16) (b3 := x21.b) (q1 := q19) (F := F) (by exact ((hs_o1).trans rfl)) hy17) (hw := WL.cons (Wx.ptr) (WL.cons (Wx.nn) (WL.nil))) (hh := WxH.refl _) ?_
    simp (disch := first | assumption | omega | (simp only [h_sl, h_al] <;> omega) | fail) only [WW, WH, ↓reduceIte, Nat.reduceEqDiff, Nat.reduceLT, Nat.reduceLeDiff, Nat.reduceAdd, Nat.reduceSub, Nat.reduceMul, Nat.reduceBEq, reduceCtorEq, if_false, if_true, L_law13_LineStreams, hs_o1, hs_o2, encLineV, encPieceV]
    obtain ⟨⟨t33, s34⟩, hy22, h⟩ := bnd' h
    dsimp only at h
    refine UX_of (AX.weak ?_ (WxH.refl _) (law13_LineStreams_p3_ok (F := F) (r23 := r23) (s17 := s17) (l2 := l2) (i15 := i15) (r22 := r22) (r24 := r24) (t31 := t33) (s32 := s34) (q25 := q19) (q26 := q20) ((Fr.set (s := q19) hfr (.inr (by first | assumption | omega | (simp only [h_sl, h_al] <;> omega) | fail)))) ((h_eq (by first | assumption | omega | (simp only [h_sl, h_al] <;> omega) | fail)).trans rfl) (((h_ne (by first | assumption | omega | (simp only [h_sl, h_al] <;> omega) | fail)).trans (hs_o2)).trans rfl) (by first | assumption | omega | (simp only [h_sl, h_al] <;> omega) | fail) (by first | assumption | omega | (simp only [h_sl, h_al] <;> omega) | fail) (by first | assumption | omega | (simp only [h_sl, h_al] <;> omega) | fail) hy22 ?_))
    · exact WE.cons (Wx.nn) (WE.cons (Wx.ptr) (WE.cons (Wx.ptr) (WE.cons (Wx.int) (WE.cons (Wx.nn) (WE.cons (Wx.bool) (WE.nil))))))
    intro H hfr hs_o1 hs_o2
    have hle := hfr.le
    have hl_o1 := h_lt hs_o1
    have hl_o2 := h_lt hs_o2
    simp (disch := first | assumption | omega | (simp only [h_sl, h_al] <;> omega) | fail) only [WW, WH, ↓reduceIte, Nat.reduceEqDiff, Nat.reduceLT, Nat.reduceLeDiff, Nat.reduceAdd, Nat.reduceSub, Nat.reduceMul, Nat.reduceBEq, reduceCtorEq, if_false, if_true, L_law13_LineStreams, hs_o1, hs_o2, encLineV, encPieceV]
    rcases ifb h with ⟨hy23, h⟩ | ⟨hy23, h⟩
    · refine UC_t hy23 ?_
      simp (disch := first | assumption | omega | (simp only [h_sl, h_al] <;> omega) | fail) only [WW, WH, ↓reduceIte, Nat.reduceEqDiff, Nat.reduceLT, Nat.reduceLeDiff, Nat.reduceAdd, Nat.reduceSub, Nat.reduceMul, Nat.reduceBEq, reduceCtorEq, if_false, if_true, L_law13_LineStreams, hs_o1, hs_o2, encLineV, encPieceV]
      have hq := Option.some.inj h; subst hq
      refine hK _ _ _ _ _ ?_ (WxH.refl _) (kr _ rfl _ hfr)
      exact WE.cons (Wx.bool) (WE.nil)
    · refine UC_f hy23 ?_
      simp (disch := first | assumption | omega | (simp only [h_sl, h_al] <;> omega) | fail) only [WW, WH, ↓reduceIte, Nat.reduceEqDiff, Nat.reduceLT, Nat.reduceLeDiff, Nat.reduceAdd, Nat.reduceSub, Nat.reduceMul, Nat.reduceBEq, reduceCtorEq, if_false, if_true, L_law13_LineStreams, hs_o1, hs_o2, encLineV, encPieceV]
      have hq := Option.some.inj h; subst hq
      refine hK _ _ _ _ _ ?_ (WxH.refl _) (kn _ rfl _ hfr ((hs_o1).trans rfl) ((hs_o2).trans rfl))
      exact WE.cons (Wx.nn) (WE.cons (Wx.ptr) (WE.cons (Wx.ptr) (WE.cons (Wx.int) (WE.nil))))
  · refine UC_f hy15 ?_
    simp (disch := first | assumption | omega | (simp only [h_sl, h_al] <;> omega) | fail) only [WW, WH, ↓reduceIte, Nat.reduceEqDiff, Nat.reduceLT, Nat.reduceLeDiff, Nat.reduceAdd, Nat.reduceSub, Nat.reduceMul, Nat.reduceBEq, reduceCtorEq, if_false, if_true, L_law13_LineStreams, hs_o1, hs_o2, encLineV, encPieceV]
    rcases ifb h with ⟨hy24, h⟩ | ⟨hy24, h⟩
    · refine UC_t hy24 ?_
      obtain ⟨x35, hy25, h⟩ := bnd' h
      simp (disch := first | assumption | omega | (simp only [h_sl, h_al] <;> omega) | fail) only [WW, WH, ↓reduceIte, Nat.reduceEqDiff, Nat.reduceLT, Nat.reduceLeDiff, Nat.reduceAdd, Nat.reduceSub, Nat.reduceMul, Nat.reduceBEq, reduceCtorEq, if_false, if_true, L_law13_LineStreams, hy25, hy25, hs_o1, hs_o2, encLineV, encPieceV]
      obtain ⟨⟨r36, r37⟩, hy26, h⟩ := bnd' h
      dsimp only at h
      refine UK_e (as' := [(.ptr q19 0), (.int .i64 x35.n)]) (h := line_Splitter_Most_ok (s2 := s16) (most3 := x35.n) (q1 := q19) (by exact ((hs_o1).trans rfl)) hy26) (hw := WL.cons (Wx.ptr) (WL.cons (Wx.int) (WL.nil))) (hh := WxH.refl _) ?_
      simp (disch := first | assumption | omega | (simp only [h_sl, h_al] <;> omega) | fail) only [WW, WH, ↓reduceIte, Nat.reduceEqDiff, Nat.reduceLT, Nat.reduceLeDiff, Nat.reduceAdd, Nat.reduceSub, Nat.reduceMul, Nat.reduceBEq, reduceCtorEq, if_false, if_true, L_law13_LineStreams, hs_o1, hs_o2, encLineV, encPieceV]
      obtain ⟨⟨r38, r39⟩, hy27, h⟩ := bnd' h
      dsimp only at h
      refine UK_e (as' := [(.ptr q20 0), (.int .i64 x35.n)]) (h := ref13_Splitter_Set_ok (s2 := s17) (most3 := x35.n) (q1 := q20) (by exact (((h_ne (by first | assumption | omega | (simp only [h_sl, h_al] <;> omega) | fail)).trans (hs_o2)).trans rfl)) hy27) (hw := WL.cons (Wx.ptr) (WL.cons (Wx.int) (WL.nil))) (hh := WxH.refl _) ?_
      simp (disch := first | assumption | omega | (simp only [h_sl, h_al] <;> omega) | fail) only [WW, WH, ↓reduceIte, Nat.reduceEqDiff, Nat.reduceLT, Nat.reduceLeDiff, Nat.reduceAdd, Nat.reduceSub, Nat.reduceMul, Nat.reduceBEq, reduceCtorEq, if_false, if_true, L_law13_LineStreams, hs_o1, hs_o2, encLineV, encPieceV]
      rcases ifb h with ⟨hy28, h⟩ | ⟨hy28, h⟩
      · refine UC_t hy28 ?_
        simp (disch := first | assumption | omega | (simp only [h_sl, h_al] <;> omega) | fail) only [WW, WH, ↓reduceIte, Nat.reduceEqDiff, Nat.reduceLT, Nat.reduceLeDiff, Nat.reduceAdd, Nat.reduceSub, Nat.reduceMul, Nat.reduceBEq, reduceCtorEq, if_false, if_true, L_law13_LineStreams, hs_o1, hs_o2, encLineV, encPieceV]
        have hq := Option.some.inj h; subst hq
        refine hK _ _ _ _ _ ?_ (WxH.refl _) (kr _ rfl _ (Fr.set (s := q20) (Fr.set (s := q19) hfr (.inr (by first | assumption | omega | (simp only [h_sl, h_al] <;> omega) | fail))) (.inr (by first | assumption | omega | (simp only [h_sl, h_al] <;> omega) | fail))))
        exact WE.cons (Wx.bool) (WE.nil)
      · refine UC_f hy28 ?_
        simp (disch := first | assumption | omega | (simp only [h_sl, h_al] <;> omega) | fail) only [WW, WH, ↓reduceIte, Nat.reduceEqDiff, Nat.reduceLT, Nat.reduceLeDiff, Nat.reduceAdd, Nat.reduceSub, Nat.reduceMul, Nat.reduceBEq, reduceCtorEq, if_false, if_true, L_law13_LineStreams, hs_o1, hs_o2, encLineV, encPieceV]
        have hq := Option.some.inj h; subst hq
        refine hK _ _ _ _ _ ?_ (WxH.refl _) (kn _ rfl _ (Fr.set (s := q20) (Fr.set (s := q19) hfr (.inr (by first | assumption | omega | (simp only [h_sl, h_al] <;> omega) | fail))) (.inr (by first | assumption | omega | (simp only [h_sl, h_al] <;> omega) | fail))) (((h_ne (by first | assumption | omega | (simp only [h_sl, h_al] <;> omega) | fail)).trans (h_eq (by first | assumption | omega | (simp only [h_sl, h_al] <;> omega) | fail))).trans rfl) ((h_eq (by first | assumption | omega | (simp only [h_sl, h_al] <;> omega) | fail)).trans rfl))
        exact WE.cons (Wx.nn) (WE.cons (Wx.ptr) (WE.cons (Wx.ptr) (WE.cons (Wx.int) (WE.nil))))
    · refine UC_f hy24 ?_
      simp (disch := first | assumption | omega | (simp only [h_sl, h_al] <;> omega) | fail) only [WW, WH, ↓reduceIte, Nat.reduceEqDiff, Nat.reduceLT, Nat.reduceLeDiff, Nat.reduceAdd, Nat.reduceSub, Nat.reduceMul, Nat.reduceBEq, reduceCtorEq, if_false, if_true, L_law13_LineStreams, hs_o1, hs_o2, encLineV, encPieceV]
      rcases ifb h with ⟨hy29, h⟩ | ⟨hy29, h⟩
      · refine UC_t hy29 ?_
        simp (disch := first | assumption | omega | (simp only [h_sl, h_al] <;> omega) | fail) only [WW, WH, ↓reduceIte, Nat.reduceEqDiff, Nat.reduceLT, Nat.reduceLeDiff, Nat.reduceAdd, Nat.reduceSub, Nat.reduceMul, Nat.reduceBEq, reduceCtorEq, if_false, if_true, L_law13_LineStreams, hs_o1, hs_o2, encLineV, encPieceV]
        obtain ⟨r40, hy30, h⟩ := bnd' h
        refine UK_e (as' := [(.ptr q19 0)]) (h := line_Splitter_Reset_ok (s2 := s16) (q1 := q19) (by exact ((hs_o1).trans rfl)) hy30) (hw := WL.cons (Wx.ptr) (WL.nil)) (hh := WxH.refl _) ?_
        simp (disch := first | assumption | omega | (simp only [h_sl, h_al] <;> omega) | fail) only [WW, WH, ↓reduceIte, Nat.reduceEqDiff, Nat.reduceLT, Nat.reduceLeDiff, Nat.reduceAdd, Nat.reduceSub, Nat.reduceMul, Nat.reduceBEq, reduceCtorEq, if_false, if_true, L_law13_LineStreams, hs_o1, hs_o2, encLineV, encPieceV]
        obtain ⟨r41, hy31, h⟩ := bnd' h
        refine UK_e (as' := [(.ptr q20 0)]) (h := ref13_Splitter_Reset_ok (s2 := s17) (q1 := q20) (by exact (((h_ne (by first | assumption | omega | (simp only [h_sl, h_al] <;> omega) | fail)).trans (hs_o2)).trans rfl)) hy31) (hw := WL.cons (Wx.ptr) (WL.nil)) (hh := WxH.refl _) ?_
        simp (disch := first | assumption | omega | (simp only [h_sl, h_al] <;> omega) | fail) only [WW, WH, ↓reduceIte, Nat.reduceEqDiff, Nat.reduceLT, Nat.reduceLeDiff, Nat.reduceAdd, Nat.reduceSub, Nat.reduceMul, Nat.reduceBEq, reduceCtorEq, if_false, if_true, L_law13_LineStreams, hs_o1, hs_o2, encLineV, encPieceV]
        have hq := Option.some.inj h; subst hq
        refine hK _ _ _ _ _ ?_ (WxH.refl _) (kn _ rfl _ (Fr.set (s := q20) (Fr.set (s := q19) hfr (.inr (by first | assumption | omega | (simp only [h_sl, h_al] <;> omega) | fail))) (.inr (by first | assumption | omega | (simp only [h_sl, h_al] <;> omega) | fail))) (((h_ne (by first | assumption | omega | (simp only [h_sl, h_al] <;> omega) | fail)).trans (h_eq (by first | assumption | omega | (simp only [h_sl, h_al] <;> omega) | fail))).trans rfl) ((h_eq (by first | assumption | omega | (simp only [h_sl, h_al] <;> omega) | fail)).trans rfl))
        exact WE.cons (Wx.nn) (WE.cons (Wx.ptr) (WE.cons (Wx.ptr) (WE.cons (Wx.int) (WE.nil))))
      · refine UC_f hy29 ?_
        obtain ⟨x42, hy32, h⟩ := bnd' h
        simp (disch := first | assumption | omega | (simp only [h_sl, h_al] <;> omega) | fail) only [WW, WH, ↓reduceIte, Nat.reduceEqDiff, Nat.reduceLT, Nat.reduceLeDiff, Nat.reduceAdd, Nat.reduceSub, Nat.reduceMul, Nat.reduceBEq, reduceCtorEq, if_false, if_true, L_law13_LineStreams, hy32, hy32, hs_o1, hs_o2, encLineV, encPieceV]
        obtain ⟨⟨r43, r44⟩, hy33, h⟩ := bnd' h
        dsimp only at h
        refine UK_e (as' := [(.ptr q19 0), (.sl .n 1 (ml b8 x42.b))]) (h := line_Splitter_Feed_ok (s2 := s16) (b3 := x42.b) (q1 := q19) (F := F) (by exact ((hs_o1).trans rfl)) hy33) (hw := WL.cons (Wx.ptr) (WL.cons (Wx.nn) (WL.nil))) (hh := WxH.refl _) ?_
        simp (disch := first | assumption | omega | (simp only [h_sl, h_al] <;> omega) | fail) only [WW, WH, ↓reduceIte, Nat.reduceEqDiff, Nat.reduceLT, Nat.reduceLeDiff, Nat.reduceAdd, Nat.reduceSub, Nat.reduceMul, Nat.reduceBEq, reduceCtorEq, if_false, if_true, L_law13_LineStreams, hs_o1, hs_o2, encLineV, encPieceV]
        obtain ⟨⟨r45, r46⟩, hy34, h⟩ := bnd' h
        dsimp only at h
        refine UK_e (as' := [(.ptr q20 0), (.sl .n 1 (ml b8 x42.b))]) (h := ref13_Splitter_Feed_ok (s2 := s17) (b3 := x42.b) (q1 := q20) (F := F) (by exact (((h_ne (by first | assumption | omega | (simp only [h_sl, h_al] <;> omega) | fail)).trans (hs_o2)).trans rfl)) hy34) (hw := WL.cons (Wx.ptr) (WL.cons (Wx.nn) (WL.nil))) (hh := WxH.refl _) ?_
        simp (disch := first | assumption | omega | (simp only [h_sl, h_al] <;> omega) | fail) only [WW, WH, ↓reduceIte, Nat.reduceEqDiff, Nat.reduceLT, Nat.reduceLeDiff, Nat.reduceAdd, Nat.reduceSub, Nat.reduceMul, Nat.reduceBEq, reduceCtorEq, if_false, if_true, L_law13_LineStreams, hs_o1, hs_o2, encLineV, encPieceV]
        obtain ⟨r47, hy35, h⟩ := bnd' h
        refine UK_e (as' := [(.sl .n 2 (ml encLineV r43)), (.sl .n 2 (ml encLineV r45))]) (h := law13_same_ok (a1 := r43) (b2 := r45) (F := F)  hy35) (hw := WL.cons (Wx.nn) (WL.cons (Wx.nn) (WL.nil))) (hh := WxH.refl _) ?_
        simp (disch := first | assumption | omega | (simp only [h_sl, h_al] <;> omega) | fail) only [WW, WH, ↓reduceIte, Nat.reduceEqDiff, Nat.reduceLT, Nat.reduceLeDiff, Nat.reduceAdd, Nat.reduceSub, Nat.reduceMul, Nat.reduceBEq, reduceCtorEq, if_false, if_true, L_law13_LineStreams, hs_o1, hs_o2, encLineV, encPieceV]
        rcases ifb h with ⟨hy36, h⟩ | ⟨hy36, h⟩
        · refine UC_t hy36 ?_
          simp (disch := first | assumption | omega | (simp only [h_sl, h_al] <;> omega) | fail) only [WW, WH, ↓reduceIte, Nat.reduceEqDiff, Nat.reduceLT, Nat.reduceLeDiff, Nat.reduceAdd, Nat.reduceSub, Nat.reduceMul, Nat.reduceBEq, reduceCtorEq, if_false, if_true, L_law13_LineStreams, hs_o1, hs_o2, encLineV, encPieceV]
          have hq := Option.some.inj h; subst hq
          refine hK _ _ _ _ _ ?_ (WxH.refl _) (kr _ rfl _ (Fr.set (s := q20) (Fr.set (s := q19) hfr (.inr (by first | assumption | omega | (simp only [h_sl, h_al] <;> omega) | fail))) (.inr (by first | assumption | omega | (simp only [h_sl, h_al] <;> omega) | fail))))
          exact WE.cons (Wx.bool) (WE.nil)
        · refine UC_f hy36 ?_
          simp (disch := first | assumption | omega | (simp only [h_sl, h_al] <;> omega) | fail) only [WW, WH, ↓reduceIte, Nat.reduceEqDiff, Nat.reduceLT, Nat.reduceLeDiff, Nat.reduceAdd, Nat.reduceSub, Nat.reduceMul, Nat.reduceBEq, reduceCtorEq, if_false, if_true, L_law13_LineStreams, hs_o1, hs_o2, encLineV, encPieceV]
          have hq := Option.some.inj h; subst hq
          refine hK _ _ _ _ _ ?_ (WxH.refl _) (kn _ rfl _ (Fr.set (s := q20) (Fr.set (s := q19) hfr (.inr (by first | assumption | omega | (simp only [h_sl, h_al] <;> omega) | fail))) (.inr (by first | assumption | omega | (simp only [h_sl, h_al] <;> omega) | fail))) (((h_ne (by first | assumption | omega | (simp only [h_sl, h_al] <;> omega) | fail)).trans (h_eq (by first | assumption | omega | (simp only [h_sl, h_al] <;> omega) | fail))).trans rfl) ((h_eq (by first | assumption | omega | (simp only [h_sl, h_al] <;> omega) | fail)).trans rfl))
          exact WE.cons (Wx.nn) (WE.cons (Wx.ptr) (WE.cons (Wx.ptr) (WE.cons (Wx.int) (WE.nil))))
set_option maxHeartbeats 2000000 in
theorem law13_LineStreams_l1_ok {F : Nat} {i15 : Int} {l2 : List PieceV} {s16 : SplitterV} {s17 : SplitterVx} {q13 : Nat} {q14 : Nat} {H0 H : AH} (hfr : Fr H0 H0.length [] H) (hs_o1 : H[q13]? = some [(.int .i64 s16.most), (.sl .own 1 (ml b8 s16.b)), (.int .i64 s16.state), (.bool s16.long)]) (hs_o2 : H[q14]? = some [(.int .i64 s17.most), (.sl .own 1 (ml b8 s17.b)), (.int .i64 s17.n), (.bool s17.cR)]) (hi0 : H0.length ≤ q13) (hi1 : H0.length ≤ q14) (hi2 : q13 ≠ q14) {K : Exit → Env → AH → Prop} {o : (Bool) ⊕ (SplitterV × SplitterVx)}
    (h : iter (law13_LineStreams_l1 F l2) F (i15, s16, s17) = some o)
    (kb0 : ∀ o' : SplitterV × SplitterVx, o = .inr o' → ∀ H' : AH, Fr H0 H0.length [] H' → H'[q13]? = some [(.int .i64 o'.1.most), (.sl .own 1 (ml b8 o'.1.b)), (.int .i64 o'.1.state), (.bool o'.1.long)] → H'[q14]? = some [(.int .i64 o'.2.most), (.sl .own 1 (ml b8 o'.2.b)), (.int .i64 o'.2.n), (.bool o'.2.cR)] → K (.exit 0) [] H')
    (kr : ∀ o' : Bool, o = .inl o' → ∀ H' : AH, Fr H0 H0.length [] H' → K .ret [(4, (.bool o'))] H') :
    AX Try.prog L_law13_LineStreams 120 H0.length c_law13_LineStreams_l1 K [(1, (.sl .n 3 (ml encPieceV l2))), (5, (.ptr q13 0)), (7, (.ptr q14 0)), (8, (.int .i64 i15))] H := by
  refine AX.iter (m := m_law13_LineStreams_l1b) rfl (by decide) (fun s e H1 => match s with | (i15, s16, s17) => e = [(1, (.sl .n 3 (ml encPieceV l2))), (5, (.ptr q13 0)), (7, (.ptr q14 0)), (8, (.int .i64 i15))] ∧ Fr H0 H0.length [] H1 ∧ H1[q13]? = some [(.int .i64 s16.most), (.sl .own 1 (ml b8 s16.b)), (.int .i64 s16.state), (.bool s16.long)] ∧ H1[q14]? = some [(.int .i64 s17.most), (.sl .own 1 (ml b8 s17.b)), (.int .i64 s17.n), (.bool s17.cR)]) h ⟨rfl, hfr, hs_o1, hs_o2⟩ ?_
  skip
  rintro K' ⟨i15, s16, s17⟩ st e H ⟨rfl, hfr, hs_o1, hs_o2⟩ h hN hB hR hX
  have hle := hfr.le
  have hl_o1 := h_lt hs_o1
  have hl_o2 := h_lt hs_o2
  rw [law13_LineStreams_l1.eq_1] at h
  simp (disch := first | assumption | omega | (simp only [h_sl, h_al] <;> omega) | fail) only [WW, WH, ↓reduceIte, Nat.reduceEqDiff, Nat.reduceLT, Nat.reduceLeDiff, Nat.reduceAdd, Nat.reduceSub, Nat.reduceMul, Nat.reduceBEq, reduceCtorEq, if_false, if_true, L_law13_LineStreams, m_law13_LineStreams_l1b, hs_o1, hs_o2, encLineV, encPieceV]
  rcases ifb h with ⟨hy13, h⟩ | ⟨hy13, h⟩
  · refine UC_t hy13 ?_
    obtain ⟨x18, hy14, h⟩ := bnd' h
    simp (disch := first | assumption | omega | (simp only [h_sl, h_al] <;> omega) | fail) only [WW, WH, ↓reduceIte, Nat.reduceEqDiff, Nat.reduceLT, Nat.reduceLeDiff, Nat.reduceAdd, Nat.reduceSub, Nat.reduceMul, Nat.reduceBEq, reduceCtorEq, if_false, if_true, L_law13_LineStreams, hy14, hs_o1, hs_o2, encLineV, encPieceV]
    obtain ⟨o56, hy37, h⟩ := bnd' h
    refine UX_of (AX.weak ?_ (WxH.refl _) (law13_LineStreams_p4_ok (F := F) (x18 := x18) (l2 := l2) (i15 := i15) (s16 := s16) (s17 := s17) (q19 := q13) (q20 := q14) (hfr) ((hs_o1).trans rfl) ((hs_o2).trans rfl) (by first | assumption | omega | (simp only [h_sl, h_al] <;> omega) | fail) (by first | assumption | omega | (simp only [h_sl, h_al] <;> omega) | fail) (by first | assumption | omega | (simp only [h_sl, h_al] <;> omega) | fail) (o := o56) hy37 ?_ ?_))
    · exact WE.cons (Wx.nn) (WE.cons (Wx.ptr) (WE.cons (Wx.ptr) (WE.cons (Wx.int) (WE.cons (Wx.int) (WE.cons (Wx.bool) (WE.nil))))))
    · rintro ⟨s51, s52⟩ rfl H hfr hs_o1 hs_o2
      try dsimp only at h hs_o1 hs_o2
      have hle := hfr.le
      have hl_o1 := h_lt hs_o1
      have hl_o2 := h_lt hs_o2
      simp (disch := first | assumption | omega | (simp only [h_sl, h_al] <;> omega) | fail) only [WW, WH, ↓reduceIte, Nat.reduceEqDiff, Nat.reduceLT, Nat.reduceLeDiff, Nat.reduceAdd, Nat.reduceSub, Nat.reduceMul, Nat.reduceBEq, reduceCtorEq, if_false, if_true, L_law13_LineStreams, hs_o1, hs_o2, encLineV, encPieceV]
      obtain ⟨r53, hy38, h⟩ := bnd' h
      refine UK_e (as' := [(.ptr q13 0)]) (h := line_Splitter_Held_ok (s2 := s51) (q1 := q13) (by exact ((hs_o1).trans rfl)) hy38) (hw := WL.cons (Wx.ptr) (WL.nil)) (hh := WxH.refl _) ?_
      simp (disch := first | assumption | omega | (simp only [h_sl, h_al] <;> omega) | fail) only [WW, WH, ↓reduceIte, Nat.reduceEqDiff, Nat.reduceLT, Nat.reduceLeDiff, Nat.reduceAdd, Nat.reduceSub, Nat.reduceMul, Nat.reduceBEq, reduceCtorEq, if_false, if_true, L_law13_LineStreams, hs_o1, hs_o2, encLineV, encPieceV]
      obtain ⟨r54, hy39, h⟩ := bnd' h
      refine UK_e (as' := [(.ptr q14 0)]) (h := ref13_Splitter_Held_ok (s2 := s52) (q1 := q14) (by exact ((hs_o2).trans rfl)) hy39) (hw := WL.cons (Wx.ptr) (WL.nil)) (hh := WxH.refl _) ?_
      simp (disch := first | assumption | omega | (simp only [h_sl, h_al] <;> omega) | fail) only [WW, WH, ↓reduceIte, Nat.reduceEqDiff, Nat.reduceLT, Nat.reduceLeDiff, Nat.reduceAdd, Nat.reduceSub, Nat.reduceMul, Nat.reduceBEq, reduceCtorEq, if_false, if_true, L_law13_LineStreams, hs_o1, hs_o2, encLineV, encPieceV]
      rcases ifb h with ⟨hy40, h⟩ | ⟨hy40, h⟩
      · refine UC_t hy40 ?_
        simp (disch := first | assumption | omega | (simp only [h_sl, h_al] <;> omega) | fail) only [WW, WH, ↓reduceIte, Nat.reduceEqDiff, Nat.reduceLT, Nat.reduceLeDiff, Nat.reduceAdd, Nat.reduceSub, Nat.reduceMul, Nat.reduceBEq, reduceCtorEq, if_false, if_true, L_law13_LineStreams, hs_o1, hs_o2, encLineV, encPieceV]
        have hq := Option.some.inj h; subst hq
        refine hX _ _ _ _ _ (by simp) ?_ (WxH.refl _) (kr _ (hR _ rfl) _ hfr)
        exact WE.cons (Wx.bool) (WE.nil)
      · refine UC_f hy40 ?_
        simp (disch := first | assumption | omega | (simp only [h_sl, h_al] <;> omega) | fail) only [WW, WH, ↓reduceIte, Nat.reduceEqDiff, Nat.reduceLT, Nat.reduceLeDiff, Nat.reduceAdd, Nat.reduceSub, Nat.reduceMul, Nat.reduceBEq, reduceCtorEq, if_false, if_true, L_law13_LineStreams, hs_o1, hs_o2, encLineV, encPieceV]
        have hq := Option.some.inj h; subst hq
        refine hN _ rfl _ _ _ _ ?_ (WxH.refl _) ⟨rfl, hfr, ((hs_o1).trans rfl), ((hs_o2).trans rfl)⟩
        exact WE.cons (Wx.nn) (WE.cons (Wx.ptr) (WE.cons (Wx.ptr) (WE.cons (Wx.int) (WE.nil))))
    · rintro r55 rfl H hfr
      try dsimp only at h 
      have hle := hfr.le
      simp (disch := first | assumption | omega | (simp only [h_sl, h_al] <;> omega) | fail) only [WW, WH, ↓reduceIte, Nat.reduceEqDiff, Nat.reduceLT, Nat.reduceLeDiff, Nat.reduceAdd, Nat.reduceSub, Nat.reduceMul, Nat.reduceBEq, reduceCtorEq, if_false, if_true, L_law13_LineStreams, encLineV, encPieceV]
      have hq := Option.some.inj h; subst hq
      refine hX _ _ _ _ _ (by simp) ?_ (WxH.refl _) (kr _ (hR _ rfl) _ hfr)
      exact WE.cons (Wx.bool) (WE.nil)
  · refine UC_f hy13 ?_
    simp (disch := first | assumption | omega | (simp only [h_sl, h_al] <;> omega) | fail) only [WW, WH, ↓reduceIte, Nat.reduceEqDiff, Nat.reduceLT, Nat.reduceLeDiff, Nat.reduceAdd, Nat.reduceSub, Nat.reduceMul, Nat.reduceBEq, reduceCtorEq, if_false, if_true, L_law13_LineStreams, hs_o1, hs_o2, encLineV, encPieceV]
    have hq := Option.some.inj h; subst hq
    refine hX _ _ _ _ _ (by simp) ?_ (WxH.refl _) (kb0 _ (hB _ rfl) _ hfr ((hs_o1).trans rfl) ((hs_o2).trans rfl))
    exact WE.nil
set_option maxHeartbeats 2000000 in
theorem law13_LineStreams_ok {F : Nat} {most1 : Int} {l2 : List PieceV}  {H0 : AH}  {r0 : Bool} (h : law13_LineStreams F most1 l2 = some r0) :
    ACalls Try.prog 5 [(.int .i64 most1), (.sl .n 3 (ml encPieceV l2))] H0 fun v H' => v = (.bool r0) ∧ H' = H0 := by
  refine ACalls.goX k_law13_LineStreams (m := m_law13_LineStreams) rfl L_law13_LineStreams (by decide) (by simp) fun hcl K0 hK0 => ?_
  refine AX.of_U (m := m_law13_LineStreams) rfl (by decide) ?_
  have hfr := Fr.refl H0 []
  have hle := hfr.le
  rw [law13_LineStreams.eq_1] at h
  obtain ⟨H, hHH⟩ : ∃ H, H = H0 := ⟨_, rfl⟩
  have hfr : Fr H0 H0.length [] H := hHH ▸ hfr
  have hle := hfr.le
  suffices hU : U Try.prog L_law13_LineStreams 120 H0.length [.code m_law13_LineStreams] K0 .normal (argE 0 [(.int .i64 most1), (.sl .n 3 (ml encPieceV l2))]) H by rwa [hHH] at hU
  simp (disch := first | assumption | omega | (simp only [h_sl, h_al] <;> omega) | fail) only [WW, WH, ↓reduceIte, Nat.reduceEqDiff, Nat.reduceLT, Nat.reduceLeDiff, Nat.reduceAdd, Nat.reduceSub, Nat.reduceMul, Nat.reduceBEq, reduceCtorEq, if_false, if_true, L_law13_LineStreams, m_law13_LineStreams, encLineV, encPieceV]
  obtain ⟨r3, hy1, h⟩ := bnd' h
  refine UK_e (as' := []) (h := law13_known_ok  (F := F)  hy1) (hw := WL.nil) (hh := WxH.refl _) ?_
  simp (disch := first | assumption | omega | (simp only [h_sl, h_al] <;> omega) | fail) only [WW, WH, ↓reduceIte, Nat.reduceEqDiff, Nat.reduceLT, Nat.reduceLeDiff, Nat.reduceAdd, Nat.reduceSub, Nat.reduceMul, Nat.reduceBEq, reduceCtorEq, if_false, if_true, L_law13_LineStreams, encLineV, encPieceV]
  rcases ifb h with ⟨hy2, h⟩ | ⟨hy2, h⟩
  · refine UC_t hy2 ?_
    simp (disch := first | assumption | omega | (simp only [h_sl, h_al] <;> omega) | fail) only [WW, WH, ↓reduceIte, Nat.reduceEqDiff, Nat.reduceLT, Nat.reduceLeDiff, Nat.reduceAdd, Nat.reduceSub, Nat.reduceMul, Nat.reduceBEq, reduceCtorEq, if_false, if_true, L_law13_LineStreams, encLineV, encPieceV]
    have hq := Option.some.inj h; subst hq
    refine hK0 _ _ _ (.inr rfl) ?_
    exact fn_end0 (by exact hfr) hcl (resv_tmp (a := (.bool false)) rfl rfl resv_nil) (by simp [fin, AV.df, AV.sh, AV.sh1, b_df, b_sh, b_sh1, b_Cl]) (Wx.bool) (r' := (.bool false)) ⟨rfl, rfl⟩
  · refine UC_f hy2 ?_
    simp (disch := first | assumption | omega | (simp only [h_sl, h_al] <;> omega) | fail) only [WW, WH, ↓reduceIte, Nat.reduceEqDiff, Nat.reduceLT, Nat.reduceLeDiff, Nat.reduceAdd, Nat.reduceSub, Nat.reduceMul, Nat.reduceBEq, reduceCtorEq, if_false, if_true, L_law13_LineStreams, encLineV, encPieceV]
    obtain ⟨r4, hy3, h⟩ := bnd' h
    refine UK_e (as' := [(.sl .n 3 (ml encPieceV l2))]) (h := law13_few_ok (l1 := l2) (F := F)  hy3) (hw := WL.cons (Wx.nn) (WL.nil)) (hh := WxH.refl _) ?_
    simp (disch := first | assumption | omega | (simp only [h_sl, h_al] <;> omega) | fail) only [WW, WH, ↓reduceIte, Nat.reduceEqDiff, Nat.reduceLT, Nat.reduceLeDiff, Nat.reduceAdd, Nat.reduceSub, Nat.reduceMul, Nat.reduceBEq, reduceCtorEq, if_false, if_true, L_law13_LineStreams, encLineV, encPieceV]
    rcases ifb h with ⟨hy4, h⟩ | ⟨hy4, h⟩
    · refine UC_t hy4 ?_
      simp (disch := first | assumption | omega | (simp only [h_sl, h_al] <;> omega) | fail) only [WW, WH, ↓reduceIte, Nat.reduceEqDiff, Nat.reduceLT, Nat.reduceLeDiff, Nat.reduceAdd, Nat.reduceSub, Nat.reduceMul, Nat.reduceBEq, reduceCtorEq, if_false, if_true, L_law13_LineStreams, encLineV, encPieceV]
      have hq := Option.some.inj h; subst hq
      refine hK0 _ _ _ (.inr rfl) ?_
      exact fn_end0 (by exact hfr) hcl (resv_tmp (a := (.bool true)) rfl rfl resv_nil) (by simp [fin, AV.df, AV.sh, AV.sh1, b_df, b_sh, b_sh1, b_Cl]) (Wx.bool) (r' := (.bool true)) ⟨rfl, rfl⟩
    · refine UC_f hy4 ?_
      simp (disch := first | assumption | omega | (simp only [h_sl, h_al] <;> omega) | fail) only [WW, WH, ↓reduceIte, Nat.reduceEqDiff, Nat.reduceLT, Nat.reduceLeDiff, Nat.reduceAdd, Nat.reduceSub, Nat.reduceMul, Nat.reduceBEq, reduceCtorEq, if_false, if_true, L_law13_LineStreams, encLineV, encPieceV]
      obtain ⟨⟨r5, r6⟩, hy5, h⟩ := bnd' h
      dsimp only at h
      rcases r5 with _ | t7
      · try dsimp only at h
        refine UK_x (as' := [(.int .i64 most1)]) (h := line_New_ok (most1 := most1)  hy5) (hw := WL.cons (Wx.int) (WL.nil)) (hh := WxH.refl _) ?_
        rintro _ H ⟨rfl, hfrn⟩
        have hfr := Fr.trans hfr hfrn (by simp)
        have hle := hfr.le
        simp (disch := first | assumption | omega | (simp only [h_sl, h_al] <;> omega) | fail) only [WW, WH, ↓reduceIte, Nat.reduceEqDiff, Nat.reduceLT, Nat.reduceLeDiff, Nat.reduceAdd, Nat.reduceSub, Nat.reduceMul, Nat.reduceBEq, reduceCtorEq, if_false, if_true, L_law13_LineStreams, encLineV, encPieceV]
        obtain ⟨r8, hy6, h⟩ := bnd' h
        refine UK_e (as' := [(.int .i64 most1)]) (h := ref13_Right_ok (most1 := most1)  hy6) (hw := WL.cons (Wx.int) (WL.nil)) (hh := WxH.refl _) ?_
        simp (disch := first | assumption | omega | (simp only [h_sl, h_al] <;> omega) | fail) only [WW, WH, ↓reduceIte, Nat.reduceEqDiff, Nat.reduceLT, Nat.reduceLeDiff, Nat.reduceAdd, Nat.reduceSub, Nat.reduceMul, Nat.reduceBEq, reduceCtorEq, if_false, if_true, L_law13_LineStreams, encLineV, encPieceV]
        rcases ifb h with ⟨hy7, h⟩ | ⟨hy7, h⟩
        · refine UC_t hy7 ?_
          simp (disch := first | assumption | omega | (simp only [h_sl, h_al] <;> omega) | fail) only [WW, WH, ↓reduceIte, Nat.reduceEqDiff, Nat.reduceLT, Nat.reduceLeDiff, Nat.reduceAdd, Nat.reduceSub, Nat.reduceMul, Nat.reduceBEq, reduceCtorEq, if_false, if_true, L_law13_LineStreams, encLineV, encPieceV]
          refine UX_of (AX.weak ?_ (WxH.refl _) (law13_LineStreams_p1_ok (r6 := r6) (hfr) ?_))
          · exact WE.cons (Wx.bool) (WE.cons (Wx.v) (WE.cons (Wx.int) (WE.nil)))
          intro H hfr 
          have hle := hfr.le
          simp (disch := first | assumption | omega | (simp only [h_sl, h_al] <;> omega) | fail) only [WW, WH, ↓reduceIte, Nat.reduceEqDiff, Nat.reduceLT, Nat.reduceLeDiff, Nat.reduceAdd, Nat.reduceSub, Nat.reduceMul, Nat.reduceBEq, reduceCtorEq, if_false, if_true, L_law13_LineStreams, encLineV, encPieceV]
          have hq := Option.some.inj h; subst hq
          refine hK0 _ _ _ (.inr rfl) ?_
          exact fn_end0 (by exact hfr) hcl (resv_tmp (a := (.bool (decide (r6 = 1)))) rfl rfl resv_nil) (by simp [fin, AV.df, AV.sh, AV.sh1, b_df, b_sh, b_sh1, b_Cl]) (Wx.bool) (r' := (.bool (decide (r6 = 1)))) ⟨rfl, rfl⟩
        · refine UC_f hy7 ?_
          simp (disch := first | assumption | omega | (simp only [h_sl, h_al] <;> omega) | fail) only [WW, WH, ↓reduceIte, Nat.reduceEqDiff, Nat.reduceLT, Nat.reduceLeDiff, Nat.reduceAdd, Nat.reduceSub, Nat.reduceMul, Nat.reduceBEq, reduceCtorEq, if_false, if_true, L_law13_LineStreams, encLineV, encPieceV]
          refine UX_of (AX.weak ?_ (WxH.refl _) (law13_LineStreams_p2_ok (most1 := most1) (l2 := l2) (r6 := r6) (hfr) ?_))
          · exact WE.cons (Wx.int) (WE.cons (Wx.nn) (WE.cons (Wx.v) (WE.cons (Wx.int) (WE.nil))))
          intro H hfr 
          have hle := hfr.le
          simp (disch := first | assumption | omega | (simp only [h_sl, h_al] <;> omega) | fail) only [WW, WH, ↓reduceIte, Nat.reduceEqDiff, Nat.reduceLT, Nat.reduceLeDiff, Nat.reduceAdd, Nat.reduceSub, Nat.reduceMul, Nat.reduceBEq, reduceCtorEq, if_false, if_true, L_law13_LineStreams, encLineV, encPieceV]
          have hq := Option.some.inj h; subst hq
          refine hK0 _ _ _ (.inr rfl) ?_
          exact fn_end0 (by exact hfr) hcl (resv_tmp (a := (.bool false)) rfl rfl resv_nil) (by simp [fin, AV.df, AV.sh, AV.sh1, b_df, b_sh, b_sh1, b_Cl]) (Wx.bool) (r' := (.bool false)) ⟨rfl, rfl⟩
      · try dsimp only at h
        refine UK_x (as' := [(.int .i64 most1)]) (h := line_New_ok (most1 := most1)  hy5) (hw := WL.cons (Wx.int) (WL.nil)) (hh := WxH.refl _) ?_
        rintro _ H ⟨q9, rfl, hgn0, hfrn, hs_o1⟩
        have hfr := Fr.trans hfr hfrn (by simp)
        have hle := hfr.le
        have hl_o1 := h_lt hs_o1
        simp (disch := first | assumption | omega | (simp only [h_sl, h_al] <;> omega) | fail) only [WW, WH, ↓reduceIte, Nat.reduceEqDiff, Nat.reduceLT, Nat.reduceLeDiff, Nat.reduceAdd, Nat.reduceSub, Nat.reduceMul, Nat.reduceBEq, reduceCtorEq, if_false, if_true, L_law13_LineStreams, hs_o1, encLineV, encPieceV]
        obtain ⟨r10, hy9, h⟩ := bnd' h
        refine UK_e (as' := [(.int .i64 most1)]) (h := ref13_Right_ok (most1 := most1)  hy9) (hw := WL.cons (Wx.int) (WL.nil)) (hh := WxH.refl _) ?_
        simp (disch := first | assumption | omega | (simp only [h_sl, h_al] <;> omega) | fail) only [WW, WH, ↓reduceIte, Nat.reduceEqDiff, Nat.reduceLT, Nat.reduceLeDiff, Nat.reduceAdd, Nat.reduceSub, Nat.reduceMul, Nat.reduceBEq, reduceCtorEq, if_false, if_true, L_law13_LineStreams, hs_o1, encLineV, encPieceV]
        rcases ifb h with ⟨hy10, h⟩ | ⟨hy10, h⟩
        · refine UC_t hy10 ?_
          simp (disch := first | assumption | omega | (simp only [h_sl, h_al] <;> omega) | fail) only [WW, WH, ↓reduceIte, Nat.reduceEqDiff, Nat.reduceLT, Nat.reduceLeDiff, Nat.reduceAdd, Nat.reduceSub, Nat.reduceMul, Nat.reduceBEq, reduceCtorEq, if_false, if_true, L_law13_LineStreams, hs_o1, encLineV, encPieceV]
          refine UX_of (AX.weak ?_ (WxH.refl _) (law13_LineStreams_p1x_ok (q11 := q9) (r6 := r6) (t7 := t7) (hfr) ((hs_o1).trans rfl) (by first | assumption | omega | (simp only [h_sl, h_al] <;> omega) | fail) ?_))
          · exact WE.cons (Wx.bool) (WE.cons (Wx.ptr) (WE.cons (Wx.int) (WE.nil)))
          intro H hfr hs_o1
          have hle := hfr.le
          have hl_o1 := h_lt hs_o1
          simp (disch := first | assumption | omega | (simp only [h_sl, h_al] <;> omega) | fail) only [WW, WH, ↓reduceIte, Nat.reduceEqDiff, Nat.reduceLT, Nat.reduceLeDiff, Nat.reduceAdd, Nat.reduceSub, Nat.reduceMul, Nat.reduceBEq, reduceCtorEq, if_false, if_true, L_law13_LineStreams, hs_o1, encLineV, encPieceV]
          have hq := Option.some.inj h; subst hq
          refine hK0 _ _ _ (.inr rfl) ?_
          exact fn_end0 (by exact hfr) hcl (resv_tmp (a := (.bool false)) rfl rfl resv_nil) (by simp [fin, AV.df, AV.sh, AV.sh1, b_df, b_sh, b_sh1, b_Cl]) (Wx.bool) (r' := (.bool false)) ⟨rfl, rfl⟩
        · refine UC_f hy10 ?_
          simp (disch := first | assumption | omega | (simp only [h_sl, h_al] <;> omega) | fail) only [WW, WH, ↓reduceIte, Nat.reduceEqDiff, Nat.reduceLT, Nat.reduceLeDiff, Nat.reduceAdd, Nat.reduceSub, Nat.reduceMul, Nat.reduceBEq, reduceCtorEq, if_false, if_true, L_law13_LineStreams, hs_o1, encLineV, encPieceV]
          refine UX_of (AX.weak ?_ (WxH.refl _) (law13_LineStreams_p2x_ok (most1 := most1) (l2 := l2) (q12 := q9) (r6 := r6) (t7 := t7) (hfr) ((hs_o1).trans rfl) (by first | assumption | omega | (simp only [h_sl, h_al] <;> omega) | fail) ?_))
          · exact WE.cons (Wx.int) (WE.cons (Wx.nn) (WE.cons (Wx.ptr) (WE.cons (Wx.int) (WE.nil))))
          intro H hfr hs_o1
          have hle := hfr.le
          have hl_o1 := h_lt hs_o1
          simp (disch := first | assumption | omega | (simp only [h_sl, h_al] <;> omega) | fail) only [WW, WH, ↓reduceIte, Nat.reduceEqDiff, Nat.reduceLT, Nat.reduceLeDiff, Nat.reduceAdd, Nat.reduceSub, Nat.reduceMul, Nat.reduceBEq, reduceCtorEq, if_false, if_true, L_law13_LineStreams, hs_o1, encLineV, encPieceV]
          rcases ifb h with ⟨hy12, h⟩ | ⟨hy12, h⟩
          · refine UC_t hy12 ?_
            simp (disch := first | assumption | omega | (simp only [h_sl, h_al] <;> omega) | fail) only [WW, WH, ↓reduceIte, Nat.reduceEqDiff, Nat.reduceLT, Nat.reduceLeDiff, Nat.reduceAdd, Nat.reduceSub, Nat.reduceMul, Nat.reduceBEq, reduceCtorEq, if_false, if_true, L_law13_LineStreams, hs_o1, encLineV, encPieceV]
            have hq := Option.some.inj h; subst hq
            refine hK0 _ _ _ (.inr rfl) ?_
            exact fn_end0 (by exact hfr) hcl (resv_tmp (a := (.bool false)) rfl rfl resv_nil) (by simp [fin, AV.df, AV.sh, AV.sh1, b_df, b_sh, b_sh1, b_Cl]) (Wx.bool) (r' := (.bool false)) ⟨rfl, rfl⟩
          · refine UC_f hy12 ?_
            simp (disch := first | assumption | omega | (simp only [h_sl, h_al] <;> omega) | fail) only [WW, WH, ↓reduceIte, Nat.reduceEqDiff, Nat.reduceLT, Nat.reduceLeDiff, Nat.reduceAdd, Nat.reduceSub, Nat.reduceMul, Nat.reduceBEq, reduceCtorEq, if_false, if_true, L_law13_LineStreams, hs_o1, encLineV, encPieceV]
            obtain ⟨q14, hg_q14⟩ : ∃ q : Nat, H.length = q := ⟨_, rfl⟩
            try rw [hg_q14]
            obtain ⟨o63, hy41, h⟩ := bnd' h
            refine UX_of (AX.weak ?_ (WxH.set (q := q14) (cs' := [(.int .i64 most1), (.sl .own 1 []), (.int .i64 0), (.bool false)]) ((h_new' (by first | assumption | omega | (simp only [h_sl, h_al] <;> omega) | fail)).trans rfl) (WxC.cons (Wx.int) (WxC.cons (Wx.own ..) (WxC.cons (Wx.int) (WxC.cons (Wx.bool) (WxC.nil)))))) (law13_LineStreams_l1_ok  (l2 := l2) (i15 := 0) (s16 := t7) (s17 := (SplitterVx.mk most1 ([] : List UInt8) 0 false)) (q13 := q9) (q14 := q14) ((Fr.set (s := q14) (Fr.app hfr) (.inr (by first | assumption | omega | (simp only [h_sl, h_al] <;> omega) | fail)))) (((h_ne (by first | assumption | omega | (simp only [h_sl, h_al] <;> omega) | fail)).trans ((h_app (by first | assumption | omega | (simp only [h_sl, h_al] <;> omega) | fail)).trans (hs_o1))).trans rfl) ((h_eq (by first | assumption | omega | (simp only [h_sl, h_al] <;> omega) | fail)).trans rfl) (by first | assumption | omega | (simp only [h_sl, h_al] <;> omega) | fail) (by first | assumption | omega | (simp only [h_sl, h_al] <;> omega) | fail) (by first | assumption | omega | (simp only [h_sl, h_al] <;> omega) | fail) (o := o63) hy41 ?_ ?_))
            · exact WE.cons (Wx.nn) (WE.cons (Wx.ptr) (WE.cons (Wx.ptr) (WE.cons (Wx.int) (WE.nil))))
            · rintro ⟨s60, s61⟩ rfl H hfr hs_o1 hs_o2
              try dsimp only at h hs_o1 hs_o2
              have hle := hfr.le
              have hl_o1 := h_lt hs_o1
              have hl_o2 := h_lt hs_o2
              simp (disch := first | assumption | omega | (simp only [h_sl, h_al] <;> omega) | fail) only [WW, WH, ↓reduceIte, Nat.reduceEqDiff, Nat.reduceLT, Nat.reduceLeDiff, Nat.reduceAdd, Nat.reduceSub, Nat.reduceMul, Nat.reduceBEq, reduceCtorEq, if_false, if_true, L_law13_LineStreams, hs_o1, hs_o2, encLineV, encPieceV]
              have hq := Option.some.inj h; subst hq
              refine hK0 _ _ _ (.inr rfl) ?_
              exact fn_end0 (by exact hfr) hcl (resv_tmp (a := (.bool true)) rfl rfl resv_nil) (by simp [fin, AV.df, AV.sh, AV.sh1, b_df, b_sh, b_sh1, b_Cl]) (Wx.bool) (r' := (.bool true)) ⟨rfl, rfl⟩
            · rintro r62 rfl H hfr
              try dsimp only at h 
              have hle := hfr.le
              simp (disch := first | assumption | omega | (simp only [h_sl, h_al] <;> omega) | fail) only [WW, WH, ↓reduceIte, Nat.reduceEqDiff, Nat.reduceLT, Nat.reduceLeDiff, Nat.reduceAdd, Nat.reduceSub, Nat.reduceMul, Nat.reduceBEq, reduceCtorEq, if_false, if_true, L_law13_LineStreams, encLineV, encPieceV]
              have hq := Option.some.inj h; subst hq
              refine hK0 _ _ _ (.inr rfl) ?_
              exact fn_end0 (by exact hfr) hcl (resv_tmp (a := (.bool r62)) rfl rfl resv_nil) (by simp [fin, AV.df, AV.sh, AV.sh1, b_df, b_sh, b_sh1, b_Cl]) (Wx.bool) (r' := (.bool r62)) ⟨rfl, rfl⟩

end Go.Proofs.LineS
