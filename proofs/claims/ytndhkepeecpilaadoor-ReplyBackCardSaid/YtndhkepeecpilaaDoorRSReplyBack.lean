import Derived.Test.YtndhkepeecpilaaDoorRS2
set_option linter.unusedSimpArgs false
set_option linter.unusedVariables false
set_option linter.unusedSectionVars false
set_option linter.defProp false
set_option maxRecDepth 100000
namespace Go.Proofs.ReplyS
open Go Go.Am Go.Proofs

/-! ### mailbag/mailbagref16.Print -/
def c_ref16_Print_p1 : ACode := (.cond (.t 40) (.rg [⟨(some 6), (.asg (.c (.str [32]))), none⟩]) .skip)
abbrev m_ref16_Print_p1 := c_ref16_Print_p1
def c_ref16_Print_l1b : ACode := (.seq (.seq (.rg [⟨(some 28), (.mv (.t 5)), none⟩, ⟨(some 29), (.fld (.t 1) 1), none⟩, ⟨(some 30), (.ld (.t 29) none), none⟩, ⟨(some 31), (.len (.t 30)), none⟩, ⟨(some 32), (.bin .lss (.t 28) (.t 31)), none⟩]) (.cond (.t 32) .skip (.exit 0))) (.seq (.blk 1 (.seq (.rg [⟨(some 6), (.asg (.c (.str [45]))), none⟩]) (.seq (.seq (.rg [⟨(some 35), (.mv (.t 5)), none⟩, ⟨(some 36), (.bin .add (.t 35) (.c (.int .i64 1))), none⟩, ⟨(some 37), (.fld (.t 1) 1), none⟩, ⟨(some 38), (.ld (.t 37) none), none⟩, ⟨(some 39), (.len (.t 38)), none⟩, ⟨(some 40), (.bin .eql (.t 36) (.t 39)), none⟩]) c_ref16_Print_p1) (.seq (.rg [⟨(some 41), (.mv (.t 4)), none⟩, ⟨(some 42), (.mv (.t 3)), none⟩, ⟨(some 43), (.mv (.t 6)), none⟩, ⟨(some 44), (.bin .add (.t 42) (.t 43)), none⟩, ⟨(some 45), (.fld (.t 1) 1), none⟩, ⟨(some 46), (.ld (.t 45) none), none⟩, ⟨(some 47), (.mv (.t 5)), none⟩, ⟨(some 48), (.ixa 1 (.t 46) (.t 47)), none⟩, ⟨(some 49), (.ld (.t 48) none), none⟩, ⟨(some 50), (.bin .add (.t 44) (.t 49)), none⟩, ⟨(some 51), (.apps 1 (.t 41) (.t 50)), none⟩, ⟨(some 4), (.asg (.t 51)), none⟩]) (.rg [⟨(some 52), (.mv (.t 4)), none⟩, ⟨(some 53), (.bsl 1 [(.c (b8 13)), (.c (b8 10))]), none⟩, ⟨(some 54), (.app 1 1 (.t 52) (.t 53)), none⟩, ⟨(some 4), (.asg (.t 54)), none⟩]))))) (.rg [⟨(some 33), (.mv (.t 5)), none⟩, ⟨(some 34), (.bin .add (.t 33) (.c (.int .i64 1))), none⟩, ⟨(some 5), (.asg (.t 34)), none⟩])))
def c_ref16_Print_l1 : ACode := (.loop c_ref16_Print_l1b)
def m_ref16_Print_l1b : ACode := (.seq (.seq (.rg [⟨(some 28), (.mv (.t 5)), none⟩, ⟨(some 29), (.fld (.t 1) 1), none⟩, ⟨(some 30), (.ld (.t 29) none), none⟩, ⟨(some 31), (.len (.t 30)), none⟩, ⟨(some 32), (.bin .lss (.t 28) (.t 31)), none⟩]) (.cond (.t 32) .skip (.exit 0))) (.seq (.blk 1 (.seq (.rg [⟨(some 6), (.asg (.c (.str [45]))), none⟩]) (.seq (.seq (.rg [⟨(some 35), (.mv (.t 5)), none⟩, ⟨(some 36), (.bin .add (.t 35) (.c (.int .i64 1))), none⟩, ⟨(some 37), (.fld (.t 1) 1), none⟩, ⟨(some 38), (.ld (.t 37) none), none⟩, ⟨(some 39), (.len (.t 38)), none⟩, ⟨(some 40), (.bin .eql (.t 36) (.t 39)), none⟩]) (.sem c_ref16_Print_p1)) (.seq (.rg [⟨(some 41), (.mv (.t 4)), none⟩, ⟨(some 42), (.mv (.t 3)), none⟩, ⟨(some 43), (.mv (.t 6)), none⟩, ⟨(some 44), (.bin .add (.t 42) (.t 43)), none⟩, ⟨(some 45), (.fld (.t 1) 1), none⟩, ⟨(some 46), (.ld (.t 45) none), none⟩, ⟨(some 47), (.mv (.t 5)), none⟩, ⟨(some 48), (.ixa 1 (.t 46) (.t 47)), none⟩, ⟨(some 49), (.ld (.t 48) none), none⟩, ⟨(some 50), (.bin .add (.t 44) (.t 49)), none⟩, ⟨(some 51), (.apps 1 (.t 41) (.t 50)), none⟩, ⟨(some 4), (.asg (.t 51)), none⟩]) (.rg [⟨(some 52), (.mv (.t 4)), none⟩, ⟨(some 53), (.bsl 1 [(.c (b8 13)), (.c (b8 10))]), none⟩, ⟨(some 54), (.app 1 1 (.t 52) (.t 53)), none⟩, ⟨(some 4), (.asg (.t 54)), none⟩]))))) (.rg [⟨(some 33), (.mv (.t 5)), none⟩, ⟨(some 34), (.bin .add (.t 33) (.c (.int .i64 1))), none⟩, ⟨(some 5), (.asg (.t 34)), none⟩])))
def c_ref16_Print : ACode := (.seq (.rg [⟨(some 1), (.box (.t 0)), none⟩, ⟨(some 2), (.asg (.c (.sl .ex 1 []))), none⟩]) (.seq (.seq (.rg [⟨(some 7), (.ld (.t 1) (some 2)), none⟩, ⟨(some 8), (.call (.c (.fn 25 [])) [(.t 7)]), none⟩, ⟨(some 9), (.un .not (.t 8)), none⟩]) (.cond (.t 9) (.seq (.rg [⟨(some 2), (.asg (.c (.sl .ex 1 []))), none⟩]) .ret) .skip)) (.seq (.rg [⟨(some 10), (.fld (.t 1) 0), none⟩, ⟨(some 11), (.ld (.t 10) none), none⟩, ⟨(some 12), (.bin .quo (.t 11) (.c (.int .i64 100))), none⟩, ⟨(some 13), (.bin .add (.c (.int .i64 48)) (.t 12)), none⟩, ⟨(some 14), (.cvt (.int .u8) (.t 13)), none⟩, ⟨(some 15), (.fld (.t 1) 0), none⟩, ⟨(some 16), (.ld (.t 15) none), none⟩, ⟨(some 17), (.bin .quo (.t 16) (.c (.int .i64 10))), none⟩, ⟨(some 18), (.bin .rem (.t 17) (.c (.int .i64 10))), none⟩, ⟨(some 19), (.bin .add (.c (.int .i64 48)) (.t 18)), none⟩, ⟨(some 20), (.cvt (.int .u8) (.t 19)), none⟩, ⟨(some 21), (.fld (.t 1) 0), none⟩, ⟨(some 22), (.ld (.t 21) none), none⟩, ⟨(some 23), (.bin .rem (.t 22) (.c (.int .i64 10))), none⟩, ⟨(some 24), (.bin .add (.c (.int .i64 48)) (.t 23)), none⟩, ⟨(some 25), (.cvt (.int .u8) (.t 24)), none⟩, ⟨(some 26), (.bsl 1 [(.t 14), (.t 20), (.t 25)]), none⟩, ⟨(some 27), (.cvt .bs (.t 26)), none⟩, ⟨(some 3), (.asg (.t 27)), none⟩]) (.seq (.rg [⟨(some 4), (.asg (.c (.sl .ex 1 []))), none⟩]) (.seq (.seq (.rg [⟨(some 5), (.asg (.c (.int .i64 0))), none⟩]) (.blk 0 c_ref16_Print_l1)) (.seq (.rg [⟨(some 55), (.mv (.t 4)), none⟩, ⟨(some 2), (.asg (.t 55)), none⟩]) .ret))))))
abbrev m_ref16_Print := c_ref16_Print
theorem k_ref16_Print : FnOk Tryd.prog 23 56 [(.tmp 2)] c_ref16_Print := ⟨Tryd.f23, _, rfl, by decide, rfl, by kernel_rfl, rfl, rfl⟩
abbrev L_ref16_Print : List Nat := [0, 1, 2, 3, 4, 5, 6, 9, 32, 40]
def ref16_Print_p1 (i5 : Int) (r1 : ReplyV) : Option ((List UInt8)) :=
  (if (decide ((IntKind.wrap .i64 (i5 + 1)) = (r1.lines.length : Int))) then
    some ([32] : List UInt8)
  else
    some ([45] : List UInt8))
def ref16_Print_l1 (r1 : ReplyV) : ((List UInt8) × Int) → Option (St (List UInt8) (List UInt8) ((List UInt8) × Int))
  | (out4, i5) =>
    (if (decide (i5 < (r1.lines.length : Int))) then
      (ref16_Print_p1 i5 r1).bind fun sep8 =>
      (cat ([(UInt8.ofInt (IntKind.wrap .i64 (48 + (IntKind.wrap .i64 (Int.tdiv r1.code 100))))), (UInt8.ofInt (IntKind.wrap .i64 (48 + (Int.tmod (IntKind.wrap .i64 (Int.tdiv r1.code 10)) 10)))), (UInt8.ofInt (IntKind.wrap .i64 (48 + (Int.tmod r1.code 10))))] : List UInt8) sep8).bind fun x9 =>
      (idx r1.lines i5).bind fun x10 =>
      (cat x9 x10).bind fun x11 =>
      (capp 1 out4 x11).bind fun x12 =>
      (capp 1 x12 ([13, 10] : List UInt8)).bind fun x13 => some (.nxt (x13, (IntKind.wrap .i64 (i5 + 1))))
    else
      some (.brk out4))
def ref16_Print (F : Nat) (r1 : ReplyV) : Option ((List UInt8)) :=
  (ref16_Right F r1).bind fun r2 =>
  (if (!r2) then
    some ([] : List UInt8)
  else
    ((iter (ref16_Print_l1 r1) F (([] : List UInt8), 0)).bind fun o16 =>
    match o16 with
    | .inr out15 =>
      some out15
    | .inl _ => none))
set_option maxHeartbeats 2000000 in
theorem ref16_Print_p1_ok {i5 : Int} {r1 : ReplyV} {q6 : Nat} {out4 : List UInt8} {H0 H : AH} (hfr : Fr H0 H0.length [] H) (hs_o1 : H[q6]? = some [(.int .i64 r1.code), (.sl .n 1 (ml AV.str r1.lines))]) (hi0 : H0.length ≤ q6) {K : Exit → Env → AH → Prop} {sep7 : List UInt8}
    (h : ref16_Print_p1 i5 r1 = some sep7)
    (kn : ∀ H' : AH, Fr H0 H0.length [] H' → H'[q6]? = some [(.int .i64 r1.code), (.sl .n 1 (ml AV.str r1.lines))] → K .normal [(1, (.ptr q6 0)), (3, (.str ([(UInt8.ofInt (IntKind.wrap .i64 (48 + (IntKind.wrap .i64 (Int.tdiv r1.code 100))))), (UInt8.ofInt (IntKind.wrap .i64 (48 + (Int.tmod (IntKind.wrap .i64 (Int.tdiv r1.code 10)) 10)))), (UInt8.ofInt (IntKind.wrap .i64 (48 + (Int.tmod r1.code 10))))] : List UInt8))), (4, (.sl .own 1 (ml b8 out4))), (5, (.int .i64 i5)), (6, (.str sep7))] H') :
    AX Tryd.prog L_ref16_Print 56 H0.length c_ref16_Print_p1 K [(1, (.ptr q6 0)), (3, (.str ([(UInt8.ofInt (IntKind.wrap .i64 (48 + (IntKind.wrap .i64 (Int.tdiv r1.code 100))))), (UInt8.ofInt (IntKind.wrap .i64 (48 + (Int.tmod (IntKind.wrap .i64 (Int.tdiv r1.code 10)) 10)))), (UInt8.ofInt (IntKind.wrap .i64 (48 + (Int.tmod r1.code 10))))] : List UInt8))), (4, (.sl .own 1 (ml b8 out4))), (5, (.int .i64 i5)), (6, (.str ([45] : List UInt8))), (40, (.bool (decide ((IntKind.wrap .i64 (i5 + 1)) = (r1.lines.length : Int)))))] H := by
  refine AX.go (m := m_ref16_Print_p1) rfl (by decide) fun K' hK => ?_
  have hle := hfr.le
  have hl_o1 := h_lt hs_o1
  rw [ref16_Print_p1.eq_1] at h
  simp (disch := first | assumption | omega | (simp only [h_sl, h_al] <;> omega) | fail) only [WW, WH, ↓reduceIte, Nat.reduceEqDiff, Nat.reduceLT, Nat.reduceLeDiff, Nat.reduceAdd, Nat.reduceSub, Nat.reduceMul, Nat.reduceBEq, reduceCtorEq, if_false, if_true, L_ref16_Print, m_ref16_Print_p1, c_ref16_Print_p1, hs_o1, encReplyV]
  rcases ifb h with ⟨hy8, h⟩ | ⟨hy8, h⟩
  · refine UC_t hy8 ?_
    simp (disch := first | assumption | omega | (simp only [h_sl, h_al] <;> omega) | fail) only [WW, WH, ↓reduceIte, Nat.reduceEqDiff, Nat.reduceLT, Nat.reduceLeDiff, Nat.reduceAdd, Nat.reduceSub, Nat.reduceMul, Nat.reduceBEq, reduceCtorEq, if_false, if_true, L_ref16_Print, hs_o1, encReplyV]
    have hq := Option.some.inj h; subst hq
    refine hK _ _ _ _ _ ?_ (WxH.refl _) (kn _ hfr ((hs_o1).trans rfl))
    exact WE.cons (Wx.ptr) (WE.cons (Wx.str) (WE.cons (Wx.oo) (WE.cons (Wx.int) (WE.cons (Wx.str) (WE.nil)))))
  · refine UC_f hy8 ?_
    simp (disch := first | assumption | omega | (simp only [h_sl, h_al] <;> omega) | fail) only [WW, WH, ↓reduceIte, Nat.reduceEqDiff, Nat.reduceLT, Nat.reduceLeDiff, Nat.reduceAdd, Nat.reduceSub, Nat.reduceMul, Nat.reduceBEq, reduceCtorEq, if_false, if_true, L_ref16_Print, hs_o1, encReplyV]
    have hq := Option.some.inj h; subst hq
    refine hK _ _ _ _ _ ?_ (WxH.refl _) (kn _ hfr ((hs_o1).trans rfl))
    exact WE.cons (Wx.ptr) (WE.cons (Wx.str) (WE.cons (Wx.oo) (WE.cons (Wx.int) (WE.cons (Wx.str) (WE.nil)))))
set_option maxHeartbeats 2000000 in
theorem ref16_Print_l1_ok {F : Nat} {i5 : Int} {r1 : ReplyV} {out4 : List UInt8} {q3 : Nat} {H0 H : AH} (hfr : Fr H0 H0.length [] H) (hs_o1 : H[q3]? = some [(.int .i64 r1.code), (.sl .n 1 (ml AV.str r1.lines))]) (hi0 : H0.length ≤ q3) {K : Exit → Env → AH → Prop} {o : ((List UInt8)) ⊕ ((List UInt8))}
    (h : iter (ref16_Print_l1 r1) F (out4, i5) = some o)
    (kb0 : ∀ o' : (List UInt8), o = .inr o' → ∀ H' : AH, Fr H0 H0.length [] H' → H'[q3]? = some [(.int .i64 r1.code), (.sl .n 1 (ml AV.str r1.lines))] → K (.exit 0) [(4, (.sl .own 1 (ml b8 o')))] H') :
    AX Tryd.prog L_ref16_Print 56 H0.length c_ref16_Print_l1 K [(1, (.ptr q3 0)), (3, (.str ([(UInt8.ofInt (IntKind.wrap .i64 (48 + (IntKind.wrap .i64 (Int.tdiv r1.code 100))))), (UInt8.ofInt (IntKind.wrap .i64 (48 + (Int.tmod (IntKind.wrap .i64 (Int.tdiv r1.code 10)) 10)))), (UInt8.ofInt (IntKind.wrap .i64 (48 + (Int.tmod r1.code 10))))] : List UInt8))), (4, (.sl .own 1 (ml b8 out4))), (5, (.int .i64 i5))] H := by
  refine AX.iter (m := m_ref16_Print_l1b) rfl (by decide) (fun s e H1 => match s with | (out4, i5) => e = [(1, (.ptr q3 0)), (3, (.str ([(UInt8.ofInt (IntKind.wrap .i64 (48 + (IntKind.wrap .i64 (Int.tdiv r1.code 100))))), (UInt8.ofInt (IntKind.wrap .i64 (48 + (Int.tmod (IntKind.wrap .i64 (Int.tdiv r1.code 10)) 10)))), (UInt8.ofInt (IntKind.wrap .i64 (48 + (Int.tmod r1.code 10))))] : List UInt8))), (4, (.sl .own 1 (ml b8 out4))), (5, (.int .i64 i5))] ∧ Fr H0 H0.length [] H1 ∧ H1[q3]? = some [(.int .i64 r1.code), (.sl .n 1 (ml AV.str r1.lines))]) h ⟨rfl, hfr, hs_o1⟩ ?_
  skip
  rintro K' ⟨out4, i5⟩ st e H ⟨rfl, hfr, hs_o1⟩ h hN hB hR hX
  have hle := hfr.le
  have hl_o1 := h_lt hs_o1
  rw [ref16_Print_l1.eq_1] at h
  simp (disch := first | assumption | omega | (simp only [h_sl, h_al] <;> omega) | fail) only [WW, WH, ↓reduceIte, Nat.reduceEqDiff, Nat.reduceLT, Nat.reduceLeDiff, Nat.reduceAdd, Nat.reduceSub, Nat.reduceMul, Nat.reduceBEq, reduceCtorEq, if_false, if_true, L_ref16_Print, m_ref16_Print_l1b, hs_o1, encReplyV]
  rcases ifb h with ⟨hy7, h⟩ | ⟨hy7, h⟩
  · refine UC_t hy7 ?_
    simp (disch := first | assumption | omega | (simp only [h_sl, h_al] <;> omega) | fail) only [WW, WH, ↓reduceIte, Nat.reduceEqDiff, Nat.reduceLT, Nat.reduceLeDiff, Nat.reduceAdd, Nat.reduceSub, Nat.reduceMul, Nat.reduceBEq, reduceCtorEq, if_false, if_true, L_ref16_Print, hs_o1, encReplyV]
    obtain ⟨sep8, hy9, h⟩ := bnd' h
    refine UX_of (AX.weak ?_ (WxH.refl _) (ref16_Print_p1_ok  (i5 := i5) (r1 := r1) (out4 := out4) (sep7 := sep8) (q6 := q3) (hfr) ((hs_o1).trans rfl) (by first | assumption | omega | (simp only [h_sl, h_al] <;> omega) | fail) hy9 ?_))
    · exact WE.cons (Wx.ptr) (WE.cons (Wx.str) (WE.cons (Wx.oo) (WE.cons (Wx.int) (WE.cons (Wx.str) (WE.cons (Wx.bool) (WE.nil))))))
    intro H hfr hs_o1
    have hle := hfr.le
    have hl_o1 := h_lt hs_o1
    obtain ⟨x9, hy10, h⟩ := bnd' h
    obtain ⟨x10, hy11, h⟩ := bnd' h
    obtain ⟨x11, hy12, h⟩ := bnd' h
    obtain ⟨x12, hy13, h⟩ := bnd' h
    have hy14 : capp 1 (ml b8 out4) (ml b8 x11) = some (ml b8 x12) := capp_m (f := b8) hy13
    obtain ⟨x13, hy15, h⟩ := bnd' h
    have hy16 : capp 1 (ml b8 x12) [(b8 13), (b8 10)] = some (ml b8 x13) := capp_m (f := b8) hy15
    simp (disch := first | assumption | omega | (simp only [h_sl, h_al] <;> omega) | fail) only [WW, WH, ↓reduceIte, Nat.reduceEqDiff, Nat.reduceLT, Nat.reduceLeDiff, Nat.reduceAdd, Nat.reduceSub, Nat.reduceMul, Nat.reduceBEq, reduceCtorEq, if_false, if_true, L_ref16_Print, hy10, hy11, hy12, hy14, hy16, hs_o1, encReplyV]
    have hq := Option.some.inj h; subst hq
    refine hN _ rfl _ _ _ _ ?_ (WxH.refl _) ⟨rfl, hfr, ((hs_o1).trans rfl)⟩
    exact WE.cons (Wx.ptr) (WE.cons (Wx.str) (WE.cons (Wx.oo) (WE.cons (Wx.int) (WE.nil))))
  · refine UC_f hy7 ?_
    simp (disch := first | assumption | omega | (simp only [h_sl, h_al] <;> omega) | fail) only [WW, WH, ↓reduceIte, Nat.reduceEqDiff, Nat.reduceLT, Nat.reduceLeDiff, Nat.reduceAdd, Nat.reduceSub, Nat.reduceMul, Nat.reduceBEq, reduceCtorEq, if_false, if_true, L_ref16_Print, hs_o1, encReplyV]
    have hq := Option.some.inj h; subst hq
    refine hX _ _ _ _ _ (by simp) ?_ (WxH.refl _) (kb0 _ (hB _ rfl) _ hfr ((hs_o1).trans rfl))
    exact WE.cons (Wx.oo) (WE.nil)
set_option maxHeartbeats 2000000 in
theorem ref16_Print_ok {F : Nat} {r1 : ReplyV}  {H0 : AH}  {rz0 : List UInt8} (h : ref16_Print F r1 = some rz0) :
    ACalls Tryd.prog 23 [(.agg [(.int .i64 r1.code), (.sl .n 1 (ml AV.str r1.lines))])] H0 fun v H' => v = (.sl .n 1 (ml b8 rz0)) ∧ H' = H0 := by
  refine ACalls.goX k_ref16_Print (m := m_ref16_Print) rfl L_ref16_Print (by decide) (by simp) fun hcl K0 hK0 => ?_
  refine AX.of_U (m := m_ref16_Print) rfl (by decide) ?_
  have hfr := Fr.refl H0 []
  have hle := hfr.le
  rw [ref16_Print.eq_1] at h
  obtain ⟨H, hHH⟩ : ∃ H, H = H0 := ⟨_, rfl⟩
  have hfr : Fr H0 H0.length [] H := hHH ▸ hfr
  have hle := hfr.le
  suffices hU : U Tryd.prog L_ref16_Print 56 H0.length [.code m_ref16_Print] K0 .normal (argE 0 [(.agg [(.int .i64 r1.code), (.sl .n 1 (ml AV.str r1.lines))])]) H by rwa [hHH] at hU
  simp (disch := first | assumption | omega | (simp only [h_sl, h_al] <;> omega) | fail) only [WW, WH, ↓reduceIte, Nat.reduceEqDiff, Nat.reduceLT, Nat.reduceLeDiff, Nat.reduceAdd, Nat.reduceSub, Nat.reduceMul, Nat.reduceBEq, reduceCtorEq, if_false, if_true, L_ref16_Print, m_ref16_Print, c_ref16_Print, encReplyV]
  obtain ⟨r2, hy1, h⟩ := bnd' h
  refine UK_e (as' := [(.agg [(.int .i64 r1.code), (.sl .n 1 (ml AV.str r1.lines))])]) (h := ref16_Right_ok (r1 := r1) (F := F)  hy1) (hw := WL.cons (Wx.agg (W1L.same (W1L.same (W1L.nil)))) (WL.nil)) (hh := WxH.refl _) ?_
  simp (disch := first | assumption | omega | (simp only [h_sl, h_al] <;> omega) | fail) only [WW, WH, ↓reduceIte, Nat.reduceEqDiff, Nat.reduceLT, Nat.reduceLeDiff, Nat.reduceAdd, Nat.reduceSub, Nat.reduceMul, Nat.reduceBEq, reduceCtorEq, if_false, if_true, L_ref16_Print, encReplyV]
  rcases ifb h with ⟨hy2, h⟩ | ⟨hy2, h⟩
  · refine UC_t hy2 ?_
    simp (disch := first | assumption | omega | (simp only [h_sl, h_al] <;> omega) | fail) only [WW, WH, ↓reduceIte, Nat.reduceEqDiff, Nat.reduceLT, Nat.reduceLeDiff, Nat.reduceAdd, Nat.reduceSub, Nat.reduceMul, Nat.reduceBEq, reduceCtorEq, if_false, if_true, L_ref16_Print, encReplyV]
    have hq := Option.some.inj h; subst hq
    refine hK0 _ _ _ (.inr rfl) ?_
    exact fn_end0 (by exact (Fr.app hfr)) hcl (resv_tmp (a := (.sl .ex 1 [])) rfl rfl resv_nil) (by simp [fin, AV.df, AV.sh, AV.sh1, b_df, b_sh, b_sh1, b_Cl]) (Wx.n) (r' := (.sl .n 1 (ml b8 ([] : List UInt8)))) ⟨rfl, rfl⟩
  · refine UC_f hy2 ?_
    have hy3 : dv .i64 r1.code 100 = some (IntKind.wrap .i64 (Int.tdiv r1.code 100)) := rfl
    have hy4 : dv .i64 r1.code 10 = some (IntKind.wrap .i64 (Int.tdiv r1.code 10)) := rfl
    have hy5 : rm .i64 (IntKind.wrap .i64 (Int.tdiv r1.code 10)) 10 = some (Int.tmod (IntKind.wrap .i64 (Int.tdiv r1.code 10)) 10) := rfl
    have hy6 : rm .i64 r1.code 10 = some (Int.tmod r1.code 10) := rfl
    simp (disch := first | assumption | omega | (simp only [h_sl, h_al] <;> omega) | fail) only [WW, WH, ↓reduceIte, Nat.reduceEqDiff, Nat.reduceLT, Nat.reduceLeDiff, Nat.reduceAdd, Nat.reduceSub, Nat.reduceMul, Nat.reduceBEq, reduceCtorEq, if_false, if_true, L_ref16_Print, hy3, hy4, hy5, hy6, encReplyV]
    obtain ⟨q3, hg_q3⟩ : ∃ q : Nat, H.length = q := ⟨_, rfl⟩
    try rw [hg_q3]
    obtain ⟨o16, hy17, h⟩ := bnd' h
    refine UX_of (AX.weak ?_ (WxH.refl _) (ref16_Print_l1_ok  (r1 := r1) (out4 := ([] : List UInt8)) (i5 := 0) (q3 := q3) ((Fr.app hfr)) ((h_new' (by first | assumption | omega | (simp only [h_sl, h_al] <;> omega) | fail)).trans rfl) (by first | assumption | omega | (simp only [h_sl, h_al] <;> omega) | fail) (o := o16) hy17 ?_))
    · exact WE.cons (Wx.ptr) (WE.cons (Wx.str) (WE.cons (Wx.own ..) (WE.cons (Wx.int) (WE.nil))))
    · rintro out15 rfl H hfr hs_o1
      try dsimp only at h hs_o1
      have hle := hfr.le
      have hl_o1 := h_lt hs_o1
      simp (disch := first | assumption | omega | (simp only [h_sl, h_al] <;> omega) | fail) only [WW, WH, ↓reduceIte, Nat.reduceEqDiff, Nat.reduceLT, Nat.reduceLeDiff, Nat.reduceAdd, Nat.reduceSub, Nat.reduceMul, Nat.reduceBEq, reduceCtorEq, if_false, if_true, L_ref16_Print, hs_o1, encReplyV]
      have hq := Option.some.inj h; subst hq
      refine hK0 _ _ _ (.inr rfl) ?_
      exact fn_end0 (by exact hfr) hcl (resv_tmp (a := (.sl .n 1 (ml b8 out15))) rfl rfl resv_nil) (by simp [fin, AV.df, AV.sh, AV.sh1, b_df, b_sh, b_sh1, b_Cl]) (Wx.nn) (r' := (.sl .n 1 (ml b8 out15))) ⟨rfl, rfl⟩

/-! ### mailbag/mailbagref16.Class -/
def c_ref16_Class_p1 : ACode := (.rg [⟨(some 3), (.mv (.t 0)), none⟩, ⟨(some 4), (.bin .lss (.t 3) (.c (.int .i64 200))), none⟩, ⟨(some 5), (.mv (.t 4)), none⟩, ⟨(some 6), (.mv (.t 0)), (some (5, false))⟩, ⟨(some 7), (.bin .gtr (.t 6) (.c (.int .i64 599))), (some (5, false))⟩, ⟨(some 8), (.pick (.t 5) (.c (.bool true)) (.t 7)), none⟩])
abbrev m_ref16_Class_p1 := c_ref16_Class_p1
def c_ref16_Class : ACode := (.seq (.rg [⟨(some 2), (.asg (.c (.int .i64 0))), none⟩]) (.seq (.seq c_ref16_Class_p1 (.cond (.t 8) (.seq (.rg [⟨(some 2), (.asg (.c (.int .i64 0))), none⟩]) .ret) .skip)) (.seq (.rg [⟨(some 9), (.mv (.t 0)), none⟩, ⟨(some 10), (.bin .quo (.t 9) (.c (.int .i64 100))), none⟩, ⟨(some 2), (.asg (.t 10)), none⟩]) .ret)))
def m_ref16_Class : ACode := (.seq (.rg [⟨(some 2), (.asg (.c (.int .i64 0))), none⟩]) (.seq (.seq (.sem c_ref16_Class_p1) (.cond (.t 8) (.seq (.rg [⟨(some 2), (.asg (.c (.int .i64 0))), none⟩]) .ret) .skip)) (.seq (.rg [⟨(some 9), (.mv (.t 0)), none⟩, ⟨(some 10), (.bin .quo (.t 9) (.c (.int .i64 100))), none⟩, ⟨(some 2), (.asg (.t 10)), none⟩]) .ret)))
theorem k_ref16_Class : FnOk Tryd.prog 27 11 [(.tmp 2)] c_ref16_Class := ⟨Tryd.f27, _, rfl, by decide, rfl, by kernel_rfl, rfl, rfl⟩
abbrev L_ref16_Class : List Nat := [0, 2, 8]
def ref16_Class (code1 : Int) : Option (Int) :=
  (if ((decide (code1 < 200)) || (decide (599 < code1))) then
    some 0
  else
    some (IntKind.wrap .i64 (Int.tdiv code1 100)))
set_option maxHeartbeats 2000000 in
theorem ref16_Class_p1_ok {code1 : Int} {H : AH}  {K : Exit → Env → AH → Prop}
    (kn : K .normal [(0, (.int .i64 code1)), (8, (.bool ((decide (code1 < 200)) || (decide (599 < code1)))))] H) :
    AX Tryd.prog L_ref16_Class 11 H.length c_ref16_Class_p1 K [(0, (.int .i64 code1))] H := by
  refine AX.go (m := m_ref16_Class_p1) rfl (by decide) fun K' hK => ?_
  simp only [WW, ↓reduceIte, Nat.reduceEqDiff, Nat.reduceLT, Nat.reduceLeDiff, Nat.reduceAdd, Nat.reduceSub, Nat.reduceMul, Nat.reduceBEq, reduceCtorEq, if_false, if_true, L_ref16_Class, m_ref16_Class_p1, c_ref16_Class_p1, encReplyV]
  rcases bcases ((decide (code1 < 200))) with hy1 | hy1
  · refine UG_nf hy1 ?_
    simp only [WW, ↓reduceIte, Nat.reduceEqDiff, Nat.reduceLT, Nat.reduceLeDiff, Nat.reduceAdd, Nat.reduceSub, Nat.reduceMul, Nat.reduceBEq, reduceCtorEq, if_false, if_true, L_ref16_Class, hy1, encReplyV]
    refine hK _ _ _ _ _ ?_ (WxH.refl _) (kn )
    exact WE.cons (Wx.int) (WE.cons (Wx.boolE (by simp only [hy1, WB])) (WE.nil))
  · refine UG_go hy1 ?_
    simp only [WW, ↓reduceIte, Nat.reduceEqDiff, Nat.reduceLT, Nat.reduceLeDiff, Nat.reduceAdd, Nat.reduceSub, Nat.reduceMul, Nat.reduceBEq, reduceCtorEq, if_false, if_true, L_ref16_Class, hy1, encReplyV]
    refine hK _ _ _ _ _ ?_ (WxH.refl _) (kn )
    exact WE.cons (Wx.int) (WE.cons (Wx.boolE (by simp only [hy1, WB])) (WE.nil))
set_option maxHeartbeats 2000000 in
theorem ref16_Class_ok {code1 : Int}  {H0 : AH}  {rz0 : Int} (h : ref16_Class code1 = some rz0) :
    ACalls Tryd.prog 27 [(.int .i64 code1)] H0 fun v H' => v = (.int .i64 rz0) ∧ H' = H0 := by
  refine ACalls.goX k_ref16_Class (m := m_ref16_Class) rfl L_ref16_Class (by decide) (by simp) fun hcl K0 hK0 => ?_
  refine AX.of_U (m := m_ref16_Class) rfl (by decide) ?_
  rw [ref16_Class.eq_1] at h
  simp only [WW, ↓reduceIte, Nat.reduceEqDiff, Nat.reduceLT, Nat.reduceLeDiff, Nat.reduceAdd, Nat.reduceSub, Nat.reduceMul, Nat.reduceBEq, reduceCtorEq, if_false, if_true, L_ref16_Class, m_ref16_Class, encReplyV]
  refine UX_of (AX.weak ?_ (WxH.refl _) (ref16_Class_p1_ok (code1 := code1)  ?_))
  · exact WE.cons (Wx.int) (WE.nil)
  simp only [WW, ↓reduceIte, Nat.reduceEqDiff, Nat.reduceLT, Nat.reduceLeDiff, Nat.reduceAdd, Nat.reduceSub, Nat.reduceMul, Nat.reduceBEq, reduceCtorEq, if_false, if_true, L_ref16_Class, encReplyV]
  rcases ifb h with ⟨hy2, h⟩ | ⟨hy2, h⟩
  · refine UC_t hy2 ?_
    simp only [WW, ↓reduceIte, Nat.reduceEqDiff, Nat.reduceLT, Nat.reduceLeDiff, Nat.reduceAdd, Nat.reduceSub, Nat.reduceMul, Nat.reduceBEq, reduceCtorEq, if_false, if_true, L_ref16_Class, encReplyV]
    have hq := Option.some.inj h; subst hq
    refine hK0 _ _ _ (.inr rfl) ?_
    exact fn_endp hcl (resv_tmp (a := (.int .i64 0)) rfl rfl resv_nil) (by simp [fin, AV.df, AV.sh, AV.sh1, b_df, b_sh, b_sh1, b_Cl]) (Wx.int) (r' := (.int .i64 0)) ⟨rfl, rfl⟩
  · refine UC_f hy2 ?_
    have hy3 : dv .i64 code1 100 = some (IntKind.wrap .i64 (Int.tdiv code1 100)) := rfl
    simp only [WW, ↓reduceIte, Nat.reduceEqDiff, Nat.reduceLT, Nat.reduceLeDiff, Nat.reduceAdd, Nat.reduceSub, Nat.reduceMul, Nat.reduceBEq, reduceCtorEq, if_false, if_true, L_ref16_Class, hy3, encReplyV]
    have hq := Option.some.inj h; subst hq
    refine hK0 _ _ _ (.inr rfl) ?_
    exact fn_endp hcl (resv_tmp (a := (.int .i64 (IntKind.wrap .i64 (Int.tdiv code1 100)))) rfl rfl resv_nil) (by simp [fin, AV.df, AV.sh, AV.sh1, b_df, b_sh, b_sh1, b_Cl]) (Wx.int) (r' := (.int .i64 (IntKind.wrap .i64 (Int.tdiv code1 100)))) ⟨rfl, rfl⟩

/-! ### mailbag/mailbaglaw16.ReplyBack -/
def c_law16_ReplyBack_p1 : ACode := (.rg [⟨(some 12), (.ld (.t 3) (some 2)), none⟩, ⟨(some 13), (.call (.c (.fn 21 [])) [(.t 12)]), none⟩, ⟨(some 14), (.un .not (.t 13)), none⟩, ⟨(some 15), (.mv (.t 14)), none⟩, ⟨(some 16), (.ld (.t 4) (some 2)), (some (15, false))⟩, ⟨(some 17), (.call (.c (.fn 21 [])) [(.t 16)]), (some (15, false))⟩, ⟨(some 18), (.un .not (.t 17)), (some (15, false))⟩, ⟨(some 19), (.pick (.t 15) (.c (.bool true)) (.t 18)), none⟩])
abbrev m_law16_ReplyBack_p1 := c_law16_ReplyBack_p1
def c_law16_ReplyBack_p2 : ACode := (.rg [⟨(some 22), (.mv (.t 7)), none⟩, ⟨(some 23), (.cvt .bs (.t 22)), none⟩, ⟨(some 24), (.lde (.t 3) (some 2)), none⟩, ⟨(some 25), (.call (.c (.fn 20 [])) [(.t 24)]), none⟩, ⟨(some 26), (.call (.c (.fn 23 [])) [(.t 25)]), none⟩, ⟨(some 27), (.cvt .bs (.t 26)), none⟩, ⟨(some 28), (.bin .neq (.t 23) (.t 27)), none⟩, ⟨(some 29), (.mv (.t 28)), none⟩, ⟨(some 30), (.lde (.t 3) (some 2)), (some (29, false))⟩, ⟨(some 32), (.lde (.t 3) (some 2)), (some (29, false))⟩, ⟨(some 31), (.call (.c (.fn 24 [])) [(.t 30)]), (some (29, false))⟩, ⟨(some 33), (.call (.c (.fn 20 [])) [(.t 32)]), (some (29, false))⟩, ⟨(some 34), (.call (.c (.fn 25 [])) [(.t 33)]), (some (29, false))⟩, ⟨(some 35), (.bq true (.t 31) (.t 34)), (some (29, false))⟩, ⟨(some 36), (.pick (.t 29) (.c (.bool true)) (.t 35)), none⟩, ⟨(some 37), (.mv (.t 36)), none⟩, ⟨(some 38), (.lde (.t 3) (some 2)), (some (37, false))⟩, ⟨(some 39), (.lde (.t 4) (some 2)), (some (37, false))⟩, ⟨(some 41), (.lde (.t 3) (some 2)), (some (37, false))⟩, ⟨(some 43), (.lde (.t 4) (some 2)), (some (37, false))⟩, ⟨(some 40), (.call (.c (.fn 26 [])) [(.t 38), (.t 39)]), (some (37, false))⟩, ⟨(some 42), (.call (.c (.fn 20 [])) [(.t 41)]), (some (37, false))⟩, ⟨(some 44), (.call (.c (.fn 20 [])) [(.t 43)]), (some (37, false))⟩, ⟨(some 45), (.call (.c (.fn 19 [])) [(.t 42), (.t 44)]), (some (37, false))⟩, ⟨(some 46), (.bq true (.t 40) (.t 45)), (some (37, false))⟩, ⟨(some 47), (.pick (.t 37) (.c (.bool true)) (.t 46)), none⟩, ⟨(some 48), (.mv (.t 47)), none⟩, ⟨(some 49), (.mv (.t 2)), (some (48, false))⟩, ⟨(some 51), (.mv (.t 2)), (some (48, false))⟩, ⟨(some 50), (.call (.c (.fn 11 [])) [(.t 49)]), (some (48, false))⟩, ⟨(some 52), (.call (.c (.fn 27 [])) [(.t 51)]), (some (48, false))⟩, ⟨(some 53), (.bin .neq (.t 50) (.t 52)), (some (48, false))⟩, ⟨(some 54), (.pick (.t 48) (.c (.bool true)) (.t 53)), none⟩])
abbrev m_law16_ReplyBack_p2 := c_law16_ReplyBack_p2
def c_law16_ReplyBack_p3 : ACode := (.rg [⟨(some 67), (.mv (.t 9)), none⟩, ⟨(some 68), (.bin .eql (.t 67) (.c (.int .i64 0))), none⟩, ⟨(some 69), (.mv (.t 68)), none⟩, ⟨(some 70), (.ld (.t 8) (some 2)), (some (69, true))⟩, ⟨(some 71), (.ld (.t 3) (some 2)), (some (69, true))⟩, ⟨(some 72), (.call (.c (.fn 26 [])) [(.t 70), (.t 71)]), (some (69, true))⟩, ⟨(some 73), (.pick (.t 69) (.t 72) (.c (.bool false))), none⟩, ⟨(some 6), (.asg (.t 73)), none⟩])
abbrev m_law16_ReplyBack_p3 := c_law16_ReplyBack_p3
def c_law16_ReplyBack : ACode := (.seq (.rg [⟨(some 3), (.box (.t 0)), none⟩, ⟨(some 4), (.box (.t 1)), none⟩, ⟨(some 6), (.asg (.c (.bool false))), none⟩]) (.seq (.seq (.rg [⟨(some 10), (.call (.c (.fn 8 [])) []), none⟩, ⟨(some 11), (.un .not (.t 10)), none⟩]) (.cond (.t 11) (.seq (.rg [⟨(some 6), (.asg (.c (.bool false))), none⟩]) .ret) .skip)) (.seq (.seq c_law16_ReplyBack_p1 (.cond (.t 19) (.seq (.rg [⟨(some 6), (.asg (.c (.bool true))), none⟩]) .ret) .skip)) (.seq (.rg [⟨(some 20), (.ld (.t 3) (some 2)), none⟩, ⟨(some 21), (.call (.c (.fn 22 [])) [(.t 20)]), none⟩, ⟨(some 7), (.asg (.t 21)), none⟩]) (.seq (.seq c_law16_ReplyBack_p2 (.cond (.t 54) (.seq (.rg [⟨(some 6), (.asg (.c (.bool false))), none⟩]) .ret) .skip)) (.seq (.seq (.rg [⟨(some 55), (.ld (.t 3) (some 2)), none⟩, ⟨(some 56), (.call (.c (.fn 20 [])) [(.t 55)]), none⟩, ⟨(some 57), (.call (.c (.fn 25 [])) [(.t 56)]), none⟩, ⟨(some 58), (.un .not (.t 57)), none⟩]) (.cond (.t 58) (.seq (.rg [⟨(some 59), (.mv (.t 7)), none⟩, ⟨(some 60), (.len (.t 59)), none⟩, ⟨(some 61), (.bin .eql (.t 60) (.c (.int .i64 0))), none⟩, ⟨(some 6), (.asg (.t 61)), none⟩]) .ret) .skip)) (.seq (.rg [⟨(some 63), (.mv (.t 7)), none⟩, ⟨(some 64), (.call (.c (.fn 9 [])) [(.t 63)]), none⟩, ⟨(some 62), (.mv (.t 64)), none⟩, ⟨(some 65), (.ext (.t 62) 0), none⟩, ⟨(some 66), (.ext (.t 62) 1), none⟩, ⟨(some 8), (.alloc [(.int .i64 0), (.sl .ex 1 [])]), none⟩, ⟨none, (.st (.t 8) (.t 65) 2), none⟩, ⟨(some 9), (.asg (.t 66)), none⟩]) (.seq c_law16_ReplyBack_p3 .ret))))))))
def m_law16_ReplyBack : ACode := (.seq (.rg [⟨(some 3), (.box (.t 0)), none⟩, ⟨(some 4), (.box (.t 1)), none⟩, ⟨(some 6), (.asg (.c (.bool false))), none⟩]) (.seq (.seq (.rg [⟨(some 10), (.call (.c (.fn 8 [])) []), none⟩, ⟨(some 11), (.un .not (.t 10)), none⟩]) (.cond (.t 11) (.seq (.rg [⟨(some 6), (.asg (.c (.bool false))), none⟩]) .ret) .skip)) (.seq (.seq (.sem c_law16_ReplyBack_p1) (.cond (.t 19) (.seq (.rg [⟨(some 6), (.asg (.c (.bool true))), none⟩]) .ret) .skip)) (.seq (.rg [⟨(some 20), (.ld (.t 3) (some 2)), none⟩, ⟨(some 21), (.call (.c (.fn 22 [])) [(.t 20)]), none⟩, ⟨(some 7), (.asg (.t 21)), none⟩]) (.seq (.seq (.sem c_law16_ReplyBack_p2) (.cond (.t 54) (.seq (.rg [⟨(some 6), (.asg (.c (.bool false))), none⟩]) .ret) .skip)) (.seq (.seq (.rg [⟨(some 55), (.ld (.t 3) (some 2)), none⟩, ⟨(some 56), (.call (.c (.fn 20 [])) [(.t 55)]), none⟩, ⟨(some 57), (.call (.c (.fn 25 [])) [(.t 56)]), none⟩, ⟨(some 58), (.un .not (.t 57)), none⟩]) (.cond (.t 58) (.seq (.rg [⟨(some 59), (.mv (.t 7)), none⟩, ⟨(some 60), (.len (.t 59)), none⟩, ⟨(some 61), (.bin .eql (.t 60) (.c (.int .i64 0))), none⟩, ⟨(some 6), (.asg (.t 61)), none⟩]) .ret) .skip)) (.seq (.rg [⟨(some 63), (.mv (.t 7)), none⟩, ⟨(some 64), (.call (.c (.fn 9 [])) [(.t 63)]), none⟩, ⟨(some 62), (.mv (.t 64)), none⟩, ⟨(some 65), (.ext (.t 62) 0), none⟩, ⟨(some 66), (.ext (.t 62) 1), none⟩, ⟨(some 8), (.alloc [(.int .i64 0), (.sl .ex 1 [])]), none⟩, ⟨none, (.st (.t 8) (.t 65) 2), none⟩, ⟨(some 9), (.asg (.t 66)), none⟩]) (.seq (.sem c_law16_ReplyBack_p3) .ret))))))))
theorem k_law16_ReplyBack : FnOk Tryd.prog 5 74 [(.tmp 6)] c_law16_ReplyBack := ⟨Tryd.f5, _, rfl, by decide, rfl, by kernel_rfl, rfl, rfl⟩
abbrev L_law16_ReplyBack : List Nat := [0, 1, 2, 3, 4, 6, 7, 8, 9, 11, 19, 54, 58]
def law16_ReplyBack_p1 (F : Nat) (r1 : ReplyV) (o2 : ReplyV) : Option (Bool) :=
  (law16_Few F r1).bind fun r7 =>
  (if (!r7) then
    some true
  else
    (law16_Few F o2).bind fun r8 => some (!r8))
def law16_ReplyBack_p2 (F : Nat) (r1 : ReplyV) (r11 : List UInt8) (o2 : ReplyV) (code3 : Int) : Option (Bool) :=
  (law16_Of r1).bind fun r12 =>
  (ref16_Print F r12).bind fun r13 =>
  (if (!decide (r11 = r13)) then
    some true
  else
    (reply_Right F r1).bind fun r14 =>
    (law16_Of r1).bind fun r15 =>
    (ref16_Right F r15).bind fun r16 =>
    (if (!(r14 == r16)) then
      some true
    else
      (reply_Same F r1 o2).bind fun r17 =>
      (law16_Of r1).bind fun r18 =>
      (law16_Of o2).bind fun r19 =>
      (ref16_Same F r18 r19).bind fun r20 =>
      (if (!(r17 == r20)) then
        some true
      else
        (reply_Class code3).bind fun r21 =>
        (ref16_Class code3).bind fun r22 => some (!decide (r21 = r22)))))
def law16_ReplyBack_p3 (F : Nat) (r28 : Int) (r27 : ReplyV) (r1 : ReplyV) : Option (Bool) :=
  (if (decide (r28 = 0)) then
    (reply_Same F r27 r1).bind fun r30 => some r30
  else
    some false)
def law16_ReplyBack (F : Nat) (r1 : ReplyV) (o2 : ReplyV) (code3 : Int) : Option (Bool) :=
  (law16_known F ).bind fun r4 =>
  (if (!r4) then
    some false
  else
    (law16_ReplyBack_p1 F r1 o2).bind fun t10 =>
    (if t10 then
      some true
    else
      (reply_Print F r1).bind fun r11 =>
      (law16_ReplyBack_p2 F r1 r11 o2 code3).bind fun t24 =>
      (if t24 then
        some false
      else
        (law16_Of r1).bind fun r25 =>
        (ref16_Right F r25).bind fun r26 =>
        (if (!r26) then
          some (decide ((r11.length : Int) = 0))
        else
          (reply_Parse F r11).bind fun (r27, r28) => (law16_ReplyBack_p3 F r28 r27 r1).bind fun t32 =>
          some t32))))
set_option maxHeartbeats 2000000 in
theorem law16_ReplyBack_p1_ok {F : Nat} {r1 : ReplyV} {o2 : ReplyV} {code3 : Int} {q5 : Nat} {q6 : Nat} {H0 H : AH} (hfr : Fr H0 H0.length [] H) (hs_o1 : H[q5]? = some [(.int .i64 r1.code), (.sl .n 1 (ml AV.str r1.lines))]) (hs_o2 : H[q6]? = some [(.int .i64 o2.code), (.sl .n 1 (ml AV.str o2.lines))]) (hi0 : H0.length ≤ q5) (hi1 : H0.length ≤ q6) (hi2 : q5 ≠ q6) {K : Exit → Env → AH → Prop} {t9 : Bool}
    (h : law16_ReplyBack_p1 F r1 o2 = some t9)
    (kn : ∀ H' : AH, Fr H0 H0.length [] H' → H'[q5]? = some [(.int .i64 r1.code), (.sl .n 1 (ml AV.str r1.lines))] → H'[q6]? = some [(.int .i64 o2.code), (.sl .n 1 (ml AV.str o2.lines))] → K .normal [(2, (.int .i64 code3)), (3, (.ptr q5 0)), (4, (.ptr q6 0)), (19, (.bool t9))] H') :
    AX Tryd.prog L_law16_ReplyBack 74 H0.length c_law16_ReplyBack_p1 K [(2, (.int .i64 code3)), (3, (.ptr q5 0)), (4, (.ptr q6 0))] H := by
  refine AX.go (m := m_law16_ReplyBack_p1) rfl (by decide) fun K' hK => ?_
  have hle := hfr.le
  have hl_o1 := h_lt hs_o1
  have hl_o2 := h_lt hs_o2
  rw [law16_ReplyBack_p1.eq_1] at h
  simp (disch := first | assumption | omega | (simp only [h_sl, h_al] <;> omega) | fail) only [WW, WH, ↓reduceIte, Nat.reduceEqDiff, Nat.reduceLT, Nat.reduceLeDiff, Nat.reduceAdd, Nat.reduceSub, Nat.reduceMul, Nat.reduceBEq, reduceCtorEq, if_false, if_true, L_law16_ReplyBack, m_law16_ReplyBack_p1, c_law16_ReplyBack_p1, hs_o1, hs_o2, encReplyV]
  obtain ⟨r7, hy3, h⟩ := bnd' h
  refine UK_e (as' := [(.agg [(.int .i64 r1.code), (.sl .n 1 (ml AV.str r1.lines))])]) (h := law16_Few_ok (r1 := r1) (F := F)  hy3) (hw := WL.cons (Wx.agg (W1L.same (W1L.same (W1L.nil)))) (WL.nil)) (hh := WxH.refl _) ?_
  simp (disch := first | assumption | omega | (simp only [h_sl, h_al] <;> omega) | fail) only [WW, WH, ↓reduceIte, Nat.reduceEqDiff, Nat.reduceLT, Nat.reduceLeDiff, Nat.reduceAdd, Nat.reduceSub, Nat.reduceMul, Nat.reduceBEq, reduceCtorEq, if_false, if_true, L_law16_ReplyBack, hs_o1, hs_o2, encReplyV]
  rcases ifb h with ⟨hy4, h⟩ | ⟨hy4, h⟩
  · refine UG_nf hy4 ?_
    simp (disch := first | assumption | omega | (simp only [h_sl, h_al] <;> omega) | fail) only [WW, WH, ↓reduceIte, Nat.reduceEqDiff, Nat.reduceLT, Nat.reduceLeDiff, Nat.reduceAdd, Nat.reduceSub, Nat.reduceMul, Nat.reduceBEq, reduceCtorEq, if_false, if_true, L_law16_ReplyBack, hy4, hs_o1, hs_o2, encReplyV]
    have hq := Option.some.inj h; subst hq
    refine hK _ _ _ _ _ ?_ (WxH.refl _) (kn _ hfr ((hs_o1).trans rfl) ((hs_o2).trans rfl))
    exact WE.cons (Wx.int) (WE.cons (Wx.ptr) (WE.cons (Wx.ptr) (WE.cons (Wx.bool) (WE.nil))))
  · refine UG_go hy4 ?_
    simp (disch := first | assumption | omega | (simp only [h_sl, h_al] <;> omega) | fail) only [WW, WH, ↓reduceIte, Nat.reduceEqDiff, Nat.reduceLT, Nat.reduceLeDiff, Nat.reduceAdd, Nat.reduceSub, Nat.reduceMul, Nat.reduceBEq, reduceCtorEq, if_false, if_true, L_law16_ReplyBack, hy4, hs_o1, hs_o2, encReplyV]
    obtain ⟨r8, hy5, h⟩ := bnd' h
    refine UK_e (as' := [(.agg [(.int .i64 o2.code), (.sl .n 1 (ml AV.str o2.lines))])]) (h := law16_Few_ok (r1 := o2) (F := F)  hy5) (hw := WL.cons (Wx.agg (W1L.same (W1L.same (W1L.nil)))) (WL.nil)) (hh := WxH.refl _) ?_
    simp (disch := first | assumption | omega | (simp only [h_sl, h_al] <;> omega) | fail) only [WW, WH, ↓reduceIte, Nat.reduceEqDiff, Nat.reduceLT, Nat.reduceLeDiff, Nat.reduceAdd, Nat.reduceSub, Nat.reduceMul, Nat.reduceBEq, reduceCtorEq, if_false, if_true, L_law16_ReplyBack, hs_o1, hs_o2, encReplyV]
    have hq := Option.some.inj h; subst hq
    refine hK _ _ _ _ _ ?_ (WxH.refl _) (kn _ hfr ((hs_o1).trans rfl) ((hs_o2).trans rfl))
    exact WE.cons (Wx.int) (WE.cons (Wx.ptr) (WE.cons (Wx.ptr) (WE.cons (Wx.bool) (WE.nil))))
set_option maxHeartbeats 2000000 in
theorem law16_ReplyBack_p2_ok {F : Nat} {r1 : ReplyV} {r11 : List UInt8} {o2 : ReplyV} {code3 : Int} {H0 H : AH} (hfr : Fr H0 H0.length [] H) {K : Exit → Env → AH → Prop} {t23 : Bool}
    (h : law16_ReplyBack_p2 F r1 r11 o2 code3 = some t23)
    (kn : ∀ H' : AH, Fr H0 H0.length [] H' → K .normal [(3, (.ep (.agg [(.int .i64 r1.code), (.sl .n 1 (ml AV.str r1.lines))]) 0)), (7, (.sl .n 1 (ml b8 r11))), (54, (.bool t23))] H') :
    AX Tryd.prog L_law16_ReplyBack 74 H0.length c_law16_ReplyBack_p2 K [(2, (.int .i64 code3)), (3, (.ep (.agg [(.int .i64 r1.code), (.sl .n 1 (ml AV.str r1.lines))]) 0)), (4, (.ep (.agg [(.int .i64 o2.code), (.sl .n 1 (ml AV.str o2.lines))]) 0)), (7, (.sl .n 1 (ml b8 r11)))] H := by
  refine AX.go (m := m_law16_ReplyBack_p2) rfl (by decide) fun K' hK => ?_
  have hle := hfr.le
  rw [law16_ReplyBack_p2.eq_1] at h
  simp (disch := first | assumption | omega | (simp only [h_sl, h_al] <;> omega) | fail) only [WW, WH, ↓reduceIte, Nat.reduceEqDiff, Nat.reduceLT, Nat.reduceLeDiff, Nat.reduceAdd, Nat.reduceSub, Nat.reduceMul, Nat.reduceBEq, reduceCtorEq, if_false, if_true, L_law16_ReplyBack, m_law16_ReplyBack_p2, c_law16_ReplyBack_p2, encReplyV]
  obtain ⟨r12, hy9, h⟩ := bnd' h
  refine UK_e (as' := [(.agg [(.int .i64 r1.code), (.sl .n 1 (ml AV.str r1.lines))])]) (h := law16_Of_ok (r1 := r1)  hy9) (hw := WL.cons (Wx.agg (W1L.same (W1L.same (W1L.nil)))) (WL.nil)) (hh := WxH.refl _) ?_
  simp (disch := first | assumption | omega | (simp only [h_sl, h_al] <;> omega) | fail) only [WW, WH, ↓reduceIte, Nat.reduceEqDiff, Nat.reduceLT, Nat.reduceLeDiff, Nat.reduceAdd, Nat.reduceSub, Nat.reduceMul, Nat.reduceBEq, reduceCtorEq, if_false, if_true, L_law16_ReplyBack, encReplyV]
  obtain ⟨r13, hy10, h⟩ := bnd' h
  refine UK_e (as' := [(.agg [(.int .i64 r12.code), (.sl .n 1 (ml AV.str r12.lines))])]) (h := ref16_Print_ok (r1 := r12) (F := F)  hy10) (hw := WL.cons (Wx.agg (W1L.same (W1L.same (W1L.nil)))) (WL.nil)) (hh := WxH.refl _) ?_
  simp (disch := first | assumption | omega | (simp only [h_sl, h_al] <;> omega) | fail) only [WW, WH, ↓reduceIte, Nat.reduceEqDiff, Nat.reduceLT, Nat.reduceLeDiff, Nat.reduceAdd, Nat.reduceSub, Nat.reduceMul, Nat.reduceBEq, reduceCtorEq, if_false, if_true, L_law16_ReplyBack, encReplyV]
  rcases ifb h with ⟨hy11, h⟩ | ⟨hy11, h⟩
  · refine UG_nf hy11 ?_
    simp (disch := first | assumption | omega | (simp only [h_sl, h_al] <;> omega) | fail) only [WW, WH, ↓reduceIte, Nat.reduceEqDiff, Nat.reduceLT, Nat.reduceLeDiff, Nat.reduceAdd, Nat.reduceSub, Nat.reduceMul, Nat.reduceBEq, reduceCtorEq, if_false, if_true, L_law16_ReplyBack, hy11, encReplyV]
    have hq := Option.some.inj h; subst hq
    refine hK _ _ _ _ _ ?_ (WxH.refl _) (kn _ hfr)
    exact WE.cons (Wx.ep) (WE.cons (Wx.nn) (WE.cons (Wx.bool) (WE.nil)))
  · refine UG_go hy11 ?_
    simp (disch := first | assumption | omega | (simp only [h_sl, h_al] <;> omega) | fail) only [WW, WH, ↓reduceIte, Nat.reduceEqDiff, Nat.reduceLT, Nat.reduceLeDiff, Nat.reduceAdd, Nat.reduceSub, Nat.reduceMul, Nat.reduceBEq, reduceCtorEq, if_false, if_true, L_law16_ReplyBack, hy11, encReplyV]
    obtain ⟨r14, hy12, h⟩ := bnd' h
    refine UK_e (as' := [(.agg [(.int .i64 r1.code), (.sl .n 1 (ml AV.str r1.lines))])]) (h := reply_Right_ok (r1 := r1) (F := F)  hy12) (hw := WL.cons (Wx.agg (W1L.same (W1L.same (W1L.nil)))) (WL.nil)) (hh := WxH.refl _) ?_
    simp (disch := first | assumption | omega | (simp only [h_sl, h_al] <;> omega) | fail) only [WW, WH, ↓reduceIte, Nat.reduceEqDiff, Nat.reduceLT, Nat.reduceLeDiff, Nat.reduceAdd, Nat.reduceSub, Nat.reduceMul, Nat.reduceBEq, reduceCtorEq, if_false, if_true, L_law16_ReplyBack, encReplyV]
    obtain ⟨r15, hy13, h⟩ := bnd' h
    refine UK_e (as' := [(.agg [(.int .i64 r1.code), (.sl .n 1 (ml AV.str r1.lines))])]) (h := law16_Of_ok (r1 := r1)  hy13) (hw := WL.cons (Wx.agg (W1L.same (W1L.same (W1L.nil)))) (WL.nil)) (hh := WxH.refl _) ?_
    simp (disch := first | assumption | omega | (simp only [h_sl, h_al] <;> omega) | fail) only [WW, WH, ↓reduceIte, Nat.reduceEqDiff, Nat.reduceLT, Nat.reduceLeDiff, Nat.reduceAdd, Nat.reduceSub, Nat.reduceMul, Nat.reduceBEq, reduceCtorEq, if_false, if_true, L_law16_ReplyBack, encReplyV]
    obtain ⟨r16, hy14, h⟩ := bnd' h
    refine UK_e (as' := [(.agg [(.int .i64 r15.code), (.sl .n 1 (ml AV.str r15.lines))])]) (h := ref16_Right_ok (r1 := r15) (F := F)  hy14) (hw := WL.cons (Wx.agg (W1L.same (W1L.same (W1L.nil)))) (WL.nil)) (hh := WxH.refl _) ?_
    simp (disch := first | assumption | omega | (simp only [h_sl, h_al] <;> omega) | fail) only [WW, WH, ↓reduceIte, Nat.reduceEqDiff, Nat.reduceLT, Nat.reduceLeDiff, Nat.reduceAdd, Nat.reduceSub, Nat.reduceMul, Nat.reduceBEq, reduceCtorEq, if_false, if_true, L_law16_ReplyBack, encReplyV]
    rcases ifb h with ⟨hy15, h⟩ | ⟨hy15, h⟩
    · refine UG_nf hy15 ?_
      simp (disch := first | assumption | omega | (simp only [h_sl, h_al] <;> omega) | fail) only [WW, WH, ↓reduceIte, Nat.reduceEqDiff, Nat.reduceLT, Nat.reduceLeDiff, Nat.reduceAdd, Nat.reduceSub, Nat.reduceMul, Nat.reduceBEq, reduceCtorEq, if_false, if_true, L_law16_ReplyBack, hy15, encReplyV]
      have hq := Option.some.inj h; subst hq
      refine hK _ _ _ _ _ ?_ (WxH.refl _) (kn _ hfr)
      exact WE.cons (Wx.ep) (WE.cons (Wx.nn) (WE.cons (Wx.bool) (WE.nil)))
    · refine UG_go hy15 ?_
      simp (disch := first | assumption | omega | (simp only [h_sl, h_al] <;> omega) | fail) only [WW, WH, ↓reduceIte, Nat.reduceEqDiff, Nat.reduceLT, Nat.reduceLeDiff, Nat.reduceAdd, Nat.reduceSub, Nat.reduceMul, Nat.reduceBEq, reduceCtorEq, if_false, if_true, L_law16_ReplyBack, hy15, encReplyV]
      obtain ⟨r17, hy16, h⟩ := bnd' h
      refine UK_e (as' := [(.agg [(.int .i64 r1.code), (.sl .n 1 (ml AV.str r1.lines))]), (.agg [(.int .i64 o2.code), (.sl .n 1 (ml AV.str o2.lines))])]) (h := reply_Same_ok (a1 := r1) (b2 := o2) (F := F)  hy16) (hw := WL.cons (Wx.agg (W1L.same (W1L.same (W1L.nil)))) (WL.cons (Wx.agg (W1L.same (W1L.same (W1L.nil)))) (WL.nil))) (hh := WxH.refl _) ?_
      simp (disch := first | assumption | omega | (simp only [h_sl, h_al] <;> omega) | fail) only [WW, WH, ↓reduceIte, Nat.reduceEqDiff, Nat.reduceLT, Nat.reduceLeDiff, Nat.reduceAdd, Nat.reduceSub, Nat.reduceMul, Nat.reduceBEq, reduceCtorEq, if_false, if_true, L_law16_ReplyBack, encReplyV]
      obtain ⟨r18, hy17, h⟩ := bnd' h
      refine UK_e (as' := [(.agg [(.int .i64 r1.code), (.sl .n 1 (ml AV.str r1.lines))])]) (h := law16_Of_ok (r1 := r1)  hy17) (hw := WL.cons (Wx.agg (W1L.same (W1L.same (W1L.nil)))) (WL.nil)) (hh := WxH.refl _) ?_
      simp (disch := first | assumption | omega | (simp only [h_sl, h_al] <;> omega) | fail) only [WW, WH, ↓reduceIte, Nat.reduceEqDiff, Nat.reduceLT, Nat.reduceLeDiff, Nat.reduceAdd, Nat.reduceSub, Nat.reduceMul, Nat.reduceBEq, reduceCtorEq, if_false, if_true, L_law16_ReplyBack, encReplyV]
      obtain ⟨r19, hy18, h⟩ := bnd' h
      refine UK_e (as' := [(.agg [(.int .i64 o2.code), (.sl .n 1 (ml AV.str o2.lines))])]) (h := law16_Of_ok (r1 := o2)  hy18) (hw := WL.cons (Wx.agg (W1L.same (W1L.same (W1L.nil)))) (WL.nil)) (hh := WxH.refl _) ?_
      simp (disch := first | assumption | omega | (simp only [h_sl, h_al] <;> omega) | fail) only [WW, WH, ↓reduceIte, Nat.reduceEqDiff, Nat.reduceLT, Nat.reduceLeDiff, Nat.reduceAdd, Nat.reduceSub, Nat.reduceMul, Nat.reduceBEq, reduceCtorEq, if_false, if_true, L_law16_ReplyBack, encReplyV]
      obtain ⟨r20, hy19, h⟩ := bnd' h
      refine UK_e (as' := [(.agg [(.int .i64 r18.code), (.sl .n 1 (ml AV.str r18.lines))]), (.agg [(.int .i64 r19.code), (.sl .n 1 (ml AV.str r19.lines))])]) (h := ref16_Same_ok (a1 := r18) (b2 := r19) (F := F)  hy19) (hw := WL.cons (Wx.agg (W1L.same (W1L.same (W1L.nil)))) (WL.cons (Wx.agg (W1L.same (W1L.same (W1L.nil)))) (WL.nil))) (hh := WxH.refl _) ?_
      simp (disch := first | assumption | omega | (simp only [h_sl, h_al] <;> omega) | fail) only [WW, WH, ↓reduceIte, Nat.reduceEqDiff, Nat.reduceLT, Nat.reduceLeDiff, Nat.reduceAdd, Nat.reduceSub, Nat.reduceMul, Nat.reduceBEq, reduceCtorEq, if_false, if_true, L_law16_ReplyBack, encReplyV]
      rcases ifb h with ⟨hy20, h⟩ | ⟨hy20, h⟩
      · refine UG_nf hy20 ?_
        simp (disch := first | assumption | omega | (simp only [h_sl, h_al] <;> omega) | fail) only [WW, WH, ↓reduceIte, Nat.reduceEqDiff, Nat.reduceLT, Nat.reduceLeDiff, Nat.reduceAdd, Nat.reduceSub, Nat.reduceMul, Nat.reduceBEq, reduceCtorEq, if_false, if_true, L_law16_ReplyBack, hy20, encReplyV]
        have hq := Option.some.inj h; subst hq
        refine hK _ _ _ _ _ ?_ (WxH.refl _) (kn _ hfr)
        exact WE.cons (Wx.ep) (WE.cons (Wx.nn) (WE.cons (Wx.bool) (WE.nil)))
      · refine UG_go hy20 ?_
        simp (disch := first | assumption | omega | (simp only [h_sl, h_al] <;> omega) | fail) only [WW, WH, ↓reduceIte, Nat.reduceEqDiff, Nat.reduceLT, Nat.reduceLeDiff, Nat.reduceAdd, Nat.reduceSub, Nat.reduceMul, Nat.reduceBEq, reduceCtorEq, if_false, if_true, L_law16_ReplyBack, hy20, encReplyV]
        obtain ⟨r21, hy21, h⟩ := bnd' h
        refine UK_e (as' := [(.int .i64 code3)]) (h := reply_Class_ok (code1 := code3)  hy21) (hw := WL.cons (Wx.int) (WL.nil)) (hh := WxH.refl _) ?_
        simp (disch := first | assumption | omega | (simp only [h_sl, h_al] <;> omega) | fail) only [WW, WH, ↓reduceIte, Nat.reduceEqDiff, Nat.reduceLT, Nat.reduceLeDiff, Nat.reduceAdd, Nat.reduceSub, Nat.reduceMul, Nat.reduceBEq, reduceCtorEq, if_false, if_true, L_law16_ReplyBack, encReplyV]
        obtain ⟨r22, hy22, h⟩ := bnd' h
        refine UK_e (as' := [(.int .i64 code3)]) (h := ref16_Class_ok (code1 := code3)  hy22) (hw := WL.cons (Wx.int) (WL.nil)) (hh := WxH.refl _) ?_
        simp (disch := first | assumption | omega | (simp only [h_sl, h_al] <;> omega) | fail) only [WW, WH, ↓reduceIte, Nat.reduceEqDiff, Nat.reduceLT, Nat.reduceLeDiff, Nat.reduceAdd, Nat.reduceSub, Nat.reduceMul, Nat.reduceBEq, reduceCtorEq, if_false, if_true, L_law16_ReplyBack, encReplyV]
        have hq := Option.some.inj h; subst hq
        refine hK _ _ _ _ _ ?_ (WxH.refl _) (kn _ hfr)
        exact WE.cons (Wx.ep) (WE.cons (Wx.nn) (WE.cons (Wx.bool) (WE.nil)))
set_option maxHeartbeats 2000000 in
theorem law16_ReplyBack_p3_ok {F : Nat} {r28 : Int} {r27 : ReplyV} {r1 : ReplyV} {q29 : Nat} {H0 H : AH} (hfr : Fr H0 H0.length [] H) (hs_o3 : H[q29]? = some [(.int .i64 r27.code), (.sl .n 1 (ml AV.str r27.lines))]) (hi0 : H0.length ≤ q29) {K : Exit → Env → AH → Prop} {t31 : Bool}
    (h : law16_ReplyBack_p3 F r28 r27 r1 = some t31)
    (kn : ∀ H' : AH, Fr H0 H0.length [] H' → H'[q29]? = some [(.int .i64 r27.code), (.sl .n 1 (ml AV.str r27.lines))] → K .normal [(6, (.bool t31))] H') :
    AX Tryd.prog L_law16_ReplyBack 74 H0.length c_law16_ReplyBack_p3 K [(3, (.ep (.agg [(.int .i64 r1.code), (.sl .n 1 (ml AV.str r1.lines))]) 0)), (8, (.ptr q29 0)), (9, (.int .i64 r28))] H := by
  refine AX.go (m := m_law16_ReplyBack_p3) rfl (by decide) fun K' hK => ?_
  have hle := hfr.le
  have hl_o3 := h_lt hs_o3
  rw [law16_ReplyBack_p3.eq_1] at h
  simp (disch := first | assumption | omega | (simp only [h_sl, h_al] <;> omega) | fail) only [WW, WH, ↓reduceIte, Nat.reduceEqDiff, Nat.reduceLT, Nat.reduceLeDiff, Nat.reduceAdd, Nat.reduceSub, Nat.reduceMul, Nat.reduceBEq, reduceCtorEq, if_false, if_true, L_law16_ReplyBack, m_law16_ReplyBack_p3, c_law16_ReplyBack_p3, hs_o3, encReplyV]
  rcases ifb h with ⟨hy29, h⟩ | ⟨hy29, h⟩
  · refine UG_go hy29 ?_
    simp (disch := first | assumption | omega | (simp only [h_sl, h_al] <;> omega) | fail) only [WW, WH, ↓reduceIte, Nat.reduceEqDiff, Nat.reduceLT, Nat.reduceLeDiff, Nat.reduceAdd, Nat.reduceSub, Nat.reduceMul, Nat.reduceBEq, reduceCtorEq, if_false, if_true, L_law16_ReplyBack, hy29, hs_o3, encReplyV]
    obtain ⟨r30, hy30, h⟩ := bnd' h
    refine UK_e (as' := [(.agg [(.int .i64 r27.code), (.sl .n 1 (ml AV.str r27.lines))]), (.agg [(.int .i64 r1.code), (.sl .n 1 (ml AV.str r1.lines))])]) (h := reply_Same_ok (a1 := r27) (b2 := r1) (F := F)  hy30) (hw := WL.cons (Wx.agg (W1L.same (W1L.same (W1L.nil)))) (WL.cons (Wx.agg (W1L.same (W1L.same (W1L.nil)))) (WL.nil))) (hh := WxH.refl _) ?_
    simp (disch := first | assumption | omega | (simp only [h_sl, h_al] <;> omega) | fail) only [WW, WH, ↓reduceIte, Nat.reduceEqDiff, Nat.reduceLT, Nat.reduceLeDiff, Nat.reduceAdd, Nat.reduceSub, Nat.reduceMul, Nat.reduceBEq, reduceCtorEq, if_false, if_true, L_law16_ReplyBack, hs_o3, encReplyV]
    have hq := Option.some.inj h; subst hq
    refine hK _ _ _ _ _ ?_ (WxH.refl _) (kn _ hfr ((hs_o3).trans rfl))
    exact WE.cons (Wx.bool) (WE.nil)
  · refine UG_nt hy29 ?_
    simp (disch := first | assumption | omega | (simp only [h_sl, h_al] <;> omega) | fail) only [WW, WH, ↓reduceIte, Nat.reduceEqDiff, Nat.reduceLT, Nat.reduceLeDiff, Nat.reduceAdd, Nat.reduceSub, Nat.reduceMul, Nat.reduceBEq, reduceCtorEq, if_false, if_true, L_law16_ReplyBack, hy29, hs_o3, encReplyV]
    have hq := Option.some.inj h; subst hq
    refine hK _ _ _ _ _ ?_ (WxH.refl _) (kn _ hfr ((hs_o3).trans rfl))
    exact WE.cons (Wx.bool) (WE.nil)
set_option maxHeartbeats 2000000 in
theorem law16_ReplyBack_ok {F : Nat} {r1 : ReplyV} {o2 : ReplyV} {code3 : Int}  {H0 : AH}  {rz0 : Bool} (h : law16_ReplyBack F r1 o2 code3 = some rz0) :
    ACalls Tryd.prog 5 [(.agg [(.int .i64 r1.code), (.sl .n 1 (ml AV.str r1.lines))]), (.agg [(.int .i64 o2.code), (.sl .n 1 (ml AV.str o2.lines))]), (.int .i64 code3)] H0 fun v H' => v = (.bool rz0) ∧ H' = H0 := by
  refine ACalls.goX k_law16_ReplyBack (m := m_law16_ReplyBack) rfl L_law16_ReplyBack (by decide) (by simp) fun hcl K0 hK0 => ?_
  refine AX.of_U (m := m_law16_ReplyBack) rfl (by decide) ?_
  have hfr := Fr.refl H0 []
  have hle := hfr.le
  rw [law16_ReplyBack.eq_1] at h
  obtain ⟨H, hHH⟩ : ∃ H, H = H0 := ⟨_, rfl⟩
  have hfr : Fr H0 H0.length [] H := hHH ▸ hfr
  have hle := hfr.le
  suffices hU : U Tryd.prog L_law16_ReplyBack 74 H0.length [.code m_law16_ReplyBack] K0 .normal (argE 0 [(.agg [(.int .i64 r1.code), (.sl .n 1 (ml AV.str r1.lines))]), (.agg [(.int .i64 o2.code), (.sl .n 1 (ml AV.str o2.lines))]), (.int .i64 code3)]) H by rwa [hHH] at hU
  simp (disch := first | assumption | omega | (simp only [h_sl, h_al] <;> omega) | fail) only [WW, WH, ↓reduceIte, Nat.reduceEqDiff, Nat.reduceLT, Nat.reduceLeDiff, Nat.reduceAdd, Nat.reduceSub, Nat.reduceMul, Nat.reduceBEq, reduceCtorEq, if_false, if_true, L_law16_ReplyBack, m_law16_ReplyBack, encReplyV]
  obtain ⟨r4, hy1, h⟩ := bnd' h
  refine UK_e (as' := []) (h := law16_known_ok  (F := F)  hy1) (hw := WL.nil) (hh := WxH.refl _) ?_
  simp (disch := first | assumption | omega | (simp only [h_sl, h_al] <;> omega) | fail) only [WW, WH, ↓reduceIte, Nat.reduceEqDiff, Nat.reduceLT, Nat.reduceLeDiff, Nat.reduceAdd, Nat.reduceSub, Nat.reduceMul, Nat.reduceBEq, reduceCtorEq, if_false, if_true, L_law16_ReplyBack, encReplyV]
  rcases ifb h with ⟨hy2, h⟩ | ⟨hy2, h⟩
  · refine UC_t hy2 ?_
    simp (disch := first | assumption | omega | (simp only [h_sl, h_al] <;> omega) | fail) only [WW, WH, ↓reduceIte, Nat.reduceEqDiff, Nat.reduceLT, Nat.reduceLeDiff, Nat.reduceAdd, Nat.reduceSub, Nat.reduceMul, Nat.reduceBEq, reduceCtorEq, if_false, if_true, L_law16_ReplyBack, encReplyV]
    have hq := Option.some.inj h; subst hq
    refine hK0 _ _ _ (.inr rfl) ?_
    exact fn_end0 (by exact (Fr.app (Fr.app hfr))) hcl (resv_tmp (a := (.bool false)) rfl rfl resv_nil) (by simp [fin, AV.df, AV.sh, AV.sh1, b_df, b_sh, b_sh1, b_Cl]) (Wx.bool) (r' := (.bool false)) ⟨rfl, rfl⟩
  · refine UC_f hy2 ?_
    simp (disch := first | assumption | omega | (simp only [h_sl, h_al] <;> omega) | fail) only [WW, WH, ↓reduceIte, Nat.reduceEqDiff, Nat.reduceLT, Nat.reduceLeDiff, Nat.reduceAdd, Nat.reduceSub, Nat.reduceMul, Nat.reduceBEq, reduceCtorEq, if_false, if_true, L_law16_ReplyBack, encReplyV]
    obtain ⟨q6, hg_q6⟩ : ∃ q : Nat, (H.length + 1) = q := ⟨_, rfl⟩
    try rw [hg_q6]
    obtain ⟨q5, hg_q5⟩ : ∃ q : Nat, H.length = q := ⟨_, rfl⟩
    try rw [hg_q5]
    obtain ⟨t10, hy6, h⟩ := bnd' h
    refine UX_of (AX.weak ?_ (WxH.refl _) (law16_ReplyBack_p1_ok (F := F) (r1 := r1) (o2 := o2) (code3 := code3) (t9 := t10) (q5 := q5) (q6 := q6) ((Fr.app (Fr.app hfr))) (((h_app (by first | assumption | omega | (simp only [h_sl, h_al] <;> omega) | fail)).trans (h_new' (by first | assumption | omega | (simp only [h_sl, h_al] <;> omega) | fail))).trans rfl) ((h_new' (by first | assumption | omega | (simp only [h_sl, h_al] <;> omega) | fail)).trans rfl) (by first | assumption | omega | (simp only [h_sl, h_al] <;> omega) | fail) (by first | assumption | omega | (simp only [h_sl, h_al] <;> omega) | fail) (by first | assumption | omega | (simp only [h_sl, h_al] <;> omega) | fail) hy6 ?_))
    · exact WE.cons (Wx.int) (WE.cons (Wx.ptr) (WE.cons (Wx.ptr) (WE.nil)))
    intro H hfr hs_o1 hs_o2
    have hle := hfr.le
    have hl_o1 := h_lt hs_o1
    have hl_o2 := h_lt hs_o2
    simp (disch := first | assumption | omega | (simp only [h_sl, h_al] <;> omega) | fail) only [WW, WH, ↓reduceIte, Nat.reduceEqDiff, Nat.reduceLT, Nat.reduceLeDiff, Nat.reduceAdd, Nat.reduceSub, Nat.reduceMul, Nat.reduceBEq, reduceCtorEq, if_false, if_true, L_law16_ReplyBack, hs_o1, hs_o2, encReplyV]
    rcases ifb h with ⟨hy7, h⟩ | ⟨hy7, h⟩
    · refine UC_t hy7 ?_
      simp (disch := first | assumption | omega | (simp only [h_sl, h_al] <;> omega) | fail) only [WW, WH, ↓reduceIte, Nat.reduceEqDiff, Nat.reduceLT, Nat.reduceLeDiff, Nat.reduceAdd, Nat.reduceSub, Nat.reduceMul, Nat.reduceBEq, reduceCtorEq, if_false, if_true, L_law16_ReplyBack, hs_o1, hs_o2, encReplyV]
      have hq := Option.some.inj h; subst hq
      refine hK0 _ _ _ (.inr rfl) ?_
      exact fn_end0 (by exact hfr) hcl (resv_tmp (a := (.bool true)) rfl rfl resv_nil) (by simp [fin, AV.df, AV.sh, AV.sh1, b_df, b_sh, b_sh1, b_Cl]) (Wx.bool) (r' := (.bool true)) ⟨rfl, rfl⟩
    · refine UC_f hy7 ?_
      simp (disch := first | assumption | omega | (simp only [h_sl, h_al] <;> omega) | fail) only [WW, WH, ↓reduceIte, Nat.reduceEqDiff, Nat.reduceLT, Nat.reduceLeDiff, Nat.reduceAdd, Nat.reduceSub, Nat.reduceMul, Nat.reduceBEq, reduceCtorEq, if_false, if_true, L_law16_ReplyBack, hs_o1, hs_o2, encReplyV]
      obtain ⟨r11, hy8, h⟩ := bnd' h
      refine UK_e (as' := [(.agg [(.int .i64 r1.code), (.sl .n 1 (ml AV.str r1.lines))])]) (h := reply_Print_ok (r1 := r1) (F := F)  hy8) (hw := WL.cons (Wx.agg (W1L.same (W1L.same (W1L.nil)))) (WL.nil)) (hh := WxH.refl _) ?_
      simp (disch := first | assumption | omega | (simp only [h_sl, h_al] <;> omega) | fail) only [WW, WH, ↓reduceIte, Nat.reduceEqDiff, Nat.reduceLT, Nat.reduceLeDiff, Nat.reduceAdd, Nat.reduceSub, Nat.reduceMul, Nat.reduceBEq, reduceCtorEq, if_false, if_true, L_law16_ReplyBack, hs_o1, hs_o2, encReplyV]
      refine UX_of ?_
      apply AX.freeze (s := q5) (cs := [(.int .i64 r1.code), (.sl .n 1 (ml AV.str r1.lines))]) (by exact ((hs_o1).trans rfl)) (W1L.same (W1L.same (W1L.nil))) (by simp) rfl
      · repeat (first | exact FZ.nil | apply FZ.ep | apply FZ.same)
      apply AX.freeze (s := q6) (cs := [(.int .i64 o2.code), (.sl .n 1 (ml AV.str o2.lines))]) (by exact (((h_ne (by first | assumption | omega | (simp only [h_sl, h_al] <;> omega) | fail)).trans (hs_o2)).trans rfl)) (W1L.same (W1L.same (W1L.nil))) (by simp) rfl
      · repeat (first | exact FZ.nil | apply FZ.ep | apply FZ.same)
      obtain ⟨t24, hy23, h⟩ := bnd' h
      refine UX_of (AX.weak ?_ (WxH.refl _) (law16_ReplyBack_p2_ok (F := F) (r1 := r1) (r11 := r11) (o2 := o2) (code3 := code3) (t23 := t24)  ((Fr.set (s := q6) (Fr.set (s := q5) hfr (.inr (by first | assumption | omega | (simp only [h_sl, h_al] <;> omega) | fail))) (.inr (by first | assumption | omega | (simp only [h_sl, h_al] <;> omega) | fail)))) hy23 ?_))
      · exact WE.cons (Wx.int) (WE.cons (Wx.ep) (WE.cons (Wx.ep) (WE.cons (Wx.nn) (WE.nil))))
      intro H hfr
      have hle := hfr.le
      simp (disch := first | assumption | omega | (simp only [h_sl, h_al] <;> omega) | fail) only [WW, WH, ↓reduceIte, Nat.reduceEqDiff, Nat.reduceLT, Nat.reduceLeDiff, Nat.reduceAdd, Nat.reduceSub, Nat.reduceMul, Nat.reduceBEq, reduceCtorEq, if_false, if_true, L_law16_ReplyBack, encReplyV]
      rcases ifb h with ⟨hy24, h⟩ | ⟨hy24, h⟩
      · refine UC_t hy24 ?_
        simp (disch := first | assumption | omega | (simp only [h_sl, h_al] <;> omega) | fail) only [WW, WH, ↓reduceIte, Nat.reduceEqDiff, Nat.reduceLT, Nat.reduceLeDiff, Nat.reduceAdd, Nat.reduceSub, Nat.reduceMul, Nat.reduceBEq, reduceCtorEq, if_false, if_true, L_law16_ReplyBack, encReplyV]
        have hq := Option.some.inj h; subst hq
        refine hK0 _ _ _ (.inr rfl) ?_
        exact fn_end0 (by exact hfr) hcl (resv_tmp (a := (.bool false)) rfl rfl resv_nil) (by simp [fin, AV.df, AV.sh, AV.sh1, b_df, b_sh, b_sh1, b_Cl]) (Wx.bool) (r' := (.bool false)) ⟨rfl, rfl⟩
      · refine UC_f hy24 ?_
        simp (disch := first | assumption | omega | (simp only [h_sl, h_al] <;> omega) | fail) only [WW, WH, ↓reduceIte, Nat.reduceEqDiff, Nat.reduceLT, Nat.reduceLeDiff, Nat.reduceAdd, Nat.reduceSub, Nat.reduceMul, Nat.reduceBEq, reduceCtorEq, if_false, if_true, L_law16_ReplyBack, encReplyV]
        obtain ⟨r25, hy25, h⟩ := bnd' h
        refine UK_e (as' := [(.agg [(.int .i64 r1.code), (.sl .n 1 (ml AV.str r1.lines))])]) (h := law16_Of_ok (r1 := r1)  hy25) (hw := WL.cons (Wx.agg (W1L.same (W1L.same (W1L.nil)))) (WL.nil)) (hh := WxH.refl _) ?_
        simp (disch := first | assumption | omega | (simp only [h_sl, h_al] <;> omega) | fail) only [WW, WH, ↓reduceIte, Nat.reduceEqDiff, Nat.reduceLT, Nat.reduceLeDiff, Nat.reduceAdd, Nat.reduceSub, Nat.reduceMul, Nat.reduceBEq, reduceCtorEq, if_false, if_true, L_law16_ReplyBack, encReplyV]
        obtain ⟨r26, hy26, h⟩ := bnd' h
        refine UK_e (as' := [(.agg [(.int .i64 r25.code), (.sl .n 1 (ml AV.str r25.lines))])]) (h := ref16_Right_ok (r1 := r25) (F := F)  hy26) (hw := WL.cons (Wx.agg (W1L.same (W1L.same (W1L.nil)))) (WL.nil)) (hh := WxH.refl _) ?_
        simp (disch := first | assumption | omega | (simp only [h_sl, h_al] <;> omega) | fail) only [WW, WH, ↓reduceIte, Nat.reduceEqDiff, Nat.reduceLT, Nat.reduceLeDiff, Nat.reduceAdd, Nat.reduceSub, Nat.reduceMul, Nat.reduceBEq, reduceCtorEq, if_false, if_true, L_law16_ReplyBack, encReplyV]
        rcases ifb h with ⟨hy27, h⟩ | ⟨hy27, h⟩
        · refine UC_t hy27 ?_
          simp (disch := first | assumption | omega | (simp only [h_sl, h_al] <;> omega) | fail) only [WW, WH, ↓reduceIte, Nat.reduceEqDiff, Nat.reduceLT, Nat.reduceLeDiff, Nat.reduceAdd, Nat.reduceSub, Nat.reduceMul, Nat.reduceBEq, reduceCtorEq, if_false, if_true, L_law16_ReplyBack, encReplyV]
          have hq := Option.some.inj h; subst hq
          refine hK0 _ _ _ (.inr rfl) ?_
          exact fn_end0 (by exact hfr) hcl (resv_tmp (a := (.bool (decide ((r11.length : Int) = 0)))) rfl rfl resv_nil) (by simp [fin, AV.df, AV.sh, AV.sh1, b_df, b_sh, b_sh1, b_Cl]) (Wx.bool) (r' := (.bool (decide ((r11.length : Int) = 0)))) ⟨rfl, rfl⟩
        · refine UC_f hy27 ?_
          simp (disch := first | assumption | omega | (simp only [h_sl, h_al] <;> omega) | fail) only [WW, WH, ↓reduceIte, Nat.reduceEqDiff, Nat.reduceLT, Nat.reduceLeDiff, Nat.reduceAdd, Nat.reduceSub, Nat.reduceMul, Nat.reduceBEq, reduceCtorEq, if_false, if_true, L_law16_ReplyBack, encReplyV]
          obtain ⟨⟨r27, r28⟩, hy28, h⟩ := bnd' h
          dsimp only at h
          refine UK_e (as' := [(.sl .n 1 (ml b8 r11))]) (h := reply_Parse_ok (b1 := r11) (F := F)  hy28) (hw := WL.cons (Wx.nn) (WL.nil)) (hh := WxH.refl _) ?_
          simp (disch := first | assumption | omega | (simp only [h_sl, h_al] <;> omega) | fail) only [WW, WH, ↓reduceIte, Nat.reduceEqDiff, Nat.reduceLT, Nat.reduceLeDiff, Nat.reduceAdd, Nat.reduceSub, Nat.reduceMul, Nat.reduceBEq, reduceCtorEq, if_false, if_true, L_law16_ReplyBack, encReplyV]
          obtain ⟨q29, hg_q29⟩ : ∃ q : Nat, H.length = q := ⟨_, rfl⟩
          try rw [hg_q29]
          obtain ⟨t32, hy31, h⟩ := bnd' h
          refine UX_of (AX.weak ?_ (WxH.refl _) (law16_ReplyBack_p3_ok (F := F) (r28 := r28) (r27 := r27) (r1 := r1) (t31 := t32) (q29 := q29) ((Fr.set (s := q29) (Fr.app hfr) (.inr (by first | assumption | omega | (simp only [h_sl, h_al] <;> omega) | fail)))) ((h_eq (by first | assumption | omega | (simp only [h_sl, h_al] <;> omega) | fail)).trans rfl) (by first | assumption | omega | (simp only [h_sl, h_al] <;> omega) | fail) hy31 ?_))
          · exact WE.cons (Wx.ep) (WE.cons (Wx.ptr) (WE.cons (Wx.int) (WE.nil)))
          intro H hfr hs_o3
          have hle := hfr.le
          have hl_o3 := h_lt hs_o3
          simp (disch := first | assumption | omega | (simp only [h_sl, h_al] <;> omega) | fail) only [WW, WH, ↓reduceIte, Nat.reduceEqDiff, Nat.reduceLT, Nat.reduceLeDiff, Nat.reduceAdd, Nat.reduceSub, Nat.reduceMul, Nat.reduceBEq, reduceCtorEq, if_false, if_true, L_law16_ReplyBack, hs_o3, encReplyV]
          have hq := Option.some.inj h; subst hq
          refine hK0 _ _ _ (.inr rfl) ?_
          exact fn_end0 (by exact hfr) hcl (resv_tmp (a := (.bool t32)) rfl rfl resv_nil) (by simp [fin, AV.df, AV.sh, AV.sh1, b_df, b_sh, b_sh1, b_Cl]) (Wx.bool) (r' := (.bool t32)) ⟨rfl, rfl⟩

end Go.Proofs.ReplyS
