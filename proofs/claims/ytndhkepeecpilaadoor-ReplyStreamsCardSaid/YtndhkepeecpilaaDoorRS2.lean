import Derived.Test.YtndhkepeecpilaaDoorRS1
set_option linter.unusedSimpArgs false
set_option linter.unusedVariables false
set_option linter.unusedSectionVars false
set_option linter.defProp false
set_option maxRecDepth 100000
namespace Go.Proofs.ReplyS
open Go Go.Am Go.Proofs

/-! ### mailbag/reply.Right -/
def c_reply_Right_p1 : ACode := (.rg [⟨(some 3), (.fld (.t 1) 0), none⟩, ⟨(some 4), (.ld (.t 3) none), none⟩, ⟨(some 5), (.call (.c (.fn 11 [])) [(.t 4)]), none⟩, ⟨(some 6), (.bin .gtr (.t 5) (.c (.int .i64 0))), none⟩, ⟨(some 7), (.mv (.t 6)), none⟩, ⟨(some 8), (.fld (.t 1) 1), (some (7, true))⟩, ⟨(some 9), (.ld (.t 8) none), (some (7, true))⟩, ⟨(some 10), (.len (.t 9)), (some (7, true))⟩, ⟨(some 11), (.bin .geq (.t 10) (.c (.int .i64 1))), (some (7, true))⟩, ⟨(some 12), (.pick (.t 7) (.t 11) (.c (.bool false))), none⟩, ⟨(some 13), (.mv (.t 12)), none⟩, ⟨(some 14), (.fld (.t 1) 1), (some (13, true))⟩, ⟨(some 15), (.ld (.t 14) none), (some (13, true))⟩, ⟨(some 16), (.len (.t 15)), (some (13, true))⟩, ⟨(some 17), (.bin .leq (.t 16) (.c (.int .i64 20))), (some (13, true))⟩, ⟨(some 18), (.pick (.t 13) (.t 17) (.c (.bool false))), none⟩, ⟨(some 19), (.mv (.t 18)), none⟩, ⟨(some 20), (.fld (.t 1) 1), (some (19, true))⟩, ⟨(some 21), (.ld (.t 20) none), (some (19, true))⟩, ⟨(some 22), (.call (.c (.fn 36 [])) [(.t 21), (.c (.fn 37 []))]), (some (19, true))⟩, ⟨(some 23), (.un .not (.t 22)), (some (19, true))⟩, ⟨(some 24), (.pick (.t 19) (.t 23) (.c (.bool false))), none⟩, ⟨(some 2), (.asg (.t 24)), none⟩])
abbrev m_reply_Right_p1 := c_reply_Right_p1
def c_reply_Right : ACode := (.seq (.rg [⟨(some 1), (.box (.t 0)), none⟩, ⟨(some 2), (.asg (.c (.bool false))), none⟩]) (.seq c_reply_Right_p1 .ret))
def m_reply_Right : ACode := (.seq (.rg [⟨(some 1), (.box (.t 0)), none⟩, ⟨(some 2), (.asg (.c (.bool false))), none⟩]) (.seq (.sem c_reply_Right_p1) .ret))
theorem k_reply_Right : FnOk Tryd.prog 24 25 [(.tmp 2)] c_reply_Right := ⟨Tryd.f24, _, rfl, by decide, rfl, by kernel_rfl, rfl, rfl⟩
abbrev L_reply_Right : List Nat := [0, 1, 2]
def reply_Right_p1 (F : Nat) (r1 : ReplyV) : Option (Bool) :=
  (reply_Class r1.code).bind fun r3 =>
  (if (decide (0 < r3)) then
    (if (decide (1 ≤ (r1.lines.length : Int))) then
      (if (decide ((r1.lines.length : Int) ≤ 20)) then
        (slices_ContainsFunc_s F r1.lines).bind fun r4 => some (!r4)
      else
        some false)
    else
      some false)
  else
    some false)
def reply_Right (F : Nat) (r1 : ReplyV) : Option (Bool) :=
  (reply_Right_p1 F r1).bind fun t6 =>
  some t6
set_option maxHeartbeats 2000000 in
theorem reply_Right_p1_ok {F : Nat} {r1 : ReplyV} {q2 : Nat} {H0 H : AH} (hfr : Fr H0 H0.length [] H) (hs_o1 : H[q2]? = some [(.int .i64 r1.code), (.sl .n 1 (ml AV.str r1.lines))]) (hi0 : H0.length ≤ q2) {K : Exit → Env → AH → Prop} {t5 : Bool}
    (h : reply_Right_p1 F r1 = some t5)
    (kn : ∀ H' : AH, Fr H0 H0.length [] H' → H'[q2]? = some [(.int .i64 r1.code), (.sl .n 1 (ml AV.str r1.lines))] → K .normal [(2, (.bool t5))] H') :
    AX Tryd.prog L_reply_Right 25 H0.length c_reply_Right_p1 K [(1, (.ptr q2 0)), (2, (.bool false))] H := by
  refine AX.go (m := m_reply_Right_p1) rfl (by decide) fun K' hK => ?_
  have hle := hfr.le
  have hl_o1 := h_lt hs_o1
  rw [reply_Right_p1.eq_1] at h
  simp (disch := first | assumption | omega | (simp only [h_sl, h_al] <;> omega) | fail) only [WW, WH, ↓reduceIte, Nat.reduceEqDiff, Nat.reduceLT, Nat.reduceLeDiff, Nat.reduceAdd, Nat.reduceSub, Nat.reduceMul, Nat.reduceBEq, reduceCtorEq, if_false, if_true, L_reply_Right, m_reply_Right_p1, c_reply_Right_p1, hs_o1, encReplyV]
  obtain ⟨r3, hy1, h⟩ := bnd' h
  refine UK_e (as' := [(.int .i64 r1.code)]) (h := reply_Class_ok (code1 := r1.code)  hy1) (hw := WL.cons (Wx.int) (WL.nil)) (hh := WxH.refl _) ?_
  simp (disch := first | assumption | omega | (simp only [h_sl, h_al] <;> omega) | fail) only [WW, WH, ↓reduceIte, Nat.reduceEqDiff, Nat.reduceLT, Nat.reduceLeDiff, Nat.reduceAdd, Nat.reduceSub, Nat.reduceMul, Nat.reduceBEq, reduceCtorEq, if_false, if_true, L_reply_Right, hs_o1, encReplyV]
  rcases ifb h with ⟨hy2, h⟩ | ⟨hy2, h⟩
  · refine UG_go hy2 ?_
    simp (disch := first | assumption | omega | (simp only [h_sl, h_al] <;> omega) | fail) only [WW, WH, ↓reduceIte, Nat.reduceEqDiff, Nat.reduceLT, Nat.reduceLeDiff, Nat.reduceAdd, Nat.reduceSub, Nat.reduceMul, Nat.reduceBEq, reduceCtorEq, if_false, if_true, L_reply_Right, hy2, hs_o1, encReplyV]
    rcases ifb h with ⟨hy3, h⟩ | ⟨hy3, h⟩
    · refine UG_go hy3 ?_
      simp (disch := first | assumption | omega | (simp only [h_sl, h_al] <;> omega) | fail) only [WW, WH, ↓reduceIte, Nat.reduceEqDiff, Nat.reduceLT, Nat.reduceLeDiff, Nat.reduceAdd, Nat.reduceSub, Nat.reduceMul, Nat.reduceBEq, reduceCtorEq, if_false, if_true, L_reply_Right, hy3, hs_o1, encReplyV]
      rcases ifb h with ⟨hy4, h⟩ | ⟨hy4, h⟩
      · refine UG_go hy4 ?_
        simp (disch := first | assumption | omega | (simp only [h_sl, h_al] <;> omega) | fail) only [WW, WH, ↓reduceIte, Nat.reduceEqDiff, Nat.reduceLT, Nat.reduceLeDiff, Nat.reduceAdd, Nat.reduceSub, Nat.reduceMul, Nat.reduceBEq, reduceCtorEq, if_false, if_true, L_reply_Right, hy4, hs_o1, encReplyV]
        obtain ⟨r4, hy5, h⟩ := bnd' h
        refine UK_e (as' := [(.sl .n 1 (ml AV.str r1.lines)), (.fn 37 [])]) (h := slices_ContainsFunc_s_ok (s1 := r1.lines) (F := F)  hy5) (hw := WL.cons (Wx.nn) (WL.cons (Wx.fn) (WL.nil))) (hh := WxH.refl _) ?_
        simp (disch := first | assumption | omega | (simp only [h_sl, h_al] <;> omega) | fail) only [WW, WH, ↓reduceIte, Nat.reduceEqDiff, Nat.reduceLT, Nat.reduceLeDiff, Nat.reduceAdd, Nat.reduceSub, Nat.reduceMul, Nat.reduceBEq, reduceCtorEq, if_false, if_true, L_reply_Right, hs_o1, encReplyV]
        have hq := Option.some.inj h; subst hq
        refine hK _ _ _ _ _ ?_ (WxH.refl _) (kn _ hfr ((hs_o1).trans rfl))
        exact WE.cons (Wx.bool) (WE.nil)
      · refine UG_nt hy4 ?_
        simp (disch := first | assumption | omega | (simp only [h_sl, h_al] <;> omega) | fail) only [WW, WH, ↓reduceIte, Nat.reduceEqDiff, Nat.reduceLT, Nat.reduceLeDiff, Nat.reduceAdd, Nat.reduceSub, Nat.reduceMul, Nat.reduceBEq, reduceCtorEq, if_false, if_true, L_reply_Right, hy4, hs_o1, encReplyV]
        have hq := Option.some.inj h; subst hq
        refine hK _ _ _ _ _ ?_ (WxH.refl _) (kn _ hfr ((hs_o1).trans rfl))
        exact WE.cons (Wx.bool) (WE.nil)
    · refine UG_nt hy3 ?_
      simp (disch := first | assumption | omega | (simp only [h_sl, h_al] <;> omega) | fail) only [WW, WH, ↓reduceIte, Nat.reduceEqDiff, Nat.reduceLT, Nat.reduceLeDiff, Nat.reduceAdd, Nat.reduceSub, Nat.reduceMul, Nat.reduceBEq, reduceCtorEq, if_false, if_true, L_reply_Right, hy3, hs_o1, encReplyV]
      have hq := Option.some.inj h; subst hq
      refine hK _ _ _ _ _ ?_ (WxH.refl _) (kn _ hfr ((hs_o1).trans rfl))
      exact WE.cons (Wx.bool) (WE.nil)
  · refine UG_nt hy2 ?_
    simp (disch := first | assumption | omega | (simp only [h_sl, h_al] <;> omega) | fail) only [WW, WH, ↓reduceIte, Nat.reduceEqDiff, Nat.reduceLT, Nat.reduceLeDiff, Nat.reduceAdd, Nat.reduceSub, Nat.reduceMul, Nat.reduceBEq, reduceCtorEq, if_false, if_true, L_reply_Right, hy2, hs_o1, encReplyV]
    have hq := Option.some.inj h; subst hq
    refine hK _ _ _ _ _ ?_ (WxH.refl _) (kn _ hfr ((hs_o1).trans rfl))
    exact WE.cons (Wx.bool) (WE.nil)
set_option maxHeartbeats 2000000 in
theorem reply_Right_ok {F : Nat} {r1 : ReplyV}  {H0 : AH}  {rz0 : Bool} (h : reply_Right F r1 = some rz0) :
    ACalls Tryd.prog 24 [(.agg [(.int .i64 r1.code), (.sl .n 1 (ml AV.str r1.lines))])] H0 fun v H' => v = (.bool rz0) ∧ H' = H0 := by
  refine ACalls.goX k_reply_Right (m := m_reply_Right) rfl L_reply_Right (by decide) (by simp) fun hcl K0 hK0 => ?_
  refine AX.of_U (m := m_reply_Right) rfl (by decide) ?_
  have hfr := Fr.refl H0 []
  have hle := hfr.le
  rw [reply_Right.eq_1] at h
  obtain ⟨H, hHH⟩ : ∃ H, H = H0 := ⟨_, rfl⟩
  have hfr : Fr H0 H0.length [] H := hHH ▸ hfr
  have hle := hfr.le
  suffices hU : U Tryd.prog L_reply_Right 25 H0.length [.code m_reply_Right] K0 .normal (argE 0 [(.agg [(.int .i64 r1.code), (.sl .n 1 (ml AV.str r1.lines))])]) H by rwa [hHH] at hU
  simp (disch := first | assumption | omega | (simp only [h_sl, h_al] <;> omega) | fail) only [WW, WH, ↓reduceIte, Nat.reduceEqDiff, Nat.reduceLT, Nat.reduceLeDiff, Nat.reduceAdd, Nat.reduceSub, Nat.reduceMul, Nat.reduceBEq, reduceCtorEq, if_false, if_true, L_reply_Right, m_reply_Right, encReplyV]
  obtain ⟨q2, hg_q2⟩ : ∃ q : Nat, H.length = q := ⟨_, rfl⟩
  try rw [hg_q2]
  obtain ⟨t6, hy6, h⟩ := bnd' h
  refine UX_of (AX.weak ?_ (WxH.refl _) (reply_Right_p1_ok (F := F) (r1 := r1) (t5 := t6) (q2 := q2) ((Fr.app hfr)) ((h_new' (by first | assumption | omega | (simp only [h_sl, h_al] <;> omega) | fail)).trans rfl) (by first | assumption | omega | (simp only [h_sl, h_al] <;> omega) | fail) hy6 ?_))
  · exact WE.cons (Wx.ptr) (WE.cons (Wx.bool) (WE.nil))
  intro H hfr hs_o1
  have hle := hfr.le
  have hl_o1 := h_lt hs_o1
  simp (disch := first | assumption | omega | (simp only [h_sl, h_al] <;> omega) | fail) only [WW, WH, ↓reduceIte, Nat.reduceEqDiff, Nat.reduceLT, Nat.reduceLeDiff, Nat.reduceAdd, Nat.reduceSub, Nat.reduceMul, Nat.reduceBEq, reduceCtorEq, if_false, if_true, L_reply_Right, hs_o1, encReplyV]
  have hq := Option.some.inj h; subst hq
  refine hK0 _ _ _ (.inr rfl) ?_
  exact fn_end0 (by exact hfr) hcl (resv_tmp (a := (.bool t6)) rfl rfl resv_nil) (by simp [fin, AV.df, AV.sh, AV.sh1, b_df, b_sh, b_sh1, b_Cl]) (Wx.bool) (r' := (.bool t6)) ⟨rfl, rfl⟩

/-! ### mailbag/reply.Print -/
def c_reply_Print_p1 : ACode := (.cond (.t 23) (.rg [⟨(some 6), (.asg (.c (.str [32]))), none⟩]) .skip)
abbrev m_reply_Print_p1 := c_reply_Print_p1
def c_reply_Print_l1b : ACode := (.seq (.rg [⟨(some 14), (.bin .lss (.t 13) (.t 12)), none⟩]) (.seq (.cond (.t 14) .skip (.exit 0)) (.seq (.blk 1 (.seq (.rg [⟨(some 15), (.mv (.t 13)), none⟩, ⟨(some 16), (.ixa 1 (.t 11) (.t 13)), none⟩, ⟨(some 17), (.ld (.t 16) none), none⟩, ⟨(some 4), (.asg (.t 15)), none⟩, ⟨(some 5), (.asg (.t 17)), none⟩]) (.seq (.rg [⟨(some 6), (.asg (.c (.str [45]))), none⟩]) (.seq (.seq (.rg [⟨(some 18), (.mv (.t 4)), none⟩, ⟨(some 19), (.fld (.t 1) 1), none⟩, ⟨(some 20), (.ld (.t 19) none), none⟩, ⟨(some 21), (.len (.t 20)), none⟩, ⟨(some 22), (.bin .sub (.t 21) (.c (.int .i64 1))), none⟩, ⟨(some 23), (.bin .eql (.t 18) (.t 22)), none⟩]) c_reply_Print_p1) (.rg [⟨(some 24), (.mv (.t 3)), none⟩, ⟨(some 25), (.fld (.t 1) 0), none⟩, ⟨(some 26), (.ld (.t 25) none), none⟩, ⟨(some 27), (.call (.c (.fn 35 [])) [(.t 26)]), none⟩, ⟨(some 28), (.mv (.t 6)), none⟩, ⟨(some 29), (.bin .add (.t 27) (.t 28)), none⟩, ⟨(some 30), (.mv (.t 5)), none⟩, ⟨(some 31), (.bin .add (.t 29) (.t 30)), none⟩, ⟨(some 32), (.bin .add (.t 31) (.c (.str [13, 10]))), none⟩, ⟨(some 33), (.apps 1 (.t 24) (.t 32)), none⟩, ⟨(some 3), (.asg (.t 33)), none⟩]))))) (.rg [⟨(some 34), (.bin .add (.t 13) (.c (.int .i64 1))), none⟩, ⟨(some 13), (.mv (.t 34)), none⟩]))))
def c_reply_Print_l1 : ACode := (.loop c_reply_Print_l1b)
def m_reply_Print_l1b : ACode := (.seq (.rg [⟨(some 14), (.bin .lss (.t 13) (.t 12)), none⟩]) (.seq (.cond (.t 14) .skip (.exit 0)) (.seq (.blk 1 (.seq (.rg [⟨(some 15), (.mv (.t 13)), none⟩, ⟨(some 16), (.ixa 1 (.t 11) (.t 13)), none⟩, ⟨(some 17), (.ld (.t 16) none), none⟩, ⟨(some 4), (.asg (.t 15)), none⟩, ⟨(some 5), (.asg (.t 17)), none⟩]) (.seq (.rg [⟨(some 6), (.asg (.c (.str [45]))), none⟩]) (.seq (.seq (.rg [⟨(some 18), (.mv (.t 4)), none⟩, ⟨(some 19), (.fld (.t 1) 1), none⟩, ⟨(some 20), (.ld (.t 19) none), none⟩, ⟨(some 21), (.len (.t 20)), none⟩, ⟨(some 22), (.bin .sub (.t 21) (.c (.int .i64 1))), none⟩, ⟨(some 23), (.bin .eql (.t 18) (.t 22)), none⟩]) (.sem c_reply_Print_p1)) (.rg [⟨(some 24), (.mv (.t 3)), none⟩, ⟨(some 25), (.fld (.t 1) 0), none⟩, ⟨(some 26), (.ld (.t 25) none), none⟩, ⟨(some 27), (.call (.c (.fn 35 [])) [(.t 26)]), none⟩, ⟨(some 28), (.mv (.t 6)), none⟩, ⟨(some 29), (.bin .add (.t 27) (.t 28)), none⟩, ⟨(some 30), (.mv (.t 5)), none⟩, ⟨(some 31), (.bin .add (.t 29) (.t 30)), none⟩, ⟨(some 32), (.bin .add (.t 31) (.c (.str [13, 10]))), none⟩, ⟨(some 33), (.apps 1 (.t 24) (.t 32)), none⟩, ⟨(some 3), (.asg (.t 33)), none⟩]))))) (.rg [⟨(some 34), (.bin .add (.t 13) (.c (.int .i64 1))), none⟩, ⟨(some 13), (.mv (.t 34)), none⟩]))))
def c_reply_Print : ACode := (.seq (.rg [⟨(some 1), (.box (.t 0)), none⟩, ⟨(some 2), (.asg (.c (.sl .ex 1 []))), none⟩]) (.seq (.seq (.rg [⟨(some 7), (.ld (.t 1) (some 2)), none⟩, ⟨(some 8), (.call (.c (.fn 24 [])) [(.t 7)]), none⟩, ⟨(some 9), (.un .not (.t 8)), none⟩]) (.cond (.t 9) (.seq (.rg [⟨(some 2), (.asg (.c (.sl .ex 1 []))), none⟩]) .ret) .skip)) (.seq (.rg [⟨(some 3), (.asg (.c (.sl .ex 1 []))), none⟩]) (.seq (.seq (.rg [⟨(some 10), (.fld (.t 1) 1), none⟩, ⟨(some 11), (.ld (.t 10) none), none⟩, ⟨(some 12), (.len (.t 11)), none⟩, ⟨(some 13), (.mv (.c (.int .i64 0))), none⟩]) (.blk 0 c_reply_Print_l1)) (.seq (.rg [⟨(some 35), (.mv (.t 3)), none⟩, ⟨(some 2), (.asg (.t 35)), none⟩]) .ret)))))
abbrev m_reply_Print := c_reply_Print
theorem k_reply_Print : FnOk Tryd.prog 22 36 [(.tmp 2)] c_reply_Print := ⟨Tryd.f22, _, rfl, by decide, rfl, by kernel_rfl, rfl, rfl⟩
abbrev L_reply_Print : List Nat := [0, 1, 2, 3, 4, 5, 6, 9, 11, 12, 13, 14, 23]
def reply_Print_p1 (t5 : Int) (r1 : ReplyV) : Option ((List UInt8)) :=
  (if (decide (t5 = (IntKind.wrap .i64 ((r1.lines.length : Int) - 1)))) then
    some ([32] : List UInt8)
  else
    some ([45] : List UInt8))
def reply_Print_l1 (r1 : ReplyV) : ((List UInt8) × Int) → Option (St (List UInt8) (List UInt8) ((List UInt8) × Int))
  | (out4, t5) =>
    (if (decide (t5 < (r1.lines.length : Int))) then
      (idx r1.lines t5).bind fun x6 =>
      (reply_Print_p1 t5 r1).bind fun mark9 =>
      (strconv_Itoa r1.code).bind fun r10 =>
      (cat r10 mark9).bind fun x11 =>
      (cat x11 x6).bind fun x12 =>
      (cat x12 ([13, 10] : List UInt8)).bind fun x13 =>
      (capp 1 out4 x13).bind fun x14 => some (.nxt (x14, (IntKind.wrap .i64 (t5 + 1))))
    else
      some (.brk out4))
def reply_Print (F : Nat) (r1 : ReplyV) : Option ((List UInt8)) :=
  (reply_Right F r1).bind fun r2 =>
  (if (!r2) then
    some ([] : List UInt8)
  else
    ((iter (reply_Print_l1 r1) F (([] : List UInt8), 0)).bind fun o17 =>
    match o17 with
    | .inr out16 =>
      some out16
    | .inl _ => none))
set_option maxHeartbeats 2000000 in
theorem reply_Print_p1_ok {t5 : Int} {r1 : ReplyV} {q7 : Nat} {out4 : List UInt8} {x6 : List UInt8} {H0 H : AH} (hfr : Fr H0 H0.length [] H) (hs_o1 : H[q7]? = some [(.int .i64 r1.code), (.sl .n 1 (ml AV.str r1.lines))]) (hi0 : H0.length ≤ q7) {K : Exit → Env → AH → Prop} {mark8 : List UInt8}
    (h : reply_Print_p1 t5 r1 = some mark8)
    (kn : ∀ H' : AH, Fr H0 H0.length [] H' → H'[q7]? = some [(.int .i64 r1.code), (.sl .n 1 (ml AV.str r1.lines))] → K .normal [(1, (.ptr q7 0)), (3, (.sl .own 1 (ml b8 out4))), (5, (.str x6)), (6, (.str mark8)), (11, (.sl .n 1 (ml AV.str r1.lines))), (12, (.int .i64 (r1.lines.length : Int))), (13, (.int .i64 t5))] H') :
    AX Tryd.prog L_reply_Print 36 H0.length c_reply_Print_p1 K [(1, (.ptr q7 0)), (3, (.sl .own 1 (ml b8 out4))), (5, (.str x6)), (6, (.str ([45] : List UInt8))), (11, (.sl .n 1 (ml AV.str r1.lines))), (12, (.int .i64 (r1.lines.length : Int))), (13, (.int .i64 t5)), (23, (.bool (decide (t5 = (IntKind.wrap .i64 ((r1.lines.length : Int) - 1))))))] H := by
  refine AX.go (m := m_reply_Print_p1) rfl (by decide) fun K' hK => ?_
  have hle := hfr.le
  have hl_o1 := h_lt hs_o1
  rw [reply_Print_p1.eq_1] at h
  simp (disch := first | assumption | omega | (simp only [h_sl, h_al] <;> omega) | fail) only [WW, WH, ↓reduceIte, Nat.reduceEqDiff, Nat.reduceLT, Nat.reduceLeDiff, Nat.reduceAdd, Nat.reduceSub, Nat.reduceMul, Nat.reduceBEq, reduceCtorEq, if_false, if_true, L_reply_Print, m_reply_Print_p1, c_reply_Print_p1, hs_o1, encReplyV]
  rcases ifb h with ⟨hy5, h⟩ | ⟨hy5, h⟩
  · refine UC_t hy5 ?_
    simp (disch := first | assumption | omega | (simp only [h_sl, h_al] <;> omega) | fail) only [WW, WH, ↓reduceIte, Nat.reduceEqDiff, Nat.reduceLT, Nat.reduceLeDiff, Nat.reduceAdd, Nat.reduceSub, Nat.reduceMul, Nat.reduceBEq, reduceCtorEq, if_false, if_true, L_reply_Print, hs_o1, encReplyV]
    have hq := Option.some.inj h; subst hq
    refine hK _ _ _ _ _ ?_ (WxH.refl _) (kn _ hfr ((hs_o1).trans rfl))
    exact WE.cons (Wx.ptr) (WE.cons (Wx.oo) (WE.cons (Wx.str) (WE.cons (Wx.str) (WE.cons (Wx.nn) (WE.cons (Wx.int) (WE.cons (Wx.int) (WE.nil)))))))
  · refine UC_f hy5 ?_
    simp (disch := first | assumption | omega | (simp only [h_sl, h_al] <;> omega) | fail) only [WW, WH, ↓reduceIte, Nat.reduceEqDiff, Nat.reduceLT, Nat.reduceLeDiff, Nat.reduceAdd, Nat.reduceSub, Nat.reduceMul, Nat.reduceBEq, reduceCtorEq, if_false, if_true, L_reply_Print, hs_o1, encReplyV]
    have hq := Option.some.inj h; subst hq
    refine hK _ _ _ _ _ ?_ (WxH.refl _) (kn _ hfr ((hs_o1).trans rfl))
    exact WE.cons (Wx.ptr) (WE.cons (Wx.oo) (WE.cons (Wx.str) (WE.cons (Wx.str) (WE.cons (Wx.nn) (WE.cons (Wx.int) (WE.cons (Wx.int) (WE.nil)))))))
set_option maxHeartbeats 2000000 in
theorem reply_Print_l1_ok {F : Nat} {t5 : Int} {r1 : ReplyV} {out4 : List UInt8} {q3 : Nat} {H0 H : AH} (hfr : Fr H0 H0.length [] H) (hs_o1 : H[q3]? = some [(.int .i64 r1.code), (.sl .n 1 (ml AV.str r1.lines))]) (hi0 : H0.length ≤ q3) {K : Exit → Env → AH → Prop} {o : ((List UInt8)) ⊕ ((List UInt8))}
    (h : iter (reply_Print_l1 r1) F (out4, t5) = some o)
    (kb0 : ∀ o' : (List UInt8), o = .inr o' → ∀ H' : AH, Fr H0 H0.length [] H' → H'[q3]? = some [(.int .i64 r1.code), (.sl .n 1 (ml AV.str r1.lines))] → K (.exit 0) [(3, (.sl .own 1 (ml b8 o')))] H') :
    AX Tryd.prog L_reply_Print 36 H0.length c_reply_Print_l1 K [(1, (.ptr q3 0)), (3, (.sl .own 1 (ml b8 out4))), (11, (.sl .n 1 (ml AV.str r1.lines))), (12, (.int .i64 (r1.lines.length : Int))), (13, (.int .i64 t5))] H := by
  refine AX.iter (m := m_reply_Print_l1b) rfl (by decide) (fun s e H1 => match s with | (out4, t5) => e = [(1, (.ptr q3 0)), (3, (.sl .own 1 (ml b8 out4))), (11, (.sl .n 1 (ml AV.str r1.lines))), (12, (.int .i64 (r1.lines.length : Int))), (13, (.int .i64 t5))] ∧ Fr H0 H0.length [] H1 ∧ H1[q3]? = some [(.int .i64 r1.code), (.sl .n 1 (ml AV.str r1.lines))]) h ⟨rfl, hfr, hs_o1⟩ ?_
  skip
  rintro K' ⟨out4, t5⟩ st e H ⟨rfl, hfr, hs_o1⟩ h hN hB hR hX
  have hle := hfr.le
  have hl_o1 := h_lt hs_o1
  rw [reply_Print_l1.eq_1] at h
  simp (disch := first | assumption | omega | (simp only [h_sl, h_al] <;> omega) | fail) only [WW, WH, ↓reduceIte, Nat.reduceEqDiff, Nat.reduceLT, Nat.reduceLeDiff, Nat.reduceAdd, Nat.reduceSub, Nat.reduceMul, Nat.reduceBEq, reduceCtorEq, if_false, if_true, L_reply_Print, m_reply_Print_l1b, hs_o1, encReplyV]
  rcases ifb h with ⟨hy3, h⟩ | ⟨hy3, h⟩
  · refine UC_t hy3 ?_
    obtain ⟨x6, hy4, h⟩ := bnd' h
    simp (disch := first | assumption | omega | (simp only [h_sl, h_al] <;> omega) | fail) only [WW, WH, ↓reduceIte, Nat.reduceEqDiff, Nat.reduceLT, Nat.reduceLeDiff, Nat.reduceAdd, Nat.reduceSub, Nat.reduceMul, Nat.reduceBEq, reduceCtorEq, if_false, if_true, L_reply_Print, hy4, hs_o1, encReplyV]
    obtain ⟨mark9, hy6, h⟩ := bnd' h
    refine UX_of (AX.weak ?_ (WxH.refl _) (reply_Print_p1_ok  (t5 := t5) (r1 := r1) (out4 := out4) (x6 := x6) (mark8 := mark9) (q7 := q3) (hfr) ((hs_o1).trans rfl) (by first | assumption | omega | (simp only [h_sl, h_al] <;> omega) | fail) hy6 ?_))
    · exact WE.cons (Wx.ptr) (WE.cons (Wx.oo) (WE.cons (Wx.str) (WE.cons (Wx.str) (WE.cons (Wx.nn) (WE.cons (Wx.int) (WE.cons (Wx.int) (WE.cons (Wx.bool) (WE.nil))))))))
    intro H hfr hs_o1
    have hle := hfr.le
    have hl_o1 := h_lt hs_o1
    simp (disch := first | assumption | omega | (simp only [h_sl, h_al] <;> omega) | fail) only [WW, WH, ↓reduceIte, Nat.reduceEqDiff, Nat.reduceLT, Nat.reduceLeDiff, Nat.reduceAdd, Nat.reduceSub, Nat.reduceMul, Nat.reduceBEq, reduceCtorEq, if_false, if_true, L_reply_Print, hs_o1, encReplyV]
    obtain ⟨r10, hy7, h⟩ := bnd' h
    refine UK_e (as' := [(.int .i64 r1.code)]) (h := strconv_Itoa_ok (i1 := r1.code)  hy7) (hw := WL.cons (Wx.int) (WL.nil)) (hh := WxH.refl _) ?_
    obtain ⟨x11, hy8, h⟩ := bnd' h
    obtain ⟨x12, hy9, h⟩ := bnd' h
    obtain ⟨x13, hy10, h⟩ := bnd' h
    obtain ⟨x14, hy11, h⟩ := bnd' h
    have hy12 : capp 1 (ml b8 out4) (ml b8 x13) = some (ml b8 x14) := capp_m (f := b8) hy11
    simp (disch := first | assumption | omega | (simp only [h_sl, h_al] <;> omega) | fail) only [WW, WH, ↓reduceIte, Nat.reduceEqDiff, Nat.reduceLT, Nat.reduceLeDiff, Nat.reduceAdd, Nat.reduceSub, Nat.reduceMul, Nat.reduceBEq, reduceCtorEq, if_false, if_true, L_reply_Print, hy8, hy9, hy10, hy12, hs_o1, encReplyV]
    have hq := Option.some.inj h; subst hq
    refine hN _ rfl _ _ _ _ ?_ (WxH.refl _) ⟨rfl, hfr, ((hs_o1).trans rfl)⟩
    exact WE.cons (Wx.ptr) (WE.cons (Wx.oo) (WE.cons (Wx.nn) (WE.cons (Wx.int) (WE.cons (Wx.int) (WE.nil)))))
  · refine UC_f hy3 ?_
    simp (disch := first | assumption | omega | (simp only [h_sl, h_al] <;> omega) | fail) only [WW, WH, ↓reduceIte, Nat.reduceEqDiff, Nat.reduceLT, Nat.reduceLeDiff, Nat.reduceAdd, Nat.reduceSub, Nat.reduceMul, Nat.reduceBEq, reduceCtorEq, if_false, if_true, L_reply_Print, hs_o1, encReplyV]
    have hq := Option.some.inj h; subst hq
    refine hX _ _ _ _ _ (by simp) ?_ (WxH.refl _) (kb0 _ (hB _ rfl) _ hfr ((hs_o1).trans rfl))
    exact WE.cons (Wx.oo) (WE.nil)
set_option maxHeartbeats 2000000 in
theorem reply_Print_ok {F : Nat} {r1 : ReplyV}  {H0 : AH}  {rz0 : List UInt8} (h : reply_Print F r1 = some rz0) :
    ACalls Tryd.prog 22 [(.agg [(.int .i64 r1.code), (.sl .n 1 (ml AV.str r1.lines))])] H0 fun v H' => v = (.sl .n 1 (ml b8 rz0)) ∧ H' = H0 := by
  refine ACalls.goX k_reply_Print (m := m_reply_Print) rfl L_reply_Print (by decide) (by simp) fun hcl K0 hK0 => ?_
  refine AX.of_U (m := m_reply_Print) rfl (by decide) ?_
  have hfr := Fr.refl H0 []
  have hle := hfr.le
  rw [reply_Print.eq_1] at h
  obtain ⟨H, hHH⟩ : ∃ H, H = H0 := ⟨_, rfl⟩
  have hfr : Fr H0 H0.length [] H := hHH ▸ hfr
  have hle := hfr.le
  suffices hU : U Tryd.prog L_reply_Print 36 H0.length [.code m_reply_Print] K0 .normal (argE 0 [(.agg [(.int .i64 r1.code), (.sl .n 1 (ml AV.str r1.lines))])]) H by rwa [hHH] at hU
  simp (disch := first | assumption | omega | (simp only [h_sl, h_al] <;> omega) | fail) only [WW, WH, ↓reduceIte, Nat.reduceEqDiff, Nat.reduceLT, Nat.reduceLeDiff, Nat.reduceAdd, Nat.reduceSub, Nat.reduceMul, Nat.reduceBEq, reduceCtorEq, if_false, if_true, L_reply_Print, m_reply_Print, c_reply_Print, encReplyV]
  obtain ⟨r2, hy1, h⟩ := bnd' h
  refine UK_e (as' := [(.agg [(.int .i64 r1.code), (.sl .n 1 (ml AV.str r1.lines))])]) (h := reply_Right_ok (r1 := r1) (F := F)  hy1) (hw := WL.cons (Wx.agg (W1L.same (W1L.same (W1L.nil)))) (WL.nil)) (hh := WxH.refl _) ?_
  simp (disch := first | assumption | omega | (simp only [h_sl, h_al] <;> omega) | fail) only [WW, WH, ↓reduceIte, Nat.reduceEqDiff, Nat.reduceLT, Nat.reduceLeDiff, Nat.reduceAdd, Nat.reduceSub, Nat.reduceMul, Nat.reduceBEq, reduceCtorEq, if_false, if_true, L_reply_Print, encReplyV]
  rcases ifb h with ⟨hy2, h⟩ | ⟨hy2, h⟩
  · refine UC_t hy2 ?_
    simp (disch := first | assumption | omega | (simp only [h_sl, h_al] <;> omega) | fail) only [WW, WH, ↓reduceIte, Nat.reduceEqDiff, Nat.reduceLT, Nat.reduceLeDiff, Nat.reduceAdd, Nat.reduceSub, Nat.reduceMul, Nat.reduceBEq, reduceCtorEq, if_false, if_true, L_reply_Print, encReplyV]
    have hq := Option.some.inj h; subst hq
    refine hK0 _ _ _ (.inr rfl) ?_
    exact fn_end0 (by exact (Fr.app hfr)) hcl (resv_tmp (a := (.sl .ex 1 [])) rfl rfl resv_nil) (by simp [fin, AV.df, AV.sh, AV.sh1, b_df, b_sh, b_sh1, b_Cl]) (Wx.n) (r' := (.sl .n 1 (ml b8 ([] : List UInt8)))) ⟨rfl, rfl⟩
  · refine UC_f hy2 ?_
    simp (disch := first | assumption | omega | (simp only [h_sl, h_al] <;> omega) | fail) only [WW, WH, ↓reduceIte, Nat.reduceEqDiff, Nat.reduceLT, Nat.reduceLeDiff, Nat.reduceAdd, Nat.reduceSub, Nat.reduceMul, Nat.reduceBEq, reduceCtorEq, if_false, if_true, L_reply_Print, encReplyV]
    obtain ⟨q3, hg_q3⟩ : ∃ q : Nat, H.length = q := ⟨_, rfl⟩
    try rw [hg_q3]
    obtain ⟨o17, hy13, h⟩ := bnd' h
    refine UX_of (AX.weak ?_ (WxH.refl _) (reply_Print_l1_ok  (r1 := r1) (out4 := ([] : List UInt8)) (t5 := 0) (q3 := q3) ((Fr.app hfr)) ((h_new' (by first | assumption | omega | (simp only [h_sl, h_al] <;> omega) | fail)).trans rfl) (by first | assumption | omega | (simp only [h_sl, h_al] <;> omega) | fail) (o := o17) hy13 ?_))
    · exact WE.cons (Wx.ptr) (WE.cons (Wx.own ..) (WE.cons (Wx.nn) (WE.cons (Wx.int) (WE.cons (Wx.int) (WE.nil)))))
    · rintro out16 rfl H hfr hs_o1
      try dsimp only at h hs_o1
      have hle := hfr.le
      have hl_o1 := h_lt hs_o1
      simp (disch := first | assumption | omega | (simp only [h_sl, h_al] <;> omega) | fail) only [WW, WH, ↓reduceIte, Nat.reduceEqDiff, Nat.reduceLT, Nat.reduceLeDiff, Nat.reduceAdd, Nat.reduceSub, Nat.reduceMul, Nat.reduceBEq, reduceCtorEq, if_false, if_true, L_reply_Print, hs_o1, encReplyV]
      have hq := Option.some.inj h; subst hq
      refine hK0 _ _ _ (.inr rfl) ?_
      exact fn_end0 (by exact hfr) hcl (resv_tmp (a := (.sl .n 1 (ml b8 out16))) rfl rfl resv_nil) (by simp [fin, AV.df, AV.sh, AV.sh1, b_df, b_sh, b_sh1, b_Cl]) (Wx.nn) (r' := (.sl .n 1 (ml b8 out16))) ⟨rfl, rfl⟩

/-! ### mailbag/mailbaglaw16.known -/
def c_law16_known_p1 : ACode := (.rg [⟨(some 22), (.mv (.t 3)), none⟩, ⟨(some 23), (.mv (.t 5)), none⟩, ⟨(some 24), (.bin .add (.t 22) (.t 23)), none⟩, ⟨(some 25), (.bin .eql (.t 24) (.c (.int .i64 0))), none⟩, ⟨(some 26), (.mv (.t 25)), none⟩, ⟨(some 27), (.mv (.t 2)), (some (26, true))⟩, ⟨(some 28), (.len (.t 27)), (some (26, true))⟩, ⟨(some 29), (.bin .eql (.t 28) (.c (.int .i64 1))), (some (26, true))⟩, ⟨(some 30), (.pick (.t 26) (.t 29) (.c (.bool false))), none⟩, ⟨(some 31), (.mv (.t 30)), none⟩, ⟨(some 32), (.mv (.t 2)), (some (31, true))⟩, ⟨(some 33), (.ixa 2 (.t 32) (.c (.int .i64 0))), (some (31, true))⟩, ⟨(some 34), (.fld (.t 33) 0), (some (31, true))⟩, ⟨(some 35), (.ld (.t 34) none), (some (31, true))⟩, ⟨(some 36), (.bin .eql (.t 35) (.c (.int .i64 250))), (some (31, true))⟩, ⟨(some 37), (.pick (.t 31) (.t 36) (.c (.bool false))), none⟩, ⟨(some 38), (.mv (.t 37)), none⟩, ⟨(some 39), (.mv (.t 2)), (some (38, true))⟩, ⟨(some 40), (.ixa 2 (.t 39) (.c (.int .i64 0))), (some (38, true))⟩, ⟨(some 41), (.fld (.t 40) 1), (some (38, true))⟩, ⟨(some 42), (.ld (.t 41) none), (some (38, true))⟩, ⟨(some 43), (.len (.t 42)), (some (38, true))⟩, ⟨(some 44), (.bin .eql (.t 43) (.c (.int .i64 2))), (some (38, true))⟩, ⟨(some 45), (.pick (.t 38) (.t 44) (.c (.bool false))), none⟩, ⟨(some 46), (.mv (.t 45)), none⟩, ⟨(some 47), (.mv (.t 2)), (some (46, true))⟩, ⟨(some 48), (.ixa 2 (.t 47) (.c (.int .i64 0))), (some (46, true))⟩, ⟨(some 49), (.fld (.t 48) 1), (some (46, true))⟩, ⟨(some 50), (.ld (.t 49) none), (some (46, true))⟩, ⟨(some 51), (.ixa 1 (.t 50) (.c (.int .i64 1))), (some (46, true))⟩, ⟨(some 52), (.ld (.t 51) none), (some (46, true))⟩, ⟨(some 53), (.bin .eql (.t 52) (.c (.str [98]))), (some (46, true))⟩, ⟨(some 54), (.pick (.t 46) (.t 53) (.c (.bool false))), none⟩, ⟨(some 55), (.mv (.t 54)), none⟩, ⟨(some 56), (.fld (.t 4) 0), (some (55, true))⟩, ⟨(some 57), (.ld (.t 56) none), (some (55, true))⟩, ⟨(some 58), (.bin .eql (.t 57) (.c (.int .i64 354))), (some (55, true))⟩, ⟨(some 59), (.pick (.t 55) (.t 58) (.c (.bool false))), none⟩, ⟨(some 60), (.mv (.t 59)), none⟩, ⟨(some 61), (.fld (.t 4) 1), (some (60, true))⟩, ⟨(some 62), (.ld (.t 61) none), (some (60, true))⟩, ⟨(some 63), (.len (.t 62)), (some (60, true))⟩, ⟨(some 64), (.bin .eql (.t 63) (.c (.int .i64 1))), (some (60, true))⟩, ⟨(some 65), (.pick (.t 60) (.t 64) (.c (.bool false))), none⟩, ⟨(some 66), (.mv (.t 65)), none⟩, ⟨(some 67), (.call (.c (.fn 11 [])) [(.c (.int .i64 554))]), (some (66, true))⟩, ⟨(some 68), (.bin .eql (.t 67) (.c (.int .i64 5))), (some (66, true))⟩, ⟨(some 69), (.pick (.t 66) (.t 68) (.c (.bool false))), none⟩, ⟨(some 70), (.mv (.t 69)), none⟩, ⟨(some 71), (.ld (.t 4) (some 2)), (some (70, true))⟩, ⟨(some 72), (.call (.c (.fn 22 [])) [(.t 71)]), (some (70, true))⟩, ⟨(some 73), (.cvt .bs (.t 72)), (some (70, true))⟩, ⟨(some 74), (.bin .eql (.t 73) (.c (.str [51, 53, 52, 32, 13, 10]))), (some (70, true))⟩, ⟨(some 75), (.pick (.t 70) (.t 74) (.c (.bool false))), none⟩, ⟨(some 0), (.asg (.t 75)), none⟩])
abbrev m_law16_known_p1 := c_law16_known_p1
def c_law16_known : ACode := (.seq (.rg [⟨(some 0), (.asg (.c (.bool false))), none⟩]) (.seq (.rg [⟨(some 6), (.call (.c (.fn 12 [])) []), none⟩, ⟨(some 1), (.asg (.t 6)), none⟩]) (.seq (.seq (.rg [⟨(some 7), (.mv (.t 1)), none⟩, ⟨(some 8), (.pq false (.t 7) (.c (.v (.pointer none)))), none⟩]) (.cond (.t 8) (.seq (.rg [⟨(some 0), (.asg (.c (.bool false))), none⟩]) .ret) .skip)) (.seq (.rg [⟨(some 10), (.mv (.t 1)), none⟩, ⟨(some 12), (.lit 11 [50, 53, 48, 45, 97, 13, 10, 50, 53, 48, 32, 98, 13, 10, 50, 50, 48]), none⟩, ⟨(some 13), (.call (.c (.fn 14 [])) [(.t 10), (.t 12)]), none⟩, ⟨(some 9), (.mv (.t 13)), none⟩, ⟨(some 14), (.ext (.t 9) 0), none⟩, ⟨(some 15), (.ext (.t 9) 1), none⟩, ⟨(some 2), (.asg (.t 14)), none⟩, ⟨(some 3), (.asg (.t 15)), none⟩]) (.seq (.rg [⟨(some 18), (.lit 17 [51, 53, 52, 13, 10]), none⟩, ⟨(some 19), (.call (.c (.fn 9 [])) [(.t 18)]), none⟩, ⟨(some 16), (.mv (.t 19)), none⟩, ⟨(some 20), (.ext (.t 16) 0), none⟩, ⟨(some 21), (.ext (.t 16) 1), none⟩, ⟨(some 4), (.alloc [(.int .i64 0), (.sl .ex 1 [])]), none⟩, ⟨none, (.st (.t 4) (.t 20) 2), none⟩, ⟨(some 5), (.asg (.t 21)), none⟩]) (.seq c_law16_known_p1 .ret))))))
def m_law16_known : ACode := (.seq (.rg [⟨(some 0), (.asg (.c (.bool false))), none⟩]) (.seq (.rg [⟨(some 6), (.call (.c (.fn 12 [])) []), none⟩, ⟨(some 1), (.asg (.t 6)), none⟩]) (.seq (.seq (.rg [⟨(some 7), (.mv (.t 1)), none⟩, ⟨(some 8), (.pq false (.t 7) (.c (.v (.pointer none)))), none⟩]) (.cond (.t 8) (.seq (.rg [⟨(some 0), (.asg (.c (.bool false))), none⟩]) .ret) .skip)) (.seq (.rg [⟨(some 10), (.mv (.t 1)), none⟩, ⟨(some 12), (.lit 11 [50, 53, 48, 45, 97, 13, 10, 50, 53, 48, 32, 98, 13, 10, 50, 50, 48]), none⟩, ⟨(some 13), (.call (.c (.fn 14 [])) [(.t 10), (.t 12)]), none⟩, ⟨(some 9), (.mv (.t 13)), none⟩, ⟨(some 14), (.ext (.t 9) 0), none⟩, ⟨(some 15), (.ext (.t 9) 1), none⟩, ⟨(some 2), (.asg (.t 14)), none⟩, ⟨(some 3), (.asg (.t 15)), none⟩]) (.seq (.rg [⟨(some 18), (.lit 17 [51, 53, 52, 13, 10]), none⟩, ⟨(some 19), (.call (.c (.fn 9 [])) [(.t 18)]), none⟩, ⟨(some 16), (.mv (.t 19)), none⟩, ⟨(some 20), (.ext (.t 16) 0), none⟩, ⟨(some 21), (.ext (.t 16) 1), none⟩, ⟨(some 4), (.alloc [(.int .i64 0), (.sl .ex 1 [])]), none⟩, ⟨none, (.st (.t 4) (.t 20) 2), none⟩, ⟨(some 5), (.asg (.t 21)), none⟩]) (.seq (.sem c_law16_known_p1) .ret))))))
theorem k_law16_known : FnOk Tryd.prog 8 76 [(.tmp 0)] c_law16_known := ⟨Tryd.f8, _, rfl, by decide, rfl, by kernel_rfl, rfl, rfl⟩
abbrev L_law16_known : List Nat := [0, 1, 2, 3, 4, 5, 8]
def law16_known_p1 (F : Nat) (r6 : Int) (r9 : Int) (r5 : List ReplyV) (r8 : ReplyV) : Option (Bool) :=
  (if (decide ((IntKind.wrap .i64 (r6 + r9)) = 0)) then
    (if (decide ((r5.length : Int) = 1)) then
      (idx r5 0).bind fun x11 =>
      (if (decide (x11.code = 250)) then
        (if (decide ((x11.lines.length : Int) = 2)) then
          (idx x11.lines 1).bind fun x12 =>
          (if (decide (x12 = ([98] : List UInt8))) then
            (if (decide (r8.code = 354)) then
              (if (decide ((r8.lines.length : Int) = 1)) then
                (reply_Class 554).bind fun r13 =>
                (if (decide (r13 = 5)) then
                  (reply_Print F r8).bind fun r14 =>
                  some (decide (r14 = ([51, 53, 52, 32, 13, 10] : List UInt8)))
                else
                  some false)
              else
                some false)
            else
              some false)
          else
            some false)
        else
          some false)
      else
        some false)
    else
      some false)
  else
    some false)
def law16_known (F : Nat)  : Option (Bool) :=
  ((reply_New ).bind fun r1 =>
  match r1 with
  | none =>
    some false
  | some t2 =>
    (reply_Reader_Feed F t2 ([50, 53, 48, 45, 97, 13, 10, 50, 53, 48, 32, 98, 13, 10, 50, 50, 48] : List UInt8)).bind fun (r5, r6, r7) =>
    (reply_Parse F ([51, 53, 52, 13, 10] : List UInt8)).bind fun (r8, r9) => (law16_known_p1 F r6 r9 r5 r8).bind fun t16 =>
    some t16)
set_option maxHeartbeats 2000000 in
theorem law16_known_p1_ok {F : Nat} {r6 : Int} {r9 : Int} {r5 : List ReplyV} {r8 : ReplyV} {q10 : Nat} {H0 H : AH} (hfr : Fr H0 H0.length [] H) (hs_o3 : H[q10]? = some [(.int .i64 r8.code), (.sl .n 1 (ml AV.str r8.lines))]) (hi0 : H0.length ≤ q10) {K : Exit → Env → AH → Prop} {t15 : Bool}
    (h : law16_known_p1 F r6 r9 r5 r8 = some t15)
    (kn : ∀ H' : AH, Fr H0 H0.length [] H' → H'[q10]? = some [(.int .i64 r8.code), (.sl .n 1 (ml AV.str r8.lines))] → K .normal [(0, (.bool t15))] H') :
    AX Tryd.prog L_law16_known 76 H0.length c_law16_known_p1 K [(0, (.bool false)), (2, (.sl .n 2 (ml encReplyV r5))), (3, (.int .i64 r6)), (4, (.ptr q10 0)), (5, (.int .i64 r9))] H := by
  refine AX.go (m := m_law16_known_p1) rfl (by decide) fun K' hK => ?_
  have hle := hfr.le
  have hl_o3 := h_lt hs_o3
  rw [law16_known_p1.eq_1] at h
  simp (disch := first | assumption | omega | (simp only [h_sl, h_al] <;> omega) | fail) only [WW, WH, ↓reduceIte, Nat.reduceEqDiff, Nat.reduceLT, Nat.reduceLeDiff, Nat.reduceAdd, Nat.reduceSub, Nat.reduceMul, Nat.reduceBEq, reduceCtorEq, if_false, if_true, L_law16_known, m_law16_known_p1, c_law16_known_p1, hs_o3, encReplyV]
  rcases ifb h with ⟨hy4, h⟩ | ⟨hy4, h⟩
  · refine UG_go hy4 ?_
    simp (disch := first | assumption | omega | (simp only [h_sl, h_al] <;> omega) | fail) only [WW, WH, ↓reduceIte, Nat.reduceEqDiff, Nat.reduceLT, Nat.reduceLeDiff, Nat.reduceAdd, Nat.reduceSub, Nat.reduceMul, Nat.reduceBEq, reduceCtorEq, if_false, if_true, L_law16_known, hy4, hs_o3, encReplyV]
    rcases ifb h with ⟨hy5, h⟩ | ⟨hy5, h⟩
    · refine UG_go hy5 ?_
      obtain ⟨x11, hy6, h⟩ := bnd' h
      simp (disch := first | assumption | omega | (simp only [h_sl, h_al] <;> omega) | fail) only [WW, WH, ↓reduceIte, Nat.reduceEqDiff, Nat.reduceLT, Nat.reduceLeDiff, Nat.reduceAdd, Nat.reduceSub, Nat.reduceMul, Nat.reduceBEq, reduceCtorEq, if_false, if_true, L_law16_known, hy5, hy6, hs_o3, encReplyV]
      rcases ifb h with ⟨hy7, h⟩ | ⟨hy7, h⟩
      · refine UG_go hy7 ?_
        simp (disch := first | assumption | omega | (simp only [h_sl, h_al] <;> omega) | fail) only [WW, WH, ↓reduceIte, Nat.reduceEqDiff, Nat.reduceLT, Nat.reduceLeDiff, Nat.reduceAdd, Nat.reduceSub, Nat.reduceMul, Nat.reduceBEq, reduceCtorEq, if_false, if_true, L_law16_known, hy7, hy6, hs_o3, encReplyV]
        rcases ifb h with ⟨hy8, h⟩ | ⟨hy8, h⟩
        · refine UG_go hy8 ?_
          obtain ⟨x12, hy9, h⟩ := bnd' h
          simp (disch := first | assumption | omega | (simp only [h_sl, h_al] <;> omega) | fail) only [WW, WH, ↓reduceIte, Nat.reduceEqDiff, Nat.reduceLT, Nat.reduceLeDiff, Nat.reduceAdd, Nat.reduceSub, Nat.reduceMul, Nat.reduceBEq, reduceCtorEq, if_false, if_true, L_law16_known, hy8, hy6, hy9, hs_o3, encReplyV]
          rcases ifb h with ⟨hy10, h⟩ | ⟨hy10, h⟩
          · refine UG_go hy10 ?_
            simp (disch := first | assumption | omega | (simp only [h_sl, h_al] <;> omega) | fail) only [WW, WH, ↓reduceIte, Nat.reduceEqDiff, Nat.reduceLT, Nat.reduceLeDiff, Nat.reduceAdd, Nat.reduceSub, Nat.reduceMul, Nat.reduceBEq, reduceCtorEq, if_false, if_true, L_law16_known, hy10, hs_o3, encReplyV]
            rcases ifb h with ⟨hy11, h⟩ | ⟨hy11, h⟩
            · refine UG_go hy11 ?_
              simp (disch := first | assumption | omega | (simp only [h_sl, h_al] <;> omega) | fail) only [WW, WH, ↓reduceIte, Nat.reduceEqDiff, Nat.reduceLT, Nat.reduceLeDiff, Nat.reduceAdd, Nat.reduceSub, Nat.reduceMul, Nat.reduceBEq, reduceCtorEq, if_false, if_true, L_law16_known, hy11, hs_o3, encReplyV]
              rcases ifb h with ⟨hy12, h⟩ | ⟨hy12, h⟩
              · refine UG_go hy12 ?_
                simp (disch := first | assumption | omega | (simp only [h_sl, h_al] <;> omega) | fail) only [WW, WH, ↓reduceIte, Nat.reduceEqDiff, Nat.reduceLT, Nat.reduceLeDiff, Nat.reduceAdd, Nat.reduceSub, Nat.reduceMul, Nat.reduceBEq, reduceCtorEq, if_false, if_true, L_law16_known, hy12, hs_o3, encReplyV]
                obtain ⟨r13, hy13, h⟩ := bnd' h
                refine UK_e (as' := [(.int .i64 554)]) (h := reply_Class_ok (code1 := 554)  hy13) (hw := WL.cons (Wx.int) (WL.nil)) (hh := WxH.refl _) ?_
                simp (disch := first | assumption | omega | (simp only [h_sl, h_al] <;> omega) | fail) only [WW, WH, ↓reduceIte, Nat.reduceEqDiff, Nat.reduceLT, Nat.reduceLeDiff, Nat.reduceAdd, Nat.reduceSub, Nat.reduceMul, Nat.reduceBEq, reduceCtorEq, if_false, if_true, L_law16_known, hs_o3, encReplyV]
                rcases ifb h with ⟨hy14, h⟩ | ⟨hy14, h⟩
                · refine UG_go hy14 ?_
                  simp (disch := first | assumption | omega | (simp only [h_sl, h_al] <;> omega) | fail) only [WW, WH, ↓reduceIte, Nat.reduceEqDiff, Nat.reduceLT, Nat.reduceLeDiff, Nat.reduceAdd, Nat.reduceSub, Nat.reduceMul, Nat.reduceBEq, reduceCtorEq, if_false, if_true, L_law16_known, hy14, hs_o3, encReplyV]
                  obtain ⟨r14, hy15, h⟩ := bnd' h
                  refine UK_e (as' := [(.agg [(.int .i64 r8.code), (.sl .n 1 (ml AV.str r8.lines))])]) (h := reply_Print_ok (r1 := r8) (F := F)  hy15) (hw := WL.cons (Wx.agg (W1L.same (W1L.same (W1L.nil)))) (WL.nil)) (hh := WxH.refl _) ?_
                  simp (disch := first | assumption | omega | (simp only [h_sl, h_al] <;> omega) | fail) only [WW, WH, ↓reduceIte, Nat.reduceEqDiff, Nat.reduceLT, Nat.reduceLeDiff, Nat.reduceAdd, Nat.reduceSub, Nat.reduceMul, Nat.reduceBEq, reduceCtorEq, if_false, if_true, L_law16_known, hs_o3, encReplyV]
                  have hq := Option.some.inj h; subst hq
                  refine hK _ _ _ _ _ ?_ (WxH.refl _) (kn _ hfr ((hs_o3).trans rfl))
                  exact WE.cons (Wx.bool) (WE.nil)
                · refine UG_nt hy14 ?_
                  simp (disch := first | assumption | omega | (simp only [h_sl, h_al] <;> omega) | fail) only [WW, WH, ↓reduceIte, Nat.reduceEqDiff, Nat.reduceLT, Nat.reduceLeDiff, Nat.reduceAdd, Nat.reduceSub, Nat.reduceMul, Nat.reduceBEq, reduceCtorEq, if_false, if_true, L_law16_known, hy14, hs_o3, encReplyV]
                  have hq := Option.some.inj h; subst hq
                  refine hK _ _ _ _ _ ?_ (WxH.refl _) (kn _ hfr ((hs_o3).trans rfl))
                  exact WE.cons (Wx.bool) (WE.nil)
              · refine UG_nt hy12 ?_
                simp (disch := first | assumption | omega | (simp only [h_sl, h_al] <;> omega) | fail) only [WW, WH, ↓reduceIte, Nat.reduceEqDiff, Nat.reduceLT, Nat.reduceLeDiff, Nat.reduceAdd, Nat.reduceSub, Nat.reduceMul, Nat.reduceBEq, reduceCtorEq, if_false, if_true, L_law16_known, hy12, hs_o3, encReplyV]
                have hq := Option.some.inj h; subst hq
                refine hK _ _ _ _ _ ?_ (WxH.refl _) (kn _ hfr ((hs_o3).trans rfl))
                exact WE.cons (Wx.bool) (WE.nil)
            · refine UG_nt hy11 ?_
              simp (disch := first | assumption | omega | (simp only [h_sl, h_al] <;> omega) | fail) only [WW, WH, ↓reduceIte, Nat.reduceEqDiff, Nat.reduceLT, Nat.reduceLeDiff, Nat.reduceAdd, Nat.reduceSub, Nat.reduceMul, Nat.reduceBEq, reduceCtorEq, if_false, if_true, L_law16_known, hy11, hs_o3, encReplyV]
              have hq := Option.some.inj h; subst hq
              refine hK _ _ _ _ _ ?_ (WxH.refl _) (kn _ hfr ((hs_o3).trans rfl))
              exact WE.cons (Wx.bool) (WE.nil)
          · refine UG_nt hy10 ?_
            simp (disch := first | assumption | omega | (simp only [h_sl, h_al] <;> omega) | fail) only [WW, WH, ↓reduceIte, Nat.reduceEqDiff, Nat.reduceLT, Nat.reduceLeDiff, Nat.reduceAdd, Nat.reduceSub, Nat.reduceMul, Nat.reduceBEq, reduceCtorEq, if_false, if_true, L_law16_known, hy10, hs_o3, encReplyV]
            have hq := Option.some.inj h; subst hq
            refine hK _ _ _ _ _ ?_ (WxH.refl _) (kn _ hfr ((hs_o3).trans rfl))
            exact WE.cons (Wx.bool) (WE.nil)
        · refine UG_nt hy8 ?_
          simp (disch := first | assumption | omega | (simp only [h_sl, h_al] <;> omega) | fail) only [WW, WH, ↓reduceIte, Nat.reduceEqDiff, Nat.reduceLT, Nat.reduceLeDiff, Nat.reduceAdd, Nat.reduceSub, Nat.reduceMul, Nat.reduceBEq, reduceCtorEq, if_false, if_true, L_law16_known, hy8, hs_o3, encReplyV]
          have hq := Option.some.inj h; subst hq
          refine hK _ _ _ _ _ ?_ (WxH.refl _) (kn _ hfr ((hs_o3).trans rfl))
          exact WE.cons (Wx.bool) (WE.nil)
      · refine UG_nt hy7 ?_
        simp (disch := first | assumption | omega | (simp only [h_sl, h_al] <;> omega) | fail) only [WW, WH, ↓reduceIte, Nat.reduceEqDiff, Nat.reduceLT, Nat.reduceLeDiff, Nat.reduceAdd, Nat.reduceSub, Nat.reduceMul, Nat.reduceBEq, reduceCtorEq, if_false, if_true, L_law16_known, hy7, hs_o3, encReplyV]
        have hq := Option.some.inj h; subst hq
        refine hK _ _ _ _ _ ?_ (WxH.refl _) (kn _ hfr ((hs_o3).trans rfl))
        exact WE.cons (Wx.bool) (WE.nil)
    · refine UG_nt hy5 ?_
      simp (disch := first | assumption | omega | (simp only [h_sl, h_al] <;> omega) | fail) only [WW, WH, ↓reduceIte, Nat.reduceEqDiff, Nat.reduceLT, Nat.reduceLeDiff, Nat.reduceAdd, Nat.reduceSub, Nat.reduceMul, Nat.reduceBEq, reduceCtorEq, if_false, if_true, L_law16_known, hy5, hs_o3, encReplyV]
      have hq := Option.some.inj h; subst hq
      refine hK _ _ _ _ _ ?_ (WxH.refl _) (kn _ hfr ((hs_o3).trans rfl))
      exact WE.cons (Wx.bool) (WE.nil)
  · refine UG_nt hy4 ?_
    simp (disch := first | assumption | omega | (simp only [h_sl, h_al] <;> omega) | fail) only [WW, WH, ↓reduceIte, Nat.reduceEqDiff, Nat.reduceLT, Nat.reduceLeDiff, Nat.reduceAdd, Nat.reduceSub, Nat.reduceMul, Nat.reduceBEq, reduceCtorEq, if_false, if_true, L_law16_known, hy4, hs_o3, encReplyV]
    have hq := Option.some.inj h; subst hq
    refine hK _ _ _ _ _ ?_ (WxH.refl _) (kn _ hfr ((hs_o3).trans rfl))
    exact WE.cons (Wx.bool) (WE.nil)
set_option maxHeartbeats 2000000 in
theorem law16_known_ok {F : Nat}   {H0 : AH}  {rz0 : Bool} (h : law16_known F  = some rz0) :
    ACalls Tryd.prog 8 [] H0 fun v H' => v = (.bool rz0) ∧ H' = H0 := by
  refine ACalls.goX k_law16_known (m := m_law16_known) rfl L_law16_known (by decide) (by simp) fun hcl K0 hK0 => ?_
  refine AX.of_U (m := m_law16_known) rfl (by decide) ?_
  have hfr := Fr.refl H0 []
  have hle := hfr.le
  rw [law16_known.eq_1] at h
  obtain ⟨H, hHH⟩ : ∃ H, H = H0 := ⟨_, rfl⟩
  have hfr : Fr H0 H0.length [] H := hHH ▸ hfr
  have hle := hfr.le
  suffices hU : U Tryd.prog L_law16_known 76 H0.length [.code m_law16_known] K0 .normal (argE 0 []) H by rwa [hHH] at hU
  simp (disch := first | assumption | omega | (simp only [h_sl, h_al] <;> omega) | fail) only [WW, WH, ↓reduceIte, Nat.reduceEqDiff, Nat.reduceLT, Nat.reduceLeDiff, Nat.reduceAdd, Nat.reduceSub, Nat.reduceMul, Nat.reduceBEq, reduceCtorEq, if_false, if_true, L_law16_known, m_law16_known, encReplyV]
  obtain ⟨r1, hy1, h⟩ := bnd' h
  rcases r1 with _ | t2
  · try dsimp only at h
    refine UK_x (as' := []) (h := reply_New_ok   hy1) (hw := WL.nil) (hh := WxH.refl _) ?_
    rintro _ H ⟨rfl, hfrn⟩
    have hfr := Fr.trans hfr hfrn (by simp)
    have hle := hfr.le
    simp (disch := first | assumption | omega | (simp only [h_sl, h_al] <;> omega) | fail) only [WW, WH, ↓reduceIte, Nat.reduceEqDiff, Nat.reduceLT, Nat.reduceLeDiff, Nat.reduceAdd, Nat.reduceSub, Nat.reduceMul, Nat.reduceBEq, reduceCtorEq, if_false, if_true, L_law16_known, encReplyV]
    have hq := Option.some.inj h; subst hq
    refine hK0 _ _ _ (.inr rfl) ?_
    exact fn_end0 (by exact hfr) hcl (resv_tmp (a := (.bool false)) rfl rfl resv_nil) (by simp [fin, AV.df, AV.sh, AV.sh1, b_df, b_sh, b_sh1, b_Cl]) (Wx.bool) (r' := (.bool false)) ⟨rfl, rfl⟩
  · try dsimp only at h
    refine UK_x (as' := []) (h := reply_New_ok   hy1) (hw := WL.nil) (hh := WxH.refl _) ?_
    rintro _ H ⟨q3, q4, rfl, hgn0, hgn1, hnn1_0, hfrn, hs_o1, hs_o2⟩
    try simp only [h_sl, h_al] at hgn0 hgn1
    have hfr := Fr.trans hfr hfrn (by simp)
    have hle := hfr.le
    have hl_o1 := h_lt hs_o1
    have hl_o2 := h_lt hs_o2
    simp (disch := first | assumption | omega | (simp only [h_sl, h_al] <;> omega) | fail) only [WW, WH, ↓reduceIte, Nat.reduceEqDiff, Nat.reduceLT, Nat.reduceLeDiff, Nat.reduceAdd, Nat.reduceSub, Nat.reduceMul, Nat.reduceBEq, reduceCtorEq, if_false, if_true, L_law16_known, hs_o1, hs_o2, encReplyV]
    obtain ⟨⟨r5, r6, r7⟩, hy2, h⟩ := bnd' h
    dsimp only at h
    refine UK_e (as' := [(.ptr q3 0), (.sl .n 1 (ml b8 ([50, 53, 48, 45, 97, 13, 10, 50, 53, 48, 32, 98, 13, 10, 50, 50, 48] : List UInt8)))]) (h := reply_Reader_Feed_ok (r2 := t2) (b4 := ([50, 53, 48, 45, 97, 13, 10, 50, 53, 48, 32, 98, 13, 10, 50, 50, 48] : List UInt8)) (q1 := q3) (q3 := q4) (F := F) (by exact ((hs_o1).trans rfl)) (by exact ((hs_o2).trans rfl)) (by first | assumption | omega | (simp only [h_sl, h_al] <;> omega) | fail) hy2) (hw := WL.cons (Wx.ptr) (WL.cons (Wx.n) (WL.nil))) (hh := WxH.refl _) ?_
    simp (disch := first | assumption | omega | (simp only [h_sl, h_al] <;> omega) | fail) only [WW, WH, ↓reduceIte, Nat.reduceEqDiff, Nat.reduceLT, Nat.reduceLeDiff, Nat.reduceAdd, Nat.reduceSub, Nat.reduceMul, Nat.reduceBEq, reduceCtorEq, if_false, if_true, L_law16_known, hs_o1, hs_o2, encReplyV]
    obtain ⟨⟨r8, r9⟩, hy3, h⟩ := bnd' h
    dsimp only at h
    refine UK_e (as' := [(.sl .n 1 (ml b8 ([51, 53, 52, 13, 10] : List UInt8)))]) (h := reply_Parse_ok (b1 := ([51, 53, 52, 13, 10] : List UInt8)) (F := F)  hy3) (hw := WL.cons (Wx.n) (WL.nil)) (hh := WxH.refl _) ?_
    simp (disch := first | assumption | omega | (simp only [h_sl, h_al] <;> omega) | fail) only [WW, WH, ↓reduceIte, Nat.reduceEqDiff, Nat.reduceLT, Nat.reduceLeDiff, Nat.reduceAdd, Nat.reduceSub, Nat.reduceMul, Nat.reduceBEq, reduceCtorEq, if_false, if_true, L_law16_known, hs_o1, hs_o2, encReplyV]
    obtain ⟨q10, hg_q10⟩ : ∃ q : Nat, H.length = q := ⟨_, rfl⟩
    try rw [hg_q10]
    obtain ⟨t16, hy16, h⟩ := bnd' h
    refine UX_of (AX.weak ?_ (WxH.refl _) (law16_known_p1_ok (F := F) (r6 := r6) (r9 := r9) (r5 := r5) (r8 := r8) (t15 := t16) (q10 := q10) ((Fr.set (s := q10) (Fr.app (Fr.set (s := q4) (Fr.set (s := q3) hfr (.inr (by first | assumption | omega | (simp only [h_sl, h_al] <;> omega) | fail))) (.inr (by first | assumption | omega | (simp only [h_sl, h_al] <;> omega) | fail)))) (.inr (by first | assumption | omega | (simp only [h_sl, h_al] <;> omega) | fail)))) ((h_eq (by first | assumption | omega | (simp only [h_sl, h_al] <;> omega) | fail)).trans rfl) (by first | assumption | omega | (simp only [h_sl, h_al] <;> omega) | fail) hy16 ?_))
    · exact WE.cons (Wx.bool) (WE.cons (Wx.nn) (WE.cons (Wx.int) (WE.cons (Wx.ptr) (WE.cons (Wx.int) (WE.nil)))))
    intro H hfr hs_o3
    have hle := hfr.le
    have hl_o3 := h_lt hs_o3
    simp (disch := first | assumption | omega | (simp only [h_sl, h_al] <;> omega) | fail) only [WW, WH, ↓reduceIte, Nat.reduceEqDiff, Nat.reduceLT, Nat.reduceLeDiff, Nat.reduceAdd, Nat.reduceSub, Nat.reduceMul, Nat.reduceBEq, reduceCtorEq, if_false, if_true, L_law16_known, hs_o3, encReplyV]
    have hq := Option.some.inj h; subst hq
    refine hK0 _ _ _ (.inr rfl) ?_
    exact fn_end0 (by exact hfr) hcl (resv_tmp (a := (.bool t16)) rfl rfl resv_nil) (by simp [fin, AV.df, AV.sh, AV.sh1, b_df, b_sh, b_sh1, b_Cl]) (Wx.bool) (r' := (.bool t16)) ⟨rfl, rfl⟩

/-! ### mailbag/mailbagref16.text -/
def c_ref16_text_p1 : ACode := (.rg [⟨(some 13), (.mv (.t 0)), none⟩, ⟨(some 14), (.mv (.t 3)), none⟩, ⟨(some 15), (.ixs (.t 13) (.t 14)), none⟩, ⟨(some 16), (.bin .lss (.t 15) (.c (b8 32))), none⟩, ⟨(some 17), (.mv (.t 16)), none⟩, ⟨(some 18), (.mv (.t 0)), (some (17, false))⟩, ⟨(some 19), (.mv (.t 3)), (some (17, false))⟩, ⟨(some 20), (.ixs (.t 18) (.t 19)), (some (17, false))⟩, ⟨(some 21), (.bin .gtr (.t 20) (.c (b8 126))), (some (17, false))⟩, ⟨(some 22), (.pick (.t 17) (.c (.bool true)) (.t 21)), none⟩])
abbrev m_ref16_text_p1 := c_ref16_text_p1
def c_ref16_text_l1b : ACode := (.seq (.seq (.rg [⟨(some 7), (.mv (.t 3)), none⟩, ⟨(some 8), (.mv (.t 0)), none⟩, ⟨(some 9), (.lens (.t 8)), none⟩, ⟨(some 10), (.bin .lss (.t 7) (.t 9)), none⟩]) (.cond (.t 10) .skip (.exit 0))) (.seq (.blk 1 (.seq c_ref16_text_p1 (.cond (.t 22) (.seq (.rg [⟨(some 2), (.asg (.c (.bool false))), none⟩]) .ret) .skip))) (.rg [⟨(some 11), (.mv (.t 3)), none⟩, ⟨(some 12), (.bin .add (.t 11) (.c (.int .i64 1))), none⟩, ⟨(some 3), (.asg (.t 12)), none⟩])))
def c_ref16_text_l1 : ACode := (.loop c_ref16_text_l1b)
def m_ref16_text_l1b : ACode := (.seq (.seq (.rg [⟨(some 7), (.mv (.t 3)), none⟩, ⟨(some 8), (.mv (.t 0)), none⟩, ⟨(some 9), (.lens (.t 8)), none⟩, ⟨(some 10), (.bin .lss (.t 7) (.t 9)), none⟩]) (.cond (.t 10) .skip (.exit 0))) (.seq (.blk 1 (.seq (.sem c_ref16_text_p1) (.cond (.t 22) (.seq (.rg [⟨(some 2), (.asg (.c (.bool false))), none⟩]) .ret) .skip))) (.rg [⟨(some 11), (.mv (.t 3)), none⟩, ⟨(some 12), (.bin .add (.t 11) (.c (.int .i64 1))), none⟩, ⟨(some 3), (.asg (.t 12)), none⟩])))
def c_ref16_text : ACode := (.seq (.rg [⟨(some 2), (.asg (.c (.bool false))), none⟩]) (.seq (.seq (.rg [⟨(some 4), (.mv (.t 0)), none⟩, ⟨(some 5), (.lens (.t 4)), none⟩, ⟨(some 6), (.bin .gtr (.t 5) (.c (.int .i64 480))), none⟩]) (.cond (.t 6) (.seq (.rg [⟨(some 2), (.asg (.c (.bool false))), none⟩]) .ret) .skip)) (.seq (.seq (.rg [⟨(some 3), (.asg (.c (.int .i64 0))), none⟩]) (.blk 0 c_ref16_text_l1)) (.seq (.rg [⟨(some 2), (.asg (.c (.bool true))), none⟩]) .ret))))
abbrev m_ref16_text := c_ref16_text
theorem k_ref16_text : FnOk Tryd.prog 39 23 [(.tmp 2)] c_ref16_text := ⟨Tryd.f39, _, rfl, by decide, rfl, by kernel_rfl, rfl, rfl⟩
abbrev L_ref16_text : List Nat := [0, 2, 3, 6, 10, 22]
def ref16_text_p1 (s1 : List UInt8) (i2 : Int) : Option (Bool) :=
  (idx s1 i2).bind fun x3 =>
  (if (decide (x3 < 32)) then
    some true
  else
    some (decide (126 < x3)))
def ref16_text_l1 (s1 : List UInt8) : Int → Option (St Bool Unit Int)
  | i2 =>
    (if (decide (i2 < (s1.length : Int))) then
      (ref16_text_p1 s1 i2).bind fun t5 =>
      (if t5 then
        some (.ret false)
      else
        some (.nxt (IntKind.wrap .i64 (i2 + 1))))
    else
      some (.brk ()))
def ref16_text (F : Nat) (s1 : List UInt8) : Option (Bool) :=
  (if (decide (480 < (s1.length : Int))) then
    some false
  else
    ((iter (ref16_text_l1 s1) F 0).bind fun o8 =>
    match o8 with
    | .inr () =>
      some true
    | .inl r7 =>
      some r7))
set_option maxHeartbeats 2000000 in
theorem ref16_text_p1_ok {s1 : List UInt8} {i2 : Int} {H : AH}  {K : Exit → Env → AH → Prop} {t4 : Bool}
    (h : ref16_text_p1 s1 i2 = some t4)
    (kn : K .normal [(0, (.str s1)), (3, (.int .i64 i2)), (22, (.bool t4))] H) :
    AX Tryd.prog L_ref16_text 23 H.length c_ref16_text_p1 K [(0, (.str s1)), (3, (.int .i64 i2))] H := by
  refine AX.go (m := m_ref16_text_p1) rfl (by decide) fun K' hK => ?_
  rw [ref16_text_p1.eq_1] at h
  obtain ⟨x3, hy3, h⟩ := bnd' h
  simp only [WW, ↓reduceIte, Nat.reduceEqDiff, Nat.reduceLT, Nat.reduceLeDiff, Nat.reduceAdd, Nat.reduceSub, Nat.reduceMul, Nat.reduceBEq, reduceCtorEq, if_false, if_true, L_ref16_text, m_ref16_text_p1, c_ref16_text_p1, hy3, encReplyV]
  rcases ifb h with ⟨hy4, h⟩ | ⟨hy4, h⟩
  · refine UG_nf hy4 ?_
    simp only [WW, ↓reduceIte, Nat.reduceEqDiff, Nat.reduceLT, Nat.reduceLeDiff, Nat.reduceAdd, Nat.reduceSub, Nat.reduceMul, Nat.reduceBEq, reduceCtorEq, if_false, if_true, L_ref16_text, hy4, encReplyV]
    have hq := Option.some.inj h; subst hq
    refine hK _ _ _ _ _ ?_ (WxH.refl _) (kn )
    exact WE.cons (Wx.str) (WE.cons (Wx.int) (WE.cons (Wx.bool) (WE.nil)))
  · refine UG_go hy4 ?_
    simp only [WW, ↓reduceIte, Nat.reduceEqDiff, Nat.reduceLT, Nat.reduceLeDiff, Nat.reduceAdd, Nat.reduceSub, Nat.reduceMul, Nat.reduceBEq, reduceCtorEq, if_false, if_true, L_ref16_text, hy4, hy3, encReplyV]
    have hq := Option.some.inj h; subst hq
    refine hK _ _ _ _ _ ?_ (WxH.refl _) (kn )
    exact WE.cons (Wx.str) (WE.cons (Wx.int) (WE.cons (Wx.bool) (WE.nil)))
set_option maxHeartbeats 2000000 in
theorem ref16_text_l1_ok {F : Nat} {i2 : Int} {s1 : List UInt8} {H : AH}  {K : Exit → Env → AH → Prop} {o : (Bool) ⊕ (Unit)}
    (h : iter (ref16_text_l1 s1) F i2 = some o)
    (kb0 : ∀ o' : Unit, o = .inr o' → K (.exit 0) [] H)
    (kr : ∀ o' : Bool, o = .inl o' → K .ret [(2, (.bool o'))] H) :
    AX Tryd.prog L_ref16_text 23 H.length c_ref16_text_l1 K [(0, (.str s1)), (3, (.int .i64 i2))] H := by
  refine AX.iter (m := m_ref16_text_l1b) rfl (by decide) (fun s e H1 => match s with | i2 => e = [(0, (.str s1)), (3, (.int .i64 i2))] ∧ H1 = H) h ⟨rfl, rfl⟩ ?_
  rintro K' i2 st e H ⟨rfl, rfl⟩ h hN hB hR hX
  rw [ref16_text_l1.eq_1] at h
  simp only [WW, ↓reduceIte, Nat.reduceEqDiff, Nat.reduceLT, Nat.reduceLeDiff, Nat.reduceAdd, Nat.reduceSub, Nat.reduceMul, Nat.reduceBEq, reduceCtorEq, if_false, if_true, L_ref16_text, m_ref16_text_l1b, encReplyV]
  rcases ifb h with ⟨hy2, h⟩ | ⟨hy2, h⟩
  · refine UC_t hy2 ?_
    simp only [WW, ↓reduceIte, Nat.reduceEqDiff, Nat.reduceLT, Nat.reduceLeDiff, Nat.reduceAdd, Nat.reduceSub, Nat.reduceMul, Nat.reduceBEq, reduceCtorEq, if_false, if_true, L_ref16_text, encReplyV]
    obtain ⟨t5, hy5, h⟩ := bnd' h
    refine UX_of (AX.weak ?_ (WxH.refl _) (ref16_text_p1_ok  (s1 := s1) (i2 := i2) (t4 := t5)   hy5 ?_))
    · exact WE.cons (Wx.str) (WE.cons (Wx.int) (WE.nil))
    simp only [WW, ↓reduceIte, Nat.reduceEqDiff, Nat.reduceLT, Nat.reduceLeDiff, Nat.reduceAdd, Nat.reduceSub, Nat.reduceMul, Nat.reduceBEq, reduceCtorEq, if_false, if_true, L_ref16_text, encReplyV]
    rcases ifb h with ⟨hy6, h⟩ | ⟨hy6, h⟩
    · refine UC_t hy6 ?_
      simp only [WW, ↓reduceIte, Nat.reduceEqDiff, Nat.reduceLT, Nat.reduceLeDiff, Nat.reduceAdd, Nat.reduceSub, Nat.reduceMul, Nat.reduceBEq, reduceCtorEq, if_false, if_true, L_ref16_text, encReplyV]
      have hq := Option.some.inj h; subst hq
      refine hX _ _ _ _ _ (by simp) ?_ (WxH.refl _) (kr _ (hR _ rfl) )
      exact WE.cons (Wx.bool) (WE.nil)
    · refine UC_f hy6 ?_
      simp only [WW, ↓reduceIte, Nat.reduceEqDiff, Nat.reduceLT, Nat.reduceLeDiff, Nat.reduceAdd, Nat.reduceSub, Nat.reduceMul, Nat.reduceBEq, reduceCtorEq, if_false, if_true, L_ref16_text, encReplyV]
      have hq := Option.some.inj h; subst hq
      refine hN _ rfl _ _ _ _ ?_ (WxH.refl _) ⟨rfl, rfl⟩
      exact WE.cons (Wx.str) (WE.cons (Wx.int) (WE.nil))
  · refine UC_f hy2 ?_
    simp only [WW, ↓reduceIte, Nat.reduceEqDiff, Nat.reduceLT, Nat.reduceLeDiff, Nat.reduceAdd, Nat.reduceSub, Nat.reduceMul, Nat.reduceBEq, reduceCtorEq, if_false, if_true, L_ref16_text, encReplyV]
    have hq := Option.some.inj h; subst hq
    refine hX _ _ _ _ _ (by simp) ?_ (WxH.refl _) (kb0 _ (hB _ rfl) )
    exact WE.nil
set_option maxHeartbeats 2000000 in
theorem ref16_text_ok {F : Nat} {s1 : List UInt8}  {H0 : AH}  {rz0 : Bool} (h : ref16_text F s1 = some rz0) :
    ACalls Tryd.prog 39 [(.str s1)] H0 fun v H' => v = (.bool rz0) ∧ H' = H0 := by
  refine ACalls.goX k_ref16_text (m := m_ref16_text) rfl L_ref16_text (by decide) (by simp) fun hcl K0 hK0 => ?_
  refine AX.of_U (m := m_ref16_text) rfl (by decide) ?_
  rw [ref16_text.eq_1] at h
  simp only [WW, ↓reduceIte, Nat.reduceEqDiff, Nat.reduceLT, Nat.reduceLeDiff, Nat.reduceAdd, Nat.reduceSub, Nat.reduceMul, Nat.reduceBEq, reduceCtorEq, if_false, if_true, L_ref16_text, m_ref16_text, c_ref16_text, encReplyV]
  rcases ifb h with ⟨hy1, h⟩ | ⟨hy1, h⟩
  · refine UC_t hy1 ?_
    simp only [WW, ↓reduceIte, Nat.reduceEqDiff, Nat.reduceLT, Nat.reduceLeDiff, Nat.reduceAdd, Nat.reduceSub, Nat.reduceMul, Nat.reduceBEq, reduceCtorEq, if_false, if_true, L_ref16_text, encReplyV]
    have hq := Option.some.inj h; subst hq
    refine hK0 _ _ _ (.inr rfl) ?_
    exact fn_endp hcl (resv_tmp (a := (.bool false)) rfl rfl resv_nil) (by simp [fin, AV.df, AV.sh, AV.sh1, b_df, b_sh, b_sh1, b_Cl]) (Wx.bool) (r' := (.bool false)) ⟨rfl, rfl⟩
  · refine UC_f hy1 ?_
    simp only [WW, ↓reduceIte, Nat.reduceEqDiff, Nat.reduceLT, Nat.reduceLeDiff, Nat.reduceAdd, Nat.reduceSub, Nat.reduceMul, Nat.reduceBEq, reduceCtorEq, if_false, if_true, L_ref16_text, encReplyV]
    obtain ⟨o8, hy7, h⟩ := bnd' h
    refine UX_of (AX.weak ?_ (WxH.refl _) (ref16_text_l1_ok  (s1 := s1) (i2 := 0)   (o := o8) hy7 ?_ ?_))
    · exact WE.cons (Wx.str) (WE.cons (Wx.int) (WE.nil))
    · rintro ⟨⟩ rfl  
      try dsimp only at h 
      simp only [WW, ↓reduceIte, Nat.reduceEqDiff, Nat.reduceLT, Nat.reduceLeDiff, Nat.reduceAdd, Nat.reduceSub, Nat.reduceMul, Nat.reduceBEq, reduceCtorEq, if_false, if_true, L_ref16_text, encReplyV]
      have hq := Option.some.inj h; subst hq
      refine hK0 _ _ _ (.inr rfl) ?_
      exact fn_endp hcl (resv_tmp (a := (.bool true)) rfl rfl resv_nil) (by simp [fin, AV.df, AV.sh, AV.sh1, b_df, b_sh, b_sh1, b_Cl]) (Wx.bool) (r' := (.bool true)) ⟨rfl, rfl⟩
    · rintro r7 rfl  
      try dsimp only at h 
      simp only [WW, ↓reduceIte, Nat.reduceEqDiff, Nat.reduceLT, Nat.reduceLeDiff, Nat.reduceAdd, Nat.reduceSub, Nat.reduceMul, Nat.reduceBEq, reduceCtorEq, if_false, if_true, L_ref16_text, encReplyV]
      have hq := Option.some.inj h; subst hq
      refine hK0 _ _ _ (.inr rfl) ?_
      exact fn_endp hcl (resv_tmp (a := (.bool r7)) rfl rfl resv_nil) (by simp [fin, AV.df, AV.sh, AV.sh1, b_df, b_sh, b_sh1, b_Cl]) (Wx.bool) (r' := (.bool r7)) ⟨rfl, rfl⟩

/-! ### mailbag/mailbaglaw16.Of -/
def c_law16_Of : ACode := (.seq (.rg [⟨(some 1), (.box (.t 0)), none⟩, ⟨(some 2), (.alloc [(.int .i64 0), (.sl .ex 1 [])]), none⟩]) (.seq (.rg [⟨(some 3), (.ld (.t 1) (some 2)), none⟩, ⟨none, (.st (.t 2) (.t 3) 2), none⟩]) .ret))
abbrev m_law16_Of := c_law16_Of
theorem k_law16_Of : FnOk Tryd.prog 20 4 [(.cell 2 46)] c_law16_Of := ⟨Tryd.f20, _, rfl, by decide, rfl, by kernel_rfl, rfl, rfl⟩
abbrev L_law16_Of : List Nat := [0, 1, 2]
def law16_Of (r1 : ReplyV) : Option (ReplyV) :=
  some r1
set_option maxHeartbeats 2000000 in
theorem law16_Of_ok {r1 : ReplyV}  {H0 : AH}  {rz0 : ReplyV} (h : law16_Of r1 = some rz0) :
    ACalls Tryd.prog 20 [(.agg [(.int .i64 r1.code), (.sl .n 1 (ml AV.str r1.lines))])] H0 fun v H' => v = (.agg [(.int .i64 rz0.code), (.sl .n 1 (ml AV.str rz0.lines))]) ∧ H' = H0 := by
  refine ACalls.goX k_law16_Of (m := m_law16_Of) rfl L_law16_Of (by decide) (by simp) fun hcl K0 hK0 => ?_
  refine AX.of_U (m := m_law16_Of) rfl (by decide) ?_
  have hfr := Fr.refl H0 []
  have hle := hfr.le
  rw [law16_Of.eq_1] at h
  obtain ⟨H, hHH⟩ : ∃ H, H = H0 := ⟨_, rfl⟩
  have hfr : Fr H0 H0.length [] H := hHH ▸ hfr
  have hle := hfr.le
  suffices hU : U Tryd.prog L_law16_Of 4 H0.length [.code m_law16_Of] K0 .normal (argE 0 [(.agg [(.int .i64 r1.code), (.sl .n 1 (ml AV.str r1.lines))])]) H by rwa [hHH] at hU
  simp (disch := first | assumption | omega | (simp only [h_sl, h_al] <;> omega) | fail) only [WW, WH, ↓reduceIte, Nat.reduceEqDiff, Nat.reduceLT, Nat.reduceLeDiff, Nat.reduceAdd, Nat.reduceSub, Nat.reduceMul, Nat.reduceBEq, reduceCtorEq, if_false, if_true, L_law16_Of, m_law16_Of, c_law16_Of, encReplyV]
  have hq := Option.some.inj h; subst hq
  refine hK0 _ _ _ (.inr rfl) ?_
  exact fn_end0 (by exact (Fr.set (s := (H.length + 1)) (Fr.app (Fr.app hfr)) (.inr (by first | assumption | omega | (simp only [h_sl, h_al] <;> omega) | fail)))) hcl (resv_cell (cs := [(.int .i64 r1.code), (.sl .n 1 (ml AV.str r1.lines))]) (v := (.agg [(.int .i64 r1.code), (.sl .n 1 (ml AV.str r1.lines))])) (by kernel_rfl) (n := (some 2)) (by kernel_rfl) rfl (by exact ((h_eq (by first | assumption | omega | (simp only [h_sl, h_al] <;> omega) | fail)).trans rfl)) (by simp [loadc_n, loadc_1, ld1, allFlat, AV.flat, b_flat, b_sh1, AV.sh1, Tg.sh]) resv_nil) (by simp [fin, AV.df, AV.sh, AV.sh1, b_df, b_sh, b_sh1, b_Cl]) (Wx.agg (W1L.same (W1L.same (W1L.nil)))) (r' := (.agg [(.int .i64 r1.code), (.sl .n 1 (ml AV.str r1.lines))])) ⟨rfl, rfl⟩

/-! ### mailbag/mailbagref16.Same -/
def c_ref16_Same_p1 : ACode := (.rg [⟨(some 6), (.fld (.t 2) 0), none⟩, ⟨(some 7), (.ld (.t 6) none), none⟩, ⟨(some 8), (.fld (.t 3) 0), none⟩, ⟨(some 9), (.ld (.t 8) none), none⟩, ⟨(some 10), (.bin .neq (.t 7) (.t 9)), none⟩, ⟨(some 11), (.mv (.t 10)), none⟩, ⟨(some 12), (.fld (.t 2) 1), (some (11, false))⟩, ⟨(some 13), (.ld (.t 12) none), (some (11, false))⟩, ⟨(some 14), (.len (.t 13)), (some (11, false))⟩, ⟨(some 15), (.fld (.t 3) 1), (some (11, false))⟩, ⟨(some 16), (.ld (.t 15) none), (some (11, false))⟩, ⟨(some 17), (.len (.t 16)), (some (11, false))⟩, ⟨(some 18), (.bin .neq (.t 14) (.t 17)), (some (11, false))⟩, ⟨(some 19), (.pick (.t 11) (.c (.bool true)) (.t 18)), none⟩])
abbrev m_ref16_Same_p1 := c_ref16_Same_p1
def c_ref16_Same_l1b : ACode := (.seq (.seq (.rg [⟨(some 20), (.mv (.t 5)), none⟩, ⟨(some 21), (.fld (.t 2) 1), none⟩, ⟨(some 22), (.ld (.t 21) none), none⟩, ⟨(some 23), (.len (.t 22)), none⟩, ⟨(some 24), (.bin .lss (.t 20) (.t 23)), none⟩]) (.cond (.t 24) .skip (.exit 0))) (.seq (.blk 1 (.seq (.rg [⟨(some 27), (.fld (.t 2) 1), none⟩, ⟨(some 28), (.ld (.t 27) none), none⟩, ⟨(some 29), (.mv (.t 5)), none⟩, ⟨(some 30), (.ixa 1 (.t 28) (.t 29)), none⟩, ⟨(some 31), (.ld (.t 30) none), none⟩, ⟨(some 32), (.fld (.t 3) 1), none⟩, ⟨(some 33), (.ld (.t 32) none), none⟩, ⟨(some 34), (.mv (.t 5)), none⟩, ⟨(some 35), (.ixa 1 (.t 33) (.t 34)), none⟩, ⟨(some 36), (.ld (.t 35) none), none⟩, ⟨(some 37), (.bin .neq (.t 31) (.t 36)), none⟩]) (.cond (.t 37) (.seq (.rg [⟨(some 4), (.asg (.c (.bool false))), none⟩]) .ret) .skip))) (.rg [⟨(some 25), (.mv (.t 5)), none⟩, ⟨(some 26), (.bin .add (.t 25) (.c (.int .i64 1))), none⟩, ⟨(some 5), (.asg (.t 26)), none⟩])))
def c_ref16_Same_l1 : ACode := (.loop c_ref16_Same_l1b)
abbrev m_ref16_Same_l1b := c_ref16_Same_l1b
def c_ref16_Same : ACode := (.seq (.rg [⟨(some 2), (.box (.t 0)), none⟩, ⟨(some 3), (.box (.t 1)), none⟩, ⟨(some 4), (.asg (.c (.bool false))), none⟩]) (.seq (.seq c_ref16_Same_p1 (.cond (.t 19) (.seq (.rg [⟨(some 4), (.asg (.c (.bool false))), none⟩]) .ret) .skip)) (.seq (.seq (.rg [⟨(some 5), (.asg (.c (.int .i64 0))), none⟩]) (.blk 0 c_ref16_Same_l1)) (.seq (.rg [⟨(some 4), (.asg (.c (.bool true))), none⟩]) .ret))))
def m_ref16_Same : ACode := (.seq (.rg [⟨(some 2), (.box (.t 0)), none⟩, ⟨(some 3), (.box (.t 1)), none⟩, ⟨(some 4), (.asg (.c (.bool false))), none⟩]) (.seq (.seq (.sem c_ref16_Same_p1) (.cond (.t 19) (.seq (.rg [⟨(some 4), (.asg (.c (.bool false))), none⟩]) .ret) .skip)) (.seq (.seq (.rg [⟨(some 5), (.asg (.c (.int .i64 0))), none⟩]) (.blk 0 c_ref16_Same_l1)) (.seq (.rg [⟨(some 4), (.asg (.c (.bool true))), none⟩]) .ret))))
theorem k_ref16_Same : FnOk Tryd.prog 19 38 [(.tmp 4)] c_ref16_Same := ⟨Tryd.f19, _, rfl, by decide, rfl, by kernel_rfl, rfl, rfl⟩
abbrev L_ref16_Same : List Nat := [0, 1, 2, 3, 4, 5, 19, 24, 37]
def ref16_Same_l1 (a1 : ReplyV) (b2 : ReplyV) : Int → Option (St Bool Unit Int)
  | i7 =>
    (if (decide (i7 < (a1.lines.length : Int))) then
      (idx a1.lines i7).bind fun x8 =>
      (idx b2.lines i7).bind fun x9 =>
      (if (!decide (x8 = x9)) then
        some (.ret false)
      else
        some (.nxt (IntKind.wrap .i64 (i7 + 1))))
    else
      some (.brk ()))
def ref16_Same (F : Nat) (a1 : ReplyV) (b2 : ReplyV) : Option (Bool) :=
  (if ((!decide (a1.code = b2.code)) || (!decide ((a1.lines.length : Int) = (b2.lines.length : Int)))) then
    some false
  else
    ((iter (ref16_Same_l1 a1 b2) F 0).bind fun o12 =>
    match o12 with
    | .inr () =>
      some true
    | .inl r11 =>
      some r11))
set_option maxHeartbeats 2000000 in
theorem ref16_Same_p1_ok {q3 : Nat} {q4 : Nat} {a1 : ReplyV} {b2 : ReplyV} {H0 H : AH} (hfr : Fr H0 H0.length [] H) (hs_o1 : H[q3]? = some [(.int .i64 a1.code), (.sl .n 1 (ml AV.str a1.lines))]) (hs_o2 : H[q4]? = some [(.int .i64 b2.code), (.sl .n 1 (ml AV.str b2.lines))]) (hi0 : H0.length ≤ q3) (hi1 : H0.length ≤ q4) (hi2 : q3 ≠ q4) {K : Exit → Env → AH → Prop}
    (kn : ∀ H' : AH, Fr H0 H0.length [] H' → H'[q3]? = some [(.int .i64 a1.code), (.sl .n 1 (ml AV.str a1.lines))] → H'[q4]? = some [(.int .i64 b2.code), (.sl .n 1 (ml AV.str b2.lines))] → K .normal [(2, (.ptr q3 0)), (3, (.ptr q4 0)), (19, (.bool ((!decide (a1.code = b2.code)) || (!decide ((a1.lines.length : Int) = (b2.lines.length : Int))))))] H') :
    AX Tryd.prog L_ref16_Same 38 H0.length c_ref16_Same_p1 K [(2, (.ptr q3 0)), (3, (.ptr q4 0))] H := by
  refine AX.go (m := m_ref16_Same_p1) rfl (by decide) fun K' hK => ?_
  have hle := hfr.le
  have hl_o1 := h_lt hs_o1
  have hl_o2 := h_lt hs_o2
  simp (disch := first | assumption | omega | (simp only [h_sl, h_al] <;> omega) | fail) only [WW, WH, ↓reduceIte, Nat.reduceEqDiff, Nat.reduceLT, Nat.reduceLeDiff, Nat.reduceAdd, Nat.reduceSub, Nat.reduceMul, Nat.reduceBEq, reduceCtorEq, if_false, if_true, L_ref16_Same, m_ref16_Same_p1, c_ref16_Same_p1, hs_o1, hs_o2, encReplyV]
  rcases bcases ((!decide (a1.code = b2.code))) with hy1 | hy1
  · refine UG_nf hy1 ?_
    simp (disch := first | assumption | omega | (simp only [h_sl, h_al] <;> omega) | fail) only [WW, WH, ↓reduceIte, Nat.reduceEqDiff, Nat.reduceLT, Nat.reduceLeDiff, Nat.reduceAdd, Nat.reduceSub, Nat.reduceMul, Nat.reduceBEq, reduceCtorEq, if_false, if_true, L_ref16_Same, hy1, hs_o1, hs_o2, encReplyV]
    refine hK _ _ _ _ _ ?_ (WxH.refl _) (kn _ hfr ((hs_o1).trans rfl) ((hs_o2).trans rfl))
    exact WE.cons (Wx.ptr) (WE.cons (Wx.ptr) (WE.cons (Wx.boolE (by simp only [hy1, WB])) (WE.nil)))
  · refine UG_go hy1 ?_
    simp (disch := first | assumption | omega | (simp only [h_sl, h_al] <;> omega) | fail) only [WW, WH, ↓reduceIte, Nat.reduceEqDiff, Nat.reduceLT, Nat.reduceLeDiff, Nat.reduceAdd, Nat.reduceSub, Nat.reduceMul, Nat.reduceBEq, reduceCtorEq, if_false, if_true, L_ref16_Same, hy1, hs_o1, hs_o2, encReplyV]
    refine hK _ _ _ _ _ ?_ (WxH.refl _) (kn _ hfr ((hs_o1).trans rfl) ((hs_o2).trans rfl))
    exact WE.cons (Wx.ptr) (WE.cons (Wx.ptr) (WE.cons (Wx.boolE (by simp only [hy1, WB])) (WE.nil)))
set_option maxHeartbeats 2000000 in
theorem ref16_Same_l1_ok {F : Nat} {i7 : Int} {a1 : ReplyV} {b2 : ReplyV} {q5 : Nat} {q6 : Nat} {H0 H : AH} (hfr : Fr H0 H0.length [] H) (hs_o1 : H[q5]? = some [(.int .i64 a1.code), (.sl .n 1 (ml AV.str a1.lines))]) (hs_o2 : H[q6]? = some [(.int .i64 b2.code), (.sl .n 1 (ml AV.str b2.lines))]) (hi0 : H0.length ≤ q5) (hi1 : H0.length ≤ q6) (hi2 : q5 ≠ q6) {K : Exit → Env → AH → Prop} {o : (Bool) ⊕ (Unit)}
    (h : iter (ref16_Same_l1 a1 b2) F i7 = some o)
    (kb0 : ∀ o' : Unit, o = .inr o' → ∀ H' : AH, Fr H0 H0.length [] H' → H'[q5]? = some [(.int .i64 a1.code), (.sl .n 1 (ml AV.str a1.lines))] → H'[q6]? = some [(.int .i64 b2.code), (.sl .n 1 (ml AV.str b2.lines))] → K (.exit 0) [] H')
    (kr : ∀ o' : Bool, o = .inl o' → ∀ H' : AH, Fr H0 H0.length [] H' → K .ret [(4, (.bool o'))] H') :
    AX Tryd.prog L_ref16_Same 38 H0.length c_ref16_Same_l1 K [(2, (.ptr q5 0)), (3, (.ptr q6 0)), (5, (.int .i64 i7))] H := by
  refine AX.iter (m := m_ref16_Same_l1b) rfl (by decide) (fun s e H1 => match s with | i7 => e = [(2, (.ptr q5 0)), (3, (.ptr q6 0)), (5, (.int .i64 i7))] ∧ Fr H0 H0.length [] H1 ∧ H1[q5]? = some [(.int .i64 a1.code), (.sl .n 1 (ml AV.str a1.lines))] ∧ H1[q6]? = some [(.int .i64 b2.code), (.sl .n 1 (ml AV.str b2.lines))]) h ⟨rfl, hfr, hs_o1, hs_o2⟩ ?_
  skip
  rintro K' i7 st e H ⟨rfl, hfr, hs_o1, hs_o2⟩ h hN hB hR hX
  have hle := hfr.le
  have hl_o1 := h_lt hs_o1
  have hl_o2 := h_lt hs_o2
  rw [ref16_Same_l1.eq_1] at h
  simp (disch := first | assumption | omega | (simp only [h_sl, h_al] <;> omega) | fail) only [WW, WH, ↓reduceIte, Nat.reduceEqDiff, Nat.reduceLT, Nat.reduceLeDiff, Nat.reduceAdd, Nat.reduceSub, Nat.reduceMul, Nat.reduceBEq, reduceCtorEq, if_false, if_true, L_ref16_Same, m_ref16_Same_l1b, c_ref16_Same_l1b, hs_o1, hs_o2, encReplyV]
  rcases ifb h with ⟨hy3, h⟩ | ⟨hy3, h⟩
  · refine UC_t hy3 ?_
    obtain ⟨x8, hy4, h⟩ := bnd' h
    obtain ⟨x9, hy5, h⟩ := bnd' h
    simp (disch := first | assumption | omega | (simp only [h_sl, h_al] <;> omega) | fail) only [WW, WH, ↓reduceIte, Nat.reduceEqDiff, Nat.reduceLT, Nat.reduceLeDiff, Nat.reduceAdd, Nat.reduceSub, Nat.reduceMul, Nat.reduceBEq, reduceCtorEq, if_false, if_true, L_ref16_Same, hy4, hy5, hs_o1, hs_o2, encReplyV]
    rcases ifb h with ⟨hy6, h⟩ | ⟨hy6, h⟩
    · refine UC_t hy6 ?_
      simp (disch := first | assumption | omega | (simp only [h_sl, h_al] <;> omega) | fail) only [WW, WH, ↓reduceIte, Nat.reduceEqDiff, Nat.reduceLT, Nat.reduceLeDiff, Nat.reduceAdd, Nat.reduceSub, Nat.reduceMul, Nat.reduceBEq, reduceCtorEq, if_false, if_true, L_ref16_Same, hs_o1, hs_o2, encReplyV]
      have hq := Option.some.inj h; subst hq
      refine hX _ _ _ _ _ (by simp) ?_ (WxH.refl _) (kr _ (hR _ rfl) _ hfr)
      exact WE.cons (Wx.bool) (WE.nil)
    · refine UC_f hy6 ?_
      simp (disch := first | assumption | omega | (simp only [h_sl, h_al] <;> omega) | fail) only [WW, WH, ↓reduceIte, Nat.reduceEqDiff, Nat.reduceLT, Nat.reduceLeDiff, Nat.reduceAdd, Nat.reduceSub, Nat.reduceMul, Nat.reduceBEq, reduceCtorEq, if_false, if_true, L_ref16_Same, hs_o1, hs_o2, encReplyV]
      have hq := Option.some.inj h; subst hq
      refine hN _ rfl _ _ _ _ ?_ (WxH.refl _) ⟨rfl, hfr, ((hs_o1).trans rfl), ((hs_o2).trans rfl)⟩
      exact WE.cons (Wx.ptr) (WE.cons (Wx.ptr) (WE.cons (Wx.int) (WE.nil)))
  · refine UC_f hy3 ?_
    simp (disch := first | assumption | omega | (simp only [h_sl, h_al] <;> omega) | fail) only [WW, WH, ↓reduceIte, Nat.reduceEqDiff, Nat.reduceLT, Nat.reduceLeDiff, Nat.reduceAdd, Nat.reduceSub, Nat.reduceMul, Nat.reduceBEq, reduceCtorEq, if_false, if_true, L_ref16_Same, hs_o1, hs_o2, encReplyV]
    have hq := Option.some.inj h; subst hq
    refine hX _ _ _ _ _ (by simp) ?_ (WxH.refl _) (kb0 _ (hB _ rfl) _ hfr ((hs_o1).trans rfl) ((hs_o2).trans rfl))
    exact WE.nil
set_option maxHeartbeats 2000000 in
theorem ref16_Same_ok {F : Nat} {a1 : ReplyV} {b2 : ReplyV}  {H0 : AH}  {rz0 : Bool} (h : ref16_Same F a1 b2 = some rz0) :
    ACalls Tryd.prog 19 [(.agg [(.int .i64 a1.code), (.sl .n 1 (ml AV.str a1.lines))]), (.agg [(.int .i64 b2.code), (.sl .n 1 (ml AV.str b2.lines))])] H0 fun v H' => v = (.bool rz0) ∧ H' = H0 := by
  refine ACalls.goX k_ref16_Same (m := m_ref16_Same) rfl L_ref16_Same (by decide) (by simp) fun hcl K0 hK0 => ?_
  refine AX.of_U (m := m_ref16_Same) rfl (by decide) ?_
  have hfr := Fr.refl H0 []
  have hle := hfr.le
  rw [ref16_Same.eq_1] at h
  obtain ⟨H, hHH⟩ : ∃ H, H = H0 := ⟨_, rfl⟩
  have hfr : Fr H0 H0.length [] H := hHH ▸ hfr
  have hle := hfr.le
  suffices hU : U Tryd.prog L_ref16_Same 38 H0.length [.code m_ref16_Same] K0 .normal (argE 0 [(.agg [(.int .i64 a1.code), (.sl .n 1 (ml AV.str a1.lines))]), (.agg [(.int .i64 b2.code), (.sl .n 1 (ml AV.str b2.lines))])]) H by rwa [hHH] at hU
  simp (disch := first | assumption | omega | (simp only [h_sl, h_al] <;> omega) | fail) only [WW, WH, ↓reduceIte, Nat.reduceEqDiff, Nat.reduceLT, Nat.reduceLeDiff, Nat.reduceAdd, Nat.reduceSub, Nat.reduceMul, Nat.reduceBEq, reduceCtorEq, if_false, if_true, L_ref16_Same, m_ref16_Same, encReplyV]
  obtain ⟨q4, hg_q4⟩ : ∃ q : Nat, (H.length + 1) = q := ⟨_, rfl⟩
  try rw [hg_q4]
  obtain ⟨q3, hg_q3⟩ : ∃ q : Nat, H.length = q := ⟨_, rfl⟩
  try rw [hg_q3]
  refine UX_of (AX.weak ?_ (WxH.refl _) (ref16_Same_p1_ok (q3 := q3) (q4 := q4) (a1 := a1) (b2 := b2) ((Fr.app (Fr.app hfr))) (((h_app (by first | assumption | omega | (simp only [h_sl, h_al] <;> omega) | fail)).trans (h_new' (by first | assumption | omega | (simp only [h_sl, h_al] <;> omega) | fail))).trans rfl) ((h_new' (by first | assumption | omega | (simp only [h_sl, h_al] <;> omega) | fail)).trans rfl) (by first | assumption | omega | (simp only [h_sl, h_al] <;> omega) | fail) (by first | assumption | omega | (simp only [h_sl, h_al] <;> omega) | fail) (by first | assumption | omega | (simp only [h_sl, h_al] <;> omega) | fail) ?_))
  · exact WE.cons (Wx.ptr) (WE.cons (Wx.ptr) (WE.nil))
  intro H hfr hs_o1 hs_o2
  have hle := hfr.le
  have hl_o1 := h_lt hs_o1
  have hl_o2 := h_lt hs_o2
  simp (disch := first | assumption | omega | (simp only [h_sl, h_al] <;> omega) | fail) only [WW, WH, ↓reduceIte, Nat.reduceEqDiff, Nat.reduceLT, Nat.reduceLeDiff, Nat.reduceAdd, Nat.reduceSub, Nat.reduceMul, Nat.reduceBEq, reduceCtorEq, if_false, if_true, L_ref16_Same, hs_o1, hs_o2, encReplyV]
  rcases ifb h with ⟨hy2, h⟩ | ⟨hy2, h⟩
  · refine UC_t hy2 ?_
    simp (disch := first | assumption | omega | (simp only [h_sl, h_al] <;> omega) | fail) only [WW, WH, ↓reduceIte, Nat.reduceEqDiff, Nat.reduceLT, Nat.reduceLeDiff, Nat.reduceAdd, Nat.reduceSub, Nat.reduceMul, Nat.reduceBEq, reduceCtorEq, if_false, if_true, L_ref16_Same, hs_o1, hs_o2, encReplyV]
    have hq := Option.some.inj h; subst hq
    refine hK0 _ _ _ (.inr rfl) ?_
    exact fn_end0 (by exact hfr) hcl (resv_tmp (a := (.bool false)) rfl rfl resv_nil) (by simp [fin, AV.df, AV.sh, AV.sh1, b_df, b_sh, b_sh1, b_Cl]) (Wx.bool) (r' := (.bool false)) ⟨rfl, rfl⟩
  · refine UC_f hy2 ?_
    simp (disch := first | assumption | omega | (simp only [h_sl, h_al] <;> omega) | fail) only [WW, WH, ↓reduceIte, Nat.reduceEqDiff, Nat.reduceLT, Nat.reduceLeDiff, Nat.reduceAdd, Nat.reduceSub, Nat.reduceMul, Nat.reduceBEq, reduceCtorEq, if_false, if_true, L_ref16_Same, hs_o1, hs_o2, encReplyV]
    obtain ⟨o12, hy7, h⟩ := bnd' h
    refine UX_of (AX.weak ?_ (WxH.refl _) (ref16_Same_l1_ok  (a1 := a1) (b2 := b2) (i7 := 0) (q5 := q3) (q6 := q4) (hfr) ((hs_o1).trans rfl) ((hs_o2).trans rfl) (by first | assumption | omega | (simp only [h_sl, h_al] <;> omega) | fail) (by first | assumption | omega | (simp only [h_sl, h_al] <;> omega) | fail) (by first | assumption | omega | (simp only [h_sl, h_al] <;> omega) | fail) (o := o12) hy7 ?_ ?_))
    · exact WE.cons (Wx.ptr) (WE.cons (Wx.ptr) (WE.cons (Wx.int) (WE.nil)))
    · rintro ⟨⟩ rfl H hfr hs_o1 hs_o2
      try dsimp only at h hs_o1 hs_o2
      have hle := hfr.le
      have hl_o1 := h_lt hs_o1
      have hl_o2 := h_lt hs_o2
      simp (disch := first | assumption | omega | (simp only [h_sl, h_al] <;> omega) | fail) only [WW, WH, ↓reduceIte, Nat.reduceEqDiff, Nat.reduceLT, Nat.reduceLeDiff, Nat.reduceAdd, Nat.reduceSub, Nat.reduceMul, Nat.reduceBEq, reduceCtorEq, if_false, if_true, L_ref16_Same, hs_o1, hs_o2, encReplyV]
      have hq := Option.some.inj h; subst hq
      refine hK0 _ _ _ (.inr rfl) ?_
      exact fn_end0 (by exact hfr) hcl (resv_tmp (a := (.bool true)) rfl rfl resv_nil) (by simp [fin, AV.df, AV.sh, AV.sh1, b_df, b_sh, b_sh1, b_Cl]) (Wx.bool) (r' := (.bool true)) ⟨rfl, rfl⟩
    · rintro r11 rfl H hfr
      try dsimp only at h 
      have hle := hfr.le
      simp (disch := first | assumption | omega | (simp only [h_sl, h_al] <;> omega) | fail) only [WW, WH, ↓reduceIte, Nat.reduceEqDiff, Nat.reduceLT, Nat.reduceLeDiff, Nat.reduceAdd, Nat.reduceSub, Nat.reduceMul, Nat.reduceBEq, reduceCtorEq, if_false, if_true, L_ref16_Same, encReplyV]
      have hq := Option.some.inj h; subst hq
      refine hK0 _ _ _ (.inr rfl) ?_
      exact fn_end0 (by exact hfr) hcl (resv_tmp (a := (.bool r11)) rfl rfl resv_nil) (by simp [fin, AV.df, AV.sh, AV.sh1, b_df, b_sh, b_sh1, b_Cl]) (Wx.bool) (r' := (.bool r11)) ⟨rfl, rfl⟩

/-! ### (*mailbag/reply.Reader).Held -/
def c_reply_Reader_Held_s : ACode := (.seq (.rg [⟨(some 2), (.asg (.c (.int .i64 0))), none⟩]) (.seq (.rg [⟨(some 3), (.mv (.t 0)), none⟩, ⟨(some 4), (.nck (.t 3)), none⟩, ⟨(some 5), (.fld (.t 4) 3), none⟩, ⟨(some 6), (.lde (.t 5) none), none⟩, ⟨(some 7), (.mv (.t 0)), none⟩, ⟨(some 8), (.nck (.t 7)), none⟩, ⟨(some 9), (.fld (.t 8) 0), none⟩, ⟨(some 10), (.lde (.t 9) none), none⟩, ⟨(some 11), (.call (.c (.fn 28 [])) [(.t 10)]), none⟩, ⟨(some 12), (.bin .add (.t 6) (.t 11)), none⟩, ⟨(some 2), (.asg (.t 12)), none⟩]) .ret))
abbrev m_reply_Reader_Held_s := c_reply_Reader_Held_s
theorem k_reply_Reader_Held_s : FnOk Tryd.prog 17 13 [(.tmp 2)] c_reply_Reader_Held_s := ⟨Tryd.f17, _, rfl, by decide, rfl, by kernel_rfl, rfl, rfl⟩
abbrev L_reply_Reader_Held_s : List Nat := [0, 2]
def reply_Reader_Held_s (r1 : ReaderV) : Option (Int) :=
  (line_Splitter_Held_s r1.splitter).bind fun r2 => some (IntKind.wrap .i64 (r1.n + r2))
set_option maxHeartbeats 2000000 in
theorem reply_Reader_Held_s_ok {r1 : ReaderV}  {H0 : AH}  {rz0 : Int} (h : reply_Reader_Held_s r1 = some rz0) :
    ACalls Tryd.prog 17 [(.ep (.agg [(.ep (.agg [(.int .i64 r1.splitter.most), (.sl .n 1 (ml b8 r1.splitter.b)), (.int .i64 r1.splitter.state), (.bool r1.splitter.long)]) 0), (.int .i64 r1.r.code), (.sl .n 1 (ml AV.str r1.r.lines)), (.int .i64 r1.n), (.bool r1.bad)]) 0)] H0 fun v H' => v = (.int .i64 rz0) ∧ H' = H0 := by
  refine ACalls.goX k_reply_Reader_Held_s (m := m_reply_Reader_Held_s) rfl L_reply_Reader_Held_s (by decide) (by simp) fun hcl K0 hK0 => ?_
  refine AX.of_U (m := m_reply_Reader_Held_s) rfl (by decide) ?_
  rw [reply_Reader_Held_s.eq_1] at h
  simp only [WW, ↓reduceIte, Nat.reduceEqDiff, Nat.reduceLT, Nat.reduceLeDiff, Nat.reduceAdd, Nat.reduceSub, Nat.reduceMul, Nat.reduceBEq, reduceCtorEq, if_false, if_true, L_reply_Reader_Held_s, m_reply_Reader_Held_s, c_reply_Reader_Held_s, encReplyV]
  obtain ⟨r2, hy1, h⟩ := bnd' h
  refine UK_e (as' := [(.ep (.agg [(.int .i64 r1.splitter.most), (.sl .n 1 (ml b8 r1.splitter.b)), (.int .i64 r1.splitter.state), (.bool r1.splitter.long)]) 0)]) (h := line_Splitter_Held_s_ok (s1 := r1.splitter)  hy1) (hw := WL.cons (Wx.ep) (WL.nil)) (hh := WxH.refl _) ?_
  simp only [WW, ↓reduceIte, Nat.reduceEqDiff, Nat.reduceLT, Nat.reduceLeDiff, Nat.reduceAdd, Nat.reduceSub, Nat.reduceMul, Nat.reduceBEq, reduceCtorEq, if_false, if_true, L_reply_Reader_Held_s, encReplyV]
  have hq := Option.some.inj h; subst hq
  refine hK0 _ _ _ (.inr rfl) ?_
  exact fn_endp hcl (resv_tmp (a := (.int .i64 (IntKind.wrap .i64 (r1.n + r2)))) rfl rfl resv_nil) (by simp [fin, AV.df, AV.sh, AV.sh1, b_df, b_sh, b_sh1, b_Cl]) (Wx.int) (r' := (.int .i64 (IntKind.wrap .i64 (r1.n + r2)))) ⟨rfl, rfl⟩

/-! ### mailbag/mailbaglaw16.Few -/
def c_law16_Few_l1b : ACode := (.seq (.seq (.rg [⟨(some 8), (.mv (.t 3)), none⟩, ⟨(some 9), (.fld (.t 1) 1), none⟩, ⟨(some 10), (.ld (.t 9) none), none⟩, ⟨(some 11), (.len (.t 10)), none⟩, ⟨(some 12), (.bin .lss (.t 8) (.t 11)), none⟩]) (.cond (.t 12) .skip (.exit 0))) (.seq (.blk 1 (.seq (.rg [⟨(some 15), (.fld (.t 1) 1), none⟩, ⟨(some 16), (.ld (.t 15) none), none⟩, ⟨(some 17), (.mv (.t 3)), none⟩, ⟨(some 18), (.ixa 1 (.t 16) (.t 17)), none⟩, ⟨(some 19), (.ld (.t 18) none), none⟩, ⟨(some 20), (.lens (.t 19)), none⟩, ⟨(some 21), (.bin .gtr (.t 20) (.c (.int .i64 700))), none⟩]) (.cond (.t 21) (.seq (.rg [⟨(some 2), (.asg (.c (.bool false))), none⟩]) .ret) .skip))) (.rg [⟨(some 13), (.mv (.t 3)), none⟩, ⟨(some 14), (.bin .add (.t 13) (.c (.int .i64 1))), none⟩, ⟨(some 3), (.asg (.t 14)), none⟩])))
def c_law16_Few_l1 : ACode := (.loop c_law16_Few_l1b)
abbrev m_law16_Few_l1b := c_law16_Few_l1b
def c_law16_Few : ACode := (.seq (.rg [⟨(some 1), (.box (.t 0)), none⟩, ⟨(some 2), (.asg (.c (.bool false))), none⟩]) (.seq (.seq (.rg [⟨(some 4), (.fld (.t 1) 1), none⟩, ⟨(some 5), (.ld (.t 4) none), none⟩, ⟨(some 6), (.len (.t 5)), none⟩, ⟨(some 7), (.bin .gtr (.t 6) (.c (.int .i64 40))), none⟩]) (.cond (.t 7) (.seq (.rg [⟨(some 2), (.asg (.c (.bool false))), none⟩]) .ret) .skip)) (.seq (.seq (.rg [⟨(some 3), (.asg (.c (.int .i64 0))), none⟩]) (.blk 0 c_law16_Few_l1)) (.seq (.rg [⟨(some 2), (.asg (.c (.bool true))), none⟩]) .ret))))
abbrev m_law16_Few := c_law16_Few
theorem k_law16_Few : FnOk Tryd.prog 21 22 [(.tmp 2)] c_law16_Few := ⟨Tryd.f21, _, rfl, by decide, rfl, by kernel_rfl, rfl, rfl⟩
abbrev L_law16_Few : List Nat := [0, 1, 2, 3, 7, 12, 21]
def law16_Few_l1 (r1 : ReplyV) : (Bool × Int) → Option (St Bool Unit (Bool × Int))
  | (t3, i4) =>
    (if (decide (i4 < (r1.lines.length : Int))) then
      (idx r1.lines i4).bind fun x5 =>
      (if (decide (700 < (x5.length : Int))) then
        some (.ret false)
      else
        some (.nxt (t3, (IntKind.wrap .i64 (i4 + 1)))))
    else
      some (.brk ()))
def law16_Few (F : Nat) (r1 : ReplyV) : Option (Bool) :=
  (if (decide (40 < (r1.lines.length : Int))) then
    some false
  else
    ((iter (law16_Few_l1 r1) F (false, 0)).bind fun o8 =>
    match o8 with
    | .inr () =>
      some true
    | .inl r7 =>
      some r7))
set_option maxHeartbeats 2000000 in
theorem law16_Few_l1_ok {F : Nat} {i4 : Int} {r1 : ReplyV} {t3 : Bool} {q2 : Nat} {H0 H : AH} (hfr : Fr H0 H0.length [] H) (hs_o1 : H[q2]? = some [(.int .i64 r1.code), (.sl .n 1 (ml AV.str r1.lines))]) (hi0 : H0.length ≤ q2) {K : Exit → Env → AH → Prop} {o : (Bool) ⊕ (Unit)}
    (h : iter (law16_Few_l1 r1) F (t3, i4) = some o)
    (kb0 : ∀ o' : Unit, o = .inr o' → ∀ H' : AH, Fr H0 H0.length [] H' → H'[q2]? = some [(.int .i64 r1.code), (.sl .n 1 (ml AV.str r1.lines))] → K (.exit 0) [] H')
    (kr : ∀ o' : Bool, o = .inl o' → ∀ H' : AH, Fr H0 H0.length [] H' → K .ret [(2, (.bool o'))] H') :
    AX Tryd.prog L_law16_Few 22 H0.length c_law16_Few_l1 K [(1, (.ptr q2 0)), (2, (.bool t3)), (3, (.int .i64 i4))] H := by
  refine AX.iter (m := m_law16_Few_l1b) rfl (by decide) (fun s e H1 => match s with | (t3, i4) => e = [(1, (.ptr q2 0)), (2, (.bool t3)), (3, (.int .i64 i4))] ∧ Fr H0 H0.length [] H1 ∧ H1[q2]? = some [(.int .i64 r1.code), (.sl .n 1 (ml AV.str r1.lines))]) h ⟨rfl, hfr, hs_o1⟩ ?_
  skip
  rintro K' ⟨t3, i4⟩ st e H ⟨rfl, hfr, hs_o1⟩ h hN hB hR hX
  have hle := hfr.le
  have hl_o1 := h_lt hs_o1
  rw [law16_Few_l1.eq_1] at h
  simp (disch := first | assumption | omega | (simp only [h_sl, h_al] <;> omega) | fail) only [WW, WH, ↓reduceIte, Nat.reduceEqDiff, Nat.reduceLT, Nat.reduceLeDiff, Nat.reduceAdd, Nat.reduceSub, Nat.reduceMul, Nat.reduceBEq, reduceCtorEq, if_false, if_true, L_law16_Few, m_law16_Few_l1b, c_law16_Few_l1b, hs_o1, encReplyV]
  rcases ifb h with ⟨hy2, h⟩ | ⟨hy2, h⟩
  · refine UC_t hy2 ?_
    obtain ⟨x5, hy3, h⟩ := bnd' h
    simp (disch := first | assumption | omega | (simp only [h_sl, h_al] <;> omega) | fail) only [WW, WH, ↓reduceIte, Nat.reduceEqDiff, Nat.reduceLT, Nat.reduceLeDiff, Nat.reduceAdd, Nat.reduceSub, Nat.reduceMul, Nat.reduceBEq, reduceCtorEq, if_false, if_true, L_law16_Few, hy3, hs_o1, encReplyV]
    rcases ifb h with ⟨hy4, h⟩ | ⟨hy4, h⟩
    · refine UC_t hy4 ?_
      simp (disch := first | assumption | omega | (simp only [h_sl, h_al] <;> omega) | fail) only [WW, WH, ↓reduceIte, Nat.reduceEqDiff, Nat.reduceLT, Nat.reduceLeDiff, Nat.reduceAdd, Nat.reduceSub, Nat.reduceMul, Nat.reduceBEq, reduceCtorEq, if_false, if_true, L_law16_Few, hs_o1, encReplyV]
      have hq := Option.some.inj h; subst hq
      refine hX _ _ _ _ _ (by simp) ?_ (WxH.refl _) (kr _ (hR _ rfl) _ hfr)
      exact WE.cons (Wx.bool) (WE.nil)
    · refine UC_f hy4 ?_
      simp (disch := first | assumption | omega | (simp only [h_sl, h_al] <;> omega) | fail) only [WW, WH, ↓reduceIte, Nat.reduceEqDiff, Nat.reduceLT, Nat.reduceLeDiff, Nat.reduceAdd, Nat.reduceSub, Nat.reduceMul, Nat.reduceBEq, reduceCtorEq, if_false, if_true, L_law16_Few, hs_o1, encReplyV]
      have hq := Option.some.inj h; subst hq
      refine hN _ rfl _ _ _ _ ?_ (WxH.refl _) ⟨rfl, hfr, ((hs_o1).trans rfl)⟩
      exact WE.cons (Wx.ptr) (WE.cons (Wx.bool) (WE.cons (Wx.int) (WE.nil)))
  · refine UC_f hy2 ?_
    simp (disch := first | assumption | omega | (simp only [h_sl, h_al] <;> omega) | fail) only [WW, WH, ↓reduceIte, Nat.reduceEqDiff, Nat.reduceLT, Nat.reduceLeDiff, Nat.reduceAdd, Nat.reduceSub, Nat.reduceMul, Nat.reduceBEq, reduceCtorEq, if_false, if_true, L_law16_Few, hs_o1, encReplyV]
    have hq := Option.some.inj h; subst hq
    refine hX _ _ _ _ _ (by simp) ?_ (WxH.refl _) (kb0 _ (hB _ rfl) _ hfr ((hs_o1).trans rfl))
    exact WE.nil
set_option maxHeartbeats 2000000 in
theorem law16_Few_ok {F : Nat} {r1 : ReplyV}  {H0 : AH}  {rz0 : Bool} (h : law16_Few F r1 = some rz0) :
    ACalls Tryd.prog 21 [(.agg [(.int .i64 r1.code), (.sl .n 1 (ml AV.str r1.lines))])] H0 fun v H' => v = (.bool rz0) ∧ H' = H0 := by
  refine ACalls.goX k_law16_Few (m := m_law16_Few) rfl L_law16_Few (by decide) (by simp) fun hcl K0 hK0 => ?_
  refine AX.of_U (m := m_law16_Few) rfl (by decide) ?_
  have hfr := Fr.refl H0 []
  have hle := hfr.le
  rw [law16_Few.eq_1] at h
  obtain ⟨H, hHH⟩ : ∃ H, H = H0 := ⟨_, rfl⟩
  have hfr : Fr H0 H0.length [] H := hHH ▸ hfr
  have hle := hfr.le
  suffices hU : U Tryd.prog L_law16_Few 22 H0.length [.code m_law16_Few] K0 .normal (argE 0 [(.agg [(.int .i64 r1.code), (.sl .n 1 (ml AV.str r1.lines))])]) H by rwa [hHH] at hU
  simp (disch := first | assumption | omega | (simp only [h_sl, h_al] <;> omega) | fail) only [WW, WH, ↓reduceIte, Nat.reduceEqDiff, Nat.reduceLT, Nat.reduceLeDiff, Nat.reduceAdd, Nat.reduceSub, Nat.reduceMul, Nat.reduceBEq, reduceCtorEq, if_false, if_true, L_law16_Few, m_law16_Few, c_law16_Few, encReplyV]
  rcases ifb h with ⟨hy1, h⟩ | ⟨hy1, h⟩
  · refine UC_t hy1 ?_
    simp (disch := first | assumption | omega | (simp only [h_sl, h_al] <;> omega) | fail) only [WW, WH, ↓reduceIte, Nat.reduceEqDiff, Nat.reduceLT, Nat.reduceLeDiff, Nat.reduceAdd, Nat.reduceSub, Nat.reduceMul, Nat.reduceBEq, reduceCtorEq, if_false, if_true, L_law16_Few, encReplyV]
    have hq := Option.some.inj h; subst hq
    refine hK0 _ _ _ (.inr rfl) ?_
    exact fn_end0 (by exact (Fr.app hfr)) hcl (resv_tmp (a := (.bool false)) rfl rfl resv_nil) (by simp [fin, AV.df, AV.sh, AV.sh1, b_df, b_sh, b_sh1, b_Cl]) (Wx.bool) (r' := (.bool false)) ⟨rfl, rfl⟩
  · refine UC_f hy1 ?_
    simp (disch := first | assumption | omega | (simp only [h_sl, h_al] <;> omega) | fail) only [WW, WH, ↓reduceIte, Nat.reduceEqDiff, Nat.reduceLT, Nat.reduceLeDiff, Nat.reduceAdd, Nat.reduceSub, Nat.reduceMul, Nat.reduceBEq, reduceCtorEq, if_false, if_true, L_law16_Few, encReplyV]
    obtain ⟨q2, hg_q2⟩ : ∃ q : Nat, H.length = q := ⟨_, rfl⟩
    try rw [hg_q2]
    obtain ⟨o8, hy5, h⟩ := bnd' h
    refine UX_of (AX.weak ?_ (WxH.refl _) (law16_Few_l1_ok  (r1 := r1) (t3 := false) (i4 := 0) (q2 := q2) ((Fr.app hfr)) ((h_new' (by first | assumption | omega | (simp only [h_sl, h_al] <;> omega) | fail)).trans rfl) (by first | assumption | omega | (simp only [h_sl, h_al] <;> omega) | fail) (o := o8) hy5 ?_ ?_))
    · exact WE.cons (Wx.ptr) (WE.cons (Wx.bool) (WE.cons (Wx.int) (WE.nil)))
    · rintro ⟨⟩ rfl H hfr hs_o1
      try dsimp only at h hs_o1
      have hle := hfr.le
      have hl_o1 := h_lt hs_o1
      simp (disch := first | assumption | omega | (simp only [h_sl, h_al] <;> omega) | fail) only [WW, WH, ↓reduceIte, Nat.reduceEqDiff, Nat.reduceLT, Nat.reduceLeDiff, Nat.reduceAdd, Nat.reduceSub, Nat.reduceMul, Nat.reduceBEq, reduceCtorEq, if_false, if_true, L_law16_Few, hs_o1, encReplyV]
      have hq := Option.some.inj h; subst hq
      refine hK0 _ _ _ (.inr rfl) ?_
      exact fn_end0 (by exact hfr) hcl (resv_tmp (a := (.bool true)) rfl rfl resv_nil) (by simp [fin, AV.df, AV.sh, AV.sh1, b_df, b_sh, b_sh1, b_Cl]) (Wx.bool) (r' := (.bool true)) ⟨rfl, rfl⟩
    · rintro r7 rfl H hfr
      try dsimp only at h 
      have hle := hfr.le
      simp (disch := first | assumption | omega | (simp only [h_sl, h_al] <;> omega) | fail) only [WW, WH, ↓reduceIte, Nat.reduceEqDiff, Nat.reduceLT, Nat.reduceLeDiff, Nat.reduceAdd, Nat.reduceSub, Nat.reduceMul, Nat.reduceBEq, reduceCtorEq, if_false, if_true, L_law16_Few, encReplyV]
      have hq := Option.some.inj h; subst hq
      refine hK0 _ _ _ (.inr rfl) ?_
      exact fn_end0 (by exact hfr) hcl (resv_tmp (a := (.bool r7)) rfl rfl resv_nil) (by simp [fin, AV.df, AV.sh, AV.sh1, b_df, b_sh, b_sh1, b_Cl]) (Wx.bool) (r' := (.bool r7)) ⟨rfl, rfl⟩

/-! ### mailbag/mailbagref16.Right -/
def c_ref16_Right_p1 : ACode := (.rg [⟨(some 4), (.fld (.t 1) 0), none⟩, ⟨(some 5), (.ld (.t 4) none), none⟩, ⟨(some 6), (.bin .lss (.t 5) (.c (.int .i64 200))), none⟩, ⟨(some 7), (.mv (.t 6)), none⟩, ⟨(some 8), (.fld (.t 1) 0), (some (7, false))⟩, ⟨(some 9), (.ld (.t 8) none), (some (7, false))⟩, ⟨(some 10), (.bin .gtr (.t 9) (.c (.int .i64 599))), (some (7, false))⟩, ⟨(some 11), (.pick (.t 7) (.c (.bool true)) (.t 10)), none⟩, ⟨(some 12), (.mv (.t 11)), none⟩, ⟨(some 13), (.fld (.t 1) 1), (some (12, false))⟩, ⟨(some 14), (.ld (.t 13) none), (some (12, false))⟩, ⟨(some 15), (.len (.t 14)), (some (12, false))⟩, ⟨(some 16), (.bin .lss (.t 15) (.c (.int .i64 1))), (some (12, false))⟩, ⟨(some 17), (.pick (.t 12) (.c (.bool true)) (.t 16)), none⟩, ⟨(some 18), (.mv (.t 17)), none⟩, ⟨(some 19), (.fld (.t 1) 1), (some (18, false))⟩, ⟨(some 20), (.ld (.t 19) none), (some (18, false))⟩, ⟨(some 21), (.len (.t 20)), (some (18, false))⟩, ⟨(some 22), (.bin .gtr (.t 21) (.c (.int .i64 20))), (some (18, false))⟩, ⟨(some 23), (.pick (.t 18) (.c (.bool true)) (.t 22)), none⟩])
abbrev m_ref16_Right_p1 := c_ref16_Right_p1
def c_ref16_Right_l1b : ACode := (.seq (.seq (.rg [⟨(some 24), (.mv (.t 3)), none⟩, ⟨(some 25), (.fld (.t 1) 1), none⟩, ⟨(some 26), (.ld (.t 25) none), none⟩, ⟨(some 27), (.len (.t 26)), none⟩, ⟨(some 28), (.bin .lss (.t 24) (.t 27)), none⟩]) (.cond (.t 28) .skip (.exit 0))) (.seq (.blk 1 (.seq (.rg [⟨(some 31), (.fld (.t 1) 1), none⟩, ⟨(some 32), (.ld (.t 31) none), none⟩, ⟨(some 33), (.mv (.t 3)), none⟩, ⟨(some 34), (.ixa 1 (.t 32) (.t 33)), none⟩, ⟨(some 35), (.ld (.t 34) none), none⟩, ⟨(some 36), (.call (.c (.fn 39 [])) [(.t 35)]), none⟩, ⟨(some 37), (.un .not (.t 36)), none⟩]) (.cond (.t 37) (.seq (.rg [⟨(some 2), (.asg (.c (.bool false))), none⟩]) .ret) .skip))) (.rg [⟨(some 29), (.mv (.t 3)), none⟩, ⟨(some 30), (.bin .add (.t 29) (.c (.int .i64 1))), none⟩, ⟨(some 3), (.asg (.t 30)), none⟩])))
def c_ref16_Right_l1 : ACode := (.loop c_ref16_Right_l1b)
abbrev m_ref16_Right_l1b := c_ref16_Right_l1b
def c_ref16_Right : ACode := (.seq (.rg [⟨(some 1), (.box (.t 0)), none⟩, ⟨(some 2), (.asg (.c (.bool false))), none⟩]) (.seq (.seq c_ref16_Right_p1 (.cond (.t 23) (.seq (.rg [⟨(some 2), (.asg (.c (.bool false))), none⟩]) .ret) .skip)) (.seq (.seq (.rg [⟨(some 3), (.asg (.c (.int .i64 0))), none⟩]) (.blk 0 c_ref16_Right_l1)) (.seq (.rg [⟨(some 2), (.asg (.c (.bool true))), none⟩]) .ret))))
def m_ref16_Right : ACode := (.seq (.rg [⟨(some 1), (.box (.t 0)), none⟩, ⟨(some 2), (.asg (.c (.bool false))), none⟩]) (.seq (.seq (.sem c_ref16_Right_p1) (.cond (.t 23) (.seq (.rg [⟨(some 2), (.asg (.c (.bool false))), none⟩]) .ret) .skip)) (.seq (.seq (.rg [⟨(some 3), (.asg (.c (.int .i64 0))), none⟩]) (.blk 0 c_ref16_Right_l1)) (.seq (.rg [⟨(some 2), (.asg (.c (.bool true))), none⟩]) .ret))))
theorem k_ref16_Right : FnOk Tryd.prog 25 38 [(.tmp 2)] c_ref16_Right := ⟨Tryd.f25, _, rfl, by decide, rfl, by kernel_rfl, rfl, rfl⟩
abbrev L_ref16_Right : List Nat := [0, 1, 2, 3, 23, 28, 37]
def ref16_Right_l1 (F : Nat) (r1 : ReplyV) : Int → Option (St Bool Unit Int)
  | i4 =>
    (if (decide (i4 < (r1.lines.length : Int))) then
      (idx r1.lines i4).bind fun x5 =>
      (ref16_text F x5).bind fun r6 =>
      (if (!r6) then
        some (.ret false)
      else
        some (.nxt (IntKind.wrap .i64 (i4 + 1))))
    else
      some (.brk ()))
def ref16_Right (F : Nat) (r1 : ReplyV) : Option (Bool) :=
  (if ((((decide (r1.code < 200)) || (decide (599 < r1.code))) || (decide ((r1.lines.length : Int) < 1))) || (decide (20 < (r1.lines.length : Int)))) then
    some false
  else
    ((iter (ref16_Right_l1 F r1) F 0).bind fun o9 =>
    match o9 with
    | .inr () =>
      some true
    | .inl r8 =>
      some r8))
set_option maxHeartbeats 2000000 in
theorem ref16_Right_p1_ok {q2 : Nat} {r1 : ReplyV} {H0 H : AH} (hfr : Fr H0 H0.length [] H) (hs_o1 : H[q2]? = some [(.int .i64 r1.code), (.sl .n 1 (ml AV.str r1.lines))]) (hi0 : H0.length ≤ q2) {K : Exit → Env → AH → Prop}
    (kn : ∀ H' : AH, Fr H0 H0.length [] H' → H'[q2]? = some [(.int .i64 r1.code), (.sl .n 1 (ml AV.str r1.lines))] → K .normal [(1, (.ptr q2 0)), (23, (.bool ((((decide (r1.code < 200)) || (decide (599 < r1.code))) || (decide ((r1.lines.length : Int) < 1))) || (decide (20 < (r1.lines.length : Int))))))] H') :
    AX Tryd.prog L_ref16_Right 38 H0.length c_ref16_Right_p1 K [(1, (.ptr q2 0))] H := by
  refine AX.go (m := m_ref16_Right_p1) rfl (by decide) fun K' hK => ?_
  have hle := hfr.le
  have hl_o1 := h_lt hs_o1
  simp (disch := first | assumption | omega | (simp only [h_sl, h_al] <;> omega) | fail) only [WW, WH, ↓reduceIte, Nat.reduceEqDiff, Nat.reduceLT, Nat.reduceLeDiff, Nat.reduceAdd, Nat.reduceSub, Nat.reduceMul, Nat.reduceBEq, reduceCtorEq, if_false, if_true, L_ref16_Right, m_ref16_Right_p1, c_ref16_Right_p1, hs_o1, encReplyV]
  rcases bcases ((decide (r1.code < 200))) with hy1 | hy1
  · refine UG_nf hy1 ?_
    simp (disch := first | assumption | omega | (simp only [h_sl, h_al] <;> omega) | fail) only [WW, WH, ↓reduceIte, Nat.reduceEqDiff, Nat.reduceLT, Nat.reduceLeDiff, Nat.reduceAdd, Nat.reduceSub, Nat.reduceMul, Nat.reduceBEq, reduceCtorEq, if_false, if_true, L_ref16_Right, hy1, hs_o1, encReplyV]
    refine hK _ _ _ _ _ ?_ (WxH.refl _) (kn _ hfr ((hs_o1).trans rfl))
    exact WE.cons (Wx.ptr) (WE.cons (Wx.boolE (by simp only [hy1, WB])) (WE.nil))
  · refine UG_go hy1 ?_
    simp (disch := first | assumption | omega | (simp only [h_sl, h_al] <;> omega) | fail) only [WW, WH, ↓reduceIte, Nat.reduceEqDiff, Nat.reduceLT, Nat.reduceLeDiff, Nat.reduceAdd, Nat.reduceSub, Nat.reduceMul, Nat.reduceBEq, reduceCtorEq, if_false, if_true, L_ref16_Right, hy1, hs_o1, encReplyV]
    rcases bcases ((decide (599 < r1.code))) with hy2 | hy2
    · refine UG_nf hy2 ?_
      simp (disch := first | assumption | omega | (simp only [h_sl, h_al] <;> omega) | fail) only [WW, WH, ↓reduceIte, Nat.reduceEqDiff, Nat.reduceLT, Nat.reduceLeDiff, Nat.reduceAdd, Nat.reduceSub, Nat.reduceMul, Nat.reduceBEq, reduceCtorEq, if_false, if_true, L_ref16_Right, hy2, hs_o1, encReplyV]
      refine hK _ _ _ _ _ ?_ (WxH.refl _) (kn _ hfr ((hs_o1).trans rfl))
      exact WE.cons (Wx.ptr) (WE.cons (Wx.boolE (by first | (simp only [hy1, hy2, WB]; done) | (try rw [hy1]; try rw [hy2]; try simp only [WB]))) (WE.nil))
    · refine UG_go hy2 ?_
      simp (disch := first | assumption | omega | (simp only [h_sl, h_al] <;> omega) | fail) only [WW, WH, ↓reduceIte, Nat.reduceEqDiff, Nat.reduceLT, Nat.reduceLeDiff, Nat.reduceAdd, Nat.reduceSub, Nat.reduceMul, Nat.reduceBEq, reduceCtorEq, if_false, if_true, L_ref16_Right, hy2, hs_o1, encReplyV]
      rcases bcases ((decide ((r1.lines.length : Int) < 1))) with hy3 | hy3
      · refine UG_nf hy3 ?_
        simp (disch := first | assumption | omega | (simp only [h_sl, h_al] <;> omega) | fail) only [WW, WH, ↓reduceIte, Nat.reduceEqDiff, Nat.reduceLT, Nat.reduceLeDiff, Nat.reduceAdd, Nat.reduceSub, Nat.reduceMul, Nat.reduceBEq, reduceCtorEq, if_false, if_true, L_ref16_Right, hy3, hs_o1, encReplyV]
        refine hK _ _ _ _ _ ?_ (WxH.refl _) (kn _ hfr ((hs_o1).trans rfl))
        exact WE.cons (Wx.ptr) (WE.cons (Wx.boolE (by first | (simp only [hy1, hy2, hy3, WB]; done) | (try rw [hy1]; try rw [hy2]; try rw [hy3]; try simp only [WB]))) (WE.nil))
      · refine UG_go hy3 ?_
        simp (disch := first | assumption | omega | (simp only [h_sl, h_al] <;> omega) | fail) only [WW, WH, ↓reduceIte, Nat.reduceEqDiff, Nat.reduceLT, Nat.reduceLeDiff, Nat.reduceAdd, Nat.reduceSub, Nat.reduceMul, Nat.reduceBEq, reduceCtorEq, if_false, if_true, L_ref16_Right, hy3, hs_o1, encReplyV]
        refine hK _ _ _ _ _ ?_ (WxH.refl _) (kn _ hfr ((hs_o1).trans rfl))
        exact WE.cons (Wx.ptr) (WE.cons (Wx.boolE (by first | (simp only [hy1, hy2, hy3, WB]; done) | (try rw [hy1]; try rw [hy2]; try rw [hy3]; try simp only [WB]))) (WE.nil))
set_option maxHeartbeats 2000000 in
theorem ref16_Right_l1_ok {F : Nat} {i4 : Int} {r1 : ReplyV} {q3 : Nat} {H0 H : AH} (hfr : Fr H0 H0.length [] H) (hs_o1 : H[q3]? = some [(.int .i64 r1.code), (.sl .n 1 (ml AV.str r1.lines))]) (hi0 : H0.length ≤ q3) {K : Exit → Env → AH → Prop} {o : (Bool) ⊕ (Unit)}
    (h : iter (ref16_Right_l1 F r1) F i4 = some o)
    (kb0 : ∀ o' : Unit, o = .inr o' → ∀ H' : AH, Fr H0 H0.length [] H' → H'[q3]? = some [(.int .i64 r1.code), (.sl .n 1 (ml AV.str r1.lines))] → K (.exit 0) [] H')
    (kr : ∀ o' : Bool, o = .inl o' → ∀ H' : AH, Fr H0 H0.length [] H' → K .ret [(2, (.bool o'))] H') :
    AX Tryd.prog L_ref16_Right 38 H0.length c_ref16_Right_l1 K [(1, (.ptr q3 0)), (3, (.int .i64 i4))] H := by
  refine AX.iter (m := m_ref16_Right_l1b) rfl (by decide) (fun s e H1 => match s with | i4 => e = [(1, (.ptr q3 0)), (3, (.int .i64 i4))] ∧ Fr H0 H0.length [] H1 ∧ H1[q3]? = some [(.int .i64 r1.code), (.sl .n 1 (ml AV.str r1.lines))]) h ⟨rfl, hfr, hs_o1⟩ ?_
  skip
  rintro K' i4 st e H ⟨rfl, hfr, hs_o1⟩ h hN hB hR hX
  have hle := hfr.le
  have hl_o1 := h_lt hs_o1
  rw [ref16_Right_l1.eq_1] at h
  simp (disch := first | assumption | omega | (simp only [h_sl, h_al] <;> omega) | fail) only [WW, WH, ↓reduceIte, Nat.reduceEqDiff, Nat.reduceLT, Nat.reduceLeDiff, Nat.reduceAdd, Nat.reduceSub, Nat.reduceMul, Nat.reduceBEq, reduceCtorEq, if_false, if_true, L_ref16_Right, m_ref16_Right_l1b, c_ref16_Right_l1b, hs_o1, encReplyV]
  rcases ifb h with ⟨hy5, h⟩ | ⟨hy5, h⟩
  · refine UC_t hy5 ?_
    obtain ⟨x5, hy6, h⟩ := bnd' h
    simp (disch := first | assumption | omega | (simp only [h_sl, h_al] <;> omega) | fail) only [WW, WH, ↓reduceIte, Nat.reduceEqDiff, Nat.reduceLT, Nat.reduceLeDiff, Nat.reduceAdd, Nat.reduceSub, Nat.reduceMul, Nat.reduceBEq, reduceCtorEq, if_false, if_true, L_ref16_Right, hy6, hs_o1, encReplyV]
    obtain ⟨r6, hy7, h⟩ := bnd' h
    refine UK_e (as' := [(.str x5)]) (h := ref16_text_ok (s1 := x5) (F := F)  hy7) (hw := WL.cons (Wx.str) (WL.nil)) (hh := WxH.refl _) ?_
    simp (disch := first | assumption | omega | (simp only [h_sl, h_al] <;> omega) | fail) only [WW, WH, ↓reduceIte, Nat.reduceEqDiff, Nat.reduceLT, Nat.reduceLeDiff, Nat.reduceAdd, Nat.reduceSub, Nat.reduceMul, Nat.reduceBEq, reduceCtorEq, if_false, if_true, L_ref16_Right, hs_o1, encReplyV]
    rcases ifb h with ⟨hy8, h⟩ | ⟨hy8, h⟩
    · refine UC_t hy8 ?_
      simp (disch := first | assumption | omega | (simp only [h_sl, h_al] <;> omega) | fail) only [WW, WH, ↓reduceIte, Nat.reduceEqDiff, Nat.reduceLT, Nat.reduceLeDiff, Nat.reduceAdd, Nat.reduceSub, Nat.reduceMul, Nat.reduceBEq, reduceCtorEq, if_false, if_true, L_ref16_Right, hs_o1, encReplyV]
      have hq := Option.some.inj h; subst hq
      refine hX _ _ _ _ _ (by simp) ?_ (WxH.refl _) (kr _ (hR _ rfl) _ hfr)
      exact WE.cons (Wx.bool) (WE.nil)
    · refine UC_f hy8 ?_
      simp (disch := first | assumption | omega | (simp only [h_sl, h_al] <;> omega) | fail) only [WW, WH, ↓reduceIte, Nat.reduceEqDiff, Nat.reduceLT, Nat.reduceLeDiff, Nat.reduceAdd, Nat.reduceSub, Nat.reduceMul, Nat.reduceBEq, reduceCtorEq, if_false, if_true, L_ref16_Right, hs_o1, encReplyV]
      have hq := Option.some.inj h; subst hq
      refine hN _ rfl _ _ _ _ ?_ (WxH.refl _) ⟨rfl, hfr, ((hs_o1).trans rfl)⟩
      exact WE.cons (Wx.ptr) (WE.cons (Wx.int) (WE.nil))
  · refine UC_f hy5 ?_
    simp (disch := first | assumption | omega | (simp only [h_sl, h_al] <;> omega) | fail) only [WW, WH, ↓reduceIte, Nat.reduceEqDiff, Nat.reduceLT, Nat.reduceLeDiff, Nat.reduceAdd, Nat.reduceSub, Nat.reduceMul, Nat.reduceBEq, reduceCtorEq, if_false, if_true, L_ref16_Right, hs_o1, encReplyV]
    have hq := Option.some.inj h; subst hq
    refine hX _ _ _ _ _ (by simp) ?_ (WxH.refl _) (kb0 _ (hB _ rfl) _ hfr ((hs_o1).trans rfl))
    exact WE.nil
set_option maxHeartbeats 2000000 in
theorem ref16_Right_ok {F : Nat} {r1 : ReplyV}  {H0 : AH}  {rz0 : Bool} (h : ref16_Right F r1 = some rz0) :
    ACalls Tryd.prog 25 [(.agg [(.int .i64 r1.code), (.sl .n 1 (ml AV.str r1.lines))])] H0 fun v H' => v = (.bool rz0) ∧ H' = H0 := by
  refine ACalls.goX k_ref16_Right (m := m_ref16_Right) rfl L_ref16_Right (by decide) (by simp) fun hcl K0 hK0 => ?_
  refine AX.of_U (m := m_ref16_Right) rfl (by decide) ?_
  have hfr := Fr.refl H0 []
  have hle := hfr.le
  rw [ref16_Right.eq_1] at h
  obtain ⟨H, hHH⟩ : ∃ H, H = H0 := ⟨_, rfl⟩
  have hfr : Fr H0 H0.length [] H := hHH ▸ hfr
  have hle := hfr.le
  suffices hU : U Tryd.prog L_ref16_Right 38 H0.length [.code m_ref16_Right] K0 .normal (argE 0 [(.agg [(.int .i64 r1.code), (.sl .n 1 (ml AV.str r1.lines))])]) H by rwa [hHH] at hU
  simp (disch := first | assumption | omega | (simp only [h_sl, h_al] <;> omega) | fail) only [WW, WH, ↓reduceIte, Nat.reduceEqDiff, Nat.reduceLT, Nat.reduceLeDiff, Nat.reduceAdd, Nat.reduceSub, Nat.reduceMul, Nat.reduceBEq, reduceCtorEq, if_false, if_true, L_ref16_Right, m_ref16_Right, encReplyV]
  obtain ⟨q2, hg_q2⟩ : ∃ q : Nat, H.length = q := ⟨_, rfl⟩
  try rw [hg_q2]
  refine UX_of (AX.weak ?_ (WxH.refl _) (ref16_Right_p1_ok (q2 := q2) (r1 := r1) ((Fr.app hfr)) ((h_new' (by first | assumption | omega | (simp only [h_sl, h_al] <;> omega) | fail)).trans rfl) (by first | assumption | omega | (simp only [h_sl, h_al] <;> omega) | fail) ?_))
  · exact WE.cons (Wx.ptr) (WE.nil)
  intro H hfr hs_o1
  have hle := hfr.le
  have hl_o1 := h_lt hs_o1
  simp (disch := first | assumption | omega | (simp only [h_sl, h_al] <;> omega) | fail) only [WW, WH, ↓reduceIte, Nat.reduceEqDiff, Nat.reduceLT, Nat.reduceLeDiff, Nat.reduceAdd, Nat.reduceSub, Nat.reduceMul, Nat.reduceBEq, reduceCtorEq, if_false, if_true, L_ref16_Right, hs_o1, encReplyV]
  rcases ifb h with ⟨hy4, h⟩ | ⟨hy4, h⟩
  · refine UC_t hy4 ?_
    simp (disch := first | assumption | omega | (simp only [h_sl, h_al] <;> omega) | fail) only [WW, WH, ↓reduceIte, Nat.reduceEqDiff, Nat.reduceLT, Nat.reduceLeDiff, Nat.reduceAdd, Nat.reduceSub, Nat.reduceMul, Nat.reduceBEq, reduceCtorEq, if_false, if_true, L_ref16_Right, hs_o1, encReplyV]
    have hq := Option.some.inj h; subst hq
    refine hK0 _ _ _ (.inr rfl) ?_
    exact fn_end0 (by exact hfr) hcl (resv_tmp (a := (.bool false)) rfl rfl resv_nil) (by simp [fin, AV.df, AV.sh, AV.sh1, b_df, b_sh, b_sh1, b_Cl]) (Wx.bool) (r' := (.bool false)) ⟨rfl, rfl⟩
  · refine UC_f hy4 ?_
    simp (disch := first | assumption | omega | (simp only [h_sl, h_al] <;> omega) | fail) only [WW, WH, ↓reduceIte, Nat.reduceEqDiff, Nat.reduceLT, Nat.reduceLeDiff, Nat.reduceAdd, Nat.reduceSub, Nat.reduceMul, Nat.reduceBEq, reduceCtorEq, if_false, if_true, L_ref16_Right, hs_o1, encReplyV]
    obtain ⟨o9, hy9, h⟩ := bnd' h
    refine UX_of (AX.weak ?_ (WxH.refl _) (ref16_Right_l1_ok  (r1 := r1) (i4 := 0) (q3 := q2) (hfr) ((hs_o1).trans rfl) (by first | assumption | omega | (simp only [h_sl, h_al] <;> omega) | fail) (o := o9) hy9 ?_ ?_))
    · exact WE.cons (Wx.ptr) (WE.cons (Wx.int) (WE.nil))
    · rintro ⟨⟩ rfl H hfr hs_o1
      try dsimp only at h hs_o1
      have hle := hfr.le
      have hl_o1 := h_lt hs_o1
      simp (disch := first | assumption | omega | (simp only [h_sl, h_al] <;> omega) | fail) only [WW, WH, ↓reduceIte, Nat.reduceEqDiff, Nat.reduceLT, Nat.reduceLeDiff, Nat.reduceAdd, Nat.reduceSub, Nat.reduceMul, Nat.reduceBEq, reduceCtorEq, if_false, if_true, L_ref16_Right, hs_o1, encReplyV]
      have hq := Option.some.inj h; subst hq
      refine hK0 _ _ _ (.inr rfl) ?_
      exact fn_end0 (by exact hfr) hcl (resv_tmp (a := (.bool true)) rfl rfl resv_nil) (by simp [fin, AV.df, AV.sh, AV.sh1, b_df, b_sh, b_sh1, b_Cl]) (Wx.bool) (r' := (.bool true)) ⟨rfl, rfl⟩
    · rintro r8 rfl H hfr
      try dsimp only at h 
      have hle := hfr.le
      simp (disch := first | assumption | omega | (simp only [h_sl, h_al] <;> omega) | fail) only [WW, WH, ↓reduceIte, Nat.reduceEqDiff, Nat.reduceLT, Nat.reduceLeDiff, Nat.reduceAdd, Nat.reduceSub, Nat.reduceMul, Nat.reduceBEq, reduceCtorEq, if_false, if_true, L_ref16_Right, encReplyV]
      have hq := Option.some.inj h; subst hq
      refine hK0 _ _ _ (.inr rfl) ?_
      exact fn_end0 (by exact hfr) hcl (resv_tmp (a := (.bool r8)) rfl rfl resv_nil) (by simp [fin, AV.df, AV.sh, AV.sh1, b_df, b_sh, b_sh1, b_Cl]) (Wx.bool) (r' := (.bool r8)) ⟨rfl, rfl⟩

/-! ### slices.Equal[[]string,string] -/
def c_slices_Equal_l1b : ACode := (.seq (.rg [⟨(some 14), (.bin .lss (.t 13) (.t 12)), none⟩]) (.seq (.cond (.t 14) .skip (.exit 0)) (.seq (.blk 1 (.seq (.rg [⟨(some 15), (.mv (.t 13)), none⟩, ⟨(some 5), (.asg (.t 15)), none⟩]) (.seq (.rg [⟨(some 16), (.mv (.t 0)), none⟩, ⟨(some 17), (.mv (.t 5)), none⟩, ⟨(some 18), (.ixa 1 (.t 16) (.t 17)), none⟩, ⟨(some 19), (.ld (.t 18) none), none⟩, ⟨(some 20), (.mv (.t 1)), none⟩, ⟨(some 21), (.mv (.t 5)), none⟩, ⟨(some 22), (.ixa 1 (.t 20) (.t 21)), none⟩, ⟨(some 23), (.ld (.t 22) none), none⟩, ⟨(some 24), (.bin .neq (.t 19) (.t 23)), none⟩]) (.cond (.t 24) (.seq (.rg [⟨(some 4), (.asg (.c (.bool false))), none⟩]) .ret) .skip)))) (.rg [⟨(some 25), (.bin .add (.t 13) (.c (.int .i64 1))), none⟩, ⟨(some 13), (.mv (.t 25)), none⟩]))))
def c_slices_Equal_l1 : ACode := (.loop c_slices_Equal_l1b)
abbrev m_slices_Equal_l1b := c_slices_Equal_l1b
def c_slices_Equal : ACode := (.seq (.rg [⟨(some 4), (.asg (.c (.bool false))), none⟩]) (.seq (.seq (.rg [⟨(some 6), (.mv (.t 0)), none⟩, ⟨(some 7), (.len (.t 6)), none⟩, ⟨(some 8), (.mv (.t 1)), none⟩, ⟨(some 9), (.len (.t 8)), none⟩, ⟨(some 10), (.bin .neq (.t 7) (.t 9)), none⟩]) (.cond (.t 10) (.seq (.rg [⟨(some 4), (.asg (.c (.bool false))), none⟩]) .ret) .skip)) (.seq (.seq (.rg [⟨(some 11), (.mv (.t 0)), none⟩, ⟨(some 12), (.len (.t 11)), none⟩, ⟨(some 13), (.mv (.c (.int .i64 0))), none⟩]) (.blk 0 c_slices_Equal_l1)) (.seq (.rg [⟨(some 4), (.asg (.c (.bool true))), none⟩]) .ret))))
abbrev m_slices_Equal := c_slices_Equal
theorem k_slices_Equal : FnOk Tryd.prog 40 26 [(.tmp 4)] c_slices_Equal := ⟨Tryd.f40, _, rfl, by decide, rfl, by kernel_rfl, rfl, rfl⟩
abbrev L_slices_Equal : List Nat := [0, 1, 4, 5, 10, 12, 13, 14, 24]
def slices_Equal_l1 (s1 : List (List UInt8)) (s2 : List (List UInt8)) : (Bool × Int) → Option (St Bool Unit (Bool × Int))
  | (t3, t4) =>
    (if (decide (t4 < (s1.length : Int))) then
      (idx s1 t4).bind fun x5 =>
      (idx s2 t4).bind fun x6 =>
      (if (!decide (x5 = x6)) then
        some (.ret false)
      else
        some (.nxt (t3, (IntKind.wrap .i64 (t4 + 1)))))
    else
      some (.brk ()))
def slices_Equal (F : Nat) (s1 : List (List UInt8)) (s2 : List (List UInt8)) : Option (Bool) :=
  (if (!decide ((s1.length : Int) = (s2.length : Int))) then
    some false
  else
    ((iter (slices_Equal_l1 s1 s2) F (false, 0)).bind fun o9 =>
    match o9 with
    | .inr () =>
      some true
    | .inl r8 =>
      some r8))
set_option maxHeartbeats 2000000 in
theorem slices_Equal_l1_ok {F : Nat} {t4 : Int} {s1 : List (List UInt8)} {s2 : List (List UInt8)} {t3 : Bool} {H : AH}  {K : Exit → Env → AH → Prop} {o : (Bool) ⊕ (Unit)}
    (h : iter (slices_Equal_l1 s1 s2) F (t3, t4) = some o)
    (kb0 : ∀ o' : Unit, o = .inr o' → K (.exit 0) [] H)
    (kr : ∀ o' : Bool, o = .inl o' → K .ret [(4, (.bool o'))] H) :
    AX Tryd.prog L_slices_Equal 26 H.length c_slices_Equal_l1 K [(0, (.sl .n 1 (ml AV.str s1))), (1, (.sl .n 1 (ml AV.str s2))), (4, (.bool t3)), (12, (.int .i64 (s1.length : Int))), (13, (.int .i64 t4))] H := by
  refine AX.iter (m := m_slices_Equal_l1b) rfl (by decide) (fun s e H1 => match s with | (t3, t4) => e = [(0, (.sl .n 1 (ml AV.str s1))), (1, (.sl .n 1 (ml AV.str s2))), (4, (.bool t3)), (12, (.int .i64 (s1.length : Int))), (13, (.int .i64 t4))] ∧ H1 = H) h ⟨rfl, rfl⟩ ?_
  rintro K' ⟨t3, t4⟩ st e H ⟨rfl, rfl⟩ h hN hB hR hX
  rw [slices_Equal_l1.eq_1] at h
  simp only [WW, ↓reduceIte, Nat.reduceEqDiff, Nat.reduceLT, Nat.reduceLeDiff, Nat.reduceAdd, Nat.reduceSub, Nat.reduceMul, Nat.reduceBEq, reduceCtorEq, if_false, if_true, L_slices_Equal, m_slices_Equal_l1b, c_slices_Equal_l1b, encReplyV]
  rcases ifb h with ⟨hy2, h⟩ | ⟨hy2, h⟩
  · refine UC_t hy2 ?_
    obtain ⟨x5, hy3, h⟩ := bnd' h
    obtain ⟨x6, hy4, h⟩ := bnd' h
    simp only [WW, ↓reduceIte, Nat.reduceEqDiff, Nat.reduceLT, Nat.reduceLeDiff, Nat.reduceAdd, Nat.reduceSub, Nat.reduceMul, Nat.reduceBEq, reduceCtorEq, if_false, if_true, L_slices_Equal, hy3, hy4, encReplyV]
    rcases ifb h with ⟨hy5, h⟩ | ⟨hy5, h⟩
    · refine UC_t hy5 ?_
      simp only [WW, ↓reduceIte, Nat.reduceEqDiff, Nat.reduceLT, Nat.reduceLeDiff, Nat.reduceAdd, Nat.reduceSub, Nat.reduceMul, Nat.reduceBEq, reduceCtorEq, if_false, if_true, L_slices_Equal, encReplyV]
      have hq := Option.some.inj h; subst hq
      refine hX _ _ _ _ _ (by simp) ?_ (WxH.refl _) (kr _ (hR _ rfl) )
      exact WE.cons (Wx.bool) (WE.nil)
    · refine UC_f hy5 ?_
      simp only [WW, ↓reduceIte, Nat.reduceEqDiff, Nat.reduceLT, Nat.reduceLeDiff, Nat.reduceAdd, Nat.reduceSub, Nat.reduceMul, Nat.reduceBEq, reduceCtorEq, if_false, if_true, L_slices_Equal, encReplyV]
      have hq := Option.some.inj h; subst hq
      refine hN _ rfl _ _ _ _ ?_ (WxH.refl _) ⟨rfl, rfl⟩
      exact WE.cons (Wx.nn) (WE.cons (Wx.nn) (WE.cons (Wx.bool) (WE.cons (Wx.int) (WE.cons (Wx.int) (WE.nil)))))
  · refine UC_f hy2 ?_
    simp only [WW, ↓reduceIte, Nat.reduceEqDiff, Nat.reduceLT, Nat.reduceLeDiff, Nat.reduceAdd, Nat.reduceSub, Nat.reduceMul, Nat.reduceBEq, reduceCtorEq, if_false, if_true, L_slices_Equal, encReplyV]
    have hq := Option.some.inj h; subst hq
    refine hX _ _ _ _ _ (by simp) ?_ (WxH.refl _) (kb0 _ (hB _ rfl) )
    exact WE.nil
set_option maxHeartbeats 2000000 in
theorem slices_Equal_ok {F : Nat} {s1 : List (List UInt8)} {s2 : List (List UInt8)}  {H0 : AH}  {rz0 : Bool} (h : slices_Equal F s1 s2 = some rz0) :
    ACalls Tryd.prog 40 [(.sl .n 1 (ml AV.str s1)), (.sl .n 1 (ml AV.str s2))] H0 fun v H' => v = (.bool rz0) ∧ H' = H0 := by
  refine ACalls.goX k_slices_Equal (m := m_slices_Equal) rfl L_slices_Equal (by decide) (by simp) fun hcl K0 hK0 => ?_
  refine AX.of_U (m := m_slices_Equal) rfl (by decide) ?_
  rw [slices_Equal.eq_1] at h
  simp only [WW, ↓reduceIte, Nat.reduceEqDiff, Nat.reduceLT, Nat.reduceLeDiff, Nat.reduceAdd, Nat.reduceSub, Nat.reduceMul, Nat.reduceBEq, reduceCtorEq, if_false, if_true, L_slices_Equal, m_slices_Equal, c_slices_Equal, encReplyV]
  rcases ifb h with ⟨hy1, h⟩ | ⟨hy1, h⟩
  · refine UC_t hy1 ?_
    simp only [WW, ↓reduceIte, Nat.reduceEqDiff, Nat.reduceLT, Nat.reduceLeDiff, Nat.reduceAdd, Nat.reduceSub, Nat.reduceMul, Nat.reduceBEq, reduceCtorEq, if_false, if_true, L_slices_Equal, encReplyV]
    have hq := Option.some.inj h; subst hq
    refine hK0 _ _ _ (.inr rfl) ?_
    exact fn_endp hcl (resv_tmp (a := (.bool false)) rfl rfl resv_nil) (by simp [fin, AV.df, AV.sh, AV.sh1, b_df, b_sh, b_sh1, b_Cl]) (Wx.bool) (r' := (.bool false)) ⟨rfl, rfl⟩
  · refine UC_f hy1 ?_
    simp only [WW, ↓reduceIte, Nat.reduceEqDiff, Nat.reduceLT, Nat.reduceLeDiff, Nat.reduceAdd, Nat.reduceSub, Nat.reduceMul, Nat.reduceBEq, reduceCtorEq, if_false, if_true, L_slices_Equal, encReplyV]
    obtain ⟨o9, hy6, h⟩ := bnd' h
    refine UX_of (AX.weak ?_ (WxH.refl _) (slices_Equal_l1_ok  (s1 := s1) (s2 := s2) (t3 := false) (t4 := 0)   (o := o9) hy6 ?_ ?_))
    · exact WE.cons (Wx.nn) (WE.cons (Wx.nn) (WE.cons (Wx.bool) (WE.cons (Wx.int) (WE.cons (Wx.int) (WE.nil)))))
    · rintro ⟨⟩ rfl  
      try dsimp only at h 
      simp only [WW, ↓reduceIte, Nat.reduceEqDiff, Nat.reduceLT, Nat.reduceLeDiff, Nat.reduceAdd, Nat.reduceSub, Nat.reduceMul, Nat.reduceBEq, reduceCtorEq, if_false, if_true, L_slices_Equal, encReplyV]
      have hq := Option.some.inj h; subst hq
      refine hK0 _ _ _ (.inr rfl) ?_
      exact fn_endp hcl (resv_tmp (a := (.bool true)) rfl rfl resv_nil) (by simp [fin, AV.df, AV.sh, AV.sh1, b_df, b_sh, b_sh1, b_Cl]) (Wx.bool) (r' := (.bool true)) ⟨rfl, rfl⟩
    · rintro r8 rfl  
      try dsimp only at h 
      simp only [WW, ↓reduceIte, Nat.reduceEqDiff, Nat.reduceLT, Nat.reduceLeDiff, Nat.reduceAdd, Nat.reduceSub, Nat.reduceMul, Nat.reduceBEq, reduceCtorEq, if_false, if_true, L_slices_Equal, encReplyV]
      have hq := Option.some.inj h; subst hq
      refine hK0 _ _ _ (.inr rfl) ?_
      exact fn_endp hcl (resv_tmp (a := (.bool r8)) rfl rfl resv_nil) (by simp [fin, AV.df, AV.sh, AV.sh1, b_df, b_sh, b_sh1, b_Cl]) (Wx.bool) (r' := (.bool r8)) ⟨rfl, rfl⟩

/-! ### mailbag/reply.Same -/
def c_reply_Same_p1 : ACode := (.rg [⟨(some 5), (.fld (.t 2) 0), none⟩, ⟨(some 6), (.ld (.t 5) none), none⟩, ⟨(some 7), (.fld (.t 3) 0), none⟩, ⟨(some 8), (.ld (.t 7) none), none⟩, ⟨(some 9), (.bin .eql (.t 6) (.t 8)), none⟩, ⟨(some 10), (.mv (.t 9)), none⟩, ⟨(some 11), (.fld (.t 2) 1), (some (10, true))⟩, ⟨(some 12), (.ld (.t 11) none), (some (10, true))⟩, ⟨(some 13), (.fld (.t 3) 1), (some (10, true))⟩, ⟨(some 14), (.ld (.t 13) none), (some (10, true))⟩, ⟨(some 15), (.call (.c (.fn 40 [])) [(.t 12), (.t 14)]), (some (10, true))⟩, ⟨(some 16), (.pick (.t 10) (.t 15) (.c (.bool false))), none⟩, ⟨(some 4), (.asg (.t 16)), none⟩])
abbrev m_reply_Same_p1 := c_reply_Same_p1
def c_reply_Same : ACode := (.seq (.rg [⟨(some 2), (.box (.t 0)), none⟩, ⟨(some 3), (.box (.t 1)), none⟩, ⟨(some 4), (.asg (.c (.bool false))), none⟩]) (.seq c_reply_Same_p1 .ret))
def m_reply_Same : ACode := (.seq (.rg [⟨(some 2), (.box (.t 0)), none⟩, ⟨(some 3), (.box (.t 1)), none⟩, ⟨(some 4), (.asg (.c (.bool false))), none⟩]) (.seq (.sem c_reply_Same_p1) .ret))
theorem k_reply_Same : FnOk Tryd.prog 26 17 [(.tmp 4)] c_reply_Same := ⟨Tryd.f26, _, rfl, by decide, rfl, by kernel_rfl, rfl, rfl⟩
abbrev L_reply_Same : List Nat := [0, 1, 2, 3, 4]
def reply_Same_p1 (F : Nat) (a1 : ReplyV) (b2 : ReplyV) : Option (Bool) :=
  (if (decide (a1.code = b2.code)) then
    (slices_Equal F a1.lines b2.lines).bind fun r5 => some r5
  else
    some false)
def reply_Same (F : Nat) (a1 : ReplyV) (b2 : ReplyV) : Option (Bool) :=
  (reply_Same_p1 F a1 b2).bind fun t7 =>
  some t7
set_option maxHeartbeats 2000000 in
theorem reply_Same_p1_ok {F : Nat} {a1 : ReplyV} {b2 : ReplyV} {q3 : Nat} {q4 : Nat} {H0 H : AH} (hfr : Fr H0 H0.length [] H) (hs_o1 : H[q3]? = some [(.int .i64 a1.code), (.sl .n 1 (ml AV.str a1.lines))]) (hs_o2 : H[q4]? = some [(.int .i64 b2.code), (.sl .n 1 (ml AV.str b2.lines))]) (hi0 : H0.length ≤ q3) (hi1 : H0.length ≤ q4) (hi2 : q3 ≠ q4) {K : Exit → Env → AH → Prop} {t6 : Bool}
    (h : reply_Same_p1 F a1 b2 = some t6)
    (kn : ∀ H' : AH, Fr H0 H0.length [] H' → H'[q3]? = some [(.int .i64 a1.code), (.sl .n 1 (ml AV.str a1.lines))] → H'[q4]? = some [(.int .i64 b2.code), (.sl .n 1 (ml AV.str b2.lines))] → K .normal [(4, (.bool t6))] H') :
    AX Tryd.prog L_reply_Same 17 H0.length c_reply_Same_p1 K [(2, (.ptr q3 0)), (3, (.ptr q4 0)), (4, (.bool false))] H := by
  refine AX.go (m := m_reply_Same_p1) rfl (by decide) fun K' hK => ?_
  have hle := hfr.le
  have hl_o1 := h_lt hs_o1
  have hl_o2 := h_lt hs_o2
  rw [reply_Same_p1.eq_1] at h
  simp (disch := first | assumption | omega | (simp only [h_sl, h_al] <;> omega) | fail) only [WW, WH, ↓reduceIte, Nat.reduceEqDiff, Nat.reduceLT, Nat.reduceLeDiff, Nat.reduceAdd, Nat.reduceSub, Nat.reduceMul, Nat.reduceBEq, reduceCtorEq, if_false, if_true, L_reply_Same, m_reply_Same_p1, c_reply_Same_p1, hs_o1, hs_o2, encReplyV]
  rcases ifb h with ⟨hy1, h⟩ | ⟨hy1, h⟩
  · refine UG_go hy1 ?_
    simp (disch := first | assumption | omega | (simp only [h_sl, h_al] <;> omega) | fail) only [WW, WH, ↓reduceIte, Nat.reduceEqDiff, Nat.reduceLT, Nat.reduceLeDiff, Nat.reduceAdd, Nat.reduceSub, Nat.reduceMul, Nat.reduceBEq, reduceCtorEq, if_false, if_true, L_reply_Same, hy1, hs_o1, hs_o2, encReplyV]
    obtain ⟨r5, hy2, h⟩ := bnd' h
    refine UK_e (as' := [(.sl .n 1 (ml AV.str a1.lines)), (.sl .n 1 (ml AV.str b2.lines))]) (h := slices_Equal_ok (s1 := a1.lines) (s2 := b2.lines) (F := F)  hy2) (hw := WL.cons (Wx.nn) (WL.cons (Wx.nn) (WL.nil))) (hh := WxH.refl _) ?_
    simp (disch := first | assumption | omega | (simp only [h_sl, h_al] <;> omega) | fail) only [WW, WH, ↓reduceIte, Nat.reduceEqDiff, Nat.reduceLT, Nat.reduceLeDiff, Nat.reduceAdd, Nat.reduceSub, Nat.reduceMul, Nat.reduceBEq, reduceCtorEq, if_false, if_true, L_reply_Same, hs_o1, hs_o2, encReplyV]
    have hq := Option.some.inj h; subst hq
    refine hK _ _ _ _ _ ?_ (WxH.refl _) (kn _ hfr ((hs_o1).trans rfl) ((hs_o2).trans rfl))
    exact WE.cons (Wx.bool) (WE.nil)
  · refine UG_nt hy1 ?_
    simp (disch := first | assumption | omega | (simp only [h_sl, h_al] <;> omega) | fail) only [WW, WH, ↓reduceIte, Nat.reduceEqDiff, Nat.reduceLT, Nat.reduceLeDiff, Nat.reduceAdd, Nat.reduceSub, Nat.reduceMul, Nat.reduceBEq, reduceCtorEq, if_false, if_true, L_reply_Same, hy1, hs_o1, hs_o2, encReplyV]
    have hq := Option.some.inj h; subst hq
    refine hK _ _ _ _ _ ?_ (WxH.refl _) (kn _ hfr ((hs_o1).trans rfl) ((hs_o2).trans rfl))
    exact WE.cons (Wx.bool) (WE.nil)
set_option maxHeartbeats 2000000 in
theorem reply_Same_ok {F : Nat} {a1 : ReplyV} {b2 : ReplyV}  {H0 : AH}  {rz0 : Bool} (h : reply_Same F a1 b2 = some rz0) :
    ACalls Tryd.prog 26 [(.agg [(.int .i64 a1.code), (.sl .n 1 (ml AV.str a1.lines))]), (.agg [(.int .i64 b2.code), (.sl .n 1 (ml AV.str b2.lines))])] H0 fun v H' => v = (.bool rz0) ∧ H' = H0 := by
  refine ACalls.goX k_reply_Same (m := m_reply_Same) rfl L_reply_Same (by decide) (by simp) fun hcl K0 hK0 => ?_
  refine AX.of_U (m := m_reply_Same) rfl (by decide) ?_
  have hfr := Fr.refl H0 []
  have hle := hfr.le
  rw [reply_Same.eq_1] at h
  obtain ⟨H, hHH⟩ : ∃ H, H = H0 := ⟨_, rfl⟩
  have hfr : Fr H0 H0.length [] H := hHH ▸ hfr
  have hle := hfr.le
  suffices hU : U Tryd.prog L_reply_Same 17 H0.length [.code m_reply_Same] K0 .normal (argE 0 [(.agg [(.int .i64 a1.code), (.sl .n 1 (ml AV.str a1.lines))]), (.agg [(.int .i64 b2.code), (.sl .n 1 (ml AV.str b2.lines))])]) H by rwa [hHH] at hU
  simp (disch := first | assumption | omega | (simp only [h_sl, h_al] <;> omega) | fail) only [WW, WH, ↓reduceIte, Nat.reduceEqDiff, Nat.reduceLT, Nat.reduceLeDiff, Nat.reduceAdd, Nat.reduceSub, Nat.reduceMul, Nat.reduceBEq, reduceCtorEq, if_false, if_true, L_reply_Same, m_reply_Same, encReplyV]
  obtain ⟨q4, hg_q4⟩ : ∃ q : Nat, (H.length + 1) = q := ⟨_, rfl⟩
  try rw [hg_q4]
  obtain ⟨q3, hg_q3⟩ : ∃ q : Nat, H.length = q := ⟨_, rfl⟩
  try rw [hg_q3]
  obtain ⟨t7, hy3, h⟩ := bnd' h
  refine UX_of (AX.weak ?_ (WxH.refl _) (reply_Same_p1_ok (F := F) (a1 := a1) (b2 := b2) (t6 := t7) (q3 := q3) (q4 := q4) ((Fr.app (Fr.app hfr))) (((h_app (by first | assumption | omega | (simp only [h_sl, h_al] <;> omega) | fail)).trans (h_new' (by first | assumption | omega | (simp only [h_sl, h_al] <;> omega) | fail))).trans rfl) ((h_new' (by first | assumption | omega | (simp only [h_sl, h_al] <;> omega) | fail)).trans rfl) (by first | assumption | omega | (simp only [h_sl, h_al] <;> omega) | fail) (by first | assumption | omega | (simp only [h_sl, h_al] <;> omega) | fail) (by first | assumption | omega | (simp only [h_sl, h_al] <;> omega) | fail) hy3 ?_))
  · exact WE.cons (Wx.ptr) (WE.cons (Wx.ptr) (WE.cons (Wx.bool) (WE.nil)))
  intro H hfr hs_o1 hs_o2
  have hle := hfr.le
  have hl_o1 := h_lt hs_o1
  have hl_o2 := h_lt hs_o2
  simp (disch := first | assumption | omega | (simp only [h_sl, h_al] <;> omega) | fail) only [WW, WH, ↓reduceIte, Nat.reduceEqDiff, Nat.reduceLT, Nat.reduceLeDiff, Nat.reduceAdd, Nat.reduceSub, Nat.reduceMul, Nat.reduceBEq, reduceCtorEq, if_false, if_true, L_reply_Same, hs_o1, hs_o2, encReplyV]
  have hq := Option.some.inj h; subst hq
  refine hK0 _ _ _ (.inr rfl) ?_
  exact fn_end0 (by exact hfr) hcl (resv_tmp (a := (.bool t7)) rfl rfl resv_nil) (by simp [fin, AV.df, AV.sh, AV.sh1, b_df, b_sh, b_sh1, b_Cl]) (Wx.bool) (r' := (.bool t7)) ⟨rfl, rfl⟩

end Go.Proofs.ReplyS
