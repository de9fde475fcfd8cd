import Derived.Test.YtndhkepeecpilaaDoorRS2
set_option linter.unusedSimpArgs false
set_option linter.unusedVariables false
set_option linter.unusedSectionVars false
set_option linter.defProp false
set_option maxRecDepth 100000
namespace Go.Proofs.ReplyS
open Go Go.Am Go.Proofs

/-! ### mailbag/mailbaglaw16.Few -/
def c_law16_Few_l1b : ACode := (.seq (.seq (.rg [⟨(some 8), (.mv (.t 3)), none⟩, ⟨(some 9), (.fld (.t 1) 1), none⟩, ⟨(some 10), (.ld (.t 9) none), none⟩, ⟨(some 11), (.len (.t 10)), none⟩, ⟨(some 12), (.bin .lss (.t 8) (.t 11)), none⟩]) (.cond (.t 12) .skip (.exit 0))) (.seq (.blk 1 (.seq (.rg [⟨(some 15), (.fld (.t 1) 1), none⟩, ⟨(some 16), (.ld (.t 15) none), none⟩, ⟨(some 17), (.mv (.t 3)), none⟩, ⟨(some 18), (.ixa 1 (.t 16) (.t 17)), none⟩, ⟨(some 19), (.ld (.t 18) none), none⟩, ⟨(some 20), (.lens (.t 19)), none⟩, ⟨(some 21), (.bin .gtr (.t 20) (.c (.int .i64 700))), none⟩]) (.cond (.t 21) (.seq (.rg [⟨(some 2), (.asg (.c (.bool false))), none⟩]) .ret) .skip))) (.rg [⟨(some 13), (.mv (.t 3)), none⟩, ⟨(some 14), (.bin .add (.t 13) (.c (.int .i64 1))), none⟩, ⟨(some 3), (.asg (.t 14)), none⟩])))
def c_law16_Few_l1 : ACode := (.loop c_law16_Few_l1b)
abbrev m_law16_Few_l1b := c_law16_Few_l1b
def c_law16_Few : ACode := (.seq (.rg [⟨(some 1), (.box (.t 0)), none⟩, ⟨(some 2), (.asg (.c (.bool false))), none⟩]) (.seq (.seq (.rg [⟨(some 4), (.fld (.t 1) 1), none⟩, ⟨(some 5), (.ld (.t 4) none), none⟩, ⟨(some 6), (.len (.t 5)), none⟩, ⟨(some 7), (.bin .gtr (.t 6) (.c (.int .i64 40))), none⟩]) (.cond (.t 7) (.seq (.rg [⟨(some 2), (.asg (.c (.bool false))), none⟩]) .ret) .skip)) (.seq (.seq (.rg [⟨(some 3), (.asg (.c (.int .i64 0))), none⟩]) (.blk 0 c_law16_Few_l1)) (.seq (.rg [⟨(some 2), (.asg (.c (.bool true))), none⟩]) .ret))))
abbrev m_law16_Few := c_law16_Few
theorem k_law16_Few : FnOk Tryd.prog 21 22 [(.tmp 2)] c_law16_Few := ⟨Tryd.f21, _, rfl, by decide, rfl, by kernel_rfl, rfl, rfl⟩
abbrev L_law16_Few : List Nat := [0, 1, 2, 3, 7, 12, 21]
def law16_Few_l1 (r1 : ReplyV) : (Bool × Int) → Option (St Bool Unit (Bool × Int))
  | (t3, i4) =>
    (if (decide (i4 < (r1.lines.length : Int))) then
      (idx r1.lines i4).bind fun x5 =>
      (if (decide (700 < (x5.length : Int))) then
        some (.ret false)
      else
        some (.nxt (t3, (IntKind.wrap .i64 (i4 + 1)))))
    else
      some (.brk ()))
def law16_Few (F : Nat) (r1 : ReplyV) : Option (Bool) :=
  (if (decide (40 < (r1.lines.length : Int))) then
    some false
  else
    ((iter (law16_Few_l1 r1) F (false, 0)).bind fun o8 =>
    match o8 with
    | .inr () =>
      some true
    | .inl r7 =>
      some r7))
set_option maxHeartbeats 2000000 in
theorem law16_Few_l1_ok {F : Nat} {i4 : Int} {r1 : ReplyV} {t3 : Bool} {q2 : Nat} {H0 H : AH} (hfr : Fr H0 H0.length [] H) (hs_o1 : H[q2]? = some [(.int .i64 r1.code), (.sl .n 1 (ml AV.str r1.lines))]) (hi0 : H0.length ≤ q2) {K : Exit → Env → AH → Prop} {o : (Bool) ⊕ (Unit)}
    (h : iter (law16_Few_l1 r1) F (t3, i4) = some o)
    (kb0 : ∀ o' : Unit, o = .inr o' → ∀ H' : AH, Fr H0 H0.length [] H' → H'[q2]? = some [(.int .i64 r1.code), (.sl .n 1 (ml AV.str r1.lines))] → K (.exit 0) [] H')
    (kr : ∀ o' : Bool, o = .inl o' → ∀ H' : AH, Fr H0 H0.length [] H' → K .ret [(2, (.bool o'))] H') :
    AX Tryd.prog L_law16_Few 22 H0.length c_law16_Few_l1 K [(1, (.ptr q2 0)), (2, (.bool t3)), (3, (.int .i64 i4))] H := by
  refine AX.iter (m := m_law16_Few_l1b) rfl (by decide) (fun s e H1 => match s with | (t3, i4) => e = [(1, (.ptr q2 0)), (2, (.bool t3)), (3, (.int .i64 i4))] ∧ Fr H0 H0.length [] H1 ∧ H1[q2]? = some [(.int .i64 r1.code), (.sl .n 1 (ml AV.str r1.lines))]) h ⟨rfl, hfr, hs_o1⟩ ?_
  skip
  rintro K' ⟨t3, i4⟩ st e H ⟨rfl, hfr, hs_o1⟩ h hN hB hR hX
  have hle := hfr.le
  have hl_o1 := h_lt hs_o1
  rw [law16_Few_l1.eq_1] at h
  simp (disch := first | assumption | omega | (simp only [h_sl, h_al] <;> omega) | fail) only [WW, WH, ↓reduceIte, Nat.reduceEqDiff, Nat.reduceLT, Nat.reduceLeDiff, Nat.reduceAdd, Nat.reduceSub, Nat.reduceMul, Nat.reduceBEq, reduceCtorEq, if_false, if_true, L_law16_Few, m_law16_Few_l1b, c_law16_Few_l1b, hs_o1, encReplyV]
  rcases ifb h with ⟨hy2, h⟩ | ⟨hy2, h⟩
  · refine UC_t hy2 ?_
    obtain ⟨x5, hy3, h⟩ := bnd' h
    simp (disch := first | assumption | omega | (simp only [h_sl, h_al] <;> omega) | fail) only [WW, WH, ↓reduceIte, Nat.reduceEqDiff, Nat.reduceLT, Nat.reduceLeDiff, Nat.reduceAdd, Nat.reduceSub, Nat.reduceMul, Nat.reduceBEq, reduceCtorEq, if_false, if_true, L_law16_Few, hy3, hs_o1, encReplyV]
    rcases ifb h with ⟨hy4, h⟩ | ⟨hy4, h⟩
    · refine UC_t hy4 ?_
      simp (disch := first | assumption | omega | (simp only [h_sl, h_al] <;> omega) | fail) only [WW, WH, ↓reduceIte, Nat.reduceEqDiff, Nat.reduceLT, Nat.reduceLeDiff, Nat.reduceAdd, Nat.reduceSub, Nat.reduceMul, Nat.reduceBEq, reduceCtorEq, if_false, if_true, L_law16_Few, hs_o1, encReplyV]
      have hq := Option.some.inj h; subst hq
      refine hX _ _ _ _ _ (by simp) ?_ (WxH.refl _) (kr _ (hR _ rfl) _ hfr)
      exact WE.cons (Wx.bool) (WE.nil)
    · refine UC_f hy4 ?_
      simp (disch := first | assumption | omega | (simp only [h_sl, h_al] <;> omega) | fail) only [WW, WH, ↓reduceIte, Nat.reduceEqDiff, Nat.reduceLT, Nat.reduceLeDiff, Nat.reduceAdd, Nat.reduceSub, Nat.reduceMul, Nat.reduceBEq, reduceCtorEq, if_false, if_true, L_law16_Few, hs_o1, encReplyV]
      have hq := Option.some.inj h; subst hq
      refine hN _ rfl _ _ _ _ ?_ (WxH.refl _) ⟨rfl, hfr, ((hs_o1).trans rfl)⟩
      exact WE.cons (Wx.ptr) (WE.cons (Wx.bool) (WE.cons (Wx.int) (WE.nil)))
  · refine UC_f hy2 ?_
    simp (disch := first | assumption | omega | (simp only [h_sl, h_al] <;> omega) | fail) only [WW, WH, ↓reduceIte, Nat.reduceEqDiff, Nat.reduceLT, Nat.reduceLeDiff, Nat.reduceAdd, Nat.reduceSub, Nat.reduceMul, Nat.reduceBEq, reduceCtorEq, if_false, if_true, L_law16_Few, hs_o1, encReplyV]
    have hq := Option.some.inj h; subst hq
    refine hX _ _ _ _ _ (by simp) ?_ (WxH.refl _) (kb0 _ (hB _ rfl) _ hfr ((hs_o1).trans rfl))
    exact WE.nil
set_option maxHeartbeats 2000000 in
theorem law16_Few_ok {F : Nat} {r1 : ReplyV}  {H0 : AH}  {rz0 : Bool} (h : law16_Few F r1 = some rz0) :
    ACalls Tryd.prog 21 [(.agg [(.int .i64 r1.code), (.sl .n 1 (ml AV.str r1.lines))])] H0 fun v H' => v = (.bool rz0) ∧ H' = H0 := by
  refine ACalls.goX k_law16_Few (m := m_law16_Few) rfl L_law16_Few (by decide) (by simp) fun hcl K0 hK0 => ?_
  refine AX.of_U (m := m_law16_Few) rfl (by decide) ?_
  have hfr := Fr.refl H0 []
  have hle := hfr.le
  rw [law16_Few.eq_1] at h
  obtain ⟨H, hHH⟩ : ∃ H, H = H0 := ⟨_, rfl⟩
  have hfr : Fr H0 H0.length [] H := hHH ▸ hfr
  have hle := hfr.le
  suffices hU : U Tryd.prog L_law16_Few 22 H0.length [.code m_law16_Few] K0 .normal (argE 0 [(.agg [(.int .i64 r1.code), (.sl .n 1 (ml AV.str r1.lines))])]) H by rwa [hHH] at hU
  simp (disch := first | assumption | omega | (simp only [h_sl, h_al] <;> omega) | fail) only [WW, WH, ↓reduceIte, Nat.reduceEqDiff, Nat.reduceLT, Nat.reduceLeDiff, Nat.reduceAdd, Nat.reduceSub, Nat.reduceMul, Nat.reduceBEq, reduceCtorEq, if_false, if_true, L_law16_Few, m_law16_Few, c_law16_Few, encReplyV]
  rcases ifb h with ⟨hy1, h⟩ | ⟨hy1, h⟩
  · refine UC_t hy1 ?_
    simp (disch := first | assumption | omega | (simp only [h_sl, h_al] <;> omega) | fail) only [WW, WH, ↓reduceIte, Nat.reduceEqDiff, Nat.reduceLT, Nat.reduceLeDiff, Nat.reduceAdd, Nat.reduceSub, Nat.reduceMul, Nat.reduceBEq, reduceCtorEq, if_false, if_true, L_law16_Few, encReplyV]
    have hq := Option.some.inj h; subst hq
    refine hK0 _ _ _ (.inr rfl) ?_
    exact fn_end0 (by exact (Fr.app hfr)) hcl (resv_tmp (a := (.bool false)) rfl rfl resv_nil) (by simp [fin, AV.df, AV.sh, AV.sh1, b_df, b_sh, b_sh1, b_Cl]) (Wx.bool) (r' := (.bool false)) ⟨rfl, rfl⟩
  · refine UC_f hy1 ?_
    simp (disch := first | assumption | omega | (simp only [h_sl, h_al] <;> omega) | fail) only [WW, WH, ↓reduceIte, Nat.reduceEqDiff, Nat.reduceLT, Nat.reduceLeDiff, Nat.reduceAdd, Nat.reduceSub, Nat.reduceMul, Nat.reduceBEq, reduceCtorEq, if_false, if_true, L_law16_Few, encReplyV]
    obtain ⟨q2, hg_q2⟩ : ∃ q : Nat, H.length = q := ⟨_, rfl⟩
    try rw [hg_q2]
    obtain ⟨o8, hy5, h⟩ := bnd' h
    refine UX_of (AX.weak ?_ (WxH.refl _) (law16_Few_l1_ok  (r1 := r1) (t3 := false) (i4 := 0) (q2 := q2) ((Fr.app hfr)) ((h_new' (by first | assumption | omega | (simp only [h_sl, h_al] <;> omega) | fail)).trans rfl) (by first | assumption | omega | (simp only [h_sl, h_al] <;> omega) | fail) (o := o8) hy5 ?_ ?_))
    · exact WE.cons (Wx.ptr) (WE.cons (Wx.bool) (WE.cons (Wx.int) (WE.nil)))
    · rintro ⟨⟩ rfl H hfr hs_o1
      try dsimp only at h hs_o1
      have hle := hfr.le
      have hl_o1 := h_lt hs_o1
      simp (disch := first | assumption | omega | (simp only [h_sl, h_al] <;> omega) | fail) only [WW, WH, ↓reduceIte, Nat.reduceEqDiff, Nat.reduceLT, Nat.reduceLeDiff, Nat.reduceAdd, Nat.reduceSub, Nat.reduceMul, Nat.reduceBEq, reduceCtorEq, if_false, if_true, L_law16_Few, hs_o1, encReplyV]
      have hq := Option.some.inj h; subst hq
      refine hK0 _ _ _ (.inr rfl) ?_
      exact fn_end0 (by exact hfr) hcl (resv_tmp (a := (.bool true)) rfl rfl resv_nil) (by simp [fin, AV.df, AV.sh, AV.sh1, b_df, b_sh, b_sh1, b_Cl]) (Wx.bool) (r' := (.bool true)) ⟨rfl, rfl⟩
    · rintro r7 rfl H hfr
      try dsimp only at h 
      have hle := hfr.le
      simp (disch := first | assumption | omega | (simp only [h_sl, h_al] <;> omega) | fail) only [WW, WH, ↓reduceIte, Nat.reduceEqDiff, Nat.reduceLT, Nat.reduceLeDiff, Nat.reduceAdd, Nat.reduceSub, Nat.reduceMul, Nat.reduceBEq, reduceCtorEq, if_false, if_true, L_law16_Few, encReplyV]
      have hq := Option.some.inj h; subst hq
      refine hK0 _ _ _ (.inr rfl) ?_
      exact fn_end0 (by exact hfr) hcl (resv_tmp (a := (.bool r7)) rfl rfl resv_nil) (by simp [fin, AV.df, AV.sh, AV.sh1, b_df, b_sh, b_sh1, b_Cl]) (Wx.bool) (r' := (.bool r7)) ⟨rfl, rfl⟩

/-! ### slices.Equal[[]string,string] -/
def c_slices_Equal_l1b : ACode := (.seq (.rg [⟨(some 14), (.bin .lss (.t 13) (.t 12)), none⟩]) (.seq (.cond (.t 14) .skip (.exit 0)) (.seq (.blk 1 (.seq (.rg [⟨(some 15), (.mv (.t 13)), none⟩, ⟨(some 5), (.asg (.t 15)), none⟩]) (.seq (.rg [⟨(some 16), (.mv (.t 0)), none⟩, ⟨(some 17), (.mv (.t 5)), none⟩, ⟨(some 18), (.ixa 1 (.t 16) (.t 17)), none⟩, ⟨(some 19), (.ld (.t 18) none), none⟩, ⟨(some 20), (.mv (.t 1)), none⟩, ⟨(some 21), (.mv (.t 5)), none⟩, ⟨(some 22), (.ixa 1 (.t 20) (.t 21)), none⟩, ⟨(some 23), (.ld (.t 22) none), none⟩, ⟨(some 24), (.bin .neq (.t 19) (.t 23)), none⟩]) (.cond (.t 24) (.seq (.rg [⟨(some 4), (.asg (.c (.bool false))), none⟩]) .ret) .skip)))) (.rg [⟨(some 25), (.bin .add (.t 13) (.c (.int .i64 1))), none⟩, ⟨(some 13), (.mv (.t 25)), none⟩]))))
def c_slices_Equal_l1 : ACode := (.loop c_slices_Equal_l1b)
abbrev m_slices_Equal_l1b := c_slices_Equal_l1b
def c_slices_Equal : ACode := (.seq (.rg [⟨(some 4), (.asg (.c (.bool false))), none⟩]) (.seq (.seq (.rg [⟨(some 6), (.mv (.t 0)), none⟩, ⟨(some 7), (.len (.t 6)), none⟩, ⟨(some 8), (.mv (.t 1)), none⟩, ⟨(some 9), (.len (.t 8)), none⟩, ⟨(some 10), (.bin .neq (.t 7) (.t 9)), none⟩]) (.cond (.t 10) (.seq (.rg [⟨(some 4), (.asg (.c (.bool false))), none⟩]) .ret) .skip)) (.seq (.seq (.rg [⟨(some 11), (.mv (.t 0)), none⟩, ⟨(some 12), (.len (.t 11)), none⟩, ⟨(some 13), (.mv (.c (.int .i64 0))), none⟩]) (.blk 0 c_slices_Equal_l1)) (.seq (.rg [⟨(some 4), (.asg (.c (.bool true))), none⟩]) .ret))))
abbrev m_slices_Equal := c_slices_Equal
theorem k_slices_Equal : FnOk Tryd.prog 40 26 [(.tmp 4)] c_slices_Equal := ⟨Tryd.f40, _, rfl, by decide, rfl, by kernel_rfl, rfl, rfl⟩
abbrev L_slices_Equal : List Nat := [0, 1, 4, 5, 10, 12, 13, 14, 24]
def slices_Equal_l1 (s1 : List (List UInt8)) (s2 : List (List UInt8)) : (Bool × Int) → Option (St Bool Unit (Bool × Int))
  | (t3, t4) =>
    (if (decide (t4 < (s1.length : Int))) then
      (idx s1 t4).bind fun x5 =>
      (idx s2 t4).bind fun x6 =>
      (if (!decide (x5 = x6)) then
        some (.ret false)
      else
        some (.nxt (t3, (IntKind.wrap .i64 (t4 + 1)))))
    else
      some (.brk ()))
def slices_Equal (F : Nat) (s1 : List (List UInt8)) (s2 : List (List UInt8)) : Option (Bool) :=
  (if (!decide ((s1.length : Int) = (s2.length : Int))) then
    some false
  else
    ((iter (slices_Equal_l1 s1 s2) F (false, 0)).bind fun o9 =>
    match o9 with
    | .inr () =>
      some true
    | .inl r8 =>
      some r8))
set_option maxHeartbeats 2000000 in
theorem slices_Equal_l1_ok {F : Nat} {t4 : Int} {s1 : List (List UInt8)} {s2 : List (List UInt8)} {t3 : Bool} {H : AH}  {K : Exit → Env → AH → Prop} {o : (Bool) ⊕ (Unit)}
    (h : iter (slices_Equal_l1 s1 s2) F (t3, t4) = some o)
    (kb0 : ∀ o' : Unit, o = .inr o' → K (.exit 0) [] H)
    (kr : ∀ o' : Bool, o = .inl o' → K .ret [(4, (.bool o'))] H) :
    AX Tryd.prog L_slices_Equal 26 H.length c_slices_Equal_l1 K [(0, (.sl .n 1 (ml AV.str s1))), (1, (.sl .n 1 (ml AV.str s2))), (4, (.bool t3)), (12, (.int .i64 (s1.length : Int))), (13, (.int .i64 t4))] H := by
  refine AX.iter (m := m_slices_Equal_l1b) rfl (by decide) (fun s e H1 => match s with | (t3, t4) => e = [(0, (.sl .n 1 (ml AV.str s1))), (1, (.sl .n 1 (ml AV.str s2))), (4, (.bool t3)), (12, (.int .i64 (s1.length : Int))), (13, (.int .i64 t4))] ∧ H1 = H) h ⟨rfl, rfl⟩ ?_
  rintro K' ⟨t3, t4⟩ st e H ⟨rfl, rfl⟩ h hN hB hR hX
  rw [slices_Equal_l1.eq_1] at h
  simp only [WW, ↓reduceIte, Nat.reduceEqDiff, Nat.reduceLT, Nat.reduceLeDiff, Nat.reduceAdd, Nat.reduceSub, Nat.reduceMul, Nat.reduceBEq, reduceCtorEq, if_false, if_true, L_slices_Equal, m_slices_Equal_l1b, c_slices_Equal_l1b, encReplyV]
  rcases ifb h with ⟨hy2, h⟩ | ⟨hy2, h⟩
  · refine UC_t hy2 ?_
    obtain ⟨x5, hy3, h⟩ := bnd' h
    obtain ⟨x6, hy4, h⟩ := bnd' h
    simp only [WW, ↓reduceIte, Nat.reduceEqDiff, Nat.reduceLT, Nat.reduceLeDiff, Nat.reduceAdd, Nat.reduceSub, Nat.reduceMul, Nat.reduceBEq, reduceCtorEq, if_false, if_true, L_slices_Equal, hy3, hy4, encReplyV]
    rcases ifb h with ⟨hy5, h⟩ | ⟨hy5, h⟩
    · refine UC_t hy5 ?_
      simp only [WW, ↓reduceIte, Nat.reduceEqDiff, Nat.reduceLT, Nat.reduceLeDiff, Nat.reduceAdd, Nat.reduceSub, Nat.reduceMul, Nat.reduceBEq, reduceCtorEq, if_false, if_true, L_slices_Equal, encReplyV]
      have hq := Option.some.inj h; subst hq
      refine hX _ _ _ _ _ (by simp) ?_ (WxH.refl _) (kr _ (hR _ rfl) )
      exact WE.cons (Wx.bool) (WE.nil)
    · refine UC_f hy5 ?_
      simp only [WW, ↓reduceIte, Nat.reduceEqDiff, Nat.reduceLT, Nat.reduceLeDiff, Nat.reduceAdd, Nat.reduceSub, Nat.reduceMul, Nat.reduceBEq, reduceCtorEq, if_false, if_true, L_slices_Equal, encReplyV]
      have hq := Option.some.inj h; subst hq
      refine hN _ rfl _ _ _ _ ?_ (WxH.refl _) ⟨rfl, rfl⟩
      exact WE.cons (Wx.nn) (WE.cons (Wx.nn) (WE.cons (Wx.bool) (WE.cons (Wx.int) (WE.cons (Wx.int) (WE.nil)))))
  · refine UC_f hy2 ?_
    simp only [WW, ↓reduceIte, Nat.reduceEqDiff, Nat.reduceLT, Nat.reduceLeDiff, Nat.reduceAdd, Nat.reduceSub, Nat.reduceMul, Nat.reduceBEq, reduceCtorEq, if_false, if_true, L_slices_Equal, encReplyV]
    have hq := Option.some.inj h; subst hq
    refine hX _ _ _ _ _ (by simp) ?_ (WxH.refl _) (kb0 _ (hB _ rfl) )
    exact WE.nil
set_option maxHeartbeats 2000000 in
theorem slices_Equal_ok {F : Nat} {s1 : List (List UInt8)} {s2 : List (List UInt8)}  {H0 : AH}  {rz0 : Bool} (h : slices_Equal F s1 s2 = some rz0) :
    ACalls Tryd.prog 40 [(.sl .n 1 (ml AV.str s1)), (.sl .n 1 (ml AV.str s2))] H0 fun v H' => v = (.bool rz0) ∧ H' = H0 := by
  refine ACalls.goX k_slices_Equal (m := m_slices_Equal) rfl L_slices_Equal (by decide) (by simp) fun hcl K0 hK0 => ?_
  refine AX.of_U (m := m_slices_Equal) rfl (by decide) ?_
  rw [slices_Equal.eq_1] at h
  simp only [WW, ↓reduceIte, Nat.reduceEqDiff, Nat.reduceLT, Nat.reduceLeDiff, Nat.reduceAdd, Nat.reduceSub, Nat.reduceMul, Nat.reduceBEq, reduceCtorEq, if_false, if_true, L_slices_Equal, m_slices_Equal, c_slices_Equal, encReplyV]
  rcases ifb h with ⟨hy1, h⟩ | ⟨hy1, h⟩
  · refine UC_t hy1 ?_
    simp only [WW, ↓reduceIte, Nat.reduceEqDiff, Nat.reduceLT, Nat.reduceLeDiff, Nat.reduceAdd, Nat.reduceSub, Nat.reduceMul, Nat.reduceBEq, reduceCtorEq, if_false, if_true, L_slices_Equal, encReplyV]
    have hq := Option.some.inj h; subst hq
    refine hK0 _ _ _ (.inr rfl) ?_
    exact fn_endp hcl (resv_tmp (a := (.bool false)) rfl rfl resv_nil) (by simp [fin, AV.df, AV.sh, AV.sh1, b_df, b_sh, b_sh1, b_Cl]) (Wx.bool) (r' := (.bool false)) ⟨rfl, rfl⟩
  · refine UC_f hy1 ?_
    simp only [WW, ↓reduceIte, Nat.reduceEqDiff, Nat.reduceLT, Nat.reduceLeDiff, Nat.reduceAdd, Nat.reduceSub, Nat.reduceMul, Nat.reduceBEq, reduceCtorEq, if_false, if_true, L_slices_Equal, encReplyV]
    obtain ⟨o9, hy6, h⟩ := bnd' h
    refine UX_of (AX.weak ?_ (WxH.refl _) (slices_Equal_l1_ok  (s1 := s1) (s2 := s2) (t3 := false) (t4 := 0)   (o := o9) hy6 ?_ ?_))
    · exact WE.cons (Wx.nn) (WE.cons (Wx.nn) (WE.cons (Wx.bool) (WE.cons (Wx.int) (WE.cons (Wx.int) (WE.nil)))))
    · rintro ⟨⟩ rfl  
      try dsimp only at h 
      simp only [WW, ↓reduceIte, Nat.reduceEqDiff, Nat.reduceLT, Nat.reduceLeDiff, Nat.reduceAdd, Nat.reduceSub, Nat.reduceMul, Nat.reduceBEq, reduceCtorEq, if_false, if_true, L_slices_Equal, encReplyV]
      have hq := Option.some.inj h; subst hq
      refine hK0 _ _ _ (.inr rfl) ?_
      exact fn_endp hcl (resv_tmp (a := (.bool true)) rfl rfl resv_nil) (by simp [fin, AV.df, AV.sh, AV.sh1, b_df, b_sh, b_sh1, b_Cl]) (Wx.bool) (r' := (.bool true)) ⟨rfl, rfl⟩
    · rintro r8 rfl  
      try dsimp only at h 
      simp only [WW, ↓reduceIte, Nat.reduceEqDiff, Nat.reduceLT, Nat.reduceLeDiff, Nat.reduceAdd, Nat.reduceSub, Nat.reduceMul, Nat.reduceBEq, reduceCtorEq, if_false, if_true, L_slices_Equal, encReplyV]
      have hq := Option.some.inj h; subst hq
      refine hK0 _ _ _ (.inr rfl) ?_
      exact fn_endp hcl (resv_tmp (a := (.bool r8)) rfl rfl resv_nil) (by simp [fin, AV.df, AV.sh, AV.sh1, b_df, b_sh, b_sh1, b_Cl]) (Wx.bool) (r' := (.bool r8)) ⟨rfl, rfl⟩

/-! ### mailbag/reply.Same -/
def c_reply_Same_p1 : ACode := (.rg [⟨(some 5), (.fld (.t 2) 0), none⟩, ⟨(some 6), (.ld (.t 5) none), none⟩, ⟨(some 7), (.fld (.t 3) 0), none⟩, ⟨(some 8), (.ld (.t 7) none), none⟩, ⟨(some 9), (.bin .eql (.t 6) (.t 8)), none⟩, ⟨(some 10), (.mv (.t 9)), none⟩, ⟨(some 11), (.fld (.t 2) 1), (some (10, true))⟩, ⟨(some 12), (.ld (.t 11) none), (some (10, true))⟩, ⟨(some 13), (.fld (.t 3) 1), (some (10, true))⟩, ⟨(some 14), (.ld (.t 13) none), (some (10, true))⟩, ⟨(some 15), (.call (.c (.fn 40 [])) [(.t 12), (.t 14)]), (some (10, true))⟩, ⟨(some 16), (.pick (.t 10) (.t 15) (.c (.bool false))), none⟩, ⟨(some 4), (.asg (.t 16)), none⟩])
abbrev m_reply_Same_p1 := c_reply_Same_p1
def c_reply_Same : ACode := (.seq (.rg [⟨(some 2), (.box (.t 0)), none⟩, ⟨(some 3), (.box (.t 1)), none⟩, ⟨(some 4), (.asg (.c (.bool false))), none⟩]) (.seq c_reply_Same_p1 .ret))
def m_reply_Same : ACode := (.seq (.rg [⟨(some 2), (.box (.t 0)), none⟩, ⟨(some 3), (.box (.t 1)), none⟩, ⟨(some 4), (.asg (.c (.bool false))), none⟩]) (.seq (.sem c_reply_Same_p1) .ret))
theorem k_reply_Same : FnOk Tryd.prog 26 17 [(.tmp 4)] c_reply_Same := ⟨Tryd.f26, _, rfl, by decide, rfl, by kernel_rfl, rfl, rfl⟩
abbrev L_reply_Same : List Nat := [0, 1, 2, 3, 4]
def reply_Same_p1 (F : Nat) (a1 : ReplyV) (b2 : ReplyV) : Option (Bool) :=
  (if (decide (a1.code = b2.code)) then
    (slices_Equal F a1.lines b2.lines).bind fun r5 => some r5
  else
    some false)
def reply_Same (F : Nat) (a1 : ReplyV) (b2 : ReplyV) : Option (Bool) :=
  (reply_Same_p1 F a1 b2).bind fun t7 =>
  some t7
set_option maxHeartbeats 2000000 in
theorem reply_Same_p1_ok {F : Nat} {a1 : ReplyV} {b2 : ReplyV} {q3 : Nat} {q4 : Nat} {H0 H : AH} (hfr : Fr H0 H0.length [] H) (hs_o1 : H[q3]? = some [(.int .i64 a1.code), (.sl .n 1 (ml AV.str a1.lines))]) (hs_o2 : H[q4]? = some [(.int .i64 b2.code), (.sl .n 1 (ml AV.str b2.lines))]) (hi0 : H0.length ≤ q3) (hi1 : H0.length ≤ q4) (hi2 : q3 ≠ q4) {K : Exit → Env → AH → Prop} {t6 : Bool}
    (h : reply_Same_p1 F a1 b2 = some t6)
    (kn : ∀ H' : AH, Fr H0 H0.length [] H' → H'[q3]? = some [(.int .i64 a1.code), (.sl .n 1 (ml AV.str a1.lines))] → H'[q4]? = some [(.int .i64 b2.code), (.sl .n 1 (ml AV.str b2.lines))] → K .normal [(4, (.bool t6))] H') :
    AX Tryd.prog L_reply_Same 17 H0.length c_reply_Same_p1 K [(2, (.ptr q3 0)), (3, (.ptr q4 0)), (4, (.bool false))] H := by
  refine AX.go (m := m_reply_Same_p1) rfl (by decide) fun K' hK => ?_
  have hle := hfr.le
  have hl_o1 := h_lt hs_o1
  have hl_o2 := h_lt hs_o2
  rw [reply_Same_p1.eq_1] at h
  simp (disch := first | assumption | omega | (simp only [h_sl, h_al] <;> omega) | fail) only [WW, WH, ↓reduceIte, Nat.reduceEqDiff, Nat.reduceLT, Nat.reduceLeDiff, Nat.reduceAdd, Nat.reduceSub, Nat.reduceMul, Nat.reduceBEq, reduceCtorEq, if_false, if_true, L_reply_Same, m_reply_Same_p1, c_reply_Same_p1, hs_o1, hs_o2, encReplyV]
  rcases ifb h with ⟨hy1, h⟩ | ⟨hy1, h⟩
  · refine UG_go hy1 ?_
    simp (disch := first | assumption | omega | (simp only [h_sl, h_al] <;> omega) | fail) only [WW, WH, ↓reduceIte, Nat.reduceEqDiff, Nat.reduceLT, Nat.reduceLeDiff, Nat.reduceAdd, Nat.reduceSub, Nat.reduceMul, Nat.reduceBEq, reduceCtorEq, if_false, if_true, L_reply_Same, hy1, hs_o1, hs_o2, encReplyV]
    obtain ⟨r5, hy2, h⟩ := bnd' h
    refine UK_e (as' := [(.sl .n 1 (ml AV.str a1.lines)), (.sl .n 1 (ml AV.str b2.lines))]) (h := slices_Equal_ok (s1 := a1.lines) (s2 := b2.lines) (F := F)  hy2) (hw := WL.cons (Wx.nn) (WL.cons (Wx.nn) (WL.nil))) (hh := WxH.refl _) ?_
    simp (disch := first | assumption | omega | (simp only [h_sl, h_al] <;> omega) | fail) only [WW, WH, ↓reduceIte, Nat.reduceEqDiff, Nat.reduceLT, Nat.reduceLeDiff, Nat.reduceAdd, Nat.reduceSub, Nat.reduceMul, Nat.reduceBEq, reduceCtorEq, if_false, if_true, L_reply_Same, hs_o1, hs_o2, encReplyV]
    have hq := Option.some.inj h; subst hq
    refine hK _ _ _ _ _ ?_ (WxH.refl _) (kn _ hfr ((hs_o1).trans rfl) ((hs_o2).trans rfl))
    exact WE.cons (Wx.bool) (WE.nil)
  · refine UG_nt hy1 ?_
    simp (disch := first | assumption | omega | (simp only [h_sl, h_al] <;> omega) | fail) only [WW, WH, ↓reduceIte, Nat.reduceEqDiff, Nat.reduceLT, Nat.reduceLeDiff, Nat.reduceAdd, Nat.reduceSub, Nat.reduceMul, Nat.reduceBEq, reduceCtorEq, if_false, if_true, L_reply_Same, hy1, hs_o1, hs_o2, encReplyV]
    have hq := Option.some.inj h; subst hq
    refine hK _ _ _ _ _ ?_ (WxH.refl _) (kn _ hfr ((hs_o1).trans rfl) ((hs_o2).trans rfl))
    exact WE.cons (Wx.bool) (WE.nil)
set_option maxHeartbeats 2000000 in
theorem reply_Same_ok {F : Nat} {a1 : ReplyV} {b2 : ReplyV}  {H0 : AH}  {rz0 : Bool} (h : reply_Same F a1 b2 = some rz0) :
    ACalls Tryd.prog 26 [(.agg [(.int .i64 a1.code), (.sl .n 1 (ml AV.str a1.lines))]), (.agg [(.int .i64 b2.code), (.sl .n 1 (ml AV.str b2.lines))])] H0 fun v H' => v = (.bool rz0) ∧ H' = H0 := by
  refine ACalls.goX k_reply_Same (m := m_reply_Same) rfl L_reply_Same (by decide) (by simp) fun hcl K0 hK0 => ?_
  refine AX.of_U (m := m_reply_Same) rfl (by decide) ?_
  have hfr := Fr.refl H0 []
  have hle := hfr.le
  rw [reply_Same.eq_1] at h
  obtain ⟨H, hHH⟩ : ∃ H, H = H0 := ⟨_, rfl⟩
  have hfr : Fr H0 H0.length [] H := hHH ▸ hfr
  have hle := hfr.le
  suffices hU : U Tryd.prog L_reply_Same 17 H0.length [.code m_reply_Same] K0 .normal (argE 0 [(.agg [(.int .i64 a1.code), (.sl .n 1 (ml AV.str a1.lines))]), (.agg [(.int .i64 b2.code), (.sl .n 1 (ml AV.str b2.lines))])]) H by rwa [hHH] at hU
  simp (disch := first | assumption | omega | (simp only [h_sl, h_al] <;> omega) | fail) only [WW, WH, ↓reduceIte, Nat.reduceEqDiff, Nat.reduceLT, Nat.reduceLeDiff, Nat.reduceAdd, Nat.reduceSub, Nat.reduceMul, Nat.reduceBEq, reduceCtorEq, if_false, if_true, L_reply_Same, m_reply_Same, encReplyV]
  obtain ⟨q4, hg_q4⟩ : ∃ q : Nat, (H.length + 1) = q := ⟨_, rfl⟩
  try rw [hg_q4]
  obtain ⟨q3, hg_q3⟩ : ∃ q : Nat, H.length = q := ⟨_, rfl⟩
  try rw [hg_q3]
  obtain ⟨t7, hy3, h⟩ := bnd' h
  refine UX_of (AX.weak ?_ (WxH.refl _) (reply_Same_p1_ok (F := F) (a1 := a1) (b2 := b2) (t6 := t7) (q3 := q3) (q4 := q4) ((Fr.app (Fr.app hfr))) (((h_app (by first | assumption | omega | (simp only [h_sl, h_al] <;> omega) | fail)).trans (h_new' (by first | assumption | omega | (simp only [h_sl, h_al] <;> omega) | fail))).trans rfl) ((h_new' (by first | assumption | omega | (simp only [h_sl, h_al] <;> omega) | fail)).trans rfl) (by first | assumption | omega | (simp only [h_sl, h_al] <;> omega) | fail) (by first | assumption | omega | (simp only [h_sl, h_al] <;> omega) | fail) (by first | assumption | omega | (simp only [h_sl, h_al] <;> omega) | fail) hy3 ?_))
  · exact WE.cons (Wx.ptr) (WE.cons (Wx.ptr) (WE.cons (Wx.bool) (WE.nil)))
  intro H hfr hs_o1 hs_o2
  have hle := hfr.le
  have hl_o1 := h_lt hs_o1
  have hl_o2 := h_lt hs_o2
  simp (disch := first | assumption | omega | (simp only [h_sl, h_al] <;> omega) | fail) only [WW, WH, ↓reduceIte, Nat.reduceEqDiff, Nat.reduceLT, Nat.reduceLeDiff, Nat.reduceAdd, Nat.reduceSub, Nat.reduceMul, Nat.reduceBEq, reduceCtorEq, if_false, if_true, L_reply_Same, hs_o1, hs_o2, encReplyV]
  have hq := Option.some.inj h; subst hq
  refine hK0 _ _ _ (.inr rfl) ?_
  exact fn_end0 (by exact hfr) hcl (resv_tmp (a := (.bool t7)) rfl rfl resv_nil) (by simp [fin, AV.df, AV.sh, AV.sh1, b_df, b_sh, b_sh1, b_Cl]) (Wx.bool) (r' := (.bool t7)) ⟨rfl, rfl⟩

/-! ### mailbag/mailbaglaw16.ReplyBad -/
def c_law16_ReplyBad_p1 : ACode := (.rg [⟨(some 21), (.mv (.t 0)), none⟩, ⟨(some 22), (.len (.t 21)), none⟩, ⟨(some 23), (.bin .gtr (.t 22) (.c (.int .i64 10))), none⟩, ⟨(some 24), (.mv (.t 23)), none⟩, ⟨(some 25), (.mv (.t 1)), (some (24, false))⟩, ⟨(some 26), (.len (.t 25)), (some (24, false))⟩, ⟨(some 27), (.bin .gtr (.t 26) (.c (.int .i64 300))), (some (24, false))⟩, ⟨(some 28), (.pick (.t 24) (.c (.bool true)) (.t 27)), none⟩, ⟨(some 29), (.mv (.t 28)), none⟩, ⟨(some 30), (.mv (.t 2)), (some (29, false))⟩, ⟨(some 31), (.len (.t 30)), (some (29, false))⟩, ⟨(some 32), (.bin .gtr (.t 31) (.c (.int .i64 1000))), (some (29, false))⟩, ⟨(some 33), (.pick (.t 29) (.c (.bool true)) (.t 32)), none⟩])
abbrev m_law16_ReplyBad_p1 := c_law16_ReplyBad_p1
def c_law16_ReplyBad_p2 : ACode := (.rg [⟨(some 40), (.mv (.t 0)), none⟩, ⟨(some 41), (.mv (.t 8)), none⟩, ⟨(some 42), (.ixa 2 (.t 40) (.t 41)), none⟩, ⟨(some 43), (.ld (.t 42) (some 2)), none⟩, ⟨(some 44), (.call (.c (.fn 21 [])) [(.t 43)]), none⟩, ⟨(some 45), (.un .not (.t 44)), none⟩, ⟨(some 46), (.mv (.t 45)), none⟩, ⟨(some 47), (.mv (.t 0)), (some (46, false))⟩, ⟨(some 48), (.mv (.t 8)), (some (46, false))⟩, ⟨(some 49), (.ixa 2 (.t 47) (.t 48)), (some (46, false))⟩, ⟨(some 50), (.ld (.t 49) (some 2)), (some (46, false))⟩, ⟨(some 51), (.call (.c (.fn 24 [])) [(.t 50)]), (some (46, false))⟩, ⟨(some 52), (.un .not (.t 51)), (some (46, false))⟩, ⟨(some 53), (.pick (.t 46) (.c (.bool true)) (.t 52)), none⟩])
abbrev m_law16_ReplyBad_p2 := c_law16_ReplyBad_p2
def c_law16_ReplyBad_l1b : ACode := (.seq (.seq (.rg [⟨(some 34), (.mv (.t 8)), none⟩, ⟨(some 35), (.mv (.t 0)), none⟩, ⟨(some 36), (.len (.t 35)), none⟩, ⟨(some 37), (.bin .lss (.t 34) (.t 36)), none⟩]) (.cond (.t 37) .skip (.exit 0))) (.seq (.blk 1 (.seq (.seq c_law16_ReplyBad_p2 (.cond (.t 53) (.seq (.rg [⟨(some 6), (.asg (.c (.bool true))), none⟩]) .ret) .skip)) (.rg [⟨(some 54), (.mv (.t 7)), none⟩, ⟨(some 55), (.mv (.t 0)), none⟩, ⟨(some 56), (.mv (.t 8)), none⟩, ⟨(some 57), (.ixa 2 (.t 55) (.t 56)), none⟩, ⟨(some 58), (.ld (.t 57) (some 2)), none⟩, ⟨(some 59), (.call (.c (.fn 22 [])) [(.t 58)]), none⟩, ⟨(some 60), (.app 1 1 (.t 54) (.t 59)), none⟩, ⟨(some 7), (.asg (.t 60)), none⟩]))) (.rg [⟨(some 38), (.mv (.t 8)), none⟩, ⟨(some 39), (.bin .add (.t 38) (.c (.int .i64 1))), none⟩, ⟨(some 8), (.asg (.t 39)), none⟩])))
def c_law16_ReplyBad_l1 : ACode := (.loop c_law16_ReplyBad_l1b)
def m_law16_ReplyBad_l1b : ACode := (.seq (.seq (.rg [⟨(some 34), (.mv (.t 8)), none⟩, ⟨(some 35), (.mv (.t 0)), none⟩, ⟨(some 36), (.len (.t 35)), none⟩, ⟨(some 37), (.bin .lss (.t 34) (.t 36)), none⟩]) (.cond (.t 37) .skip (.exit 0))) (.seq (.blk 1 (.seq (.seq (.sem c_law16_ReplyBad_p2) (.cond (.t 53) (.seq (.rg [⟨(some 6), (.asg (.c (.bool true))), none⟩]) .ret) .skip)) (.rg [⟨(some 54), (.mv (.t 7)), none⟩, ⟨(some 55), (.mv (.t 0)), none⟩, ⟨(some 56), (.mv (.t 8)), none⟩, ⟨(some 57), (.ixa 2 (.t 55) (.t 56)), none⟩, ⟨(some 58), (.ld (.t 57) (some 2)), none⟩, ⟨(some 59), (.call (.c (.fn 22 [])) [(.t 58)]), none⟩, ⟨(some 60), (.app 1 1 (.t 54) (.t 59)), none⟩, ⟨(some 7), (.asg (.t 60)), none⟩]))) (.rg [⟨(some 38), (.mv (.t 8)), none⟩, ⟨(some 39), (.bin .add (.t 38) (.c (.int .i64 1))), none⟩, ⟨(some 8), (.asg (.t 39)), none⟩])))
def c_law16_ReplyBad_p3 : ACode := (.rg [⟨(some 68), (.mv (.t 1)), none⟩, ⟨(some 69), (.mv (.t 10)), none⟩, ⟨(some 70), (.ixa 1 (.t 68) (.t 69)), none⟩, ⟨(some 71), (.ld (.t 70) none), none⟩, ⟨(some 72), (.bin .neq (.t 71) (.c (b8 13))), none⟩, ⟨(some 73), (.mv (.t 72)), none⟩, ⟨(some 74), (.mv (.t 1)), (some (73, true))⟩, ⟨(some 75), (.mv (.t 10)), (some (73, true))⟩, ⟨(some 76), (.ixa 1 (.t 74) (.t 75)), (some (73, true))⟩, ⟨(some 77), (.ld (.t 76) none), (some (73, true))⟩, ⟨(some 78), (.bin .neq (.t 77) (.c (b8 10))), (some (73, true))⟩, ⟨(some 79), (.pick (.t 73) (.t 78) (.c (.bool false))), none⟩])
abbrev m_law16_ReplyBad_p3 := c_law16_ReplyBad_p3
def c_law16_ReplyBad_l2b : ACode := (.seq (.seq (.rg [⟨(some 62), (.mv (.t 10)), none⟩, ⟨(some 63), (.mv (.t 1)), none⟩, ⟨(some 64), (.len (.t 63)), none⟩, ⟨(some 65), (.bin .lss (.t 62) (.t 64)), none⟩]) (.cond (.t 65) .skip (.exit 2))) (.seq (.blk 3 (.seq c_law16_ReplyBad_p3 (.cond (.t 79) (.rg [⟨(some 80), (.mv (.t 9)), none⟩, ⟨(some 81), (.mv (.t 1)), none⟩, ⟨(some 82), (.mv (.t 10)), none⟩, ⟨(some 83), (.ixa 1 (.t 81) (.t 82)), none⟩, ⟨(some 84), (.ld (.t 83) none), none⟩, ⟨(some 85), (.bsl 1 [(.t 84)]), none⟩, ⟨(some 86), (.app 1 1 (.t 80) (.t 85)), none⟩, ⟨(some 9), (.asg (.t 86)), none⟩]) .skip))) (.rg [⟨(some 66), (.mv (.t 10)), none⟩, ⟨(some 67), (.bin .add (.t 66) (.c (.int .i64 1))), none⟩, ⟨(some 10), (.asg (.t 67)), none⟩])))
def c_law16_ReplyBad_l2 : ACode := (.loop c_law16_ReplyBad_l2b)
def m_law16_ReplyBad_l2b : ACode := (.seq (.seq (.rg [⟨(some 62), (.mv (.t 10)), none⟩, ⟨(some 63), (.mv (.t 1)), none⟩, ⟨(some 64), (.len (.t 63)), none⟩, ⟨(some 65), (.bin .lss (.t 62) (.t 64)), none⟩]) (.cond (.t 65) .skip (.exit 2))) (.seq (.blk 3 (.seq (.sem c_law16_ReplyBad_p3) (.cond (.t 79) (.rg [⟨(some 80), (.mv (.t 9)), none⟩, ⟨(some 81), (.mv (.t 1)), none⟩, ⟨(some 82), (.mv (.t 10)), none⟩, ⟨(some 83), (.ixa 1 (.t 81) (.t 82)), none⟩, ⟨(some 84), (.ld (.t 83) none), none⟩, ⟨(some 85), (.bsl 1 [(.t 84)]), none⟩, ⟨(some 86), (.app 1 1 (.t 80) (.t 85)), none⟩, ⟨(some 9), (.asg (.t 86)), none⟩]) .skip))) (.rg [⟨(some 66), (.mv (.t 10)), none⟩, ⟨(some 67), (.bin .add (.t 66) (.c (.int .i64 1))), none⟩, ⟨(some 10), (.asg (.t 67)), none⟩])))
def c_law16_ReplyBad_p4 : ACode := (.rg [⟨(some 112), (.mv (.t 12)), none⟩, ⟨(some 113), (.len (.t 112)), none⟩, ⟨(some 114), (.mv (.t 0)), none⟩, ⟨(some 115), (.len (.t 114)), none⟩, ⟨(some 116), (.bin .neq (.t 113) (.t 115)), none⟩, ⟨(some 117), (.mv (.t 116)), none⟩, ⟨(some 118), (.mv (.t 13)), (some (117, false))⟩, ⟨(some 119), (.bin .neq (.t 118) (.c (.int .i64 3))), (some (117, false))⟩, ⟨(some 120), (.pick (.t 117) (.c (.bool true)) (.t 119)), none⟩, ⟨(some 121), (.mv (.t 120)), none⟩, ⟨(some 122), (.mv (.t 15)), (some (121, false))⟩, ⟨(some 123), (.bin .neq (.t 122) (.c (.int .i64 3))), (some (121, false))⟩, ⟨(some 124), (.pick (.t 121) (.c (.bool true)) (.t 123)), none⟩, ⟨(some 125), (.mv (.t 124)), none⟩, ⟨(some 126), (.mv (.t 17)), (some (125, false))⟩, ⟨(some 127), (.bin .neq (.t 126) (.c (.int .i64 3))), (some (125, false))⟩, ⟨(some 128), (.pick (.t 125) (.c (.bool true)) (.t 127)), none⟩, ⟨(some 129), (.mv (.t 128)), none⟩, ⟨(some 130), (.mv (.t 14)), (some (129, false))⟩, ⟨(some 131), (.len (.t 130)), (some (129, false))⟩, ⟨(some 132), (.mv (.t 16)), (some (129, false))⟩, ⟨(some 133), (.len (.t 132)), (some (129, false))⟩, ⟨(some 134), (.bin .add (.t 131) (.t 133)), (some (129, false))⟩, ⟨(some 135), (.bin .neq (.t 134) (.c (.int .i64 0))), (some (129, false))⟩, ⟨(some 136), (.pick (.t 129) (.c (.bool true)) (.t 135)), none⟩])
abbrev m_law16_ReplyBad_p4 := c_law16_ReplyBad_p4
def c_law16_ReplyBad_l3b : ACode := (.seq (.seq (.rg [⟨(some 137), (.mv (.t 18)), none⟩, ⟨(some 138), (.mv (.t 0)), none⟩, ⟨(some 139), (.len (.t 138)), none⟩, ⟨(some 140), (.bin .lss (.t 137) (.t 139)), none⟩]) (.cond (.t 140) .skip (.exit 4))) (.seq (.blk 5 (.seq (.rg [⟨(some 143), (.mv (.t 12)), none⟩, ⟨(some 144), (.mv (.t 18)), none⟩, ⟨(some 145), (.ixa 2 (.t 143) (.t 144)), none⟩, ⟨(some 146), (.ld (.t 145) (some 2)), none⟩, ⟨(some 147), (.mv (.t 0)), none⟩, ⟨(some 148), (.mv (.t 18)), none⟩, ⟨(some 149), (.ixa 2 (.t 147) (.t 148)), none⟩, ⟨(some 150), (.ld (.t 149) (some 2)), none⟩, ⟨(some 151), (.call (.c (.fn 26 [])) [(.t 146), (.t 150)]), none⟩, ⟨(some 152), (.un .not (.t 151)), none⟩]) (.cond (.t 152) (.seq (.rg [⟨(some 6), (.asg (.c (.bool false))), none⟩]) .ret) .skip))) (.rg [⟨(some 141), (.mv (.t 18)), none⟩, ⟨(some 142), (.bin .add (.t 141) (.c (.int .i64 1))), none⟩, ⟨(some 18), (.asg (.t 142)), none⟩])))
def c_law16_ReplyBad_l3 : ACode := (.loop c_law16_ReplyBad_l3b)
abbrev m_law16_ReplyBad_l3b := c_law16_ReplyBad_l3b
def c_law16_ReplyBad : ACode := (.seq (.rg [⟨(some 6), (.asg (.c (.bool false))), none⟩]) (.seq (.seq (.rg [⟨(some 19), (.call (.c (.fn 8 [])) []), none⟩, ⟨(some 20), (.un .not (.t 19)), none⟩]) (.cond (.t 20) (.seq (.rg [⟨(some 6), (.asg (.c (.bool false))), none⟩]) .ret) .skip)) (.seq (.seq c_law16_ReplyBad_p1 (.cond (.t 33) (.seq (.rg [⟨(some 6), (.asg (.c (.bool true))), none⟩]) .ret) .skip)) (.seq (.rg [⟨(some 7), (.asg (.c (.sl .ex 1 []))), none⟩]) (.seq (.seq (.rg [⟨(some 8), (.asg (.c (.int .i64 0))), none⟩]) (.blk 0 c_law16_ReplyBad_l1)) (.seq (.rg [⟨(some 61), (.bsl 1 [(.c (b8 120))]), none⟩, ⟨(some 9), (.asg (.t 61)), none⟩]) (.seq (.seq (.rg [⟨(some 10), (.asg (.c (.int .i64 0))), none⟩]) (.blk 2 c_law16_ReplyBad_l2)) (.seq (.rg [⟨(some 87), (.call (.c (.fn 12 [])) []), none⟩, ⟨(some 11), (.asg (.t 87)), none⟩]) (.seq (.seq (.rg [⟨(some 88), (.mv (.t 11)), none⟩, ⟨(some 89), (.pq false (.t 88) (.c (.v (.pointer none)))), none⟩]) (.cond (.t 89) (.seq (.rg [⟨(some 6), (.asg (.c (.bool false))), none⟩]) .ret) .skip)) (.seq (.rg [⟨(some 91), (.mv (.t 11)), none⟩, ⟨(some 92), (.mv (.t 7)), none⟩, ⟨(some 93), (.mv (.t 9)), none⟩, ⟨(some 94), (.app 1 1 (.t 92) (.t 93)), none⟩, ⟨(some 95), (.apps 1 (.t 94) (.c (.str [13, 10, 50, 50, 48, 32, 108, 97, 116, 101, 13, 10]))), none⟩, ⟨(some 96), (.call (.c (.fn 14 [])) [(.t 91), (.t 95)]), none⟩, ⟨(some 90), (.mv (.t 96)), none⟩, ⟨(some 97), (.ext (.t 90) 0), none⟩, ⟨(some 98), (.ext (.t 90) 1), none⟩, ⟨(some 12), (.asg (.t 97)), none⟩, ⟨(some 13), (.asg (.t 98)), none⟩]) (.seq (.rg [⟨(some 100), (.mv (.t 11)), none⟩, ⟨(some 101), (.mv (.t 2)), none⟩, ⟨(some 102), (.call (.c (.fn 14 [])) [(.t 100), (.t 101)]), none⟩, ⟨(some 99), (.mv (.t 102)), none⟩, ⟨(some 103), (.ext (.t 99) 0), none⟩, ⟨(some 104), (.ext (.t 99) 1), none⟩, ⟨(some 14), (.asg (.t 103)), none⟩, ⟨(some 15), (.asg (.t 104)), none⟩]) (.seq (.rg [⟨(some 106), (.mv (.t 11)), none⟩, ⟨(some 108), (.lit 107 [50, 50, 48, 32, 97, 13, 10]), none⟩, ⟨(some 109), (.call (.c (.fn 14 [])) [(.t 106), (.t 108)]), none⟩, ⟨(some 105), (.mv (.t 109)), none⟩, ⟨(some 110), (.ext (.t 105) 0), none⟩, ⟨(some 111), (.ext (.t 105) 1), none⟩, ⟨(some 16), (.asg (.t 110)), none⟩, ⟨(some 17), (.asg (.t 111)), none⟩]) (.seq (.seq c_law16_ReplyBad_p4 (.cond (.t 136) (.seq (.rg [⟨(some 6), (.asg (.c (.bool false))), none⟩]) .ret) .skip)) (.seq (.seq (.rg [⟨(some 18), (.asg (.c (.int .i64 0))), none⟩]) (.blk 4 c_law16_ReplyBad_l3)) (.seq (.rg [⟨(some 6), (.asg (.c (.bool true))), none⟩]) .ret)))))))))))))))
def m_law16_ReplyBad : ACode := (.seq (.rg [⟨(some 6), (.asg (.c (.bool false))), none⟩]) (.seq (.seq (.rg [⟨(some 19), (.call (.c (.fn 8 [])) []), none⟩, ⟨(some 20), (.un .not (.t 19)), none⟩]) (.cond (.t 20) (.seq (.rg [⟨(some 6), (.asg (.c (.bool false))), none⟩]) .ret) .skip)) (.seq (.seq (.sem c_law16_ReplyBad_p1) (.cond (.t 33) (.seq (.rg [⟨(some 6), (.asg (.c (.bool true))), none⟩]) .ret) .skip)) (.seq (.rg [⟨(some 7), (.asg (.c (.sl .ex 1 []))), none⟩]) (.seq (.seq (.rg [⟨(some 8), (.asg (.c (.int .i64 0))), none⟩]) (.blk 0 c_law16_ReplyBad_l1)) (.seq (.rg [⟨(some 61), (.bsl 1 [(.c (b8 120))]), none⟩, ⟨(some 9), (.asg (.t 61)), none⟩]) (.seq (.seq (.rg [⟨(some 10), (.asg (.c (.int .i64 0))), none⟩]) (.blk 2 c_law16_ReplyBad_l2)) (.seq (.rg [⟨(some 87), (.call (.c (.fn 12 [])) []), none⟩, ⟨(some 11), (.asg (.t 87)), none⟩]) (.seq (.seq (.rg [⟨(some 88), (.mv (.t 11)), none⟩, ⟨(some 89), (.pq false (.t 88) (.c (.v (.pointer none)))), none⟩]) (.cond (.t 89) (.seq (.rg [⟨(some 6), (.asg (.c (.bool false))), none⟩]) .ret) .skip)) (.seq (.rg [⟨(some 91), (.mv (.t 11)), none⟩, ⟨(some 92), (.mv (.t 7)), none⟩, ⟨(some 93), (.mv (.t 9)), none⟩, ⟨(some 94), (.app 1 1 (.t 92) (.t 93)), none⟩, ⟨(some 95), (.apps 1 (.t 94) (.c (.str [13, 10, 50, 50, 48, 32, 108, 97, 116, 101, 13, 10]))), none⟩, ⟨(some 96), (.call (.c (.fn 14 [])) [(.t 91), (.t 95)]), none⟩, ⟨(some 90), (.mv (.t 96)), none⟩, ⟨(some 97), (.ext (.t 90) 0), none⟩, ⟨(some 98), (.ext (.t 90) 1), none⟩, ⟨(some 12), (.asg (.t 97)), none⟩, ⟨(some 13), (.asg (.t 98)), none⟩]) (.seq (.rg [⟨(some 100), (.mv (.t 11)), none⟩, ⟨(some 101), (.mv (.t 2)), none⟩, ⟨(some 102), (.call (.c (.fn 14 [])) [(.t 100), (.t 101)]), none⟩, ⟨(some 99), (.mv (.t 102)), none⟩, ⟨(some 103), (.ext (.t 99) 0), none⟩, ⟨(some 104), (.ext (.t 99) 1), none⟩, ⟨(some 14), (.asg (.t 103)), none⟩, ⟨(some 15), (.asg (.t 104)), none⟩]) (.seq (.rg [⟨(some 106), (.mv (.t 11)), none⟩, ⟨(some 108), (.lit 107 [50, 50, 48, 32, 97, 13, 10]), none⟩, ⟨(some 109), (.call (.c (.fn 14 [])) [(.t 106), (.t 108)]), none⟩, ⟨(some 105), (.mv (.t 109)), none⟩, ⟨(some 110), (.ext (.t 105) 0), none⟩, ⟨(some 111), (.ext (.t 105) 1), none⟩, ⟨(some 16), (.asg (.t 110)), none⟩, ⟨(some 17), (.asg (.t 111)), none⟩]) (.seq (.seq (.sem c_law16_ReplyBad_p4) (.cond (.t 136) (.seq (.rg [⟨(some 6), (.asg (.c (.bool false))), none⟩]) .ret) .skip)) (.seq (.seq (.rg [⟨(some 18), (.asg (.c (.int .i64 0))), none⟩]) (.blk 4 c_law16_ReplyBad_l3)) (.seq (.rg [⟨(some 6), (.asg (.c (.bool true))), none⟩]) .ret)))))))))))))))
theorem k_law16_ReplyBad : FnOk Tryd.prog 6 153 [(.tmp 6)] c_law16_ReplyBad := ⟨Tryd.f6, _, rfl, by decide, rfl, by kernel_rfl, rfl, rfl⟩
abbrev L_law16_ReplyBad : List Nat := [0, 1, 2, 6, 7, 8, 9, 10, 11, 12, 13, 14, 15, 16, 17, 18, 20, 33, 37, 53, 65, 79, 89, 136, 140, 152]
def law16_ReplyBad_p2 (F : Nat) (l1 : List ReplyV) (i6 : Int) : Option (Bool) :=
  (idx l1 i6).bind fun x7 =>
  (law16_Few F x7).bind fun r8 =>
  (if (!r8) then
    some true
  else
    (reply_Right F x7).bind fun r9 => some (!r9))
def law16_ReplyBad_l1 (F : Nat) (l1 : List ReplyV) : ((List UInt8) × Int) → Option (St Bool (List UInt8) ((List UInt8) × Int))
  | (b5, i6) =>
    (if (decide (i6 < (l1.length : Int))) then
      (law16_ReplyBad_p2 F l1 i6).bind fun t11 =>
      (if t11 then
        some (.ret true)
      else
        (idx l1 i6).bind fun x12 =>
        (reply_Print F x12).bind fun r13 =>
        (capp 1 b5 r13).bind fun x14 => some (.nxt (x14, (IntKind.wrap .i64 (i6 + 1)))))
    else
      some (.brk b5))
def law16_ReplyBad_p3 (bad2 : List UInt8) (i19 : Int) : Option (Bool) :=
  (idx bad2 i19).bind fun x20 =>
  (if (!decide (x20 = 13)) then
    some (!decide (x20 = 10))
  else
    some false)
def law16_ReplyBad_l2 (bad2 : List UInt8) : ((List UInt8) × Int) → Option (St Bool (List UInt8) ((List UInt8) × Int))
  | (x18, i19) =>
    (if (decide (i19 < (bad2.length : Int))) then
      (law16_ReplyBad_p3 bad2 i19).bind fun t22 =>
      (if t22 then
        (idx bad2 i19).bind fun x23 =>
        (capp 1 x18 ([x23] : List UInt8)).bind fun x24 => some (.nxt (x24, (IntKind.wrap .i64 (i19 + 1))))
      else
        some (.nxt (x18, (IntKind.wrap .i64 (i19 + 1)))))
    else
      some (.brk x18))
def law16_ReplyBad_l3 (F : Nat) (l1 : List ReplyV) (r33 : List ReplyV) : Int → Option (St Bool Unit Int)
  | i42 =>
    (if (decide (i42 < (l1.length : Int))) then
      (idx r33 i42).bind fun x43 =>
      (idx l1 i42).bind fun x44 =>
      (reply_Same F x43 x44).bind fun r45 =>
      (if (!r45) then
        some (.ret false)
      else
        some (.nxt (IntKind.wrap .i64 (i42 + 1))))
    else
      some (.brk ()))
def law16_ReplyBad (F : Nat) (l1 : List ReplyV) (bad2 : List UInt8) (more3 : List UInt8) : Option (Bool) :=
  (law16_known F ).bind fun r4 =>
  (if (!r4) then
    some false
  else
    (if (((decide (10 < (l1.length : Int))) || (decide (300 < (bad2.length : Int)))) || (decide (1000 < (more3.length : Int)))) then
      some true
    else
      ((iter (law16_ReplyBad_l1 F l1) F (([] : List UInt8), 0)).bind fun o51 =>
      match o51 with
      | .inr b17 =>
        ((iter (law16_ReplyBad_l2 bad2) F (([120] : List UInt8), 0)).bind fun o49 =>
        match o49 with
        | .inr x26 =>
          ((reply_New ).bind fun r27 =>
          match r27 with
          | none =>
            some false
          | some t28 =>
            (capp 1 b17 x26).bind fun x31 =>
            (capp 1 x31 ([13, 10, 50, 50, 48, 32, 108, 97, 116, 101, 13, 10] : List UInt8)).bind fun x32 =>
            (reply_Reader_Feed F t28 x32).bind fun (r33, r34, r35) =>
            (reply_Reader_Feed F r35 more3).bind fun (r36, r37, r38) =>
            (reply_Reader_Feed F r38 ([50, 50, 48, 32, 97, 13, 10] : List UInt8)).bind fun (r39, r40, r41) =>
            (if (((((!decide ((r33.length : Int) = (l1.length : Int))) || (!decide (r34 = 3))) || (!decide (r37 = 3))) || (!decide (r40 = 3))) || (!decide ((IntKind.wrap .i64 ((r36.length : Int) + (r39.length : Int))) = 0))) then
              some false
            else
              ((iter (law16_ReplyBad_l3 F l1 r33) F 0).bind fun o48 =>
              match o48 with
              | .inr () =>
                some true
              | .inl r47 =>
                some r47)))
        | .inl _ => none)
      | .inl r50 =>
        some r50)))
set_option maxHeartbeats 2000000 in
theorem law16_ReplyBad_p1_ok {l1 : List ReplyV} {bad2 : List UInt8} {more3 : List UInt8} {H0 H : AH} (hfr : Fr H0 H0.length [] H) {K : Exit → Env → AH → Prop}
    (kn : ∀ H' : AH, Fr H0 H0.length [] H' → K .normal [(0, (.sl .n 2 (ml encReplyV l1))), (1, (.sl .n 1 (ml b8 bad2))), (2, (.sl .n 1 (ml b8 more3))), (33, (.bool (((decide (10 < (l1.length : Int))) || (decide (300 < (bad2.length : Int)))) || (decide (1000 < (more3.length : Int))))))] H') :
    AX Tryd.prog L_law16_ReplyBad 153 H0.length c_law16_ReplyBad_p1 K [(0, (.sl .n 2 (ml encReplyV l1))), (1, (.sl .n 1 (ml b8 bad2))), (2, (.sl .n 1 (ml b8 more3)))] H := by
  refine AX.go (m := m_law16_ReplyBad_p1) rfl (by decide) fun K' hK => ?_
  have hle := hfr.le
  simp (disch := first | assumption | omega | (simp only [h_sl, h_al] <;> omega) | fail) only [WW, WH, ↓reduceIte, Nat.reduceEqDiff, Nat.reduceLT, Nat.reduceLeDiff, Nat.reduceAdd, Nat.reduceSub, Nat.reduceMul, Nat.reduceBEq, reduceCtorEq, if_false, if_true, L_law16_ReplyBad, m_law16_ReplyBad_p1, c_law16_ReplyBad_p1, encReplyV]
  rcases bcases ((decide (10 < (l1.length : Int)))) with hy3 | hy3
  · refine UG_nf hy3 ?_
    simp (disch := first | assumption | omega | (simp only [h_sl, h_al] <;> omega) | fail) only [WW, WH, ↓reduceIte, Nat.reduceEqDiff, Nat.reduceLT, Nat.reduceLeDiff, Nat.reduceAdd, Nat.reduceSub, Nat.reduceMul, Nat.reduceBEq, reduceCtorEq, if_false, if_true, L_law16_ReplyBad, hy3, encReplyV]
    refine hK _ _ _ _ _ ?_ (WxH.refl _) (kn _ hfr)
    exact WE.cons (Wx.nn) (WE.cons (Wx.nn) (WE.cons (Wx.nn) (WE.cons (Wx.boolE (by simp only [hy3, WB])) (WE.nil))))
  · refine UG_go hy3 ?_
    simp (disch := first | assumption | omega | (simp only [h_sl, h_al] <;> omega) | fail) only [WW, WH, ↓reduceIte, Nat.reduceEqDiff, Nat.reduceLT, Nat.reduceLeDiff, Nat.reduceAdd, Nat.reduceSub, Nat.reduceMul, Nat.reduceBEq, reduceCtorEq, if_false, if_true, L_law16_ReplyBad, hy3, encReplyV]
    rcases bcases ((decide (300 < (bad2.length : Int)))) with hy4 | hy4
    · refine UG_nf hy4 ?_
      simp (disch := first | assumption | omega | (simp only [h_sl, h_al] <;> omega) | fail) only [WW, WH, ↓reduceIte, Nat.reduceEqDiff, Nat.reduceLT, Nat.reduceLeDiff, Nat.reduceAdd, Nat.reduceSub, Nat.reduceMul, Nat.reduceBEq, reduceCtorEq, if_false, if_true, L_law16_ReplyBad, hy4, encReplyV]
      refine hK _ _ _ _ _ ?_ (WxH.refl _) (kn _ hfr)
      exact WE.cons (Wx.nn) (WE.cons (Wx.nn) (WE.cons (Wx.nn) (WE.cons (Wx.boolE (by first | (simp only [hy3, hy4, WB]; done) | (try rw [hy3]; try rw [hy4]; try simp only [WB]))) (WE.nil))))
    · refine UG_go hy4 ?_
      simp (disch := first | assumption | omega | (simp only [h_sl, h_al] <;> omega) | fail) only [WW, WH, ↓reduceIte, Nat.reduceEqDiff, Nat.reduceLT, Nat.reduceLeDiff, Nat.reduceAdd, Nat.reduceSub, Nat.reduceMul, Nat.reduceBEq, reduceCtorEq, if_false, if_true, L_law16_ReplyBad, hy4, encReplyV]
      refine hK _ _ _ _ _ ?_ (WxH.refl _) (kn _ hfr)
      exact WE.cons (Wx.nn) (WE.cons (Wx.nn) (WE.cons (Wx.nn) (WE.cons (Wx.boolE (by first | (simp only [hy3, hy4, WB]; done) | (try rw [hy3]; try rw [hy4]; try simp only [WB]))) (WE.nil))))
set_option maxHeartbeats 2000000 in
theorem law16_ReplyBad_p2_ok {F : Nat} {l1 : List ReplyV} {i6 : Int} {bad2 : List UInt8} {more3 : List UInt8} {b5 : List UInt8} {H0 H : AH} (hfr : Fr H0 H0.length [] H) {K : Exit → Env → AH → Prop} {t10 : Bool}
    (h : law16_ReplyBad_p2 F l1 i6 = some t10)
    (kn : ∀ H' : AH, Fr H0 H0.length [] H' → K .normal [(0, (.sl .n 2 (ml encReplyV l1))), (1, (.sl .n 1 (ml b8 bad2))), (2, (.sl .n 1 (ml b8 more3))), (7, (.sl .own 1 (ml b8 b5))), (8, (.int .i64 i6)), (53, (.bool t10))] H') :
    AX Tryd.prog L_law16_ReplyBad 153 H0.length c_law16_ReplyBad_p2 K [(0, (.sl .n 2 (ml encReplyV l1))), (1, (.sl .n 1 (ml b8 bad2))), (2, (.sl .n 1 (ml b8 more3))), (7, (.sl .own 1 (ml b8 b5))), (8, (.int .i64 i6))] H := by
  refine AX.go (m := m_law16_ReplyBad_p2) rfl (by decide) fun K' hK => ?_
  have hle := hfr.le
  rw [law16_ReplyBad_p2.eq_1] at h
  obtain ⟨x7, hy7, h⟩ := bnd' h
  simp (disch := first | assumption | omega | (simp only [h_sl, h_al] <;> omega) | fail) only [WW, WH, ↓reduceIte, Nat.reduceEqDiff, Nat.reduceLT, Nat.reduceLeDiff, Nat.reduceAdd, Nat.reduceSub, Nat.reduceMul, Nat.reduceBEq, reduceCtorEq, if_false, if_true, L_law16_ReplyBad, m_law16_ReplyBad_p2, c_law16_ReplyBad_p2, hy7, encReplyV]
  obtain ⟨r8, hy8, h⟩ := bnd' h
  refine UK_e (as' := [(.agg [(.int .i64 x7.code), (.sl .n 1 (ml AV.str x7.lines))])]) (h := law16_Few_ok (r1 := x7) (F := F)  hy8) (hw := WL.cons (Wx.agg (W1L.same (W1L.same (W1L.nil)))) (WL.nil)) (hh := WxH.refl _) ?_
  simp (disch := first | assumption | omega | (simp only [h_sl, h_al] <;> omega) | fail) only [WW, WH, ↓reduceIte, Nat.reduceEqDiff, Nat.reduceLT, Nat.reduceLeDiff, Nat.reduceAdd, Nat.reduceSub, Nat.reduceMul, Nat.reduceBEq, reduceCtorEq, if_false, if_true, L_law16_ReplyBad, encReplyV]
  rcases ifb h with ⟨hy9, h⟩ | ⟨hy9, h⟩
  · refine UG_nf hy9 ?_
    simp (disch := first | assumption | omega | (simp only [h_sl, h_al] <;> omega) | fail) only [WW, WH, ↓reduceIte, Nat.reduceEqDiff, Nat.reduceLT, Nat.reduceLeDiff, Nat.reduceAdd, Nat.reduceSub, Nat.reduceMul, Nat.reduceBEq, reduceCtorEq, if_false, if_true, L_law16_ReplyBad, hy9, encReplyV]
    have hq := Option.some.inj h; subst hq
    refine hK _ _ _ _ _ ?_ (WxH.refl _) (kn _ hfr)
    exact WE.cons (Wx.nn) (WE.cons (Wx.nn) (WE.cons (Wx.nn) (WE.cons (Wx.oo) (WE.cons (Wx.int) (WE.cons (Wx.bool) (WE.nil))))))
  · refine UG_go hy9 ?_
    simp (disch := first | assumption | omega | (simp only [h_sl, h_al] <;> omega) | fail) only [WW, WH, ↓reduceIte, Nat.reduceEqDiff, Nat.reduceLT, Nat.reduceLeDiff, Nat.reduceAdd, Nat.reduceSub, Nat.reduceMul, Nat.reduceBEq, reduceCtorEq, if_false, if_true, L_law16_ReplyBad, hy9, hy7, encReplyV]
    obtain ⟨r9, hy10, h⟩ := bnd' h
    refine UK_e (as' := [(.agg [(.int .i64 x7.code), (.sl .n 1 (ml AV.str x7.lines))])]) (h := reply_Right_ok (r1 := x7) (F := F)  hy10) (hw := WL.cons (Wx.agg (W1L.same (W1L.same (W1L.nil)))) (WL.nil)) (hh := WxH.refl _) ?_
    simp (disch := first | assumption | omega | (simp only [h_sl, h_al] <;> omega) | fail) only [WW, WH, ↓reduceIte, Nat.reduceEqDiff, Nat.reduceLT, Nat.reduceLeDiff, Nat.reduceAdd, Nat.reduceSub, Nat.reduceMul, Nat.reduceBEq, reduceCtorEq, if_false, if_true, L_law16_ReplyBad, encReplyV]
    have hq := Option.some.inj h; subst hq
    refine hK _ _ _ _ _ ?_ (WxH.refl _) (kn _ hfr)
    exact WE.cons (Wx.nn) (WE.cons (Wx.nn) (WE.cons (Wx.nn) (WE.cons (Wx.oo) (WE.cons (Wx.int) (WE.cons (Wx.bool) (WE.nil))))))
set_option maxHeartbeats 2000000 in
theorem law16_ReplyBad_l1_ok {F : Nat} {i6 : Int} {l1 : List ReplyV} {b5 : List UInt8} {bad2 : List UInt8} {more3 : List UInt8} {H0 H : AH} (hfr : Fr H0 H0.length [] H) {K : Exit → Env → AH → Prop} {o : (Bool) ⊕ ((List UInt8))}
    (h : iter (law16_ReplyBad_l1 F l1) F (b5, i6) = some o)
    (kb0 : ∀ o' : (List UInt8), o = .inr o' → ∀ H' : AH, Fr H0 H0.length [] H' → K (.exit 0) [(0, (.sl .n 2 (ml encReplyV l1))), (1, (.sl .n 1 (ml b8 bad2))), (2, (.sl .n 1 (ml b8 more3))), (7, (.sl .own 1 (ml b8 o')))] H')
    (kr : ∀ o' : Bool, o = .inl o' → ∀ H' : AH, Fr H0 H0.length [] H' → K .ret [(6, (.bool o'))] H') :
    AX Tryd.prog L_law16_ReplyBad 153 H0.length c_law16_ReplyBad_l1 K [(0, (.sl .n 2 (ml encReplyV l1))), (1, (.sl .n 1 (ml b8 bad2))), (2, (.sl .n 1 (ml b8 more3))), (7, (.sl .own 1 (ml b8 b5))), (8, (.int .i64 i6))] H := by
  refine AX.iter (m := m_law16_ReplyBad_l1b) rfl (by decide) (fun s e H1 => match s with | (b5, i6) => e = [(0, (.sl .n 2 (ml encReplyV l1))), (1, (.sl .n 1 (ml b8 bad2))), (2, (.sl .n 1 (ml b8 more3))), (7, (.sl .own 1 (ml b8 b5))), (8, (.int .i64 i6))] ∧ Fr H0 H0.length [] H1) h ⟨rfl, hfr⟩ ?_
  skip
  rintro K' ⟨b5, i6⟩ st e H ⟨rfl, hfr⟩ h hN hB hR hX
  have hle := hfr.le
  rw [law16_ReplyBad_l1.eq_1] at h
  simp (disch := first | assumption | omega | (simp only [h_sl, h_al] <;> omega) | fail) only [WW, WH, ↓reduceIte, Nat.reduceEqDiff, Nat.reduceLT, Nat.reduceLeDiff, Nat.reduceAdd, Nat.reduceSub, Nat.reduceMul, Nat.reduceBEq, reduceCtorEq, if_false, if_true, L_law16_ReplyBad, m_law16_ReplyBad_l1b, encReplyV]
  rcases ifb h with ⟨hy6, h⟩ | ⟨hy6, h⟩
  · refine UC_t hy6 ?_
    simp (disch := first | assumption | omega | (simp only [h_sl, h_al] <;> omega) | fail) only [WW, WH, ↓reduceIte, Nat.reduceEqDiff, Nat.reduceLT, Nat.reduceLeDiff, Nat.reduceAdd, Nat.reduceSub, Nat.reduceMul, Nat.reduceBEq, reduceCtorEq, if_false, if_true, L_law16_ReplyBad, encReplyV]
    obtain ⟨t11, hy11, h⟩ := bnd' h
    refine UX_of (AX.weak ?_ (WxH.refl _) (law16_ReplyBad_p2_ok (F := F) (l1 := l1) (i6 := i6) (bad2 := bad2) (more3 := more3) (b5 := b5) (t10 := t11)  (hfr) hy11 ?_))
    · exact WE.cons (Wx.nn) (WE.cons (Wx.nn) (WE.cons (Wx.nn) (WE.cons (Wx.oo) (WE.cons (Wx.int) (WE.nil)))))
    intro H hfr
    have hle := hfr.le
    simp (disch := first | assumption | omega | (simp only [h_sl, h_al] <;> omega) | fail) only [WW, WH, ↓reduceIte, Nat.reduceEqDiff, Nat.reduceLT, Nat.reduceLeDiff, Nat.reduceAdd, Nat.reduceSub, Nat.reduceMul, Nat.reduceBEq, reduceCtorEq, if_false, if_true, L_law16_ReplyBad, encReplyV]
    rcases ifb h with ⟨hy12, h⟩ | ⟨hy12, h⟩
    · refine UC_t hy12 ?_
      simp (disch := first | assumption | omega | (simp only [h_sl, h_al] <;> omega) | fail) only [WW, WH, ↓reduceIte, Nat.reduceEqDiff, Nat.reduceLT, Nat.reduceLeDiff, Nat.reduceAdd, Nat.reduceSub, Nat.reduceMul, Nat.reduceBEq, reduceCtorEq, if_false, if_true, L_law16_ReplyBad, encReplyV]
      have hq := Option.some.inj h; subst hq
      refine hX _ _ _ _ _ (by simp) ?_ (WxH.refl _) (kr _ (hR _ rfl) _ hfr)
      exact WE.cons (Wx.bool) (WE.nil)
    · refine UC_f hy12 ?_
      obtain ⟨x12, hy13, h⟩ := bnd' h
      simp (disch := first | assumption | omega | (simp only [h_sl, h_al] <;> omega) | fail) only [WW, WH, ↓reduceIte, Nat.reduceEqDiff, Nat.reduceLT, Nat.reduceLeDiff, Nat.reduceAdd, Nat.reduceSub, Nat.reduceMul, Nat.reduceBEq, reduceCtorEq, if_false, if_true, L_law16_ReplyBad, hy13, encReplyV]
      obtain ⟨r13, hy14, h⟩ := bnd' h
      refine UK_e (as' := [(.agg [(.int .i64 x12.code), (.sl .n 1 (ml AV.str x12.lines))])]) (h := reply_Print_ok (r1 := x12) (F := F)  hy14) (hw := WL.cons (Wx.agg (W1L.same (W1L.same (W1L.nil)))) (WL.nil)) (hh := WxH.refl _) ?_
      obtain ⟨x14, hy15, h⟩ := bnd' h
      have hy16 : capp 1 (ml b8 b5) (ml b8 r13) = some (ml b8 x14) := capp_m (f := b8) hy15
      simp (disch := first | assumption | omega | (simp only [h_sl, h_al] <;> omega) | fail) only [WW, WH, ↓reduceIte, Nat.reduceEqDiff, Nat.reduceLT, Nat.reduceLeDiff, Nat.reduceAdd, Nat.reduceSub, Nat.reduceMul, Nat.reduceBEq, reduceCtorEq, if_false, if_true, L_law16_ReplyBad, hy16, encReplyV]
      have hq := Option.some.inj h; subst hq
      refine hN _ rfl _ _ _ _ ?_ (WxH.refl _) ⟨rfl, hfr⟩
      exact WE.cons (Wx.nn) (WE.cons (Wx.nn) (WE.cons (Wx.nn) (WE.cons (Wx.oo) (WE.cons (Wx.int) (WE.nil)))))
  · refine UC_f hy6 ?_
    simp (disch := first | assumption | omega | (simp only [h_sl, h_al] <;> omega) | fail) only [WW, WH, ↓reduceIte, Nat.reduceEqDiff, Nat.reduceLT, Nat.reduceLeDiff, Nat.reduceAdd, Nat.reduceSub, Nat.reduceMul, Nat.reduceBEq, reduceCtorEq, if_false, if_true, L_law16_ReplyBad, encReplyV]
    have hq := Option.some.inj h; subst hq
    refine hX _ _ _ _ _ (by simp) ?_ (WxH.refl _) (kb0 _ (hB _ rfl) _ hfr)
    exact WE.cons (Wx.nn) (WE.cons (Wx.nn) (WE.cons (Wx.nn) (WE.cons (Wx.oo) (WE.nil))))
set_option maxHeartbeats 2000000 in
theorem law16_ReplyBad_p3_ok {bad2 : List UInt8} {i19 : Int} {l1 : List ReplyV} {more3 : List UInt8} {b17 : List UInt8} {x18 : List UInt8} {H0 H : AH} (hfr : Fr H0 H0.length [] H) {K : Exit → Env → AH → Prop} {t21 : Bool}
    (h : law16_ReplyBad_p3 bad2 i19 = some t21)
    (kn : ∀ H' : AH, Fr H0 H0.length [] H' → K .normal [(0, (.sl .n 2 (ml encReplyV l1))), (1, (.sl .n 1 (ml b8 bad2))), (2, (.sl .n 1 (ml b8 more3))), (7, (.sl .own 1 (ml b8 b17))), (9, (.sl .own 1 (ml b8 x18))), (10, (.int .i64 i19)), (79, (.bool t21))] H') :
    AX Tryd.prog L_law16_ReplyBad 153 H0.length c_law16_ReplyBad_p3 K [(0, (.sl .n 2 (ml encReplyV l1))), (1, (.sl .n 1 (ml b8 bad2))), (2, (.sl .n 1 (ml b8 more3))), (7, (.sl .own 1 (ml b8 b17))), (9, (.sl .own 1 (ml b8 x18))), (10, (.int .i64 i19))] H := by
  refine AX.go (m := m_law16_ReplyBad_p3) rfl (by decide) fun K' hK => ?_
  have hle := hfr.le
  rw [law16_ReplyBad_p3.eq_1] at h
  obtain ⟨x20, hy19, h⟩ := bnd' h
  simp (disch := first | assumption | omega | (simp only [h_sl, h_al] <;> omega) | fail) only [WW, WH, ↓reduceIte, Nat.reduceEqDiff, Nat.reduceLT, Nat.reduceLeDiff, Nat.reduceAdd, Nat.reduceSub, Nat.reduceMul, Nat.reduceBEq, reduceCtorEq, if_false, if_true, L_law16_ReplyBad, m_law16_ReplyBad_p3, c_law16_ReplyBad_p3, hy19, encReplyV]
  rcases ifb h with ⟨hy20, h⟩ | ⟨hy20, h⟩
  · refine UG_go hy20 ?_
    simp (disch := first | assumption | omega | (simp only [h_sl, h_al] <;> omega) | fail) only [WW, WH, ↓reduceIte, Nat.reduceEqDiff, Nat.reduceLT, Nat.reduceLeDiff, Nat.reduceAdd, Nat.reduceSub, Nat.reduceMul, Nat.reduceBEq, reduceCtorEq, if_false, if_true, L_law16_ReplyBad, hy20, hy19, encReplyV]
    have hq := Option.some.inj h; subst hq
    refine hK _ _ _ _ _ ?_ (WxH.refl _) (kn _ hfr)
    exact WE.cons (Wx.nn) (WE.cons (Wx.nn) (WE.cons (Wx.nn) (WE.cons (Wx.oo) (WE.cons (Wx.oo) (WE.cons (Wx.int) (WE.cons (Wx.bool) (WE.nil)))))))
  · refine UG_nt hy20 ?_
    simp (disch := first | assumption | omega | (simp only [h_sl, h_al] <;> omega) | fail) only [WW, WH, ↓reduceIte, Nat.reduceEqDiff, Nat.reduceLT, Nat.reduceLeDiff, Nat.reduceAdd, Nat.reduceSub, Nat.reduceMul, Nat.reduceBEq, reduceCtorEq, if_false, if_true, L_law16_ReplyBad, hy20, encReplyV]
    have hq := Option.some.inj h; subst hq
    refine hK _ _ _ _ _ ?_ (WxH.refl _) (kn _ hfr)
    exact WE.cons (Wx.nn) (WE.cons (Wx.nn) (WE.cons (Wx.nn) (WE.cons (Wx.oo) (WE.cons (Wx.oo) (WE.cons (Wx.int) (WE.cons (Wx.bool) (WE.nil)))))))
set_option maxHeartbeats 2000000 in
theorem law16_ReplyBad_l2_ok {F : Nat} {i19 : Int} {bad2 : List UInt8} {x18 : List UInt8} {l1 : List ReplyV} {more3 : List UInt8} {b17 : List UInt8} {H0 H : AH} (hfr : Fr H0 H0.length [] H) {K : Exit → Env → AH → Prop} {o : (Bool) ⊕ ((List UInt8))}
    (h : iter (law16_ReplyBad_l2 bad2) F (x18, i19) = some o)
    (kb2 : ∀ o' : (List UInt8), o = .inr o' → ∀ H' : AH, Fr H0 H0.length [] H' → K (.exit 2) [(0, (.sl .n 2 (ml encReplyV l1))), (2, (.sl .n 1 (ml b8 more3))), (7, (.sl .own 1 (ml b8 b17))), (9, (.sl .own 1 (ml b8 o')))] H') :
    AX Tryd.prog L_law16_ReplyBad 153 H0.length c_law16_ReplyBad_l2 K [(0, (.sl .n 2 (ml encReplyV l1))), (1, (.sl .n 1 (ml b8 bad2))), (2, (.sl .n 1 (ml b8 more3))), (7, (.sl .own 1 (ml b8 b17))), (9, (.sl .own 1 (ml b8 x18))), (10, (.int .i64 i19))] H := by
  refine AX.iter (m := m_law16_ReplyBad_l2b) rfl (by decide) (fun s e H1 => match s with | (x18, i19) => e = [(0, (.sl .n 2 (ml encReplyV l1))), (1, (.sl .n 1 (ml b8 bad2))), (2, (.sl .n 1 (ml b8 more3))), (7, (.sl .own 1 (ml b8 b17))), (9, (.sl .own 1 (ml b8 x18))), (10, (.int .i64 i19))] ∧ Fr H0 H0.length [] H1) h ⟨rfl, hfr⟩ ?_
  skip
  rintro K' ⟨x18, i19⟩ st e H ⟨rfl, hfr⟩ h hN hB hR hX
  have hle := hfr.le
  rw [law16_ReplyBad_l2.eq_1] at h
  simp (disch := first | assumption | omega | (simp only [h_sl, h_al] <;> omega) | fail) only [WW, WH, ↓reduceIte, Nat.reduceEqDiff, Nat.reduceLT, Nat.reduceLeDiff, Nat.reduceAdd, Nat.reduceSub, Nat.reduceMul, Nat.reduceBEq, reduceCtorEq, if_false, if_true, L_law16_ReplyBad, m_law16_ReplyBad_l2b, encReplyV]
  rcases ifb h with ⟨hy18, h⟩ | ⟨hy18, h⟩
  · refine UC_t hy18 ?_
    simp (disch := first | assumption | omega | (simp only [h_sl, h_al] <;> omega) | fail) only [WW, WH, ↓reduceIte, Nat.reduceEqDiff, Nat.reduceLT, Nat.reduceLeDiff, Nat.reduceAdd, Nat.reduceSub, Nat.reduceMul, Nat.reduceBEq, reduceCtorEq, if_false, if_true, L_law16_ReplyBad, encReplyV]
    obtain ⟨t22, hy21, h⟩ := bnd' h
    refine UX_of (AX.weak ?_ (WxH.refl _) (law16_ReplyBad_p3_ok  (bad2 := bad2) (i19 := i19) (l1 := l1) (more3 := more3) (b17 := b17) (x18 := x18) (t21 := t22)  (hfr) hy21 ?_))
    · exact WE.cons (Wx.nn) (WE.cons (Wx.nn) (WE.cons (Wx.nn) (WE.cons (Wx.oo) (WE.cons (Wx.oo) (WE.cons (Wx.int) (WE.nil))))))
    intro H hfr
    have hle := hfr.le
    simp (disch := first | assumption | omega | (simp only [h_sl, h_al] <;> omega) | fail) only [WW, WH, ↓reduceIte, Nat.reduceEqDiff, Nat.reduceLT, Nat.reduceLeDiff, Nat.reduceAdd, Nat.reduceSub, Nat.reduceMul, Nat.reduceBEq, reduceCtorEq, if_false, if_true, L_law16_ReplyBad, encReplyV]
    rcases ifb h with ⟨hy22, h⟩ | ⟨hy22, h⟩
    · refine UC_t hy22 ?_
      obtain ⟨x23, hy23, h⟩ := bnd' h
      obtain ⟨x24, hy24, h⟩ := bnd' h
      have hy25 : capp 1 (ml b8 x18) [(b8 x23)] = some (ml b8 x24) := capp_m (f := b8) hy24
      simp (disch := first | assumption | omega | (simp only [h_sl, h_al] <;> omega) | fail) only [WW, WH, ↓reduceIte, Nat.reduceEqDiff, Nat.reduceLT, Nat.reduceLeDiff, Nat.reduceAdd, Nat.reduceSub, Nat.reduceMul, Nat.reduceBEq, reduceCtorEq, if_false, if_true, L_law16_ReplyBad, hy23, hy25, encReplyV]
      have hq := Option.some.inj h; subst hq
      refine hN _ rfl _ _ _ _ ?_ (WxH.refl _) ⟨rfl, hfr⟩
      exact WE.cons (Wx.nn) (WE.cons (Wx.nn) (WE.cons (Wx.nn) (WE.cons (Wx.oo) (WE.cons (Wx.oo) (WE.cons (Wx.int) (WE.nil))))))
    · refine UC_f hy22 ?_
      simp (disch := first | assumption | omega | (simp only [h_sl, h_al] <;> omega) | fail) only [WW, WH, ↓reduceIte, Nat.reduceEqDiff, Nat.reduceLT, Nat.reduceLeDiff, Nat.reduceAdd, Nat.reduceSub, Nat.reduceMul, Nat.reduceBEq, reduceCtorEq, if_false, if_true, L_law16_ReplyBad, encReplyV]
      have hq := Option.some.inj h; subst hq
      refine hN _ rfl _ _ _ _ ?_ (WxH.refl _) ⟨rfl, hfr⟩
      exact WE.cons (Wx.nn) (WE.cons (Wx.nn) (WE.cons (Wx.nn) (WE.cons (Wx.oo) (WE.cons (Wx.oo) (WE.cons (Wx.int) (WE.nil))))))
  · refine UC_f hy18 ?_
    simp (disch := first | assumption | omega | (simp only [h_sl, h_al] <;> omega) | fail) only [WW, WH, ↓reduceIte, Nat.reduceEqDiff, Nat.reduceLT, Nat.reduceLeDiff, Nat.reduceAdd, Nat.reduceSub, Nat.reduceMul, Nat.reduceBEq, reduceCtorEq, if_false, if_true, L_law16_ReplyBad, encReplyV]
    have hq := Option.some.inj h; subst hq
    refine hX _ _ _ _ _ (by simp) ?_ (WxH.refl _) (kb2 _ (hB _ rfl) _ hfr)
    exact WE.cons (Wx.nn) (WE.cons (Wx.nn) (WE.cons (Wx.oo) (WE.cons (Wx.oo) (WE.nil))))
set_option maxHeartbeats 2000000 in
theorem law16_ReplyBad_p4_ok {l1 : List ReplyV} {r33 : List ReplyV} {r34 : Int} {r36 : List ReplyV} {r37 : Int} {r39 : List ReplyV} {r40 : Int} {H0 H : AH} (hfr : Fr H0 H0.length [] H) {K : Exit → Env → AH → Prop}
    (kn : ∀ H' : AH, Fr H0 H0.length [] H' → K .normal [(0, (.sl .n 2 (ml encReplyV l1))), (12, (.sl .n 2 (ml encReplyV r33))), (136, (.bool (((((!decide ((r33.length : Int) = (l1.length : Int))) || (!decide (r34 = 3))) || (!decide (r37 = 3))) || (!decide (r40 = 3))) || (!decide ((IntKind.wrap .i64 ((r36.length : Int) + (r39.length : Int))) = 0)))))] H') :
    AX Tryd.prog L_law16_ReplyBad 153 H0.length c_law16_ReplyBad_p4 K [(0, (.sl .n 2 (ml encReplyV l1))), (12, (.sl .n 2 (ml encReplyV r33))), (13, (.int .i64 r34)), (14, (.sl .n 2 (ml encReplyV r36))), (15, (.int .i64 r37)), (16, (.sl .n 2 (ml encReplyV r39))), (17, (.int .i64 r40))] H := by
  refine AX.go (m := m_law16_ReplyBad_p4) rfl (by decide) fun K' hK => ?_
  have hle := hfr.le
  simp (disch := first | assumption | omega | (simp only [h_sl, h_al] <;> omega) | fail) only [WW, WH, ↓reduceIte, Nat.reduceEqDiff, Nat.reduceLT, Nat.reduceLeDiff, Nat.reduceAdd, Nat.reduceSub, Nat.reduceMul, Nat.reduceBEq, reduceCtorEq, if_false, if_true, L_law16_ReplyBad, m_law16_ReplyBad_p4, c_law16_ReplyBad_p4, encReplyV]
  rcases bcases ((!decide ((r33.length : Int) = (l1.length : Int)))) with hy35 | hy35
  · refine UG_nf hy35 ?_
    simp (disch := first | assumption | omega | (simp only [h_sl, h_al] <;> omega) | fail) only [WW, WH, ↓reduceIte, Nat.reduceEqDiff, Nat.reduceLT, Nat.reduceLeDiff, Nat.reduceAdd, Nat.reduceSub, Nat.reduceMul, Nat.reduceBEq, reduceCtorEq, if_false, if_true, L_law16_ReplyBad, hy35, encReplyV]
    refine hK _ _ _ _ _ ?_ (WxH.refl _) (kn _ hfr)
    exact WE.cons (Wx.nn) (WE.cons (Wx.nn) (WE.cons (Wx.boolE (by simp only [hy35, WB])) (WE.nil)))
  · refine UG_go hy35 ?_
    simp (disch := first | assumption | omega | (simp only [h_sl, h_al] <;> omega) | fail) only [WW, WH, ↓reduceIte, Nat.reduceEqDiff, Nat.reduceLT, Nat.reduceLeDiff, Nat.reduceAdd, Nat.reduceSub, Nat.reduceMul, Nat.reduceBEq, reduceCtorEq, if_false, if_true, L_law16_ReplyBad, hy35, encReplyV]
    rcases bcases ((!decide (r34 = 3))) with hy36 | hy36
    · refine UG_nf hy36 ?_
      simp (disch := first | assumption | omega | (simp only [h_sl, h_al] <;> omega) | fail) only [WW, WH, ↓reduceIte, Nat.reduceEqDiff, Nat.reduceLT, Nat.reduceLeDiff, Nat.reduceAdd, Nat.reduceSub, Nat.reduceMul, Nat.reduceBEq, reduceCtorEq, if_false, if_true, L_law16_ReplyBad, hy36, encReplyV]
      refine hK _ _ _ _ _ ?_ (WxH.refl _) (kn _ hfr)
      exact WE.cons (Wx.nn) (WE.cons (Wx.nn) (WE.cons (Wx.boolE (by first | (simp only [hy35, hy36, WB]; done) | (try rw [hy35]; try rw [hy36]; try simp only [WB]))) (WE.nil)))
    · refine UG_go hy36 ?_
      simp (disch := first | assumption | omega | (simp only [h_sl, h_al] <;> omega) | fail) only [WW, WH, ↓reduceIte, Nat.reduceEqDiff, Nat.reduceLT, Nat.reduceLeDiff, Nat.reduceAdd, Nat.reduceSub, Nat.reduceMul, Nat.reduceBEq, reduceCtorEq, if_false, if_true, L_law16_ReplyBad, hy36, encReplyV]
      rcases bcases ((!decide (r37 = 3))) with hy37 | hy37
      · refine UG_nf hy37 ?_
        simp (disch := first | assumption | omega | (simp only [h_sl, h_al] <;> omega) | fail) only [WW, WH, ↓reduceIte, Nat.reduceEqDiff, Nat.reduceLT, Nat.reduceLeDiff, Nat.reduceAdd, Nat.reduceSub, Nat.reduceMul, Nat.reduceBEq, reduceCtorEq, if_false, if_true, L_law16_ReplyBad, hy37, encReplyV]
        refine hK _ _ _ _ _ ?_ (WxH.refl _) (kn _ hfr)
        exact WE.cons (Wx.nn) (WE.cons (Wx.nn) (WE.cons (Wx.boolE (by first | (simp only [hy35, hy36, hy37, WB]; done) | (try rw [hy35]; try rw [hy36]; try rw [hy37]; try simp only [WB]))) (WE.nil)))
      · refine UG_go hy37 ?_
        simp (disch := first | assumption | omega | (simp only [h_sl, h_al] <;> omega) | fail) only [WW, WH, ↓reduceIte, Nat.reduceEqDiff, Nat.reduceLT, Nat.reduceLeDiff, Nat.reduceAdd, Nat.reduceSub, Nat.reduceMul, Nat.reduceBEq, reduceCtorEq, if_false, if_true, L_law16_ReplyBad, hy37, encReplyV]
        rcases bcases ((!decide (r40 = 3))) with hy38 | hy38
        · refine UG_nf hy38 ?_
          simp (disch := first | assumption | omega | (simp only [h_sl, h_al] <;> omega) | fail) only [WW, WH, ↓reduceIte, Nat.reduceEqDiff, Nat.reduceLT, Nat.reduceLeDiff, Nat.reduceAdd, Nat.reduceSub, Nat.reduceMul, Nat.reduceBEq, reduceCtorEq, if_false, if_true, L_law16_ReplyBad, hy38, encReplyV]
          refine hK _ _ _ _ _ ?_ (WxH.refl _) (kn _ hfr)
          exact WE.cons (Wx.nn) (WE.cons (Wx.nn) (WE.cons (Wx.boolE (by first | (simp only [hy35, hy36, hy37, hy38, WB]; done) | (try rw [hy35]; try rw [hy36]; try rw [hy37]; try rw [hy38]; try simp only [WB]))) (WE.nil)))
        · refine UG_go hy38 ?_
          simp (disch := first | assumption | omega | (simp only [h_sl, h_al] <;> omega) | fail) only [WW, WH, ↓reduceIte, Nat.reduceEqDiff, Nat.reduceLT, Nat.reduceLeDiff, Nat.reduceAdd, Nat.reduceSub, Nat.reduceMul, Nat.reduceBEq, reduceCtorEq, if_false, if_true, L_law16_ReplyBad, hy38, encReplyV]
          refine hK _ _ _ _ _ ?_ (WxH.refl _) (kn _ hfr)
          exact WE.cons (Wx.nn) (WE.cons (Wx.nn) (WE.cons (Wx.boolE (by first | (simp only [hy35, hy36, hy37, hy38, WB]; done) | (try rw [hy35]; try rw [hy36]; try rw [hy37]; try rw [hy38]; try simp only [WB]))) (WE.nil)))
set_option maxHeartbeats 2000000 in
theorem law16_ReplyBad_l3_ok {F : Nat} {i42 : Int} {l1 : List ReplyV} {r33 : List ReplyV} {H0 H : AH} (hfr : Fr H0 H0.length [] H) {K : Exit → Env → AH → Prop} {o : (Bool) ⊕ (Unit)}
    (h : iter (law16_ReplyBad_l3 F l1 r33) F i42 = some o)
    (kb4 : ∀ o' : Unit, o = .inr o' → ∀ H' : AH, Fr H0 H0.length [] H' → K (.exit 4) [] H')
    (kr : ∀ o' : Bool, o = .inl o' → ∀ H' : AH, Fr H0 H0.length [] H' → K .ret [(6, (.bool o'))] H') :
    AX Tryd.prog L_law16_ReplyBad 153 H0.length c_law16_ReplyBad_l3 K [(0, (.sl .n 2 (ml encReplyV l1))), (12, (.sl .n 2 (ml encReplyV r33))), (18, (.int .i64 i42))] H := by
  refine AX.iter (m := m_law16_ReplyBad_l3b) rfl (by decide) (fun s e H1 => match s with | i42 => e = [(0, (.sl .n 2 (ml encReplyV l1))), (12, (.sl .n 2 (ml encReplyV r33))), (18, (.int .i64 i42))] ∧ Fr H0 H0.length [] H1) h ⟨rfl, hfr⟩ ?_
  skip
  rintro K' i42 st e H ⟨rfl, hfr⟩ h hN hB hR hX
  have hle := hfr.le
  rw [law16_ReplyBad_l3.eq_1] at h
  simp (disch := first | assumption | omega | (simp only [h_sl, h_al] <;> omega) | fail) only [WW, WH, ↓reduceIte, Nat.reduceEqDiff, Nat.reduceLT, Nat.reduceLeDiff, Nat.reduceAdd, Nat.reduceSub, Nat.reduceMul, Nat.reduceBEq, reduceCtorEq, if_false, if_true, L_law16_ReplyBad, m_law16_ReplyBad_l3b, c_law16_ReplyBad_l3b, encReplyV]
  rcases ifb h with ⟨hy40, h⟩ | ⟨hy40, h⟩
  · refine UC_t hy40 ?_
    obtain ⟨x43, hy41, h⟩ := bnd' h
    obtain ⟨x44, hy42, h⟩ := bnd' h
    simp (disch := first | assumption | omega | (simp only [h_sl, h_al] <;> omega) | fail) only [WW, WH, ↓reduceIte, Nat.reduceEqDiff, Nat.reduceLT, Nat.reduceLeDiff, Nat.reduceAdd, Nat.reduceSub, Nat.reduceMul, Nat.reduceBEq, reduceCtorEq, if_false, if_true, L_law16_ReplyBad, hy41, hy42, encReplyV]
    obtain ⟨r45, hy43, h⟩ := bnd' h
    refine UK_e (as' := [(.agg [(.int .i64 x43.code), (.sl .n 1 (ml AV.str x43.lines))]), (.agg [(.int .i64 x44.code), (.sl .n 1 (ml AV.str x44.lines))])]) (h := reply_Same_ok (a1 := x43) (b2 := x44) (F := F)  hy43) (hw := WL.cons (Wx.agg (W1L.same (W1L.same (W1L.nil)))) (WL.cons (Wx.agg (W1L.same (W1L.same (W1L.nil)))) (WL.nil))) (hh := WxH.refl _) ?_
    simp (disch := first | assumption | omega | (simp only [h_sl, h_al] <;> omega) | fail) only [WW, WH, ↓reduceIte, Nat.reduceEqDiff, Nat.reduceLT, Nat.reduceLeDiff, Nat.reduceAdd, Nat.reduceSub, Nat.reduceMul, Nat.reduceBEq, reduceCtorEq, if_false, if_true, L_law16_ReplyBad, encReplyV]
    rcases ifb h with ⟨hy44, h⟩ | ⟨hy44, h⟩
    · refine UC_t hy44 ?_
      simp (disch := first | assumption | omega | (simp only [h_sl, h_al] <;> omega) | fail) only [WW, WH, ↓reduceIte, Nat.reduceEqDiff, Nat.reduceLT, Nat.reduceLeDiff, Nat.reduceAdd, Nat.reduceSub, Nat.reduceMul, Nat.reduceBEq, reduceCtorEq, if_false, if_true, L_law16_ReplyBad, encReplyV]
      have hq := Option.some.inj h; subst hq
      refine hX _ _ _ _ _ (by simp) ?_ (WxH.refl _) (kr _ (hR _ rfl) _ hfr)
      exact WE.cons (Wx.bool) (WE.nil)
    · refine UC_f hy44 ?_
      simp (disch := first | assumption | omega | (simp only [h_sl, h_al] <;> omega) | fail) only [WW, WH, ↓reduceIte, Nat.reduceEqDiff, Nat.reduceLT, Nat.reduceLeDiff, Nat.reduceAdd, Nat.reduceSub, Nat.reduceMul, Nat.reduceBEq, reduceCtorEq, if_false, if_true, L_law16_ReplyBad, encReplyV]
      have hq := Option.some.inj h; subst hq
      refine hN _ rfl _ _ _ _ ?_ (WxH.refl _) ⟨rfl, hfr⟩
      exact WE.cons (Wx.nn) (WE.cons (Wx.nn) (WE.cons (Wx.int) (WE.nil)))
  · refine UC_f hy40 ?_
    simp (disch := first | assumption | omega | (simp only [h_sl, h_al] <;> omega) | fail) only [WW, WH, ↓reduceIte, Nat.reduceEqDiff, Nat.reduceLT, Nat.reduceLeDiff, Nat.reduceAdd, Nat.reduceSub, Nat.reduceMul, Nat.reduceBEq, reduceCtorEq, if_false, if_true, L_law16_ReplyBad, encReplyV]
    have hq := Option.some.inj h; subst hq
    refine hX _ _ _ _ _ (by simp) ?_ (WxH.refl _) (kb4 _ (hB _ rfl) _ hfr)
    exact WE.nil
set_option maxHeartbeats 2000000 in
theorem law16_ReplyBad_ok {F : Nat} {l1 : List ReplyV} {bad2 : List UInt8} {more3 : List UInt8}  {H0 : AH}  {rz0 : Bool} (h : law16_ReplyBad F l1 bad2 more3 = some rz0) :
    ACalls Tryd.prog 6 [(.sl .n 2 (ml encReplyV l1)), (.sl .n 1 (ml b8 bad2)), (.sl .n 1 (ml b8 more3))] H0 fun v H' => v = (.bool rz0) ∧ H' = H0 := by
  refine ACalls.goX k_law16_ReplyBad (m := m_law16_ReplyBad) rfl L_law16_ReplyBad (by decide) (by simp) fun hcl K0 hK0 => ?_
  refine AX.of_U (m := m_law16_ReplyBad) rfl (by decide) ?_
  have hfr := Fr.refl H0 []
  have hle := hfr.le
  rw [law16_ReplyBad.eq_1] at h
  obtain ⟨H, hHH⟩ : ∃ H, H = H0 := ⟨_, rfl⟩
  have hfr : Fr H0 H0.length [] H := hHH ▸ hfr
  have hle := hfr.le
  suffices hU : U Tryd.prog L_law16_ReplyBad 153 H0.length [.code m_law16_ReplyBad] K0 .normal (argE 0 [(.sl .n 2 (ml encReplyV l1)), (.sl .n 1 (ml b8 bad2)), (.sl .n 1 (ml b8 more3))]) H by rwa [hHH] at hU
  simp (disch := first | assumption | omega | (simp only [h_sl, h_al] <;> omega) | fail) only [WW, WH, ↓reduceIte, Nat.reduceEqDiff, Nat.reduceLT, Nat.reduceLeDiff, Nat.reduceAdd, Nat.reduceSub, Nat.reduceMul, Nat.reduceBEq, reduceCtorEq, if_false, if_true, L_law16_ReplyBad, m_law16_ReplyBad, encReplyV]
  obtain ⟨r4, hy1, h⟩ := bnd' h
  refine UK_e (as' := []) (h := law16_known_ok  (F := F)  hy1) (hw := WL.nil) (hh := WxH.refl _) ?_
  simp (disch := first | assumption | omega | (simp only [h_sl, h_al] <;> omega) | fail) only [WW, WH, ↓reduceIte, Nat.reduceEqDiff, Nat.reduceLT, Nat.reduceLeDiff, Nat.reduceAdd, Nat.reduceSub, Nat.reduceMul, Nat.reduceBEq, reduceCtorEq, if_false, if_true, L_law16_ReplyBad, encReplyV]
  rcases ifb h with ⟨hy2, h⟩ | ⟨hy2, h⟩
  · refine UC_t hy2 ?_
    simp (disch := first | assumption | omega | (simp only [h_sl, h_al] <;> omega) | fail) only [WW, WH, ↓reduceIte, Nat.reduceEqDiff, Nat.reduceLT, Nat.reduceLeDiff, Nat.reduceAdd, Nat.reduceSub, Nat.reduceMul, Nat.reduceBEq, reduceCtorEq, if_false, if_true, L_law16_ReplyBad, encReplyV]
    have hq := Option.some.inj h; subst hq
    refine hK0 _ _ _ (.inr rfl) ?_
    exact fn_end0 (by exact hfr) hcl (resv_tmp (a := (.bool false)) rfl rfl resv_nil) (by simp [fin, AV.df, AV.sh, AV.sh1, b_df, b_sh, b_sh1, b_Cl]) (Wx.bool) (r' := (.bool false)) ⟨rfl, rfl⟩
  · refine UC_f hy2 ?_
    simp (disch := first | assumption | omega | (simp only [h_sl, h_al] <;> omega) | fail) only [WW, WH, ↓reduceIte, Nat.reduceEqDiff, Nat.reduceLT, Nat.reduceLeDiff, Nat.reduceAdd, Nat.reduceSub, Nat.reduceMul, Nat.reduceBEq, reduceCtorEq, if_false, if_true, L_law16_ReplyBad, encReplyV]
    refine UX_of (AX.weak ?_ (WxH.refl _) (law16_ReplyBad_p1_ok (l1 := l1) (bad2 := bad2) (more3 := more3) (hfr) ?_))
    · exact WE.cons (Wx.nn) (WE.cons (Wx.nn) (WE.cons (Wx.nn) (WE.nil)))
    intro H hfr 
    have hle := hfr.le
    simp (disch := first | assumption | omega | (simp only [h_sl, h_al] <;> omega) | fail) only [WW, WH, ↓reduceIte, Nat.reduceEqDiff, Nat.reduceLT, Nat.reduceLeDiff, Nat.reduceAdd, Nat.reduceSub, Nat.reduceMul, Nat.reduceBEq, reduceCtorEq, if_false, if_true, L_law16_ReplyBad, encReplyV]
    rcases ifb h with ⟨hy5, h⟩ | ⟨hy5, h⟩
    · refine UC_t hy5 ?_
      simp (disch := first | assumption | omega | (simp only [h_sl, h_al] <;> omega) | fail) only [WW, WH, ↓reduceIte, Nat.reduceEqDiff, Nat.reduceLT, Nat.reduceLeDiff, Nat.reduceAdd, Nat.reduceSub, Nat.reduceMul, Nat.reduceBEq, reduceCtorEq, if_false, if_true, L_law16_ReplyBad, encReplyV]
      have hq := Option.some.inj h; subst hq
      refine hK0 _ _ _ (.inr rfl) ?_
      exact fn_end0 (by exact hfr) hcl (resv_tmp (a := (.bool true)) rfl rfl resv_nil) (by simp [fin, AV.df, AV.sh, AV.sh1, b_df, b_sh, b_sh1, b_Cl]) (Wx.bool) (r' := (.bool true)) ⟨rfl, rfl⟩
    · refine UC_f hy5 ?_
      simp (disch := first | assumption | omega | (simp only [h_sl, h_al] <;> omega) | fail) only [WW, WH, ↓reduceIte, Nat.reduceEqDiff, Nat.reduceLT, Nat.reduceLeDiff, Nat.reduceAdd, Nat.reduceSub, Nat.reduceMul, Nat.reduceBEq, reduceCtorEq, if_false, if_true, L_law16_ReplyBad, encReplyV]
      obtain ⟨o51, hy17, h⟩ := bnd' h
      refine UX_of (AX.weak ?_ (WxH.refl _) (law16_ReplyBad_l1_ok  (l1 := l1) (bad2 := bad2) (more3 := more3) (b5 := ([] : List UInt8)) (i6 := 0)  (hfr) (o := o51) hy17 ?_ ?_))
      · exact WE.cons (Wx.nn) (WE.cons (Wx.nn) (WE.cons (Wx.nn) (WE.cons (Wx.own ..) (WE.cons (Wx.int) (WE.nil)))))
      · rintro b17 rfl H hfr
        try dsimp only at h 
        have hle := hfr.le
        simp (disch := first | assumption | omega | (simp only [h_sl, h_al] <;> omega) | fail) only [WW, WH, ↓reduceIte, Nat.reduceEqDiff, Nat.reduceLT, Nat.reduceLeDiff, Nat.reduceAdd, Nat.reduceSub, Nat.reduceMul, Nat.reduceBEq, reduceCtorEq, if_false, if_true, L_law16_ReplyBad, encReplyV]
        obtain ⟨o49, hy26, h⟩ := bnd' h
        refine UX_of (AX.weak ?_ (WxH.refl _) (law16_ReplyBad_l2_ok  (bad2 := bad2) (l1 := l1) (more3 := more3) (b17 := b17) (x18 := ([120] : List UInt8)) (i19 := 0)  (hfr) (o := o49) hy26 ?_))
        · exact WE.cons (Wx.nn) (WE.cons (Wx.nn) (WE.cons (Wx.nn) (WE.cons (Wx.oo) (WE.cons (Wx.own ..) (WE.cons (Wx.int) (WE.nil))))))
        · rintro x26 rfl H hfr
          try dsimp only at h 
          have hle := hfr.le
          simp (disch := first | assumption | omega | (simp only [h_sl, h_al] <;> omega) | fail) only [WW, WH, ↓reduceIte, Nat.reduceEqDiff, Nat.reduceLT, Nat.reduceLeDiff, Nat.reduceAdd, Nat.reduceSub, Nat.reduceMul, Nat.reduceBEq, reduceCtorEq, if_false, if_true, L_law16_ReplyBad, encReplyV]
          obtain ⟨r27, hy27, h⟩ := bnd' h
          rcases r27 with _ | t28
          · try dsimp only at h
            refine UK_x (as' := []) (h := reply_New_ok   hy27) (hw := WL.nil) (hh := WxH.refl _) ?_
            rintro _ H ⟨rfl, hfrn⟩
            have hfr := Fr.trans hfr hfrn (by simp)
            have hle := hfr.le
            simp (disch := first | assumption | omega | (simp only [h_sl, h_al] <;> omega) | fail) only [WW, WH, ↓reduceIte, Nat.reduceEqDiff, Nat.reduceLT, Nat.reduceLeDiff, Nat.reduceAdd, Nat.reduceSub, Nat.reduceMul, Nat.reduceBEq, reduceCtorEq, if_false, if_true, L_law16_ReplyBad, encReplyV]
            have hq := Option.some.inj h; subst hq
            refine hK0 _ _ _ (.inr rfl) ?_
            exact fn_end0 (by exact hfr) hcl (resv_tmp (a := (.bool false)) rfl rfl resv_nil) (by simp [fin, AV.df, AV.sh, AV.sh1, b_df, b_sh, b_sh1, b_Cl]) (Wx.bool) (r' := (.bool false)) ⟨rfl, rfl⟩
          · try dsimp only at h
            refine UK_x (as' := []) (h := reply_New_ok   hy27) (hw := WL.nil) (hh := WxH.refl _) ?_
            rintro _ H ⟨q29, q30, rfl, hgn0, hgn1, hnn1_0, hfrn, hs_o1, hs_o2⟩
            try simp only [h_sl, h_al] at hgn0 hgn1
            have hfr := Fr.trans hfr hfrn (by simp)
            have hle := hfr.le
            have hl_o1 := h_lt hs_o1
            have hl_o2 := h_lt hs_o2
            obtain ⟨x31, hy28, h⟩ := bnd' h
            have hy29 : capp 1 (ml b8 b17) (ml b8 x26) = some (ml b8 x31) := capp_m (f := b8) hy28
            obtain ⟨x32, hy30, h⟩ := bnd' h
            have hy31 : capp 1 (ml b8 x31) (ml b8 ([13, 10, 50, 50, 48, 32, 108, 97, 116, 101, 13, 10] : List UInt8)) = some (ml b8 x32) := capp_m (f := b8) hy30
            simp (disch := first | assumption | omega | (simp only [h_sl, h_al] <;> omega) | fail) only [WW, WH, ↓reduceIte, Nat.reduceEqDiff, Nat.reduceLT, Nat.reduceLeDiff, Nat.reduceAdd, Nat.reduceSub, Nat.reduceMul, Nat.reduceBEq, reduceCtorEq, if_false, if_true, L_law16_ReplyBad, hy29, hy31, hs_o1, hs_o2, encReplyV]
            obtain ⟨⟨r33, r34, r35⟩, hy32, h⟩ := bnd' h
            dsimp only at h
            refine UK_e (as' := [(.ptr q29 0), (.sl .n 1 (ml b8 x32))]) (h := reply_Reader_Feed_ok (r2 := t28) (b4 := x32) (q1 := q29) (q3 := q30) (F := F) (by exact ((hs_o1).trans rfl)) (by exact ((hs_o2).trans rfl)) (by first | assumption | omega | (simp only [h_sl, h_al] <;> omega) | fail) hy32) (hw := WL.cons (Wx.ptr) (WL.cons (Wx.nn) (WL.nil))) (hh := WxH.refl _) ?_
            simp (disch := first | assumption | omega | (simp only [h_sl, h_al] <;> omega) | fail) only [WW, WH, ↓reduceIte, Nat.reduceEqDiff, Nat.reduceLT, Nat.reduceLeDiff, Nat.reduceAdd, Nat.reduceSub, Nat.reduceMul, Nat.reduceBEq, reduceCtorEq, if_false, if_true, L_law16_ReplyBad, hs_o1, hs_o2, encReplyV]
            obtain ⟨⟨r36, r37, r38⟩, hy33, h⟩ := bnd' h
            dsimp only at h
            refine UK_e (as' := [(.ptr q29 0), (.sl .n 1 (ml b8 more3))]) (h := reply_Reader_Feed_ok (r2 := r35) (b4 := more3) (q1 := q29) (q3 := q30) (F := F) (by exact (((h_ne (by first | assumption | omega | (simp only [h_sl, h_al] <;> omega) | fail)).trans (h_eq (by first | assumption | omega | (simp only [h_sl, h_al] <;> omega) | fail))).trans rfl)) (by exact ((h_eq (by first | assumption | omega | (simp only [h_sl, h_al] <;> omega) | fail)).trans rfl)) (by first | assumption | omega | (simp only [h_sl, h_al] <;> omega) | fail) hy33) (hw := WL.cons (Wx.ptr) (WL.cons (Wx.nn) (WL.nil))) (hh := WxH.refl _) ?_
            simp (disch := first | assumption | omega | (simp only [h_sl, h_al] <;> omega) | fail) only [WW, WH, ↓reduceIte, Nat.reduceEqDiff, Nat.reduceLT, Nat.reduceLeDiff, Nat.reduceAdd, Nat.reduceSub, Nat.reduceMul, Nat.reduceBEq, reduceCtorEq, if_false, if_true, L_law16_ReplyBad, hs_o1, hs_o2, encReplyV]
            obtain ⟨⟨r39, r40, r41⟩, hy34, h⟩ := bnd' h
            dsimp only at h
            refine UK_e (as' := [(.ptr q29 0), (.sl .n 1 (ml b8 ([50, 50, 48, 32, 97, 13, 10] : List UInt8)))]) (h := reply_Reader_Feed_ok (r2 := r38) (b4 := ([50, 50, 48, 32, 97, 13, 10] : List UInt8)) (q1 := q29) (q3 := q30) (F := F) (by exact (((h_ne (by first | assumption | omega | (simp only [h_sl, h_al] <;> omega) | fail)).trans (h_eq (by first | assumption | omega | (simp only [h_sl, h_al] <;> omega) | fail))).trans rfl)) (by exact ((h_eq (by first | assumption | omega | (simp only [h_sl, h_al] <;> omega) | fail)).trans rfl)) (by first | assumption | omega | (simp only [h_sl, h_al] <;> omega) | fail) hy34) (hw := WL.cons (Wx.ptr) (WL.cons (Wx.n) (WL.nil))) (hh := WxH.refl _) ?_
            simp (disch := first | assumption | omega | (simp only [h_sl, h_al] <;> omega) | fail) only [WW, WH, ↓reduceIte, Nat.reduceEqDiff, Nat.reduceLT, Nat.reduceLeDiff, Nat.reduceAdd, Nat.reduceSub, Nat.reduceMul, Nat.reduceBEq, reduceCtorEq, if_false, if_true, L_law16_ReplyBad, hs_o1, hs_o2, encReplyV]
            refine UX_of (AX.weak ?_ (WxH.refl _) (law16_ReplyBad_p4_ok (l1 := l1) (r33 := r33) (r34 := r34) (r36 := r36) (r37 := r37) (r39 := r39) (r40 := r40) ((Fr.set (s := q30) (Fr.set (s := q29) (Fr.set (s := q30) (Fr.set (s := q29) (Fr.set (s := q30) (Fr.set (s := q29) hfr (.inr (by first | assumption | omega | (simp only [h_sl, h_al] <;> omega) | fail))) (.inr (by first | assumption | omega | (simp only [h_sl, h_al] <;> omega) | fail))) (.inr (by first | assumption | omega | (simp only [h_sl, h_al] <;> omega) | fail))) (.inr (by first | assumption | omega | (simp only [h_sl, h_al] <;> omega) | fail))) (.inr (by first | assumption | omega | (simp only [h_sl, h_al] <;> omega) | fail))) (.inr (by first | assumption | omega | (simp only [h_sl, h_al] <;> omega) | fail)))) ?_))
            · exact WE.cons (Wx.nn) (WE.cons (Wx.nn) (WE.cons (Wx.int) (WE.cons (Wx.nn) (WE.cons (Wx.int) (WE.cons (Wx.nn) (WE.cons (Wx.int) (WE.nil)))))))
            intro H hfr 
            have hle := hfr.le
            simp (disch := first | assumption | omega | (simp only [h_sl, h_al] <;> omega) | fail) only [WW, WH, ↓reduceIte, Nat.reduceEqDiff, Nat.reduceLT, Nat.reduceLeDiff, Nat.reduceAdd, Nat.reduceSub, Nat.reduceMul, Nat.reduceBEq, reduceCtorEq, if_false, if_true, L_law16_ReplyBad, encReplyV]
            rcases ifb h with ⟨hy39, h⟩ | ⟨hy39, h⟩
            · refine UC_t hy39 ?_
              simp (disch := first | assumption | omega | (simp only [h_sl, h_al] <;> omega) | fail) only [WW, WH, ↓reduceIte, Nat.reduceEqDiff, Nat.reduceLT, Nat.reduceLeDiff, Nat.reduceAdd, Nat.reduceSub, Nat.reduceMul, Nat.reduceBEq, reduceCtorEq, if_false, if_true, L_law16_ReplyBad, encReplyV]
              have hq := Option.some.inj h; subst hq
              refine hK0 _ _ _ (.inr rfl) ?_
              exact fn_end0 (by exact hfr) hcl (resv_tmp (a := (.bool false)) rfl rfl resv_nil) (by simp [fin, AV.df, AV.sh, AV.sh1, b_df, b_sh, b_sh1, b_Cl]) (Wx.bool) (r' := (.bool false)) ⟨rfl, rfl⟩
            · refine UC_f hy39 ?_
              simp (disch := first | assumption | omega | (simp only [h_sl, h_al] <;> omega) | fail) only [WW, WH, ↓reduceIte, Nat.reduceEqDiff, Nat.reduceLT, Nat.reduceLeDiff, Nat.reduceAdd, Nat.reduceSub, Nat.reduceMul, Nat.reduceBEq, reduceCtorEq, if_false, if_true, L_law16_ReplyBad, encReplyV]
              obtain ⟨o48, hy45, h⟩ := bnd' h
              refine UX_of (AX.weak ?_ (WxH.refl _) (law16_ReplyBad_l3_ok  (l1 := l1) (r33 := r33) (i42 := 0)  (hfr) (o := o48) hy45 ?_ ?_))
              · exact WE.cons (Wx.nn) (WE.cons (Wx.nn) (WE.cons (Wx.int) (WE.nil)))
              · rintro ⟨⟩ rfl H hfr
                try dsimp only at h 
                have hle := hfr.le
                simp (disch := first | assumption | omega | (simp only [h_sl, h_al] <;> omega) | fail) only [WW, WH, ↓reduceIte, Nat.reduceEqDiff, Nat.reduceLT, Nat.reduceLeDiff, Nat.reduceAdd, Nat.reduceSub, Nat.reduceMul, Nat.reduceBEq, reduceCtorEq, if_false, if_true, L_law16_ReplyBad, encReplyV]
                have hq := Option.some.inj h; subst hq
                refine hK0 _ _ _ (.inr rfl) ?_
                exact fn_end0 (by exact hfr) hcl (resv_tmp (a := (.bool true)) rfl rfl resv_nil) (by simp [fin, AV.df, AV.sh, AV.sh1, b_df, b_sh, b_sh1, b_Cl]) (Wx.bool) (r' := (.bool true)) ⟨rfl, rfl⟩
              · rintro r47 rfl H hfr
                try dsimp only at h 
                have hle := hfr.le
                simp (disch := first | assumption | omega | (simp only [h_sl, h_al] <;> omega) | fail) only [WW, WH, ↓reduceIte, Nat.reduceEqDiff, Nat.reduceLT, Nat.reduceLeDiff, Nat.reduceAdd, Nat.reduceSub, Nat.reduceMul, Nat.reduceBEq, reduceCtorEq, if_false, if_true, L_law16_ReplyBad, encReplyV]
                have hq := Option.some.inj h; subst hq
                refine hK0 _ _ _ (.inr rfl) ?_
                exact fn_end0 (by exact hfr) hcl (resv_tmp (a := (.bool r47)) rfl rfl resv_nil) (by simp [fin, AV.df, AV.sh, AV.sh1, b_df, b_sh, b_sh1, b_Cl]) (Wx.bool) (r' := (.bool r47)) ⟨rfl, rfl⟩
      · rintro r50 rfl H hfr
        try dsimp only at h 
        have hle := hfr.le
        simp (disch := first | assumption | omega | (simp only [h_sl, h_al] <;> omega) | fail) only [WW, WH, ↓reduceIte, Nat.reduceEqDiff, Nat.reduceLT, Nat.reduceLeDiff, Nat.reduceAdd, Nat.reduceSub, Nat.reduceMul, Nat.reduceBEq, reduceCtorEq, if_false, if_true, L_law16_ReplyBad, encReplyV]
        have hq := Option.some.inj h; subst hq
        refine hK0 _ _ _ (.inr rfl) ?_
        exact fn_end0 (by exact hfr) hcl (resv_tmp (a := (.bool r50)) rfl rfl resv_nil) (by simp [fin, AV.df, AV.sh, AV.sh1, b_df, b_sh, b_sh1, b_Cl]) (Wx.bool) (r' := (.bool r50)) ⟨rfl, rfl⟩

end Go.Proofs.ReplyS
