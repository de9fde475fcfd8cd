import Derived.Test.YtfnnmecilcnloaaDoorHS1
set_option linter.unusedSimpArgs false
set_option linter.unusedVariables false
set_option linter.unusedSectionVars false
set_option linter.defProp false
set_option maxRecDepth 100000
namespace Go.Proofs.HeadS
open Go Go.Am Go.Proofs
open Nat renaming reduceEqDiff → nA, reduceLT → nB, reduceLeDiff → nC, reduceAdd → nD, reduceSub → nE, reduceMul → nF, reduceBEq → nG
set_option maxHeartbeats 2000000

/-! ### mailbag/mailbaglaw18.upper -/
def c_law18_upper_p1 : ACode := (.rg [⟨(some 13), (.mv (.t 3)), none⟩, ⟨(some 14), (.mv (.t 4)), none⟩, ⟨(some 15), (.ixa 1 (.t 13) (.t 14)), none⟩, ⟨(some 16), (.ld (.t 15) none), none⟩, ⟨(some 17), (.bin .geq (.t 16) (.c (b8 97))), none⟩, ⟨(some 18), (.mv (.t 17)), none⟩, ⟨(some 19), (.mv (.t 3)), (some (18, true))⟩, ⟨(some 20), (.mv (.t 4)), (some (18, true))⟩, ⟨(some 21), (.ixa 1 (.t 19) (.t 20)), (some (18, true))⟩, ⟨(some 22), (.ld (.t 21) none), (some (18, true))⟩, ⟨(some 23), (.bin .leq (.t 22) (.c (b8 122))), (some (18, true))⟩, ⟨(some 24), (.pick (.t 18) (.t 23) (.c (.bool false))), none⟩])
abbrev m_law18_upper_p1 := c_law18_upper_p1
def c_law18_upper_l1b : ACode := (.seq (.seq (.rg [⟨(some 7), (.mv (.t 4)), none⟩, ⟨(some 8), (.mv (.t 3)), none⟩, ⟨(some 9), (.len (.t 8)), none⟩, ⟨(some 10), (.bin .lss (.t 7) (.t 9)), none⟩]) (.cond (.t 10) .skip (.exit 0))) (.seq (.blk 1 (.seq c_law18_upper_p1 (.cond (.t 24) (.rg [⟨(some 25), (.mv (.t 3)), none⟩, ⟨(some 26), (.mv (.t 4)), none⟩, ⟨(some 27), (.mv (.t 3)), none⟩, ⟨(some 28), (.mv (.t 4)), none⟩, ⟨(some 29), (.ixa 1 (.t 27) (.t 28)), none⟩, ⟨(some 30), (.ld (.t 29) none), none⟩, ⟨(some 31), (.bin .sub (.t 30) (.c (b8 32))), none⟩, ⟨(some 32), (.ixa 1 (.t 25) (.t 26)), none⟩, ⟨none, (.st (.t 32) (.t 31) 1), none⟩]) .skip))) (.rg [⟨(some 11), (.mv (.t 4)), none⟩, ⟨(some 12), (.bin .add (.t 11) (.c (.int .i64 1))), none⟩, ⟨(some 4), (.asg (.t 12)), none⟩])))
def c_law18_upper_l1 : ACode := (.loop c_law18_upper_l1b)
def m_law18_upper_l1b : ACode := (.seq (.seq (.rg [⟨(some 7), (.mv (.t 4)), none⟩, ⟨(some 8), (.mv (.t 3)), none⟩, ⟨(some 9), (.len (.t 8)), none⟩, ⟨(some 10), (.bin .lss (.t 7) (.t 9)), none⟩]) (.cond (.t 10) .skip (.exit 0))) (.seq (.blk 1 (.seq (.sem c_law18_upper_p1) (.cond (.t 24) (.rg [⟨(some 25), (.mv (.t 3)), none⟩, ⟨(some 26), (.mv (.t 4)), none⟩, ⟨(some 27), (.mv (.t 3)), none⟩, ⟨(some 28), (.mv (.t 4)), none⟩, ⟨(some 29), (.ixa 1 (.t 27) (.t 28)), none⟩, ⟨(some 30), (.ld (.t 29) none), none⟩, ⟨(some 31), (.bin .sub (.t 30) (.c (b8 32))), none⟩, ⟨(some 32), (.ixa 1 (.t 25) (.t 26)), none⟩, ⟨none, (.st (.t 32) (.t 31) 1), none⟩]) .skip))) (.rg [⟨(some 11), (.mv (.t 4)), none⟩, ⟨(some 12), (.bin .add (.t 11) (.c (.int .i64 1))), none⟩, ⟨(some 4), (.asg (.t 12)), none⟩])))
def c_law18_upper : ACode := (.seq (.rg [⟨(some 2), (.asg (.c (.str []))), none⟩]) (.seq (.rg [⟨(some 5), (.mv (.t 0)), none⟩, ⟨(some 6), (.cvt .sb (.t 5)), none⟩, ⟨(some 3), (.asg (.t 6)), none⟩]) (.seq (.seq (.rg [⟨(some 4), (.asg (.c (.int .i64 0))), none⟩]) (.blk 0 c_law18_upper_l1)) (.seq (.rg [⟨(some 33), (.mv (.t 3)), none⟩, ⟨(some 34), (.cvt .bs (.t 33)), none⟩, ⟨(some 2), (.asg (.t 34)), none⟩]) .ret))))
def m_law18_upper : ACode := (.seq (.rg [⟨(some 2), (.asg (.c (.str []))), none⟩]) (.seq (.rg [⟨(some 5), (.mv (.t 0)), none⟩, ⟨(some 6), (.cvto (.t 5)), none⟩, ⟨(some 3), (.asg (.t 6)), none⟩]) (.seq (.seq (.rg [⟨(some 4), (.asg (.c (.int .i64 0))), none⟩]) (.blk 0 c_law18_upper_l1)) (.seq (.rg [⟨(some 33), (.mv (.t 3)), none⟩, ⟨(some 34), (.cvt .bs (.t 33)), none⟩, ⟨(some 2), (.asg (.t 34)), none⟩]) .ret))))
theorem k_law18_upper : FnOk Tryd.prog 17 35 [(.tmp 2)] c_law18_upper := ⟨Tryd.f17, _, rfl, by decide, rfl, by kernel_rfl, rfl, rfl⟩
abbrev L_law18_upper : List Nat := [0, 2, 3, 4, 10, 24]
def law18_upper_p1 (s1 : List UInt8) (i3 : Int) (s4 : List UInt8) : Option (Bool) :=
  (ixm s1.length i3).bind fun j6 =>
  (s4[j6]?).bind fun x7 =>
  (if (decide (97 ≤ x7)) then
    some (decide (x7 ≤ 122))
  else
    some false)
def law18_upper_l1 (s1 : List UInt8) : (Int × (List UInt8)) → Option (St (List UInt8) (List UInt8) (Int × (List UInt8)))
  | (i3, s4) =>
    (if (decide (i3 < (s1.length : Int))) then
      (law18_upper_p1 s1 i3 s4).bind fun t9 =>
      (if t9 then
        (ixm s1.length i3).bind fun j10 =>
        (s4[j10]?).bind fun x11 =>
        (setx s4 j10 (x11 - 32)).bind fun s12 => some (.nxt ((IntKind.wrap .i64 (i3 + 1)), s12))
      else
        some (.nxt ((IntKind.wrap .i64 (i3 + 1)), s4)))
    else
      some (.brk s4))
def law18_upper (F : Nat) (s1 : List UInt8) : Option ((List UInt8)) :=
  ((iter (law18_upper_l1 s1) F (0, s1)).bind fun o16 =>
  match o16 with
  | .inr s14 =>
    (sub s14 0 (s1.length : Int)).bind fun x15 => some x15
  | .inl _ => none)
theorem law18_upper_p1_ok {s1 : List UInt8} {i3 : Int} {s4 : List UInt8} {q5 : Nat} {H0 H : AH} (hfr : Fr H0 H0.length [] H) (hs_o1 : H[q5]? = some (ml b8 s4)) (hi0 : H0.length ≤ q5) {K : Exit → Env → AH → Prop} {t8 : Bool}
    (h : law18_upper_p1 s1 i3 s4 = some t8)
    (kn : ∀ H' : AH, Fr H0 H0.length [] H' → H'[q5]? = some (ml b8 s4) → K .normal [(3, (.msl q5 1 0 s1.length)), (4, (.int .i64 i3)), (24, (.bool t8))] H') :
    AX Tryd.prog L_law18_upper 35 H0.length c_law18_upper_p1 K [(3, (.msl q5 1 0 s1.length)), (4, (.int .i64 i3))] H := by
  refine AX.go (m := m_law18_upper_p1) rfl (by decide) fun K' hK => ?_
  have hle := hfr.le
  have hl_o1 := h_lt hs_o1
  rw [law18_upper_p1.eq_1] at h
  obtain ⟨j6, hy2, h⟩ := bnd' h
  obtain ⟨x7, hy3, h⟩ := bnd' h
  try simp (disch := first | assumption | omega | (simp only [h_sl, h_al] <;> omega) | fail) only [WW, WH, ↓reduceIte, nA, nB, nC, nD, nE, nF, nG, reduceCtorEq, L_law18_upper, m_law18_upper_p1, c_law18_upper_p1, hy2, hy3, hs_o1, encFieldV, encL1b8]
  rcases ifb h with ⟨hy4, h⟩ | ⟨hy4, h⟩
  · refine UG_go hy4 ?_
    try simp (disch := first | assumption | omega | (simp only [h_sl, h_al] <;> omega) | fail) only [WW, WH, ↓reduceIte, nA, nB, nC, nD, nE, nF, nG, reduceCtorEq, L_law18_upper, hy4, hy2, hy3, hs_o1, encFieldV, encL1b8]
    have hq := Option.some.inj h; subst hq
    refine hK _ _ _ _ _ ?_ (WxH.refl _) (kn _ hfr ((hs_o1).trans rfl))
    exact WE.cons (Wx.msl) (WE.cons (Wx.int) (WE.cons (Wx.bool) (WE.nil)))
  · refine UG_nt hy4 ?_
    try simp (disch := first | assumption | omega | (simp only [h_sl, h_al] <;> omega) | fail) only [WW, WH, ↓reduceIte, nA, nB, nC, nD, nE, nF, nG, reduceCtorEq, L_law18_upper, hy4, hs_o1, encFieldV, encL1b8]
    have hq := Option.some.inj h; subst hq
    refine hK _ _ _ _ _ ?_ (WxH.refl _) (kn _ hfr ((hs_o1).trans rfl))
    exact WE.cons (Wx.msl) (WE.cons (Wx.int) (WE.cons (Wx.bool) (WE.nil)))
theorem law18_upper_l1_ok {F : Nat} {i3 : Int} {s1 : List UInt8} {s4 : List UInt8} {q2 : Nat} {H0 H : AH} (hfr : Fr H0 H0.length [] H) (hs_o1 : H[q2]? = some (ml b8 s4)) (hi0 : H0.length ≤ q2) {K : Exit → Env → AH → Prop} {o : ((List UInt8)) ⊕ ((List UInt8))}
    (h : iter (law18_upper_l1 s1) F (i3, s4) = some o)
    (kb0 : ∀ o' : (List UInt8), o = .inr o' → ∀ H' : AH, Fr H0 H0.length [] H' → H'[q2]? = some (ml b8 o') → K (.exit 0) [(3, (.msl q2 1 0 s1.length))] H') :
    AX Tryd.prog L_law18_upper 35 H0.length c_law18_upper_l1 K [(3, (.msl q2 1 0 s1.length)), (4, (.int .i64 i3))] H := by
  refine AX.iter (m := m_law18_upper_l1b) rfl (by decide) (fun s e H1 => match s with | (i3, s4) => e = [(3, (.msl q2 1 0 s1.length)), (4, (.int .i64 i3))] ∧ Fr H0 H0.length [] H1 ∧ H1[q2]? = some (ml b8 s4)) h ⟨rfl, hfr, hs_o1⟩ ?_
  skip
  rintro K' ⟨i3, s4⟩ st e H ⟨rfl, hfr, hs_o1⟩ h hN hB hR hX
  have hle := hfr.le
  have hl_o1 := h_lt hs_o1
  rw [law18_upper_l1.eq_1] at h
  try simp (disch := first | assumption | omega | (simp only [h_sl, h_al] <;> omega) | fail) only [WW, WH, ↓reduceIte, nA, nB, nC, nD, nE, nF, nG, reduceCtorEq, L_law18_upper, m_law18_upper_l1b, hs_o1, encFieldV, encL1b8]
  rcases ifb h with ⟨hy1, h⟩ | ⟨hy1, h⟩
  · refine UC_t hy1 ?_
    try simp (disch := first | assumption | omega | (simp only [h_sl, h_al] <;> omega) | fail) only [WW, WH, ↓reduceIte, nA, nB, nC, nD, nE, nF, nG, reduceCtorEq, L_law18_upper, hs_o1, encFieldV, encL1b8]
    obtain ⟨t9, hy5, h⟩ := bnd' h
    refine UX_of (AX.weak ?_ (WxH.refl _) (law18_upper_p1_ok  (s1 := s1) (i3 := i3) (s4 := s4) (t8 := t9) (q5 := q2) (hfr) ((hs_o1).trans rfl) (by first | assumption | omega | (simp only [h_sl, h_al] <;> omega) | fail) hy5 ?_))
    · exact WE.cons (Wx.msl) (WE.cons (Wx.int) (WE.nil))
    intro H hfr hs_o1
    have hle := hfr.le
    have hl_o1 := h_lt hs_o1
    try simp (disch := first | assumption | omega | (simp only [h_sl, h_al] <;> omega) | fail) only [WW, WH, ↓reduceIte, nA, nB, nC, nD, nE, nF, nG, reduceCtorEq, L_law18_upper, hs_o1, encFieldV, encL1b8]
    rcases ifb h with ⟨hy6, h⟩ | ⟨hy6, h⟩
    · refine UC_t hy6 ?_
      obtain ⟨j10, hy7, h⟩ := bnd' h
      obtain ⟨x11, hy8, h⟩ := bnd' h
      obtain ⟨s12, hy9, h⟩ := bnd' h
      try simp (disch := first | assumption | omega | (simp only [h_sl, h_al] <;> omega) | fail) only [WW, WH, ↓reduceIte, nA, nB, nC, nD, nE, nF, nG, reduceCtorEq, L_law18_upper, hy7, hy8, hy7, hy9, hs_o1, encFieldV, encL1b8]
      have hq := Option.some.inj h; subst hq
      refine hN _ rfl _ _ _ _ ?_ (WxH.refl _) ⟨rfl, (Fr.set (s := q2) hfr (.inr (by first | assumption | omega | (simp only [h_sl, h_al] <;> omega) | fail))), ((h_eq (by first | assumption | omega | (simp only [h_sl, h_al] <;> omega) | fail)).trans rfl)⟩
      exact WE.cons (Wx.msl) (WE.cons (Wx.int) (WE.nil))
    · refine UC_f hy6 ?_
      try simp (disch := first | assumption | omega | (simp only [h_sl, h_al] <;> omega) | fail) only [WW, WH, ↓reduceIte, nA, nB, nC, nD, nE, nF, nG, reduceCtorEq, L_law18_upper, hs_o1, encFieldV, encL1b8]
      have hq := Option.some.inj h; subst hq
      refine hN _ rfl _ _ _ _ ?_ (WxH.refl _) ⟨rfl, hfr, ((hs_o1).trans rfl)⟩
      exact WE.cons (Wx.msl) (WE.cons (Wx.int) (WE.nil))
  · refine UC_f hy1 ?_
    try simp (disch := first | assumption | omega | (simp only [h_sl, h_al] <;> omega) | fail) only [WW, WH, ↓reduceIte, nA, nB, nC, nD, nE, nF, nG, reduceCtorEq, L_law18_upper, hs_o1, encFieldV, encL1b8]
    have hq := Option.some.inj h; subst hq
    refine hX _ _ _ _ _ (by simp) ?_ (WxH.refl _) (kb0 _ (hB _ rfl) _ hfr ((hs_o1).trans rfl))
    exact WE.cons (Wx.msl) (WE.nil)
theorem law18_upper_ok {F : Nat} {s1 : List UInt8}  {H0 : AH}  {rz0 : List UInt8} (h : law18_upper F s1 = some rz0) :
    ACalls Tryd.prog 17 [(.str s1)] H0 fun v H' => v = (.str rz0) ∧ H' = H0 := by
  refine ACalls.goX k_law18_upper (m := m_law18_upper) rfl L_law18_upper (by decide) (by simp) fun hcl K0 hK0 => ?_
  refine AX.of_U (m := m_law18_upper) rfl (by decide) ?_
  have hfr := Fr.refl H0 []
  have hle := hfr.le
  rw [law18_upper.eq_1] at h
  obtain ⟨H, hHH⟩ : ∃ H, H = H0 := ⟨_, rfl⟩
  have hfr : Fr H0 H0.length [] H := hHH ▸ hfr
  have hle := hfr.le
  suffices hU : U Tryd.prog L_law18_upper 35 H0.length [.code m_law18_upper] K0 .normal (argE 0 [(.str s1)]) H by rwa [hHH] at hU
  try simp (disch := first | assumption | omega | (simp only [h_sl, h_al] <;> omega) | fail) only [WW, WH, ↓reduceIte, nA, nB, nC, nD, nE, nF, nG, reduceCtorEq, L_law18_upper, m_law18_upper, encFieldV, encL1b8]
  obtain ⟨q2, hg_q2⟩ : ∃ q : Nat, H.length = q := ⟨_, rfl⟩
  try rw [hg_q2]
  obtain ⟨o16, hy10, h⟩ := bnd' h
  refine UX_of (AX.weak ?_ (WxH.refl _) (law18_upper_l1_ok  (s1 := s1) (i3 := 0) (s4 := s1) (q2 := q2) ((Fr.app hfr)) ((h_new' (by first | assumption | omega | (simp only [h_sl, h_al] <;> omega) | fail)).trans rfl) (by first | assumption | omega | (simp only [h_sl, h_al] <;> omega) | fail) (o := o16) hy10 ?_))
  · exact WE.cons (Wx.msl) (WE.cons (Wx.int) (WE.nil))
  · rintro s14 rfl H hfr hs_o1
    try dsimp only at h hs_o1
    have hle := hfr.le
    have hl_o1 := h_lt hs_o1
    obtain ⟨x15, hy11, h⟩ := bnd' h
    try simp (disch := first | assumption | omega | (simp only [h_sl, h_al] <;> omega) | fail) only [WW, WH, ↓reduceIte, nA, nB, nC, nD, nE, nF, nG, reduceCtorEq, L_law18_upper, hy11, hs_o1, encFieldV, encL1b8]
    have hq := Option.some.inj h; subst hq
    refine hK0 _ _ _ (.inr rfl) ?_
    exact fn_end0 (by exact hfr) hcl (resv_tmp (a := (.str x15)) rfl rfl resv_nil) (by first | (simp [fin, b_df, b_sh, b_sh1, b_Cl]; done) | (simp [fin, AV.df, AV.sh, AV.sh1, b_df, b_sh, b_sh1, b_Cl]; done)) (Wx.str) (r' := (.str x15)) ⟨rfl, rfl⟩

/-! ### mailbag/mailbaglaw18.HeadFolds -/
def c_law18_HeadFolds_p1 : ACode := (.rg [⟨(some 21), (.mv (.t 0)), none⟩, ⟨(some 22), (.len (.t 21)), none⟩, ⟨(some 23), (.bin .gtr (.t 22) (.c (.int .i64 20))), none⟩, ⟨(some 24), (.mv (.t 23)), none⟩, ⟨(some 25), (.mv (.t 1)), (some (24, false))⟩, ⟨(some 26), (.len (.t 25)), (some (24, false))⟩, ⟨(some 27), (.bin .eql (.t 26) (.c (.int .i64 0))), (some (24, false))⟩, ⟨(some 28), (.pick (.t 24) (.c (.bool true)) (.t 27)), none⟩, ⟨(some 29), (.mv (.t 28)), none⟩, ⟨(some 30), (.mv (.t 1)), (some (29, false))⟩, ⟨(some 31), (.len (.t 30)), (some (29, false))⟩, ⟨(some 32), (.bin .gtr (.t 31) (.c (.int .i64 40))), (some (29, false))⟩, ⟨(some 33), (.pick (.t 29) (.c (.bool true)) (.t 32)), none⟩, ⟨(some 34), (.mv (.t 33)), none⟩, ⟨(some 35), (.mv (.t 2)), (some (34, false))⟩, ⟨(some 36), (.bin .lss (.t 35) (.c (.int .i64 0))), (some (34, false))⟩, ⟨(some 37), (.pick (.t 34) (.c (.bool true)) (.t 36)), none⟩, ⟨(some 38), (.mv (.t 37)), none⟩, ⟨(some 39), (.mv (.t 2)), (some (38, false))⟩, ⟨(some 40), (.bin .gtr (.t 39) (.c (.int .i64 20))), (some (38, false))⟩, ⟨(some 41), (.pick (.t 38) (.c (.bool true)) (.t 40)), none⟩])
abbrev m_law18_HeadFolds_p1 := c_law18_HeadFolds_p1
def c_law18_HeadFolds_l1b : ACode := (.seq (.seq (.rg [⟨(some 42), (.mv (.t 8)), none⟩, ⟨(some 43), (.mv (.t 1)), none⟩, ⟨(some 44), (.len (.t 43)), none⟩, ⟨(some 45), (.bin .lss (.t 42) (.t 44)), none⟩]) (.cond (.t 45) .skip (.exit 0))) (.seq (.blk 1 (.rg [⟨(some 48), (.mv (.t 7)), none⟩, ⟨(some 49), (.mv (.t 1)), none⟩, ⟨(some 50), (.mv (.t 8)), none⟩, ⟨(some 51), (.ixa 1 (.t 49) (.t 50)), none⟩, ⟨(some 52), (.ld (.t 51) none), none⟩, ⟨(some 53), (.bin .rem (.t 52) (.c (b8 26))), none⟩, ⟨(some 54), (.bin .add (.c (b8 97)) (.t 53)), none⟩, ⟨(some 55), (.bsl 1 [(.t 54)]), none⟩, ⟨(some 56), (.cvt .bs (.t 55)), none⟩, ⟨(some 57), (.bin .add (.t 48) (.t 56)), none⟩, ⟨(some 7), (.asg (.t 57)), none⟩])) (.rg [⟨(some 46), (.mv (.t 8)), none⟩, ⟨(some 47), (.bin .add (.t 46) (.c (.int .i64 1))), none⟩, ⟨(some 8), (.asg (.t 47)), none⟩])))
def c_law18_HeadFolds_l1 : ACode := (.loop c_law18_HeadFolds_l1b)
abbrev m_law18_HeadFolds_l1b := c_law18_HeadFolds_l1b
def c_law18_HeadFolds_l2b : ACode := (.seq (.seq (.rg [⟨(some 70), (.mv (.t 12)), none⟩, ⟨(some 71), (.mv (.t 0)), none⟩, ⟨(some 72), (.mv (.t 10)), none⟩, ⟨(some 73), (.ixa 1 (.t 71) (.t 72)), none⟩, ⟨(some 74), (.ld (.t 73) none), none⟩, ⟨(some 75), (.len (.t 74)), none⟩, ⟨(some 76), (.bin .lss (.t 70) (.t 75)), none⟩]) (.cond (.t 76) .skip (.exit 4))) (.seq (.blk 5 (.rg [⟨(some 79), (.mv (.t 11)), none⟩, ⟨(some 80), (.mv (.t 0)), none⟩, ⟨(some 81), (.mv (.t 10)), none⟩, ⟨(some 82), (.ixa 1 (.t 80) (.t 81)), none⟩, ⟨(some 83), (.ld (.t 82) none), none⟩, ⟨(some 84), (.mv (.t 12)), none⟩, ⟨(some 85), (.ixa 1 (.t 83) (.t 84)), none⟩, ⟨(some 86), (.ld (.t 85) none), none⟩, ⟨(some 87), (.bin .rem (.t 86) (.c (b8 95))), none⟩, ⟨(some 88), (.bin .add (.c (b8 32)) (.t 87)), none⟩, ⟨(some 89), (.bsl 1 [(.t 88)]), none⟩, ⟨(some 90), (.cvt .bs (.t 89)), none⟩, ⟨(some 91), (.bin .add (.t 79) (.t 90)), none⟩, ⟨(some 11), (.asg (.t 91)), none⟩])) (.rg [⟨(some 77), (.mv (.t 12)), none⟩, ⟨(some 78), (.bin .add (.t 77) (.c (.int .i64 1))), none⟩, ⟨(some 12), (.asg (.t 78)), none⟩])))
def c_law18_HeadFolds_l2 : ACode := (.loop c_law18_HeadFolds_l2b)
abbrev m_law18_HeadFolds_l2b := c_law18_HeadFolds_l2b
def c_law18_HeadFolds_l3b : ACode := (.seq (.seq (.rg [⟨(some 58), (.mv (.t 10)), none⟩, ⟨(some 59), (.mv (.t 0)), none⟩, ⟨(some 60), (.len (.t 59)), none⟩, ⟨(some 61), (.bin .lss (.t 58) (.t 60)), none⟩]) (.cond (.t 61) .skip (.exit 2))) (.seq (.blk 3 (.seq (.seq (.rg [⟨(some 64), (.mv (.t 0)), none⟩, ⟨(some 65), (.mv (.t 10)), none⟩, ⟨(some 66), (.ixa 1 (.t 64) (.t 65)), none⟩, ⟨(some 67), (.ld (.t 66) none), none⟩, ⟨(some 68), (.len (.t 67)), none⟩, ⟨(some 69), (.bin .gtr (.t 68) (.c (.int .i64 100))), none⟩]) (.cond (.t 69) (.seq (.rg [⟨(some 6), (.asg (.c (.bool true))), none⟩]) .ret) .skip)) (.seq (.rg [⟨(some 11), (.asg (.c (.str [9]))), none⟩]) (.seq (.seq (.rg [⟨(some 12), (.asg (.c (.int .i64 0))), none⟩]) (.blk 4 c_law18_HeadFolds_l2)) (.rg [⟨(some 92), (.mv (.t 9)), none⟩, ⟨(some 93), (.bin .add (.t 92) (.c (.str [13, 10]))), none⟩, ⟨(some 94), (.mv (.t 11)), none⟩, ⟨(some 95), (.bin .add (.t 93) (.t 94)), none⟩, ⟨(some 9), (.asg (.t 95)), none⟩]))))) (.rg [⟨(some 62), (.mv (.t 10)), none⟩, ⟨(some 63), (.bin .add (.t 62) (.c (.int .i64 1))), none⟩, ⟨(some 10), (.asg (.t 63)), none⟩])))
def c_law18_HeadFolds_l3 : ACode := (.loop c_law18_HeadFolds_l3b)
abbrev m_law18_HeadFolds_l3b := c_law18_HeadFolds_l3b
def c_law18_HeadFolds_l4b : ACode := (.seq (.seq (.rg [⟨(some 101), (.mv (.t 14)), none⟩, ⟨(some 102), (.mv (.t 2)), none⟩, ⟨(some 103), (.bin .lss (.t 101) (.t 102)), none⟩]) (.cond (.t 103) .skip (.exit 6))) (.seq (.blk 7 (.rg [⟨(some 106), (.mv (.t 13)), none⟩, ⟨(some 107), (.mv (.t 7)), none⟩, ⟨(some 108), (.call (.c (.fn 17 [])) [(.t 107)]), none⟩, ⟨(some 109), (.bin .add (.t 106) (.t 108)), none⟩, ⟨(some 110), (.bin .add (.t 109) (.c (.str [58, 32, 97, 103, 97, 105, 110, 13, 10]))), none⟩, ⟨(some 13), (.asg (.t 110)), none⟩])) (.rg [⟨(some 104), (.mv (.t 14)), none⟩, ⟨(some 105), (.bin .add (.t 104) (.c (.int .i64 1))), none⟩, ⟨(some 14), (.asg (.t 105)), none⟩])))
def c_law18_HeadFolds_l4 : ACode := (.loop c_law18_HeadFolds_l4b)
abbrev m_law18_HeadFolds_l4b := c_law18_HeadFolds_l4b
def c_law18_HeadFolds_p2 : ACode := (.rg (⟨(some 125), (.mv (.t 15)), none⟩ :: ⟨(some 126), (.len (.t 125)), none⟩ :: ⟨(some 127), (.mv (.t 2)), none⟩ :: ⟨(some 128), (.bin .add (.c (.int .i64 1)) (.t 127)), none⟩ :: ⟨(some 129), (.bin .eql (.t 126) (.t 128)), none⟩ :: ⟨(some 130), (.mv (.t 129)), none⟩ :: ⟨(some 131), (.mv (.t 15)), (some (130, true))⟩ :: ⟨(some 132), (.ixa 2 (.t 131) (.c (.int .i64 0))), (some (130, true))⟩ :: ⟨(some 133), (.fld (.t 132) 1), (some (130, true))⟩ :: ⟨(some 134), (.ld (.t 133) none), (some (130, true))⟩ :: ⟨(some 135), (.mv (.t 9)), (some (130, true))⟩ :: ⟨(some 136), (.bin .eql (.t 134) (.t 135)), (some (130, true))⟩ :: ⟨(some 137), (.pick (.t 130) (.t 136) (.c (.bool false))), none⟩ :: ⟨(some 138), (.mv (.t 137)), none⟩ :: ⟨(some 139), (.mv (.t 17)), (some (138, true))⟩ :: ⟨(some 140), (.mv (.t 9)), (some (138, true))⟩ :: ⟨(some 141), (.bin .eql (.t 139) (.t 140)), (some (138, true))⟩ :: ⟨(some 142), (.pick (.t 138) (.t 141) (.c (.bool false))), none⟩ :: ⟨(some 143), (.mv (.t 142)), none⟩ :: ⟨(some 144), (.mv (.t 18)), (some (143, true))⟩ :: ⟨(some 145), (.mv (.t 2)), (some (143, true))⟩ :: ⟨(some 146), (.bin .add (.c (.int .i64 1)) (.t 145)), (some (143, true))⟩ :: ⟨(some 147), (.bin .eql (.t 144) (.t 146)), (some (143, true))⟩ :: ⟨(some 148), (.pick (.t 143) (.t 147) (.c (.bool false))), none⟩ :: ⟨(some 149), (.mv (.t 148)), none⟩ :: ⟨(some 150), (.mv (.t 16)), (some (149, true))⟩ :: ⟨(some 151), (.cvt .bs (.t 150)), (some (149, true))⟩ :: ⟨(some 152), (.bin .eql (.t 151) (.c (.str [98, 111, 100, 121, 13, 10]))), (some (149, true))⟩ :: ⟨(some 153), (.pick (.t 149) (.t 152) (.c (.bool false))), none⟩ :: ⟨(some 6), (.asg (.t 153)), none⟩ :: []))
abbrev m_law18_HeadFolds_p2 := c_law18_HeadFolds_p2
def c_law18_HeadFolds : ACode := (.seq (.rg [⟨(some 6), (.asg (.c (.bool false))), none⟩]) (.seq (.seq (.rg [⟨(some 19), (.call (.c (.fn 14 [])) []), none⟩, ⟨(some 20), (.un .not (.t 19)), none⟩]) (.cond (.t 20) (.seq (.rg [⟨(some 6), (.asg (.c (.bool false))), none⟩]) .ret) .skip)) (.seq (.seq c_law18_HeadFolds_p1 (.cond (.t 41) (.seq (.rg [⟨(some 6), (.asg (.c (.bool true))), none⟩]) .ret) .skip)) (.seq (.rg [⟨(some 7), (.asg (.c (.str []))), none⟩]) (.seq (.seq (.rg [⟨(some 8), (.asg (.c (.int .i64 0))), none⟩]) (.blk 0 c_law18_HeadFolds_l1)) (.seq (.rg [⟨(some 9), (.asg (.c (.str [32, 102, 105, 114, 115, 116]))), none⟩]) (.seq (.seq (.rg [⟨(some 10), (.asg (.c (.int .i64 0))), none⟩]) (.blk 2 c_law18_HeadFolds_l3)) (.seq (.rg [⟨(some 96), (.mv (.t 7)), none⟩, ⟨(some 97), (.bin .add (.t 96) (.c (.str [58]))), none⟩, ⟨(some 98), (.mv (.t 9)), none⟩, ⟨(some 99), (.bin .add (.t 97) (.t 98)), none⟩, ⟨(some 100), (.bin .add (.t 99) (.c (.str [13, 10]))), none⟩, ⟨(some 13), (.asg (.t 100)), none⟩]) (.seq (.seq (.rg [⟨(some 14), (.asg (.c (.int .i64 0))), none⟩]) (.blk 6 c_law18_HeadFolds_l4)) (.seq (.rg [⟨(some 112), (.mv (.t 13)), none⟩, ⟨(some 113), (.bin .add (.t 112) (.c (.str [13, 10, 98, 111, 100, 121]))), none⟩, ⟨(some 114), (.cvt .sb (.t 113)), none⟩, ⟨(some 115), (.call (.c (.fn 18 [])) [(.t 114)]), none⟩, ⟨(some 111), (.mv (.t 115)), none⟩, ⟨(some 116), (.ext (.t 111) 0), none⟩, ⟨(some 117), (.ext (.t 111) 1), none⟩, ⟨(some 15), (.asg (.t 116)), none⟩, ⟨(some 16), (.asg (.t 117)), none⟩]) (.seq (.rg [⟨(some 119), (.mv (.t 15)), none⟩, ⟨(some 120), (.mv (.t 7)), none⟩, ⟨(some 121), (.call (.c (.fn 17 [])) [(.t 120)]), none⟩, ⟨(some 122), (.call (.c (.fn 19 [])) [(.t 119), (.t 121)]), none⟩, ⟨(some 118), (.mv (.t 122)), none⟩, ⟨(some 123), (.ext (.t 118) 0), none⟩, ⟨(some 124), (.ext (.t 118) 1), none⟩, ⟨(some 17), (.asg (.t 123)), none⟩, ⟨(some 18), (.asg (.t 124)), none⟩]) (.seq c_law18_HeadFolds_p2 .ret))))))))))))
def m_law18_HeadFolds : ACode := (.seq (.rg [⟨(some 6), (.asg (.c (.bool false))), none⟩]) (.seq (.seq (.rg [⟨(some 19), (.call (.c (.fn 14 [])) []), none⟩, ⟨(some 20), (.un .not (.t 19)), none⟩]) (.cond (.t 20) (.seq (.rg [⟨(some 6), (.asg (.c (.bool false))), none⟩]) .ret) .skip)) (.seq (.seq (.sem c_law18_HeadFolds_p1) (.cond (.t 41) (.seq (.rg [⟨(some 6), (.asg (.c (.bool true))), none⟩]) .ret) .skip)) (.seq (.rg [⟨(some 7), (.asg (.c (.str []))), none⟩]) (.seq (.seq (.rg [⟨(some 8), (.asg (.c (.int .i64 0))), none⟩]) (.blk 0 c_law18_HeadFolds_l1)) (.seq (.rg [⟨(some 9), (.asg (.c (.str [32, 102, 105, 114, 115, 116]))), none⟩]) (.seq (.seq (.rg [⟨(some 10), (.asg (.c (.int .i64 0))), none⟩]) (.blk 2 c_law18_HeadFolds_l3)) (.seq (.rg [⟨(some 96), (.mv (.t 7)), none⟩, ⟨(some 97), (.bin .add (.t 96) (.c (.str [58]))), none⟩, ⟨(some 98), (.mv (.t 9)), none⟩, ⟨(some 99), (.bin .add (.t 97) (.t 98)), none⟩, ⟨(some 100), (.bin .add (.t 99) (.c (.str [13, 10]))), none⟩, ⟨(some 13), (.asg (.t 100)), none⟩]) (.seq (.seq (.rg [⟨(some 14), (.asg (.c (.int .i64 0))), none⟩]) (.blk 6 c_law18_HeadFolds_l4)) (.seq (.rg [⟨(some 112), (.mv (.t 13)), none⟩, ⟨(some 113), (.bin .add (.t 112) (.c (.str [13, 10, 98, 111, 100, 121]))), none⟩, ⟨(some 114), (.cvt .sb (.t 113)), none⟩, ⟨(some 115), (.call (.c (.fn 18 [])) [(.t 114)]), none⟩, ⟨(some 111), (.mv (.t 115)), none⟩, ⟨(some 116), (.ext (.t 111) 0), none⟩, ⟨(some 117), (.ext (.t 111) 1), none⟩, ⟨(some 15), (.asg (.t 116)), none⟩, ⟨(some 16), (.asg (.t 117)), none⟩]) (.seq (.rg [⟨(some 119), (.mv (.t 15)), none⟩, ⟨(some 120), (.mv (.t 7)), none⟩, ⟨(some 121), (.call (.c (.fn 17 [])) [(.t 120)]), none⟩, ⟨(some 122), (.call (.c (.fn 19 [])) [(.t 119), (.t 121)]), none⟩, ⟨(some 118), (.mv (.t 122)), none⟩, ⟨(some 123), (.ext (.t 118) 0), none⟩, ⟨(some 124), (.ext (.t 118) 1), none⟩, ⟨(some 17), (.asg (.t 123)), none⟩, ⟨(some 18), (.asg (.t 124)), none⟩]) (.seq (.sem c_law18_HeadFolds_p2) .ret))))))))))))
theorem k_law18_HeadFolds : FnOk Tryd.prog 4 154 [(.tmp 6)] c_law18_HeadFolds := ⟨Tryd.f4, _, rfl, by decide, rfl, by kernel_rfl, rfl, rfl⟩
abbrev L_law18_HeadFolds : List Nat := [0, 1, 2, 6, 7, 8, 9, 10, 11, 12, 13, 14, 15, 16, 17, 18, 20, 41, 45, 61, 69, 76, 103]
def law18_HeadFolds_l1 (name2 : List UInt8) : ((List UInt8) × Int) → Option (St Bool (List UInt8) ((List UInt8) × Int))
  | (nn5, i6) =>
    (if (decide (i6 < (name2.length : Int))) then
      (idx name2 i6).bind fun x7 =>
      (cat nn5 ([(97 + (x7 % 26))] : List UInt8)).bind fun x8 => some (.nxt (x8, (IntKind.wrap .i64 (i6 + 1))))
    else
      some (.brk nn5))
def law18_HeadFolds_l2 (parts1 : List (List UInt8)) (i12 : Int) : ((List UInt8) × Int) → Option (St Bool (List UInt8) ((List UInt8) × Int))
  | (t14, kk15) =>
    (idx parts1 i12).bind fun x16 =>
    (if (decide (kk15 < (x16.length : Int))) then
      (idx x16 kk15).bind fun x17 =>
      (cat t14 ([(32 + (x17 % 95))] : List UInt8)).bind fun x18 => some (.nxt (x18, (IntKind.wrap .i64 (kk15 + 1))))
    else
      some (.brk t14))
def law18_HeadFolds_l3 (F : Nat) (parts1 : List (List UInt8)) : ((List UInt8) × Int) → Option (St Bool (List UInt8) ((List UInt8) × Int))
  | (v11, i12) =>
    (if (decide (i12 < (parts1.length : Int))) then
      (idx parts1 i12).bind fun x13 =>
      (if (decide (100 < (x13.length : Int))) then
        some (.ret true)
      else
        ((iter (law18_HeadFolds_l2 parts1 i12) F (([9] : List UInt8), 0)).bind fun o23 =>
        match o23 with
        | .inr t20 =>
          (cat v11 ([13, 10] : List UInt8)).bind fun x21 =>
          (cat x21 t20).bind fun x22 => some (.nxt (x22, (IntKind.wrap .i64 (i12 + 1))))
        | .inl _ => none))
    else
      some (.brk v11))
def law18_HeadFolds_l4 (F : Nat) (times3 : Int) (nn10 : List UInt8) : ((List UInt8) × Int) → Option (St Bool (List UInt8) ((List UInt8) × Int))
  | (s30, i31) =>
    (if (decide (i31 < times3)) then
      (law18_upper F nn10).bind fun r32 =>
      (cat s30 r32).bind fun x33 =>
      (cat x33 ([58, 32, 97, 103, 97, 105, 110, 13, 10] : List UInt8)).bind fun x34 => some (.nxt (x34, (IntKind.wrap .i64 (i31 + 1))))
    else
      some (.brk s30))
def law18_HeadFolds_p2 (r38 : List FieldV) (times3 : Int) (v26 : List UInt8) (r41 : List UInt8) (r42 : Int) (r39 : List UInt8) : Option (Bool) :=
  (if (decide ((r38.length : Int) = (IntKind.wrap .i64 (1 + times3)))) then
    (idx r38 0).bind fun x43 =>
    (if (decide (x43.value = v26)) then
      (if (decide (r41 = v26)) then
        (if (decide (r42 = (IntKind.wrap .i64 (1 + times3)))) then
          some (decide (r39 = ([98, 111, 100, 121, 13, 10] : List UInt8)))
        else
          some false)
      else
        some false)
    else
      some false)
  else
    some false)
def law18_HeadFolds (F : Nat) (parts1 : List (List UInt8)) (name2 : List UInt8) (times3 : Int) : Option (Bool) :=
  (law18_known F ).bind fun r4 =>
  (if (!r4) then
    some false
  else
    (if (((((decide (20 < (parts1.length : Int))) || (decide ((name2.length : Int) = 0))) || (decide (40 < (name2.length : Int)))) || (decide (times3 < 0))) || (decide (20 < times3))) then
      some true
    else
      ((iter (law18_HeadFolds_l1 name2) F (([] : List UInt8), 0)).bind fun o49 =>
      match o49 with
      | .inr nn10 =>
        ((iter (law18_HeadFolds_l3 F parts1) F (([32, 102, 105, 114, 115, 116] : List UInt8), 0)).bind fun o48 =>
        match o48 with
        | .inr v26 =>
          (cat nn10 ([58] : List UInt8)).bind fun x27 =>
          (cat x27 v26).bind fun x28 =>
          (cat x28 ([13, 10] : List UInt8)).bind fun x29 =>
          ((iter (law18_HeadFolds_l4 F times3 nn10) F (x29, 0)).bind fun o46 =>
          match o46 with
          | .inr s36 =>
            (cat s36 ([13, 10, 98, 111, 100, 121] : List UInt8)).bind fun x37 =>
            (head_Split F x37).bind fun (r38, r39) =>
            (law18_upper F nn10).bind fun r40 =>
            (head_Get F r38 r40).bind fun (r41, r42) =>
            (law18_HeadFolds_p2 r38 times3 v26 r41 r42 r39).bind fun t45 =>
            some t45
          | .inl _ => none)
        | .inl r47 =>
          some r47)
      | .inl _ => none)))
theorem law18_HeadFolds_p1_ok {parts1 : List (List UInt8)} {name2 : List UInt8} {times3 : Int} {H : AH}  {K : Exit → Env → AH → Prop}
    (kn : K .normal [(0, (.sl .n 1 (ml encL1b8 parts1))), (1, (.sl .n 1 (ml b8 name2))), (2, (.int .i64 times3)), (41, (.bool (((((decide (20 < (parts1.length : Int))) || (decide ((name2.length : Int) = 0))) || (decide (40 < (name2.length : Int)))) || (decide (times3 < 0))) || (decide (20 < times3)))))] H) :
    AX Tryd.prog L_law18_HeadFolds 154 H.length c_law18_HeadFolds_p1 K [(0, (.sl .n 1 (ml encL1b8 parts1))), (1, (.sl .n 1 (ml b8 name2))), (2, (.int .i64 times3))] H := by
  refine AX.go (m := m_law18_HeadFolds_p1) rfl (by decide) fun K' hK => ?_
  try simp only [WW, ↓reduceIte, nA, nB, nC, nD, nE, nF, nG, reduceCtorEq, L_law18_HeadFolds, m_law18_HeadFolds_p1, c_law18_HeadFolds_p1, encFieldV, encL1b8]
  rcases bcases ((decide (20 < (parts1.length : Int)))) with hy3 | hy3
  · refine UG_nf hy3 ?_
    try simp only [WW, ↓reduceIte, nA, nB, nC, nD, nE, nF, nG, reduceCtorEq, L_law18_HeadFolds, hy3, encFieldV, encL1b8]
    refine hK _ _ _ _ _ ?_ (WxH.refl _) (kn )
    exact WE.cons (Wx.nn) (WE.cons (Wx.nn) (WE.cons (Wx.int) (WE.cons (Wx.boolE (by simp only [hy3, WB])) (WE.nil))))
  · refine UG_go hy3 ?_
    try simp only [WW, ↓reduceIte, nA, nB, nC, nD, nE, nF, nG, reduceCtorEq, L_law18_HeadFolds, hy3, encFieldV, encL1b8]
    rcases bcases ((decide ((name2.length : Int) = 0))) with hy4 | hy4
    · refine UG_nf hy4 ?_
      try simp only [WW, ↓reduceIte, nA, nB, nC, nD, nE, nF, nG, reduceCtorEq, L_law18_HeadFolds, hy4, encFieldV, encL1b8]
      refine hK _ _ _ _ _ ?_ (WxH.refl _) (kn )
      exact WE.cons (Wx.nn) (WE.cons (Wx.nn) (WE.cons (Wx.int) (WE.cons (Wx.boolE (by first | (simp only [hy3, hy4, WB]; done) | (try rw [hy3]; try rw [hy4]; try simp only [WB]))) (WE.nil))))
    · refine UG_go hy4 ?_
      try simp only [WW, ↓reduceIte, nA, nB, nC, nD, nE, nF, nG, reduceCtorEq, L_law18_HeadFolds, hy4, encFieldV, encL1b8]
      rcases bcases ((decide (40 < (name2.length : Int)))) with hy5 | hy5
      · refine UG_nf hy5 ?_
        try simp only [WW, ↓reduceIte, nA, nB, nC, nD, nE, nF, nG, reduceCtorEq, L_law18_HeadFolds, hy5, encFieldV, encL1b8]
        refine hK _ _ _ _ _ ?_ (WxH.refl _) (kn )
        exact WE.cons (Wx.nn) (WE.cons (Wx.nn) (WE.cons (Wx.int) (WE.cons (Wx.boolE (by first | (simp only [hy3, hy4, hy5, WB]; done) | (try rw [hy3]; try rw [hy4]; try rw [hy5]; try simp only [WB]))) (WE.nil))))
      · refine UG_go hy5 ?_
        try simp only [WW, ↓reduceIte, nA, nB, nC, nD, nE, nF, nG, reduceCtorEq, L_law18_HeadFolds, hy5, encFieldV, encL1b8]
        rcases bcases ((decide (times3 < 0))) with hy6 | hy6
        · refine UG_nf hy6 ?_
          try simp only [WW, ↓reduceIte, nA, nB, nC, nD, nE, nF, nG, reduceCtorEq, L_law18_HeadFolds, hy6, encFieldV, encL1b8]
          refine hK _ _ _ _ _ ?_ (WxH.refl _) (kn )
          exact WE.cons (Wx.nn) (WE.cons (Wx.nn) (WE.cons (Wx.int) (WE.cons (Wx.boolE (by first | (simp only [hy3, hy4, hy5, hy6, WB]; done) | (try rw [hy3]; try rw [hy4]; try rw [hy5]; try rw [hy6]; try simp only [WB]))) (WE.nil))))
        · refine UG_go hy6 ?_
          try simp only [WW, ↓reduceIte, nA, nB, nC, nD, nE, nF, nG, reduceCtorEq, L_law18_HeadFolds, hy6, encFieldV, encL1b8]
          refine hK _ _ _ _ _ ?_ (WxH.refl _) (kn )
          exact WE.cons (Wx.nn) (WE.cons (Wx.nn) (WE.cons (Wx.int) (WE.cons (Wx.boolE (by first | (simp only [hy3, hy4, hy5, hy6, WB]; done) | (try rw [hy3]; try rw [hy4]; try rw [hy5]; try rw [hy6]; try simp only [WB]))) (WE.nil))))
theorem law18_HeadFolds_l1_ok {F : Nat} {i6 : Int} {name2 : List UInt8} {nn5 : List UInt8} {parts1 : List (List UInt8)} {times3 : Int} {H : AH}  {K : Exit → Env → AH → Prop} {o : (Bool) ⊕ ((List UInt8))}
    (h : iter (law18_HeadFolds_l1 name2) F (nn5, i6) = some o)
    (kb0 : ∀ o' : (List UInt8), o = .inr o' → K (.exit 0) [(0, (.sl .n 1 (ml encL1b8 parts1))), (2, (.int .i64 times3)), (7, (.str o'))] H) :
    AX Tryd.prog L_law18_HeadFolds 154 H.length c_law18_HeadFolds_l1 K [(0, (.sl .n 1 (ml encL1b8 parts1))), (1, (.sl .n 1 (ml b8 name2))), (2, (.int .i64 times3)), (7, (.str nn5)), (8, (.int .i64 i6))] H := by
  refine AX.iter (m := m_law18_HeadFolds_l1b) rfl (by decide) (fun s e H1 => match s with | (nn5, i6) => e = [(0, (.sl .n 1 (ml encL1b8 parts1))), (1, (.sl .n 1 (ml b8 name2))), (2, (.int .i64 times3)), (7, (.str nn5)), (8, (.int .i64 i6))] ∧ H1 = H) h ⟨rfl, rfl⟩ ?_
  rintro K' ⟨nn5, i6⟩ st e H ⟨rfl, rfl⟩ h hN hB hR hX
  rw [law18_HeadFolds_l1.eq_1] at h
  try simp only [WW, ↓reduceIte, nA, nB, nC, nD, nE, nF, nG, reduceCtorEq, L_law18_HeadFolds, m_law18_HeadFolds_l1b, c_law18_HeadFolds_l1b, encFieldV, encL1b8]
  rcases ifb h with ⟨hy8, h⟩ | ⟨hy8, h⟩
  · refine UC_t hy8 ?_
    obtain ⟨x7, hy9, h⟩ := bnd' h
    obtain ⟨x8, hy10, h⟩ := bnd' h
    try simp only [WW, ↓reduceIte, nA, nB, nC, nD, nE, nF, nG, reduceCtorEq, L_law18_HeadFolds, hy9, (show ((26 : UInt8) = 0) = False from by decide), hy10, encFieldV, encL1b8]
    have hq := Option.some.inj h; subst hq
    refine hN _ rfl _ _ _ _ ?_ (WxH.refl _) ⟨rfl, rfl⟩
    exact WE.cons (Wx.nn) (WE.cons (Wx.nn) (WE.cons (Wx.int) (WE.cons (Wx.str) (WE.cons (Wx.int) (WE.nil)))))
  · refine UC_f hy8 ?_
    try simp only [WW, ↓reduceIte, nA, nB, nC, nD, nE, nF, nG, reduceCtorEq, L_law18_HeadFolds, encFieldV, encL1b8]
    have hq := Option.some.inj h; subst hq
    refine hX _ _ _ _ _ (by simp) ?_ (WxH.refl _) (kb0 _ (hB _ rfl) )
    exact WE.cons (Wx.nn) (WE.cons (Wx.int) (WE.cons (Wx.str) (WE.nil)))
theorem law18_HeadFolds_l2_ok {F : Nat} {parts1 : List (List UInt8)} {i12 : Int} {kk15 : Int} {t14 : List UInt8} {times3 : Int} {nn10 : List UInt8} {v11 : List UInt8} {H : AH}  {K : Exit → Env → AH → Prop} {o : (Bool) ⊕ ((List UInt8))}
    (h : iter (law18_HeadFolds_l2 parts1 i12) F (t14, kk15) = some o)
    (kb4 : ∀ o' : (List UInt8), o = .inr o' → K (.exit 4) [(0, (.sl .n 1 (ml encL1b8 parts1))), (2, (.int .i64 times3)), (7, (.str nn10)), (9, (.str v11)), (10, (.int .i64 i12)), (11, (.str o'))] H) :
    AX Tryd.prog L_law18_HeadFolds 154 H.length c_law18_HeadFolds_l2 K [(0, (.sl .n 1 (ml encL1b8 parts1))), (2, (.int .i64 times3)), (7, (.str nn10)), (9, (.str v11)), (10, (.int .i64 i12)), (11, (.str t14)), (12, (.int .i64 kk15))] H := by
  refine AX.iter (m := m_law18_HeadFolds_l2b) rfl (by decide) (fun s e H1 => match s with | (t14, kk15) => e = [(0, (.sl .n 1 (ml encL1b8 parts1))), (2, (.int .i64 times3)), (7, (.str nn10)), (9, (.str v11)), (10, (.int .i64 i12)), (11, (.str t14)), (12, (.int .i64 kk15))] ∧ H1 = H) h ⟨rfl, rfl⟩ ?_
  rintro K' ⟨t14, kk15⟩ st e H ⟨rfl, rfl⟩ h hN hB hR hX
  rw [law18_HeadFolds_l2.eq_1] at h
  obtain ⟨x16, hy15, h⟩ := bnd' h
  try simp only [WW, ↓reduceIte, nA, nB, nC, nD, nE, nF, nG, reduceCtorEq, L_law18_HeadFolds, m_law18_HeadFolds_l2b, c_law18_HeadFolds_l2b, hy15, encFieldV, encL1b8]
  rcases ifb h with ⟨hy16, h⟩ | ⟨hy16, h⟩
  · refine UC_t hy16 ?_
    obtain ⟨x17, hy17, h⟩ := bnd' h
    obtain ⟨x18, hy18, h⟩ := bnd' h
    try simp only [WW, ↓reduceIte, nA, nB, nC, nD, nE, nF, nG, reduceCtorEq, L_law18_HeadFolds, hy15, hy17, (show ((95 : UInt8) = 0) = False from by decide), hy18, encFieldV, encL1b8]
    have hq := Option.some.inj h; subst hq
    refine hN _ rfl _ _ _ _ ?_ (WxH.refl _) ⟨rfl, rfl⟩
    exact WE.cons (Wx.nn) (WE.cons (Wx.int) (WE.cons (Wx.str) (WE.cons (Wx.str) (WE.cons (Wx.int) (WE.cons (Wx.str) (WE.cons (Wx.int) (WE.nil)))))))
  · refine UC_f hy16 ?_
    try simp only [WW, ↓reduceIte, nA, nB, nC, nD, nE, nF, nG, reduceCtorEq, L_law18_HeadFolds, encFieldV, encL1b8]
    have hq := Option.some.inj h; subst hq
    refine hX _ _ _ _ _ (by simp) ?_ (WxH.refl _) (kb4 _ (hB _ rfl) )
    exact WE.cons (Wx.nn) (WE.cons (Wx.int) (WE.cons (Wx.str) (WE.cons (Wx.str) (WE.cons (Wx.int) (WE.cons (Wx.str) (WE.nil))))))
theorem law18_HeadFolds_l3_ok {F : Nat} {i12 : Int} {parts1 : List (List UInt8)} {v11 : List UInt8} {times3 : Int} {nn10 : List UInt8} {H : AH}  {K : Exit → Env → AH → Prop} {o : (Bool) ⊕ ((List UInt8))}
    (h : iter (law18_HeadFolds_l3 F parts1) F (v11, i12) = some o)
    (kb2 : ∀ o' : (List UInt8), o = .inr o' → K (.exit 2) [(2, (.int .i64 times3)), (7, (.str nn10)), (9, (.str o'))] H)
    (kr : ∀ o' : Bool, o = .inl o' → K .ret [(6, (.bool o'))] H) :
    AX Tryd.prog L_law18_HeadFolds 154 H.length c_law18_HeadFolds_l3 K [(0, (.sl .n 1 (ml encL1b8 parts1))), (2, (.int .i64 times3)), (7, (.str nn10)), (9, (.str v11)), (10, (.int .i64 i12))] H := by
  refine AX.iter (m := m_law18_HeadFolds_l3b) rfl (by decide) (fun s e H1 => match s with | (v11, i12) => e = [(0, (.sl .n 1 (ml encL1b8 parts1))), (2, (.int .i64 times3)), (7, (.str nn10)), (9, (.str v11)), (10, (.int .i64 i12))] ∧ H1 = H) h ⟨rfl, rfl⟩ ?_
  rintro K' ⟨v11, i12⟩ st e H ⟨rfl, rfl⟩ h hN hB hR hX
  rw [law18_HeadFolds_l3.eq_1] at h
  try simp only [WW, ↓reduceIte, nA, nB, nC, nD, nE, nF, nG, reduceCtorEq, L_law18_HeadFolds, m_law18_HeadFolds_l3b, c_law18_HeadFolds_l3b, encFieldV, encL1b8]
  rcases ifb h with ⟨hy12, h⟩ | ⟨hy12, h⟩
  · refine UC_t hy12 ?_
    obtain ⟨x13, hy13, h⟩ := bnd' h
    try simp only [WW, ↓reduceIte, nA, nB, nC, nD, nE, nF, nG, reduceCtorEq, L_law18_HeadFolds, hy13, encFieldV, encL1b8]
    rcases ifb h with ⟨hy14, h⟩ | ⟨hy14, h⟩
    · refine UC_t hy14 ?_
      try simp only [WW, ↓reduceIte, nA, nB, nC, nD, nE, nF, nG, reduceCtorEq, L_law18_HeadFolds, encFieldV, encL1b8]
      have hq := Option.some.inj h; subst hq
      refine hX _ _ _ _ _ (by simp) ?_ (WxH.refl _) (kr _ (hR _ rfl) )
      exact WE.cons (Wx.bool) (WE.nil)
    · refine UC_f hy14 ?_
      try simp only [WW, ↓reduceIte, nA, nB, nC, nD, nE, nF, nG, reduceCtorEq, L_law18_HeadFolds, encFieldV, encL1b8]
      obtain ⟨o23, hy19, h⟩ := bnd' h
      refine UX_of (AX.weak ?_ (WxH.refl _) (law18_HeadFolds_l2_ok  (parts1 := parts1) (i12 := i12) (times3 := times3) (nn10 := nn10) (v11 := v11) (t14 := ([9] : List UInt8)) (kk15 := 0)   (o := o23) hy19 ?_))
      · exact WE.cons (Wx.nn) (WE.cons (Wx.int) (WE.cons (Wx.str) (WE.cons (Wx.str) (WE.cons (Wx.int) (WE.cons (Wx.str) (WE.cons (Wx.int) (WE.nil)))))))
      · rintro t20 rfl  
        try dsimp only at h 
        obtain ⟨x21, hy20, h⟩ := bnd' h
        obtain ⟨x22, hy21, h⟩ := bnd' h
        try simp only [WW, ↓reduceIte, nA, nB, nC, nD, nE, nF, nG, reduceCtorEq, L_law18_HeadFolds, hy20, hy21, encFieldV, encL1b8]
        have hq := Option.some.inj h; subst hq
        refine hN _ rfl _ _ _ _ ?_ (WxH.refl _) ⟨rfl, rfl⟩
        exact WE.cons (Wx.nn) (WE.cons (Wx.int) (WE.cons (Wx.str) (WE.cons (Wx.str) (WE.cons (Wx.int) (WE.nil)))))
  · refine UC_f hy12 ?_
    try simp only [WW, ↓reduceIte, nA, nB, nC, nD, nE, nF, nG, reduceCtorEq, L_law18_HeadFolds, encFieldV, encL1b8]
    have hq := Option.some.inj h; subst hq
    refine hX _ _ _ _ _ (by simp) ?_ (WxH.refl _) (kb2 _ (hB _ rfl) )
    exact WE.cons (Wx.int) (WE.cons (Wx.str) (WE.cons (Wx.str) (WE.nil)))
theorem law18_HeadFolds_l4_ok {F : Nat} {i31 : Int} {times3 : Int} {nn10 : List UInt8} {s30 : List UInt8} {v26 : List UInt8} {H : AH}  {K : Exit → Env → AH → Prop} {o : (Bool) ⊕ ((List UInt8))}
    (h : iter (law18_HeadFolds_l4 F times3 nn10) F (s30, i31) = some o)
    (kb6 : ∀ o' : (List UInt8), o = .inr o' → K (.exit 6) [(2, (.int .i64 times3)), (7, (.str nn10)), (9, (.str v26)), (13, (.str o'))] H) :
    AX Tryd.prog L_law18_HeadFolds 154 H.length c_law18_HeadFolds_l4 K [(2, (.int .i64 times3)), (7, (.str nn10)), (9, (.str v26)), (13, (.str s30)), (14, (.int .i64 i31))] H := by
  refine AX.iter (m := m_law18_HeadFolds_l4b) rfl (by decide) (fun s e H1 => match s with | (s30, i31) => e = [(2, (.int .i64 times3)), (7, (.str nn10)), (9, (.str v26)), (13, (.str s30)), (14, (.int .i64 i31))] ∧ H1 = H) h ⟨rfl, rfl⟩ ?_
  rintro K' ⟨s30, i31⟩ st e H ⟨rfl, rfl⟩ h hN hB hR hX
  rw [law18_HeadFolds_l4.eq_1] at h
  try simp only [WW, ↓reduceIte, nA, nB, nC, nD, nE, nF, nG, reduceCtorEq, L_law18_HeadFolds, m_law18_HeadFolds_l4b, c_law18_HeadFolds_l4b, encFieldV, encL1b8]
  rcases ifb h with ⟨hy26, h⟩ | ⟨hy26, h⟩
  · refine UC_t hy26 ?_
    try simp only [WW, ↓reduceIte, nA, nB, nC, nD, nE, nF, nG, reduceCtorEq, L_law18_HeadFolds, encFieldV, encL1b8]
    obtain ⟨r32, hy27, h⟩ := bnd' h
    refine UK_e (as' := [(.str nn10)]) (h := law18_upper_ok (s1 := nn10) (F := F)  hy27) (hw := WL.cons (Wx.str) (WL.nil)) (hh := WxH.refl _) ?_
    try simp only [WW, ↓reduceIte, nA, nB, nC, nD, nE, nF, nG, reduceCtorEq, L_law18_HeadFolds, encFieldV, encL1b8]
    obtain ⟨x33, hy28, h⟩ := bnd' h
    obtain ⟨x34, hy29, h⟩ := bnd' h
    try simp only [WW, ↓reduceIte, nA, nB, nC, nD, nE, nF, nG, reduceCtorEq, L_law18_HeadFolds, hy28, hy29, encFieldV, encL1b8]
    have hq := Option.some.inj h; subst hq
    refine hN _ rfl _ _ _ _ ?_ (WxH.refl _) ⟨rfl, rfl⟩
    exact WE.cons (Wx.int) (WE.cons (Wx.str) (WE.cons (Wx.str) (WE.cons (Wx.str) (WE.cons (Wx.int) (WE.nil)))))
  · refine UC_f hy26 ?_
    try simp only [WW, ↓reduceIte, nA, nB, nC, nD, nE, nF, nG, reduceCtorEq, L_law18_HeadFolds, encFieldV, encL1b8]
    have hq := Option.some.inj h; subst hq
    refine hX _ _ _ _ _ (by simp) ?_ (WxH.refl _) (kb6 _ (hB _ rfl) )
    exact WE.cons (Wx.int) (WE.cons (Wx.str) (WE.cons (Wx.str) (WE.cons (Wx.str) (WE.nil))))
theorem law18_HeadFolds_p2_ok {r38 : List FieldV} {times3 : Int} {v26 : List UInt8} {r41 : List UInt8} {r42 : Int} {r39 : List UInt8} {H : AH}  {K : Exit → Env → AH → Prop} {t44 : Bool}
    (h : law18_HeadFolds_p2 r38 times3 v26 r41 r42 r39 = some t44)
    (kn : K .normal [(6, (.bool t44))] H) :
    AX Tryd.prog L_law18_HeadFolds 154 H.length c_law18_HeadFolds_p2 K [(2, (.int .i64 times3)), (9, (.str v26)), (15, (.sl .n 2 (ml encFieldV r38))), (16, (.sl .n 1 (ml b8 r39))), (17, (.str r41)), (18, (.int .i64 r42))] H := by
  refine AX.go (m := m_law18_HeadFolds_p2) rfl (by decide) fun K' hK => ?_
  rw [law18_HeadFolds_p2.eq_1] at h
  try simp only [WW, ↓reduceIte, nA, nB, nC, nD, nE, nF, nG, reduceCtorEq, L_law18_HeadFolds, m_law18_HeadFolds_p2, c_law18_HeadFolds_p2, encFieldV, encL1b8]
  rcases ifb h with ⟨hy35, h⟩ | ⟨hy35, h⟩
  · refine UG_go hy35 ?_
    obtain ⟨x43, hy36, h⟩ := bnd' h
    try simp only [WW, ↓reduceIte, nA, nB, nC, nD, nE, nF, nG, reduceCtorEq, L_law18_HeadFolds, hy35, hy36, encFieldV, encL1b8]
    rcases ifb h with ⟨hy37, h⟩ | ⟨hy37, h⟩
    · refine UG_go hy37 ?_
      try simp only [WW, ↓reduceIte, nA, nB, nC, nD, nE, nF, nG, reduceCtorEq, L_law18_HeadFolds, hy37, encFieldV, encL1b8]
      rcases ifb h with ⟨hy38, h⟩ | ⟨hy38, h⟩
      · refine UG_go hy38 ?_
        try simp only [WW, ↓reduceIte, nA, nB, nC, nD, nE, nF, nG, reduceCtorEq, L_law18_HeadFolds, hy38, encFieldV, encL1b8]
        rcases ifb h with ⟨hy39, h⟩ | ⟨hy39, h⟩
        · refine UG_go hy39 ?_
          try simp only [WW, ↓reduceIte, nA, nB, nC, nD, nE, nF, nG, reduceCtorEq, L_law18_HeadFolds, hy39, encFieldV, encL1b8]
          have hq := Option.some.inj h; subst hq
          refine hK _ _ _ _ _ ?_ (WxH.refl _) (kn )
          exact WE.cons (Wx.bool) (WE.nil)
        · refine UG_nt hy39 ?_
          try simp only [WW, ↓reduceIte, nA, nB, nC, nD, nE, nF, nG, reduceCtorEq, L_law18_HeadFolds, hy39, encFieldV, encL1b8]
          have hq := Option.some.inj h; subst hq
          refine hK _ _ _ _ _ ?_ (WxH.refl _) (kn )
          exact WE.cons (Wx.bool) (WE.nil)
      · refine UG_nt hy38 ?_
        try simp only [WW, ↓reduceIte, nA, nB, nC, nD, nE, nF, nG, reduceCtorEq, L_law18_HeadFolds, hy38, encFieldV, encL1b8]
        have hq := Option.some.inj h; subst hq
        refine hK _ _ _ _ _ ?_ (WxH.refl _) (kn )
        exact WE.cons (Wx.bool) (WE.nil)
    · refine UG_nt hy37 ?_
      try simp only [WW, ↓reduceIte, nA, nB, nC, nD, nE, nF, nG, reduceCtorEq, L_law18_HeadFolds, hy37, encFieldV, encL1b8]
      have hq := Option.some.inj h; subst hq
      refine hK _ _ _ _ _ ?_ (WxH.refl _) (kn )
      exact WE.cons (Wx.bool) (WE.nil)
  · refine UG_nt hy35 ?_
    try simp only [WW, ↓reduceIte, nA, nB, nC, nD, nE, nF, nG, reduceCtorEq, L_law18_HeadFolds, hy35, encFieldV, encL1b8]
    have hq := Option.some.inj h; subst hq
    refine hK _ _ _ _ _ ?_ (WxH.refl _) (kn )
    exact WE.cons (Wx.bool) (WE.nil)
theorem law18_HeadFolds_ok {F : Nat} {parts1 : List (List UInt8)} {name2 : List UInt8} {times3 : Int}  {H0 : AH}  {rz0 : Bool} (h : law18_HeadFolds F parts1 name2 times3 = some rz0) :
    ACalls Tryd.prog 4 [(.sl .n 1 (ml encL1b8 parts1)), (.sl .n 1 (ml b8 name2)), (.int .i64 times3)] H0 fun v H' => v = (.bool rz0) ∧ H' = H0 := by
  refine ACalls.goX k_law18_HeadFolds (m := m_law18_HeadFolds) rfl L_law18_HeadFolds (by decide) (by simp) fun hcl K0 hK0 => ?_
  refine AX.of_U (m := m_law18_HeadFolds) rfl (by decide) ?_
  rw [law18_HeadFolds.eq_1] at h
  try simp only [WW, ↓reduceIte, nA, nB, nC, nD, nE, nF, nG, reduceCtorEq, L_law18_HeadFolds, m_law18_HeadFolds, encFieldV, encL1b8]
  obtain ⟨r4, hy1, h⟩ := bnd' h
  refine UK_e (as' := []) (h := law18_known_ok  (F := F)  hy1) (hw := WL.nil) (hh := WxH.refl _) ?_
  try simp only [WW, ↓reduceIte, nA, nB, nC, nD, nE, nF, nG, reduceCtorEq, L_law18_HeadFolds, encFieldV, encL1b8]
  rcases ifb h with ⟨hy2, h⟩ | ⟨hy2, h⟩
  · refine UC_t hy2 ?_
    try simp only [WW, ↓reduceIte, nA, nB, nC, nD, nE, nF, nG, reduceCtorEq, L_law18_HeadFolds, encFieldV, encL1b8]
    have hq := Option.some.inj h; subst hq
    refine hK0 _ _ _ (.inr rfl) ?_
    exact fn_endp hcl (resv_tmp (a := (.bool false)) rfl rfl resv_nil) (by first | (simp [fin, b_df, b_sh, b_sh1, b_Cl]; done) | (simp [fin, AV.df, AV.sh, AV.sh1, b_df, b_sh, b_sh1, b_Cl]; done)) (Wx.bool) (r' := (.bool false)) ⟨rfl, rfl⟩
  · refine UC_f hy2 ?_
    try simp only [WW, ↓reduceIte, nA, nB, nC, nD, nE, nF, nG, reduceCtorEq, L_law18_HeadFolds, encFieldV, encL1b8]
    refine UX_of (AX.weak ?_ (WxH.refl _) (law18_HeadFolds_p1_ok (parts1 := parts1) (name2 := name2) (times3 := times3)  ?_))
    · exact WE.cons (Wx.nn) (WE.cons (Wx.nn) (WE.cons (Wx.int) (WE.nil)))
    try simp only [WW, ↓reduceIte, nA, nB, nC, nD, nE, nF, nG, reduceCtorEq, L_law18_HeadFolds, encFieldV, encL1b8]
    rcases ifb h with ⟨hy7, h⟩ | ⟨hy7, h⟩
    · refine UC_t hy7 ?_
      try simp only [WW, ↓reduceIte, nA, nB, nC, nD, nE, nF, nG, reduceCtorEq, L_law18_HeadFolds, encFieldV, encL1b8]
      have hq := Option.some.inj h; subst hq
      refine hK0 _ _ _ (.inr rfl) ?_
      exact fn_endp hcl (resv_tmp (a := (.bool true)) rfl rfl resv_nil) (by first | (simp [fin, b_df, b_sh, b_sh1, b_Cl]; done) | (simp [fin, AV.df, AV.sh, AV.sh1, b_df, b_sh, b_sh1, b_Cl]; done)) (Wx.bool) (r' := (.bool true)) ⟨rfl, rfl⟩
    · refine UC_f hy7 ?_
      try simp only [WW, ↓reduceIte, nA, nB, nC, nD, nE, nF, nG, reduceCtorEq, L_law18_HeadFolds, encFieldV, encL1b8]
      obtain ⟨o49, hy11, h⟩ := bnd' h
      refine UX_of (AX.weak ?_ (WxH.refl _) (law18_HeadFolds_l1_ok  (name2 := name2) (parts1 := parts1) (times3 := times3) (nn5 := ([] : List UInt8)) (i6 := 0)   (o := o49) hy11 ?_))
      · exact WE.cons (Wx.nn) (WE.cons (Wx.nn) (WE.cons (Wx.int) (WE.cons (Wx.str) (WE.cons (Wx.int) (WE.nil)))))
      · rintro nn10 rfl  
        try dsimp only at h 
        try simp only [WW, ↓reduceIte, nA, nB, nC, nD, nE, nF, nG, reduceCtorEq, L_law18_HeadFolds, encFieldV, encL1b8]
        obtain ⟨o48, hy22, h⟩ := bnd' h
        refine UX_of (AX.weak ?_ (WxH.refl _) (law18_HeadFolds_l3_ok  (parts1 := parts1) (times3 := times3) (nn10 := nn10) (v11 := ([32, 102, 105, 114, 115, 116] : List UInt8)) (i12 := 0)   (o := o48) hy22 ?_ ?_))
        · exact WE.cons (Wx.nn) (WE.cons (Wx.int) (WE.cons (Wx.str) (WE.cons (Wx.str) (WE.cons (Wx.int) (WE.nil)))))
        · rintro v26 rfl  
          try dsimp only at h 
          obtain ⟨x27, hy23, h⟩ := bnd' h
          obtain ⟨x28, hy24, h⟩ := bnd' h
          obtain ⟨x29, hy25, h⟩ := bnd' h
          try simp only [WW, ↓reduceIte, nA, nB, nC, nD, nE, nF, nG, reduceCtorEq, L_law18_HeadFolds, hy23, hy24, hy25, encFieldV, encL1b8]
          obtain ⟨o46, hy30, h⟩ := bnd' h
          refine UX_of (AX.weak ?_ (WxH.refl _) (law18_HeadFolds_l4_ok  (times3 := times3) (nn10 := nn10) (v26 := v26) (s30 := x29) (i31 := 0)   (o := o46) hy30 ?_))
          · exact WE.cons (Wx.int) (WE.cons (Wx.str) (WE.cons (Wx.str) (WE.cons (Wx.str) (WE.cons (Wx.int) (WE.nil)))))
          · rintro s36 rfl  
            try dsimp only at h 
            obtain ⟨x37, hy31, h⟩ := bnd' h
            try simp only [WW, ↓reduceIte, nA, nB, nC, nD, nE, nF, nG, reduceCtorEq, L_law18_HeadFolds, hy31, encFieldV, encL1b8]
            obtain ⟨⟨r38, r39⟩, hy32, h⟩ := bnd' h
            dsimp only at h
            refine UK_e (as' := [(.sl .n 1 (ml b8 x37))]) (h := head_Split_ok (b1 := x37) (F := F)  hy32) (hw := WL.cons (Wx.nn) (WL.nil)) (hh := WxH.refl _) ?_
            try simp only [WW, ↓reduceIte, nA, nB, nC, nD, nE, nF, nG, reduceCtorEq, L_law18_HeadFolds, encFieldV, encL1b8]
            obtain ⟨r40, hy33, h⟩ := bnd' h
            refine UK_e (as' := [(.str nn10)]) (h := law18_upper_ok (s1 := nn10) (F := F)  hy33) (hw := WL.cons (Wx.str) (WL.nil)) (hh := WxH.refl _) ?_
            try simp only [WW, ↓reduceIte, nA, nB, nC, nD, nE, nF, nG, reduceCtorEq, L_law18_HeadFolds, encFieldV, encL1b8]
            obtain ⟨⟨r41, r42⟩, hy34, h⟩ := bnd' h
            dsimp only at h
            refine UK_e (as' := [(.sl .n 2 (ml encFieldV r38)), (.str r40)]) (h := head_Get_ok (l1 := r38) (name2 := r40) (F := F)  hy34) (hw := WL.cons (Wx.nn) (WL.cons (Wx.str) (WL.nil))) (hh := WxH.refl _) ?_
            try simp only [WW, ↓reduceIte, nA, nB, nC, nD, nE, nF, nG, reduceCtorEq, L_law18_HeadFolds, encFieldV, encL1b8]
            obtain ⟨t45, hy40, h⟩ := bnd' h
            refine UX_of (AX.weak ?_ (WxH.refl _) (law18_HeadFolds_p2_ok  (r38 := r38) (times3 := times3) (v26 := v26) (r41 := r41) (r42 := r42) (r39 := r39) (t44 := t45)   hy40 ?_))
            · exact WE.cons (Wx.int) (WE.cons (Wx.str) (WE.cons (Wx.nn) (WE.cons (Wx.nn) (WE.cons (Wx.str) (WE.cons (Wx.int) (WE.nil))))))
            try simp only [WW, ↓reduceIte, nA, nB, nC, nD, nE, nF, nG, reduceCtorEq, L_law18_HeadFolds, encFieldV, encL1b8]
            have hq := Option.some.inj h; subst hq
            refine hK0 _ _ _ (.inr rfl) ?_
            exact fn_endp hcl (resv_tmp (a := (.bool t45)) rfl rfl resv_nil) (by first | (simp [fin, b_df, b_sh, b_sh1, b_Cl]; done) | (simp [fin, AV.df, AV.sh, AV.sh1, b_df, b_sh, b_sh1, b_Cl]; done)) (Wx.bool) (r' := (.bool t45)) ⟨rfl, rfl⟩
        · rintro r47 rfl  
          try dsimp only at h 
          try simp only [WW, ↓reduceIte, nA, nB, nC, nD, nE, nF, nG, reduceCtorEq, L_law18_HeadFolds, encFieldV, encL1b8]
          have hq := Option.some.inj h; subst hq
          refine hK0 _ _ _ (.inr rfl) ?_
          exact fn_endp hcl (resv_tmp (a := (.bool r47)) rfl rfl resv_nil) (by first | (simp [fin, b_df, b_sh, b_sh1, b_Cl]; done) | (simp [fin, AV.df, AV.sh, AV.sh1, b_df, b_sh, b_sh1, b_Cl]; done)) (Wx.bool) (r' := (.bool r47)) ⟨rfl, rfl⟩

end Go.Proofs.HeadS
