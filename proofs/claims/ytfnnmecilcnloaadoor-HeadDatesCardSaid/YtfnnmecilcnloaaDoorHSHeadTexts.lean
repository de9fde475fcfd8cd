import Derived.Test.YtfnnmecilcnloaaDoorHS1
set_option linter.unusedSimpArgs false
set_option linter.unusedVariables false
set_option linter.unusedSectionVars false
set_option linter.defProp false
set_option maxRecDepth 100000
namespace Go.Proofs.HeadS
open Go Go.Am Go.Proofs
open Nat renaming reduceEqDiff → nA, reduceLT → nB, reduceLeDiff → nC, reduceAdd → nD, reduceSub → nE, reduceMul → nF, reduceBEq → nG
set_option maxHeartbeats 2000000

/-! ### mailbag/mailbagref17.ends -/
def c_ref17_ends_p1 : ACode := (.rg [⟨(some 5), (.mv (.t 0)), none⟩, ⟨(some 6), (.len (.t 5)), none⟩, ⟨(some 7), (.mv (.t 1)), none⟩, ⟨(some 8), (.lens (.t 7)), none⟩, ⟨(some 9), (.bin .geq (.t 6) (.t 8)), none⟩, ⟨(some 10), (.mv (.t 9)), none⟩, ⟨(some 11), (.mv (.t 0)), (some (10, true))⟩, ⟨(some 12), (.mv (.t 0)), (some (10, true))⟩, ⟨(some 13), (.len (.t 12)), (some (10, true))⟩, ⟨(some 14), (.mv (.t 1)), (some (10, true))⟩, ⟨(some 15), (.lens (.t 14)), (some (10, true))⟩, ⟨(some 16), (.bin .sub (.t 13) (.t 15)), (some (10, true))⟩, ⟨(some 17), (.slc 1 (.t 11) (some (.t 16)) none none), (some (10, true))⟩, ⟨(some 18), (.cvt .bs (.t 17)), (some (10, true))⟩, ⟨(some 19), (.mv (.t 1)), (some (10, true))⟩, ⟨(some 20), (.bin .eql (.t 18) (.t 19)), (some (10, true))⟩, ⟨(some 21), (.pick (.t 10) (.t 20) (.c (.bool false))), none⟩, ⟨(some 4), (.asg (.t 21)), none⟩])
abbrev m_ref17_ends_p1 := c_ref17_ends_p1
def c_ref17_ends : ACode := (.seq (.rg [⟨(some 4), (.asg (.c (.bool false))), none⟩]) (.seq c_ref17_ends_p1 .ret))
def m_ref17_ends : ACode := (.seq (.rg [⟨(some 4), (.asg (.c (.bool false))), none⟩]) (.seq (.sem c_ref17_ends_p1) .ret))
theorem k_ref17_ends : FnOk Tryd.prog 66 22 [(.tmp 4)] c_ref17_ends := ⟨Tryd.f66, _, rfl, by decide, rfl, by kernel_rfl, rfl, rfl⟩
abbrev L_ref17_ends : List Nat := [0, 1, 4]
def ref17_ends_p1 (with2 : List UInt8) (b1 : List UInt8) : Option (Bool) :=
  (if (decide ((with2.length : Int) ≤ (b1.length : Int))) then
    (sub b1 (IntKind.wrap .i64 ((b1.length : Int) - (with2.length : Int))) (b1.length : Int)).bind fun x3 => some (decide (x3 = with2))
  else
    some false)
def ref17_ends (b1 : List UInt8) (with2 : List UInt8) : Option (Bool) :=
  (ref17_ends_p1 with2 b1).bind fun t5 =>
  some t5
theorem ref17_ends_p1_ok {with2 : List UInt8} {b1 : List UInt8} {H : AH}  {K : Exit → Env → AH → Prop} {t4 : Bool}
    (h : ref17_ends_p1 with2 b1 = some t4)
    (kn : K .normal [(4, (.bool t4))] H) :
    AX Tryd.prog L_ref17_ends 22 H.length c_ref17_ends_p1 K [(0, (.sl .n 1 (ml b8 b1))), (1, (.str with2)), (4, (.bool false))] H := by
  refine AX.go (m := m_ref17_ends_p1) rfl (by decide) fun K' hK => ?_
  rw [ref17_ends_p1.eq_1] at h
  try simp only [WW, ↓reduceIte, nA, nB, nC, nD, nE, nF, nG, reduceCtorEq, L_ref17_ends, m_ref17_ends_p1, c_ref17_ends_p1, encFieldV, encL1b8]
  rcases ifb h with ⟨hy1, h⟩ | ⟨hy1, h⟩
  · refine UG_go hy1 ?_
    obtain ⟨x3, hy2, h⟩ := bnd' h
    have hy3 := sub_m (f := b8) hy2
    try simp only [WW, ↓reduceIte, nA, nB, nC, nD, nE, nF, nG, reduceCtorEq, L_ref17_ends, hy1, hy2, encFieldV, encL1b8]
    have hq := Option.some.inj h; subst hq
    refine hK _ _ _ _ _ ?_ (WxH.refl _) (kn )
    exact WE.cons (Wx.bool) (WE.nil)
  · refine UG_nt hy1 ?_
    try simp only [WW, ↓reduceIte, nA, nB, nC, nD, nE, nF, nG, reduceCtorEq, L_ref17_ends, hy1, encFieldV, encL1b8]
    have hq := Option.some.inj h; subst hq
    refine hK _ _ _ _ _ ?_ (WxH.refl _) (kn )
    exact WE.cons (Wx.bool) (WE.nil)
theorem ref17_ends_ok {b1 : List UInt8} {with2 : List UInt8}  {H0 : AH}  {rz0 : Bool} (h : ref17_ends b1 with2 = some rz0) :
    ACalls Tryd.prog 66 [(.sl .n 1 (ml b8 b1)), (.str with2)] H0 fun v H' => v = (.bool rz0) ∧ H' = H0 := by
  refine ACalls.goX k_ref17_ends (m := m_ref17_ends) rfl L_ref17_ends (by decide) (by simp) fun hcl K0 hK0 => ?_
  refine AX.of_U (m := m_ref17_ends) rfl (by decide) ?_
  rw [ref17_ends.eq_1] at h
  try simp only [WW, ↓reduceIte, nA, nB, nC, nD, nE, nF, nG, reduceCtorEq, L_ref17_ends, m_ref17_ends, encFieldV, encL1b8]
  obtain ⟨t5, hy4, h⟩ := bnd' h
  refine UX_of (AX.weak ?_ (WxH.refl _) (ref17_ends_p1_ok  (with2 := with2) (b1 := b1) (t4 := t5)   hy4 ?_))
  · exact WE.cons (Wx.nn) (WE.cons (Wx.str) (WE.cons (Wx.bool) (WE.nil)))
  try simp only [WW, ↓reduceIte, nA, nB, nC, nD, nE, nF, nG, reduceCtorEq, L_ref17_ends, encFieldV, encL1b8]
  have hq := Option.some.inj h; subst hq
  refine hK0 _ _ _ (.inr rfl) ?_
  exact fn_endp hcl (resv_tmp (a := (.bool t5)) rfl rfl resv_nil) (by first | (simp [fin, b_df, b_sh, b_sh1, b_Cl]; done) | (simp [fin, AV.df, AV.sh, AV.sh1, b_df, b_sh, b_sh1, b_Cl]; done)) (Wx.bool) (r' := (.bool t5)) ⟨rfl, rfl⟩

/-! ### mailbag/mailbagref17.Whole -/
def c_ref17_Whole_p1 : ACode := (.rg [⟨(some 3), (.mv (.t 0)), none⟩, ⟨(some 4), (.len (.t 3)), none⟩, ⟨(some 5), (.bin .eql (.t 4) (.c (.int .i64 0))), none⟩, ⟨(some 6), (.mv (.t 5)), none⟩, ⟨(some 7), (.mv (.t 0)), (some (6, false))⟩, ⟨(some 8), (.call (.c (.fn 66 [])) [(.t 7), (.c (.str [13, 10]))]), (some (6, false))⟩, ⟨(some 9), (.pick (.t 6) (.c (.bool true)) (.t 8)), none⟩])
abbrev m_ref17_Whole_p1 := c_ref17_Whole_p1
def c_ref17_Whole : ACode := (.seq (.rg [⟨(some 2), (.asg (.c (.sl .ex 1 []))), none⟩]) (.seq (.seq c_ref17_Whole_p1 (.cond (.t 9) (.seq (.rg [⟨(some 10), (.bsl 1 []), none⟩, ⟨(some 11), (.mv (.t 0)), none⟩, ⟨(some 12), (.app 1 1 (.t 10) (.t 11)), none⟩, ⟨(some 2), (.asg (.t 12)), none⟩]) .ret) .skip)) (.seq (.rg [⟨(some 13), (.bsl 1 []), none⟩, ⟨(some 14), (.mv (.t 0)), none⟩, ⟨(some 15), (.app 1 1 (.t 13) (.t 14)), none⟩, ⟨(some 16), (.bsl 1 [(.c (b8 13)), (.c (b8 10))]), none⟩, ⟨(some 17), (.app 1 1 (.t 15) (.t 16)), none⟩, ⟨(some 2), (.asg (.t 17)), none⟩]) .ret)))
def m_ref17_Whole : ACode := (.seq (.rg [⟨(some 2), (.asg (.c (.sl .ex 1 []))), none⟩]) (.seq (.seq (.sem c_ref17_Whole_p1) (.cond (.t 9) (.seq (.rg [⟨(some 10), (.bsl 1 []), none⟩, ⟨(some 11), (.mv (.t 0)), none⟩, ⟨(some 12), (.app 1 1 (.t 10) (.t 11)), none⟩, ⟨(some 2), (.asg (.t 12)), none⟩]) .ret) .skip)) (.seq (.rg [⟨(some 13), (.bsl 1 []), none⟩, ⟨(some 14), (.mv (.t 0)), none⟩, ⟨(some 15), (.app 1 1 (.t 13) (.t 14)), none⟩, ⟨(some 16), (.bsl 1 [(.c (b8 13)), (.c (b8 10))]), none⟩, ⟨(some 17), (.app 1 1 (.t 15) (.t 16)), none⟩, ⟨(some 2), (.asg (.t 17)), none⟩]) .ret)))
theorem k_ref17_Whole : FnOk Tryd.prog 31 18 [(.tmp 2)] c_ref17_Whole := ⟨Tryd.f31, _, rfl, by decide, rfl, by kernel_rfl, rfl, rfl⟩
abbrev L_ref17_Whole : List Nat := [0, 2, 9]
def ref17_Whole_p1 (b1 : List UInt8) : Option (Bool) :=
  (if (decide ((b1.length : Int) = 0)) then
    some true
  else
    (ref17_ends b1 ([13, 10] : List UInt8)).bind fun r2 => some r2)
def ref17_Whole (b1 : List UInt8) : Option ((List UInt8)) :=
  (ref17_Whole_p1 b1).bind fun t4 =>
  (if t4 then
    (capp 1 ([] : List UInt8) b1).bind fun x5 => some x5
  else
    (capp 1 ([] : List UInt8) b1).bind fun x6 => (capp 1 x6 ([13, 10] : List UInt8)).bind fun x7 => some x7)
theorem ref17_Whole_p1_ok {b1 : List UInt8} {H : AH}  {K : Exit → Env → AH → Prop} {t3 : Bool}
    (h : ref17_Whole_p1 b1 = some t3)
    (kn : K .normal [(0, (.sl .n 1 (ml b8 b1))), (9, (.bool t3))] H) :
    AX Tryd.prog L_ref17_Whole 18 H.length c_ref17_Whole_p1 K [(0, (.sl .n 1 (ml b8 b1)))] H := by
  refine AX.go (m := m_ref17_Whole_p1) rfl (by decide) fun K' hK => ?_
  rw [ref17_Whole_p1.eq_1] at h
  try simp only [WW, ↓reduceIte, nA, nB, nC, nD, nE, nF, nG, reduceCtorEq, L_ref17_Whole, m_ref17_Whole_p1, c_ref17_Whole_p1, encFieldV, encL1b8]
  rcases ifb h with ⟨hy1, h⟩ | ⟨hy1, h⟩
  · refine UG_nf hy1 ?_
    try simp only [WW, ↓reduceIte, nA, nB, nC, nD, nE, nF, nG, reduceCtorEq, L_ref17_Whole, hy1, encFieldV, encL1b8]
    have hq := Option.some.inj h; subst hq
    refine hK _ _ _ _ _ ?_ (WxH.refl _) (kn )
    exact WE.cons (Wx.nn) (WE.cons (Wx.bool) (WE.nil))
  · refine UG_go hy1 ?_
    try simp only [WW, ↓reduceIte, nA, nB, nC, nD, nE, nF, nG, reduceCtorEq, L_ref17_Whole, hy1, encFieldV, encL1b8]
    obtain ⟨r2, hy2, h⟩ := bnd' h
    refine UK_e (as' := [(.sl .n 1 (ml b8 b1)), (.str ([13, 10] : List UInt8))]) (h := ref17_ends_ok (b1 := b1) (with2 := ([13, 10] : List UInt8))  hy2) (hw := WL.cons (Wx.nn) (WL.cons (Wx.str) (WL.nil))) (hh := WxH.refl _) ?_
    try simp only [WW, ↓reduceIte, nA, nB, nC, nD, nE, nF, nG, reduceCtorEq, L_ref17_Whole, encFieldV, encL1b8]
    have hq := Option.some.inj h; subst hq
    refine hK _ _ _ _ _ ?_ (WxH.refl _) (kn )
    exact WE.cons (Wx.nn) (WE.cons (Wx.bool) (WE.nil))
theorem ref17_Whole_ok {b1 : List UInt8}  {H0 : AH}  {rz0 : List UInt8} (h : ref17_Whole b1 = some rz0) :
    ACalls Tryd.prog 31 [(.sl .n 1 (ml b8 b1))] H0 fun v H' => v = (.sl .own 1 (ml b8 rz0)) ∧ H' = H0 := by
  refine ACalls.goX k_ref17_Whole (m := m_ref17_Whole) rfl L_ref17_Whole (by decide) (by simp) fun hcl K0 hK0 => ?_
  refine AX.of_U (m := m_ref17_Whole) rfl (by decide) ?_
  rw [ref17_Whole.eq_1] at h
  try simp only [WW, ↓reduceIte, nA, nB, nC, nD, nE, nF, nG, reduceCtorEq, L_ref17_Whole, m_ref17_Whole, encFieldV, encL1b8]
  obtain ⟨t4, hy3, h⟩ := bnd' h
  refine UX_of (AX.weak ?_ (WxH.refl _) (ref17_Whole_p1_ok  (b1 := b1) (t3 := t4)   hy3 ?_))
  · exact WE.cons (Wx.nn) (WE.nil)
  try simp only [WW, ↓reduceIte, nA, nB, nC, nD, nE, nF, nG, reduceCtorEq, L_ref17_Whole, encFieldV, encL1b8]
  rcases ifb h with ⟨hy4, h⟩ | ⟨hy4, h⟩
  · refine UC_t hy4 ?_
    obtain ⟨x5, hy5, h⟩ := bnd' h
    have hy6 : capp 1 [] (ml b8 b1) = some (ml b8 x5) := capp_m (f := b8) hy5
    try simp only [WW, ↓reduceIte, nA, nB, nC, nD, nE, nF, nG, reduceCtorEq, L_ref17_Whole, hy6, encFieldV, encL1b8]
    have hq := Option.some.inj h; subst hq
    refine hK0 _ _ _ (.inr rfl) ?_
    exact fn_endp hcl (resv_tmp (a := (.sl .own 1 (ml b8 x5))) rfl rfl resv_nil) (by first | (simp [fin, b_df, b_sh, b_sh1, b_Cl]; done) | (simp [fin, AV.df, AV.sh, AV.sh1, b_df, b_sh, b_sh1, b_Cl]; done)) (Wx.oo) (r' := (.sl .own 1 (ml b8 x5))) ⟨rfl, rfl⟩
  · refine UC_f hy4 ?_
    obtain ⟨x6, hy7, h⟩ := bnd' h
    have hy8 : capp 1 [] (ml b8 b1) = some (ml b8 x6) := capp_m (f := b8) hy7
    obtain ⟨x7, hy9, h⟩ := bnd' h
    have hy10 : capp 1 (ml b8 x6) [(b8 13), (b8 10)] = some (ml b8 x7) := capp_m (f := b8) hy9
    try simp only [WW, ↓reduceIte, nA, nB, nC, nD, nE, nF, nG, reduceCtorEq, L_ref17_Whole, hy8, hy10, encFieldV, encL1b8]
    have hq := Option.some.inj h; subst hq
    refine hK0 _ _ _ (.inr rfl) ?_
    exact fn_endp hcl (resv_tmp (a := (.sl .own 1 (ml b8 x7))) rfl rfl resv_nil) (by first | (simp [fin, b_df, b_sh, b_sh1, b_Cl]; done) | (simp [fin, AV.df, AV.sh, AV.sh1, b_df, b_sh, b_sh1, b_Cl]; done)) (Wx.oo) (r' := (.sl .own 1 (ml b8 x7))) ⟨rfl, rfl⟩

/-! ### mailbag/mailbagref17.Lines -/
def c_ref17_Lines_p1 : ACode := (.rg [⟨(some 15), (.mv (.t 3)), none⟩, ⟨(some 16), (.mv (.t 6)), none⟩, ⟨(some 17), (.ixa 1 (.t 15) (.t 16)), none⟩, ⟨(some 18), (.ld (.t 17) none), none⟩, ⟨(some 19), (.bin .eql (.t 18) (.c (b8 10))), none⟩, ⟨(some 20), (.mv (.t 19)), none⟩, ⟨(some 21), (.mv (.t 3)), (some (20, true))⟩, ⟨(some 22), (.mv (.t 6)), (some (20, true))⟩, ⟨(some 23), (.bin .sub (.t 22) (.c (.int .i64 1))), (some (20, true))⟩, ⟨(some 24), (.ixa 1 (.t 21) (.t 23)), (some (20, true))⟩, ⟨(some 25), (.ld (.t 24) none), (some (20, true))⟩, ⟨(some 26), (.bin .eql (.t 25) (.c (b8 13))), (some (20, true))⟩, ⟨(some 27), (.pick (.t 20) (.t 26) (.c (.bool false))), none⟩, ⟨(some 28), (.mv (.t 27)), none⟩, ⟨(some 29), (.mv (.t 6)), (some (28, true))⟩, ⟨(some 30), (.mv (.t 5)), (some (28, true))⟩, ⟨(some 31), (.bin .gtr (.t 29) (.t 30)), (some (28, true))⟩, ⟨(some 32), (.pick (.t 28) (.t 31) (.c (.bool false))), none⟩])
abbrev m_ref17_Lines_p1 := c_ref17_Lines_p1
def c_ref17_Lines_l1b : ACode := (.seq (.seq (.rg [⟨(some 9), (.mv (.t 6)), none⟩, ⟨(some 10), (.mv (.t 3)), none⟩, ⟨(some 11), (.len (.t 10)), none⟩, ⟨(some 12), (.bin .lss (.t 9) (.t 11)), none⟩]) (.cond (.t 12) .skip (.exit 0))) (.seq (.blk 1 (.seq c_ref17_Lines_p1 (.cond (.t 32) (.seq (.rg [⟨(some 33), (.mv (.t 4)), none⟩, ⟨(some 34), (.mv (.t 3)), none⟩, ⟨(some 35), (.mv (.t 5)), none⟩, ⟨(some 36), (.mv (.t 6)), none⟩, ⟨(some 37), (.bin .sub (.t 36) (.c (.int .i64 1))), none⟩, ⟨(some 38), (.slc 1 (.t 34) (some (.t 35)) (some (.t 37)) none), none⟩, ⟨(some 39), (.cvt .bs (.t 38)), none⟩, ⟨(some 40), (.bsl 1 [(.t 39)]), none⟩, ⟨(some 41), (.app 1 16 (.t 33) (.t 40)), none⟩, ⟨(some 4), (.asg (.t 41)), none⟩]) (.rg [⟨(some 42), (.mv (.t 6)), none⟩, ⟨(some 43), (.bin .add (.t 42) (.c (.int .i64 1))), none⟩, ⟨(some 5), (.asg (.t 43)), none⟩])) .skip))) (.rg [⟨(some 13), (.mv (.t 6)), none⟩, ⟨(some 14), (.bin .add (.t 13) (.c (.int .i64 1))), none⟩, ⟨(some 6), (.asg (.t 14)), none⟩])))
def c_ref17_Lines_l1 : ACode := (.loop c_ref17_Lines_l1b)
def m_ref17_Lines_l1b : ACode := (.seq (.seq (.rg [⟨(some 9), (.mv (.t 6)), none⟩, ⟨(some 10), (.mv (.t 3)), none⟩, ⟨(some 11), (.len (.t 10)), none⟩, ⟨(some 12), (.bin .lss (.t 9) (.t 11)), none⟩]) (.cond (.t 12) .skip (.exit 0))) (.seq (.blk 1 (.seq (.sem c_ref17_Lines_p1) (.cond (.t 32) (.seq (.rg [⟨(some 33), (.mv (.t 4)), none⟩, ⟨(some 34), (.mv (.t 3)), none⟩, ⟨(some 35), (.mv (.t 5)), none⟩, ⟨(some 36), (.mv (.t 6)), none⟩, ⟨(some 37), (.bin .sub (.t 36) (.c (.int .i64 1))), none⟩, ⟨(some 38), (.slc 1 (.t 34) (some (.t 35)) (some (.t 37)) none), none⟩, ⟨(some 39), (.cvt .bs (.t 38)), none⟩, ⟨(some 40), (.bsl 1 [(.t 39)]), none⟩, ⟨(some 41), (.app 1 16 (.t 33) (.t 40)), none⟩, ⟨(some 4), (.asg (.t 41)), none⟩]) (.rg [⟨(some 42), (.mv (.t 6)), none⟩, ⟨(some 43), (.bin .add (.t 42) (.c (.int .i64 1))), none⟩, ⟨(some 5), (.asg (.t 43)), none⟩])) .skip))) (.rg [⟨(some 13), (.mv (.t 6)), none⟩, ⟨(some 14), (.bin .add (.t 13) (.c (.int .i64 1))), none⟩, ⟨(some 6), (.asg (.t 14)), none⟩])))
def c_ref17_Lines : ACode := (.seq (.rg [⟨(some 2), (.asg (.c (.sl .ex 1 []))), none⟩]) (.seq (.rg [⟨(some 7), (.mv (.t 0)), none⟩, ⟨(some 8), (.call (.c (.fn 31 [])) [(.t 7)]), none⟩, ⟨(some 3), (.asg (.t 8)), none⟩]) (.seq (.rg [⟨(some 4), (.asg (.c (.sl .ex 1 []))), none⟩]) (.seq (.rg [⟨(some 5), (.asg (.c (.int .i64 0))), none⟩]) (.seq (.seq (.rg [⟨(some 6), (.asg (.c (.int .i64 1))), none⟩]) (.blk 0 c_ref17_Lines_l1)) (.seq (.rg [⟨(some 44), (.mv (.t 4)), none⟩, ⟨(some 2), (.asg (.t 44)), none⟩]) .ret))))))
abbrev m_ref17_Lines := c_ref17_Lines
theorem k_ref17_Lines : FnOk Tryd.prog 62 45 [(.tmp 2)] c_ref17_Lines := ⟨Tryd.f62, _, rfl, by decide, rfl, by kernel_rfl, rfl, rfl⟩
abbrev L_ref17_Lines : List Nat := [0, 2, 3, 4, 5, 6, 12, 32]
def ref17_Lines_p1 (r2 : List UInt8) (i5 : Int) (at4 : Int) : Option (Bool) :=
  (idx r2 i5).bind fun x6 =>
  (if (decide (x6 = 10)) then
    (idx r2 (IntKind.wrap .i64 (i5 - 1))).bind fun x7 =>
    (if (decide (x7 = 13)) then
      some (decide (at4 < i5))
    else
      some false)
  else
    some false)
def ref17_Lines_l1 (r2 : List UInt8) : ((List (List UInt8)) × Int × Int) → Option (St (List (List UInt8)) (List (List UInt8)) ((List (List UInt8)) × Int × Int))
  | (out3, at4, i5) =>
    (if (decide (i5 < (r2.length : Int))) then
      (ref17_Lines_p1 r2 i5 at4).bind fun t9 =>
      (if t9 then
        (sub r2 at4 (IntKind.wrap .i64 (i5 - 1))).bind fun x10 =>
        (capp 16 out3 ([x10] : List (List UInt8))).bind fun x11 =>
        some (.nxt (x11, (IntKind.wrap .i64 (i5 + 1)), (IntKind.wrap .i64 (i5 + 1))))
      else
        some (.nxt (out3, at4, (IntKind.wrap .i64 (i5 + 1)))))
    else
      some (.brk out3))
def ref17_Lines (F : Nat) (b1 : List UInt8) : Option ((List (List UInt8))) :=
  (ref17_Whole b1).bind fun r2 =>
  ((iter (ref17_Lines_l1 r2) F (([] : List (List UInt8)), 0, 1)).bind fun o14 =>
  match o14 with
  | .inr out13 =>
    some out13
  | .inl _ => none)
theorem ref17_Lines_p1_ok {r2 : List UInt8} {i5 : Int} {at4 : Int} {out3 : List (List UInt8)} {H : AH}  {K : Exit → Env → AH → Prop} {t8 : Bool}
    (h : ref17_Lines_p1 r2 i5 at4 = some t8)
    (kn : K .normal [(3, (.sl .own 1 (ml b8 r2))), (4, (.sl .own 1 (ml AV.str out3))), (5, (.int .i64 at4)), (6, (.int .i64 i5)), (32, (.bool t8))] H) :
    AX Tryd.prog L_ref17_Lines 45 H.length c_ref17_Lines_p1 K [(3, (.sl .own 1 (ml b8 r2))), (4, (.sl .own 1 (ml AV.str out3))), (5, (.int .i64 at4)), (6, (.int .i64 i5))] H := by
  refine AX.go (m := m_ref17_Lines_p1) rfl (by decide) fun K' hK => ?_
  rw [ref17_Lines_p1.eq_1] at h
  obtain ⟨x6, hy3, h⟩ := bnd' h
  try simp only [WW, ↓reduceIte, nA, nB, nC, nD, nE, nF, nG, reduceCtorEq, L_ref17_Lines, m_ref17_Lines_p1, c_ref17_Lines_p1, hy3, encFieldV, encL1b8]
  rcases ifb h with ⟨hy4, h⟩ | ⟨hy4, h⟩
  · refine UG_go hy4 ?_
    obtain ⟨x7, hy5, h⟩ := bnd' h
    try simp only [WW, ↓reduceIte, nA, nB, nC, nD, nE, nF, nG, reduceCtorEq, L_ref17_Lines, hy4, hy5, encFieldV, encL1b8]
    rcases ifb h with ⟨hy6, h⟩ | ⟨hy6, h⟩
    · refine UG_go hy6 ?_
      try simp only [WW, ↓reduceIte, nA, nB, nC, nD, nE, nF, nG, reduceCtorEq, L_ref17_Lines, hy6, encFieldV, encL1b8]
      have hq := Option.some.inj h; subst hq
      refine hK _ _ _ _ _ ?_ (WxH.refl _) (kn )
      exact WE.cons (Wx.oo) (WE.cons (Wx.oo) (WE.cons (Wx.int) (WE.cons (Wx.int) (WE.cons (Wx.bool) (WE.nil)))))
    · refine UG_nt hy6 ?_
      try simp only [WW, ↓reduceIte, nA, nB, nC, nD, nE, nF, nG, reduceCtorEq, L_ref17_Lines, hy6, encFieldV, encL1b8]
      have hq := Option.some.inj h; subst hq
      refine hK _ _ _ _ _ ?_ (WxH.refl _) (kn )
      exact WE.cons (Wx.oo) (WE.cons (Wx.oo) (WE.cons (Wx.int) (WE.cons (Wx.int) (WE.cons (Wx.bool) (WE.nil)))))
  · refine UG_nt hy4 ?_
    try simp only [WW, ↓reduceIte, nA, nB, nC, nD, nE, nF, nG, reduceCtorEq, L_ref17_Lines, hy4, encFieldV, encL1b8]
    have hq := Option.some.inj h; subst hq
    refine hK _ _ _ _ _ ?_ (WxH.refl _) (kn )
    exact WE.cons (Wx.oo) (WE.cons (Wx.oo) (WE.cons (Wx.int) (WE.cons (Wx.int) (WE.cons (Wx.bool) (WE.nil)))))
theorem ref17_Lines_l1_ok {F : Nat} {i5 : Int} {r2 : List UInt8} {at4 : Int} {out3 : List (List UInt8)} {H : AH}  {K : Exit → Env → AH → Prop} {o : ((List (List UInt8))) ⊕ ((List (List UInt8)))}
    (h : iter (ref17_Lines_l1 r2) F (out3, at4, i5) = some o)
    (kb0 : ∀ o' : (List (List UInt8)), o = .inr o' → K (.exit 0) [(4, (.sl .own 1 (ml AV.str o')))] H) :
    AX Tryd.prog L_ref17_Lines 45 H.length c_ref17_Lines_l1 K [(3, (.sl .own 1 (ml b8 r2))), (4, (.sl .own 1 (ml AV.str out3))), (5, (.int .i64 at4)), (6, (.int .i64 i5))] H := by
  refine AX.iter (m := m_ref17_Lines_l1b) rfl (by decide) (fun s e H1 => match s with | (out3, at4, i5) => e = [(3, (.sl .own 1 (ml b8 r2))), (4, (.sl .own 1 (ml AV.str out3))), (5, (.int .i64 at4)), (6, (.int .i64 i5))] ∧ H1 = H) h ⟨rfl, rfl⟩ ?_
  rintro K' ⟨out3, at4, i5⟩ st e H ⟨rfl, rfl⟩ h hN hB hR hX
  rw [ref17_Lines_l1.eq_1] at h
  try simp only [WW, ↓reduceIte, nA, nB, nC, nD, nE, nF, nG, reduceCtorEq, L_ref17_Lines, m_ref17_Lines_l1b, encFieldV, encL1b8]
  rcases ifb h with ⟨hy2, h⟩ | ⟨hy2, h⟩
  · refine UC_t hy2 ?_
    try simp only [WW, ↓reduceIte, nA, nB, nC, nD, nE, nF, nG, reduceCtorEq, L_ref17_Lines, encFieldV, encL1b8]
    obtain ⟨t9, hy7, h⟩ := bnd' h
    refine UX_of (AX.weak ?_ (WxH.refl _) (ref17_Lines_p1_ok  (r2 := r2) (i5 := i5) (at4 := at4) (out3 := out3) (t8 := t9)   hy7 ?_))
    · exact WE.cons (Wx.oo) (WE.cons (Wx.oo) (WE.cons (Wx.int) (WE.cons (Wx.int) (WE.nil))))
    try simp only [WW, ↓reduceIte, nA, nB, nC, nD, nE, nF, nG, reduceCtorEq, L_ref17_Lines, encFieldV, encL1b8]
    rcases ifb h with ⟨hy8, h⟩ | ⟨hy8, h⟩
    · refine UC_t hy8 ?_
      obtain ⟨x10, hy9, h⟩ := bnd' h
      have hy10 := sub_m (f := b8) hy9
      obtain ⟨x11, hy11, h⟩ := bnd' h
      have hy12 : capp 16 (ml AV.str out3) [(.str x10)] = some (ml AV.str x11) := capp_m (f := AV.str) hy11
      try simp only [WW, ↓reduceIte, nA, nB, nC, nD, nE, nF, nG, reduceCtorEq, L_ref17_Lines, hy9, hy12, encFieldV, encL1b8]
      have hq := Option.some.inj h; subst hq
      refine hN _ rfl _ _ _ _ ?_ (WxH.refl _) ⟨rfl, rfl⟩
      exact WE.cons (Wx.oo) (WE.cons (Wx.oo) (WE.cons (Wx.int) (WE.cons (Wx.int) (WE.nil))))
    · refine UC_f hy8 ?_
      try simp only [WW, ↓reduceIte, nA, nB, nC, nD, nE, nF, nG, reduceCtorEq, L_ref17_Lines, encFieldV, encL1b8]
      have hq := Option.some.inj h; subst hq
      refine hN _ rfl _ _ _ _ ?_ (WxH.refl _) ⟨rfl, rfl⟩
      exact WE.cons (Wx.oo) (WE.cons (Wx.oo) (WE.cons (Wx.int) (WE.cons (Wx.int) (WE.nil))))
  · refine UC_f hy2 ?_
    try simp only [WW, ↓reduceIte, nA, nB, nC, nD, nE, nF, nG, reduceCtorEq, L_ref17_Lines, encFieldV, encL1b8]
    have hq := Option.some.inj h; subst hq
    refine hX _ _ _ _ _ (by simp) ?_ (WxH.refl _) (kb0 _ (hB _ rfl) )
    exact WE.cons (Wx.oo) (WE.nil)
theorem ref17_Lines_ok {F : Nat} {b1 : List UInt8}  {H0 : AH}  {rz0 : List (List UInt8)} (h : ref17_Lines F b1 = some rz0) :
    ACalls Tryd.prog 62 [(.sl .n 1 (ml b8 b1))] H0 fun v H' => v = (.sl .n 1 (ml AV.str rz0)) ∧ H' = H0 := by
  refine ACalls.goX k_ref17_Lines (m := m_ref17_Lines) rfl L_ref17_Lines (by decide) (by simp) fun hcl K0 hK0 => ?_
  refine AX.of_U (m := m_ref17_Lines) rfl (by decide) ?_
  rw [ref17_Lines.eq_1] at h
  try simp only [WW, ↓reduceIte, nA, nB, nC, nD, nE, nF, nG, reduceCtorEq, L_ref17_Lines, m_ref17_Lines, c_ref17_Lines, encFieldV, encL1b8]
  obtain ⟨r2, hy1, h⟩ := bnd' h
  refine UK_e (as' := [(.sl .n 1 (ml b8 b1))]) (h := ref17_Whole_ok (b1 := b1)  hy1) (hw := WL.cons (Wx.nn) (WL.nil)) (hh := WxH.refl _) ?_
  try simp only [WW, ↓reduceIte, nA, nB, nC, nD, nE, nF, nG, reduceCtorEq, L_ref17_Lines, encFieldV, encL1b8]
  obtain ⟨o14, hy13, h⟩ := bnd' h
  refine UX_of (AX.weak ?_ (WxH.refl _) (ref17_Lines_l1_ok  (r2 := r2) (out3 := ([] : List (List UInt8))) (at4 := 0) (i5 := 1)   (o := o14) hy13 ?_))
  · exact WE.cons (Wx.oo) (WE.cons (Wx.own ..) (WE.cons (Wx.int) (WE.cons (Wx.int) (WE.nil))))
  · rintro out13 rfl  
    try dsimp only at h 
    try simp only [WW, ↓reduceIte, nA, nB, nC, nD, nE, nF, nG, reduceCtorEq, L_ref17_Lines, encFieldV, encL1b8]
    have hq := Option.some.inj h; subst hq
    refine hK0 _ _ _ (.inr rfl) ?_
    exact fn_endp hcl (resv_tmp (a := (.sl .n 1 (ml AV.str out13))) rfl rfl resv_nil) (by first | (simp [fin, b_df, b_sh, b_sh1, b_Cl]; done) | (simp [fin, AV.df, AV.sh, AV.sh1, b_df, b_sh, b_sh1, b_Cl]; done)) (Wx.nn) (r' := (.sl .n 1 (ml AV.str out13))) ⟨rfl, rfl⟩

/-! ### mailbag/mailbagref18.Name -/
def c_ref18_Name_p1 : ACode := (.rg [⟨(some 4), (.mv (.t 0)), none⟩, ⟨(some 5), (.bin .eql (.t 4) (.c (.str []))), none⟩, ⟨(some 6), (.mv (.t 5)), none⟩, ⟨(some 7), (.mv (.t 0)), (some (6, false))⟩, ⟨(some 8), (.lens (.t 7)), (some (6, false))⟩, ⟨(some 9), (.bin .gtr (.t 8) (.c (.int .i64 76))), (some (6, false))⟩, ⟨(some 10), (.pick (.t 6) (.c (.bool true)) (.t 9)), none⟩])
abbrev m_ref18_Name_p1 := c_ref18_Name_p1
def c_ref18_Name_p2 : ACode := (.rg [⟨(some 17), (.mv (.t 0)), none⟩, ⟨(some 18), (.mv (.t 3)), none⟩, ⟨(some 19), (.ixs (.t 17) (.t 18)), none⟩, ⟨(some 20), (.bin .lss (.t 19) (.c (b8 33))), none⟩, ⟨(some 21), (.mv (.t 20)), none⟩, ⟨(some 22), (.mv (.t 0)), (some (21, false))⟩, ⟨(some 23), (.mv (.t 3)), (some (21, false))⟩, ⟨(some 24), (.ixs (.t 22) (.t 23)), (some (21, false))⟩, ⟨(some 25), (.bin .gtr (.t 24) (.c (b8 126))), (some (21, false))⟩, ⟨(some 26), (.pick (.t 21) (.c (.bool true)) (.t 25)), none⟩, ⟨(some 27), (.mv (.t 26)), none⟩, ⟨(some 28), (.mv (.t 0)), (some (27, false))⟩, ⟨(some 29), (.mv (.t 3)), (some (27, false))⟩, ⟨(some 30), (.ixs (.t 28) (.t 29)), (some (27, false))⟩, ⟨(some 31), (.bin .eql (.t 30) (.c (b8 58))), (some (27, false))⟩, ⟨(some 32), (.pick (.t 27) (.c (.bool true)) (.t 31)), none⟩])
abbrev m_ref18_Name_p2 := c_ref18_Name_p2
def c_ref18_Name_l1b : ACode := (.seq (.seq (.rg [⟨(some 11), (.mv (.t 3)), none⟩, ⟨(some 12), (.mv (.t 0)), none⟩, ⟨(some 13), (.lens (.t 12)), none⟩, ⟨(some 14), (.bin .lss (.t 11) (.t 13)), none⟩]) (.cond (.t 14) .skip (.exit 0))) (.seq (.blk 1 (.seq c_ref18_Name_p2 (.cond (.t 32) (.seq (.rg [⟨(some 2), (.asg (.c (.bool false))), none⟩]) .ret) .skip))) (.rg [⟨(some 15), (.mv (.t 3)), none⟩, ⟨(some 16), (.bin .add (.t 15) (.c (.int .i64 1))), none⟩, ⟨(some 3), (.asg (.t 16)), none⟩])))
def c_ref18_Name_l1 : ACode := (.loop c_ref18_Name_l1b)
def m_ref18_Name_l1b : ACode := (.seq (.seq (.rg [⟨(some 11), (.mv (.t 3)), none⟩, ⟨(some 12), (.mv (.t 0)), none⟩, ⟨(some 13), (.lens (.t 12)), none⟩, ⟨(some 14), (.bin .lss (.t 11) (.t 13)), none⟩]) (.cond (.t 14) .skip (.exit 0))) (.seq (.blk 1 (.seq (.sem c_ref18_Name_p2) (.cond (.t 32) (.seq (.rg [⟨(some 2), (.asg (.c (.bool false))), none⟩]) .ret) .skip))) (.rg [⟨(some 15), (.mv (.t 3)), none⟩, ⟨(some 16), (.bin .add (.t 15) (.c (.int .i64 1))), none⟩, ⟨(some 3), (.asg (.t 16)), none⟩])))
def c_ref18_Name : ACode := (.seq (.rg [⟨(some 2), (.asg (.c (.bool false))), none⟩]) (.seq (.seq c_ref18_Name_p1 (.cond (.t 10) (.seq (.rg [⟨(some 2), (.asg (.c (.bool false))), none⟩]) .ret) .skip)) (.seq (.seq (.rg [⟨(some 3), (.asg (.c (.int .i64 0))), none⟩]) (.blk 0 c_ref18_Name_l1)) (.seq (.rg [⟨(some 2), (.asg (.c (.bool true))), none⟩]) .ret))))
def m_ref18_Name : ACode := (.seq (.rg [⟨(some 2), (.asg (.c (.bool false))), none⟩]) (.seq (.seq (.sem c_ref18_Name_p1) (.cond (.t 10) (.seq (.rg [⟨(some 2), (.asg (.c (.bool false))), none⟩]) .ret) .skip)) (.seq (.seq (.rg [⟨(some 3), (.asg (.c (.int .i64 0))), none⟩]) (.blk 0 c_ref18_Name_l1)) (.seq (.rg [⟨(some 2), (.asg (.c (.bool true))), none⟩]) .ret))))
theorem k_ref18_Name : FnOk Tryd.prog 26 33 [(.tmp 2)] c_ref18_Name := ⟨Tryd.f26, _, rfl, by decide, rfl, by kernel_rfl, rfl, rfl⟩
abbrev L_ref18_Name : List Nat := [0, 2, 3, 10, 14, 32]
def ref18_Name_p2 (s1 : List UInt8) (i2 : Int) : Option (Bool) :=
  (idx s1 i2).bind fun x3 =>
  (if (decide (x3 < 33)) then
    some true
  else
    (if (decide (126 < x3)) then
      some true
    else
      some (decide (x3 = 58))))
def ref18_Name_l1 (s1 : List UInt8) : Int → Option (St Bool Unit Int)
  | i2 =>
    (if (decide (i2 < (s1.length : Int))) then
      (ref18_Name_p2 s1 i2).bind fun t5 =>
      (if t5 then
        some (.ret false)
      else
        some (.nxt (IntKind.wrap .i64 (i2 + 1))))
    else
      some (.brk ()))
def ref18_Name (F : Nat) (s1 : List UInt8) : Option (Bool) :=
  (if ((decide (s1 = ([] : List UInt8))) || (decide (76 < (s1.length : Int)))) then
    some false
  else
    ((iter (ref18_Name_l1 s1) F 0).bind fun o8 =>
    match o8 with
    | .inr () =>
      some true
    | .inl r7 =>
      some r7))
theorem ref18_Name_p1_ok {s1 : List UInt8} {H : AH}  {K : Exit → Env → AH → Prop}
    (kn : K .normal [(0, (.str s1)), (10, (.bool ((decide (s1 = ([] : List UInt8))) || (decide (76 < (s1.length : Int))))))] H) :
    AX Tryd.prog L_ref18_Name 33 H.length c_ref18_Name_p1 K [(0, (.str s1))] H := by
  refine AX.go (m := m_ref18_Name_p1) rfl (by decide) fun K' hK => ?_
  try simp only [WW, ↓reduceIte, nA, nB, nC, nD, nE, nF, nG, reduceCtorEq, L_ref18_Name, m_ref18_Name_p1, c_ref18_Name_p1, encFieldV, encL1b8]
  rcases bcases ((decide (s1 = ([] : List UInt8)))) with hy1 | hy1
  · refine UG_nf hy1 ?_
    try simp only [WW, ↓reduceIte, nA, nB, nC, nD, nE, nF, nG, reduceCtorEq, L_ref18_Name, hy1, encFieldV, encL1b8]
    refine hK _ _ _ _ _ ?_ (WxH.refl _) (kn )
    exact WE.cons (Wx.str) (WE.cons (Wx.boolE (by simp only [hy1, WB])) (WE.nil))
  · refine UG_go hy1 ?_
    try simp only [WW, ↓reduceIte, nA, nB, nC, nD, nE, nF, nG, reduceCtorEq, L_ref18_Name, hy1, encFieldV, encL1b8]
    refine hK _ _ _ _ _ ?_ (WxH.refl _) (kn )
    exact WE.cons (Wx.str) (WE.cons (Wx.boolE (by simp only [hy1, WB])) (WE.nil))
theorem ref18_Name_p2_ok {s1 : List UInt8} {i2 : Int} {H : AH}  {K : Exit → Env → AH → Prop} {t4 : Bool}
    (h : ref18_Name_p2 s1 i2 = some t4)
    (kn : K .normal [(0, (.str s1)), (3, (.int .i64 i2)), (32, (.bool t4))] H) :
    AX Tryd.prog L_ref18_Name 33 H.length c_ref18_Name_p2 K [(0, (.str s1)), (3, (.int .i64 i2))] H := by
  refine AX.go (m := m_ref18_Name_p2) rfl (by decide) fun K' hK => ?_
  rw [ref18_Name_p2.eq_1] at h
  obtain ⟨x3, hy4, h⟩ := bnd' h
  try simp only [WW, ↓reduceIte, nA, nB, nC, nD, nE, nF, nG, reduceCtorEq, L_ref18_Name, m_ref18_Name_p2, c_ref18_Name_p2, hy4, encFieldV, encL1b8]
  rcases ifb h with ⟨hy5, h⟩ | ⟨hy5, h⟩
  · refine UG_nf hy5 ?_
    try simp only [WW, ↓reduceIte, nA, nB, nC, nD, nE, nF, nG, reduceCtorEq, L_ref18_Name, hy5, encFieldV, encL1b8]
    have hq := Option.some.inj h; subst hq
    refine hK _ _ _ _ _ ?_ (WxH.refl _) (kn )
    exact WE.cons (Wx.str) (WE.cons (Wx.int) (WE.cons (Wx.bool) (WE.nil)))
  · refine UG_go hy5 ?_
    try simp only [WW, ↓reduceIte, nA, nB, nC, nD, nE, nF, nG, reduceCtorEq, L_ref18_Name, hy5, hy4, encFieldV, encL1b8]
    rcases ifb h with ⟨hy6, h⟩ | ⟨hy6, h⟩
    · refine UG_nf hy6 ?_
      try simp only [WW, ↓reduceIte, nA, nB, nC, nD, nE, nF, nG, reduceCtorEq, L_ref18_Name, hy6, encFieldV, encL1b8]
      have hq := Option.some.inj h; subst hq
      refine hK _ _ _ _ _ ?_ (WxH.refl _) (kn )
      exact WE.cons (Wx.str) (WE.cons (Wx.int) (WE.cons (Wx.bool) (WE.nil)))
    · refine UG_go hy6 ?_
      try simp only [WW, ↓reduceIte, nA, nB, nC, nD, nE, nF, nG, reduceCtorEq, L_ref18_Name, hy6, hy4, encFieldV, encL1b8]
      have hq := Option.some.inj h; subst hq
      refine hK _ _ _ _ _ ?_ (WxH.refl _) (kn )
      exact WE.cons (Wx.str) (WE.cons (Wx.int) (WE.cons (Wx.bool) (WE.nil)))
theorem ref18_Name_l1_ok {F : Nat} {i2 : Int} {s1 : List UInt8} {H : AH}  {K : Exit → Env → AH → Prop} {o : (Bool) ⊕ (Unit)}
    (h : iter (ref18_Name_l1 s1) F i2 = some o)
    (kb0 : ∀ o' : Unit, o = .inr o' → K (.exit 0) [] H)
    (kr : ∀ o' : Bool, o = .inl o' → K .ret [(2, (.bool o'))] H) :
    AX Tryd.prog L_ref18_Name 33 H.length c_ref18_Name_l1 K [(0, (.str s1)), (3, (.int .i64 i2))] H := by
  refine AX.iter (m := m_ref18_Name_l1b) rfl (by decide) (fun s e H1 => match s with | i2 => e = [(0, (.str s1)), (3, (.int .i64 i2))] ∧ H1 = H) h ⟨rfl, rfl⟩ ?_
  rintro K' i2 st e H ⟨rfl, rfl⟩ h hN hB hR hX
  rw [ref18_Name_l1.eq_1] at h
  try simp only [WW, ↓reduceIte, nA, nB, nC, nD, nE, nF, nG, reduceCtorEq, L_ref18_Name, m_ref18_Name_l1b, encFieldV, encL1b8]
  rcases ifb h with ⟨hy3, h⟩ | ⟨hy3, h⟩
  · refine UC_t hy3 ?_
    try simp only [WW, ↓reduceIte, nA, nB, nC, nD, nE, nF, nG, reduceCtorEq, L_ref18_Name, encFieldV, encL1b8]
    obtain ⟨t5, hy7, h⟩ := bnd' h
    refine UX_of (AX.weak ?_ (WxH.refl _) (ref18_Name_p2_ok  (s1 := s1) (i2 := i2) (t4 := t5)   hy7 ?_))
    · exact WE.cons (Wx.str) (WE.cons (Wx.int) (WE.nil))
    try simp only [WW, ↓reduceIte, nA, nB, nC, nD, nE, nF, nG, reduceCtorEq, L_ref18_Name, encFieldV, encL1b8]
    rcases ifb h with ⟨hy8, h⟩ | ⟨hy8, h⟩
    · refine UC_t hy8 ?_
      try simp only [WW, ↓reduceIte, nA, nB, nC, nD, nE, nF, nG, reduceCtorEq, L_ref18_Name, encFieldV, encL1b8]
      have hq := Option.some.inj h; subst hq
      refine hX _ _ _ _ _ (by simp) ?_ (WxH.refl _) (kr _ (hR _ rfl) )
      exact WE.cons (Wx.bool) (WE.nil)
    · refine UC_f hy8 ?_
      try simp only [WW, ↓reduceIte, nA, nB, nC, nD, nE, nF, nG, reduceCtorEq, L_ref18_Name, encFieldV, encL1b8]
      have hq := Option.some.inj h; subst hq
      refine hN _ rfl _ _ _ _ ?_ (WxH.refl _) ⟨rfl, rfl⟩
      exact WE.cons (Wx.str) (WE.cons (Wx.int) (WE.nil))
  · refine UC_f hy3 ?_
    try simp only [WW, ↓reduceIte, nA, nB, nC, nD, nE, nF, nG, reduceCtorEq, L_ref18_Name, encFieldV, encL1b8]
    have hq := Option.some.inj h; subst hq
    refine hX _ _ _ _ _ (by simp) ?_ (WxH.refl _) (kb0 _ (hB _ rfl) )
    exact WE.nil
theorem ref18_Name_ok {F : Nat} {s1 : List UInt8}  {H0 : AH}  {rz0 : Bool} (h : ref18_Name F s1 = some rz0) :
    ACalls Tryd.prog 26 [(.str s1)] H0 fun v H' => v = (.bool rz0) ∧ H' = H0 := by
  refine ACalls.goX k_ref18_Name (m := m_ref18_Name) rfl L_ref18_Name (by decide) (by simp) fun hcl K0 hK0 => ?_
  refine AX.of_U (m := m_ref18_Name) rfl (by decide) ?_
  rw [ref18_Name.eq_1] at h
  try simp only [WW, ↓reduceIte, nA, nB, nC, nD, nE, nF, nG, reduceCtorEq, L_ref18_Name, m_ref18_Name, encFieldV, encL1b8]
  refine UX_of (AX.weak ?_ (WxH.refl _) (ref18_Name_p1_ok (s1 := s1)  ?_))
  · exact WE.cons (Wx.str) (WE.nil)
  try simp only [WW, ↓reduceIte, nA, nB, nC, nD, nE, nF, nG, reduceCtorEq, L_ref18_Name, encFieldV, encL1b8]
  rcases ifb h with ⟨hy2, h⟩ | ⟨hy2, h⟩
  · refine UC_t hy2 ?_
    try simp only [WW, ↓reduceIte, nA, nB, nC, nD, nE, nF, nG, reduceCtorEq, L_ref18_Name, encFieldV, encL1b8]
    have hq := Option.some.inj h; subst hq
    refine hK0 _ _ _ (.inr rfl) ?_
    exact fn_endp hcl (resv_tmp (a := (.bool false)) rfl rfl resv_nil) (by first | (simp [fin, b_df, b_sh, b_sh1, b_Cl]; done) | (simp [fin, AV.df, AV.sh, AV.sh1, b_df, b_sh, b_sh1, b_Cl]; done)) (Wx.bool) (r' := (.bool false)) ⟨rfl, rfl⟩
  · refine UC_f hy2 ?_
    try simp only [WW, ↓reduceIte, nA, nB, nC, nD, nE, nF, nG, reduceCtorEq, L_ref18_Name, encFieldV, encL1b8]
    obtain ⟨o8, hy9, h⟩ := bnd' h
    refine UX_of (AX.weak ?_ (WxH.refl _) (ref18_Name_l1_ok  (s1 := s1) (i2 := 0)   (o := o8) hy9 ?_ ?_))
    · exact WE.cons (Wx.str) (WE.cons (Wx.int) (WE.nil))
    · rintro ⟨⟩ rfl  
      try dsimp only at h 
      try simp only [WW, ↓reduceIte, nA, nB, nC, nD, nE, nF, nG, reduceCtorEq, L_ref18_Name, encFieldV, encL1b8]
      have hq := Option.some.inj h; subst hq
      refine hK0 _ _ _ (.inr rfl) ?_
      exact fn_endp hcl (resv_tmp (a := (.bool true)) rfl rfl resv_nil) (by first | (simp [fin, b_df, b_sh, b_sh1, b_Cl]; done) | (simp [fin, AV.df, AV.sh, AV.sh1, b_df, b_sh, b_sh1, b_Cl]; done)) (Wx.bool) (r' := (.bool true)) ⟨rfl, rfl⟩
    · rintro r7 rfl  
      try dsimp only at h 
      try simp only [WW, ↓reduceIte, nA, nB, nC, nD, nE, nF, nG, reduceCtorEq, L_ref18_Name, encFieldV, encL1b8]
      have hq := Option.some.inj h; subst hq
      refine hK0 _ _ _ (.inr rfl) ?_
      exact fn_endp hcl (resv_tmp (a := (.bool r7)) rfl rfl resv_nil) (by first | (simp [fin, b_df, b_sh, b_sh1, b_Cl]; done) | (simp [fin, AV.df, AV.sh, AV.sh1, b_df, b_sh, b_sh1, b_Cl]; done)) (Wx.bool) (r' := (.bool r7)) ⟨rfl, rfl⟩

/-! ### mailbag/mailbagref18.field -/
def c_ref18_field_p1 : ACode := (.rg [⟨(some 5), (.mv (.t 4)), none⟩, ⟨(some 6), (.mv (.t 0)), none⟩, ⟨(some 7), (.lens (.t 6)), none⟩, ⟨(some 8), (.bin .lss (.t 5) (.t 7)), none⟩, ⟨(some 9), (.mv (.t 8)), none⟩, ⟨(some 10), (.mv (.t 0)), (some (9, true))⟩, ⟨(some 11), (.mv (.t 4)), (some (9, true))⟩, ⟨(some 12), (.ixs (.t 10) (.t 11)), (some (9, true))⟩, ⟨(some 13), (.bin .neq (.t 12) (.c (b8 58))), (some (9, true))⟩, ⟨(some 14), (.pick (.t 9) (.t 13) (.c (.bool false))), none⟩])
abbrev m_ref18_field_p1 := c_ref18_field_p1
def c_ref18_field_l1b : ACode := (.seq (.seq c_ref18_field_p1 (.cond (.t 14) .skip (.exit 0))) (.blk 1 (.rg [⟨(some 15), (.mv (.t 4)), none⟩, ⟨(some 16), (.bin .add (.t 15) (.c (.int .i64 1))), none⟩, ⟨(some 4), (.asg (.t 16)), none⟩])))
def c_ref18_field_l1 : ACode := (.loop c_ref18_field_l1b)
def m_ref18_field_l1b : ACode := (.seq (.seq (.sem c_ref18_field_p1) (.cond (.t 14) .skip (.exit 0))) (.blk 1 (.rg [⟨(some 15), (.mv (.t 4)), none⟩, ⟨(some 16), (.bin .add (.t 15) (.c (.int .i64 1))), none⟩, ⟨(some 4), (.asg (.t 16)), none⟩])))
def c_ref18_field_p2 : ACode := (.rg [⟨(some 17), (.mv (.t 4)), none⟩, ⟨(some 18), (.mv (.t 0)), none⟩, ⟨(some 19), (.lens (.t 18)), none⟩, ⟨(some 20), (.bin .eql (.t 17) (.t 19)), none⟩, ⟨(some 21), (.mv (.t 20)), none⟩, ⟨(some 22), (.mv (.t 0)), (some (21, false))⟩, ⟨(some 23), (.mv (.t 4)), (some (21, false))⟩, ⟨(some 24), (.sls (.t 22) none (some (.t 23))), (some (21, false))⟩, ⟨(some 25), (.call (.c (.fn 26 [])) [(.t 24)]), (some (21, false))⟩, ⟨(some 26), (.un .not (.t 25)), (some (21, false))⟩, ⟨(some 27), (.pick (.t 21) (.c (.bool true)) (.t 26)), none⟩])
abbrev m_ref18_field_p2 := c_ref18_field_p2
def c_ref18_field : ACode := (.seq (.rg [⟨(some 2), (.alloc [(.str []), (.str [])]), none⟩, ⟨(some 3), (.asg (.c (.bool false))), none⟩]) (.seq (.rg [⟨(some 4), (.asg (.c (.int .i64 0))), none⟩]) (.seq (.blk 0 c_ref18_field_l1) (.seq (.seq c_ref18_field_p2 (.cond (.t 27) (.seq (.rg [⟨(some 28), (.build [(.str []), (.str [])] []), none⟩, ⟨none, (.st (.t 2) (.t 28) 2), none⟩, ⟨(some 3), (.asg (.c (.bool false))), none⟩]) .ret) .skip)) (.seq (.rg [⟨(some 29), (.mv (.t 0)), none⟩, ⟨(some 30), (.mv (.t 4)), none⟩, ⟨(some 31), (.sls (.t 29) none (some (.t 30))), none⟩, ⟨(some 32), (.mv (.t 0)), none⟩, ⟨(some 33), (.mv (.t 4)), none⟩, ⟨(some 34), (.bin .add (.t 33) (.c (.int .i64 1))), none⟩, ⟨(some 35), (.sls (.t 32) (some (.t 34)) none), none⟩, ⟨(some 36), (.build [(.str []), (.str [])] [(0, (1, (.t 31))), (1, (1, (.t 35)))]), none⟩, ⟨none, (.st (.t 2) (.t 36) 2), none⟩, ⟨(some 3), (.asg (.c (.bool true))), none⟩]) .ret)))))
def m_ref18_field : ACode := (.seq (.rg [⟨(some 2), (.alloc [(.str []), (.str [])]), none⟩, ⟨(some 3), (.asg (.c (.bool false))), none⟩]) (.seq (.rg [⟨(some 4), (.asg (.c (.int .i64 0))), none⟩]) (.seq (.blk 0 c_ref18_field_l1) (.seq (.seq (.sem c_ref18_field_p2) (.cond (.t 27) (.seq (.rg [⟨(some 28), (.build [(.str []), (.str [])] []), none⟩, ⟨none, (.st (.t 2) (.t 28) 2), none⟩, ⟨(some 3), (.asg (.c (.bool false))), none⟩]) .ret) .skip)) (.seq (.rg [⟨(some 29), (.mv (.t 0)), none⟩, ⟨(some 30), (.mv (.t 4)), none⟩, ⟨(some 31), (.sls (.t 29) none (some (.t 30))), none⟩, ⟨(some 32), (.mv (.t 0)), none⟩, ⟨(some 33), (.mv (.t 4)), none⟩, ⟨(some 34), (.bin .add (.t 33) (.c (.int .i64 1))), none⟩, ⟨(some 35), (.sls (.t 32) (some (.t 34)) none), none⟩, ⟨(some 36), (.build [(.str []), (.str [])] [(0, (1, (.t 31))), (1, (1, (.t 35)))]), none⟩, ⟨none, (.st (.t 2) (.t 36) 2), none⟩, ⟨(some 3), (.asg (.c (.bool true))), none⟩]) .ret)))))
theorem k_ref18_field : FnOk Tryd.prog 63 37 [(.cell 2 83), (.tmp 3)] c_ref18_field := ⟨Tryd.f63, _, rfl, by decide, rfl, by kernel_rfl, rfl, rfl⟩
abbrev L_ref18_field : List Nat := [0, 2, 3, 4, 14, 27]
def ref18_field_p1 (i3 : Int) (s1 : List UInt8) : Option (Bool) :=
  (if (decide (i3 < (s1.length : Int))) then
    (idx s1 i3).bind fun x5 => some (!decide (x5 = 58))
  else
    some false)
def ref18_field_l1 (s1 : List UInt8) : Int → Option (St (FieldV × Bool) Int Int)
  | i3 =>
    (ref18_field_p1 i3 s1).bind fun t7 =>
    (if t7 then
      some (.nxt (IntKind.wrap .i64 (i3 + 1)))
    else
      some (.brk i3))
def ref18_field_p2 (F : Nat) (i9 : Int) (s1 : List UInt8) : Option (Bool) :=
  (if (decide (i9 = (s1.length : Int))) then
    some true
  else
    (sub s1 0 i9).bind fun x11 => (ref18_Name F x11).bind fun r12 => some (!r12))
def ref18_field (F : Nat) (s1 : List UInt8) : Option (FieldV × Bool) :=
  ((iter (ref18_field_l1 s1) F 0).bind fun o17 =>
  match o17 with
  | .inr i9 =>
    (ref18_field_p2 F i9 s1).bind fun t14 =>
    (if t14 then
      some ((FieldV.mk ([] : List UInt8) ([] : List UInt8)), false)
    else
      (sub s1 0 i9).bind fun x15 =>
      (sub s1 (IntKind.wrap .i64 (i9 + 1)) (s1.length : Int)).bind fun x16 => some ((FieldV.mk x15 x16), true))
  | .inl _ => none)
theorem ref18_field_p1_ok {i3 : Int} {s1 : List UInt8} {q4 : Nat} {H0 H : AH} (hfr : Fr H0 H0.length [] H) (hs_o1 : H[q4]? = some [(.str ([] : List UInt8)), (.str ([] : List UInt8))]) (hi0 : H0.length ≤ q4) {K : Exit → Env → AH → Prop} {t6 : Bool}
    (h : ref18_field_p1 i3 s1 = some t6)
    (kn : ∀ H' : AH, Fr H0 H0.length [] H' → H'[q4]? = some [(.str ([] : List UInt8)), (.str ([] : List UInt8))] → K .normal [(0, (.str s1)), (2, (.ptr q4 0)), (4, (.int .i64 i3)), (14, (.bool t6))] H') :
    AX Tryd.prog L_ref18_field 37 H0.length c_ref18_field_p1 K [(0, (.str s1)), (2, (.ptr q4 0)), (4, (.int .i64 i3))] H := by
  refine AX.go (m := m_ref18_field_p1) rfl (by decide) fun K' hK => ?_
  have hle := hfr.le
  have hl_o1 := h_lt hs_o1
  rw [ref18_field_p1.eq_1] at h
  try simp (disch := first | assumption | omega | (simp only [h_sl, h_al] <;> omega) | fail) only [WW, WH, ↓reduceIte, nA, nB, nC, nD, nE, nF, nG, reduceCtorEq, L_ref18_field, m_ref18_field_p1, c_ref18_field_p1, hs_o1, encFieldV, encL1b8]
  rcases ifb h with ⟨hy1, h⟩ | ⟨hy1, h⟩
  · refine UG_go hy1 ?_
    obtain ⟨x5, hy2, h⟩ := bnd' h
    try simp (disch := first | assumption | omega | (simp only [h_sl, h_al] <;> omega) | fail) only [WW, WH, ↓reduceIte, nA, nB, nC, nD, nE, nF, nG, reduceCtorEq, L_ref18_field, hy1, hy2, hs_o1, encFieldV, encL1b8]
    have hq := Option.some.inj h; subst hq
    refine hK _ _ _ _ _ ?_ (WxH.refl _) (kn _ hfr ((hs_o1).trans rfl))
    exact WE.cons (Wx.str) (WE.cons (Wx.ptr) (WE.cons (Wx.int) (WE.cons (Wx.bool) (WE.nil))))
  · refine UG_nt hy1 ?_
    try simp (disch := first | assumption | omega | (simp only [h_sl, h_al] <;> omega) | fail) only [WW, WH, ↓reduceIte, nA, nB, nC, nD, nE, nF, nG, reduceCtorEq, L_ref18_field, hy1, hs_o1, encFieldV, encL1b8]
    have hq := Option.some.inj h; subst hq
    refine hK _ _ _ _ _ ?_ (WxH.refl _) (kn _ hfr ((hs_o1).trans rfl))
    exact WE.cons (Wx.str) (WE.cons (Wx.ptr) (WE.cons (Wx.int) (WE.cons (Wx.bool) (WE.nil))))
theorem ref18_field_l1_ok {F : Nat} {i3 : Int} {s1 : List UInt8} {q2 : Nat} {H0 H : AH} (hfr : Fr H0 H0.length [] H) (hs_o1 : H[q2]? = some [(.str ([] : List UInt8)), (.str ([] : List UInt8))]) (hi0 : H0.length ≤ q2) {K : Exit → Env → AH → Prop} {o : (FieldV × Bool) ⊕ (Int)}
    (h : iter (ref18_field_l1 s1) F i3 = some o)
    (kb0 : ∀ o' : Int, o = .inr o' → ∀ H' : AH, Fr H0 H0.length [] H' → H'[q2]? = some [(.str ([] : List UInt8)), (.str ([] : List UInt8))] → K (.exit 0) [(0, (.str s1)), (2, (.ptr q2 0)), (4, (.int .i64 o'))] H') :
    AX Tryd.prog L_ref18_field 37 H0.length c_ref18_field_l1 K [(0, (.str s1)), (2, (.ptr q2 0)), (4, (.int .i64 i3))] H := by
  refine AX.iter (m := m_ref18_field_l1b) rfl (by decide) (fun s e H1 => match s with | i3 => e = [(0, (.str s1)), (2, (.ptr q2 0)), (4, (.int .i64 i3))] ∧ Fr H0 H0.length [] H1 ∧ H1[q2]? = some [(.str ([] : List UInt8)), (.str ([] : List UInt8))]) h ⟨rfl, hfr, hs_o1⟩ ?_
  skip
  rintro K' i3 st e H ⟨rfl, hfr, hs_o1⟩ h hN hB hR hX
  have hle := hfr.le
  have hl_o1 := h_lt hs_o1
  rw [ref18_field_l1.eq_1] at h
  try simp (disch := first | assumption | omega | (simp only [h_sl, h_al] <;> omega) | fail) only [WW, WH, ↓reduceIte, nA, nB, nC, nD, nE, nF, nG, reduceCtorEq, L_ref18_field, m_ref18_field_l1b, hs_o1, encFieldV, encL1b8]
  obtain ⟨t7, hy3, h⟩ := bnd' h
  refine UX_of (AX.weak ?_ (WxH.refl _) (ref18_field_p1_ok  (i3 := i3) (s1 := s1) (t6 := t7) (q4 := q2) (hfr) ((hs_o1).trans rfl) (by first | assumption | omega | (simp only [h_sl, h_al] <;> omega) | fail) hy3 ?_))
  · exact WE.cons (Wx.str) (WE.cons (Wx.ptr) (WE.cons (Wx.int) (WE.nil)))
  intro H hfr hs_o1
  have hle := hfr.le
  have hl_o1 := h_lt hs_o1
  try simp (disch := first | assumption | omega | (simp only [h_sl, h_al] <;> omega) | fail) only [WW, WH, ↓reduceIte, nA, nB, nC, nD, nE, nF, nG, reduceCtorEq, L_ref18_field, hs_o1, encFieldV, encL1b8]
  rcases ifb h with ⟨hy4, h⟩ | ⟨hy4, h⟩
  · refine UC_t hy4 ?_
    try simp (disch := first | assumption | omega | (simp only [h_sl, h_al] <;> omega) | fail) only [WW, WH, ↓reduceIte, nA, nB, nC, nD, nE, nF, nG, reduceCtorEq, L_ref18_field, hs_o1, encFieldV, encL1b8]
    have hq := Option.some.inj h; subst hq
    refine hN _ rfl _ _ _ _ ?_ (WxH.refl _) ⟨rfl, hfr, ((hs_o1).trans rfl)⟩
    exact WE.cons (Wx.str) (WE.cons (Wx.ptr) (WE.cons (Wx.int) (WE.nil)))
  · refine UC_f hy4 ?_
    try simp (disch := first | assumption | omega | (simp only [h_sl, h_al] <;> omega) | fail) only [WW, WH, ↓reduceIte, nA, nB, nC, nD, nE, nF, nG, reduceCtorEq, L_ref18_field, hs_o1, encFieldV, encL1b8]
    have hq := Option.some.inj h; subst hq
    refine hX _ _ _ _ _ (by simp) ?_ (WxH.refl _) (kb0 _ (hB _ rfl) _ hfr ((hs_o1).trans rfl))
    exact WE.cons (Wx.str) (WE.cons (Wx.ptr) (WE.cons (Wx.int) (WE.nil)))
theorem ref18_field_p2_ok {F : Nat} {i9 : Int} {s1 : List UInt8} {q10 : Nat} {H0 H : AH} (hfr : Fr H0 H0.length [] H) (hs_o1 : H[q10]? = some [(.str ([] : List UInt8)), (.str ([] : List UInt8))]) (hi0 : H0.length ≤ q10) {K : Exit → Env → AH → Prop} {t13 : Bool}
    (h : ref18_field_p2 F i9 s1 = some t13)
    (kn : ∀ H' : AH, Fr H0 H0.length [] H' → H'[q10]? = some [(.str ([] : List UInt8)), (.str ([] : List UInt8))] → K .normal [(0, (.str s1)), (2, (.ptr q10 0)), (4, (.int .i64 i9)), (27, (.bool t13))] H') :
    AX Tryd.prog L_ref18_field 37 H0.length c_ref18_field_p2 K [(0, (.str s1)), (2, (.ptr q10 0)), (4, (.int .i64 i9))] H := by
  refine AX.go (m := m_ref18_field_p2) rfl (by decide) fun K' hK => ?_
  have hle := hfr.le
  have hl_o1 := h_lt hs_o1
  rw [ref18_field_p2.eq_1] at h
  try simp (disch := first | assumption | omega | (simp only [h_sl, h_al] <;> omega) | fail) only [WW, WH, ↓reduceIte, nA, nB, nC, nD, nE, nF, nG, reduceCtorEq, L_ref18_field, m_ref18_field_p2, c_ref18_field_p2, hs_o1, encFieldV, encL1b8]
  rcases ifb h with ⟨hy6, h⟩ | ⟨hy6, h⟩
  · refine UG_nf hy6 ?_
    try simp (disch := first | assumption | omega | (simp only [h_sl, h_al] <;> omega) | fail) only [WW, WH, ↓reduceIte, nA, nB, nC, nD, nE, nF, nG, reduceCtorEq, L_ref18_field, hy6, hs_o1, encFieldV, encL1b8]
    have hq := Option.some.inj h; subst hq
    refine hK _ _ _ _ _ ?_ (WxH.refl _) (kn _ hfr ((hs_o1).trans rfl))
    exact WE.cons (Wx.str) (WE.cons (Wx.ptr) (WE.cons (Wx.int) (WE.cons (Wx.bool) (WE.nil))))
  · refine UG_go hy6 ?_
    obtain ⟨x11, hy7, h⟩ := bnd' h
    try simp (disch := first | assumption | omega | (simp only [h_sl, h_al] <;> omega) | fail) only [WW, WH, ↓reduceIte, nA, nB, nC, nD, nE, nF, nG, reduceCtorEq, L_ref18_field, hy6, hy7, hs_o1, encFieldV, encL1b8]
    obtain ⟨r12, hy8, h⟩ := bnd' h
    refine UK_e (as' := [(.str x11)]) (h := ref18_Name_ok (s1 := x11) (F := F)  hy8) (hw := WL.cons (Wx.str) (WL.nil)) (hh := WxH.refl _) ?_
    try simp (disch := first | assumption | omega | (simp only [h_sl, h_al] <;> omega) | fail) only [WW, WH, ↓reduceIte, nA, nB, nC, nD, nE, nF, nG, reduceCtorEq, L_ref18_field, hs_o1, encFieldV, encL1b8]
    have hq := Option.some.inj h; subst hq
    refine hK _ _ _ _ _ ?_ (WxH.refl _) (kn _ hfr ((hs_o1).trans rfl))
    exact WE.cons (Wx.str) (WE.cons (Wx.ptr) (WE.cons (Wx.int) (WE.cons (Wx.bool) (WE.nil))))
theorem ref18_field_ok {F : Nat} {s1 : List UInt8}  {H0 : AH}  {rz0 : FieldV} {rz1 : Bool} (h : ref18_field F s1 = some (rz0, rz1)) :
    ACalls Tryd.prog 63 [(.str s1)] H0 fun v H' => v = (.tup [(.agg [(.str rz0.name), (.str rz0.value)]), (.bool rz1)]) ∧ H' = H0 := by
  refine ACalls.goX k_ref18_field (m := m_ref18_field) rfl L_ref18_field (by decide) (by simp) fun hcl K0 hK0 => ?_
  refine AX.of_U (m := m_ref18_field) rfl (by decide) ?_
  have hfr := Fr.refl H0 []
  have hle := hfr.le
  rw [ref18_field.eq_1] at h
  obtain ⟨H, hHH⟩ : ∃ H, H = H0 := ⟨_, rfl⟩
  have hfr : Fr H0 H0.length [] H := hHH ▸ hfr
  have hle := hfr.le
  suffices hU : U Tryd.prog L_ref18_field 37 H0.length [.code m_ref18_field] K0 .normal (argE 0 [(.str s1)]) H by rwa [hHH] at hU
  try simp (disch := first | assumption | omega | (simp only [h_sl, h_al] <;> omega) | fail) only [WW, WH, ↓reduceIte, nA, nB, nC, nD, nE, nF, nG, reduceCtorEq, L_ref18_field, m_ref18_field, encFieldV, encL1b8]
  obtain ⟨q2, hg_q2⟩ : ∃ q : Nat, H.length = q := ⟨_, rfl⟩
  try rw [hg_q2]
  obtain ⟨o17, hy5, h⟩ := bnd' h
  refine UX_of (AX.weak ?_ (WxH.refl _) (ref18_field_l1_ok  (s1 := s1) (i3 := 0) (q2 := q2) ((Fr.app hfr)) ((h_new' (by first | assumption | omega | (simp only [h_sl, h_al] <;> omega) | fail)).trans rfl) (by first | assumption | omega | (simp only [h_sl, h_al] <;> omega) | fail) (o := o17) hy5 ?_))
  · exact WE.cons (Wx.str) (WE.cons (Wx.ptr) (WE.cons (Wx.int) (WE.nil)))
  · rintro i9 rfl H hfr hs_o1
    try dsimp only at h hs_o1
    have hle := hfr.le
    have hl_o1 := h_lt hs_o1
    try simp (disch := first | assumption | omega | (simp only [h_sl, h_al] <;> omega) | fail) only [WW, WH, ↓reduceIte, nA, nB, nC, nD, nE, nF, nG, reduceCtorEq, L_ref18_field, hs_o1, encFieldV, encL1b8]
    obtain ⟨t14, hy9, h⟩ := bnd' h
    refine UX_of (AX.weak ?_ (WxH.refl _) (ref18_field_p2_ok (F := F) (i9 := i9) (s1 := s1) (t13 := t14) (q10 := q2) (hfr) ((hs_o1).trans rfl) (by first | assumption | omega | (simp only [h_sl, h_al] <;> omega) | fail) hy9 ?_))
    · exact WE.cons (Wx.str) (WE.cons (Wx.ptr) (WE.cons (Wx.int) (WE.nil)))
    intro H hfr hs_o1
    have hle := hfr.le
    have hl_o1 := h_lt hs_o1
    try simp (disch := first | assumption | omega | (simp only [h_sl, h_al] <;> omega) | fail) only [WW, WH, ↓reduceIte, nA, nB, nC, nD, nE, nF, nG, reduceCtorEq, L_ref18_field, hs_o1, encFieldV, encL1b8]
    rcases ifb h with ⟨hy10, h⟩ | ⟨hy10, h⟩
    · refine UC_t hy10 ?_
      try simp (disch := first | assumption | omega | (simp only [h_sl, h_al] <;> omega) | fail) only [WW, WH, ↓reduceIte, nA, nB, nC, nD, nE, nF, nG, reduceCtorEq, L_ref18_field, hs_o1, encFieldV, encL1b8]
      have hq := Option.some.inj h; have hq0 := (Prod.mk.inj hq).1; replace hq := (Prod.mk.inj hq).2; subst hq0; subst hq
      refine hK0 _ _ _ (.inr rfl) ?_
      exact fn_end0 (by exact (Fr.set (s := q2) hfr (.inr (by first | assumption | omega | (simp only [h_sl, h_al] <;> omega) | fail)))) hcl (resv_cell (cs := [(.str ([] : List UInt8)), (.str ([] : List UInt8))]) (v := (.agg [(.str ([] : List UInt8)), (.str ([] : List UInt8))])) (by kernel_rfl) (n := (some 2)) (by kernel_rfl) rfl (by exact ((h_eq (by first | assumption | omega | (simp only [h_sl, h_al] <;> omega) | fail)).trans rfl)) (by simp [loadc_n, loadc_1, ld1, allFlat, AV.flat, b_flat, b_sh1, AV.sh1, Tg.sh]) (resv_tmp (a := (.bool false)) rfl rfl resv_nil)) (by first | (simp [fin, b_df, b_sh, b_sh1, b_Cl]; done) | (simp [fin, AV.df, AV.sh, AV.sh1, b_df, b_sh, b_sh1, b_Cl]; done)) (Wx.tupX (W2L.same (W2L.same (W2L.nil)))) (r' := (.tup [(.agg [(.str ((FieldV.mk ([] : List UInt8) ([] : List UInt8)).name)), (.str ((FieldV.mk ([] : List UInt8) ([] : List UInt8)).value))]), (.bool false)])) ⟨rfl, rfl⟩
    · refine UC_f hy10 ?_
      obtain ⟨x15, hy11, h⟩ := bnd' h
      obtain ⟨x16, hy12, h⟩ := bnd' h
      try simp (disch := first | assumption | omega | (simp only [h_sl, h_al] <;> omega) | fail) only [WW, WH, ↓reduceIte, nA, nB, nC, nD, nE, nF, nG, reduceCtorEq, L_ref18_field, hy11, hy12, hs_o1, encFieldV, encL1b8]
      have hq := Option.some.inj h; have hq0 := (Prod.mk.inj hq).1; replace hq := (Prod.mk.inj hq).2; subst hq0; subst hq
      refine hK0 _ _ _ (.inr rfl) ?_
      exact fn_end0 (by exact (Fr.set (s := q2) hfr (.inr (by first | assumption | omega | (simp only [h_sl, h_al] <;> omega) | fail)))) hcl (resv_cell (cs := [(.str x15), (.str x16)]) (v := (.agg [(.str x15), (.str x16)])) (by kernel_rfl) (n := (some 2)) (by kernel_rfl) rfl (by exact ((h_eq (by first | assumption | omega | (simp only [h_sl, h_al] <;> omega) | fail)).trans rfl)) (by simp [loadc_n, loadc_1, ld1, allFlat, AV.flat, b_flat, b_sh1, AV.sh1, Tg.sh]) (resv_tmp (a := (.bool true)) rfl rfl resv_nil)) (by first | (simp [fin, b_df, b_sh, b_sh1, b_Cl]; done) | (simp [fin, AV.df, AV.sh, AV.sh1, b_df, b_sh, b_sh1, b_Cl]; done)) (Wx.tupX (W2L.same (W2L.same (W2L.nil)))) (r' := (.tup [(.agg [(.str ((FieldV.mk x15 x16).name)), (.str ((FieldV.mk x15 x16).value))]), (.bool true)])) ⟨rfl, rfl⟩

/-! ### mailbag/mailbagref18.Split -/
def c_ref18_Split_p1 : ACode := (.rg [⟨(some 26), (.mv (.t 9)), none⟩, ⟨(some 27), (.bin .neq (.t 26) (.c (.str []))), none⟩, ⟨(some 28), (.mv (.t 27)), none⟩, ⟨(some 29), (.mv (.t 9)), (some (28, true))⟩, ⟨(some 30), (.ixs (.t 29) (.c (.int .i64 0))), (some (28, true))⟩, ⟨(some 31), (.bin .eql (.t 30) (.c (b8 32))), (some (28, true))⟩, ⟨(some 32), (.mv (.t 31)), (some (28, true))⟩, ⟨(some 33), (.mv (.t 9)), (some (32, false))⟩, ⟨(some 34), (.ixs (.t 33) (.c (.int .i64 0))), (some (32, false))⟩, ⟨(some 35), (.bin .eql (.t 34) (.c (b8 9))), (some (32, false))⟩, ⟨(some 36), (.pick (.t 32) (.c (.bool true)) (.t 35)), (some (28, true))⟩, ⟨(some 37), (.pick (.t 28) (.t 36) (.c (.bool false))), none⟩, ⟨(some 38), (.mv (.t 37)), none⟩, ⟨(some 39), (.mv (.t 6)), (some (38, true))⟩, ⟨(some 40), (.len (.t 39)), (some (38, true))⟩, ⟨(some 41), (.bin .gtr (.t 40) (.c (.int .i64 0))), (some (38, true))⟩, ⟨(some 42), (.pick (.t 38) (.t 41) (.c (.bool false))), none⟩])
abbrev m_ref18_Split_p1 := c_ref18_Split_p1
def c_ref18_Split_p2 : ACode := (.cond (.t 72) (.rg [⟨(some 73), (.mv (.t 7)), none⟩, ⟨(some 74), (.bin .add (.t 73) (.c (.int .i64 2))), none⟩, ⟨(some 7), (.asg (.t 74)), none⟩]) .skip)
abbrev m_ref18_Split_p2 := c_ref18_Split_p2
def c_ref18_Split_p3 : ACode := (.rg [⟨(some 75), (.mv (.t 6)), none⟩, ⟨(some 76), (.mv (.t 4)), none⟩, ⟨(some 77), (.mv (.t 7)), none⟩, ⟨(some 78), (.slc 1 (.t 76) (some (.t 77)) none none), none⟩, ⟨(some 2), (.asg (.t 75)), none⟩, ⟨(some 3), (.asg (.t 78)), none⟩])
abbrev m_ref18_Split_p3 := c_ref18_Split_p3
def c_ref18_Split_l1b : ACode := (.seq (.seq (.rg [⟨(some 16), (.mv (.t 8)), none⟩, ⟨(some 17), (.mv (.t 5)), none⟩, ⟨(some 18), (.len (.t 17)), none⟩, ⟨(some 19), (.bin .lss (.t 16) (.t 18)), none⟩]) (.cond (.t 19) .skip (.exit 0))) (.seq (.blk 1 (.seq (.rg [⟨(some 22), (.mv (.t 5)), none⟩, ⟨(some 23), (.mv (.t 8)), none⟩, ⟨(some 24), (.ixa 1 (.t 22) (.t 23)), none⟩, ⟨(some 25), (.ld (.t 24) none), none⟩, ⟨(some 9), (.asg (.t 25)), none⟩]) (.seq (.seq c_ref18_Split_p1 (.cond (.t 42) (.seq (.rg [⟨(some 43), (.mv (.t 6)), none⟩, ⟨(some 44), (.mv (.t 6)), none⟩, ⟨(some 45), (.len (.t 44)), none⟩, ⟨(some 46), (.bin .sub (.t 45) (.c (.int .i64 1))), none⟩, ⟨(some 47), (.mv (.t 6)), none⟩, ⟨(some 48), (.mv (.t 6)), none⟩, ⟨(some 49), (.len (.t 48)), none⟩, ⟨(some 50), (.bin .sub (.t 49) (.c (.int .i64 1))), none⟩, ⟨(some 51), (.ixa 2 (.t 47) (.t 50)), none⟩, ⟨(some 52), (.fld (.t 51) 1), none⟩, ⟨(some 53), (.ld (.t 52) none), none⟩, ⟨(some 54), (.bin .add (.t 53) (.c (.str [13, 10]))), none⟩, ⟨(some 55), (.mv (.t 9)), none⟩, ⟨(some 56), (.bin .add (.t 54) (.t 55)), none⟩, ⟨(some 57), (.ixa 2 (.t 43) (.t 46)), none⟩, ⟨(some 58), (.fld (.t 57) 1), none⟩, ⟨none, (.st (.t 58) (.t 56) 1), none⟩]) (.seq (.rg [⟨(some 59), (.mv (.t 7)), none⟩, ⟨(some 60), (.mv (.t 9)), none⟩, ⟨(some 61), (.lens (.t 60)), none⟩, ⟨(some 62), (.bin .add (.t 59) (.t 61)), none⟩, ⟨(some 63), (.bin .add (.t 62) (.c (.int .i64 2))), none⟩, ⟨(some 7), (.asg (.t 63)), none⟩]) (.exit 1))) .skip)) (.seq (.rg [⟨(some 65), (.mv (.t 9)), none⟩, ⟨(some 66), (.call (.c (.fn 63 [])) [(.t 65)]), none⟩, ⟨(some 64), (.mv (.t 66)), none⟩, ⟨(some 67), (.ext (.t 64) 0), none⟩, ⟨(some 68), (.ext (.t 64) 1), none⟩, ⟨(some 10), (.alloc [(.str []), (.str [])]), none⟩, ⟨none, (.st (.t 10) (.t 67) 2), none⟩, ⟨(some 11), (.asg (.t 68)), none⟩]) (.seq (.seq (.rg [⟨(some 69), (.mv (.t 11)), none⟩, ⟨(some 70), (.un .not (.t 69)), none⟩]) (.cond (.t 70) (.seq (.seq (.rg [⟨(some 71), (.mv (.t 9)), none⟩, ⟨(some 72), (.bin .eql (.t 71) (.c (.str []))), none⟩]) c_ref18_Split_p2) (.seq c_ref18_Split_p3 .ret)) .skip)) (.seq (.rg [⟨(some 79), (.mv (.t 6)), none⟩, ⟨(some 80), (.ld (.t 10) (some 2)), none⟩, ⟨(some 81), (.bsl 2 [(.t 80)]), none⟩, ⟨(some 82), (.app 2 32 (.t 79) (.t 81)), none⟩, ⟨(some 6), (.asg (.t 82)), none⟩]) (.rg [⟨(some 83), (.mv (.t 7)), none⟩, ⟨(some 84), (.mv (.t 9)), none⟩, ⟨(some 85), (.lens (.t 84)), none⟩, ⟨(some 86), (.bin .add (.t 83) (.t 85)), none⟩, ⟨(some 87), (.bin .add (.t 86) (.c (.int .i64 2))), none⟩, ⟨(some 7), (.asg (.t 87)), none⟩]))))))) (.rg [⟨(some 20), (.mv (.t 8)), none⟩, ⟨(some 21), (.bin .add (.t 20) (.c (.int .i64 1))), none⟩, ⟨(some 8), (.asg (.t 21)), none⟩])))
def c_ref18_Split_l1 : ACode := (.loop c_ref18_Split_l1b)
def m_ref18_Split_l1b : ACode := (.seq (.seq (.rg [⟨(some 16), (.mv (.t 8)), none⟩, ⟨(some 17), (.mv (.t 5)), none⟩, ⟨(some 18), (.len (.t 17)), none⟩, ⟨(some 19), (.bin .lss (.t 16) (.t 18)), none⟩]) (.cond (.t 19) .skip (.exit 0))) (.seq (.blk 1 (.seq (.rg [⟨(some 22), (.mv (.t 5)), none⟩, ⟨(some 23), (.mv (.t 8)), none⟩, ⟨(some 24), (.ixa 1 (.t 22) (.t 23)), none⟩, ⟨(some 25), (.ld (.t 24) none), none⟩, ⟨(some 9), (.asg (.t 25)), none⟩]) (.seq (.seq (.sem c_ref18_Split_p1) (.cond (.t 42) (.seq (.rg [⟨(some 43), (.mv (.t 6)), none⟩, ⟨(some 44), (.mv (.t 6)), none⟩, ⟨(some 45), (.len (.t 44)), none⟩, ⟨(some 46), (.bin .sub (.t 45) (.c (.int .i64 1))), none⟩, ⟨(some 47), (.mv (.t 6)), none⟩, ⟨(some 48), (.mv (.t 6)), none⟩, ⟨(some 49), (.len (.t 48)), none⟩, ⟨(some 50), (.bin .sub (.t 49) (.c (.int .i64 1))), none⟩, ⟨(some 51), (.ixa 2 (.t 47) (.t 50)), none⟩, ⟨(some 52), (.fld (.t 51) 1), none⟩, ⟨(some 53), (.ld (.t 52) none), none⟩, ⟨(some 54), (.bin .add (.t 53) (.c (.str [13, 10]))), none⟩, ⟨(some 55), (.mv (.t 9)), none⟩, ⟨(some 56), (.bin .add (.t 54) (.t 55)), none⟩, ⟨(some 57), (.ixa 2 (.t 43) (.t 46)), none⟩, ⟨(some 58), (.fld (.t 57) 1), none⟩, ⟨none, (.st (.t 58) (.t 56) 1), none⟩]) (.seq (.rg [⟨(some 59), (.mv (.t 7)), none⟩, ⟨(some 60), (.mv (.t 9)), none⟩, ⟨(some 61), (.lens (.t 60)), none⟩, ⟨(some 62), (.bin .add (.t 59) (.t 61)), none⟩, ⟨(some 63), (.bin .add (.t 62) (.c (.int .i64 2))), none⟩, ⟨(some 7), (.asg (.t 63)), none⟩]) (.exit 1))) .skip)) (.seq (.rg [⟨(some 65), (.mv (.t 9)), none⟩, ⟨(some 66), (.call (.c (.fn 63 [])) [(.t 65)]), none⟩, ⟨(some 64), (.mv (.t 66)), none⟩, ⟨(some 67), (.ext (.t 64) 0), none⟩, ⟨(some 68), (.ext (.t 64) 1), none⟩, ⟨(some 10), (.alloc [(.str []), (.str [])]), none⟩, ⟨none, (.st (.t 10) (.t 67) 2), none⟩, ⟨(some 11), (.asg (.t 68)), none⟩]) (.seq (.seq (.rg [⟨(some 69), (.mv (.t 11)), none⟩, ⟨(some 70), (.un .not (.t 69)), none⟩]) (.cond (.t 70) (.seq (.seq (.rg [⟨(some 71), (.mv (.t 9)), none⟩, ⟨(some 72), (.bin .eql (.t 71) (.c (.str []))), none⟩]) (.sem c_ref18_Split_p2)) (.seq (.sem c_ref18_Split_p3) .ret)) .skip)) (.seq (.rg [⟨(some 79), (.mv (.t 6)), none⟩, ⟨(some 80), (.ld (.t 10) (some 2)), none⟩, ⟨(some 81), (.bsl 2 [(.t 80)]), none⟩, ⟨(some 82), (.appo 2 32 (.t 79) (.t 81)), none⟩, ⟨(some 6), (.asg (.t 82)), none⟩]) (.rg [⟨(some 83), (.mv (.t 7)), none⟩, ⟨(some 84), (.mv (.t 9)), none⟩, ⟨(some 85), (.lens (.t 84)), none⟩, ⟨(some 86), (.bin .add (.t 83) (.t 85)), none⟩, ⟨(some 87), (.bin .add (.t 86) (.c (.int .i64 2))), none⟩, ⟨(some 7), (.asg (.t 87)), none⟩]))))))) (.rg [⟨(some 20), (.mv (.t 8)), none⟩, ⟨(some 21), (.bin .add (.t 20) (.c (.int .i64 1))), none⟩, ⟨(some 8), (.asg (.t 21)), none⟩])))
def c_ref18_Split_p4 : ACode := (.rg [⟨(some 88), (.mv (.t 6)), none⟩, ⟨(some 2), (.asg (.t 88)), none⟩, ⟨(some 3), (.asg (.c (.sl .ex 1 []))), none⟩])
abbrev m_ref18_Split_p4 := c_ref18_Split_p4
def c_ref18_Split : ACode := (.seq (.rg [⟨(some 2), (.asg (.c (.sl .ex 2 []))), none⟩, ⟨(some 3), (.asg (.c (.sl .ex 1 []))), none⟩]) (.seq (.rg [⟨(some 12), (.mv (.t 0)), none⟩, ⟨(some 13), (.call (.c (.fn 31 [])) [(.t 12)]), none⟩, ⟨(some 4), (.asg (.t 13)), none⟩]) (.seq (.rg [⟨(some 14), (.mv (.t 0)), none⟩, ⟨(some 15), (.call (.c (.fn 62 [])) [(.t 14)]), none⟩, ⟨(some 5), (.asg (.t 15)), none⟩]) (.seq (.rg [⟨(some 6), (.asg (.c (.sl .ex 2 []))), none⟩]) (.seq (.rg [⟨(some 7), (.asg (.c (.int .i64 0))), none⟩]) (.seq (.seq (.rg [⟨(some 8), (.asg (.c (.int .i64 0))), none⟩]) (.blk 0 c_ref18_Split_l1)) (.seq c_ref18_Split_p4 .ret)))))))
def m_ref18_Split : ACode := (.seq (.rg [⟨(some 2), (.asg (.c (.sl .ex 2 []))), none⟩, ⟨(some 3), (.asg (.c (.sl .ex 1 []))), none⟩]) (.seq (.rg [⟨(some 12), (.mv (.t 0)), none⟩, ⟨(some 13), (.call (.c (.fn 31 [])) [(.t 12)]), none⟩, ⟨(some 4), (.asg (.t 13)), none⟩]) (.seq (.rg [⟨(some 14), (.mv (.t 0)), none⟩, ⟨(some 15), (.call (.c (.fn 62 [])) [(.t 14)]), none⟩, ⟨(some 5), (.asg (.t 15)), none⟩]) (.seq (.rg [⟨(some 6), (.aso 2 (.c (.sl .ex 2 []))), none⟩]) (.seq (.rg [⟨(some 7), (.asg (.c (.int .i64 0))), none⟩]) (.seq (.seq (.rg [⟨(some 8), (.asg (.c (.int .i64 0))), none⟩]) (.blk 0 c_ref18_Split_l1)) (.seq (.sem c_ref18_Split_p4) .ret)))))))
theorem k_ref18_Split : FnOk Tryd.prog 20 89 [(.tmp 2), (.tmp 3)] c_ref18_Split := ⟨Tryd.f20, _, rfl, by decide, rfl, by kernel_rfl, rfl, rfl⟩
abbrev L_ref18_Split : List Nat := [0, 2, 3, 4, 5, 6, 7, 8, 9, 10, 11, 19, 42, 70, 72]
def ref18_Split_p1 (x9 : List UInt8) (s8 : List FieldV) : Option (Bool) :=
  (if (!decide (x9 = ([] : List UInt8))) then
    (idx x9 0).bind fun x12 =>
    (if (decide (x12 = 32)) then
      some (decide (0 < (s8.length : Int)))
    else
      (if (decide (x12 = 9)) then
        some (decide (0 < (s8.length : Int)))
      else
        some false))
  else
    some false)
def ref18_Split_p2 (x9 : List UInt8) (at6 : Int) : Option (Int) :=
  (if (decide (x9 = ([] : List UInt8))) then
    some (IntKind.wrap .i64 (at6 + 2))
  else
    some at6)
def ref18_Split_p3 (r2 : List UInt8) (at24 : Int) (s8 : List FieldV) : Option ((List FieldV) × (List UInt8)) :=
  (sub r2 at24 (r2.length : Int)).bind fun x25 => some (s8, x25)
def ref18_Split_l1 (F : Nat) (r3 : List (List UInt8)) (r2 : List UInt8) : (Int × Int × (List FieldV)) → Option (St ((List FieldV) × (List UInt8)) (List FieldV) (Int × Int × (List FieldV)))
  | (at6, i7, s8) =>
    (if (decide (i7 < (r3.length : Int))) then
      (idx r3 i7).bind fun x9 =>
      (ref18_Split_p1 x9 s8).bind fun t14 =>
      (if t14 then
        (ixm s8.length (IntKind.wrap .i64 ((s8.length : Int) - 1))).bind fun j15 =>
        (s8[j15]?).bind fun x16 =>
        (cat x16.value ([13, 10] : List UInt8)).bind fun x17 =>
        (cat x17 x9).bind fun x18 =>
        some (.nxt ((IntKind.wrap .i64 ((IntKind.wrap .i64 (at6 + (x9.length : Int))) + 2)), (IntKind.wrap .i64 (i7 + 1)), (List.set s8 j15 (FieldV.mk x16.name x18))))
      else
        (ref18_field F x9).bind fun (r19, r20) =>
        (if (!r20) then
          (ref18_Split_p2 x9 at6).bind fun at24 =>
          (ref18_Split_p3 r2 at24 s8).bind fun (t28, t29) =>
          some (.ret (t28, t29))
        else
          (capp 32 s8 ([r19] : List FieldV)).bind fun x30 =>
          some (.nxt ((IntKind.wrap .i64 ((IntKind.wrap .i64 (at6 + (x9.length : Int))) + 2)), (IntKind.wrap .i64 (i7 + 1)), x30))))
    else
      some (.brk s8))
def ref18_Split (F : Nat) (b1 : List UInt8) : Option ((List FieldV) × (List UInt8)) :=
  (ref17_Whole b1).bind fun r2 =>
  (ref17_Lines F b1).bind fun r3 =>
  ((iter (ref18_Split_l1 F r3 r2) F (0, 0, ([] : List FieldV))).bind fun o46 =>
  match o46 with
  | .inr s39 =>
    some (s39, ([] : List UInt8))
  | .inl (r42, r43) =>
    some (r42, r43))
theorem ref18_Split_p1_ok {x9 : List UInt8} {s8 : List FieldV} {r2 : List UInt8} {r3 : List (List UInt8)} {q10 : Nat} {q11 : Nat} {at6 : Int} {i7 : Int} {H0 H : AH} (hfr : Fr H0 H0.length [] H) (hs_o1 : GF 2 H0.length q10 (ml encFieldV s8) q11 H) {K : Exit → Env → AH → Prop} {t13 : Bool}
    (h : ref18_Split_p1 x9 s8 = some t13)
    (kn : ∀ H' : AH, Fr H0 H0.length [] H' → GF 2 H0.length q10 (ml encFieldV s8) q11 H' → K .normal [(4, (.sl .own 1 (ml b8 r2))), (5, (.sl .n 1 (ml AV.str r3))), (6, (.gsl q10 2 s8.length q11)), (7, (.int .i64 at6)), (8, (.int .i64 i7)), (9, (.str x9)), (42, (.bool t13))] H') :
    AX Tryd.prog L_ref18_Split 89 H0.length c_ref18_Split_p1 K [(4, (.sl .own 1 (ml b8 r2))), (5, (.sl .n 1 (ml AV.str r3))), (6, (.gsl q10 2 s8.length q11)), (7, (.int .i64 at6)), (8, (.int .i64 i7)), (9, (.str x9))] H := by
  refine AX.go (m := m_ref18_Split_p1) rfl (by decide) fun K' hK => ?_
  have hle := hfr.le
  rw [ref18_Split_p1.eq_1] at h
  try simp (disch := first | assumption | omega | (simp only [h_sl, h_al] <;> omega) | fail) only [WW, WH, ↓reduceIte, nA, nB, nC, nD, nE, nF, nG, reduceCtorEq, L_ref18_Split, m_ref18_Split_p1, c_ref18_Split_p1, encFieldV, encL1b8]
  rcases ifb h with ⟨hy5, h⟩ | ⟨hy5, h⟩
  · refine UG_go hy5 ?_
    obtain ⟨x12, hy6, h⟩ := bnd' h
    try simp (disch := first | assumption | omega | (simp only [h_sl, h_al] <;> omega) | fail) only [WW, WH, ↓reduceIte, nA, nB, nC, nD, nE, nF, nG, reduceCtorEq, L_ref18_Split, hy5, hy6, encFieldV, encL1b8]
    rcases ifb h with ⟨hy7, h⟩ | ⟨hy7, h⟩
    · refine UG_nf hy7 ?_
      try simp (disch := first | assumption | omega | (simp only [h_sl, h_al] <;> omega) | fail) only [WW, WH, ↓reduceIte, nA, nB, nC, nD, nE, nF, nG, reduceCtorEq, L_ref18_Split, hy7, encFieldV, encL1b8]
      have hq := Option.some.inj h; subst hq
      refine hK _ _ _ _ _ ?_ (WxH.refl _) (kn _ hfr hs_o1)
      exact WE.cons (Wx.oo) (WE.cons (Wx.nn) (WE.cons (Wx.gslE (by simp)) (WE.cons (Wx.int) (WE.cons (Wx.int) (WE.cons (Wx.str) (WE.cons (Wx.bool) (WE.nil)))))))
    · refine UG_go hy7 ?_
      try simp (disch := first | assumption | omega | (simp only [h_sl, h_al] <;> omega) | fail) only [WW, WH, ↓reduceIte, nA, nB, nC, nD, nE, nF, nG, reduceCtorEq, L_ref18_Split, hy7, hy6, encFieldV, encL1b8]
      rcases ifb h with ⟨hy8, h⟩ | ⟨hy8, h⟩
      · refine UG_go hy8 ?_
        try simp (disch := first | assumption | omega | (simp only [h_sl, h_al] <;> omega) | fail) only [WW, WH, ↓reduceIte, nA, nB, nC, nD, nE, nF, nG, reduceCtorEq, L_ref18_Split, hy8, encFieldV, encL1b8]
        have hq := Option.some.inj h; subst hq
        refine hK _ _ _ _ _ ?_ (WxH.refl _) (kn _ hfr hs_o1)
        exact WE.cons (Wx.oo) (WE.cons (Wx.nn) (WE.cons (Wx.gslE (by simp)) (WE.cons (Wx.int) (WE.cons (Wx.int) (WE.cons (Wx.str) (WE.cons (Wx.bool) (WE.nil)))))))
      · refine UG_nt hy8 ?_
        try simp (disch := first | assumption | omega | (simp only [h_sl, h_al] <;> omega) | fail) only [WW, WH, ↓reduceIte, nA, nB, nC, nD, nE, nF, nG, reduceCtorEq, L_ref18_Split, hy8, encFieldV, encL1b8]
        have hq := Option.some.inj h; subst hq
        refine hK _ _ _ _ _ ?_ (WxH.refl _) (kn _ hfr hs_o1)
        exact WE.cons (Wx.oo) (WE.cons (Wx.nn) (WE.cons (Wx.gslE (by simp)) (WE.cons (Wx.int) (WE.cons (Wx.int) (WE.cons (Wx.str) (WE.cons (Wx.bool) (WE.nil)))))))
  · refine UG_nt hy5 ?_
    try simp (disch := first | assumption | omega | (simp only [h_sl, h_al] <;> omega) | fail) only [WW, WH, ↓reduceIte, nA, nB, nC, nD, nE, nF, nG, reduceCtorEq, L_ref18_Split, hy5, encFieldV, encL1b8]
    have hq := Option.some.inj h; subst hq
    refine hK _ _ _ _ _ ?_ (WxH.refl _) (kn _ hfr hs_o1)
    exact WE.cons (Wx.oo) (WE.cons (Wx.nn) (WE.cons (Wx.gslE (by simp)) (WE.cons (Wx.int) (WE.cons (Wx.int) (WE.cons (Wx.str) (WE.cons (Wx.bool) (WE.nil)))))))
theorem ref18_Split_p2_ok {x9 : List UInt8} {at6 : Int} {r2 : List UInt8} {q21 : Nat} {s8 : List FieldV} {q22 : Nat} {H0 H : AH} (hfr : Fr H0 H0.length [] H) (hs_o1 : GF 2 H0.length q21 (ml encFieldV s8) q22 H) {K : Exit → Env → AH → Prop} {at23 : Int}
    (h : ref18_Split_p2 x9 at6 = some at23)
    (kn : ∀ H' : AH, Fr H0 H0.length [] H' → GF 2 H0.length q21 (ml encFieldV s8) q22 H' → K .normal [(4, (.sl .own 1 (ml b8 r2))), (6, (.gsl q21 2 s8.length q22)), (7, (.int .i64 at23))] H') :
    AX Tryd.prog L_ref18_Split 89 H0.length c_ref18_Split_p2 K [(4, (.sl .own 1 (ml b8 r2))), (6, (.gsl q21 2 s8.length q22)), (7, (.int .i64 at6)), (72, (.bool (decide (x9 = ([] : List UInt8)))))] H := by
  refine AX.go (m := m_ref18_Split_p2) rfl (by decide) fun K' hK => ?_
  have hle := hfr.le
  rw [ref18_Split_p2.eq_1] at h
  try simp (disch := first | assumption | omega | (simp only [h_sl, h_al] <;> omega) | fail) only [WW, WH, ↓reduceIte, nA, nB, nC, nD, nE, nF, nG, reduceCtorEq, L_ref18_Split, m_ref18_Split_p2, c_ref18_Split_p2, encFieldV, encL1b8]
  rcases ifb h with ⟨hy23, h⟩ | ⟨hy23, h⟩
  · refine UC_t hy23 ?_
    try simp (disch := first | assumption | omega | (simp only [h_sl, h_al] <;> omega) | fail) only [WW, WH, ↓reduceIte, nA, nB, nC, nD, nE, nF, nG, reduceCtorEq, L_ref18_Split, encFieldV, encL1b8]
    have hq := Option.some.inj h; subst hq
    refine hK _ _ _ _ _ ?_ (WxH.refl _) (kn _ hfr hs_o1)
    exact WE.cons (Wx.oo) (WE.cons (Wx.gslE (by simp)) (WE.cons (Wx.int) (WE.nil)))
  · refine UC_f hy23 ?_
    try simp (disch := first | assumption | omega | (simp only [h_sl, h_al] <;> omega) | fail) only [WW, WH, ↓reduceIte, nA, nB, nC, nD, nE, nF, nG, reduceCtorEq, L_ref18_Split, encFieldV, encL1b8]
    have hq := Option.some.inj h; subst hq
    refine hK _ _ _ _ _ ?_ (WxH.refl _) (kn _ hfr hs_o1)
    exact WE.cons (Wx.oo) (WE.cons (Wx.gslE (by simp)) (WE.cons (Wx.int) (WE.nil)))
theorem ref18_Split_p3_ok {r2 : List UInt8} {at24 : Int} {s8 : List FieldV} {H0 H : AH} (hfr : Fr H0 H0.length [] H) {K : Exit → Env → AH → Prop} {t26 : List FieldV} {t27 : List UInt8}
    (h : ref18_Split_p3 r2 at24 s8 = some (t26, t27))
    (kn : ∀ H' : AH, Fr H0 H0.length [] H' → K .normal [(2, (.sl .n 2 (ml encFieldV t26))), (3, (.sl .n 1 (ml b8 t27)))] H') :
    AX Tryd.prog L_ref18_Split 89 H0.length c_ref18_Split_p3 K [(4, (.sl .own 1 (ml b8 r2))), (6, (.sl .n 2 (ml encFieldV s8))), (7, (.int .i64 at24))] H := by
  refine AX.go (m := m_ref18_Split_p3) rfl (by decide) fun K' hK => ?_
  have hle := hfr.le
  rw [ref18_Split_p3.eq_1] at h
  obtain ⟨x25, hy25, h⟩ := bnd' h
  have hy26 := sub_m (f := b8) hy25
  try simp (disch := first | assumption | omega | (simp only [h_sl, h_al] <;> omega) | fail) only [WW, WH, ↓reduceIte, nA, nB, nC, nD, nE, nF, nG, reduceCtorEq, L_ref18_Split, m_ref18_Split_p3, c_ref18_Split_p3, hy25, encFieldV, encL1b8]
  have hq := Option.some.inj h; have hq0 := (Prod.mk.inj hq).1; replace hq := (Prod.mk.inj hq).2; subst hq0; subst hq
  refine hK _ _ _ _ _ ?_ (WxH.refl _) (kn _ hfr)
  exact WE.cons (Wx.nn) (WE.cons (Wx.nn) (WE.nil))
theorem ref18_Split_l1_ok {F : Nat} {i7 : Int} {r3 : List (List UInt8)} {s8 : List FieldV} {at6 : Int} {r2 : List UInt8} {q4 : Nat} {q5 : Nat} {H0 H : AH} (hfr : Fr H0 H0.length [] H) (hs_o1 : GF 2 H0.length q4 (ml encFieldV s8) q5 H) {K : Exit → Env → AH → Prop} {o : ((List FieldV) × (List UInt8)) ⊕ ((List FieldV))}
    (h : iter (ref18_Split_l1 F r3 r2) F (at6, i7, s8) = some o)
    (kb0 : ∀ o' : (List FieldV), o = .inr o' → ∀ H' : AH, ∀ q35 q36 : Nat, Fr H0 H0.length [] H' → GF 2 H0.length q35 (ml encFieldV o') q36 H' → K (.exit 0) [(6, (.gsl q35 2 o'.length q36))] H')
    (kr : ∀ o' : (List FieldV) × (List UInt8), o = .inl o' → ∀ H' : AH, Fr H0 H0.length [] H' → K .ret [(2, (.sl .n 2 (ml encFieldV o'.1))), (3, (.sl .n 1 (ml b8 o'.2)))] H') :
    AX Tryd.prog L_ref18_Split 89 H0.length c_ref18_Split_l1 K [(4, (.sl .own 1 (ml b8 r2))), (5, (.sl .n 1 (ml AV.str r3))), (6, (.gsl q4 2 s8.length q5)), (7, (.int .i64 at6)), (8, (.int .i64 i7))] H := by
  refine AX.iter (m := m_ref18_Split_l1b) rfl (by decide) (fun s e H1 => match s with | (at6, i7, s8) => ∃ q4 q5 : Nat, e = [(4, (.sl .own 1 (ml b8 r2))), (5, (.sl .n 1 (ml AV.str r3))), (6, (.gsl q4 2 s8.length q5)), (7, (.int .i64 at6)), (8, (.int .i64 i7))] ∧ Fr H0 H0.length [] H1 ∧ GF 2 H0.length q4 (ml encFieldV s8) q5 H1) h ⟨q4, q5, rfl, hfr, hs_o1⟩ ?_
  skip
  rintro K' ⟨at6, i7, s8⟩ st e H ⟨q4, q5, rfl, hfr, hs_o1⟩ h hN hB hR hX
  have hle := hfr.le
  rw [ref18_Split_l1.eq_1] at h
  try simp (disch := first | assumption | omega | (simp only [h_sl, h_al] <;> omega) | fail) only [WW, WH, ↓reduceIte, nA, nB, nC, nD, nE, nF, nG, reduceCtorEq, L_ref18_Split, m_ref18_Split_l1b, encFieldV, encL1b8]
  rcases ifb h with ⟨hy3, h⟩ | ⟨hy3, h⟩
  · refine UC_t hy3 ?_
    obtain ⟨x9, hy4, h⟩ := bnd' h
    try simp (disch := first | assumption | omega | (simp only [h_sl, h_al] <;> omega) | fail) only [WW, WH, ↓reduceIte, nA, nB, nC, nD, nE, nF, nG, reduceCtorEq, L_ref18_Split, hy4, encFieldV, encL1b8]
    obtain ⟨t14, hy9, h⟩ := bnd' h
    refine UX_of (AX.weak ?_ (WxH.refl _) (ref18_Split_p1_ok  (x9 := x9) (s8 := s8) (r2 := r2) (r3 := r3) (at6 := at6) (i7 := i7) (t13 := t14) (q10 := q4) (q11 := q5) (hfr) hs_o1 hy9 ?_))
    · exact WE.cons (Wx.oo) (WE.cons (Wx.nn) (WE.cons (Wx.gslE (by simp)) (WE.cons (Wx.int) (WE.cons (Wx.int) (WE.cons (Wx.str) (WE.nil))))))
    intro H hfr hs_o1
    have hle := hfr.le
    try simp (disch := first | assumption | omega | (simp only [h_sl, h_al] <;> omega) | fail) only [WW, WH, ↓reduceIte, nA, nB, nC, nD, nE, nF, nG, reduceCtorEq, L_ref18_Split, encFieldV, encL1b8]
    rcases ifb h with ⟨hy10, h⟩ | ⟨hy10, h⟩
    · refine UC_t hy10 ?_
      obtain ⟨j15, hy11, h⟩ := bnd' h
      obtain ⟨x16, hy12, h⟩ := bnd' h
      have hy13 := GF.atM (f := encFieldV) (hs_o1) hy12
      have hy14 : (gcs 2 (ml encFieldV s8) q5)[j15 * 2 + 1]? = some (.str x16.value) := gcsM_get (f := encFieldV) (fun _ => ⟨rfl, rfl, rfl, rfl⟩) hy12 (by decide)
      obtain ⟨x17, hy15, h⟩ := bnd' h
      obtain ⟨x18, hy16, h⟩ := bnd' h
      have hy17 := GF.atM (f := encFieldV) (hs_o1) hy12
      have hy19 := GF.geM (f := encFieldV) (hs_o1) hy12
      have hy18 : over (gcs 2 (ml encFieldV s8) q5) (j15 * 2 + 1) [(.str x18)] = some (gcs 2 (ml encFieldV (List.set s8 j15 (FieldV.mk x16.name x18))) q5) := gcsM_over (f := encFieldV) (x' := (FieldV.mk x16.name x18)) (fun _ => ⟨rfl, rfl, rfl, rfl⟩) hy12 (by decide) rfl
      have hy20 := GF.setM (f := encFieldV) (x' := (FieldV.mk x16.name x18)) (hs_o1) hy12
      try simp (disch := first | assumption | omega | (simp only [h_sl, h_al] <;> omega) | fail) only [WW, WH, ↓reduceIte, nA, nB, nC, nD, nE, nF, nG, reduceCtorEq, L_ref18_Split, hy11, hy13, hy14, hy15, hy16, hy11, hy17, hy18, encFieldV, encL1b8]
      have hq := Option.some.inj h; subst hq
      refine hN _ rfl _ _ _ _ ?_ (WxH.refl _) ⟨q4, q5, rfl, (Fr.set (s := q4) hfr (.inr hy19)), hy20⟩
      exact WE.cons (Wx.oo) (WE.cons (Wx.nn) (WE.cons (Wx.gslE (by simp)) (WE.cons (Wx.int) (WE.cons (Wx.int) (WE.nil)))))
    · refine UC_f hy10 ?_
      try simp (disch := first | assumption | omega | (simp only [h_sl, h_al] <;> omega) | fail) only [WW, WH, ↓reduceIte, nA, nB, nC, nD, nE, nF, nG, reduceCtorEq, L_ref18_Split, encFieldV, encL1b8]
      obtain ⟨⟨r19, r20⟩, hy21, h⟩ := bnd' h
      dsimp only at h
      refine UK_e (as' := [(.str x9)]) (h := ref18_field_ok (s1 := x9) (F := F)  hy21) (hw := WL.cons (Wx.str) (WL.nil)) (hh := WxH.refl _) ?_
      try simp (disch := first | assumption | omega | (simp only [h_sl, h_al] <;> omega) | fail) only [WW, WH, ↓reduceIte, nA, nB, nC, nD, nE, nF, nG, reduceCtorEq, L_ref18_Split, encFieldV, encL1b8]
      rcases ifb h with ⟨hy22, h⟩ | ⟨hy22, h⟩
      · refine UC_t hy22 ?_
        try simp (disch := first | assumption | omega | (simp only [h_sl, h_al] <;> omega) | fail) only [WW, WH, ↓reduceIte, nA, nB, nC, nD, nE, nF, nG, reduceCtorEq, L_ref18_Split, encFieldV, encL1b8]
        obtain ⟨at24, hy24, h⟩ := bnd' h
        refine UX_of (AX.weak ?_ (WxH.refl _) (ref18_Split_p2_ok  (x9 := x9) (at6 := at6) (r2 := r2) (s8 := s8) (at23 := at24) (q21 := q4) (q22 := q5) ((Fr.set (s := H.length) (Fr.app hfr) (.inr (by first | assumption | omega | (simp only [h_sl, h_al] <;> omega) | fail)))) (GF.of hs_o1 (fun hl hn => (h_ne (by first | assumption | omega | (simp only [h_sl, h_al] <;> omega) | fail)).trans ((h_app (by first | assumption | omega | (simp only [h_sl, h_al] <;> omega) | fail)).trans (rfl)))) hy24 ?_))
        · exact WE.cons (Wx.oo) (WE.cons (Wx.gslE (by simp)) (WE.cons (Wx.int) (WE.cons (Wx.bool) (WE.nil))))
        intro H hfr hs_o1
        have hle := hfr.le
        try simp (disch := first | assumption | omega | (simp only [h_sl, h_al] <;> omega) | fail) only [WW, WH, ↓reduceIte, nA, nB, nC, nD, nE, nF, nG, reduceCtorEq, L_ref18_Split, encFieldV, encL1b8]
        refine UX_of ?_
        apply AX.layG (n1 := H0.length) (by decide) (EK.ml (f := encFieldV) (fun _ => ⟨rfl, rfl, rfl, rfl⟩) s8) (hs_o1)
        · repeat (first | exact FG.nil | apply FG.lay _ _ _ _ (len_ml _ _).symm | apply FG.same)
        intro H hsm hln
        have hfr := Fr.lay hfr hsm hln
        have hle := hfr.le
        obtain ⟨⟨t28, t29⟩, hy27, h⟩ := bnd' h
        dsimp only at h
        refine UX_of (AX.weak ?_ (WxH.refl _) (ref18_Split_p3_ok  (r2 := r2) (at24 := at24) (s8 := s8) (t26 := t28) (t27 := t29)  (hfr) hy27 ?_))
        · exact WE.cons (Wx.oo) (WE.cons (Wx.nn) (WE.cons (Wx.int) (WE.nil)))
        intro H hfr
        have hle := hfr.le
        try simp (disch := first | assumption | omega | (simp only [h_sl, h_al] <;> omega) | fail) only [WW, WH, ↓reduceIte, nA, nB, nC, nD, nE, nF, nG, reduceCtorEq, L_ref18_Split, encFieldV, encL1b8]
        have hq := Option.some.inj h; subst hq
        refine hX _ _ _ _ _ (by simp) ?_ (WxH.refl _) (kr _ (hR _ rfl) _ hfr)
        exact WE.cons (Wx.nn) (WE.cons (Wx.nn) (WE.nil))
      · refine UC_f hy22 ?_
        obtain ⟨x30, hy28, h⟩ := bnd' h
        try simp (disch := first | assumption | omega | (simp only [h_sl, h_al] <;> omega) | fail) only [WW, WH, ↓reduceIte, nA, nB, nC, nD, nE, nF, nG, reduceCtorEq, L_ref18_Split, encFieldV, encL1b8]
        obtain ⟨q33, hg_q33⟩ : ∃ q : Nat, H.length = q := ⟨_, rfl⟩
        try rw [hg_q33]
        refine UG_appo (f := encFieldV) (X := s8) (Y := ([r19] : List FieldV)) (n1 := H0.length) (fun _ => ⟨rfl, rfl, rfl, rfl⟩) (by decide) rfl rfl rfl (by simp) hy28 ((GF.of hs_o1 (fun hl hn => (h_ne (by first | assumption | omega | (simp only [h_sl, h_al] <;> omega) | fail)).trans ((h_app (by first | assumption | omega | (simp only [h_sl, h_al] <;> omega) | fail)).trans (rfl))))) (by first | assumption | omega | (simp only [h_sl, h_al] <;> omega) | fail) fun q31 q32 H hsg hsm hln hqq => ?_
        have hfr := Fr.grow (Fr.set (s := q33) (Fr.app hfr) (.inr (by first | assumption | omega | (simp only [h_sl, h_al] <;> omega) | fail))) hsm hln
        have hs_o2 : H[q33]? = some [(.str r19.name), (.str r19.value)] := (hsm _ (h_lt (by exact ((h_eq (by first | assumption | omega | (simp only [h_sl, h_al] <;> omega) | fail)).trans rfl))) (by first | exact .inl (by first | assumption | omega | (simp only [h_sl, h_al] <;> omega) | fail) | exact .inr (fun hc => by have hgl := GF.lt (hs_o1) hc; (first | assumption | omega | (simp only [h_sl, h_al] <;> omega) | fail)))).trans (by exact ((h_eq (by first | assumption | omega | (simp only [h_sl, h_al] <;> omega) | fail)).trans rfl))
        have hs_o1 := hsg
        have hle := hfr.le
        have hl_o2 := h_lt hs_o2
        try simp (disch := first | assumption | omega | (simp only [h_sl, h_al] <;> omega) | fail) only [WW, WH, ↓reduceIte, nA, nB, nC, nD, nE, nF, nG, reduceCtorEq, L_ref18_Split, hs_o2, encFieldV, encL1b8]
        have hq := Option.some.inj h; subst hq
        refine hN _ rfl _ _ _ _ ?_ (WxH.refl _) ⟨q31, q32, rfl, hfr, hs_o1⟩
        exact WE.cons (Wx.oo) (WE.cons (Wx.nn) (WE.cons (Wx.gslE (by simp)) (WE.cons (Wx.int) (WE.cons (Wx.int) (WE.nil)))))
  · refine UC_f hy3 ?_
    try simp (disch := first | assumption | omega | (simp only [h_sl, h_al] <;> omega) | fail) only [WW, WH, ↓reduceIte, nA, nB, nC, nD, nE, nF, nG, reduceCtorEq, L_ref18_Split, encFieldV, encL1b8]
    have hq := Option.some.inj h; subst hq
    refine hX _ _ _ _ _ (by simp) ?_ (WxH.refl _) (kb0 _ (hB _ rfl) _ q4 q5 hfr hs_o1)
    exact WE.cons (Wx.gslE (by simp)) (WE.nil)
theorem ref18_Split_p4_ok {s39 : List FieldV} {H0 H : AH} (hfr : Fr H0 H0.length [] H) {K : Exit → Env → AH → Prop}
    (kn : ∀ H' : AH, Fr H0 H0.length [] H' → K .normal [(2, (.sl .n 2 (ml encFieldV s39))), (3, (.sl .ex 1 []))] H') :
    AX Tryd.prog L_ref18_Split 89 H0.length c_ref18_Split_p4 K [(6, (.sl .n 2 (ml encFieldV s39)))] H := by
  refine AX.go (m := m_ref18_Split_p4) rfl (by decide) fun K' hK => ?_
  have hle := hfr.le
  try simp (disch := first | assumption | omega | (simp only [h_sl, h_al] <;> omega) | fail) only [WW, WH, ↓reduceIte, nA, nB, nC, nD, nE, nF, nG, reduceCtorEq, L_ref18_Split, m_ref18_Split_p4, c_ref18_Split_p4, encFieldV, encL1b8]
  refine hK _ _ _ _ _ ?_ (WxH.refl _) (kn _ hfr)
  exact WE.cons (Wx.nn) (WE.cons (Wx.ex) (WE.nil))
theorem ref18_Split_ok {F : Nat} {b1 : List UInt8}  {H0 : AH}  {rz0 : List FieldV} {rz1 : List UInt8} (h : ref18_Split F b1 = some (rz0, rz1)) :
    ACalls Tryd.prog 20 [(.sl .n 1 (ml b8 b1))] H0 fun v H' => v = (.tup [(.sl .n 2 (ml encFieldV rz0)), (.sl .n 1 (ml b8 rz1))]) ∧ H' = H0 := by
  refine ACalls.goX k_ref18_Split (m := m_ref18_Split) rfl L_ref18_Split (by decide) (by simp) fun hcl K0 hK0 => ?_
  refine AX.of_U (m := m_ref18_Split) rfl (by decide) ?_
  have hfr := Fr.refl H0 []
  have hle := hfr.le
  rw [ref18_Split.eq_1] at h
  obtain ⟨H, hHH⟩ : ∃ H, H = H0 := ⟨_, rfl⟩
  have hfr : Fr H0 H0.length [] H := hHH ▸ hfr
  have hle := hfr.le
  suffices hU : U Tryd.prog L_ref18_Split 89 H0.length [.code m_ref18_Split] K0 .normal (argE 0 [(.sl .n 1 (ml b8 b1))]) H by rwa [hHH] at hU
  try simp (disch := first | assumption | omega | (simp only [h_sl, h_al] <;> omega) | fail) only [WW, WH, ↓reduceIte, nA, nB, nC, nD, nE, nF, nG, reduceCtorEq, L_ref18_Split, m_ref18_Split, encFieldV, encL1b8]
  obtain ⟨r2, hy1, h⟩ := bnd' h
  refine UK_e (as' := [(.sl .n 1 (ml b8 b1))]) (h := ref17_Whole_ok (b1 := b1)  hy1) (hw := WL.cons (Wx.nn) (WL.nil)) (hh := WxH.refl _) ?_
  try simp (disch := first | assumption | omega | (simp only [h_sl, h_al] <;> omega) | fail) only [WW, WH, ↓reduceIte, nA, nB, nC, nD, nE, nF, nG, reduceCtorEq, L_ref18_Split, encFieldV, encL1b8]
  obtain ⟨r3, hy2, h⟩ := bnd' h
  refine UK_e (as' := [(.sl .n 1 (ml b8 b1))]) (h := ref17_Lines_ok (b1 := b1) (F := F)  hy2) (hw := WL.cons (Wx.nn) (WL.nil)) (hh := WxH.refl _) ?_
  try simp (disch := first | assumption | omega | (simp only [h_sl, h_al] <;> omega) | fail) only [WW, WH, ↓reduceIte, nA, nB, nC, nD, nE, nF, nG, reduceCtorEq, L_ref18_Split, encFieldV, encL1b8]
  obtain ⟨o46, hy29, h⟩ := bnd' h
  refine UX_of (AX.weak ?_ (WxH.refl _) (ref18_Split_l1_ok  (r3 := r3) (r2 := r2) (at6 := 0) (i7 := 0) (s8 := ([] : List FieldV)) (q4 := 0) (q5 := 0) (hfr) GF.nil (o := o46) hy29 ?_ ?_))
  · exact WE.cons (Wx.oo) (WE.cons (Wx.nn) (WE.cons (Wx.gslE (by simp)) (WE.cons (Wx.int) (WE.cons (Wx.int) (WE.nil)))))
  · rintro s39 rfl H q40 q41 hfr hs_o1
    try dsimp only at h hs_o1
    have hle := hfr.le
    try simp (disch := first | assumption | omega | (simp only [h_sl, h_al] <;> omega) | fail) only [WW, WH, ↓reduceIte, nA, nB, nC, nD, nE, nF, nG, reduceCtorEq, L_ref18_Split, encFieldV, encL1b8]
    refine UX_of ?_
    apply AX.layG (n1 := H0.length) (by decide) (EK.ml (f := encFieldV) (fun _ => ⟨rfl, rfl, rfl, rfl⟩) s39) (hs_o1)
    · repeat (first | exact FG.nil | apply FG.lay _ _ _ _ (len_ml _ _).symm | apply FG.same)
    intro H hsm hln
    have hfr := Fr.lay hfr hsm hln
    have hle := hfr.le
    refine UX_of (AX.weak ?_ (WxH.refl _) (ref18_Split_p4_ok (s39 := s39) (hfr) ?_))
    · exact WE.cons (Wx.nn) (WE.nil)
    intro H hfr 
    have hle := hfr.le
    try simp (disch := first | assumption | omega | (simp only [h_sl, h_al] <;> omega) | fail) only [WW, WH, ↓reduceIte, nA, nB, nC, nD, nE, nF, nG, reduceCtorEq, L_ref18_Split, encFieldV, encL1b8]
    have hq := Option.some.inj h; have hq0 := (Prod.mk.inj hq).1; replace hq := (Prod.mk.inj hq).2; subst hq0; subst hq
    refine hK0 _ _ _ (.inr rfl) ?_
    exact fn_end0 (by exact hfr) hcl (resv_tmp (a := (.sl .n 2 (ml encFieldV s39))) rfl rfl (resv_tmp (a := (.sl .ex 1 [])) rfl rfl resv_nil)) (by first | (simp [fin, b_df, b_sh, b_sh1, b_Cl]; done) | (simp [fin, AV.df, AV.sh, AV.sh1, b_df, b_sh, b_sh1, b_Cl]; done)) (Wx.tupX (W2L.same (W2L.n (W2L.nil)))) (r' := (.tup [(.sl .n 2 (ml encFieldV s39)), (.sl .n 1 (ml b8 ([] : List UInt8)))])) ⟨rfl, rfl⟩
  · rintro ⟨r42, r43⟩ rfl H hfr
    try dsimp only at h 
    have hle := hfr.le
    try simp (disch := first | assumption | omega | (simp only [h_sl, h_al] <;> omega) | fail) only [WW, WH, ↓reduceIte, nA, nB, nC, nD, nE, nF, nG, reduceCtorEq, L_ref18_Split, encFieldV, encL1b8]
    have hq := Option.some.inj h; have hq0 := (Prod.mk.inj hq).1; replace hq := (Prod.mk.inj hq).2; subst hq0; subst hq
    refine hK0 _ _ _ (.inr rfl) ?_
    exact fn_end0 (by exact hfr) hcl (resv_tmp (a := (.sl .n 2 (ml encFieldV r42))) rfl rfl (resv_tmp (a := (.sl .n 1 (ml b8 r43))) rfl rfl resv_nil)) (by first | (simp [fin, b_df, b_sh, b_sh1, b_Cl]; done) | (simp [fin, AV.df, AV.sh, AV.sh1, b_df, b_sh, b_sh1, b_Cl]; done)) (Wx.tupX (W2L.same (W2L.same (W2L.nil)))) (r' := (.tup [(.sl .n 2 (ml encFieldV r42)), (.sl .n 1 (ml b8 r43))])) ⟨rfl, rfl⟩

/-! ### mailbag/mailbagref14.Lower -/
def c_ref14_Lower_p1 : ACode := (.rg [⟨(some 13), (.mv (.t 3)), none⟩, ⟨(some 14), (.mv (.t 4)), none⟩, ⟨(some 15), (.ixa 1 (.t 13) (.t 14)), none⟩, ⟨(some 16), (.ld (.t 15) none), none⟩, ⟨(some 17), (.bin .geq (.t 16) (.c (b8 65))), none⟩, ⟨(some 18), (.mv (.t 17)), none⟩, ⟨(some 19), (.mv (.t 3)), (some (18, true))⟩, ⟨(some 20), (.mv (.t 4)), (some (18, true))⟩, ⟨(some 21), (.ixa 1 (.t 19) (.t 20)), (some (18, true))⟩, ⟨(some 22), (.ld (.t 21) none), (some (18, true))⟩, ⟨(some 23), (.bin .leq (.t 22) (.c (b8 90))), (some (18, true))⟩, ⟨(some 24), (.pick (.t 18) (.t 23) (.c (.bool false))), none⟩])
abbrev m_ref14_Lower_p1 := c_ref14_Lower_p1
def c_ref14_Lower_l1b : ACode := (.seq (.seq (.rg [⟨(some 7), (.mv (.t 4)), none⟩, ⟨(some 8), (.mv (.t 3)), none⟩, ⟨(some 9), (.len (.t 8)), none⟩, ⟨(some 10), (.bin .lss (.t 7) (.t 9)), none⟩]) (.cond (.t 10) .skip (.exit 0))) (.seq (.blk 1 (.seq c_ref14_Lower_p1 (.cond (.t 24) (.rg [⟨(some 25), (.mv (.t 3)), none⟩, ⟨(some 26), (.mv (.t 4)), none⟩, ⟨(some 27), (.mv (.t 3)), none⟩, ⟨(some 28), (.mv (.t 4)), none⟩, ⟨(some 29), (.ixa 1 (.t 27) (.t 28)), none⟩, ⟨(some 30), (.ld (.t 29) none), none⟩, ⟨(some 31), (.bin .add (.t 30) (.c (b8 32))), none⟩, ⟨(some 32), (.ixa 1 (.t 25) (.t 26)), none⟩, ⟨none, (.st (.t 32) (.t 31) 1), none⟩]) .skip))) (.rg [⟨(some 11), (.mv (.t 4)), none⟩, ⟨(some 12), (.bin .add (.t 11) (.c (.int .i64 1))), none⟩, ⟨(some 4), (.asg (.t 12)), none⟩])))
def c_ref14_Lower_l1 : ACode := (.loop c_ref14_Lower_l1b)
def m_ref14_Lower_l1b : ACode := (.seq (.seq (.rg [⟨(some 7), (.mv (.t 4)), none⟩, ⟨(some 8), (.mv (.t 3)), none⟩, ⟨(some 9), (.len (.t 8)), none⟩, ⟨(some 10), (.bin .lss (.t 7) (.t 9)), none⟩]) (.cond (.t 10) .skip (.exit 0))) (.seq (.blk 1 (.seq (.sem c_ref14_Lower_p1) (.cond (.t 24) (.rg [⟨(some 25), (.mv (.t 3)), none⟩, ⟨(some 26), (.mv (.t 4)), none⟩, ⟨(some 27), (.mv (.t 3)), none⟩, ⟨(some 28), (.mv (.t 4)), none⟩, ⟨(some 29), (.ixa 1 (.t 27) (.t 28)), none⟩, ⟨(some 30), (.ld (.t 29) none), none⟩, ⟨(some 31), (.bin .add (.t 30) (.c (b8 32))), none⟩, ⟨(some 32), (.ixa 1 (.t 25) (.t 26)), none⟩, ⟨none, (.st (.t 32) (.t 31) 1), none⟩]) .skip))) (.rg [⟨(some 11), (.mv (.t 4)), none⟩, ⟨(some 12), (.bin .add (.t 11) (.c (.int .i64 1))), none⟩, ⟨(some 4), (.asg (.t 12)), none⟩])))
def c_ref14_Lower : ACode := (.seq (.rg [⟨(some 2), (.asg (.c (.str []))), none⟩]) (.seq (.rg [⟨(some 5), (.mv (.t 0)), none⟩, ⟨(some 6), (.cvt .sb (.t 5)), none⟩, ⟨(some 3), (.asg (.t 6)), none⟩]) (.seq (.seq (.rg [⟨(some 4), (.asg (.c (.int .i64 0))), none⟩]) (.blk 0 c_ref14_Lower_l1)) (.seq (.rg [⟨(some 33), (.mv (.t 3)), none⟩, ⟨(some 34), (.cvt .bs (.t 33)), none⟩, ⟨(some 2), (.asg (.t 34)), none⟩]) .ret))))
def m_ref14_Lower : ACode := (.seq (.rg [⟨(some 2), (.asg (.c (.str []))), none⟩]) (.seq (.rg [⟨(some 5), (.mv (.t 0)), none⟩, ⟨(some 6), (.cvto (.t 5)), none⟩, ⟨(some 3), (.asg (.t 6)), none⟩]) (.seq (.seq (.rg [⟨(some 4), (.asg (.c (.int .i64 0))), none⟩]) (.blk 0 c_ref14_Lower_l1)) (.seq (.rg [⟨(some 33), (.mv (.t 3)), none⟩, ⟨(some 34), (.cvt .bs (.t 33)), none⟩, ⟨(some 2), (.asg (.t 34)), none⟩]) .ret))))
theorem k_ref14_Lower : FnOk Tryd.prog 42 35 [(.tmp 2)] c_ref14_Lower := ⟨Tryd.f42, _, rfl, by decide, rfl, by kernel_rfl, rfl, rfl⟩
abbrev L_ref14_Lower : List Nat := [0, 2, 3, 4, 10, 24]
def ref14_Lower_p1 (s1 : List UInt8) (i3 : Int) (s4 : List UInt8) : Option (Bool) :=
  (ixm s1.length i3).bind fun j6 =>
  (s4[j6]?).bind fun x7 =>
  (if (decide (65 ≤ x7)) then
    some (decide (x7 ≤ 90))
  else
    some false)
def ref14_Lower_l1 (s1 : List UInt8) : (Int × (List UInt8)) → Option (St (List UInt8) (List UInt8) (Int × (List UInt8)))
  | (i3, s4) =>
    (if (decide (i3 < (s1.length : Int))) then
      (ref14_Lower_p1 s1 i3 s4).bind fun t9 =>
      (if t9 then
        (ixm s1.length i3).bind fun j10 =>
        (s4[j10]?).bind fun x11 =>
        (setx s4 j10 (x11 + 32)).bind fun s12 => some (.nxt ((IntKind.wrap .i64 (i3 + 1)), s12))
      else
        some (.nxt ((IntKind.wrap .i64 (i3 + 1)), s4)))
    else
      some (.brk s4))
def ref14_Lower (F : Nat) (s1 : List UInt8) : Option ((List UInt8)) :=
  ((iter (ref14_Lower_l1 s1) F (0, s1)).bind fun o16 =>
  match o16 with
  | .inr s14 =>
    (sub s14 0 (s1.length : Int)).bind fun x15 => some x15
  | .inl _ => none)
theorem ref14_Lower_p1_ok {s1 : List UInt8} {i3 : Int} {s4 : List UInt8} {q5 : Nat} {H0 H : AH} (hfr : Fr H0 H0.length [] H) (hs_o1 : H[q5]? = some (ml b8 s4)) (hi0 : H0.length ≤ q5) {K : Exit → Env → AH → Prop} {t8 : Bool}
    (h : ref14_Lower_p1 s1 i3 s4 = some t8)
    (kn : ∀ H' : AH, Fr H0 H0.length [] H' → H'[q5]? = some (ml b8 s4) → K .normal [(3, (.msl q5 1 0 s1.length)), (4, (.int .i64 i3)), (24, (.bool t8))] H') :
    AX Tryd.prog L_ref14_Lower 35 H0.length c_ref14_Lower_p1 K [(3, (.msl q5 1 0 s1.length)), (4, (.int .i64 i3))] H := by
  refine AX.go (m := m_ref14_Lower_p1) rfl (by decide) fun K' hK => ?_
  have hle := hfr.le
  have hl_o1 := h_lt hs_o1
  rw [ref14_Lower_p1.eq_1] at h
  obtain ⟨j6, hy2, h⟩ := bnd' h
  obtain ⟨x7, hy3, h⟩ := bnd' h
  try simp (disch := first | assumption | omega | (simp only [h_sl, h_al] <;> omega) | fail) only [WW, WH, ↓reduceIte, nA, nB, nC, nD, nE, nF, nG, reduceCtorEq, L_ref14_Lower, m_ref14_Lower_p1, c_ref14_Lower_p1, hy2, hy3, hs_o1, encFieldV, encL1b8]
  rcases ifb h with ⟨hy4, h⟩ | ⟨hy4, h⟩
  · refine UG_go hy4 ?_
    try simp (disch := first | assumption | omega | (simp only [h_sl, h_al] <;> omega) | fail) only [WW, WH, ↓reduceIte, nA, nB, nC, nD, nE, nF, nG, reduceCtorEq, L_ref14_Lower, hy4, hy2, hy3, hs_o1, encFieldV, encL1b8]
    have hq := Option.some.inj h; subst hq
    refine hK _ _ _ _ _ ?_ (WxH.refl _) (kn _ hfr ((hs_o1).trans rfl))
    exact WE.cons (Wx.msl) (WE.cons (Wx.int) (WE.cons (Wx.bool) (WE.nil)))
  · refine UG_nt hy4 ?_
    try simp (disch := first | assumption | omega | (simp only [h_sl, h_al] <;> omega) | fail) only [WW, WH, ↓reduceIte, nA, nB, nC, nD, nE, nF, nG, reduceCtorEq, L_ref14_Lower, hy4, hs_o1, encFieldV, encL1b8]
    have hq := Option.some.inj h; subst hq
    refine hK _ _ _ _ _ ?_ (WxH.refl _) (kn _ hfr ((hs_o1).trans rfl))
    exact WE.cons (Wx.msl) (WE.cons (Wx.int) (WE.cons (Wx.bool) (WE.nil)))
theorem ref14_Lower_l1_ok {F : Nat} {i3 : Int} {s1 : List UInt8} {s4 : List UInt8} {q2 : Nat} {H0 H : AH} (hfr : Fr H0 H0.length [] H) (hs_o1 : H[q2]? = some (ml b8 s4)) (hi0 : H0.length ≤ q2) {K : Exit → Env → AH → Prop} {o : ((List UInt8)) ⊕ ((List UInt8))}
    (h : iter (ref14_Lower_l1 s1) F (i3, s4) = some o)
    (kb0 : ∀ o' : (List UInt8), o = .inr o' → ∀ H' : AH, Fr H0 H0.length [] H' → H'[q2]? = some (ml b8 o') → K (.exit 0) [(3, (.msl q2 1 0 s1.length))] H') :
    AX Tryd.prog L_ref14_Lower 35 H0.length c_ref14_Lower_l1 K [(3, (.msl q2 1 0 s1.length)), (4, (.int .i64 i3))] H := by
  refine AX.iter (m := m_ref14_Lower_l1b) rfl (by decide) (fun s e H1 => match s with | (i3, s4) => e = [(3, (.msl q2 1 0 s1.length)), (4, (.int .i64 i3))] ∧ Fr H0 H0.length [] H1 ∧ H1[q2]? = some (ml b8 s4)) h ⟨rfl, hfr, hs_o1⟩ ?_
  skip
  rintro K' ⟨i3, s4⟩ st e H ⟨rfl, hfr, hs_o1⟩ h hN hB hR hX
  have hle := hfr.le
  have hl_o1 := h_lt hs_o1
  rw [ref14_Lower_l1.eq_1] at h
  try simp (disch := first | assumption | omega | (simp only [h_sl, h_al] <;> omega) | fail) only [WW, WH, ↓reduceIte, nA, nB, nC, nD, nE, nF, nG, reduceCtorEq, L_ref14_Lower, m_ref14_Lower_l1b, hs_o1, encFieldV, encL1b8]
  rcases ifb h with ⟨hy1, h⟩ | ⟨hy1, h⟩
  · refine UC_t hy1 ?_
    try simp (disch := first | assumption | omega | (simp only [h_sl, h_al] <;> omega) | fail) only [WW, WH, ↓reduceIte, nA, nB, nC, nD, nE, nF, nG, reduceCtorEq, L_ref14_Lower, hs_o1, encFieldV, encL1b8]
    obtain ⟨t9, hy5, h⟩ := bnd' h
    refine UX_of (AX.weak ?_ (WxH.refl _) (ref14_Lower_p1_ok  (s1 := s1) (i3 := i3) (s4 := s4) (t8 := t9) (q5 := q2) (hfr) ((hs_o1).trans rfl) (by first | assumption | omega | (simp only [h_sl, h_al] <;> omega) | fail) hy5 ?_))
    · exact WE.cons (Wx.msl) (WE.cons (Wx.int) (WE.nil))
    intro H hfr hs_o1
    have hle := hfr.le
    have hl_o1 := h_lt hs_o1
    try simp (disch := first | assumption | omega | (simp only [h_sl, h_al] <;> omega) | fail) only [WW, WH, ↓reduceIte, nA, nB, nC, nD, nE, nF, nG, reduceCtorEq, L_ref14_Lower, hs_o1, encFieldV, encL1b8]
    rcases ifb h with ⟨hy6, h⟩ | ⟨hy6, h⟩
    · refine UC_t hy6 ?_
      obtain ⟨j10, hy7, h⟩ := bnd' h
      obtain ⟨x11, hy8, h⟩ := bnd' h
      obtain ⟨s12, hy9, h⟩ := bnd' h
      try simp (disch := first | assumption | omega | (simp only [h_sl, h_al] <;> omega) | fail) only [WW, WH, ↓reduceIte, nA, nB, nC, nD, nE, nF, nG, reduceCtorEq, L_ref14_Lower, hy7, hy8, hy7, hy9, hs_o1, encFieldV, encL1b8]
      have hq := Option.some.inj h; subst hq
      refine hN _ rfl _ _ _ _ ?_ (WxH.refl _) ⟨rfl, (Fr.set (s := q2) hfr (.inr (by first | assumption | omega | (simp only [h_sl, h_al] <;> omega) | fail))), ((h_eq (by first | assumption | omega | (simp only [h_sl, h_al] <;> omega) | fail)).trans rfl)⟩
      exact WE.cons (Wx.msl) (WE.cons (Wx.int) (WE.nil))
    · refine UC_f hy6 ?_
      try simp (disch := first | assumption | omega | (simp only [h_sl, h_al] <;> omega) | fail) only [WW, WH, ↓reduceIte, nA, nB, nC, nD, nE, nF, nG, reduceCtorEq, L_ref14_Lower, hs_o1, encFieldV, encL1b8]
      have hq := Option.some.inj h; subst hq
      refine hN _ rfl _ _ _ _ ?_ (WxH.refl _) ⟨rfl, hfr, ((hs_o1).trans rfl)⟩
      exact WE.cons (Wx.msl) (WE.cons (Wx.int) (WE.nil))
  · refine UC_f hy1 ?_
    try simp (disch := first | assumption | omega | (simp only [h_sl, h_al] <;> omega) | fail) only [WW, WH, ↓reduceIte, nA, nB, nC, nD, nE, nF, nG, reduceCtorEq, L_ref14_Lower, hs_o1, encFieldV, encL1b8]
    have hq := Option.some.inj h; subst hq
    refine hX _ _ _ _ _ (by simp) ?_ (WxH.refl _) (kb0 _ (hB _ rfl) _ hfr ((hs_o1).trans rfl))
    exact WE.cons (Wx.msl) (WE.nil)
theorem ref14_Lower_ok {F : Nat} {s1 : List UInt8}  {H0 : AH}  {rz0 : List UInt8} (h : ref14_Lower F s1 = some rz0) :
    ACalls Tryd.prog 42 [(.str s1)] H0 fun v H' => v = (.str rz0) ∧ H' = H0 := by
  refine ACalls.goX k_ref14_Lower (m := m_ref14_Lower) rfl L_ref14_Lower (by decide) (by simp) fun hcl K0 hK0 => ?_
  refine AX.of_U (m := m_ref14_Lower) rfl (by decide) ?_
  have hfr := Fr.refl H0 []
  have hle := hfr.le
  rw [ref14_Lower.eq_1] at h
  obtain ⟨H, hHH⟩ : ∃ H, H = H0 := ⟨_, rfl⟩
  have hfr : Fr H0 H0.length [] H := hHH ▸ hfr
  have hle := hfr.le
  suffices hU : U Tryd.prog L_ref14_Lower 35 H0.length [.code m_ref14_Lower] K0 .normal (argE 0 [(.str s1)]) H by rwa [hHH] at hU
  try simp (disch := first | assumption | omega | (simp only [h_sl, h_al] <;> omega) | fail) only [WW, WH, ↓reduceIte, nA, nB, nC, nD, nE, nF, nG, reduceCtorEq, L_ref14_Lower, m_ref14_Lower, encFieldV, encL1b8]
  obtain ⟨q2, hg_q2⟩ : ∃ q : Nat, H.length = q := ⟨_, rfl⟩
  try rw [hg_q2]
  obtain ⟨o16, hy10, h⟩ := bnd' h
  refine UX_of (AX.weak ?_ (WxH.refl _) (ref14_Lower_l1_ok  (s1 := s1) (i3 := 0) (s4 := s1) (q2 := q2) ((Fr.app hfr)) ((h_new' (by first | assumption | omega | (simp only [h_sl, h_al] <;> omega) | fail)).trans rfl) (by first | assumption | omega | (simp only [h_sl, h_al] <;> omega) | fail) (o := o16) hy10 ?_))
  · exact WE.cons (Wx.msl) (WE.cons (Wx.int) (WE.nil))
  · rintro s14 rfl H hfr hs_o1
    try dsimp only at h hs_o1
    have hle := hfr.le
    have hl_o1 := h_lt hs_o1
    obtain ⟨x15, hy11, h⟩ := bnd' h
    try simp (disch := first | assumption | omega | (simp only [h_sl, h_al] <;> omega) | fail) only [WW, WH, ↓reduceIte, nA, nB, nC, nD, nE, nF, nG, reduceCtorEq, L_ref14_Lower, hy11, hs_o1, encFieldV, encL1b8]
    have hq := Option.some.inj h; subst hq
    refine hK0 _ _ _ (.inr rfl) ?_
    exact fn_end0 (by exact hfr) hcl (resv_tmp (a := (.str x15)) rfl rfl resv_nil) (by first | (simp [fin, b_df, b_sh, b_sh1, b_Cl]; done) | (simp [fin, AV.df, AV.sh, AV.sh1, b_df, b_sh, b_sh1, b_Cl]; done)) (Wx.str) (r' := (.str x15)) ⟨rfl, rfl⟩

/-! ### mailbag/mailbagref18.Get -/
def c_ref18_Get_l1b : ACode := (.seq (.seq (.rg [⟨(some 9), (.mv (.t 8)), none⟩, ⟨(some 10), (.mv (.t 0)), none⟩, ⟨(some 11), (.len (.t 10)), none⟩, ⟨(some 12), (.bin .lss (.t 9) (.t 11)), none⟩]) (.cond (.t 12) .skip (.exit 0))) (.seq (.blk 1 (.seq (.rg [⟨(some 15), (.mv (.t 0)), none⟩, ⟨(some 16), (.mv (.t 8)), none⟩, ⟨(some 17), (.ixa 2 (.t 15) (.t 16)), none⟩, ⟨(some 18), (.fld (.t 17) 0), none⟩, ⟨(some 19), (.ld (.t 18) none), none⟩, ⟨(some 20), (.call (.c (.fn 42 [])) [(.t 19)]), none⟩, ⟨(some 21), (.mv (.t 1)), none⟩, ⟨(some 22), (.call (.c (.fn 42 [])) [(.t 21)]), none⟩, ⟨(some 23), (.bin .eql (.t 20) (.t 22)), none⟩]) (.cond (.t 23) (.seq (.seq (.rg [⟨(some 24), (.mv (.t 7)), none⟩, ⟨(some 25), (.bin .eql (.t 24) (.c (.int .i64 0))), none⟩]) (.cond (.t 25) (.rg [⟨(some 26), (.mv (.t 0)), none⟩, ⟨(some 27), (.mv (.t 8)), none⟩, ⟨(some 28), (.ixa 2 (.t 26) (.t 27)), none⟩, ⟨(some 29), (.fld (.t 28) 1), none⟩, ⟨(some 30), (.ld (.t 29) none), none⟩, ⟨(some 6), (.asg (.t 30)), none⟩]) .skip)) (.rg [⟨(some 31), (.mv (.t 7)), none⟩, ⟨(some 32), (.bin .add (.t 31) (.c (.int .i64 1))), none⟩, ⟨(some 7), (.asg (.t 32)), none⟩])) .skip))) (.rg [⟨(some 13), (.mv (.t 8)), none⟩, ⟨(some 14), (.bin .add (.t 13) (.c (.int .i64 1))), none⟩, ⟨(some 8), (.asg (.t 14)), none⟩])))
def c_ref18_Get_l1 : ACode := (.loop c_ref18_Get_l1b)
abbrev m_ref18_Get_l1b := c_ref18_Get_l1b
def c_ref18_Get : ACode := (.seq (.rg [⟨(some 4), (.asg (.c (.str []))), none⟩, ⟨(some 5), (.asg (.c (.int .i64 0))), none⟩]) (.seq (.rg [⟨(some 6), (.asg (.c (.str []))), none⟩]) (.seq (.rg [⟨(some 7), (.asg (.c (.int .i64 0))), none⟩]) (.seq (.seq (.rg [⟨(some 8), (.asg (.c (.int .i64 0))), none⟩]) (.blk 0 c_ref18_Get_l1)) (.seq (.rg [⟨(some 33), (.mv (.t 6)), none⟩, ⟨(some 34), (.mv (.t 7)), none⟩, ⟨(some 4), (.asg (.t 33)), none⟩, ⟨(some 5), (.asg (.t 34)), none⟩]) .ret)))))
abbrev m_ref18_Get := c_ref18_Get
theorem k_ref18_Get : FnOk Tryd.prog 21 35 [(.tmp 4), (.tmp 5)] c_ref18_Get := ⟨Tryd.f21, _, rfl, by decide, rfl, by kernel_rfl, rfl, rfl⟩
abbrev L_ref18_Get : List Nat := [0, 1, 4, 5, 6, 7, 8, 12, 23, 25]
def ref18_Get_l1 (F : Nat) (l1 : List FieldV) (name2 : List UInt8) : ((List UInt8) × Int × Int) → Option (St ((List UInt8) × Int) ((List UInt8) × Int) ((List UInt8) × Int × Int))
  | (v3, nn4, i5) =>
    (if (decide (i5 < (l1.length : Int))) then
      (idx l1 i5).bind fun x6 =>
      (ref14_Lower F x6.name).bind fun r7 =>
      (ref14_Lower F name2).bind fun r8 =>
      (if (decide (r7 = r8)) then
        (if (decide (nn4 = 0)) then
          some (.nxt (x6.value, (IntKind.wrap .i64 (nn4 + 1)), (IntKind.wrap .i64 (i5 + 1))))
        else
          some (.nxt (v3, (IntKind.wrap .i64 (nn4 + 1)), (IntKind.wrap .i64 (i5 + 1)))))
      else
        some (.nxt (v3, nn4, (IntKind.wrap .i64 (i5 + 1)))))
    else
      some (.brk (v3, nn4)))
def ref18_Get (F : Nat) (l1 : List FieldV) (name2 : List UInt8) : Option ((List UInt8) × Int) :=
  ((iter (ref18_Get_l1 F l1 name2) F (([] : List UInt8), 0, 0)).bind fun o13 =>
  match o13 with
  | .inr (v11, nn12) =>
    some (v11, nn12)
  | .inl _ => none)
theorem ref18_Get_l1_ok {F : Nat} {i5 : Int} {l1 : List FieldV} {name2 : List UInt8} {nn4 : Int} {v3 : List UInt8} {H : AH}  {K : Exit → Env → AH → Prop} {o : ((List UInt8) × Int) ⊕ ((List UInt8) × Int)}
    (h : iter (ref18_Get_l1 F l1 name2) F (v3, nn4, i5) = some o)
    (kb0 : ∀ o' : (List UInt8) × Int, o = .inr o' → K (.exit 0) [(6, (.str o'.1)), (7, (.int .i64 o'.2))] H) :
    AX Tryd.prog L_ref18_Get 35 H.length c_ref18_Get_l1 K [(0, (.sl .n 2 (ml encFieldV l1))), (1, (.str name2)), (6, (.str v3)), (7, (.int .i64 nn4)), (8, (.int .i64 i5))] H := by
  refine AX.iter (m := m_ref18_Get_l1b) rfl (by decide) (fun s e H1 => match s with | (v3, nn4, i5) => e = [(0, (.sl .n 2 (ml encFieldV l1))), (1, (.str name2)), (6, (.str v3)), (7, (.int .i64 nn4)), (8, (.int .i64 i5))] ∧ H1 = H) h ⟨rfl, rfl⟩ ?_
  rintro K' ⟨v3, nn4, i5⟩ st e H ⟨rfl, rfl⟩ h hN hB hR hX
  rw [ref18_Get_l1.eq_1] at h
  try simp only [WW, ↓reduceIte, nA, nB, nC, nD, nE, nF, nG, reduceCtorEq, L_ref18_Get, m_ref18_Get_l1b, c_ref18_Get_l1b, encFieldV, encL1b8]
  rcases ifb h with ⟨hy1, h⟩ | ⟨hy1, h⟩
  · refine UC_t hy1 ?_
    obtain ⟨x6, hy2, h⟩ := bnd' h
    try simp only [WW, ↓reduceIte, nA, nB, nC, nD, nE, nF, nG, reduceCtorEq, L_ref18_Get, hy2, encFieldV, encL1b8]
    obtain ⟨r7, hy3, h⟩ := bnd' h
    refine UK_e (as' := [(.str x6.name)]) (h := ref14_Lower_ok (s1 := x6.name) (F := F)  hy3) (hw := WL.cons (Wx.str) (WL.nil)) (hh := WxH.refl _) ?_
    try simp only [WW, ↓reduceIte, nA, nB, nC, nD, nE, nF, nG, reduceCtorEq, L_ref18_Get, encFieldV, encL1b8]
    obtain ⟨r8, hy4, h⟩ := bnd' h
    refine UK_e (as' := [(.str name2)]) (h := ref14_Lower_ok (s1 := name2) (F := F)  hy4) (hw := WL.cons (Wx.str) (WL.nil)) (hh := WxH.refl _) ?_
    try simp only [WW, ↓reduceIte, nA, nB, nC, nD, nE, nF, nG, reduceCtorEq, L_ref18_Get, encFieldV, encL1b8]
    rcases ifb h with ⟨hy5, h⟩ | ⟨hy5, h⟩
    · refine UC_t hy5 ?_
      try simp only [WW, ↓reduceIte, nA, nB, nC, nD, nE, nF, nG, reduceCtorEq, L_ref18_Get, encFieldV, encL1b8]
      rcases ifb h with ⟨hy6, h⟩ | ⟨hy6, h⟩
      · refine UC_t hy6 ?_
        try simp only [WW, ↓reduceIte, nA, nB, nC, nD, nE, nF, nG, reduceCtorEq, L_ref18_Get, hy2, encFieldV, encL1b8]
        have hq := Option.some.inj h; subst hq
        refine hN _ rfl _ _ _ _ ?_ (WxH.refl _) ⟨rfl, rfl⟩
        exact WE.cons (Wx.nn) (WE.cons (Wx.str) (WE.cons (Wx.str) (WE.cons (Wx.int) (WE.cons (Wx.int) (WE.nil)))))
      · refine UC_f hy6 ?_
        try simp only [WW, ↓reduceIte, nA, nB, nC, nD, nE, nF, nG, reduceCtorEq, L_ref18_Get, encFieldV, encL1b8]
        have hq := Option.some.inj h; subst hq
        refine hN _ rfl _ _ _ _ ?_ (WxH.refl _) ⟨rfl, rfl⟩
        exact WE.cons (Wx.nn) (WE.cons (Wx.str) (WE.cons (Wx.str) (WE.cons (Wx.int) (WE.cons (Wx.int) (WE.nil)))))
    · refine UC_f hy5 ?_
      try simp only [WW, ↓reduceIte, nA, nB, nC, nD, nE, nF, nG, reduceCtorEq, L_ref18_Get, encFieldV, encL1b8]
      have hq := Option.some.inj h; subst hq
      refine hN _ rfl _ _ _ _ ?_ (WxH.refl _) ⟨rfl, rfl⟩
      exact WE.cons (Wx.nn) (WE.cons (Wx.str) (WE.cons (Wx.str) (WE.cons (Wx.int) (WE.cons (Wx.int) (WE.nil)))))
  · refine UC_f hy1 ?_
    try simp only [WW, ↓reduceIte, nA, nB, nC, nD, nE, nF, nG, reduceCtorEq, L_ref18_Get, encFieldV, encL1b8]
    have hq := Option.some.inj h; subst hq
    refine hX _ _ _ _ _ (by simp) ?_ (WxH.refl _) (kb0 _ (hB _ rfl) )
    exact WE.cons (Wx.str) (WE.cons (Wx.int) (WE.nil))
theorem ref18_Get_ok {F : Nat} {l1 : List FieldV} {name2 : List UInt8}  {H0 : AH}  {rz0 : List UInt8} {rz1 : Int} (h : ref18_Get F l1 name2 = some (rz0, rz1)) :
    ACalls Tryd.prog 21 [(.sl .n 2 (ml encFieldV l1)), (.str name2)] H0 fun v H' => v = (.tup [(.str rz0), (.int .i64 rz1)]) ∧ H' = H0 := by
  refine ACalls.goX k_ref18_Get (m := m_ref18_Get) rfl L_ref18_Get (by decide) (by simp) fun hcl K0 hK0 => ?_
  refine AX.of_U (m := m_ref18_Get) rfl (by decide) ?_
  rw [ref18_Get.eq_1] at h
  try simp only [WW, ↓reduceIte, nA, nB, nC, nD, nE, nF, nG, reduceCtorEq, L_ref18_Get, m_ref18_Get, c_ref18_Get, encFieldV, encL1b8]
  obtain ⟨o13, hy7, h⟩ := bnd' h
  refine UX_of (AX.weak ?_ (WxH.refl _) (ref18_Get_l1_ok  (l1 := l1) (name2 := name2) (v3 := ([] : List UInt8)) (nn4 := 0) (i5 := 0)   (o := o13) hy7 ?_))
  · exact WE.cons (Wx.nn) (WE.cons (Wx.str) (WE.cons (Wx.str) (WE.cons (Wx.int) (WE.cons (Wx.int) (WE.nil)))))
  · rintro ⟨v11, nn12⟩ rfl  
    try dsimp only at h 
    try simp only [WW, ↓reduceIte, nA, nB, nC, nD, nE, nF, nG, reduceCtorEq, L_ref18_Get, encFieldV, encL1b8]
    have hq := Option.some.inj h; have hq0 := (Prod.mk.inj hq).1; replace hq := (Prod.mk.inj hq).2; subst hq0; subst hq
    refine hK0 _ _ _ (.inr rfl) ?_
    exact fn_endp hcl (resv_tmp (a := (.str v11)) rfl rfl (resv_tmp (a := (.int .i64 nn12)) rfl rfl resv_nil)) (by first | (simp [fin, b_df, b_sh, b_sh1, b_Cl]; done) | (simp [fin, AV.df, AV.sh, AV.sh1, b_df, b_sh, b_sh1, b_Cl]; done)) (Wx.tupX (W2L.same (W2L.same (W2L.nil)))) (r' := (.tup [(.str v11), (.int .i64 nn12)])) ⟨rfl, rfl⟩

/-! ### mailbag/mailbaglaw18.same -/
def c_law18_same_l1b : ACode := (.seq (.seq (.rg [⟨(some 11), (.mv (.t 5)), none⟩, ⟨(some 12), (.mv (.t 0)), none⟩, ⟨(some 13), (.len (.t 12)), none⟩, ⟨(some 14), (.bin .lss (.t 11) (.t 13)), none⟩]) (.cond (.t 14) .skip (.exit 0))) (.seq (.blk 1 (.seq (.rg [⟨(some 17), (.mv (.t 0)), none⟩, ⟨(some 18), (.mv (.t 5)), none⟩, ⟨(some 19), (.ixa 2 (.t 17) (.t 18)), none⟩, ⟨(some 20), (.ld (.t 19) (some 2)), none⟩, ⟨(some 21), (.mv (.t 1)), none⟩, ⟨(some 22), (.mv (.t 5)), none⟩, ⟨(some 23), (.ixa 2 (.t 21) (.t 22)), none⟩, ⟨(some 24), (.ld (.t 23) (some 2)), none⟩, ⟨(some 25), (.seq [.s, .s] true (.t 20) (.t 24)), none⟩]) (.cond (.t 25) (.seq (.rg [⟨(some 4), (.asg (.c (.bool false))), none⟩]) .ret) .skip))) (.rg [⟨(some 15), (.mv (.t 5)), none⟩, ⟨(some 16), (.bin .add (.t 15) (.c (.int .i64 1))), none⟩, ⟨(some 5), (.asg (.t 16)), none⟩])))
def c_law18_same_l1 : ACode := (.loop c_law18_same_l1b)
abbrev m_law18_same_l1b := c_law18_same_l1b
def c_law18_same : ACode := (.seq (.rg [⟨(some 4), (.asg (.c (.bool false))), none⟩]) (.seq (.seq (.rg [⟨(some 6), (.mv (.t 0)), none⟩, ⟨(some 7), (.len (.t 6)), none⟩, ⟨(some 8), (.mv (.t 1)), none⟩, ⟨(some 9), (.len (.t 8)), none⟩, ⟨(some 10), (.bin .neq (.t 7) (.t 9)), none⟩]) (.cond (.t 10) (.seq (.rg [⟨(some 4), (.asg (.c (.bool false))), none⟩]) .ret) .skip)) (.seq (.seq (.rg [⟨(some 5), (.asg (.c (.int .i64 0))), none⟩]) (.blk 0 c_law18_same_l1)) (.seq (.rg [⟨(some 4), (.asg (.c (.bool true))), none⟩]) .ret))))
abbrev m_law18_same := c_law18_same
theorem k_law18_same : FnOk Tryd.prog 22 26 [(.tmp 4)] c_law18_same := ⟨Tryd.f22, _, rfl, by decide, rfl, by kernel_rfl, rfl, rfl⟩
abbrev L_law18_same : List Nat := [0, 1, 4, 5, 10, 14, 25]
def law18_same_l1 (a1 : List FieldV) (b2 : List FieldV) : (Bool × Int) → Option (St Bool Unit (Bool × Int))
  | (t3, i4) =>
    (if (decide (i4 < (a1.length : Int))) then
      (idx a1 i4).bind fun x5 =>
      (idx b2 i4).bind fun x6 =>
      (if (!(decide (x5.name = x6.name) && decide (x5.value = x6.value))) then
        some (.ret false)
      else
        some (.nxt (t3, (IntKind.wrap .i64 (i4 + 1)))))
    else
      some (.brk ()))
def law18_same (F : Nat) (a1 : List FieldV) (b2 : List FieldV) : Option (Bool) :=
  (if (!decide ((a1.length : Int) = (b2.length : Int))) then
    some false
  else
    ((iter (law18_same_l1 a1 b2) F (false, 0)).bind fun o9 =>
    match o9 with
    | .inr () =>
      some true
    | .inl r8 =>
      some r8))
theorem law18_same_l1_ok {F : Nat} {i4 : Int} {a1 : List FieldV} {b2 : List FieldV} {t3 : Bool} {H : AH}  {K : Exit → Env → AH → Prop} {o : (Bool) ⊕ (Unit)}
    (h : iter (law18_same_l1 a1 b2) F (t3, i4) = some o)
    (kb0 : ∀ o' : Unit, o = .inr o' → K (.exit 0) [] H)
    (kr : ∀ o' : Bool, o = .inl o' → K .ret [(4, (.bool o'))] H) :
    AX Tryd.prog L_law18_same 26 H.length c_law18_same_l1 K [(0, (.sl .n 2 (ml encFieldV a1))), (1, (.sl .n 2 (ml encFieldV b2))), (4, (.bool t3)), (5, (.int .i64 i4))] H := by
  refine AX.iter (m := m_law18_same_l1b) rfl (by decide) (fun s e H1 => match s with | (t3, i4) => e = [(0, (.sl .n 2 (ml encFieldV a1))), (1, (.sl .n 2 (ml encFieldV b2))), (4, (.bool t3)), (5, (.int .i64 i4))] ∧ H1 = H) h ⟨rfl, rfl⟩ ?_
  rintro K' ⟨t3, i4⟩ st e H ⟨rfl, rfl⟩ h hN hB hR hX
  rw [law18_same_l1.eq_1] at h
  try simp only [WW, ↓reduceIte, nA, nB, nC, nD, nE, nF, nG, reduceCtorEq, L_law18_same, m_law18_same_l1b, c_law18_same_l1b, encFieldV, encL1b8]
  rcases ifb h with ⟨hy2, h⟩ | ⟨hy2, h⟩
  · refine UC_t hy2 ?_
    obtain ⟨x5, hy3, h⟩ := bnd' h
    obtain ⟨x6, hy4, h⟩ := bnd' h
    try simp only [WW, ↓reduceIte, nA, nB, nC, nD, nE, nF, nG, reduceCtorEq, L_law18_same, hy3, hy4, encFieldV, encL1b8]
    rcases ifb h with ⟨hy5, h⟩ | ⟨hy5, h⟩
    · refine UC_t hy5 ?_
      try simp only [WW, ↓reduceIte, nA, nB, nC, nD, nE, nF, nG, reduceCtorEq, L_law18_same, encFieldV, encL1b8]
      have hq := Option.some.inj h; subst hq
      refine hX _ _ _ _ _ (by simp) ?_ (WxH.refl _) (kr _ (hR _ rfl) )
      exact WE.cons (Wx.bool) (WE.nil)
    · refine UC_f hy5 ?_
      try simp only [WW, ↓reduceIte, nA, nB, nC, nD, nE, nF, nG, reduceCtorEq, L_law18_same, encFieldV, encL1b8]
      have hq := Option.some.inj h; subst hq
      refine hN _ rfl _ _ _ _ ?_ (WxH.refl _) ⟨rfl, rfl⟩
      exact WE.cons (Wx.nn) (WE.cons (Wx.nn) (WE.cons (Wx.bool) (WE.cons (Wx.int) (WE.nil))))
  · refine UC_f hy2 ?_
    try simp only [WW, ↓reduceIte, nA, nB, nC, nD, nE, nF, nG, reduceCtorEq, L_law18_same, encFieldV, encL1b8]
    have hq := Option.some.inj h; subst hq
    refine hX _ _ _ _ _ (by simp) ?_ (WxH.refl _) (kb0 _ (hB _ rfl) )
    exact WE.nil
theorem law18_same_ok {F : Nat} {a1 : List FieldV} {b2 : List FieldV}  {H0 : AH}  {rz0 : Bool} (h : law18_same F a1 b2 = some rz0) :
    ACalls Tryd.prog 22 [(.sl .n 2 (ml encFieldV a1)), (.sl .n 2 (ml encFieldV b2))] H0 fun v H' => v = (.bool rz0) ∧ H' = H0 := by
  refine ACalls.goX k_law18_same (m := m_law18_same) rfl L_law18_same (by decide) (by simp) fun hcl K0 hK0 => ?_
  refine AX.of_U (m := m_law18_same) rfl (by decide) ?_
  rw [law18_same.eq_1] at h
  try simp only [WW, ↓reduceIte, nA, nB, nC, nD, nE, nF, nG, reduceCtorEq, L_law18_same, m_law18_same, c_law18_same, encFieldV, encL1b8]
  rcases ifb h with ⟨hy1, h⟩ | ⟨hy1, h⟩
  · refine UC_t hy1 ?_
    try simp only [WW, ↓reduceIte, nA, nB, nC, nD, nE, nF, nG, reduceCtorEq, L_law18_same, encFieldV, encL1b8]
    have hq := Option.some.inj h; subst hq
    refine hK0 _ _ _ (.inr rfl) ?_
    exact fn_endp hcl (resv_tmp (a := (.bool false)) rfl rfl resv_nil) (by first | (simp [fin, b_df, b_sh, b_sh1, b_Cl]; done) | (simp [fin, AV.df, AV.sh, AV.sh1, b_df, b_sh, b_sh1, b_Cl]; done)) (Wx.bool) (r' := (.bool false)) ⟨rfl, rfl⟩
  · refine UC_f hy1 ?_
    try simp only [WW, ↓reduceIte, nA, nB, nC, nD, nE, nF, nG, reduceCtorEq, L_law18_same, encFieldV, encL1b8]
    obtain ⟨o9, hy6, h⟩ := bnd' h
    refine UX_of (AX.weak ?_ (WxH.refl _) (law18_same_l1_ok  (a1 := a1) (b2 := b2) (t3 := false) (i4 := 0)   (o := o9) hy6 ?_ ?_))
    · exact WE.cons (Wx.nn) (WE.cons (Wx.nn) (WE.cons (Wx.bool) (WE.cons (Wx.int) (WE.nil))))
    · rintro ⟨⟩ rfl  
      try dsimp only at h 
      try simp only [WW, ↓reduceIte, nA, nB, nC, nD, nE, nF, nG, reduceCtorEq, L_law18_same, encFieldV, encL1b8]
      have hq := Option.some.inj h; subst hq
      refine hK0 _ _ _ (.inr rfl) ?_
      exact fn_endp hcl (resv_tmp (a := (.bool true)) rfl rfl resv_nil) (by first | (simp [fin, b_df, b_sh, b_sh1, b_Cl]; done) | (simp [fin, AV.df, AV.sh, AV.sh1, b_df, b_sh, b_sh1, b_Cl]; done)) (Wx.bool) (r' := (.bool true)) ⟨rfl, rfl⟩
    · rintro r8 rfl  
      try dsimp only at h 
      try simp only [WW, ↓reduceIte, nA, nB, nC, nD, nE, nF, nG, reduceCtorEq, L_law18_same, encFieldV, encL1b8]
      have hq := Option.some.inj h; subst hq
      refine hK0 _ _ _ (.inr rfl) ?_
      exact fn_endp hcl (resv_tmp (a := (.bool r8)) rfl rfl resv_nil) (by first | (simp [fin, b_df, b_sh, b_sh1, b_Cl]; done) | (simp [fin, AV.df, AV.sh, AV.sh1, b_df, b_sh, b_sh1, b_Cl]; done)) (Wx.bool) (r' := (.bool r8)) ⟨rfl, rfl⟩

/-! ### mailbag/head.Hops -/
def c_head_Hops : ACode := (.seq (.rg [⟨(some 2), (.asg (.c (.int .i64 0))), none⟩]) (.seq (.rg [⟨(some 6), (.mv (.t 0)), none⟩, ⟨(some 7), (.call (.c (.fn 19 [])) [(.t 6), (.c (.str [82, 101, 99, 101, 105, 118, 101, 100]))]), none⟩, ⟨(some 5), (.mv (.t 7)), none⟩, ⟨(some 8), (.ext (.t 5) 0), none⟩, ⟨(some 9), (.ext (.t 5) 1), none⟩, ⟨(some 3), (.asg (.t 8)), none⟩, ⟨(some 4), (.asg (.t 9)), none⟩]) (.seq (.rg [⟨(some 10), (.mv (.t 4)), none⟩, ⟨(some 2), (.asg (.t 10)), none⟩]) .ret)))
abbrev m_head_Hops := c_head_Hops
theorem k_head_Hops : FnOk Tryd.prog 23 11 [(.tmp 2)] c_head_Hops := ⟨Tryd.f23, _, rfl, by decide, rfl, by kernel_rfl, rfl, rfl⟩
abbrev L_head_Hops : List Nat := [0, 2, 4]
def head_Hops (F : Nat) (l1 : List FieldV) : Option (Int) :=
  (head_Get F l1 ([82, 101, 99, 101, 105, 118, 101, 100] : List UInt8)).bind fun (r2, r3) => some r3
theorem head_Hops_ok {F : Nat} {l1 : List FieldV}  {H0 : AH}  {rz0 : Int} (h : head_Hops F l1 = some rz0) :
    ACalls Tryd.prog 23 [(.sl .n 2 (ml encFieldV l1))] H0 fun v H' => v = (.int .i64 rz0) ∧ H' = H0 := by
  refine ACalls.goX k_head_Hops (m := m_head_Hops) rfl L_head_Hops (by decide) (by simp) fun hcl K0 hK0 => ?_
  refine AX.of_U (m := m_head_Hops) rfl (by decide) ?_
  rw [head_Hops.eq_1] at h
  try simp only [WW, ↓reduceIte, nA, nB, nC, nD, nE, nF, nG, reduceCtorEq, L_head_Hops, m_head_Hops, c_head_Hops, encFieldV, encL1b8]
  obtain ⟨⟨r2, r3⟩, hy1, h⟩ := bnd' h
  dsimp only at h
  refine UK_e (as' := [(.sl .n 2 (ml encFieldV l1)), (.str ([82, 101, 99, 101, 105, 118, 101, 100] : List UInt8))]) (h := head_Get_ok (l1 := l1) (name2 := ([82, 101, 99, 101, 105, 118, 101, 100] : List UInt8)) (F := F)  hy1) (hw := WL.cons (Wx.nn) (WL.cons (Wx.str) (WL.nil))) (hh := WxH.refl _) ?_
  try simp only [WW, ↓reduceIte, nA, nB, nC, nD, nE, nF, nG, reduceCtorEq, L_head_Hops, encFieldV, encL1b8]
  have hq := Option.some.inj h; subst hq
  refine hK0 _ _ _ (.inr rfl) ?_
  exact fn_endp hcl (resv_tmp (a := (.int .i64 r3)) rfl rfl resv_nil) (by first | (simp [fin, b_df, b_sh, b_sh1, b_Cl]; done) | (simp [fin, AV.df, AV.sh, AV.sh1, b_df, b_sh, b_sh1, b_Cl]; done)) (Wx.int) (r' := (.int .i64 r3)) ⟨rfl, rfl⟩

/-! ### mailbag/mailbagref18.Hops -/
def c_ref18_Hops : ACode := (.seq (.rg [⟨(some 2), (.asg (.c (.int .i64 0))), none⟩]) (.seq (.rg [⟨(some 6), (.mv (.t 0)), none⟩, ⟨(some 7), (.call (.c (.fn 21 [])) [(.t 6), (.c (.str [114, 101, 99, 101, 105, 118, 101, 100]))]), none⟩, ⟨(some 5), (.mv (.t 7)), none⟩, ⟨(some 8), (.ext (.t 5) 0), none⟩, ⟨(some 9), (.ext (.t 5) 1), none⟩, ⟨(some 3), (.asg (.t 8)), none⟩, ⟨(some 4), (.asg (.t 9)), none⟩]) (.seq (.rg [⟨(some 10), (.mv (.t 4)), none⟩, ⟨(some 2), (.asg (.t 10)), none⟩]) .ret)))
abbrev m_ref18_Hops := c_ref18_Hops
theorem k_ref18_Hops : FnOk Tryd.prog 24 11 [(.tmp 2)] c_ref18_Hops := ⟨Tryd.f24, _, rfl, by decide, rfl, by kernel_rfl, rfl, rfl⟩
abbrev L_ref18_Hops : List Nat := [0, 2, 4]
def ref18_Hops (F : Nat) (l1 : List FieldV) : Option (Int) :=
  (ref18_Get F l1 ([114, 101, 99, 101, 105, 118, 101, 100] : List UInt8)).bind fun (r2, r3) => some r3
theorem ref18_Hops_ok {F : Nat} {l1 : List FieldV}  {H0 : AH}  {rz0 : Int} (h : ref18_Hops F l1 = some rz0) :
    ACalls Tryd.prog 24 [(.sl .n 2 (ml encFieldV l1))] H0 fun v H' => v = (.int .i64 rz0) ∧ H' = H0 := by
  refine ACalls.goX k_ref18_Hops (m := m_ref18_Hops) rfl L_ref18_Hops (by decide) (by simp) fun hcl K0 hK0 => ?_
  refine AX.of_U (m := m_ref18_Hops) rfl (by decide) ?_
  rw [ref18_Hops.eq_1] at h
  try simp only [WW, ↓reduceIte, nA, nB, nC, nD, nE, nF, nG, reduceCtorEq, L_ref18_Hops, m_ref18_Hops, c_ref18_Hops, encFieldV, encL1b8]
  obtain ⟨⟨r2, r3⟩, hy1, h⟩ := bnd' h
  dsimp only at h
  refine UK_e (as' := [(.sl .n 2 (ml encFieldV l1)), (.str ([114, 101, 99, 101, 105, 118, 101, 100] : List UInt8))]) (h := ref18_Get_ok (l1 := l1) (name2 := ([114, 101, 99, 101, 105, 118, 101, 100] : List UInt8)) (F := F)  hy1) (hw := WL.cons (Wx.nn) (WL.cons (Wx.str) (WL.nil))) (hh := WxH.refl _) ?_
  try simp only [WW, ↓reduceIte, nA, nB, nC, nD, nE, nF, nG, reduceCtorEq, L_ref18_Hops, encFieldV, encL1b8]
  have hq := Option.some.inj h; subst hq
  refine hK0 _ _ _ (.inr rfl) ?_
  exact fn_endp hcl (resv_tmp (a := (.int .i64 r3)) rfl rfl resv_nil) (by first | (simp [fin, b_df, b_sh, b_sh1, b_Cl]; done) | (simp [fin, AV.df, AV.sh, AV.sh1, b_df, b_sh, b_sh1, b_Cl]; done)) (Wx.int) (r' := (.int .i64 r3)) ⟨rfl, rfl⟩

/-! ### mailbag/mailbaglaw18.HeadTexts -/
def c_law18_HeadTexts_p1 : ACode := (.rg [⟨(some 15), (.mv (.t 0)), none⟩, ⟨(some 16), (.len (.t 15)), none⟩, ⟨(some 17), (.bin .gtr (.t 16) (.c (.int .i64 4096))), none⟩, ⟨(some 18), (.mv (.t 17)), none⟩, ⟨(some 19), (.mv (.t 1)), (some (18, false))⟩, ⟨(some 20), (.lens (.t 19)), (some (18, false))⟩, ⟨(some 21), (.bin .gtr (.t 20) (.c (.int .i64 300))), (some (18, false))⟩, ⟨(some 22), (.pick (.t 18) (.c (.bool true)) (.t 21)), none⟩])
abbrev m_law18_HeadTexts_p1 := c_law18_HeadTexts_p1
def c_law18_HeadTexts_p2 : ACode := (.rg (⟨(some 45), (.mv (.t 5)), none⟩ :: ⟨(some 46), (.mv (.t 7)), none⟩ :: ⟨(some 47), (.call (.c (.fn 22 [])) [(.t 45), (.t 46)]), none⟩ :: ⟨(some 48), (.mv (.t 47)), none⟩ :: ⟨(some 49), (.mv (.t 6)), (some (48, true))⟩ :: ⟨(some 50), (.cvt .bs (.t 49)), (some (48, true))⟩ :: ⟨(some 51), (.mv (.t 8)), (some (48, true))⟩ :: ⟨(some 52), (.cvt .bs (.t 51)), (some (48, true))⟩ :: ⟨(some 53), (.bin .eql (.t 50) (.t 52)), (some (48, true))⟩ :: ⟨(some 54), (.pick (.t 48) (.t 53) (.c (.bool false))), none⟩ :: ⟨(some 55), (.mv (.t 54)), none⟩ :: ⟨(some 56), (.mv (.t 9)), (some (55, true))⟩ :: ⟨(some 57), (.mv (.t 11)), (some (55, true))⟩ :: ⟨(some 58), (.bin .eql (.t 56) (.t 57)), (some (55, true))⟩ :: ⟨(some 59), (.pick (.t 55) (.t 58) (.c (.bool false))), none⟩ :: ⟨(some 60), (.mv (.t 59)), none⟩ :: ⟨(some 61), (.mv (.t 10)), (some (60, true))⟩ :: ⟨(some 62), (.mv (.t 12)), (some (60, true))⟩ :: ⟨(some 63), (.bin .eql (.t 61) (.t 62)), (some (60, true))⟩ :: ⟨(some 64), (.pick (.t 60) (.t 63) (.c (.bool false))), none⟩ :: ⟨(some 65), (.mv (.t 64)), none⟩ :: ⟨(some 66), (.mv (.t 5)), (some (65, true))⟩ :: ⟨(some 67), (.call (.c (.fn 23 [])) [(.t 66)]), (some (65, true))⟩ :: ⟨(some 68), (.mv (.t 7)), (some (65, true))⟩ :: ⟨(some 69), (.call (.c (.fn 24 [])) [(.t 68)]), (some (65, true))⟩ :: ⟨(some 70), (.bin .eql (.t 67) (.t 69)), (some (65, true))⟩ :: ⟨(some 71), (.pick (.t 65) (.t 70) (.c (.bool false))), none⟩ :: ⟨(some 72), (.mv (.t 71)), none⟩ :: ⟨(some 73), (.mv (.t 1)), (some (72, true))⟩ :: ⟨(some 74), (.call (.c (.fn 25 [])) [(.t 73)]), (some (72, true))⟩ :: ⟨(some 75), (.mv (.t 1)), (some (72, true))⟩ :: ⟨(some 76), (.call (.c (.fn 26 [])) [(.t 75)]), (some (72, true))⟩ :: ⟨(some 77), (.bq false (.t 74) (.t 76)), (some (72, true))⟩ :: ⟨(some 78), (.pick (.t 72) (.t 77) (.c (.bool false))), none⟩ :: ⟨(some 4), (.asg (.t 78)), none⟩ :: []))
abbrev m_law18_HeadTexts_p2 := c_law18_HeadTexts_p2
def c_law18_HeadTexts : ACode := (.seq (.rg [⟨(some 4), (.asg (.c (.bool false))), none⟩]) (.seq (.seq (.rg [⟨(some 13), (.call (.c (.fn 14 [])) []), none⟩, ⟨(some 14), (.un .not (.t 13)), none⟩]) (.cond (.t 14) (.seq (.rg [⟨(some 4), (.asg (.c (.bool false))), none⟩]) .ret) .skip)) (.seq (.seq c_law18_HeadTexts_p1 (.cond (.t 22) (.seq (.rg [⟨(some 4), (.asg (.c (.bool true))), none⟩]) .ret) .skip)) (.seq (.rg [⟨(some 24), (.mv (.t 0)), none⟩, ⟨(some 25), (.call (.c (.fn 18 [])) [(.t 24)]), none⟩, ⟨(some 23), (.mv (.t 25)), none⟩, ⟨(some 26), (.ext (.t 23) 0), none⟩, ⟨(some 27), (.ext (.t 23) 1), none⟩, ⟨(some 5), (.asg (.t 26)), none⟩, ⟨(some 6), (.asg (.t 27)), none⟩]) (.seq (.rg [⟨(some 29), (.mv (.t 0)), none⟩, ⟨(some 30), (.call (.c (.fn 20 [])) [(.t 29)]), none⟩, ⟨(some 28), (.mv (.t 30)), none⟩, ⟨(some 31), (.ext (.t 28) 0), none⟩, ⟨(some 32), (.ext (.t 28) 1), none⟩, ⟨(some 7), (.asg (.t 31)), none⟩, ⟨(some 8), (.asg (.t 32)), none⟩]) (.seq (.rg [⟨(some 34), (.mv (.t 5)), none⟩, ⟨(some 35), (.mv (.t 1)), none⟩, ⟨(some 36), (.call (.c (.fn 19 [])) [(.t 34), (.t 35)]), none⟩, ⟨(some 33), (.mv (.t 36)), none⟩, ⟨(some 37), (.ext (.t 33) 0), none⟩, ⟨(some 38), (.ext (.t 33) 1), none⟩, ⟨(some 9), (.asg (.t 37)), none⟩, ⟨(some 10), (.asg (.t 38)), none⟩]) (.seq (.rg [⟨(some 40), (.mv (.t 7)), none⟩, ⟨(some 41), (.mv (.t 1)), none⟩, ⟨(some 42), (.call (.c (.fn 21 [])) [(.t 40), (.t 41)]), none⟩, ⟨(some 39), (.mv (.t 42)), none⟩, ⟨(some 43), (.ext (.t 39) 0), none⟩, ⟨(some 44), (.ext (.t 39) 1), none⟩, ⟨(some 11), (.asg (.t 43)), none⟩, ⟨(some 12), (.asg (.t 44)), none⟩]) (.seq c_law18_HeadTexts_p2 .ret))))))))
def m_law18_HeadTexts : ACode := (.seq (.rg [⟨(some 4), (.asg (.c (.bool false))), none⟩]) (.seq (.seq (.rg [⟨(some 13), (.call (.c (.fn 14 [])) []), none⟩, ⟨(some 14), (.un .not (.t 13)), none⟩]) (.cond (.t 14) (.seq (.rg [⟨(some 4), (.asg (.c (.bool false))), none⟩]) .ret) .skip)) (.seq (.seq (.sem c_law18_HeadTexts_p1) (.cond (.t 22) (.seq (.rg [⟨(some 4), (.asg (.c (.bool true))), none⟩]) .ret) .skip)) (.seq (.rg [⟨(some 24), (.mv (.t 0)), none⟩, ⟨(some 25), (.call (.c (.fn 18 [])) [(.t 24)]), none⟩, ⟨(some 23), (.mv (.t 25)), none⟩, ⟨(some 26), (.ext (.t 23) 0), none⟩, ⟨(some 27), (.ext (.t 23) 1), none⟩, ⟨(some 5), (.asg (.t 26)), none⟩, ⟨(some 6), (.asg (.t 27)), none⟩]) (.seq (.rg [⟨(some 29), (.mv (.t 0)), none⟩, ⟨(some 30), (.call (.c (.fn 20 [])) [(.t 29)]), none⟩, ⟨(some 28), (.mv (.t 30)), none⟩, ⟨(some 31), (.ext (.t 28) 0), none⟩, ⟨(some 32), (.ext (.t 28) 1), none⟩, ⟨(some 7), (.asg (.t 31)), none⟩, ⟨(some 8), (.asg (.t 32)), none⟩]) (.seq (.rg [⟨(some 34), (.mv (.t 5)), none⟩, ⟨(some 35), (.mv (.t 1)), none⟩, ⟨(some 36), (.call (.c (.fn 19 [])) [(.t 34), (.t 35)]), none⟩, ⟨(some 33), (.mv (.t 36)), none⟩, ⟨(some 37), (.ext (.t 33) 0), none⟩, ⟨(some 38), (.ext (.t 33) 1), none⟩, ⟨(some 9), (.asg (.t 37)), none⟩, ⟨(some 10), (.asg (.t 38)), none⟩]) (.seq (.rg [⟨(some 40), (.mv (.t 7)), none⟩, ⟨(some 41), (.mv (.t 1)), none⟩, ⟨(some 42), (.call (.c (.fn 21 [])) [(.t 40), (.t 41)]), none⟩, ⟨(some 39), (.mv (.t 42)), none⟩, ⟨(some 43), (.ext (.t 39) 0), none⟩, ⟨(some 44), (.ext (.t 39) 1), none⟩, ⟨(some 11), (.asg (.t 43)), none⟩, ⟨(some 12), (.asg (.t 44)), none⟩]) (.seq (.sem c_law18_HeadTexts_p2) .ret))))))))
theorem k_law18_HeadTexts : FnOk Tryd.prog 5 79 [(.tmp 4)] c_law18_HeadTexts := ⟨Tryd.f5, _, rfl, by decide, rfl, by kernel_rfl, rfl, rfl⟩
abbrev L_law18_HeadTexts : List Nat := [0, 1, 4, 5, 6, 7, 8, 9, 10, 11, 12, 14, 22]
def law18_HeadTexts_p2 (F : Nat) (r4 : List FieldV) (r6 : List FieldV) (r5 : List UInt8) (r7 : List UInt8) (r8 : List UInt8) (r10 : List UInt8) (r9 : Int) (r11 : Int) (name2 : List UInt8) : Option (Bool) :=
  (law18_same F r4 r6).bind fun r12 =>
  (if r12 then
    (if (decide (r5 = r7)) then
      (if (decide (r8 = r10)) then
        (if (decide (r9 = r11)) then
          (head_Hops F r4).bind fun r13 =>
          (ref18_Hops F r6).bind fun r14 =>
          (if (decide (r13 = r14)) then
            (head_Name F name2).bind fun r15 => (ref18_Name F name2).bind fun r16 => some (r15 == r16)
          else
            some false)
        else
          some false)
      else
        some false)
    else
      some false)
  else
    some false)
def law18_HeadTexts (F : Nat) (b1 : List UInt8) (name2 : List UInt8) : Option (Bool) :=
  (law18_known F ).bind fun r3 =>
  (if (!r3) then
    some false
  else
    (if ((decide (4096 < (b1.length : Int))) || (decide (300 < (name2.length : Int)))) then
      some true
    else
      (head_Split F b1).bind fun (r4, r5) =>
      (ref18_Split F b1).bind fun (r6, r7) =>
      (head_Get F r4 name2).bind fun (r8, r9) =>
      (ref18_Get F r6 name2).bind fun (r10, r11) =>
      (law18_HeadTexts_p2 F r4 r6 r5 r7 r8 r10 r9 r11 name2).bind fun t18 =>
      some t18))
theorem law18_HeadTexts_p1_ok {b1 : List UInt8} {name2 : List UInt8} {H : AH}  {K : Exit → Env → AH → Prop}
    (kn : K .normal [(0, (.sl .n 1 (ml b8 b1))), (1, (.str name2)), (22, (.bool ((decide (4096 < (b1.length : Int))) || (decide (300 < (name2.length : Int))))))] H) :
    AX Tryd.prog L_law18_HeadTexts 79 H.length c_law18_HeadTexts_p1 K [(0, (.sl .n 1 (ml b8 b1))), (1, (.str name2))] H := by
  refine AX.go (m := m_law18_HeadTexts_p1) rfl (by decide) fun K' hK => ?_
  try simp only [WW, ↓reduceIte, nA, nB, nC, nD, nE, nF, nG, reduceCtorEq, L_law18_HeadTexts, m_law18_HeadTexts_p1, c_law18_HeadTexts_p1, encFieldV, encL1b8]
  rcases bcases ((decide (4096 < (b1.length : Int)))) with hy3 | hy3
  · refine UG_nf hy3 ?_
    try simp only [WW, ↓reduceIte, nA, nB, nC, nD, nE, nF, nG, reduceCtorEq, L_law18_HeadTexts, hy3, encFieldV, encL1b8]
    refine hK _ _ _ _ _ ?_ (WxH.refl _) (kn )
    exact WE.cons (Wx.nn) (WE.cons (Wx.str) (WE.cons (Wx.boolE (by simp only [hy3, WB])) (WE.nil)))
  · refine UG_go hy3 ?_
    try simp only [WW, ↓reduceIte, nA, nB, nC, nD, nE, nF, nG, reduceCtorEq, L_law18_HeadTexts, hy3, encFieldV, encL1b8]
    refine hK _ _ _ _ _ ?_ (WxH.refl _) (kn )
    exact WE.cons (Wx.nn) (WE.cons (Wx.str) (WE.cons (Wx.boolE (by simp only [hy3, WB])) (WE.nil)))
theorem law18_HeadTexts_p2_ok {F : Nat} {r4 : List FieldV} {r6 : List FieldV} {r5 : List UInt8} {r7 : List UInt8} {r8 : List UInt8} {r10 : List UInt8} {r9 : Int} {r11 : Int} {name2 : List UInt8} {H : AH}  {K : Exit → Env → AH → Prop} {t17 : Bool}
    (h : law18_HeadTexts_p2 F r4 r6 r5 r7 r8 r10 r9 r11 name2 = some t17)
    (kn : K .normal [(4, (.bool t17))] H) :
    AX Tryd.prog L_law18_HeadTexts 79 H.length c_law18_HeadTexts_p2 K [(1, (.str name2)), (5, (.sl .n 2 (ml encFieldV r4))), (6, (.sl .n 1 (ml b8 r5))), (7, (.sl .n 2 (ml encFieldV r6))), (8, (.sl .n 1 (ml b8 r7))), (9, (.str r8)), (10, (.int .i64 r9)), (11, (.str r10)), (12, (.int .i64 r11))] H := by
  refine AX.go (m := m_law18_HeadTexts_p2) rfl (by decide) fun K' hK => ?_
  rw [law18_HeadTexts_p2.eq_1] at h
  try simp only [WW, ↓reduceIte, nA, nB, nC, nD, nE, nF, nG, reduceCtorEq, L_law18_HeadTexts, m_law18_HeadTexts_p2, c_law18_HeadTexts_p2, encFieldV, encL1b8]
  obtain ⟨r12, hy9, h⟩ := bnd' h
  refine UK_e (as' := [(.sl .n 2 (ml encFieldV r4)), (.sl .n 2 (ml encFieldV r6))]) (h := law18_same_ok (a1 := r4) (b2 := r6) (F := F)  hy9) (hw := WL.cons (Wx.nn) (WL.cons (Wx.nn) (WL.nil))) (hh := WxH.refl _) ?_
  try simp only [WW, ↓reduceIte, nA, nB, nC, nD, nE, nF, nG, reduceCtorEq, L_law18_HeadTexts, encFieldV, encL1b8]
  rcases ifb h with ⟨hy10, h⟩ | ⟨hy10, h⟩
  · refine UG_go hy10 ?_
    try simp only [WW, ↓reduceIte, nA, nB, nC, nD, nE, nF, nG, reduceCtorEq, L_law18_HeadTexts, hy10, encFieldV, encL1b8]
    rcases ifb h with ⟨hy11, h⟩ | ⟨hy11, h⟩
    · refine UG_go hy11 ?_
      try simp only [WW, ↓reduceIte, nA, nB, nC, nD, nE, nF, nG, reduceCtorEq, L_law18_HeadTexts, hy11, encFieldV, encL1b8]
      rcases ifb h with ⟨hy12, h⟩ | ⟨hy12, h⟩
      · refine UG_go hy12 ?_
        try simp only [WW, ↓reduceIte, nA, nB, nC, nD, nE, nF, nG, reduceCtorEq, L_law18_HeadTexts, hy12, encFieldV, encL1b8]
        rcases ifb h with ⟨hy13, h⟩ | ⟨hy13, h⟩
        · refine UG_go hy13 ?_
          try simp only [WW, ↓reduceIte, nA, nB, nC, nD, nE, nF, nG, reduceCtorEq, L_law18_HeadTexts, hy13, encFieldV, encL1b8]
          obtain ⟨r13, hy14, h⟩ := bnd' h
          refine UK_e (as' := [(.sl .n 2 (ml encFieldV r4))]) (h := head_Hops_ok (l1 := r4) (F := F)  hy14) (hw := WL.cons (Wx.nn) (WL.nil)) (hh := WxH.refl _) ?_
          try simp only [WW, ↓reduceIte, nA, nB, nC, nD, nE, nF, nG, reduceCtorEq, L_law18_HeadTexts, encFieldV, encL1b8]
          obtain ⟨r14, hy15, h⟩ := bnd' h
          refine UK_e (as' := [(.sl .n 2 (ml encFieldV r6))]) (h := ref18_Hops_ok (l1 := r6) (F := F)  hy15) (hw := WL.cons (Wx.nn) (WL.nil)) (hh := WxH.refl _) ?_
          try simp only [WW, ↓reduceIte, nA, nB, nC, nD, nE, nF, nG, reduceCtorEq, L_law18_HeadTexts, encFieldV, encL1b8]
          rcases ifb h with ⟨hy16, h⟩ | ⟨hy16, h⟩
          · refine UG_go hy16 ?_
            try simp only [WW, ↓reduceIte, nA, nB, nC, nD, nE, nF, nG, reduceCtorEq, L_law18_HeadTexts, hy16, encFieldV, encL1b8]
            obtain ⟨r15, hy17, h⟩ := bnd' h
            refine UK_e (as' := [(.str name2)]) (h := head_Name_ok (s1 := name2) (F := F)  hy17) (hw := WL.cons (Wx.str) (WL.nil)) (hh := WxH.refl _) ?_
            try simp only [WW, ↓reduceIte, nA, nB, nC, nD, nE, nF, nG, reduceCtorEq, L_law18_HeadTexts, encFieldV, encL1b8]
            obtain ⟨r16, hy18, h⟩ := bnd' h
            refine UK_e (as' := [(.str name2)]) (h := ref18_Name_ok (s1 := name2) (F := F)  hy18) (hw := WL.cons (Wx.str) (WL.nil)) (hh := WxH.refl _) ?_
            try simp only [WW, ↓reduceIte, nA, nB, nC, nD, nE, nF, nG, reduceCtorEq, L_law18_HeadTexts, encFieldV, encL1b8]
            have hq := Option.some.inj h; subst hq
            refine hK _ _ _ _ _ ?_ (WxH.refl _) (kn )
            exact WE.cons (Wx.bool) (WE.nil)
          · refine UG_nt hy16 ?_
            try simp only [WW, ↓reduceIte, nA, nB, nC, nD, nE, nF, nG, reduceCtorEq, L_law18_HeadTexts, hy16, encFieldV, encL1b8]
            have hq := Option.some.inj h; subst hq
            refine hK _ _ _ _ _ ?_ (WxH.refl _) (kn )
            exact WE.cons (Wx.bool) (WE.nil)
        · refine UG_nt hy13 ?_
          try simp only [WW, ↓reduceIte, nA, nB, nC, nD, nE, nF, nG, reduceCtorEq, L_law18_HeadTexts, hy13, encFieldV, encL1b8]
          have hq := Option.some.inj h; subst hq
          refine hK _ _ _ _ _ ?_ (WxH.refl _) (kn )
          exact WE.cons (Wx.bool) (WE.nil)
      · refine UG_nt hy12 ?_
        try simp only [WW, ↓reduceIte, nA, nB, nC, nD, nE, nF, nG, reduceCtorEq, L_law18_HeadTexts, hy12, encFieldV, encL1b8]
        have hq := Option.some.inj h; subst hq
        refine hK _ _ _ _ _ ?_ (WxH.refl _) (kn )
        exact WE.cons (Wx.bool) (WE.nil)
    · refine UG_nt hy11 ?_
      try simp only [WW, ↓reduceIte, nA, nB, nC, nD, nE, nF, nG, reduceCtorEq, L_law18_HeadTexts, hy11, encFieldV, encL1b8]
      have hq := Option.some.inj h; subst hq
      refine hK _ _ _ _ _ ?_ (WxH.refl _) (kn )
      exact WE.cons (Wx.bool) (WE.nil)
  · refine UG_nt hy10 ?_
    try simp only [WW, ↓reduceIte, nA, nB, nC, nD, nE, nF, nG, reduceCtorEq, L_law18_HeadTexts, hy10, encFieldV, encL1b8]
    have hq := Option.some.inj h; subst hq
    refine hK _ _ _ _ _ ?_ (WxH.refl _) (kn )
    exact WE.cons (Wx.bool) (WE.nil)
theorem law18_HeadTexts_ok {F : Nat} {b1 : List UInt8} {name2 : List UInt8}  {H0 : AH}  {rz0 : Bool} (h : law18_HeadTexts F b1 name2 = some rz0) :
    ACalls Tryd.prog 5 [(.sl .n 1 (ml b8 b1)), (.str name2)] H0 fun v H' => v = (.bool rz0) ∧ H' = H0 := by
  refine ACalls.goX k_law18_HeadTexts (m := m_law18_HeadTexts) rfl L_law18_HeadTexts (by decide) (by simp) fun hcl K0 hK0 => ?_
  refine AX.of_U (m := m_law18_HeadTexts) rfl (by decide) ?_
  rw [law18_HeadTexts.eq_1] at h
  try simp only [WW, ↓reduceIte, nA, nB, nC, nD, nE, nF, nG, reduceCtorEq, L_law18_HeadTexts, m_law18_HeadTexts, encFieldV, encL1b8]
  obtain ⟨r3, hy1, h⟩ := bnd' h
  refine UK_e (as' := []) (h := law18_known_ok  (F := F)  hy1) (hw := WL.nil) (hh := WxH.refl _) ?_
  try simp only [WW, ↓reduceIte, nA, nB, nC, nD, nE, nF, nG, reduceCtorEq, L_law18_HeadTexts, encFieldV, encL1b8]
  rcases ifb h with ⟨hy2, h⟩ | ⟨hy2, h⟩
  · refine UC_t hy2 ?_
    try simp only [WW, ↓reduceIte, nA, nB, nC, nD, nE, nF, nG, reduceCtorEq, L_law18_HeadTexts, encFieldV, encL1b8]
    have hq := Option.some.inj h; subst hq
    refine hK0 _ _ _ (.inr rfl) ?_
    exact fn_endp hcl (resv_tmp (a := (.bool false)) rfl rfl resv_nil) (by first | (simp [fin, b_df, b_sh, b_sh1, b_Cl]; done) | (simp [fin, AV.df, AV.sh, AV.sh1, b_df, b_sh, b_sh1, b_Cl]; done)) (Wx.bool) (r' := (.bool false)) ⟨rfl, rfl⟩
  · refine UC_f hy2 ?_
    try simp only [WW, ↓reduceIte, nA, nB, nC, nD, nE, nF, nG, reduceCtorEq, L_law18_HeadTexts, encFieldV, encL1b8]
    refine UX_of (AX.weak ?_ (WxH.refl _) (law18_HeadTexts_p1_ok (b1 := b1) (name2 := name2)  ?_))
    · exact WE.cons (Wx.nn) (WE.cons (Wx.str) (WE.nil))
    try simp only [WW, ↓reduceIte, nA, nB, nC, nD, nE, nF, nG, reduceCtorEq, L_law18_HeadTexts, encFieldV, encL1b8]
    rcases ifb h with ⟨hy4, h⟩ | ⟨hy4, h⟩
    · refine UC_t hy4 ?_
      try simp only [WW, ↓reduceIte, nA, nB, nC, nD, nE, nF, nG, reduceCtorEq, L_law18_HeadTexts, encFieldV, encL1b8]
      have hq := Option.some.inj h; subst hq
      refine hK0 _ _ _ (.inr rfl) ?_
      exact fn_endp hcl (resv_tmp (a := (.bool true)) rfl rfl resv_nil) (by first | (simp [fin, b_df, b_sh, b_sh1, b_Cl]; done) | (simp [fin, AV.df, AV.sh, AV.sh1, b_df, b_sh, b_sh1, b_Cl]; done)) (Wx.bool) (r' := (.bool true)) ⟨rfl, rfl⟩
    · refine UC_f hy4 ?_
      try simp only [WW, ↓reduceIte, nA, nB, nC, nD, nE, nF, nG, reduceCtorEq, L_law18_HeadTexts, encFieldV, encL1b8]
      obtain ⟨⟨r4, r5⟩, hy5, h⟩ := bnd' h
      dsimp only at h
      refine UK_e (as' := [(.sl .n 1 (ml b8 b1))]) (h := head_Split_ok (b1 := b1) (F := F)  hy5) (hw := WL.cons (Wx.nn) (WL.nil)) (hh := WxH.refl _) ?_
      try simp only [WW, ↓reduceIte, nA, nB, nC, nD, nE, nF, nG, reduceCtorEq, L_law18_HeadTexts, encFieldV, encL1b8]
      obtain ⟨⟨r6, r7⟩, hy6, h⟩ := bnd' h
      dsimp only at h
      refine UK_e (as' := [(.sl .n 1 (ml b8 b1))]) (h := ref18_Split_ok (b1 := b1) (F := F)  hy6) (hw := WL.cons (Wx.nn) (WL.nil)) (hh := WxH.refl _) ?_
      try simp only [WW, ↓reduceIte, nA, nB, nC, nD, nE, nF, nG, reduceCtorEq, L_law18_HeadTexts, encFieldV, encL1b8]
      obtain ⟨⟨r8, r9⟩, hy7, h⟩ := bnd' h
      dsimp only at h
      refine UK_e (as' := [(.sl .n 2 (ml encFieldV r4)), (.str name2)]) (h := head_Get_ok (l1 := r4) (name2 := name2) (F := F)  hy7) (hw := WL.cons (Wx.nn) (WL.cons (Wx.str) (WL.nil))) (hh := WxH.refl _) ?_
      try simp only [WW, ↓reduceIte, nA, nB, nC, nD, nE, nF, nG, reduceCtorEq, L_law18_HeadTexts, encFieldV, encL1b8]
      obtain ⟨⟨r10, r11⟩, hy8, h⟩ := bnd' h
      dsimp only at h
      refine UK_e (as' := [(.sl .n 2 (ml encFieldV r6)), (.str name2)]) (h := ref18_Get_ok (l1 := r6) (name2 := name2) (F := F)  hy8) (hw := WL.cons (Wx.nn) (WL.cons (Wx.str) (WL.nil))) (hh := WxH.refl _) ?_
      try simp only [WW, ↓reduceIte, nA, nB, nC, nD, nE, nF, nG, reduceCtorEq, L_law18_HeadTexts, encFieldV, encL1b8]
      obtain ⟨t18, hy19, h⟩ := bnd' h
      refine UX_of (AX.weak ?_ (WxH.refl _) (law18_HeadTexts_p2_ok (F := F) (r4 := r4) (r6 := r6) (r5 := r5) (r7 := r7) (r8 := r8) (r10 := r10) (r9 := r9) (r11 := r11) (name2 := name2) (t17 := t18)   hy19 ?_))
      · exact WE.cons (Wx.str) (WE.cons (Wx.nn) (WE.cons (Wx.nn) (WE.cons (Wx.nn) (WE.cons (Wx.nn) (WE.cons (Wx.str) (WE.cons (Wx.int) (WE.cons (Wx.str) (WE.cons (Wx.int) (WE.nil)))))))))
      try simp only [WW, ↓reduceIte, nA, nB, nC, nD, nE, nF, nG, reduceCtorEq, L_law18_HeadTexts, encFieldV, encL1b8]
      have hq := Option.some.inj h; subst hq
      refine hK0 _ _ _ (.inr rfl) ?_
      exact fn_endp hcl (resv_tmp (a := (.bool t18)) rfl rfl resv_nil) (by first | (simp [fin, b_df, b_sh, b_sh1, b_Cl]; done) | (simp [fin, AV.df, AV.sh, AV.sh1, b_df, b_sh, b_sh1, b_Cl]; done)) (Wx.bool) (r' := (.bool t18)) ⟨rfl, rfl⟩

end Go.Proofs.HeadS
