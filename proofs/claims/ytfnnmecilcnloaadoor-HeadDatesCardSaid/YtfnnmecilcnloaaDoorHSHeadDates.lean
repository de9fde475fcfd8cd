import Derived.Test.YtfnnmecilcnloaaDoorHS1
set_option linter.unusedSimpArgs false
set_option linter.unusedVariables false
set_option linter.unusedSectionVars false
set_option linter.defProp false
set_option maxRecDepth 100000
namespace Go.Proofs.HeadS
open Go Go.Am Go.Proofs
open Nat renaming reduceEqDiff → nA, reduceLT → nB, reduceLeDiff → nC, reduceAdd → nD, reduceSub → nE, reduceMul → nF, reduceBEq → nG
set_option maxHeartbeats 2000000

/-! ### mailbag/mailbagref18.leap -/
def c_ref18_leap_p1 : ACode := (.rg [⟨(some 3), (.mv (.t 0)), none⟩, ⟨(some 4), (.bin .rem (.t 3) (.c (.int .i64 4))), none⟩, ⟨(some 5), (.bin .eql (.t 4) (.c (.int .i64 0))), none⟩, ⟨(some 6), (.mv (.t 5)), none⟩, ⟨(some 7), (.mv (.t 0)), (some (6, true))⟩, ⟨(some 8), (.bin .rem (.t 7) (.c (.int .i64 100))), (some (6, true))⟩, ⟨(some 9), (.bin .neq (.t 8) (.c (.int .i64 0))), (some (6, true))⟩, ⟨(some 10), (.mv (.t 9)), (some (6, true))⟩, ⟨(some 11), (.mv (.t 0)), (some (10, false))⟩, ⟨(some 12), (.bin .rem (.t 11) (.c (.int .i64 400))), (some (10, false))⟩, ⟨(some 13), (.bin .eql (.t 12) (.c (.int .i64 0))), (some (10, false))⟩, ⟨(some 14), (.pick (.t 10) (.c (.bool true)) (.t 13)), (some (6, true))⟩, ⟨(some 15), (.pick (.t 6) (.t 14) (.c (.bool false))), none⟩, ⟨(some 2), (.asg (.t 15)), none⟩])
abbrev m_ref18_leap_p1 := c_ref18_leap_p1
def c_ref18_leap : ACode := (.seq (.rg [⟨(some 2), (.asg (.c (.bool false))), none⟩]) (.seq c_ref18_leap_p1 .ret))
def m_ref18_leap : ACode := (.seq (.rg [⟨(some 2), (.asg (.c (.bool false))), none⟩]) (.seq (.sem c_ref18_leap_p1) .ret))
theorem k_ref18_leap : FnOk Tryd.prog 57 16 [(.tmp 2)] c_ref18_leap := ⟨Tryd.f57, _, rfl, by decide, rfl, by kernel_rfl, rfl, rfl⟩
abbrev L_ref18_leap : List Nat := [0, 2]
def ref18_leap (y1 : Int) : Option (Bool) :=
  some ((decide ((Int.tmod y1 4) = 0)) && ((!decide ((Int.tmod y1 100) = 0)) || (decide ((Int.tmod y1 400) = 0))))
theorem ref18_leap_p1_ok {y1 : Int} {H : AH}  {K : Exit → Env → AH → Prop}
    (kn : K .normal [(2, (.bool ((decide ((Int.tmod y1 4) = 0)) && ((!decide ((Int.tmod y1 100) = 0)) || (decide ((Int.tmod y1 400) = 0))))))] H) :
    AX Tryd.prog L_ref18_leap 16 H.length c_ref18_leap_p1 K [(0, (.int .i64 y1)), (2, (.bool false))] H := by
  refine AX.go (m := m_ref18_leap_p1) rfl (by decide) fun K' hK => ?_
  have hy4 : rm .i64 y1 4 = some (Int.tmod y1 4) := rfl
  try simp only [WW, ↓reduceIte, nA, nB, nC, nD, nE, nF, nG, reduceCtorEq, L_ref18_leap, m_ref18_leap_p1, c_ref18_leap_p1, hy4, encFieldV, encL1b8]
  rcases bcases ((decide ((Int.tmod y1 4) = 0))) with hy5 | hy5
  · refine UG_go hy5 ?_
    have hy6 : rm .i64 y1 100 = some (Int.tmod y1 100) := rfl
    try simp only [WW, ↓reduceIte, nA, nB, nC, nD, nE, nF, nG, reduceCtorEq, L_ref18_leap, hy5, hy6, encFieldV, encL1b8]
    rcases bcases ((!decide ((Int.tmod y1 100) = 0))) with hy7 | hy7
    · refine UG_nf hy7 ?_
      try simp only [WW, ↓reduceIte, nA, nB, nC, nD, nE, nF, nG, reduceCtorEq, L_ref18_leap, hy7, encFieldV, encL1b8]
      refine hK _ _ _ _ _ ?_ (WxH.refl _) (kn )
      exact WE.cons (Wx.boolE (by first | (simp only [hy5, hy7, WB]; done) | (try rw [hy5]; try rw [hy7]; try simp only [WB]))) (WE.nil)
    · refine UG_go hy7 ?_
      have hy8 : rm .i64 y1 400 = some (Int.tmod y1 400) := rfl
      try simp only [WW, ↓reduceIte, nA, nB, nC, nD, nE, nF, nG, reduceCtorEq, L_ref18_leap, hy7, hy8, encFieldV, encL1b8]
      refine hK _ _ _ _ _ ?_ (WxH.refl _) (kn )
      exact WE.cons (Wx.boolE (by first | (simp only [hy5, hy7, WB]; done) | (try rw [hy5]; try rw [hy7]; try simp only [WB]))) (WE.nil)
  · refine UG_nt hy5 ?_
    try simp only [WW, ↓reduceIte, nA, nB, nC, nD, nE, nF, nG, reduceCtorEq, L_ref18_leap, hy5, encFieldV, encL1b8]
    refine hK _ _ _ _ _ ?_ (WxH.refl _) (kn )
    exact WE.cons (Wx.boolE (by simp only [hy5, WB])) (WE.nil)
theorem ref18_leap_ok {y1 : Int}  {H0 : AH}  {rz0 : Bool} (h : ref18_leap y1 = some rz0) :
    ACalls Tryd.prog 57 [(.int .i64 y1)] H0 fun v H' => v = (.bool rz0) ∧ H' = H0 := by
  refine ACalls.goX k_ref18_leap (m := m_ref18_leap) rfl L_ref18_leap (by decide) (by simp) fun hcl K0 hK0 => ?_
  refine AX.of_U (m := m_ref18_leap) rfl (by decide) ?_
  rw [ref18_leap.eq_1] at h
  try simp only [WW, ↓reduceIte, nA, nB, nC, nD, nE, nF, nG, reduceCtorEq, L_ref18_leap, m_ref18_leap, encFieldV, encL1b8]
  refine UX_of (AX.weak ?_ (WxH.refl _) (ref18_leap_p1_ok (y1 := y1)  ?_))
  · exact WE.cons (Wx.int) (WE.cons (Wx.bool) (WE.nil))
  try simp only [WW, ↓reduceIte, nA, nB, nC, nD, nE, nF, nG, reduceCtorEq, L_ref18_leap, encFieldV, encL1b8]
  have hq := Option.some.inj h; subst hq
  refine hK0 _ _ _ (.inr rfl) ?_
  exact fn_endp hcl (resv_tmp (a := (.bool ((decide ((Int.tmod y1 4) = 0)) && ((!decide ((Int.tmod y1 100) = 0)) || (decide ((Int.tmod y1 400) = 0)))))) rfl rfl resv_nil) (by first | (simp [fin, b_df, b_sh, b_sh1, b_Cl]; done) | (simp [fin, AV.df, AV.sh, AV.sh1, b_df, b_sh, b_sh1, b_Cl]; done)) (Wx.bool) (r' := (.bool ((decide ((Int.tmod y1 4) = 0)) && ((!decide ((Int.tmod y1 100) = 0)) || (decide ((Int.tmod y1 400) = 0)))))) ⟨rfl, rfl⟩

/-! ### mailbag/mailbagref18.days -/
def c_ref18_days_p1 : ACode := (.rg [⟨(some 7), (.mv (.t 0)), none⟩, ⟨(some 8), (.bin .eql (.t 7) (.c (.int .i64 1))), none⟩, ⟨(some 9), (.mv (.t 8)), none⟩, ⟨(some 10), (.mv (.t 1)), (some (9, true))⟩, ⟨(some 11), (.call (.c (.fn 57 [])) [(.t 10)]), (some (9, true))⟩, ⟨(some 12), (.pick (.t 9) (.t 11) (.c (.bool false))), none⟩])
abbrev m_ref18_days_p1 := c_ref18_days_p1
def c_ref18_days : ACode := (.seq (.rg [⟨(some 4), (.asg (.c (.int .i64 0))), none⟩]) (.seq (.rg [⟨(some 6), (.bsl 1 [(.c (.int .i64 31)), (.c (.int .i64 28)), (.c (.int .i64 31)), (.c (.int .i64 30)), (.c (.int .i64 31)), (.c (.int .i64 30)), (.c (.int .i64 31)), (.c (.int .i64 31)), (.c (.int .i64 30)), (.c (.int .i64 31)), (.c (.int .i64 30)), (.c (.int .i64 31))]), none⟩, ⟨(some 5), (.asg (.t 6)), none⟩]) (.seq (.seq c_ref18_days_p1 (.cond (.t 12) (.seq (.rg [⟨(some 4), (.asg (.c (.int .i64 29))), none⟩]) .ret) .skip)) (.seq (.rg [⟨(some 13), (.mv (.t 5)), none⟩, ⟨(some 14), (.mv (.t 0)), none⟩, ⟨(some 15), (.ixa 1 (.t 13) (.t 14)), none⟩, ⟨(some 16), (.ld (.t 15) none), none⟩, ⟨(some 4), (.asg (.t 16)), none⟩]) .ret))))
def m_ref18_days : ACode := (.seq (.rg [⟨(some 4), (.asg (.c (.int .i64 0))), none⟩]) (.seq (.rg [⟨(some 6), (.bsl 1 [(.c (.int .i64 31)), (.c (.int .i64 28)), (.c (.int .i64 31)), (.c (.int .i64 30)), (.c (.int .i64 31)), (.c (.int .i64 30)), (.c (.int .i64 31)), (.c (.int .i64 31)), (.c (.int .i64 30)), (.c (.int .i64 31)), (.c (.int .i64 30)), (.c (.int .i64 31))]), none⟩, ⟨(some 5), (.asg (.t 6)), none⟩]) (.seq (.seq (.sem c_ref18_days_p1) (.cond (.t 12) (.seq (.rg [⟨(some 4), (.asg (.c (.int .i64 29))), none⟩]) .ret) .skip)) (.seq (.rg [⟨(some 13), (.mv (.t 5)), none⟩, ⟨(some 14), (.mv (.t 0)), none⟩, ⟨(some 15), (.ixa 1 (.t 13) (.t 14)), none⟩, ⟨(some 16), (.ld (.t 15) none), none⟩, ⟨(some 4), (.asg (.t 16)), none⟩]) .ret))))
theorem k_ref18_days : FnOk Tryd.prog 58 17 [(.tmp 4)] c_ref18_days := ⟨Tryd.f58, _, rfl, by decide, rfl, by kernel_rfl, rfl, rfl⟩
abbrev L_ref18_days : List Nat := [0, 1, 4, 5, 12]
def ref18_days_p1 (m1 : Int) (y2 : Int) : Option (Bool) :=
  (if (decide (m1 = 1)) then
    (ref18_leap y2).bind fun r3 => some r3
  else
    some false)
def ref18_days (m1 : Int) (y2 : Int) : Option (Int) :=
  (ref18_days_p1 m1 y2).bind fun t5 =>
  (if t5 then
    some 29
  else
    (idx ([31, 28, 31, 30, 31, 30, 31, 31, 30, 31, 30, 31] : List Int) m1).bind fun x6 => some x6)
theorem ref18_days_p1_ok {m1 : Int} {y2 : Int} {H : AH}  {K : Exit → Env → AH → Prop} {t4 : Bool}
    (h : ref18_days_p1 m1 y2 = some t4)
    (kn : K .normal [(0, (.int .i64 m1)), (5, (.sl .ex 1 [(.int .i64 31), (.int .i64 28), (.int .i64 31), (.int .i64 30), (.int .i64 31), (.int .i64 30), (.int .i64 31), (.int .i64 31), (.int .i64 30), (.int .i64 31), (.int .i64 30), (.int .i64 31)])), (12, (.bool t4))] H) :
    AX Tryd.prog L_ref18_days 17 H.length c_ref18_days_p1 K [(0, (.int .i64 m1)), (1, (.int .i64 y2)), (5, (.sl .ex 1 [(.int .i64 31), (.int .i64 28), (.int .i64 31), (.int .i64 30), (.int .i64 31), (.int .i64 30), (.int .i64 31), (.int .i64 31), (.int .i64 30), (.int .i64 31), (.int .i64 30), (.int .i64 31)]))] H := by
  refine AX.go (m := m_ref18_days_p1) rfl (by decide) fun K' hK => ?_
  rw [ref18_days_p1.eq_1] at h
  try simp only [WW, ↓reduceIte, nA, nB, nC, nD, nE, nF, nG, reduceCtorEq, L_ref18_days, m_ref18_days_p1, c_ref18_days_p1, encFieldV, encL1b8]
  rcases ifb h with ⟨hy1, h⟩ | ⟨hy1, h⟩
  · refine UG_go hy1 ?_
    try simp only [WW, ↓reduceIte, nA, nB, nC, nD, nE, nF, nG, reduceCtorEq, L_ref18_days, hy1, encFieldV, encL1b8]
    obtain ⟨r3, hy2, h⟩ := bnd' h
    refine UK_e (as' := [(.int .i64 y2)]) (h := ref18_leap_ok (y1 := y2)  hy2) (hw := WL.cons (Wx.int) (WL.nil)) (hh := WxH.refl _) ?_
    try simp only [WW, ↓reduceIte, nA, nB, nC, nD, nE, nF, nG, reduceCtorEq, L_ref18_days, encFieldV, encL1b8]
    have hq := Option.some.inj h; subst hq
    refine hK _ _ _ _ _ ?_ (WxH.refl _) (kn )
    exact WE.cons (Wx.int) (WE.cons (Wx.ex) (WE.cons (Wx.bool) (WE.nil)))
  · refine UG_nt hy1 ?_
    try simp only [WW, ↓reduceIte, nA, nB, nC, nD, nE, nF, nG, reduceCtorEq, L_ref18_days, hy1, encFieldV, encL1b8]
    have hq := Option.some.inj h; subst hq
    refine hK _ _ _ _ _ ?_ (WxH.refl _) (kn )
    exact WE.cons (Wx.int) (WE.cons (Wx.ex) (WE.cons (Wx.bool) (WE.nil)))
theorem ref18_days_ok {m1 : Int} {y2 : Int}  {H0 : AH}  {rz0 : Int} (h : ref18_days m1 y2 = some rz0) :
    ACalls Tryd.prog 58 [(.int .i64 m1), (.int .i64 y2)] H0 fun v H' => v = (.int .i64 rz0) ∧ H' = H0 := by
  refine ACalls.goX k_ref18_days (m := m_ref18_days) rfl L_ref18_days (by decide) (by simp) fun hcl K0 hK0 => ?_
  refine AX.of_U (m := m_ref18_days) rfl (by decide) ?_
  rw [ref18_days.eq_1] at h
  try simp only [WW, ↓reduceIte, nA, nB, nC, nD, nE, nF, nG, reduceCtorEq, L_ref18_days, m_ref18_days, encFieldV, encL1b8]
  obtain ⟨t5, hy3, h⟩ := bnd' h
  refine UX_of (AX.weak ?_ (WxH.refl _) (ref18_days_p1_ok  (m1 := m1) (y2 := y2) (t4 := t5)   hy3 ?_))
  · exact WE.cons (Wx.int) (WE.cons (Wx.int) (WE.cons (Wx.ex) (WE.nil)))
  try simp only [WW, ↓reduceIte, nA, nB, nC, nD, nE, nF, nG, reduceCtorEq, L_ref18_days, encFieldV, encL1b8]
  rcases ifb h with ⟨hy4, h⟩ | ⟨hy4, h⟩
  · refine UC_t hy4 ?_
    try simp only [WW, ↓reduceIte, nA, nB, nC, nD, nE, nF, nG, reduceCtorEq, L_ref18_days, encFieldV, encL1b8]
    have hq := Option.some.inj h; subst hq
    refine hK0 _ _ _ (.inr rfl) ?_
    exact fn_endp hcl (resv_tmp (a := (.int .i64 29)) rfl rfl resv_nil) (by first | (simp [fin, b_df, b_sh, b_sh1, b_Cl]; done) | (simp [fin, AV.df, AV.sh, AV.sh1, b_df, b_sh, b_sh1, b_Cl]; done)) (Wx.int) (r' := (.int .i64 29)) ⟨rfl, rfl⟩
  · refine UC_f hy4 ?_
    obtain ⟨x6, hy5, h⟩ := bnd' h
    have hy6 : idx [(.int .i64 31), (.int .i64 28), (.int .i64 31), (.int .i64 30), (.int .i64 31), (.int .i64 30), (.int .i64 31), (.int .i64 31), (.int .i64 30), (.int .i64 31), (.int .i64 30), (.int .i64 31)] m1 = some ((iint .i64) x6) := idx_m (f := (iint .i64)) hy5
    try simp only [WW, ↓reduceIte, nA, nB, nC, nD, nE, nF, nG, reduceCtorEq, L_ref18_days, hy6, encFieldV, encL1b8]
    have hq := Option.some.inj h; subst hq
    refine hK0 _ _ _ (.inr rfl) ?_
    exact fn_endp hcl (resv_tmp (a := (.int .i64 x6)) rfl rfl resv_nil) (by first | (simp [fin, b_df, b_sh, b_sh1, b_Cl]; done) | (simp [fin, AV.df, AV.sh, AV.sh1, b_df, b_sh, b_sh1, b_Cl]; done)) (Wx.int) (r' := (.int .i64 x6)) ⟨rfl, rfl⟩

/-! ### mailbag/mailbagref18.two -/
def c_ref18_two : ACode := (.seq (.rg [⟨(some 2), (.asg (.c (.str []))), none⟩]) (.seq (.rg [⟨(some 3), (.mv (.t 0)), none⟩, ⟨(some 4), (.bin .quo (.t 3) (.c (.int .i64 10))), none⟩, ⟨(some 5), (.bin .rem (.t 4) (.c (.int .i64 10))), none⟩, ⟨(some 6), (.bin .add (.c (.int .i64 48)) (.t 5)), none⟩, ⟨(some 7), (.cvt (.int .u8) (.t 6)), none⟩, ⟨(some 8), (.mv (.t 0)), none⟩, ⟨(some 9), (.bin .rem (.t 8) (.c (.int .i64 10))), none⟩, ⟨(some 10), (.bin .add (.c (.int .i64 48)) (.t 9)), none⟩, ⟨(some 11), (.cvt (.int .u8) (.t 10)), none⟩, ⟨(some 12), (.bsl 1 [(.t 7), (.t 11)]), none⟩, ⟨(some 13), (.cvt .bs (.t 12)), none⟩, ⟨(some 2), (.asg (.t 13)), none⟩]) .ret))
abbrev m_ref18_two := c_ref18_two
theorem k_ref18_two : FnOk Tryd.prog 59 14 [(.tmp 2)] c_ref18_two := ⟨Tryd.f59, _, rfl, by decide, rfl, by kernel_rfl, rfl, rfl⟩
abbrev L_ref18_two : List Nat := [0, 2]
def ref18_two (nn1 : Int) : Option ((List UInt8)) :=
  some ([(UInt8.ofInt (IntKind.wrap .i64 (48 + (Int.tmod (IntKind.wrap .i64 (Int.tdiv nn1 10)) 10)))), (UInt8.ofInt (IntKind.wrap .i64 (48 + (Int.tmod nn1 10))))] : List UInt8)
theorem ref18_two_ok {nn1 : Int}  {H0 : AH}  {rz0 : List UInt8} (h : ref18_two nn1 = some rz0) :
    ACalls Tryd.prog 59 [(.int .i64 nn1)] H0 fun v H' => v = (.str rz0) ∧ H' = H0 := by
  refine ACalls.goX k_ref18_two (m := m_ref18_two) rfl L_ref18_two (by decide) (by simp) fun hcl K0 hK0 => ?_
  refine AX.of_U (m := m_ref18_two) rfl (by decide) ?_
  rw [ref18_two.eq_1] at h
  have hy1 : dv .i64 nn1 10 = some (IntKind.wrap .i64 (Int.tdiv nn1 10)) := rfl
  have hy2 : rm .i64 (IntKind.wrap .i64 (Int.tdiv nn1 10)) 10 = some (Int.tmod (IntKind.wrap .i64 (Int.tdiv nn1 10)) 10) := rfl
  have hy3 : rm .i64 nn1 10 = some (Int.tmod nn1 10) := rfl
  try simp only [WW, ↓reduceIte, nA, nB, nC, nD, nE, nF, nG, reduceCtorEq, L_ref18_two, m_ref18_two, c_ref18_two, hy1, hy2, hy3, encFieldV, encL1b8]
  have hq := Option.some.inj h; subst hq
  refine hK0 _ _ _ (.inr rfl) ?_
  exact fn_endp hcl (resv_tmp (a := (.str ([(UInt8.ofInt (IntKind.wrap .i64 (48 + (Int.tmod (IntKind.wrap .i64 (Int.tdiv nn1 10)) 10)))), (UInt8.ofInt (IntKind.wrap .i64 (48 + (Int.tmod nn1 10))))] : List UInt8))) rfl rfl resv_nil) (by first | (simp [fin, b_df, b_sh, b_sh1, b_Cl]; done) | (simp [fin, AV.df, AV.sh, AV.sh1, b_df, b_sh, b_sh1, b_Cl]; done)) (Wx.str) (r' := (.str ([(UInt8.ofInt (IntKind.wrap .i64 (48 + (Int.tmod (IntKind.wrap .i64 (Int.tdiv nn1 10)) 10)))), (UInt8.ofInt (IntKind.wrap .i64 (48 + (Int.tmod nn1 10))))] : List UInt8))) ⟨rfl, rfl⟩

/-! ### mailbag/mailbagref18.Date -/
def c_ref18_Date_p1 : ACode := (.cond (.t 12) (.rg [⟨(some 0), (.asg (.c (.int .i64 0))), none⟩]) .skip)
abbrev m_ref18_Date_p1 := c_ref18_Date_p1
def c_ref18_Date_p2 : ACode := (.cond (.t 14) (.rg [⟨(some 0), (.asg (.c (.int .i64 253402300799))), none⟩]) .skip)
abbrev m_ref18_Date_p2 := c_ref18_Date_p2
def c_ref18_Date_p3 : ACode := (.cond (.t 32) (.rg [⟨(some 8), (.asg (.c (.int .i64 366))), none⟩]) .skip)
abbrev m_ref18_Date_p3 := c_ref18_Date_p3
def c_ref18_Date_l1b : ACode := (.blk 1 (.seq (.rg [⟨(some 8), (.asg (.c (.int .i64 365))), none⟩]) (.seq (.seq (.rg [⟨(some 31), (.mv (.t 7)), none⟩, ⟨(some 32), (.call (.c (.fn 57 [])) [(.t 31)]), none⟩]) c_ref18_Date_p3) (.seq (.seq (.rg [⟨(some 33), (.mv (.t 3)), none⟩, ⟨(some 34), (.mv (.t 8)), none⟩, ⟨(some 35), (.bin .lss (.t 33) (.t 34)), none⟩]) (.cond (.t 35) (.exit 0) .skip)) (.seq (.rg [⟨(some 36), (.mv (.t 3)), none⟩, ⟨(some 37), (.mv (.t 8)), none⟩, ⟨(some 38), (.bin .sub (.t 36) (.t 37)), none⟩, ⟨(some 3), (.asg (.t 38)), none⟩]) (.rg [⟨(some 39), (.mv (.t 7)), none⟩, ⟨(some 40), (.bin .add (.t 39) (.c (.int .i64 1))), none⟩, ⟨(some 7), (.asg (.t 40)), none⟩]))))))
def c_ref18_Date_l1 : ACode := (.loop c_ref18_Date_l1b)
def m_ref18_Date_l1b : ACode := (.blk 1 (.seq (.rg [⟨(some 8), (.asg (.c (.int .i64 365))), none⟩]) (.seq (.seq (.rg [⟨(some 31), (.mv (.t 7)), none⟩, ⟨(some 32), (.call (.c (.fn 57 [])) [(.t 31)]), none⟩]) (.sem c_ref18_Date_p3)) (.seq (.seq (.rg [⟨(some 33), (.mv (.t 3)), none⟩, ⟨(some 34), (.mv (.t 8)), none⟩, ⟨(some 35), (.bin .lss (.t 33) (.t 34)), none⟩]) (.cond (.t 35) (.exit 0) .skip)) (.seq (.rg [⟨(some 36), (.mv (.t 3)), none⟩, ⟨(some 37), (.mv (.t 8)), none⟩, ⟨(some 38), (.bin .sub (.t 36) (.t 37)), none⟩, ⟨(some 3), (.asg (.t 38)), none⟩]) (.rg [⟨(some 39), (.mv (.t 7)), none⟩, ⟨(some 40), (.bin .add (.t 39) (.c (.int .i64 1))), none⟩, ⟨(some 7), (.asg (.t 40)), none⟩]))))))
def c_ref18_Date_l2b : ACode := (.seq (.seq (.rg [⟨(some 41), (.mv (.t 3)), none⟩, ⟨(some 42), (.mv (.t 9)), none⟩, ⟨(some 43), (.mv (.t 7)), none⟩, ⟨(some 44), (.call (.c (.fn 58 [])) [(.t 42), (.t 43)]), none⟩, ⟨(some 45), (.bin .geq (.t 41) (.t 44)), none⟩]) (.cond (.t 45) .skip (.exit 2))) (.blk 3 (.seq (.rg [⟨(some 46), (.mv (.t 3)), none⟩, ⟨(some 47), (.mv (.t 9)), none⟩, ⟨(some 48), (.mv (.t 7)), none⟩, ⟨(some 49), (.call (.c (.fn 58 [])) [(.t 47), (.t 48)]), none⟩, ⟨(some 50), (.bin .sub (.t 46) (.t 49)), none⟩, ⟨(some 3), (.asg (.t 50)), none⟩]) (.rg [⟨(some 51), (.mv (.t 9)), none⟩, ⟨(some 52), (.bin .add (.t 51) (.c (.int .i64 1))), none⟩, ⟨(some 9), (.asg (.t 52)), none⟩]))))
def c_ref18_Date_l2 : ACode := (.loop c_ref18_Date_l2b)
abbrev m_ref18_Date_l2b := c_ref18_Date_l2b
def c_ref18_Date : ACode := (.seq (.rg [⟨(some 2), (.asg (.c (.str []))), none⟩]) (.seq (.seq (.rg [⟨(some 11), (.mv (.t 0)), none⟩, ⟨(some 12), (.bin .lss (.t 11) (.c (.int .i64 0))), none⟩]) c_ref18_Date_p1) (.seq (.seq (.rg [⟨(some 13), (.mv (.t 0)), none⟩, ⟨(some 14), (.bin .gtr (.t 13) (.c (.int .i64 253402300799))), none⟩]) c_ref18_Date_p2) (.seq (.rg [⟨(some 15), (.mv (.t 0)), none⟩, ⟨(some 16), (.bin .quo (.t 15) (.c (.int .i64 86400))), none⟩, ⟨(some 3), (.asg (.t 16)), none⟩]) (.seq (.rg [⟨(some 17), (.mv (.t 0)), none⟩, ⟨(some 18), (.bin .rem (.t 17) (.c (.int .i64 86400))), none⟩, ⟨(some 4), (.asg (.t 18)), none⟩]) (.seq (.rg [⟨(some 19), (.bsl 1 [(.c (.str [84, 104, 117])), (.c (.str [70, 114, 105])), (.c (.str [83, 97, 116])), (.c (.str [83, 117, 110])), (.c (.str [77, 111, 110])), (.c (.str [84, 117, 101])), (.c (.str [87, 101, 100]))]), none⟩, ⟨(some 5), (.asg (.t 19)), none⟩]) (.seq (.rg [⟨(some 20), (.mv (.t 5)), none⟩, ⟨(some 21), (.mv (.t 3)), none⟩, ⟨(some 22), (.bin .rem (.t 21) (.c (.int .i64 7))), none⟩, ⟨(some 23), (.ixa 1 (.t 20) (.t 22)), none⟩, ⟨(some 24), (.ld (.t 23) none), none⟩, ⟨(some 6), (.asg (.t 24)), none⟩]) (.seq (.rg [⟨(some 25), (.mv (.t 3)), none⟩, ⟨(some 26), (.bin .quo (.t 25) (.c (.int .i64 146097))), none⟩, ⟨(some 27), (.bin .mul (.c (.int .i64 400)) (.t 26)), none⟩, ⟨(some 28), (.bin .add (.c (.int .i64 1970)) (.t 27)), none⟩, ⟨(some 7), (.asg (.t 28)), none⟩]) (.seq (.rg [⟨(some 29), (.mv (.t 3)), none⟩, ⟨(some 30), (.bin .rem (.t 29) (.c (.int .i64 146097))), none⟩, ⟨(some 3), (.asg (.t 30)), none⟩]) (.seq (.blk 0 c_ref18_Date_l1) (.seq (.rg [⟨(some 9), (.asg (.c (.int .i64 0))), none⟩]) (.seq (.blk 2 c_ref18_Date_l2) (.seq (.rg [⟨(some 53), (.bsl 1 [(.c (.str [74, 97, 110])), (.c (.str [70, 101, 98])), (.c (.str [77, 97, 114])), (.c (.str [65, 112, 114])), (.c (.str [77, 97, 121])), (.c (.str [74, 117, 110])), (.c (.str [74, 117, 108])), (.c (.str [65, 117, 103])), (.c (.str [83, 101, 112])), (.c (.str [79, 99, 116])), (.c (.str [78, 111, 118])), (.c (.str [68, 101, 99]))]), none⟩, ⟨(some 10), (.asg (.t 53)), none⟩]) (.seq (.rg (⟨(some 54), (.mv (.t 6)), none⟩ :: ⟨(some 55), (.bin .add (.t 54) (.c (.str [44, 32]))), none⟩ :: ⟨(some 56), (.mv (.t 3)), none⟩ :: ⟨(some 57), (.bin .add (.t 56) (.c (.int .i64 1))), none⟩ :: ⟨(some 61), (.mv (.t 10)), none⟩ :: ⟨(some 62), (.mv (.t 9)), none⟩ :: ⟨(some 63), (.ixa 1 (.t 61) (.t 62)), none⟩ :: ⟨(some 64), (.lde (.t 63) none), none⟩ :: ⟨(some 67), (.mv (.t 7)), none⟩ :: ⟨(some 68), (.bin .quo (.t 67) (.c (.int .i64 100))), none⟩ :: ⟨(some 71), (.mv (.t 7)), none⟩ :: ⟨(some 75), (.mv (.t 4)), none⟩ :: ⟨(some 76), (.bin .quo (.t 75) (.c (.int .i64 3600))), none⟩ :: ⟨(some 80), (.mv (.t 4)), none⟩ :: ⟨(some 81), (.bin .quo (.t 80) (.c (.int .i64 60))), none⟩ :: ⟨(some 82), (.bin .rem (.t 81) (.c (.int .i64 60))), none⟩ :: ⟨(some 86), (.mv (.t 4)), none⟩ :: ⟨(some 87), (.bin .rem (.t 86) (.c (.int .i64 60))), none⟩ :: ⟨(some 58), (.call (.c (.fn 59 [])) [(.t 57)]), none⟩ :: ⟨(some 59), (.bin .add (.t 55) (.t 58)), none⟩ :: ⟨(some 60), (.bin .add (.t 59) (.c (.str [32]))), none⟩ :: ⟨(some 65), (.bin .add (.t 60) (.t 64)), none⟩ :: ⟨(some 66), (.bin .add (.t 65) (.c (.str [32]))), none⟩ :: ⟨(some 69), (.call (.c (.fn 59 [])) [(.t 68)]), none⟩ :: ⟨(some 70), (.bin .add (.t 66) (.t 69)), none⟩ :: ⟨(some 72), (.call (.c (.fn 59 [])) [(.t 71)]), none⟩ :: ⟨(some 73), (.bin .add (.t 70) (.t 72)), none⟩ :: ⟨(some 74), (.bin .add (.t 73) (.c (.str [32]))), none⟩ :: ⟨(some 77), (.call (.c (.fn 59 [])) [(.t 76)]), none⟩ :: ⟨(some 78), (.bin .add (.t 74) (.t 77)), none⟩ :: ⟨(some 79), (.bin .add (.t 78) (.c (.str [58]))), none⟩ :: ⟨(some 83), (.call (.c (.fn 59 [])) [(.t 82)]), none⟩ :: ⟨(some 84), (.bin .add (.t 79) (.t 83)), none⟩ :: ⟨(some 85), (.bin .add (.t 84) (.c (.str [58]))), none⟩ :: ⟨(some 88), (.call (.c (.fn 59 [])) [(.t 87)]), none⟩ :: ⟨(some 89), (.bin .add (.t 85) (.t 88)), none⟩ :: ⟨(some 90), (.bin .add (.t 89) (.c (.str [32, 43, 48, 48, 48, 48]))), none⟩ :: ⟨(some 2), (.asg (.t 90)), none⟩ :: [])) .ret))))))))))))))
def m_ref18_Date : ACode := (.seq (.rg [⟨(some 2), (.asg (.c (.str []))), none⟩]) (.seq (.seq (.rg [⟨(some 11), (.mv (.t 0)), none⟩, ⟨(some 12), (.bin .lss (.t 11) (.c (.int .i64 0))), none⟩]) (.sem c_ref18_Date_p1)) (.seq (.seq (.rg [⟨(some 13), (.mv (.t 0)), none⟩, ⟨(some 14), (.bin .gtr (.t 13) (.c (.int .i64 253402300799))), none⟩]) (.sem c_ref18_Date_p2)) (.seq (.rg [⟨(some 15), (.mv (.t 0)), none⟩, ⟨(some 16), (.bin .quo (.t 15) (.c (.int .i64 86400))), none⟩, ⟨(some 3), (.asg (.t 16)), none⟩]) (.seq (.rg [⟨(some 17), (.mv (.t 0)), none⟩, ⟨(some 18), (.bin .rem (.t 17) (.c (.int .i64 86400))), none⟩, ⟨(some 4), (.asg (.t 18)), none⟩]) (.seq (.rg [⟨(some 19), (.bsl 1 [(.c (.str [84, 104, 117])), (.c (.str [70, 114, 105])), (.c (.str [83, 97, 116])), (.c (.str [83, 117, 110])), (.c (.str [77, 111, 110])), (.c (.str [84, 117, 101])), (.c (.str [87, 101, 100]))]), none⟩, ⟨(some 5), (.asg (.t 19)), none⟩]) (.seq (.rg [⟨(some 20), (.mv (.t 5)), none⟩, ⟨(some 21), (.mv (.t 3)), none⟩, ⟨(some 22), (.bin .rem (.t 21) (.c (.int .i64 7))), none⟩, ⟨(some 23), (.ixa 1 (.t 20) (.t 22)), none⟩, ⟨(some 24), (.ld (.t 23) none), none⟩, ⟨(some 6), (.asg (.t 24)), none⟩]) (.seq (.rg [⟨(some 25), (.mv (.t 3)), none⟩, ⟨(some 26), (.bin .quo (.t 25) (.c (.int .i64 146097))), none⟩, ⟨(some 27), (.bin .mul (.c (.int .i64 400)) (.t 26)), none⟩, ⟨(some 28), (.bin .add (.c (.int .i64 1970)) (.t 27)), none⟩, ⟨(some 7), (.asg (.t 28)), none⟩]) (.seq (.rg [⟨(some 29), (.mv (.t 3)), none⟩, ⟨(some 30), (.bin .rem (.t 29) (.c (.int .i64 146097))), none⟩, ⟨(some 3), (.asg (.t 30)), none⟩]) (.seq (.blk 0 c_ref18_Date_l1) (.seq (.rg [⟨(some 9), (.asg (.c (.int .i64 0))), none⟩]) (.seq (.blk 2 c_ref18_Date_l2) (.seq (.rg [⟨(some 53), (.bsl 1 [(.c (.str [74, 97, 110])), (.c (.str [70, 101, 98])), (.c (.str [77, 97, 114])), (.c (.str [65, 112, 114])), (.c (.str [77, 97, 121])), (.c (.str [74, 117, 110])), (.c (.str [74, 117, 108])), (.c (.str [65, 117, 103])), (.c (.str [83, 101, 112])), (.c (.str [79, 99, 116])), (.c (.str [78, 111, 118])), (.c (.str [68, 101, 99]))]), none⟩, ⟨(some 10), (.asg (.t 53)), none⟩]) (.seq (.rg (⟨(some 54), (.mv (.t 6)), none⟩ :: ⟨(some 55), (.bin .add (.t 54) (.c (.str [44, 32]))), none⟩ :: ⟨(some 56), (.mv (.t 3)), none⟩ :: ⟨(some 57), (.bin .add (.t 56) (.c (.int .i64 1))), none⟩ :: ⟨(some 61), (.mv (.t 10)), none⟩ :: ⟨(some 62), (.mv (.t 9)), none⟩ :: ⟨(some 63), (.ixa 1 (.t 61) (.t 62)), none⟩ :: ⟨(some 64), (.lde (.t 63) none), none⟩ :: ⟨(some 67), (.mv (.t 7)), none⟩ :: ⟨(some 68), (.bin .quo (.t 67) (.c (.int .i64 100))), none⟩ :: ⟨(some 71), (.mv (.t 7)), none⟩ :: ⟨(some 75), (.mv (.t 4)), none⟩ :: ⟨(some 76), (.bin .quo (.t 75) (.c (.int .i64 3600))), none⟩ :: ⟨(some 80), (.mv (.t 4)), none⟩ :: ⟨(some 81), (.bin .quo (.t 80) (.c (.int .i64 60))), none⟩ :: ⟨(some 82), (.bin .rem (.t 81) (.c (.int .i64 60))), none⟩ :: ⟨(some 86), (.mv (.t 4)), none⟩ :: ⟨(some 87), (.bin .rem (.t 86) (.c (.int .i64 60))), none⟩ :: ⟨(some 58), (.call (.c (.fn 59 [])) [(.t 57)]), none⟩ :: ⟨(some 59), (.bin .add (.t 55) (.t 58)), none⟩ :: ⟨(some 60), (.bin .add (.t 59) (.c (.str [32]))), none⟩ :: ⟨(some 65), (.bin .add (.t 60) (.t 64)), none⟩ :: ⟨(some 66), (.bin .add (.t 65) (.c (.str [32]))), none⟩ :: ⟨(some 69), (.call (.c (.fn 59 [])) [(.t 68)]), none⟩ :: ⟨(some 70), (.bin .add (.t 66) (.t 69)), none⟩ :: ⟨(some 72), (.call (.c (.fn 59 [])) [(.t 71)]), none⟩ :: ⟨(some 73), (.bin .add (.t 70) (.t 72)), none⟩ :: ⟨(some 74), (.bin .add (.t 73) (.c (.str [32]))), none⟩ :: ⟨(some 77), (.call (.c (.fn 59 [])) [(.t 76)]), none⟩ :: ⟨(some 78), (.bin .add (.t 74) (.t 77)), none⟩ :: ⟨(some 79), (.bin .add (.t 78) (.c (.str [58]))), none⟩ :: ⟨(some 83), (.call (.c (.fn 59 [])) [(.t 82)]), none⟩ :: ⟨(some 84), (.bin .add (.t 79) (.t 83)), none⟩ :: ⟨(some 85), (.bin .add (.t 84) (.c (.str [58]))), none⟩ :: ⟨(some 88), (.call (.c (.fn 59 [])) [(.t 87)]), none⟩ :: ⟨(some 89), (.bin .add (.t 85) (.t 88)), none⟩ :: ⟨(some 90), (.bin .add (.t 89) (.c (.str [32, 43, 48, 48, 48, 48]))), none⟩ :: ⟨(some 2), (.asg (.t 90)), none⟩ :: [])) .ret))))))))))))))
theorem k_ref18_Date : FnOk Tryd.prog 16 91 [(.tmp 2)] c_ref18_Date := ⟨Tryd.f16, _, rfl, by decide, rfl, by kernel_rfl, rfl, rfl⟩
abbrev L_ref18_Date : List Nat := [0, 2, 3, 4, 5, 6, 7, 8, 9, 10, 12, 14, 32, 35, 45]
def ref18_Date_p1 (t1 : Int) : Option (Int) :=
  (if (decide (t1 < 0)) then
    some 0
  else
    some t1)
def ref18_Date_p2 (t3 : Int) : Option (Int) :=
  (if (decide (253402300799 < t3)) then
    some 253402300799
  else
    some t3)
def ref18_Date_p3 (r9 : Bool) : Option (Int) :=
  (if r9 then
    some 366
  else
    some 365)
def ref18_Date_l1  : (Int × Int) → Option (St (List UInt8) (Int × Int) (Int × Int))
  | (d7, y8) =>
    (ref18_leap y8).bind fun r9 =>
    (ref18_Date_p3 r9).bind fun nn11 =>
    (if (decide (d7 < nn11)) then
      some (.brk (d7, y8))
    else
      some (.nxt ((IntKind.wrap .i64 (d7 - nn11)), (IntKind.wrap .i64 (y8 + 1)))))
def ref18_Date_l2 (y15 : Int) : (Int × Int) → Option (St (List UInt8) (Int × Int) (Int × Int))
  | (d16, m17) =>
    (ref18_days m17 y15).bind fun r18 =>
    (if (decide (r18 ≤ d16)) then
      (ref18_days m17 y15).bind fun r19 =>
      some (.nxt ((IntKind.wrap .i64 (d16 - r19)), (IntKind.wrap .i64 (m17 + 1))))
    else
      some (.brk (d16, m17)))
def ref18_Date (F : Nat) (t1 : Int) : Option ((List UInt8)) :=
  (ref18_Date_p1 t1).bind fun t3 =>
  (ref18_Date_p2 t3).bind fun t5 =>
  (idx ([([84, 104, 117] : List UInt8), ([70, 114, 105] : List UInt8), ([83, 97, 116] : List UInt8), ([83, 117, 110] : List UInt8), ([77, 111, 110] : List UInt8), ([84, 117, 101] : List UInt8), ([87, 101, 100] : List UInt8)] : List (List UInt8)) (Int.tmod (IntKind.wrap .i64 (Int.tdiv t5 86400)) 7)).bind fun x6 =>
  ((iter ref18_Date_l1 F ((Int.tmod (IntKind.wrap .i64 (Int.tdiv t5 86400)) 146097), (IntKind.wrap .i64 (1970 + (IntKind.wrap .i64 (400 * (IntKind.wrap .i64 (Int.tdiv (IntKind.wrap .i64 (Int.tdiv t5 86400)) 146097)))))))).bind fun o46 =>
  match o46 with
  | .inr (d14, y15) =>
    ((iter (ref18_Date_l2 y15) F (d14, 0)).bind fun o45 =>
    match o45 with
    | .inr (d22, m23) =>
      (cat x6 ([44, 32] : List UInt8)).bind fun x24 =>
      (idx ([([74, 97, 110] : List UInt8), ([70, 101, 98] : List UInt8), ([77, 97, 114] : List UInt8), ([65, 112, 114] : List UInt8), ([77, 97, 121] : List UInt8), ([74, 117, 110] : List UInt8), ([74, 117, 108] : List UInt8), ([65, 117, 103] : List UInt8), ([83, 101, 112] : List UInt8), ([79, 99, 116] : List UInt8), ([78, 111, 118] : List UInt8), ([68, 101, 99] : List UInt8)] : List (List UInt8)) m23).bind fun x25 =>
      (ref18_two (IntKind.wrap .i64 (d22 + 1))).bind fun r26 =>
      (cat x24 r26).bind fun x27 =>
      (cat x27 ([32] : List UInt8)).bind fun x28 =>
      (cat x28 x25).bind fun x29 =>
      (cat x29 ([32] : List UInt8)).bind fun x30 =>
      (ref18_two (IntKind.wrap .i64 (Int.tdiv y15 100))).bind fun r31 =>
      (cat x30 r31).bind fun x32 =>
      (ref18_two y15).bind fun r33 =>
      (cat x32 r33).bind fun x34 =>
      (cat x34 ([32] : List UInt8)).bind fun x35 =>
      (ref18_two (IntKind.wrap .i64 (Int.tdiv (Int.tmod t5 86400) 3600))).bind fun r36 =>
      (cat x35 r36).bind fun x37 =>
      (cat x37 ([58] : List UInt8)).bind fun x38 =>
      (ref18_two (Int.tmod (IntKind.wrap .i64 (Int.tdiv (Int.tmod t5 86400) 60)) 60)).bind fun r39 =>
      (cat x38 r39).bind fun x40 =>
      (cat x40 ([58] : List UInt8)).bind fun x41 =>
      (ref18_two (Int.tmod (Int.tmod t5 86400) 60)).bind fun r42 =>
      (cat x41 r42).bind fun x43 =>
      (cat x43 ([32, 43, 48, 48, 48, 48] : List UInt8)).bind fun x44 => some x44
    | .inl _ => none)
  | .inl _ => none)
theorem ref18_Date_p1_ok {t1 : Int} {H : AH}  {K : Exit → Env → AH → Prop} {t2 : Int}
    (h : ref18_Date_p1 t1 = some t2)
    (kn : K .normal [(0, (.int .i64 t2))] H) :
    AX Tryd.prog L_ref18_Date 91 H.length c_ref18_Date_p1 K [(0, (.int .i64 t1)), (12, (.bool (decide (t1 < 0))))] H := by
  refine AX.go (m := m_ref18_Date_p1) rfl (by decide) fun K' hK => ?_
  rw [ref18_Date_p1.eq_1] at h
  try simp only [WW, ↓reduceIte, nA, nB, nC, nD, nE, nF, nG, reduceCtorEq, L_ref18_Date, m_ref18_Date_p1, c_ref18_Date_p1, encFieldV, encL1b8]
  rcases ifb h with ⟨hy1, h⟩ | ⟨hy1, h⟩
  · refine UC_t hy1 ?_
    try simp only [WW, ↓reduceIte, nA, nB, nC, nD, nE, nF, nG, reduceCtorEq, L_ref18_Date, encFieldV, encL1b8]
    have hq := Option.some.inj h; subst hq
    refine hK _ _ _ _ _ ?_ (WxH.refl _) (kn )
    exact WE.cons (Wx.int) (WE.nil)
  · refine UC_f hy1 ?_
    try simp only [WW, ↓reduceIte, nA, nB, nC, nD, nE, nF, nG, reduceCtorEq, L_ref18_Date, encFieldV, encL1b8]
    have hq := Option.some.inj h; subst hq
    refine hK _ _ _ _ _ ?_ (WxH.refl _) (kn )
    exact WE.cons (Wx.int) (WE.nil)
theorem ref18_Date_p2_ok {t3 : Int} {H : AH}  {K : Exit → Env → AH → Prop} {t4 : Int}
    (h : ref18_Date_p2 t3 = some t4)
    (kn : K .normal [(0, (.int .i64 t4))] H) :
    AX Tryd.prog L_ref18_Date 91 H.length c_ref18_Date_p2 K [(0, (.int .i64 t3)), (14, (.bool (decide (253402300799 < t3))))] H := by
  refine AX.go (m := m_ref18_Date_p2) rfl (by decide) fun K' hK => ?_
  rw [ref18_Date_p2.eq_1] at h
  try simp only [WW, ↓reduceIte, nA, nB, nC, nD, nE, nF, nG, reduceCtorEq, L_ref18_Date, m_ref18_Date_p2, c_ref18_Date_p2, encFieldV, encL1b8]
  rcases ifb h with ⟨hy3, h⟩ | ⟨hy3, h⟩
  · refine UC_t hy3 ?_
    try simp only [WW, ↓reduceIte, nA, nB, nC, nD, nE, nF, nG, reduceCtorEq, L_ref18_Date, encFieldV, encL1b8]
    have hq := Option.some.inj h; subst hq
    refine hK _ _ _ _ _ ?_ (WxH.refl _) (kn )
    exact WE.cons (Wx.int) (WE.nil)
  · refine UC_f hy3 ?_
    try simp only [WW, ↓reduceIte, nA, nB, nC, nD, nE, nF, nG, reduceCtorEq, L_ref18_Date, encFieldV, encL1b8]
    have hq := Option.some.inj h; subst hq
    refine hK _ _ _ _ _ ?_ (WxH.refl _) (kn )
    exact WE.cons (Wx.int) (WE.nil)
theorem ref18_Date_p3_ok {r9 : Bool} {d7 : Int} {t5 : Int} {x6 : List UInt8} {y8 : Int} {H : AH}  {K : Exit → Env → AH → Prop} {nn10 : Int}
    (h : ref18_Date_p3 r9 = some nn10)
    (kn : K .normal [(3, (.int .i64 d7)), (4, (.int .i64 (Int.tmod t5 86400))), (6, (.str x6)), (7, (.int .i64 y8)), (8, (.int .i64 nn10))] H) :
    AX Tryd.prog L_ref18_Date 91 H.length c_ref18_Date_p3 K [(3, (.int .i64 d7)), (4, (.int .i64 (Int.tmod t5 86400))), (6, (.str x6)), (7, (.int .i64 y8)), (8, (.int .i64 365)), (32, (.bool r9))] H := by
  refine AX.go (m := m_ref18_Date_p3) rfl (by decide) fun K' hK => ?_
  rw [ref18_Date_p3.eq_1] at h
  try simp only [WW, ↓reduceIte, nA, nB, nC, nD, nE, nF, nG, reduceCtorEq, L_ref18_Date, m_ref18_Date_p3, c_ref18_Date_p3, encFieldV, encL1b8]
  rcases ifb h with ⟨hy13, h⟩ | ⟨hy13, h⟩
  · refine UC_t hy13 ?_
    try simp only [WW, ↓reduceIte, nA, nB, nC, nD, nE, nF, nG, reduceCtorEq, L_ref18_Date, encFieldV, encL1b8]
    have hq := Option.some.inj h; subst hq
    refine hK _ _ _ _ _ ?_ (WxH.refl _) (kn )
    exact WE.cons (Wx.int) (WE.cons (Wx.int) (WE.cons (Wx.str) (WE.cons (Wx.int) (WE.cons (Wx.int) (WE.nil)))))
  · refine UC_f hy13 ?_
    try simp only [WW, ↓reduceIte, nA, nB, nC, nD, nE, nF, nG, reduceCtorEq, L_ref18_Date, encFieldV, encL1b8]
    have hq := Option.some.inj h; subst hq
    refine hK _ _ _ _ _ ?_ (WxH.refl _) (kn )
    exact WE.cons (Wx.int) (WE.cons (Wx.int) (WE.cons (Wx.str) (WE.cons (Wx.int) (WE.cons (Wx.int) (WE.nil)))))
theorem ref18_Date_l1_ok {F : Nat} {y8 : Int} {d7 : Int} {t5 : Int} {x6 : List UInt8} {H : AH}  {K : Exit → Env → AH → Prop} {o : ((List UInt8)) ⊕ (Int × Int)}
    (h : iter ref18_Date_l1 F (d7, y8) = some o)
    (kb0 : ∀ o' : Int × Int, o = .inr o' → K (.exit 0) [(3, (.int .i64 o'.1)), (4, (.int .i64 (Int.tmod t5 86400))), (6, (.str x6)), (7, (.int .i64 o'.2))] H) :
    AX Tryd.prog L_ref18_Date 91 H.length c_ref18_Date_l1 K [(3, (.int .i64 d7)), (4, (.int .i64 (Int.tmod t5 86400))), (6, (.str x6)), (7, (.int .i64 y8))] H := by
  refine AX.iter (m := m_ref18_Date_l1b) rfl (by decide) (fun s e H1 => match s with | (d7, y8) => e = [(3, (.int .i64 d7)), (4, (.int .i64 (Int.tmod t5 86400))), (6, (.str x6)), (7, (.int .i64 y8))] ∧ H1 = H) h ⟨rfl, rfl⟩ ?_
  rintro K' ⟨d7, y8⟩ st e H ⟨rfl, rfl⟩ h hN hB hR hX
  rw [ref18_Date_l1.eq_1] at h
  try simp only [WW, ↓reduceIte, nA, nB, nC, nD, nE, nF, nG, reduceCtorEq, L_ref18_Date, m_ref18_Date_l1b, encFieldV, encL1b8]
  obtain ⟨r9, hy12, h⟩ := bnd' h
  refine UK_e (as' := [(.int .i64 y8)]) (h := ref18_leap_ok (y1 := y8)  hy12) (hw := WL.cons (Wx.int) (WL.nil)) (hh := WxH.refl _) ?_
  try simp only [WW, ↓reduceIte, nA, nB, nC, nD, nE, nF, nG, reduceCtorEq, L_ref18_Date, encFieldV, encL1b8]
  obtain ⟨nn11, hy14, h⟩ := bnd' h
  refine UX_of (AX.weak ?_ (WxH.refl _) (ref18_Date_p3_ok  (r9 := r9) (d7 := d7) (t5 := t5) (x6 := x6) (y8 := y8) (nn10 := nn11)   hy14 ?_))
  · exact WE.cons (Wx.int) (WE.cons (Wx.int) (WE.cons (Wx.str) (WE.cons (Wx.int) (WE.cons (Wx.int) (WE.cons (Wx.bool) (WE.nil))))))
  try simp only [WW, ↓reduceIte, nA, nB, nC, nD, nE, nF, nG, reduceCtorEq, L_ref18_Date, encFieldV, encL1b8]
  rcases ifb h with ⟨hy15, h⟩ | ⟨hy15, h⟩
  · refine UC_t hy15 ?_
    try simp only [WW, ↓reduceIte, nA, nB, nC, nD, nE, nF, nG, reduceCtorEq, L_ref18_Date, encFieldV, encL1b8]
    have hq := Option.some.inj h; subst hq
    refine hX _ _ _ _ _ (by simp) ?_ (WxH.refl _) (kb0 _ (hB _ rfl) )
    exact WE.cons (Wx.int) (WE.cons (Wx.int) (WE.cons (Wx.str) (WE.cons (Wx.int) (WE.nil))))
  · refine UC_f hy15 ?_
    try simp only [WW, ↓reduceIte, nA, nB, nC, nD, nE, nF, nG, reduceCtorEq, L_ref18_Date, encFieldV, encL1b8]
    have hq := Option.some.inj h; subst hq
    refine hN _ rfl _ _ _ _ ?_ (WxH.refl _) ⟨rfl, rfl⟩
    exact WE.cons (Wx.int) (WE.cons (Wx.int) (WE.cons (Wx.str) (WE.cons (Wx.int) (WE.nil))))
theorem ref18_Date_l2_ok {F : Nat} {m17 : Int} {y15 : Int} {d16 : Int} {t5 : Int} {x6 : List UInt8} {H : AH}  {K : Exit → Env → AH → Prop} {o : ((List UInt8)) ⊕ (Int × Int)}
    (h : iter (ref18_Date_l2 y15) F (d16, m17) = some o)
    (kb2 : ∀ o' : Int × Int, o = .inr o' → K (.exit 2) [(3, (.int .i64 o'.1)), (4, (.int .i64 (Int.tmod t5 86400))), (6, (.str x6)), (7, (.int .i64 y15)), (9, (.int .i64 o'.2))] H) :
    AX Tryd.prog L_ref18_Date 91 H.length c_ref18_Date_l2 K [(3, (.int .i64 d16)), (4, (.int .i64 (Int.tmod t5 86400))), (6, (.str x6)), (7, (.int .i64 y15)), (9, (.int .i64 m17))] H := by
  refine AX.iter (m := m_ref18_Date_l2b) rfl (by decide) (fun s e H1 => match s with | (d16, m17) => e = [(3, (.int .i64 d16)), (4, (.int .i64 (Int.tmod t5 86400))), (6, (.str x6)), (7, (.int .i64 y15)), (9, (.int .i64 m17))] ∧ H1 = H) h ⟨rfl, rfl⟩ ?_
  rintro K' ⟨d16, m17⟩ st e H ⟨rfl, rfl⟩ h hN hB hR hX
  rw [ref18_Date_l2.eq_1] at h
  try simp only [WW, ↓reduceIte, nA, nB, nC, nD, nE, nF, nG, reduceCtorEq, L_ref18_Date, m_ref18_Date_l2b, c_ref18_Date_l2b, encFieldV, encL1b8]
  obtain ⟨r18, hy17, h⟩ := bnd' h
  refine UK_e (as' := [(.int .i64 m17), (.int .i64 y15)]) (h := ref18_days_ok (m1 := m17) (y2 := y15)  hy17) (hw := WL.cons (Wx.int) (WL.cons (Wx.int) (WL.nil))) (hh := WxH.refl _) ?_
  try simp only [WW, ↓reduceIte, nA, nB, nC, nD, nE, nF, nG, reduceCtorEq, L_ref18_Date, encFieldV, encL1b8]
  rcases ifb h with ⟨hy18, h⟩ | ⟨hy18, h⟩
  · refine UC_t hy18 ?_
    try simp only [WW, ↓reduceIte, nA, nB, nC, nD, nE, nF, nG, reduceCtorEq, L_ref18_Date, encFieldV, encL1b8]
    obtain ⟨r19, hy19, h⟩ := bnd' h
    refine UK_e (as' := [(.int .i64 m17), (.int .i64 y15)]) (h := ref18_days_ok (m1 := m17) (y2 := y15)  hy19) (hw := WL.cons (Wx.int) (WL.cons (Wx.int) (WL.nil))) (hh := WxH.refl _) ?_
    try simp only [WW, ↓reduceIte, nA, nB, nC, nD, nE, nF, nG, reduceCtorEq, L_ref18_Date, encFieldV, encL1b8]
    have hq := Option.some.inj h; subst hq
    refine hN _ rfl _ _ _ _ ?_ (WxH.refl _) ⟨rfl, rfl⟩
    exact WE.cons (Wx.int) (WE.cons (Wx.int) (WE.cons (Wx.str) (WE.cons (Wx.int) (WE.cons (Wx.int) (WE.nil)))))
  · refine UC_f hy18 ?_
    try simp only [WW, ↓reduceIte, nA, nB, nC, nD, nE, nF, nG, reduceCtorEq, L_ref18_Date, encFieldV, encL1b8]
    have hq := Option.some.inj h; subst hq
    refine hX _ _ _ _ _ (by simp) ?_ (WxH.refl _) (kb2 _ (hB _ rfl) )
    exact WE.cons (Wx.int) (WE.cons (Wx.int) (WE.cons (Wx.str) (WE.cons (Wx.int) (WE.cons (Wx.int) (WE.nil)))))
theorem ref18_Date_ok {F : Nat} {t1 : Int}  {H0 : AH}  {rz0 : List UInt8} (h : ref18_Date F t1 = some rz0) :
    ACalls Tryd.prog 16 [(.int .i64 t1)] H0 fun v H' => v = (.str rz0) ∧ H' = H0 := by
  refine ACalls.goX k_ref18_Date (m := m_ref18_Date) rfl L_ref18_Date (by decide) (by simp) fun hcl K0 hK0 => ?_
  refine AX.of_U (m := m_ref18_Date) rfl (by decide) ?_
  rw [ref18_Date.eq_1] at h
  try simp only [WW, ↓reduceIte, nA, nB, nC, nD, nE, nF, nG, reduceCtorEq, L_ref18_Date, m_ref18_Date, encFieldV, encL1b8]
  obtain ⟨t3, hy2, h⟩ := bnd' h
  refine UX_of (AX.weak ?_ (WxH.refl _) (ref18_Date_p1_ok  (t1 := t1) (t2 := t3)   hy2 ?_))
  · exact WE.cons (Wx.int) (WE.cons (Wx.bool) (WE.nil))
  try simp only [WW, ↓reduceIte, nA, nB, nC, nD, nE, nF, nG, reduceCtorEq, L_ref18_Date, encFieldV, encL1b8]
  obtain ⟨t5, hy4, h⟩ := bnd' h
  refine UX_of (AX.weak ?_ (WxH.refl _) (ref18_Date_p2_ok  (t3 := t3) (t4 := t5)   hy4 ?_))
  · exact WE.cons (Wx.int) (WE.cons (Wx.bool) (WE.nil))
  try simp only [WW, ↓reduceIte, nA, nB, nC, nD, nE, nF, nG, reduceCtorEq, L_ref18_Date, encFieldV, encL1b8]
  have hy5 : dv .i64 t5 86400 = some (IntKind.wrap .i64 (Int.tdiv t5 86400)) := rfl
  have hy6 : rm .i64 t5 86400 = some (Int.tmod t5 86400) := rfl
  have hy7 : rm .i64 (IntKind.wrap .i64 (Int.tdiv t5 86400)) 7 = some (Int.tmod (IntKind.wrap .i64 (Int.tdiv t5 86400)) 7) := rfl
  obtain ⟨x6, hy8, h⟩ := bnd' h
  have hy9 : idx [(.str ([84, 104, 117] : List UInt8)), (.str ([70, 114, 105] : List UInt8)), (.str ([83, 97, 116] : List UInt8)), (.str ([83, 117, 110] : List UInt8)), (.str ([77, 111, 110] : List UInt8)), (.str ([84, 117, 101] : List UInt8)), (.str ([87, 101, 100] : List UInt8))] (Int.tmod (IntKind.wrap .i64 (Int.tdiv t5 86400)) 7) = some (AV.str x6) := idx_m (f := AV.str) hy8
  have hy10 : dv .i64 (IntKind.wrap .i64 (Int.tdiv t5 86400)) 146097 = some (IntKind.wrap .i64 (Int.tdiv (IntKind.wrap .i64 (Int.tdiv t5 86400)) 146097)) := rfl
  have hy11 : rm .i64 (IntKind.wrap .i64 (Int.tdiv t5 86400)) 146097 = some (Int.tmod (IntKind.wrap .i64 (Int.tdiv t5 86400)) 146097) := rfl
  try simp only [WW, ↓reduceIte, nA, nB, nC, nD, nE, nF, nG, reduceCtorEq, L_ref18_Date, hy5, hy6, hy7, hy9, hy10, hy11, encFieldV, encL1b8]
  obtain ⟨o46, hy16, h⟩ := bnd' h
  refine UX_of (AX.weak ?_ (WxH.refl _) (ref18_Date_l1_ok  (t5 := t5) (x6 := x6) (d7 := (Int.tmod (IntKind.wrap .i64 (Int.tdiv t5 86400)) 146097)) (y8 := (IntKind.wrap .i64 (1970 + (IntKind.wrap .i64 (400 * (IntKind.wrap .i64 (Int.tdiv (IntKind.wrap .i64 (Int.tdiv t5 86400)) 146097)))))))   (o := o46) hy16 ?_))
  · exact WE.cons (Wx.int) (WE.cons (Wx.int) (WE.cons (Wx.str) (WE.cons (Wx.int) (WE.nil))))
  · rintro ⟨d14, y15⟩ rfl  
    try dsimp only at h 
    try simp only [WW, ↓reduceIte, nA, nB, nC, nD, nE, nF, nG, reduceCtorEq, L_ref18_Date, encFieldV, encL1b8]
    obtain ⟨o45, hy20, h⟩ := bnd' h
    refine UX_of (AX.weak ?_ (WxH.refl _) (ref18_Date_l2_ok  (y15 := y15) (t5 := t5) (x6 := x6) (d16 := d14) (m17 := 0)   (o := o45) hy20 ?_))
    · exact WE.cons (Wx.int) (WE.cons (Wx.int) (WE.cons (Wx.str) (WE.cons (Wx.int) (WE.cons (Wx.int) (WE.nil)))))
    · rintro ⟨d22, m23⟩ rfl  
      try dsimp only at h 
      try simp only [WW, ↓reduceIte, nA, nB, nC, nD, nE, nF, nG, reduceCtorEq, L_ref18_Date, encFieldV, encL1b8]
      obtain ⟨x24, hy21, h⟩ := bnd' h
      obtain ⟨x25, hy22, h⟩ := bnd' h
      have hy23 : idx [(.str ([74, 97, 110] : List UInt8)), (.str ([70, 101, 98] : List UInt8)), (.str ([77, 97, 114] : List UInt8)), (.str ([65, 112, 114] : List UInt8)), (.str ([77, 97, 121] : List UInt8)), (.str ([74, 117, 110] : List UInt8)), (.str ([74, 117, 108] : List UInt8)), (.str ([65, 117, 103] : List UInt8)), (.str ([83, 101, 112] : List UInt8)), (.str ([79, 99, 116] : List UInt8)), (.str ([78, 111, 118] : List UInt8)), (.str ([68, 101, 99] : List UInt8))] m23 = some (AV.str x25) := idx_m (f := AV.str) hy22
      have hy24 : dv .i64 y15 100 = some (IntKind.wrap .i64 (Int.tdiv y15 100)) := rfl
      have hy25 : dv .i64 (Int.tmod t5 86400) 3600 = some (IntKind.wrap .i64 (Int.tdiv (Int.tmod t5 86400) 3600)) := rfl
      have hy26 : dv .i64 (Int.tmod t5 86400) 60 = some (IntKind.wrap .i64 (Int.tdiv (Int.tmod t5 86400) 60)) := rfl
      have hy27 : rm .i64 (IntKind.wrap .i64 (Int.tdiv (Int.tmod t5 86400) 60)) 60 = some (Int.tmod (IntKind.wrap .i64 (Int.tdiv (Int.tmod t5 86400) 60)) 60) := rfl
      have hy28 : rm .i64 (Int.tmod t5 86400) 60 = some (Int.tmod (Int.tmod t5 86400) 60) := rfl
      try simp only [WW, ↓reduceIte, nA, nB, nC, nD, nE, nF, nG, reduceCtorEq, L_ref18_Date, hy21, hy23, hy24, hy25, hy26, hy27, hy28, encFieldV, encL1b8]
      obtain ⟨r26, hy29, h⟩ := bnd' h
      refine UK_e (as' := [(.int .i64 (IntKind.wrap .i64 (d22 + 1)))]) (h := ref18_two_ok (nn1 := (IntKind.wrap .i64 (d22 + 1)))  hy29) (hw := WL.cons (Wx.int) (WL.nil)) (hh := WxH.refl _) ?_
      try simp only [WW, ↓reduceIte, nA, nB, nC, nD, nE, nF, nG, reduceCtorEq, L_ref18_Date, encFieldV, encL1b8]
      obtain ⟨x27, hy30, h⟩ := bnd' h
      obtain ⟨x28, hy31, h⟩ := bnd' h
      obtain ⟨x29, hy32, h⟩ := bnd' h
      obtain ⟨x30, hy33, h⟩ := bnd' h
      try simp only [WW, ↓reduceIte, nA, nB, nC, nD, nE, nF, nG, reduceCtorEq, L_ref18_Date, hy30, hy31, hy32, hy33, encFieldV, encL1b8]
      obtain ⟨r31, hy34, h⟩ := bnd' h
      refine UK_e (as' := [(.int .i64 (IntKind.wrap .i64 (Int.tdiv y15 100)))]) (h := ref18_two_ok (nn1 := (IntKind.wrap .i64 (Int.tdiv y15 100)))  hy34) (hw := WL.cons (Wx.int) (WL.nil)) (hh := WxH.refl _) ?_
      try simp only [WW, ↓reduceIte, nA, nB, nC, nD, nE, nF, nG, reduceCtorEq, L_ref18_Date, encFieldV, encL1b8]
      obtain ⟨x32, hy35, h⟩ := bnd' h
      try simp only [WW, ↓reduceIte, nA, nB, nC, nD, nE, nF, nG, reduceCtorEq, L_ref18_Date, hy35, encFieldV, encL1b8]
      obtain ⟨r33, hy36, h⟩ := bnd' h
      refine UK_e (as' := [(.int .i64 y15)]) (h := ref18_two_ok (nn1 := y15)  hy36) (hw := WL.cons (Wx.int) (WL.nil)) (hh := WxH.refl _) ?_
      try simp only [WW, ↓reduceIte, nA, nB, nC, nD, nE, nF, nG, reduceCtorEq, L_ref18_Date, encFieldV, encL1b8]
      obtain ⟨x34, hy37, h⟩ := bnd' h
      obtain ⟨x35, hy38, h⟩ := bnd' h
      try simp only [WW, ↓reduceIte, nA, nB, nC, nD, nE, nF, nG, reduceCtorEq, L_ref18_Date, hy37, hy38, encFieldV, encL1b8]
      obtain ⟨r36, hy39, h⟩ := bnd' h
      refine UK_e (as' := [(.int .i64 (IntKind.wrap .i64 (Int.tdiv (Int.tmod t5 86400) 3600)))]) (h := ref18_two_ok (nn1 := (IntKind.wrap .i64 (Int.tdiv (Int.tmod t5 86400) 3600)))  hy39) (hw := WL.cons (Wx.int) (WL.nil)) (hh := WxH.refl _) ?_
      try simp only [WW, ↓reduceIte, nA, nB, nC, nD, nE, nF, nG, reduceCtorEq, L_ref18_Date, encFieldV, encL1b8]
      obtain ⟨x37, hy40, h⟩ := bnd' h
      obtain ⟨x38, hy41, h⟩ := bnd' h
      try simp only [WW, ↓reduceIte, nA, nB, nC, nD, nE, nF, nG, reduceCtorEq, L_ref18_Date, hy40, hy41, encFieldV, encL1b8]
      obtain ⟨r39, hy42, h⟩ := bnd' h
      refine UK_e (as' := [(.int .i64 (Int.tmod (IntKind.wrap .i64 (Int.tdiv (Int.tmod t5 86400) 60)) 60))]) (h := ref18_two_ok (nn1 := (Int.tmod (IntKind.wrap .i64 (Int.tdiv (Int.tmod t5 86400) 60)) 60))  hy42) (hw := WL.cons (Wx.int) (WL.nil)) (hh := WxH.refl _) ?_
      try simp only [WW, ↓reduceIte, nA, nB, nC, nD, nE, nF, nG, reduceCtorEq, L_ref18_Date, encFieldV, encL1b8]
      obtain ⟨x40, hy43, h⟩ := bnd' h
      obtain ⟨x41, hy44, h⟩ := bnd' h
      try simp only [WW, ↓reduceIte, nA, nB, nC, nD, nE, nF, nG, reduceCtorEq, L_ref18_Date, hy43, hy44, encFieldV, encL1b8]
      obtain ⟨r42, hy45, h⟩ := bnd' h
      refine UK_e (as' := [(.int .i64 (Int.tmod (Int.tmod t5 86400) 60))]) (h := ref18_two_ok (nn1 := (Int.tmod (Int.tmod t5 86400) 60))  hy45) (hw := WL.cons (Wx.int) (WL.nil)) (hh := WxH.refl _) ?_
      try simp only [WW, ↓reduceIte, nA, nB, nC, nD, nE, nF, nG, reduceCtorEq, L_ref18_Date, encFieldV, encL1b8]
      obtain ⟨x43, hy46, h⟩ := bnd' h
      obtain ⟨x44, hy47, h⟩ := bnd' h
      try simp only [WW, ↓reduceIte, nA, nB, nC, nD, nE, nF, nG, reduceCtorEq, L_ref18_Date, hy46, hy47, encFieldV, encL1b8]
      have hq := Option.some.inj h; subst hq
      refine hK0 _ _ _ (.inr rfl) ?_
      exact fn_endp hcl (resv_tmp (a := (.str x44)) rfl rfl resv_nil) (by first | (simp [fin, b_df, b_sh, b_sh1, b_Cl]; done) | (simp [fin, AV.df, AV.sh, AV.sh1, b_df, b_sh, b_sh1, b_Cl]; done)) (Wx.str) (r' := (.str x44)) ⟨rfl, rfl⟩

/-! ### mailbag/mailbaglaw18.HeadDates -/
def c_law18_HeadDates_p1 : ACode := (.rg [⟨(some 11), (.mv (.t 0)), none⟩, ⟨(some 12), (.bin .lss (.t 11) (.c (.int .i64 0))), none⟩, ⟨(some 13), (.mv (.t 12)), none⟩, ⟨(some 14), (.mv (.t 0)), (some (13, false))⟩, ⟨(some 15), (.bin .gtr (.t 14) (.c (.int .i64 253401609599))), (some (13, false))⟩, ⟨(some 16), (.pick (.t 13) (.c (.bool true)) (.t 15)), none⟩, ⟨(some 17), (.mv (.t 16)), none⟩, ⟨(some 18), (.mv (.t 1)), (some (17, false))⟩, ⟨(some 19), (.bin .lss (.t 18) (.c (.int .i64 0))), (some (17, false))⟩, ⟨(some 20), (.pick (.t 17) (.c (.bool true)) (.t 19)), none⟩, ⟨(some 21), (.mv (.t 20)), none⟩, ⟨(some 22), (.mv (.t 1)), (some (21, false))⟩, ⟨(some 23), (.bin .gtr (.t 22) (.c (.int .i64 691200))), (some (21, false))⟩, ⟨(some 24), (.pick (.t 21) (.c (.bool true)) (.t 23)), none⟩])
abbrev m_law18_HeadDates_p1 := c_law18_HeadDates_p1
def c_law18_HeadDates_p2 : ACode := (.rg (⟨(some 34), (.mv (.t 5)), none⟩ :: ⟨(some 35), (.lens (.t 34)), none⟩ :: ⟨(some 36), (.bin .eql (.t 35) (.c (.int .i64 31))), none⟩ :: ⟨(some 37), (.mv (.t 36)), none⟩ :: ⟨(some 38), (.mv (.t 5)), (some (37, true))⟩ :: ⟨(some 39), (.sls (.t 38) none (some (.c (.int .i64 3)))), (some (37, true))⟩ :: ⟨(some 40), (.mv (.t 7)), (some (37, true))⟩ :: ⟨(some 41), (.mv (.t 8)), (some (37, true))⟩ :: ⟨(some 42), (.bin .mul (.c (.int .i64 3)) (.t 41)), (some (37, true))⟩ :: ⟨(some 43), (.mv (.t 8)), (some (37, true))⟩ :: ⟨(some 44), (.bin .mul (.c (.int .i64 3)) (.t 43)), (some (37, true))⟩ :: ⟨(some 45), (.bin .add (.t 44) (.c (.int .i64 3))), (some (37, true))⟩ :: ⟨(some 46), (.sls (.t 40) (some (.t 42)) (some (.t 45))), (some (37, true))⟩ :: ⟨(some 47), (.bin .eql (.t 39) (.t 46)), (some (37, true))⟩ :: ⟨(some 48), (.pick (.t 37) (.t 47) (.c (.bool false))), none⟩ :: ⟨(some 49), (.mv (.t 48)), none⟩ :: ⟨(some 50), (.mv (.t 5)), (some (49, true))⟩ :: ⟨(some 51), (.mv (.t 6)), (some (49, true))⟩ :: ⟨(some 52), (.bin .eql (.t 50) (.t 51)), (some (49, true))⟩ :: ⟨(some 53), (.mv (.t 1)), (some (49, true))⟩ :: ⟨(some 54), (.bin .eql (.t 53) (.c (.int .i64 0))), (some (49, true))⟩ :: ⟨(some 55), (.bq false (.t 52) (.t 54)), (some (49, true))⟩ :: ⟨(some 56), (.pick (.t 49) (.t 55) (.c (.bool false))), none⟩ :: ⟨(some 57), (.mv (.t 56)), none⟩ :: ⟨(some 58), (.mv (.t 5)), (some (57, true))⟩ :: ⟨(some 59), (.mv (.t 0)), (some (57, true))⟩ :: ⟨(some 60), (.call (.c (.fn 16 [])) [(.t 59)]), (some (57, true))⟩ :: ⟨(some 61), (.bin .eql (.t 58) (.t 60)), (some (57, true))⟩ :: ⟨(some 62), (.pick (.t 57) (.t 61) (.c (.bool false))), none⟩ :: ⟨(some 4), (.asg (.t 62)), none⟩ :: []))
abbrev m_law18_HeadDates_p2 := c_law18_HeadDates_p2
def c_law18_HeadDates : ACode := (.seq (.rg [⟨(some 4), (.asg (.c (.bool false))), none⟩]) (.seq (.seq (.rg [⟨(some 9), (.call (.c (.fn 14 [])) []), none⟩, ⟨(some 10), (.un .not (.t 9)), none⟩]) (.cond (.t 10) (.seq (.rg [⟨(some 4), (.asg (.c (.bool false))), none⟩]) .ret) .skip)) (.seq (.seq c_law18_HeadDates_p1 (.cond (.t 24) (.seq (.rg [⟨(some 4), (.asg (.c (.bool true))), none⟩]) .ret) .skip)) (.seq (.rg [⟨(some 25), (.mv (.t 0)), none⟩, ⟨(some 26), (.call (.c (.fn 15 [])) [(.t 25)]), none⟩, ⟨(some 5), (.asg (.t 26)), none⟩]) (.seq (.rg [⟨(some 27), (.mv (.t 0)), none⟩, ⟨(some 28), (.mv (.t 1)), none⟩, ⟨(some 29), (.bin .add (.t 27) (.t 28)), none⟩, ⟨(some 30), (.call (.c (.fn 15 [])) [(.t 29)]), none⟩, ⟨(some 6), (.asg (.t 30)), none⟩]) (.seq (.rg [⟨(some 7), (.asg (.c (.str [84, 104, 117, 70, 114, 105, 83, 97, 116, 83, 117, 110, 77, 111, 110, 84, 117, 101, 87, 101, 100]))), none⟩]) (.seq (.rg [⟨(some 31), (.mv (.t 0)), none⟩, ⟨(some 32), (.bin .quo (.t 31) (.c (.int .i64 86400))), none⟩, ⟨(some 33), (.bin .rem (.t 32) (.c (.int .i64 7))), none⟩, ⟨(some 8), (.asg (.t 33)), none⟩]) (.seq c_law18_HeadDates_p2 .ret))))))))
def m_law18_HeadDates : ACode := (.seq (.rg [⟨(some 4), (.asg (.c (.bool false))), none⟩]) (.seq (.seq (.rg [⟨(some 9), (.call (.c (.fn 14 [])) []), none⟩, ⟨(some 10), (.un .not (.t 9)), none⟩]) (.cond (.t 10) (.seq (.rg [⟨(some 4), (.asg (.c (.bool false))), none⟩]) .ret) .skip)) (.seq (.seq (.sem c_law18_HeadDates_p1) (.cond (.t 24) (.seq (.rg [⟨(some 4), (.asg (.c (.bool true))), none⟩]) .ret) .skip)) (.seq (.rg [⟨(some 25), (.mv (.t 0)), none⟩, ⟨(some 26), (.call (.c (.fn 15 [])) [(.t 25)]), none⟩, ⟨(some 5), (.asg (.t 26)), none⟩]) (.seq (.rg [⟨(some 27), (.mv (.t 0)), none⟩, ⟨(some 28), (.mv (.t 1)), none⟩, ⟨(some 29), (.bin .add (.t 27) (.t 28)), none⟩, ⟨(some 30), (.call (.c (.fn 15 [])) [(.t 29)]), none⟩, ⟨(some 6), (.asg (.t 30)), none⟩]) (.seq (.rg [⟨(some 7), (.asg (.c (.str [84, 104, 117, 70, 114, 105, 83, 97, 116, 83, 117, 110, 77, 111, 110, 84, 117, 101, 87, 101, 100]))), none⟩]) (.seq (.rg [⟨(some 31), (.mv (.t 0)), none⟩, ⟨(some 32), (.bin .quo (.t 31) (.c (.int .i64 86400))), none⟩, ⟨(some 33), (.bin .rem (.t 32) (.c (.int .i64 7))), none⟩, ⟨(some 8), (.asg (.t 33)), none⟩]) (.seq (.sem c_law18_HeadDates_p2) .ret))))))))
theorem k_law18_HeadDates : FnOk Tryd.prog 3 63 [(.tmp 4)] c_law18_HeadDates := ⟨Tryd.f3, _, rfl, by decide, rfl, by kernel_rfl, rfl, rfl⟩
abbrev L_law18_HeadDates : List Nat := [0, 1, 4, 5, 6, 7, 8, 10, 24]
def law18_HeadDates_p2 (F : Nat) (r4 : List UInt8) (t1 : Int) (r5 : List UInt8) (more2 : Int) : Option (Bool) :=
  (if (decide ((r4.length : Int) = 31)) then
    (sub r4 0 3).bind fun x6 =>
    (sub ([84, 104, 117, 70, 114, 105, 83, 97, 116, 83, 117, 110, 77, 111, 110, 84, 117, 101, 87, 101, 100] : List UInt8) (IntKind.wrap .i64 (3 * (Int.tmod (IntKind.wrap .i64 (Int.tdiv t1 86400)) 7))) (IntKind.wrap .i64 ((IntKind.wrap .i64 (3 * (Int.tmod (IntKind.wrap .i64 (Int.tdiv t1 86400)) 7))) + 3))).bind fun x7 =>
    (if (decide (x6 = x7)) then
      (if ((decide (r4 = r5)) == (decide (more2 = 0))) then
        (ref18_Date F t1).bind fun r8 => some (decide (r4 = r8))
      else
        some false)
    else
      some false)
  else
    some false)
def law18_HeadDates (F : Nat) (t1 : Int) (more2 : Int) : Option (Bool) :=
  (law18_known F ).bind fun r3 =>
  (if (!r3) then
    some false
  else
    (if ((((decide (t1 < 0)) || (decide (253401609599 < t1))) || (decide (more2 < 0))) || (decide (691200 < more2))) then
      some true
    else
      (head_Date F t1).bind fun r4 =>
      (head_Date F (IntKind.wrap .i64 (t1 + more2))).bind fun r5 =>
      (law18_HeadDates_p2 F r4 t1 r5 more2).bind fun t10 =>
      some t10))
theorem law18_HeadDates_p1_ok {t1 : Int} {more2 : Int} {H : AH}  {K : Exit → Env → AH → Prop}
    (kn : K .normal [(0, (.int .i64 t1)), (1, (.int .i64 more2)), (24, (.bool ((((decide (t1 < 0)) || (decide (253401609599 < t1))) || (decide (more2 < 0))) || (decide (691200 < more2)))))] H) :
    AX Tryd.prog L_law18_HeadDates 63 H.length c_law18_HeadDates_p1 K [(0, (.int .i64 t1)), (1, (.int .i64 more2))] H := by
  refine AX.go (m := m_law18_HeadDates_p1) rfl (by decide) fun K' hK => ?_
  try simp only [WW, ↓reduceIte, nA, nB, nC, nD, nE, nF, nG, reduceCtorEq, L_law18_HeadDates, m_law18_HeadDates_p1, c_law18_HeadDates_p1, encFieldV, encL1b8]
  rcases bcases ((decide (t1 < 0))) with hy3 | hy3
  · refine UG_nf hy3 ?_
    try simp only [WW, ↓reduceIte, nA, nB, nC, nD, nE, nF, nG, reduceCtorEq, L_law18_HeadDates, hy3, encFieldV, encL1b8]
    refine hK _ _ _ _ _ ?_ (WxH.refl _) (kn )
    exact WE.cons (Wx.int) (WE.cons (Wx.int) (WE.cons (Wx.boolE (by simp only [hy3, WB])) (WE.nil)))
  · refine UG_go hy3 ?_
    try simp only [WW, ↓reduceIte, nA, nB, nC, nD, nE, nF, nG, reduceCtorEq, L_law18_HeadDates, hy3, encFieldV, encL1b8]
    rcases bcases ((decide (253401609599 < t1))) with hy4 | hy4
    · refine UG_nf hy4 ?_
      try simp only [WW, ↓reduceIte, nA, nB, nC, nD, nE, nF, nG, reduceCtorEq, L_law18_HeadDates, hy4, encFieldV, encL1b8]
      refine hK _ _ _ _ _ ?_ (WxH.refl _) (kn )
      exact WE.cons (Wx.int) (WE.cons (Wx.int) (WE.cons (Wx.boolE (by first | (simp only [hy3, hy4, WB]; done) | (try rw [hy3]; try rw [hy4]; try simp only [WB]))) (WE.nil)))
    · refine UG_go hy4 ?_
      try simp only [WW, ↓reduceIte, nA, nB, nC, nD, nE, nF, nG, reduceCtorEq, L_law18_HeadDates, hy4, encFieldV, encL1b8]
      rcases bcases ((decide (more2 < 0))) with hy5 | hy5
      · refine UG_nf hy5 ?_
        try simp only [WW, ↓reduceIte, nA, nB, nC, nD, nE, nF, nG, reduceCtorEq, L_law18_HeadDates, hy5, encFieldV, encL1b8]
        refine hK _ _ _ _ _ ?_ (WxH.refl _) (kn )
        exact WE.cons (Wx.int) (WE.cons (Wx.int) (WE.cons (Wx.boolE (by first | (simp only [hy3, hy4, hy5, WB]; done) | (try rw [hy3]; try rw [hy4]; try rw [hy5]; try simp only [WB]))) (WE.nil)))
      · refine UG_go hy5 ?_
        try simp only [WW, ↓reduceIte, nA, nB, nC, nD, nE, nF, nG, reduceCtorEq, L_law18_HeadDates, hy5, encFieldV, encL1b8]
        refine hK _ _ _ _ _ ?_ (WxH.refl _) (kn )
        exact WE.cons (Wx.int) (WE.cons (Wx.int) (WE.cons (Wx.boolE (by first | (simp only [hy3, hy4, hy5, WB]; done) | (try rw [hy3]; try rw [hy4]; try rw [hy5]; try simp only [WB]))) (WE.nil)))
theorem law18_HeadDates_p2_ok {F : Nat} {r4 : List UInt8} {t1 : Int} {r5 : List UInt8} {more2 : Int} {H : AH}  {K : Exit → Env → AH → Prop} {t9 : Bool}
    (h : law18_HeadDates_p2 F r4 t1 r5 more2 = some t9)
    (kn : K .normal [(4, (.bool t9))] H) :
    AX Tryd.prog L_law18_HeadDates 63 H.length c_law18_HeadDates_p2 K [(0, (.int .i64 t1)), (1, (.int .i64 more2)), (5, (.str r4)), (6, (.str r5)), (7, (.str ([84, 104, 117, 70, 114, 105, 83, 97, 116, 83, 117, 110, 77, 111, 110, 84, 117, 101, 87, 101, 100] : List UInt8))), (8, (.int .i64 (Int.tmod (IntKind.wrap .i64 (Int.tdiv t1 86400)) 7)))] H := by
  refine AX.go (m := m_law18_HeadDates_p2) rfl (by decide) fun K' hK => ?_
  rw [law18_HeadDates_p2.eq_1] at h
  try simp only [WW, ↓reduceIte, nA, nB, nC, nD, nE, nF, nG, reduceCtorEq, L_law18_HeadDates, m_law18_HeadDates_p2, c_law18_HeadDates_p2, encFieldV, encL1b8]
  rcases ifb h with ⟨hy11, h⟩ | ⟨hy11, h⟩
  · refine UG_go hy11 ?_
    obtain ⟨x6, hy12, h⟩ := bnd' h
    obtain ⟨x7, hy13, h⟩ := bnd' h
    try simp only [WW, ↓reduceIte, nA, nB, nC, nD, nE, nF, nG, reduceCtorEq, L_law18_HeadDates, hy11, hy12, hy13, encFieldV, encL1b8]
    rcases ifb h with ⟨hy14, h⟩ | ⟨hy14, h⟩
    · refine UG_go hy14 ?_
      try simp only [WW, ↓reduceIte, nA, nB, nC, nD, nE, nF, nG, reduceCtorEq, L_law18_HeadDates, hy14, encFieldV, encL1b8]
      rcases ifb h with ⟨hy15, h⟩ | ⟨hy15, h⟩
      · refine UG_go hy15 ?_
        try simp only [WW, ↓reduceIte, nA, nB, nC, nD, nE, nF, nG, reduceCtorEq, L_law18_HeadDates, hy15, encFieldV, encL1b8]
        obtain ⟨r8, hy16, h⟩ := bnd' h
        refine UK_e (as' := [(.int .i64 t1)]) (h := ref18_Date_ok (t1 := t1) (F := F)  hy16) (hw := WL.cons (Wx.int) (WL.nil)) (hh := WxH.refl _) ?_
        try simp only [WW, ↓reduceIte, nA, nB, nC, nD, nE, nF, nG, reduceCtorEq, L_law18_HeadDates, encFieldV, encL1b8]
        have hq := Option.some.inj h; subst hq
        refine hK _ _ _ _ _ ?_ (WxH.refl _) (kn )
        exact WE.cons (Wx.bool) (WE.nil)
      · refine UG_nt hy15 ?_
        try simp only [WW, ↓reduceIte, nA, nB, nC, nD, nE, nF, nG, reduceCtorEq, L_law18_HeadDates, hy15, encFieldV, encL1b8]
        have hq := Option.some.inj h; subst hq
        refine hK _ _ _ _ _ ?_ (WxH.refl _) (kn )
        exact WE.cons (Wx.bool) (WE.nil)
    · refine UG_nt hy14 ?_
      try simp only [WW, ↓reduceIte, nA, nB, nC, nD, nE, nF, nG, reduceCtorEq, L_law18_HeadDates, hy14, encFieldV, encL1b8]
      have hq := Option.some.inj h; subst hq
      refine hK _ _ _ _ _ ?_ (WxH.refl _) (kn )
      exact WE.cons (Wx.bool) (WE.nil)
  · refine UG_nt hy11 ?_
    try simp only [WW, ↓reduceIte, nA, nB, nC, nD, nE, nF, nG, reduceCtorEq, L_law18_HeadDates, hy11, encFieldV, encL1b8]
    have hq := Option.some.inj h; subst hq
    refine hK _ _ _ _ _ ?_ (WxH.refl _) (kn )
    exact WE.cons (Wx.bool) (WE.nil)
theorem law18_HeadDates_ok {F : Nat} {t1 : Int} {more2 : Int}  {H0 : AH}  {rz0 : Bool} (h : law18_HeadDates F t1 more2 = some rz0) :
    ACalls Tryd.prog 3 [(.int .i64 t1), (.int .i64 more2)] H0 fun v H' => v = (.bool rz0) ∧ H' = H0 := by
  refine ACalls.goX k_law18_HeadDates (m := m_law18_HeadDates) rfl L_law18_HeadDates (by decide) (by simp) fun hcl K0 hK0 => ?_
  refine AX.of_U (m := m_law18_HeadDates) rfl (by decide) ?_
  rw [law18_HeadDates.eq_1] at h
  try simp only [WW, ↓reduceIte, nA, nB, nC, nD, nE, nF, nG, reduceCtorEq, L_law18_HeadDates, m_law18_HeadDates, encFieldV, encL1b8]
  obtain ⟨r3, hy1, h⟩ := bnd' h
  refine UK_e (as' := []) (h := law18_known_ok  (F := F)  hy1) (hw := WL.nil) (hh := WxH.refl _) ?_
  try simp only [WW, ↓reduceIte, nA, nB, nC, nD, nE, nF, nG, reduceCtorEq, L_law18_HeadDates, encFieldV, encL1b8]
  rcases ifb h with ⟨hy2, h⟩ | ⟨hy2, h⟩
  · refine UC_t hy2 ?_
    try simp only [WW, ↓reduceIte, nA, nB, nC, nD, nE, nF, nG, reduceCtorEq, L_law18_HeadDates, encFieldV, encL1b8]
    have hq := Option.some.inj h; subst hq
    refine hK0 _ _ _ (.inr rfl) ?_
    exact fn_endp hcl (resv_tmp (a := (.bool false)) rfl rfl resv_nil) (by first | (simp [fin, b_df, b_sh, b_sh1, b_Cl]; done) | (simp [fin, AV.df, AV.sh, AV.sh1, b_df, b_sh, b_sh1, b_Cl]; done)) (Wx.bool) (r' := (.bool false)) ⟨rfl, rfl⟩
  · refine UC_f hy2 ?_
    try simp only [WW, ↓reduceIte, nA, nB, nC, nD, nE, nF, nG, reduceCtorEq, L_law18_HeadDates, encFieldV, encL1b8]
    refine UX_of (AX.weak ?_ (WxH.refl _) (law18_HeadDates_p1_ok (t1 := t1) (more2 := more2)  ?_))
    · exact WE.cons (Wx.int) (WE.cons (Wx.int) (WE.nil))
    try simp only [WW, ↓reduceIte, nA, nB, nC, nD, nE, nF, nG, reduceCtorEq, L_law18_HeadDates, encFieldV, encL1b8]
    rcases ifb h with ⟨hy6, h⟩ | ⟨hy6, h⟩
    · refine UC_t hy6 ?_
      try simp only [WW, ↓reduceIte, nA, nB, nC, nD, nE, nF, nG, reduceCtorEq, L_law18_HeadDates, encFieldV, encL1b8]
      have hq := Option.some.inj h; subst hq
      refine hK0 _ _ _ (.inr rfl) ?_
      exact fn_endp hcl (resv_tmp (a := (.bool true)) rfl rfl resv_nil) (by first | (simp [fin, b_df, b_sh, b_sh1, b_Cl]; done) | (simp [fin, AV.df, AV.sh, AV.sh1, b_df, b_sh, b_sh1, b_Cl]; done)) (Wx.bool) (r' := (.bool true)) ⟨rfl, rfl⟩
    · refine UC_f hy6 ?_
      try simp only [WW, ↓reduceIte, nA, nB, nC, nD, nE, nF, nG, reduceCtorEq, L_law18_HeadDates, encFieldV, encL1b8]
      obtain ⟨r4, hy7, h⟩ := bnd' h
      refine UK_e (as' := [(.int .i64 t1)]) (h := head_Date_ok (t1 := t1) (F := F)  hy7) (hw := WL.cons (Wx.int) (WL.nil)) (hh := WxH.refl _) ?_
      try simp only [WW, ↓reduceIte, nA, nB, nC, nD, nE, nF, nG, reduceCtorEq, L_law18_HeadDates, encFieldV, encL1b8]
      obtain ⟨r5, hy8, h⟩ := bnd' h
      refine UK_e (as' := [(.int .i64 (IntKind.wrap .i64 (t1 + more2)))]) (h := head_Date_ok (t1 := (IntKind.wrap .i64 (t1 + more2))) (F := F)  hy8) (hw := WL.cons (Wx.int) (WL.nil)) (hh := WxH.refl _) ?_
      try simp only [WW, ↓reduceIte, nA, nB, nC, nD, nE, nF, nG, reduceCtorEq, L_law18_HeadDates, encFieldV, encL1b8]
      have hy9 : dv .i64 t1 86400 = some (IntKind.wrap .i64 (Int.tdiv t1 86400)) := rfl
      have hy10 : rm .i64 (IntKind.wrap .i64 (Int.tdiv t1 86400)) 7 = some (Int.tmod (IntKind.wrap .i64 (Int.tdiv t1 86400)) 7) := rfl
      try simp only [WW, ↓reduceIte, nA, nB, nC, nD, nE, nF, nG, reduceCtorEq, L_law18_HeadDates, hy9, hy10, encFieldV, encL1b8]
      obtain ⟨t10, hy17, h⟩ := bnd' h
      refine UX_of (AX.weak ?_ (WxH.refl _) (law18_HeadDates_p2_ok (F := F) (r4 := r4) (t1 := t1) (r5 := r5) (more2 := more2) (t9 := t10)   hy17 ?_))
      · exact WE.cons (Wx.int) (WE.cons (Wx.int) (WE.cons (Wx.str) (WE.cons (Wx.str) (WE.cons (Wx.str) (WE.cons (Wx.int) (WE.nil))))))
      try simp only [WW, ↓reduceIte, nA, nB, nC, nD, nE, nF, nG, reduceCtorEq, L_law18_HeadDates, encFieldV, encL1b8]
      have hq := Option.some.inj h; subst hq
      refine hK0 _ _ _ (.inr rfl) ?_
      exact fn_endp hcl (resv_tmp (a := (.bool t10)) rfl rfl resv_nil) (by first | (simp [fin, b_df, b_sh, b_sh1, b_Cl]; done) | (simp [fin, AV.df, AV.sh, AV.sh1, b_df, b_sh, b_sh1, b_Cl]; done)) (Wx.bool) (r' := (.bool t10)) ⟨rfl, rfl⟩

end Go.Proofs.HeadS
