import Derived.Test.YtfnnmecilcnloaaDoorAmW
import Derived.Test.YtfnnmecilcnloaaDoorAmPE
import Derived.Test.YtfnnmecilcnloaaDoorProg
import Derived.Test.YtfnnmecilcnloaaDoorAS0
set_option linter.unusedSimpArgs false
set_option linter.unusedVariables false
set_option linter.unusedSectionVars false
set_option linter.defProp false
set_option maxRecDepth 100000
namespace Go.Proofs.AddrS
open Go Go.Am Go.Proofs
open Nat renaming reduceEqDiff → nA, reduceLT → nB, reduceLeDiff → nC, reduceAdd → nD, reduceSub → nE, reduceMul → nF, reduceBEq → nG
set_option maxHeartbeats 2000000

structure ScannerV where
  s : List UInt8
  at0 : Int
  bad : Bool
  deriving DecidableEq

structure AddressV where
  local0 : List UInt8
  domain : List UInt8
  deriving DecidableEq

/-! ### (*mailbag/addr.scanner).next -/
def c_addr_scanner_next_s_p1 : ACode := (.rg [⟨(some 3), (.mv (.t 0)), none⟩, ⟨(some 4), (.nck (.t 3)), none⟩, ⟨(some 5), (.fld (.t 4) 2), none⟩, ⟨(some 6), (.ld (.t 5) none), none⟩, ⟨(some 7), (.mv (.t 6)), none⟩, ⟨(some 8), (.mv (.t 0)), (some (7, false))⟩, ⟨(some 9), (.nck (.t 8)), (some (7, false))⟩, ⟨(some 10), (.fld (.t 9) 1), (some (7, false))⟩, ⟨(some 11), (.ld (.t 10) none), (some (7, false))⟩, ⟨(some 12), (.mv (.t 0)), (some (7, false))⟩, ⟨(some 13), (.nck (.t 12)), (some (7, false))⟩, ⟨(some 14), (.fld (.t 13) 0), (some (7, false))⟩, ⟨(some 15), (.ld (.t 14) none), (some (7, false))⟩, ⟨(some 16), (.lens (.t 15)), (some (7, false))⟩, ⟨(some 17), (.bin .geq (.t 11) (.t 16)), (some (7, false))⟩, ⟨(some 18), (.pick (.t 7) (.c (.bool true)) (.t 17)), none⟩])
abbrev m_addr_scanner_next_s_p1 := c_addr_scanner_next_s_p1
def c_addr_scanner_next_s : ACode := (.seq (.rg [⟨(some 2), (.asg (.c (b8 0))), none⟩]) (.seq (.seq c_addr_scanner_next_s_p1 (.cond (.t 18) (.seq (.rg [⟨(some 2), (.asg (.c (b8 0))), none⟩]) .ret) .skip)) (.seq (.rg [⟨(some 19), (.mv (.t 0)), none⟩, ⟨(some 20), (.nck (.t 19)), none⟩, ⟨(some 21), (.fld (.t 20) 0), none⟩, ⟨(some 22), (.ld (.t 21) none), none⟩, ⟨(some 23), (.mv (.t 0)), none⟩, ⟨(some 24), (.nck (.t 23)), none⟩, ⟨(some 25), (.fld (.t 24) 1), none⟩, ⟨(some 26), (.ld (.t 25) none), none⟩, ⟨(some 27), (.ixs (.t 22) (.t 26)), none⟩, ⟨(some 2), (.asg (.t 27)), none⟩]) .ret)))
def m_addr_scanner_next_s : ACode := (.seq (.rg [⟨(some 2), (.asg (.c (b8 0))), none⟩]) (.seq (.seq (.sem c_addr_scanner_next_s_p1) (.cond (.t 18) (.seq (.rg [⟨(some 2), (.asg (.c (b8 0))), none⟩]) .ret) .skip)) (.seq (.rg [⟨(some 19), (.mv (.t 0)), none⟩, ⟨(some 20), (.nck (.t 19)), none⟩, ⟨(some 21), (.fld (.t 20) 0), none⟩, ⟨(some 22), (.ld (.t 21) none), none⟩, ⟨(some 23), (.mv (.t 0)), none⟩, ⟨(some 24), (.nck (.t 23)), none⟩, ⟨(some 25), (.fld (.t 24) 1), none⟩, ⟨(some 26), (.ld (.t 25) none), none⟩, ⟨(some 27), (.ixs (.t 22) (.t 26)), none⟩, ⟨(some 2), (.asg (.t 27)), none⟩]) .ret)))
theorem k_addr_scanner_next_s : FnOk Tryd.prog 96 28 [(.tmp 2)] c_addr_scanner_next_s := ⟨Tryd.f96, _, rfl, by decide, rfl, by kernel_rfl, rfl, rfl⟩
abbrev L_addr_scanner_next_s : List Nat := [0, 2, 18]
def addr_scanner_next_s (x1 : ScannerV) : Option (UInt8) :=
  (if (x1.bad || (decide ((x1.s.length : Int) ≤ x1.at0))) then
    some 0
  else
    (idx x1.s x1.at0).bind fun x2 => some x2)
theorem addr_scanner_next_s_p1_ok {x1 : ScannerV} {H : AH}  {K : Exit → Env → AH → Prop}
    (kn : K .normal [(0, (.ep (.agg [(.str x1.s), (.int .i64 x1.at0), (.bool x1.bad)]) 0)), (18, (.bool (x1.bad || (decide ((x1.s.length : Int) ≤ x1.at0)))))] H) :
    AX Tryd.prog L_addr_scanner_next_s 28 H.length c_addr_scanner_next_s_p1 K [(0, (.ep (.agg [(.str x1.s), (.int .i64 x1.at0), (.bool x1.bad)]) 0))] H := by
  refine AX.go (m := m_addr_scanner_next_s_p1) rfl (by decide) fun K' hK => ?_
  try simp only [WW, ↓reduceIte, nA, nB, nC, nD, nE, nF, nG, reduceCtorEq, L_addr_scanner_next_s, m_addr_scanner_next_s_p1, c_addr_scanner_next_s_p1]
  rcases bcases (x1.bad) with hy1 | hy1
  · refine UG_nf hy1 ?_
    try simp only [WW, ↓reduceIte, nA, nB, nC, nD, nE, nF, nG, reduceCtorEq, L_addr_scanner_next_s, hy1]
    refine hK _ _ _ _ _ ?_ (WxH.refl _) (kn )
    exact WE.cons (Wx.epE (by first | rfl | (simp only [hy1]; done) | (try rw [hy1]))) (WE.cons (Wx.boolE (by simp only [hy1, WB])) (WE.nil))
  · refine UG_go hy1 ?_
    try simp only [WW, ↓reduceIte, nA, nB, nC, nD, nE, nF, nG, reduceCtorEq, L_addr_scanner_next_s, hy1]
    refine hK _ _ _ _ _ ?_ (WxH.refl _) (kn )
    exact WE.cons (Wx.epE (by first | rfl | (simp only [hy1]; done) | (try rw [hy1]))) (WE.cons (Wx.boolE (by simp only [hy1, WB])) (WE.nil))
theorem addr_scanner_next_s_ok {x1 : ScannerV}  {H0 : AH}  {rz0 : UInt8} (h : addr_scanner_next_s x1 = some rz0) :
    ACalls Tryd.prog 96 [(.ep (.agg [(.str x1.s), (.int .i64 x1.at0), (.bool x1.bad)]) 0)] H0 fun v H' => v = (b8 rz0) ∧ H' = H0 := by
  refine ACalls.goX k_addr_scanner_next_s (m := m_addr_scanner_next_s) rfl L_addr_scanner_next_s (by decide) (by simp) fun hcl K0 hK0 => ?_
  refine AX.of_U (m := m_addr_scanner_next_s) rfl (by decide) ?_
  rw [addr_scanner_next_s.eq_1] at h
  try simp only [WW, ↓reduceIte, nA, nB, nC, nD, nE, nF, nG, reduceCtorEq, L_addr_scanner_next_s, m_addr_scanner_next_s]
  refine UX_of (AX.weak ?_ (WxH.refl _) (addr_scanner_next_s_p1_ok (x1 := x1)  ?_))
  · exact WE.cons (Wx.ep) (WE.nil)
  try simp only [WW, ↓reduceIte, nA, nB, nC, nD, nE, nF, nG, reduceCtorEq, L_addr_scanner_next_s]
  rcases ifb h with ⟨hy2, h⟩ | ⟨hy2, h⟩
  · refine UC_t hy2 ?_
    try simp only [WW, ↓reduceIte, nA, nB, nC, nD, nE, nF, nG, reduceCtorEq, L_addr_scanner_next_s]
    have hq := Option.some.inj h; subst hq
    refine hK0 _ _ _ (.inr rfl) ?_
    exact fn_endp hcl (resv_tmp (a := (b8 0)) rfl rfl resv_nil) (by first | (simp [fin, b_df, b_sh, b_sh1, b_Cl]; done) | (simp [fin, AV.df, AV.sh, AV.sh1, b_df, b_sh, b_sh1, b_Cl]; done)) (Wx.b8) (r' := (b8 0)) ⟨rfl, rfl⟩
  · refine UC_f hy2 ?_
    obtain ⟨x2, hy3, h⟩ := bnd' h
    try simp only [WW, ↓reduceIte, nA, nB, nC, nD, nE, nF, nG, reduceCtorEq, L_addr_scanner_next_s, hy3]
    have hq := Option.some.inj h; subst hq
    refine hK0 _ _ _ (.inr rfl) ?_
    exact fn_endp hcl (resv_tmp (a := (b8 x2)) rfl rfl resv_nil) (by first | (simp [fin, b_df, b_sh, b_sh1, b_Cl]; done) | (simp [fin, AV.df, AV.sh, AV.sh1, b_df, b_sh, b_sh1, b_Cl]; done)) (Wx.b8) (r' := (b8 x2)) ⟨rfl, rfl⟩

/-! ### (*mailbag/addr.scanner).takes -/
def c_addr_scanner_takes : ACode := (.seq (.rg [⟨(some 4), (.asg (.c (.bool false))), none⟩]) (.seq (.seq (.rg [⟨(some 5), (.mv (.t 0)), none⟩, ⟨(some 6), (.call (.c (.fn 96 [])) [(.t 5)]), none⟩, ⟨(some 7), (.mv (.t 1)), none⟩, ⟨(some 8), (.bin .neq (.t 6) (.t 7)), none⟩]) (.cond (.t 8) (.seq (.rg [⟨(some 4), (.asg (.c (.bool false))), none⟩]) .ret) .skip)) (.seq (.rg [⟨(some 9), (.mv (.t 0)), none⟩, ⟨(some 10), (.nck (.t 9)), none⟩, ⟨(some 11), (.fld (.t 10) 1), none⟩, ⟨(some 12), (.ld (.t 11) none), none⟩, ⟨(some 13), (.bin .add (.t 12) (.c (.int .i64 1))), none⟩, ⟨(some 14), (.nck (.t 9)), none⟩, ⟨(some 15), (.fld (.t 14) 1), none⟩, ⟨none, (.st (.t 15) (.t 13) 1), none⟩]) (.seq (.rg [⟨(some 4), (.asg (.c (.bool true))), none⟩]) .ret))))
abbrev m_addr_scanner_takes := c_addr_scanner_takes
theorem k_addr_scanner_takes : FnOk Tryd.prog 68 16 [(.tmp 4)] c_addr_scanner_takes := ⟨Tryd.f68, _, rfl, by decide, rfl, by kernel_rfl, rfl, rfl⟩
abbrev L_addr_scanner_takes : List Nat := [0, 1, 4, 8]
def addr_scanner_takes (x2 : ScannerV) (c3 : UInt8) : Option (Bool × ScannerV) :=
  (addr_scanner_next_s x2).bind fun r4 =>
  (if (!decide (r4 = c3)) then
    some (false, x2)
  else
    some (true, (ScannerV.mk x2.s (IntKind.wrap .i64 (x2.at0 + 1)) x2.bad)))
theorem addr_scanner_takes_ok {x2 : ScannerV} {c3 : UInt8} {q1 : Nat} {H0 : AH} (hs_o1 : H0[q1]? = some [(.str x2.s), (.int .i64 x2.at0), (.bool x2.bad)]) {rz0 : Bool} {rz1 : ScannerV} (h : addr_scanner_takes x2 c3 = some (rz0, rz1)) :
    ACalls Tryd.prog 68 [(.ptr q1 0), (b8 c3)] H0 fun v H' => v = (.bool rz0) ∧ H' = (H0.set q1 [(.str rz1.s), (.int .i64 rz1.at0), (.bool rz1.bad)]) := by
  refine ACalls.goX k_addr_scanner_takes (m := m_addr_scanner_takes) rfl L_addr_scanner_takes (by decide) (by simp) fun hcl K0 hK0 => ?_
  refine AX.of_U (m := m_addr_scanner_takes) rfl (by decide) ?_
  have hl_o1 := h_lt hs_o1
  have hfr := Fr.refl H0 [q1]
  have hle := hfr.le
  rw [addr_scanner_takes.eq_1] at h
  obtain ⟨H, hHH⟩ : ∃ H, H = H0 := ⟨_, rfl⟩
  have hfr : Fr H0 H0.length [q1] H := hHH ▸ hfr
  have hs_o1 : H[q1]? = some [(.str x2.s), (.int .i64 x2.at0), (.bool x2.bad)] := hHH ▸ hs_o1
  have hle := hfr.le
  have hL_o1 : q1 < H.length := h_lt hs_o1
  suffices hU : U Tryd.prog L_addr_scanner_takes 16 H0.length [.code m_addr_scanner_takes] K0 .normal (argE 0 [(.ptr q1 0), (b8 c3)]) H by rwa [hHH] at hU
  try simp (disch := first | assumption | omega | (simp only [h_sl, h_al] <;> omega) | fail) only [WW, WH, ↓reduceIte, nA, nB, nC, nD, nE, nF, nG, reduceCtorEq, L_addr_scanner_takes, m_addr_scanner_takes, c_addr_scanner_takes, hs_o1]
  obtain ⟨r4, hy1, h⟩ := bnd' h
  refine UK_e (as' := [(.ptr q1 0)]) (h := ACalls.ofE (addr_scanner_next_s_ok (x1 := x2) (H0 := []) hy1) (PEL.cons (.one _ _ (PE1.ptrL (by exact ((hs_o1).trans rfl)) (PE1L.cons (PE1.str) (PE1L.cons (PE1.int) (PE1L.cons (PE1.bool) (PE1L.nil)))))) (PEL.nil)) (by rintro _ rfl; rfl)) (hw := WL.cons (Wx.ptr) (WL.nil)) (hh := WxH.refl _) ?_
  try simp (disch := first | assumption | omega | (simp only [h_sl, h_al] <;> omega) | fail) only [WW, WH, ↓reduceIte, nA, nB, nC, nD, nE, nF, nG, reduceCtorEq, L_addr_scanner_takes, hs_o1]
  rcases ifb h with ⟨hy2, h⟩ | ⟨hy2, h⟩
  · refine UC_t hy2 ?_
    try simp (disch := first | assumption | omega | (simp only [h_sl, h_al] <;> omega) | fail) only [WW, WH, ↓reduceIte, nA, nB, nC, nD, nE, nF, nG, reduceCtorEq, L_addr_scanner_takes, hs_o1]
    have hq := Option.some.inj h; have hq0 := (Prod.mk.inj hq).1; replace hq := (Prod.mk.inj hq).2; subst hq0; subst hq
    refine hK0 _ _ _ (.inr rfl) ?_
    exact fn_end1 (by exact hfr) hcl (resv_tmp (a := (.bool false)) rfl rfl resv_nil) (by first | (simp [fin, b_df, b_sh, b_sh1, b_Cl]; done) | (simp [fin, AV.df, AV.sh, AV.sh1, b_df, b_sh, b_sh1, b_Cl]; done)) (Wx.bool) (by exact ((hs_o1).trans rfl)) (by first | assumption | omega | (simp only [h_sl, h_al] <;> omega) | fail) (by simp [b_Cl]; try omega) (WxC.cons (Wx.str) (WxC.cons (Wx.int) (WxC.cons (Wx.bool) (WxC.nil)))) (r' := (.bool false)) ⟨rfl, rfl⟩
  · refine UC_f hy2 ?_
    try simp (disch := first | assumption | omega | (simp only [h_sl, h_al] <;> omega) | fail) only [WW, WH, ↓reduceIte, nA, nB, nC, nD, nE, nF, nG, reduceCtorEq, L_addr_scanner_takes, hs_o1]
    have hq := Option.some.inj h; have hq0 := (Prod.mk.inj hq).1; replace hq := (Prod.mk.inj hq).2; subst hq0; subst hq
    refine hK0 _ _ _ (.inr rfl) ?_
    exact fn_end1 (by exact (Fr.set (s := q1) hfr (.inl (by simp)))) hcl (resv_tmp (a := (.bool true)) rfl rfl resv_nil) (by first | (simp [fin, b_df, b_sh, b_sh1, b_Cl]; done) | (simp [fin, AV.df, AV.sh, AV.sh1, b_df, b_sh, b_sh1, b_Cl]; done)) (Wx.bool) (by exact ((h_eq (by first | assumption | omega | (simp only [h_sl, h_al] <;> omega) | fail)).trans rfl)) (by first | assumption | omega | (simp only [h_sl, h_al] <;> omega) | fail) (by simp [b_Cl]; try omega) (WxC.cons (Wx.str) (WxC.cons (Wx.int) (WxC.cons (Wx.bool) (WxC.nil)))) (r' := (.bool true)) ⟨rfl, rfl⟩

/-! ### (*mailbag/addr.scanner).want -/
def c_addr_scanner_want_p1 : ACode := (.rg [⟨(some 4), (.mv (.t 0)), none⟩, ⟨(some 5), (.mv (.t 0)), none⟩, ⟨(some 6), (.nck (.t 5)), none⟩, ⟨(some 7), (.fld (.t 6) 2), none⟩, ⟨(some 8), (.ld (.t 7) none), none⟩, ⟨(some 9), (.mv (.t 8)), none⟩, ⟨(some 10), (.mv (.t 0)), (some (9, false))⟩, ⟨(some 11), (.mv (.t 1)), (some (9, false))⟩, ⟨(some 12), (.call (.c (.fn 68 [])) [(.t 10), (.t 11)]), (some (9, false))⟩, ⟨(some 13), (.un .not (.t 12)), (some (9, false))⟩, ⟨(some 14), (.pick (.t 9) (.c (.bool true)) (.t 13)), none⟩, ⟨(some 15), (.nck (.t 4)), none⟩, ⟨(some 16), (.fld (.t 15) 2), none⟩, ⟨none, (.st (.t 16) (.t 14) 1), none⟩])
abbrev m_addr_scanner_want_p1 := c_addr_scanner_want_p1
def c_addr_scanner_want : ACode := (.rg [⟨(some 4), (.mv (.t 0)), none⟩, ⟨(some 5), (.mv (.t 0)), none⟩, ⟨(some 6), (.nck (.t 5)), none⟩, ⟨(some 7), (.fld (.t 6) 2), none⟩, ⟨(some 8), (.ld (.t 7) none), none⟩, ⟨(some 9), (.mv (.t 8)), none⟩, ⟨(some 10), (.mv (.t 0)), (some (9, false))⟩, ⟨(some 11), (.mv (.t 1)), (some (9, false))⟩, ⟨(some 12), (.call (.c (.fn 68 [])) [(.t 10), (.t 11)]), (some (9, false))⟩, ⟨(some 13), (.un .not (.t 12)), (some (9, false))⟩, ⟨(some 14), (.pick (.t 9) (.c (.bool true)) (.t 13)), none⟩, ⟨(some 15), (.nck (.t 4)), none⟩, ⟨(some 16), (.fld (.t 15) 2), none⟩, ⟨none, (.st (.t 16) (.t 14) 1), none⟩])
abbrev m_addr_scanner_want := c_addr_scanner_want
theorem k_addr_scanner_want : FnOk Tryd.prog 67 17 [] c_addr_scanner_want := ⟨Tryd.f67, _, rfl, by decide, rfl, by kernel_rfl, rfl, rfl⟩
abbrev L_addr_scanner_want : List Nat := [0, 1]
def addr_scanner_want (x2 : ScannerV) (c3 : UInt8) : Option (ScannerV) :=
  (if x2.bad then
    some (ScannerV.mk x2.s x2.at0 true)
  else
    (addr_scanner_takes x2 c3).bind fun (r4, r5) => some (ScannerV.mk r5.s r5.at0 (!r4)))
theorem addr_scanner_want_ok {x2 : ScannerV} {c3 : UInt8} {q1 : Nat} {H0 : AH} (hs_o1 : H0[q1]? = some [(.str x2.s), (.int .i64 x2.at0), (.bool x2.bad)]) {rz0 : ScannerV} (h : addr_scanner_want x2 c3 = some rz0) :
    ACalls Tryd.prog 67 [(.ptr q1 0), (b8 c3)] H0 fun v H' => v = (.tup []) ∧ H' = (H0.set q1 [(.str rz0.s), (.int .i64 rz0.at0), (.bool rz0.bad)]) := by
  refine ACalls.goX k_addr_scanner_want (m := m_addr_scanner_want) rfl L_addr_scanner_want (by decide) (by simp) fun hcl K0 hK0 => ?_
  refine AX.of_U (m := m_addr_scanner_want) rfl (by decide) ?_
  have hl_o1 := h_lt hs_o1
  have hfr := Fr.refl H0 [q1]
  have hle := hfr.le
  rw [addr_scanner_want.eq_1] at h
  obtain ⟨H, hHH⟩ : ∃ H, H = H0 := ⟨_, rfl⟩
  have hfr : Fr H0 H0.length [q1] H := hHH ▸ hfr
  have hs_o1 : H[q1]? = some [(.str x2.s), (.int .i64 x2.at0), (.bool x2.bad)] := hHH ▸ hs_o1
  have hle := hfr.le
  have hL_o1 : q1 < H.length := h_lt hs_o1
  suffices hU : U Tryd.prog L_addr_scanner_want 17 H0.length [.code m_addr_scanner_want] K0 .normal (argE 0 [(.ptr q1 0), (b8 c3)]) H by rwa [hHH] at hU
  try simp (disch := first | assumption | omega | (simp only [h_sl, h_al] <;> omega) | fail) only [WW, WH, ↓reduceIte, nA, nB, nC, nD, nE, nF, nG, reduceCtorEq, L_addr_scanner_want, m_addr_scanner_want, c_addr_scanner_want, hs_o1]
  rcases ifb h with ⟨hy1, h⟩ | ⟨hy1, h⟩
  · refine UG_nf hy1 ?_
    try simp (disch := first | assumption | omega | (simp only [h_sl, h_al] <;> omega) | fail) only [WW, WH, ↓reduceIte, nA, nB, nC, nD, nE, nF, nG, reduceCtorEq, L_addr_scanner_want, hy1, hs_o1]
    have hq := Option.some.inj h; subst hq
    refine hK0 _ _ _ (.inl rfl) ?_
    exact fn_end1 (by exact (Fr.set (s := q1) hfr (.inl (by simp)))) hcl resv_nil (by first | (simp [fin, b_df, b_sh, b_sh1, b_Cl]; done) | (simp [fin, AV.df, AV.sh, AV.sh1, b_df, b_sh, b_sh1, b_Cl]; done)) (Wx.tupX (W2L.nil)) (by exact ((h_eq (by first | assumption | omega | (simp only [h_sl, h_al] <;> omega) | fail)).trans rfl)) (by first | assumption | omega | (simp only [h_sl, h_al] <;> omega) | fail) (by simp [b_Cl]; try omega) (WxC.cons (Wx.str) (WxC.cons (Wx.int) (WxC.cons (Wx.bool) (WxC.nil)))) (r' := (.tup [])) ⟨rfl, rfl⟩
  · refine UG_go hy1 ?_
    try simp (disch := first | assumption | omega | (simp only [h_sl, h_al] <;> omega) | fail) only [WW, WH, ↓reduceIte, nA, nB, nC, nD, nE, nF, nG, reduceCtorEq, L_addr_scanner_want, hy1, hs_o1]
    obtain ⟨⟨r4, r5⟩, hy2, h⟩ := bnd' h
    dsimp only at h
    refine UK_e (as' := [(.ptr q1 0), (b8 c3)]) (h := addr_scanner_takes_ok (x2 := x2) (c3 := c3) (q1 := q1) (by exact ((hs_o1).trans rfl)) hy2) (hw := WL.cons (Wx.ptr) (WL.cons (Wx.b8) (WL.nil))) (hh := WxH.refl _) ?_
    try simp (disch := first | assumption | omega | (simp only [h_sl, h_al] <;> omega) | fail) only [WW, WH, ↓reduceIte, nA, nB, nC, nD, nE, nF, nG, reduceCtorEq, L_addr_scanner_want, hs_o1]
    have hq := Option.some.inj h; subst hq
    refine hK0 _ _ _ (.inl rfl) ?_
    exact fn_end1 (by exact (Fr.set (s := q1) (Fr.set (s := q1) hfr (.inl (by simp))) (.inl (by simp)))) hcl resv_nil (by first | (simp [fin, b_df, b_sh, b_sh1, b_Cl]; done) | (simp [fin, AV.df, AV.sh, AV.sh1, b_df, b_sh, b_sh1, b_Cl]; done)) (Wx.tupX (W2L.nil)) (by exact ((h_eq (by first | assumption | omega | (simp only [h_sl, h_al] <;> omega) | fail)).trans rfl)) (by first | assumption | omega | (simp only [h_sl, h_al] <;> omega) | fail) (by simp [b_Cl]; try omega) (WxC.cons (Wx.str) (WxC.cons (Wx.int) (WxC.cons (Wx.bool) (WxC.nil)))) (r' := (.tup [])) ⟨rfl, rfl⟩

/-! ### mailbag/addr.letter -/
def c_addr_letter_p1 : ACode := (.rg [⟨(some 3), (.mv (.t 0)), none⟩, ⟨(some 4), (.bin .or (.t 3) (.c (b8 32))), none⟩, ⟨(some 5), (.bin .geq (.t 4) (.c (b8 97))), none⟩, ⟨(some 6), (.mv (.t 5)), none⟩, ⟨(some 7), (.mv (.t 0)), (some (6, true))⟩, ⟨(some 8), (.bin .or (.t 7) (.c (b8 32))), (some (6, true))⟩, ⟨(some 9), (.bin .leq (.t 8) (.c (b8 122))), (some (6, true))⟩, ⟨(some 10), (.pick (.t 6) (.t 9) (.c (.bool false))), none⟩, ⟨(some 11), (.mv (.t 10)), none⟩, ⟨(some 12), (.mv (.t 0)), (some (11, false))⟩, ⟨(some 13), (.bin .geq (.t 12) (.c (b8 48))), (some (11, false))⟩, ⟨(some 14), (.mv (.t 13)), (some (11, false))⟩, ⟨(some 15), (.mv (.t 0)), (some (14, true))⟩, ⟨(some 16), (.bin .leq (.t 15) (.c (b8 57))), (some (14, true))⟩, ⟨(some 17), (.pick (.t 14) (.t 16) (.c (.bool false))), (some (11, false))⟩, ⟨(some 18), (.pick (.t 11) (.c (.bool true)) (.t 17)), none⟩, ⟨(some 2), (.asg (.t 18)), none⟩])
abbrev m_addr_letter_p1 := c_addr_letter_p1
def c_addr_letter : ACode := (.seq (.rg [⟨(some 2), (.asg (.c (.bool false))), none⟩]) (.seq c_addr_letter_p1 .ret))
def m_addr_letter : ACode := (.seq (.rg [⟨(some 2), (.asg (.c (.bool false))), none⟩]) (.seq (.sem c_addr_letter_p1) .ret))
theorem k_addr_letter : FnOk Tryd.prog 100 19 [(.tmp 2)] c_addr_letter := ⟨Tryd.f100, _, rfl, by decide, rfl, by kernel_rfl, rfl, rfl⟩
abbrev L_addr_letter : List Nat := [0, 2]
def addr_letter (c1 : UInt8) : Option (Bool) :=
  some (((decide (97 ≤ (c1 ||| 32))) && (decide ((c1 ||| 32) ≤ 122))) || ((decide (48 ≤ c1)) && (decide (c1 ≤ 57))))
theorem addr_letter_p1_ok {c1 : UInt8} {H : AH}  {K : Exit → Env → AH → Prop}
    (kn : K .normal [(2, (.bool (((decide (97 ≤ (c1 ||| 32))) && (decide ((c1 ||| 32) ≤ 122))) || ((decide (48 ≤ c1)) && (decide (c1 ≤ 57))))))] H) :
    AX Tryd.prog L_addr_letter 19 H.length c_addr_letter_p1 K [(0, (b8 c1)), (2, (.bool false))] H := by
  refine AX.go (m := m_addr_letter_p1) rfl (by decide) fun K' hK => ?_
  try simp only [WW, ↓reduceIte, nA, nB, nC, nD, nE, nF, nG, reduceCtorEq, L_addr_letter, m_addr_letter_p1, c_addr_letter_p1]
  rcases bcases ((decide (97 ≤ (c1 ||| 32)))) with hy1 | hy1
  · refine UG_go hy1 ?_
    try simp only [WW, ↓reduceIte, nA, nB, nC, nD, nE, nF, nG, reduceCtorEq, L_addr_letter, hy1]
    rcases bcases ((decide ((c1 ||| 32) ≤ 122))) with hy2 | hy2
    · refine UG_nf hy2 ?_
      try simp only [WW, ↓reduceIte, nA, nB, nC, nD, nE, nF, nG, reduceCtorEq, L_addr_letter, hy2]
      refine hK _ _ _ _ _ ?_ (WxH.refl _) (kn )
      exact WE.cons (Wx.boolE (by first | (simp only [hy1, hy2, WB]; done) | (try rw [hy1]; try rw [hy2]; try simp only [WB]))) (WE.nil)
    · refine UG_go hy2 ?_
      try simp only [WW, ↓reduceIte, nA, nB, nC, nD, nE, nF, nG, reduceCtorEq, L_addr_letter, hy2]
      rcases bcases ((decide (48 ≤ c1))) with hy3 | hy3
      · refine UG_go hy3 ?_
        try simp only [WW, ↓reduceIte, nA, nB, nC, nD, nE, nF, nG, reduceCtorEq, L_addr_letter, hy3]
        refine hK _ _ _ _ _ ?_ (WxH.refl _) (kn )
        exact WE.cons (Wx.boolE (by first | (simp only [hy1, hy2, hy3, WB]; done) | (try rw [hy1]; try rw [hy2]; try rw [hy3]; try simp only [WB]))) (WE.nil)
      · refine UG_nt hy3 ?_
        try simp only [WW, ↓reduceIte, nA, nB, nC, nD, nE, nF, nG, reduceCtorEq, L_addr_letter, hy3]
        refine hK _ _ _ _ _ ?_ (WxH.refl _) (kn )
        exact WE.cons (Wx.boolE (by first | (simp only [hy1, hy2, hy3, WB]; done) | (try rw [hy1]; try rw [hy2]; try rw [hy3]; try simp only [WB]))) (WE.nil)
  · refine UG_nt hy1 ?_
    try simp only [WW, ↓reduceIte, nA, nB, nC, nD, nE, nF, nG, reduceCtorEq, L_addr_letter, hy1]
    rcases bcases ((decide (48 ≤ c1))) with hy4 | hy4
    · refine UG_go hy4 ?_
      try simp only [WW, ↓reduceIte, nA, nB, nC, nD, nE, nF, nG, reduceCtorEq, L_addr_letter, hy4]
      refine hK _ _ _ _ _ ?_ (WxH.refl _) (kn )
      exact WE.cons (Wx.boolE (by first | (simp only [hy1, hy4, WB]; done) | (try rw [hy1]; try rw [hy4]; try simp only [WB]))) (WE.nil)
    · refine UG_nt hy4 ?_
      try simp only [WW, ↓reduceIte, nA, nB, nC, nD, nE, nF, nG, reduceCtorEq, L_addr_letter, hy4]
      refine hK _ _ _ _ _ ?_ (WxH.refl _) (kn )
      exact WE.cons (Wx.boolE (by first | (simp only [hy1, hy4, WB]; done) | (try rw [hy1]; try rw [hy4]; try simp only [WB]))) (WE.nil)
theorem addr_letter_ok {c1 : UInt8}  {H0 : AH}  {rz0 : Bool} (h : addr_letter c1 = some rz0) :
    ACalls Tryd.prog 100 [(b8 c1)] H0 fun v H' => v = (.bool rz0) ∧ H' = H0 := by
  refine ACalls.goX k_addr_letter (m := m_addr_letter) rfl L_addr_letter (by decide) (by simp) fun hcl K0 hK0 => ?_
  refine AX.of_U (m := m_addr_letter) rfl (by decide) ?_
  rw [addr_letter.eq_1] at h
  try simp only [WW, ↓reduceIte, nA, nB, nC, nD, nE, nF, nG, reduceCtorEq, L_addr_letter, m_addr_letter]
  refine UX_of (AX.weak ?_ (WxH.refl _) (addr_letter_p1_ok (c1 := c1)  ?_))
  · exact WE.cons (Wx.b8) (WE.cons (Wx.bool) (WE.nil))
  try simp only [WW, ↓reduceIte, nA, nB, nC, nD, nE, nF, nG, reduceCtorEq, L_addr_letter]
  have hq := Option.some.inj h; subst hq
  refine hK0 _ _ _ (.inr rfl) ?_
  exact fn_endp hcl (resv_tmp (a := (.bool (((decide (97 ≤ (c1 ||| 32))) && (decide ((c1 ||| 32) ≤ 122))) || ((decide (48 ≤ c1)) && (decide (c1 ≤ 57)))))) rfl rfl resv_nil) (by first | (simp [fin, b_df, b_sh, b_sh1, b_Cl]; done) | (simp [fin, AV.df, AV.sh, AV.sh1, b_df, b_sh, b_sh1, b_Cl]; done)) (Wx.bool) (r' := (.bool (((decide (97 ≤ (c1 ||| 32))) && (decide ((c1 ||| 32) ≤ 122))) || ((decide (48 ≤ c1)) && (decide (c1 ≤ 57)))))) ⟨rfl, rfl⟩

/-! ### mailbag/addr.number -/
def c_addr_number_p1 : ACode := (.rg [⟨(some 10), (.mv (.t 4)), none⟩, ⟨(some 11), (.iq false (.t 10) (.c (.v .nilIface))), none⟩, ⟨(some 12), (.mv (.t 11)), none⟩, ⟨(some 13), (.mv (.t 3)), (some (12, true))⟩, ⟨(some 14), (.bin .geq (.t 13) (.c (.int .i64 0))), (some (12, true))⟩, ⟨(some 15), (.pick (.t 12) (.t 14) (.c (.bool false))), none⟩, ⟨(some 16), (.mv (.t 15)), none⟩, ⟨(some 17), (.mv (.t 3)), (some (16, true))⟩, ⟨(some 18), (.bin .leq (.t 17) (.c (.int .i64 255))), (some (16, true))⟩, ⟨(some 19), (.pick (.t 16) (.t 18) (.c (.bool false))), none⟩, ⟨(some 20), (.mv (.t 19)), none⟩, ⟨(some 21), (.mv (.t 3)), (some (20, true))⟩, ⟨(some 22), (.call (.c (.fn 91 [])) [(.t 21)]), (some (20, true))⟩, ⟨(some 23), (.mv (.t 0)), (some (20, true))⟩, ⟨(some 24), (.bin .eql (.t 22) (.t 23)), (some (20, true))⟩, ⟨(some 25), (.pick (.t 20) (.t 24) (.c (.bool false))), none⟩, ⟨(some 2), (.asg (.t 25)), none⟩])
abbrev m_addr_number_p1 := c_addr_number_p1
def c_addr_number : ACode := (.seq (.rg [⟨(some 2), (.asg (.c (.bool false))), none⟩]) (.seq (.rg [⟨(some 6), (.mv (.t 0)), none⟩, ⟨(some 7), (.call (.c (.fn 116 [])) [(.t 6)]), none⟩, ⟨(some 5), (.mv (.t 7)), none⟩, ⟨(some 8), (.ext (.t 5) 0), none⟩, ⟨(some 9), (.ext (.t 5) 1), none⟩, ⟨(some 3), (.asg (.t 8)), none⟩, ⟨(some 4), (.asg (.t 9)), none⟩]) (.seq c_addr_number_p1 .ret)))
def m_addr_number : ACode := (.seq (.rg [⟨(some 2), (.asg (.c (.bool false))), none⟩]) (.seq (.rg [⟨(some 6), (.mv (.t 0)), none⟩, ⟨(some 7), (.call (.c (.fn 116 [])) [(.t 6)]), none⟩, ⟨(some 5), (.mv (.t 7)), none⟩, ⟨(some 8), (.ext (.t 5) 0), none⟩, ⟨(some 9), (.ext (.t 5) 1), none⟩, ⟨(some 3), (.asg (.t 8)), none⟩, ⟨(some 4), (.asg (.t 9)), none⟩]) (.seq (.sem c_addr_number_p1) .ret)))
theorem k_addr_number : FnOk Tryd.prog 106 26 [(.tmp 2)] c_addr_number := ⟨Tryd.f106, _, rfl, by decide, rfl, by kernel_rfl, rfl, rfl⟩
abbrev L_addr_number : List Nat := [0, 2, 3, 4]
def addr_number_p1 (r3 : Bool) (r2 : Int) (s1 : List UInt8) : Option (Bool) :=
  (if (!r3) then
    (if (decide (0 ≤ r2)) then
      (if (decide (r2 ≤ 255)) then
        (strconv_Itoa r2).bind fun r4 => some (decide (r4 = s1))
      else
        some false)
    else
      some false)
  else
    some false)
def addr_number (s1 : List UInt8) : Option (Bool) :=
  (strconv_Atoi s1).bind fun (r2, r3) => (addr_number_p1 r3 r2 s1).bind fun t6 =>
  some t6
theorem addr_number_p1_ok {r3 : Bool} {r2 : Int} {s1 : List UInt8} {H : AH}  {K : Exit → Env → AH → Prop} {t5 : Bool}
    (h : addr_number_p1 r3 r2 s1 = some t5)
    (kn : K .normal [(2, (.bool t5))] H) :
    AX Tryd.prog L_addr_number 26 H.length c_addr_number_p1 K [(0, (.str s1)), (2, (.bool false)), (3, (.int .i64 r2)), (4, (errv r3))] H := by
  refine AX.go (m := m_addr_number_p1) rfl (by decide) fun K' hK => ?_
  rw [addr_number_p1.eq_1] at h
  try simp only [WW, ↓reduceIte, nA, nB, nC, nD, nE, nF, nG, reduceCtorEq, L_addr_number, m_addr_number_p1, c_addr_number_p1]
  rcases ifb h with ⟨hy2, h⟩ | ⟨hy2, h⟩
  · refine UG_go hy2 ?_
    try simp only [WW, ↓reduceIte, nA, nB, nC, nD, nE, nF, nG, reduceCtorEq, L_addr_number, hy2]
    rcases ifb h with ⟨hy3, h⟩ | ⟨hy3, h⟩
    · refine UG_go hy3 ?_
      try simp only [WW, ↓reduceIte, nA, nB, nC, nD, nE, nF, nG, reduceCtorEq, L_addr_number, hy3]
      rcases ifb h with ⟨hy4, h⟩ | ⟨hy4, h⟩
      · refine UG_go hy4 ?_
        try simp only [WW, ↓reduceIte, nA, nB, nC, nD, nE, nF, nG, reduceCtorEq, L_addr_number, hy4]
        obtain ⟨r4, hy5, h⟩ := bnd' h
        refine UK_e (as' := [(.int .i64 r2)]) (h := strconv_Itoa_ok (i1 := r2)  hy5) (hw := WL.cons (Wx.int) (WL.nil)) (hh := WxH.refl _) ?_
        try simp only [WW, ↓reduceIte, nA, nB, nC, nD, nE, nF, nG, reduceCtorEq, L_addr_number]
        have hq := Option.some.inj h; subst hq
        refine hK _ _ _ _ _ ?_ (WxH.refl _) (kn )
        exact WE.cons (Wx.bool) (WE.nil)
      · refine UG_nt hy4 ?_
        try simp only [WW, ↓reduceIte, nA, nB, nC, nD, nE, nF, nG, reduceCtorEq, L_addr_number, hy4]
        have hq := Option.some.inj h; subst hq
        refine hK _ _ _ _ _ ?_ (WxH.refl _) (kn )
        exact WE.cons (Wx.bool) (WE.nil)
    · refine UG_nt hy3 ?_
      try simp only [WW, ↓reduceIte, nA, nB, nC, nD, nE, nF, nG, reduceCtorEq, L_addr_number, hy3]
      have hq := Option.some.inj h; subst hq
      refine hK _ _ _ _ _ ?_ (WxH.refl _) (kn )
      exact WE.cons (Wx.bool) (WE.nil)
  · refine UG_nt hy2 ?_
    try simp only [WW, ↓reduceIte, nA, nB, nC, nD, nE, nF, nG, reduceCtorEq, L_addr_number, hy2]
    have hq := Option.some.inj h; subst hq
    refine hK _ _ _ _ _ ?_ (WxH.refl _) (kn )
    exact WE.cons (Wx.bool) (WE.nil)
theorem addr_number_ok {s1 : List UInt8}  {H0 : AH}  {rz0 : Bool} (h : addr_number s1 = some rz0) :
    ACalls Tryd.prog 106 [(.str s1)] H0 fun v H' => v = (.bool rz0) ∧ H' = H0 := by
  refine ACalls.goX k_addr_number (m := m_addr_number) rfl L_addr_number (by decide) (by simp) fun hcl K0 hK0 => ?_
  refine AX.of_U (m := m_addr_number) rfl (by decide) ?_
  rw [addr_number.eq_1] at h
  try simp only [WW, ↓reduceIte, nA, nB, nC, nD, nE, nF, nG, reduceCtorEq, L_addr_number, m_addr_number]
  obtain ⟨⟨r2, r3⟩, hy1, h⟩ := bnd' h
  dsimp only at h
  refine UK_e (as' := [(.str s1)]) (h := strconv_Atoi_ok (s1 := s1)  hy1) (hw := WL.cons (Wx.str) (WL.nil)) (hh := WxH.refl _) ?_
  try simp only [WW, ↓reduceIte, nA, nB, nC, nD, nE, nF, nG, reduceCtorEq, L_addr_number]
  obtain ⟨t6, hy6, h⟩ := bnd' h
  refine UX_of (AX.weak ?_ (WxH.refl _) (addr_number_p1_ok  (r3 := r3) (r2 := r2) (s1 := s1) (t5 := t6)   hy6 ?_))
  · exact WE.cons (Wx.str) (WE.cons (Wx.bool) (WE.cons (Wx.int) (WE.cons (Wx.err) (WE.nil))))
  try simp only [WW, ↓reduceIte, nA, nB, nC, nD, nE, nF, nG, reduceCtorEq, L_addr_number]
  have hq := Option.some.inj h; subst hq
  refine hK0 _ _ _ (.inr rfl) ?_
  exact fn_endp hcl (resv_tmp (a := (.bool t6)) rfl rfl resv_nil) (by first | (simp [fin, b_df, b_sh, b_sh1, b_Cl]; done) | (simp [fin, AV.df, AV.sh, AV.sh1, b_df, b_sh, b_sh1, b_Cl]; done)) (Wx.bool) (r' := (.bool t6)) ⟨rfl, rfl⟩

/-! ### mailbag/addr.shaped$1 -/
def c_addr_shaped_1 : ACode := (.seq (.rg [⟨(some 2), (.asg (.c (.bool false))), none⟩]) (.seq (.rg [⟨(some 3), (.mv (.t 0)), none⟩, ⟨(some 4), (.call (.c (.fn 106 [])) [(.t 3)]), none⟩, ⟨(some 5), (.un .not (.t 4)), none⟩, ⟨(some 2), (.asg (.t 5)), none⟩]) .ret))
abbrev m_addr_shaped_1 := c_addr_shaped_1
theorem k_addr_shaped_1 : FnOk Tryd.prog 105 6 [(.tmp 2)] c_addr_shaped_1 := ⟨Tryd.f105, _, rfl, by decide, rfl, by kernel_rfl, rfl, rfl⟩
abbrev L_addr_shaped_1 : List Nat := [0, 2]
def addr_shaped_1 (x1 : List UInt8) : Option (Bool) :=
  (addr_number x1).bind fun r2 => some (!r2)
theorem addr_shaped_1_ok {x1 : List UInt8}  {H0 : AH}  {rz0 : Bool} (h : addr_shaped_1 x1 = some rz0) :
    ACalls Tryd.prog 105 [(.str x1)] H0 fun v H' => v = (.bool rz0) ∧ H' = H0 := by
  refine ACalls.goX k_addr_shaped_1 (m := m_addr_shaped_1) rfl L_addr_shaped_1 (by decide) (by simp) fun hcl K0 hK0 => ?_
  refine AX.of_U (m := m_addr_shaped_1) rfl (by decide) ?_
  rw [addr_shaped_1.eq_1] at h
  try simp only [WW, ↓reduceIte, nA, nB, nC, nD, nE, nF, nG, reduceCtorEq, L_addr_shaped_1, m_addr_shaped_1, c_addr_shaped_1]
  obtain ⟨r2, hy1, h⟩ := bnd' h
  refine UK_e (as' := [(.str x1)]) (h := addr_number_ok (s1 := x1)  hy1) (hw := WL.cons (Wx.str) (WL.nil)) (hh := WxH.refl _) ?_
  try simp only [WW, ↓reduceIte, nA, nB, nC, nD, nE, nF, nG, reduceCtorEq, L_addr_shaped_1]
  have hq := Option.some.inj h; subst hq
  refine hK0 _ _ _ (.inr rfl) ?_
  exact fn_endp hcl (resv_tmp (a := (.bool (!r2))) rfl rfl resv_nil) (by first | (simp [fin, b_df, b_sh, b_sh1, b_Cl]; done) | (simp [fin, AV.df, AV.sh, AV.sh1, b_df, b_sh, b_sh1, b_Cl]; done)) (Wx.bool) (r' := (.bool (!r2))) ⟨rfl, rfl⟩

/-! ### slices.IndexFunc[[]string,string] -/
def c_slices_IndexFunc_s_l1b : ACode := (.seq (.rg [⟨(some 9), (.bin .lss (.t 8) (.t 7)), none⟩]) (.seq (.cond (.t 9) .skip (.exit 0)) (.seq (.blk 1 (.seq (.rg [⟨(some 10), (.mv (.t 8)), none⟩, ⟨(some 5), (.asg (.t 10)), none⟩]) (.seq (.rg [⟨(some 11), (.mv (.t 1)), none⟩, ⟨(some 12), (.mv (.t 0)), none⟩, ⟨(some 13), (.mv (.t 5)), none⟩, ⟨(some 14), (.ixa 1 (.t 12) (.t 13)), none⟩, ⟨(some 15), (.ld (.t 14) none), none⟩, ⟨(some 16), (.call (.t 11) [(.t 15)]), none⟩]) (.cond (.t 16) (.seq (.rg [⟨(some 17), (.mv (.t 5)), none⟩, ⟨(some 4), (.asg (.t 17)), none⟩]) .ret) .skip)))) (.rg [⟨(some 18), (.bin .add (.t 8) (.c (.int .i64 1))), none⟩, ⟨(some 8), (.mv (.t 18)), none⟩]))))
def c_slices_IndexFunc_s_l1 : ACode := (.loop c_slices_IndexFunc_s_l1b)
abbrev m_slices_IndexFunc_s_l1b := c_slices_IndexFunc_s_l1b
def c_slices_IndexFunc_s : ACode := (.seq (.rg [⟨(some 4), (.asg (.c (.int .i64 0))), none⟩]) (.seq (.seq (.rg [⟨(some 6), (.mv (.t 0)), none⟩, ⟨(some 7), (.len (.t 6)), none⟩, ⟨(some 8), (.mv (.c (.int .i64 0))), none⟩]) (.blk 0 c_slices_IndexFunc_s_l1)) (.seq (.rg [⟨(some 4), (.asg (.c (.int .i64 (-1)))), none⟩]) .ret)))
abbrev m_slices_IndexFunc_s := c_slices_IndexFunc_s
theorem k_slices_IndexFunc_s : FnOk Tryd.prog 109 19 [(.tmp 4)] c_slices_IndexFunc_s := ⟨Tryd.f109, _, rfl, by decide, rfl, by kernel_rfl, rfl, rfl⟩
abbrev L_slices_IndexFunc_s : List Nat := [0, 1, 4, 5, 7, 8, 9, 16]
def slices_IndexFunc_s_l1 (s1 : List (List UInt8)) : (Int × Int) → Option (St Int Unit (Int × Int))
  | (t2, t3) =>
    (if (decide (t3 < (s1.length : Int))) then
      (idx s1 t3).bind fun x4 =>
      (addr_shaped_1 x4).bind fun r5 =>
      (if r5 then
        some (.ret t3)
      else
        some (.nxt (t2, (IntKind.wrap .i64 (t3 + 1)))))
    else
      some (.brk ()))
def slices_IndexFunc_s (F : Nat) (s1 : List (List UInt8)) : Option (Int) :=
  ((iter (slices_IndexFunc_s_l1 s1) F (0, 0)).bind fun o8 =>
  match o8 with
  | .inr () =>
    some (-1)
  | .inl r7 =>
    some r7)
theorem slices_IndexFunc_s_l1_ok {F : Nat} {t3 : Int} {s1 : List (List UInt8)} {t2 : Int} {H : AH}  {K : Exit → Env → AH → Prop} {o : (Int) ⊕ (Unit)}
    (h : iter (slices_IndexFunc_s_l1 s1) F (t2, t3) = some o)
    (kb0 : ∀ o' : Unit, o = .inr o' → K (.exit 0) [] H)
    (kr : ∀ o' : Int, o = .inl o' → K .ret [(4, (.int .i64 o'))] H) :
    AX Tryd.prog L_slices_IndexFunc_s 19 H.length c_slices_IndexFunc_s_l1 K [(0, (.sl .n 1 (ml AV.str s1))), (1, (.fn 105 [])), (4, (.int .i64 t2)), (7, (.int .i64 (s1.length : Int))), (8, (.int .i64 t3))] H := by
  refine AX.iter (m := m_slices_IndexFunc_s_l1b) rfl (by decide) (fun s e H1 => match s with | (t2, t3) => e = [(0, (.sl .n 1 (ml AV.str s1))), (1, (.fn 105 [])), (4, (.int .i64 t2)), (7, (.int .i64 (s1.length : Int))), (8, (.int .i64 t3))] ∧ H1 = H) h ⟨rfl, rfl⟩ ?_
  rintro K' ⟨t2, t3⟩ st e H ⟨rfl, rfl⟩ h hN hB hR hX
  rw [slices_IndexFunc_s_l1.eq_1] at h
  try simp only [WW, ↓reduceIte, nA, nB, nC, nD, nE, nF, nG, reduceCtorEq, L_slices_IndexFunc_s, m_slices_IndexFunc_s_l1b, c_slices_IndexFunc_s_l1b]
  rcases ifb h with ⟨hy1, h⟩ | ⟨hy1, h⟩
  · refine UC_t hy1 ?_
    obtain ⟨x4, hy2, h⟩ := bnd' h
    try simp only [WW, ↓reduceIte, nA, nB, nC, nD, nE, nF, nG, reduceCtorEq, L_slices_IndexFunc_s, hy2]
    obtain ⟨r5, hy3, h⟩ := bnd' h
    refine UK_e (as' := [(.str x4)]) (h := addr_shaped_1_ok (x1 := x4)  hy3) (hw := WL.cons (Wx.str) (WL.nil)) (hh := WxH.refl _) ?_
    try simp only [WW, ↓reduceIte, nA, nB, nC, nD, nE, nF, nG, reduceCtorEq, L_slices_IndexFunc_s]
    rcases ifb h with ⟨hy4, h⟩ | ⟨hy4, h⟩
    · refine UC_t hy4 ?_
      try simp only [WW, ↓reduceIte, nA, nB, nC, nD, nE, nF, nG, reduceCtorEq, L_slices_IndexFunc_s]
      have hq := Option.some.inj h; subst hq
      refine hX _ _ _ _ _ (by simp) ?_ (WxH.refl _) (kr _ (hR _ rfl) )
      exact WE.cons (Wx.int) (WE.nil)
    · refine UC_f hy4 ?_
      try simp only [WW, ↓reduceIte, nA, nB, nC, nD, nE, nF, nG, reduceCtorEq, L_slices_IndexFunc_s]
      have hq := Option.some.inj h; subst hq
      refine hN _ rfl _ _ _ _ ?_ (WxH.refl _) ⟨rfl, rfl⟩
      exact WE.cons (Wx.nn) (WE.cons (Wx.fn) (WE.cons (Wx.int) (WE.cons (Wx.int) (WE.cons (Wx.int) (WE.nil)))))
  · refine UC_f hy1 ?_
    try simp only [WW, ↓reduceIte, nA, nB, nC, nD, nE, nF, nG, reduceCtorEq, L_slices_IndexFunc_s]
    have hq := Option.some.inj h; subst hq
    refine hX _ _ _ _ _ (by simp) ?_ (WxH.refl _) (kb0 _ (hB _ rfl) )
    exact WE.nil
theorem slices_IndexFunc_s_ok {F : Nat} {s1 : List (List UInt8)}  {H0 : AH}  {rz0 : Int} (h : slices_IndexFunc_s F s1 = some rz0) :
    ACalls Tryd.prog 109 [(.sl .n 1 (ml AV.str s1)), (.fn 105 [])] H0 fun v H' => v = (.int .i64 rz0) ∧ H' = H0 := by
  refine ACalls.goX k_slices_IndexFunc_s (m := m_slices_IndexFunc_s) rfl L_slices_IndexFunc_s (by decide) (by simp) fun hcl K0 hK0 => ?_
  refine AX.of_U (m := m_slices_IndexFunc_s) rfl (by decide) ?_
  rw [slices_IndexFunc_s.eq_1] at h
  try simp only [WW, ↓reduceIte, nA, nB, nC, nD, nE, nF, nG, reduceCtorEq, L_slices_IndexFunc_s, m_slices_IndexFunc_s, c_slices_IndexFunc_s]
  obtain ⟨o8, hy5, h⟩ := bnd' h
  refine UX_of (AX.weak ?_ (WxH.refl _) (slices_IndexFunc_s_l1_ok  (s1 := s1) (t2 := 0) (t3 := 0)   (o := o8) hy5 ?_ ?_))
  · exact WE.cons (Wx.nn) (WE.cons (Wx.fn) (WE.cons (Wx.int) (WE.cons (Wx.int) (WE.cons (Wx.int) (WE.nil)))))
  · rintro ⟨⟩ rfl  
    try dsimp only at h 
    try simp only [WW, ↓reduceIte, nA, nB, nC, nD, nE, nF, nG, reduceCtorEq, L_slices_IndexFunc_s]
    have hq := Option.some.inj h; subst hq
    refine hK0 _ _ _ (.inr rfl) ?_
    exact fn_endp hcl (resv_tmp (a := (.int .i64 (-1))) rfl rfl resv_nil) (by first | (simp [fin, b_df, b_sh, b_sh1, b_Cl]; done) | (simp [fin, AV.df, AV.sh, AV.sh1, b_df, b_sh, b_sh1, b_Cl]; done)) (Wx.int) (r' := (.int .i64 (-1))) ⟨rfl, rfl⟩
  · rintro r7 rfl  
    try dsimp only at h 
    try simp only [WW, ↓reduceIte, nA, nB, nC, nD, nE, nF, nG, reduceCtorEq, L_slices_IndexFunc_s]
    have hq := Option.some.inj h; subst hq
    refine hK0 _ _ _ (.inr rfl) ?_
    exact fn_endp hcl (resv_tmp (a := (.int .i64 r7)) rfl rfl resv_nil) (by first | (simp [fin, b_df, b_sh, b_sh1, b_Cl]; done) | (simp [fin, AV.df, AV.sh, AV.sh1, b_df, b_sh, b_sh1, b_Cl]; done)) (Wx.int) (r' := (.int .i64 r7)) ⟨rfl, rfl⟩

/-! ### slices.ContainsFunc[[]string,string] -/
def c_slices_ContainsFunc_s : ACode := (.seq (.rg [⟨(some 4), (.asg (.c (.bool false))), none⟩]) (.seq (.rg [⟨(some 5), (.mv (.t 0)), none⟩, ⟨(some 6), (.mv (.t 1)), none⟩, ⟨(some 7), (.call (.c (.fn 109 [])) [(.t 5), (.t 6)]), none⟩, ⟨(some 8), (.bin .geq (.t 7) (.c (.int .i64 0))), none⟩, ⟨(some 4), (.asg (.t 8)), none⟩]) .ret))
abbrev m_slices_ContainsFunc_s := c_slices_ContainsFunc_s
theorem k_slices_ContainsFunc_s : FnOk Tryd.prog 78 9 [(.tmp 4)] c_slices_ContainsFunc_s := ⟨Tryd.f78, _, rfl, by decide, rfl, by kernel_rfl, rfl, rfl⟩
abbrev L_slices_ContainsFunc_s : List Nat := [0, 1, 4]
def slices_ContainsFunc_s (F : Nat) (s1 : List (List UInt8)) : Option (Bool) :=
  (slices_IndexFunc_s F s1).bind fun r2 => some (decide (0 ≤ r2))
theorem slices_ContainsFunc_s_ok {F : Nat} {s1 : List (List UInt8)}  {H0 : AH}  {rz0 : Bool} (h : slices_ContainsFunc_s F s1 = some rz0) :
    ACalls Tryd.prog 78 [(.sl .n 1 (ml AV.str s1)), (.fn 105 [])] H0 fun v H' => v = (.bool rz0) ∧ H' = H0 := by
  refine ACalls.goX k_slices_ContainsFunc_s (m := m_slices_ContainsFunc_s) rfl L_slices_ContainsFunc_s (by decide) (by simp) fun hcl K0 hK0 => ?_
  refine AX.of_U (m := m_slices_ContainsFunc_s) rfl (by decide) ?_
  rw [slices_ContainsFunc_s.eq_1] at h
  try simp only [WW, ↓reduceIte, nA, nB, nC, nD, nE, nF, nG, reduceCtorEq, L_slices_ContainsFunc_s, m_slices_ContainsFunc_s, c_slices_ContainsFunc_s]
  obtain ⟨r2, hy1, h⟩ := bnd' h
  refine UK_e (as' := [(.sl .n 1 (ml AV.str s1)), (.fn 105 [])]) (h := slices_IndexFunc_s_ok (s1 := s1) (F := F)  hy1) (hw := WL.cons (Wx.nn) (WL.cons (Wx.fn) (WL.nil))) (hh := WxH.refl _) ?_
  try simp only [WW, ↓reduceIte, nA, nB, nC, nD, nE, nF, nG, reduceCtorEq, L_slices_ContainsFunc_s]
  have hq := Option.some.inj h; subst hq
  refine hK0 _ _ _ (.inr rfl) ?_
  exact fn_endp hcl (resv_tmp (a := (.bool (decide (0 ≤ r2)))) rfl rfl resv_nil) (by first | (simp [fin, b_df, b_sh, b_sh1, b_Cl]; done) | (simp [fin, AV.df, AV.sh, AV.sh1, b_df, b_sh, b_sh1, b_Cl]; done)) (Wx.bool) (r' := (.bool (decide (0 ≤ r2)))) ⟨rfl, rfl⟩

/-! ### mailbag/addr.label$1 -/
def c_addr_label_1_p1 : ACode := (.rg [⟨(some 3), (.mv (.t 0)), none⟩, ⟨(some 4), (.call (.c (.fn 100 [])) [(.t 3)]), none⟩, ⟨(some 5), (.mv (.t 4)), none⟩, ⟨(some 6), (.mv (.t 0)), (some (5, false))⟩, ⟨(some 7), (.bin .eql (.t 6) (.c (b8 45))), (some (5, false))⟩, ⟨(some 8), (.pick (.t 5) (.c (.bool true)) (.t 7)), none⟩, ⟨(some 2), (.asg (.t 8)), none⟩])
abbrev m_addr_label_1_p1 := c_addr_label_1_p1
def c_addr_label_1 : ACode := (.seq (.rg [⟨(some 2), (.asg (.c (.bool false))), none⟩]) (.seq c_addr_label_1_p1 .ret))
def m_addr_label_1 : ACode := (.seq (.rg [⟨(some 2), (.asg (.c (.bool false))), none⟩]) (.seq (.sem c_addr_label_1_p1) .ret))
theorem k_addr_label_1 : FnOk Tryd.prog 117 9 [(.tmp 2)] c_addr_label_1 := ⟨Tryd.f117, _, rfl, by decide, rfl, by kernel_rfl, rfl, rfl⟩
abbrev L_addr_label_1 : List Nat := [0, 2]
def addr_label_1_p1 (c1 : UInt8) : Option (Bool) :=
  (addr_letter c1).bind fun r2 => (if r2 then
    some true
  else
    some (decide (c1 = 45)))
def addr_label_1 (c1 : UInt8) : Option (Bool) :=
  (addr_label_1_p1 c1).bind fun t4 =>
  some t4
theorem addr_label_1_p1_ok {c1 : UInt8} {H : AH}  {K : Exit → Env → AH → Prop} {t3 : Bool}
    (h : addr_label_1_p1 c1 = some t3)
    (kn : K .normal [(2, (.bool t3))] H) :
    AX Tryd.prog L_addr_label_1 9 H.length c_addr_label_1_p1 K [(0, (b8 c1)), (2, (.bool false))] H := by
  refine AX.go (m := m_addr_label_1_p1) rfl (by decide) fun K' hK => ?_
  rw [addr_label_1_p1.eq_1] at h
  try simp only [WW, ↓reduceIte, nA, nB, nC, nD, nE, nF, nG, reduceCtorEq, L_addr_label_1, m_addr_label_1_p1, c_addr_label_1_p1]
  obtain ⟨r2, hy1, h⟩ := bnd' h
  refine UK_e (as' := [(b8 c1)]) (h := addr_letter_ok (c1 := c1)  hy1) (hw := WL.cons (Wx.b8) (WL.nil)) (hh := WxH.refl _) ?_
  try simp only [WW, ↓reduceIte, nA, nB, nC, nD, nE, nF, nG, reduceCtorEq, L_addr_label_1]
  rcases ifb h with ⟨hy2, h⟩ | ⟨hy2, h⟩
  · refine UG_nf hy2 ?_
    try simp only [WW, ↓reduceIte, nA, nB, nC, nD, nE, nF, nG, reduceCtorEq, L_addr_label_1, hy2]
    have hq := Option.some.inj h; subst hq
    refine hK _ _ _ _ _ ?_ (WxH.refl _) (kn )
    exact WE.cons (Wx.bool) (WE.nil)
  · refine UG_go hy2 ?_
    try simp only [WW, ↓reduceIte, nA, nB, nC, nD, nE, nF, nG, reduceCtorEq, L_addr_label_1, hy2]
    have hq := Option.some.inj h; subst hq
    refine hK _ _ _ _ _ ?_ (WxH.refl _) (kn )
    exact WE.cons (Wx.bool) (WE.nil)
theorem addr_label_1_ok {c1 : UInt8}  {H0 : AH}  {rz0 : Bool} (h : addr_label_1 c1 = some rz0) :
    ACalls Tryd.prog 117 [(b8 c1)] H0 fun v H' => v = (.bool rz0) ∧ H' = H0 := by
  refine ACalls.goX k_addr_label_1 (m := m_addr_label_1) rfl L_addr_label_1 (by decide) (by simp) fun hcl K0 hK0 => ?_
  refine AX.of_U (m := m_addr_label_1) rfl (by decide) ?_
  rw [addr_label_1.eq_1] at h
  try simp only [WW, ↓reduceIte, nA, nB, nC, nD, nE, nF, nG, reduceCtorEq, L_addr_label_1, m_addr_label_1]
  obtain ⟨t4, hy3, h⟩ := bnd' h
  refine UX_of (AX.weak ?_ (WxH.refl _) (addr_label_1_p1_ok  (c1 := c1) (t3 := t4)   hy3 ?_))
  · exact WE.cons (Wx.b8) (WE.cons (Wx.bool) (WE.nil))
  try simp only [WW, ↓reduceIte, nA, nB, nC, nD, nE, nF, nG, reduceCtorEq, L_addr_label_1]
  have hq := Option.some.inj h; subst hq
  refine hK0 _ _ _ (.inr rfl) ?_
  exact fn_endp hcl (resv_tmp (a := (.bool t4)) rfl rfl resv_nil) (by first | (simp [fin, b_df, b_sh, b_sh1, b_Cl]; done) | (simp [fin, AV.df, AV.sh, AV.sh1, b_df, b_sh, b_sh1, b_Cl]; done)) (Wx.bool) (r' := (.bool t4)) ⟨rfl, rfl⟩

/-! ### mailbag/addr.every -/
def c_addr_every_s_l1b : ACode := (.seq (.rg [⟨(some 9), (.bin .lss (.t 8) (.t 7)), none⟩]) (.seq (.cond (.t 9) .skip (.exit 0)) (.seq (.blk 1 (.seq (.rg [⟨(some 10), (.mv (.t 8)), none⟩, ⟨(some 5), (.asg (.t 10)), none⟩]) (.seq (.rg [⟨(some 11), (.mv (.t 1)), none⟩, ⟨(some 12), (.mv (.t 0)), none⟩, ⟨(some 13), (.mv (.t 5)), none⟩, ⟨(some 14), (.ixs (.t 12) (.t 13)), none⟩, ⟨(some 15), (.call (.t 11) [(.t 14)]), none⟩, ⟨(some 16), (.un .not (.t 15)), none⟩]) (.cond (.t 16) (.seq (.rg [⟨(some 4), (.asg (.c (.bool false))), none⟩]) .ret) .skip)))) (.rg [⟨(some 17), (.bin .add (.t 8) (.c (.int .i64 1))), none⟩, ⟨(some 8), (.mv (.t 17)), none⟩]))))
def c_addr_every_s_l1 : ACode := (.loop c_addr_every_s_l1b)
abbrev m_addr_every_s_l1b := c_addr_every_s_l1b
def c_addr_every_s : ACode := (.seq (.rg [⟨(some 4), (.asg (.c (.bool false))), none⟩]) (.seq (.seq (.rg [⟨(some 6), (.mv (.t 0)), none⟩, ⟨(some 7), (.lens (.t 6)), none⟩, ⟨(some 8), (.mv (.c (.int .i64 0))), none⟩]) (.blk 0 c_addr_every_s_l1)) (.seq (.rg [⟨(some 4), (.asg (.c (.bool true))), none⟩]) .ret)))
abbrev m_addr_every_s := c_addr_every_s
theorem k_addr_every_s : FnOk Tryd.prog 82 18 [(.tmp 4)] c_addr_every_s := ⟨Tryd.f82, _, rfl, by decide, rfl, by kernel_rfl, rfl, rfl⟩
abbrev L_addr_every_s : List Nat := [0, 1, 4, 5, 7, 8, 9, 16]
def addr_every_s_l1 (s1 : List UInt8) : (Bool × Int) → Option (St Bool Unit (Bool × Int))
  | (t2, t3) =>
    (if (decide (t3 < (s1.length : Int))) then
      (idx s1 t3).bind fun x4 =>
      (addr_label_1 x4).bind fun r5 =>
      (if (!r5) then
        some (.ret false)
      else
        some (.nxt (t2, (IntKind.wrap .i64 (t3 + 1)))))
    else
      some (.brk ()))
def addr_every_s (F : Nat) (s1 : List UInt8) : Option (Bool) :=
  ((iter (addr_every_s_l1 s1) F (false, 0)).bind fun o8 =>
  match o8 with
  | .inr () =>
    some true
  | .inl r7 =>
    some r7)
theorem addr_every_s_l1_ok {F : Nat} {t3 : Int} {s1 : List UInt8} {t2 : Bool} {H : AH}  {K : Exit → Env → AH → Prop} {o : (Bool) ⊕ (Unit)}
    (h : iter (addr_every_s_l1 s1) F (t2, t3) = some o)
    (kb0 : ∀ o' : Unit, o = .inr o' → K (.exit 0) [] H)
    (kr : ∀ o' : Bool, o = .inl o' → K .ret [(4, (.bool o'))] H) :
    AX Tryd.prog L_addr_every_s 18 H.length c_addr_every_s_l1 K [(0, (.str s1)), (1, (.fn 117 [])), (4, (.bool t2)), (7, (.int .i64 (s1.length : Int))), (8, (.int .i64 t3))] H := by
  refine AX.iter (m := m_addr_every_s_l1b) rfl (by decide) (fun s e H1 => match s with | (t2, t3) => e = [(0, (.str s1)), (1, (.fn 117 [])), (4, (.bool t2)), (7, (.int .i64 (s1.length : Int))), (8, (.int .i64 t3))] ∧ H1 = H) h ⟨rfl, rfl⟩ ?_
  rintro K' ⟨t2, t3⟩ st e H ⟨rfl, rfl⟩ h hN hB hR hX
  rw [addr_every_s_l1.eq_1] at h
  try simp only [WW, ↓reduceIte, nA, nB, nC, nD, nE, nF, nG, reduceCtorEq, L_addr_every_s, m_addr_every_s_l1b, c_addr_every_s_l1b]
  rcases ifb h with ⟨hy1, h⟩ | ⟨hy1, h⟩
  · refine UC_t hy1 ?_
    obtain ⟨x4, hy2, h⟩ := bnd' h
    try simp only [WW, ↓reduceIte, nA, nB, nC, nD, nE, nF, nG, reduceCtorEq, L_addr_every_s, hy2]
    obtain ⟨r5, hy3, h⟩ := bnd' h
    refine UK_e (as' := [(b8 x4)]) (h := addr_label_1_ok (c1 := x4)  hy3) (hw := WL.cons (Wx.b8) (WL.nil)) (hh := WxH.refl _) ?_
    try simp only [WW, ↓reduceIte, nA, nB, nC, nD, nE, nF, nG, reduceCtorEq, L_addr_every_s]
    rcases ifb h with ⟨hy4, h⟩ | ⟨hy4, h⟩
    · refine UC_t hy4 ?_
      try simp only [WW, ↓reduceIte, nA, nB, nC, nD, nE, nF, nG, reduceCtorEq, L_addr_every_s]
      have hq := Option.some.inj h; subst hq
      refine hX _ _ _ _ _ (by simp) ?_ (WxH.refl _) (kr _ (hR _ rfl) )
      exact WE.cons (Wx.bool) (WE.nil)
    · refine UC_f hy4 ?_
      try simp only [WW, ↓reduceIte, nA, nB, nC, nD, nE, nF, nG, reduceCtorEq, L_addr_every_s]
      have hq := Option.some.inj h; subst hq
      refine hN _ rfl _ _ _ _ ?_ (WxH.refl _) ⟨rfl, rfl⟩
      exact WE.cons (Wx.str) (WE.cons (Wx.fn) (WE.cons (Wx.bool) (WE.cons (Wx.int) (WE.cons (Wx.int) (WE.nil)))))
  · refine UC_f hy1 ?_
    try simp only [WW, ↓reduceIte, nA, nB, nC, nD, nE, nF, nG, reduceCtorEq, L_addr_every_s]
    have hq := Option.some.inj h; subst hq
    refine hX _ _ _ _ _ (by simp) ?_ (WxH.refl _) (kb0 _ (hB _ rfl) )
    exact WE.nil
theorem addr_every_s_ok {F : Nat} {s1 : List UInt8}  {H0 : AH}  {rz0 : Bool} (h : addr_every_s F s1 = some rz0) :
    ACalls Tryd.prog 82 [(.str s1), (.fn 117 [])] H0 fun v H' => v = (.bool rz0) ∧ H' = H0 := by
  refine ACalls.goX k_addr_every_s (m := m_addr_every_s) rfl L_addr_every_s (by decide) (by simp) fun hcl K0 hK0 => ?_
  refine AX.of_U (m := m_addr_every_s) rfl (by decide) ?_
  rw [addr_every_s.eq_1] at h
  try simp only [WW, ↓reduceIte, nA, nB, nC, nD, nE, nF, nG, reduceCtorEq, L_addr_every_s, m_addr_every_s, c_addr_every_s]
  obtain ⟨o8, hy5, h⟩ := bnd' h
  refine UX_of (AX.weak ?_ (WxH.refl _) (addr_every_s_l1_ok  (s1 := s1) (t2 := false) (t3 := 0)   (o := o8) hy5 ?_ ?_))
  · exact WE.cons (Wx.str) (WE.cons (Wx.fn) (WE.cons (Wx.bool) (WE.cons (Wx.int) (WE.cons (Wx.int) (WE.nil)))))
  · rintro ⟨⟩ rfl  
    try dsimp only at h 
    try simp only [WW, ↓reduceIte, nA, nB, nC, nD, nE, nF, nG, reduceCtorEq, L_addr_every_s]
    have hq := Option.some.inj h; subst hq
    refine hK0 _ _ _ (.inr rfl) ?_
    exact fn_endp hcl (resv_tmp (a := (.bool true)) rfl rfl resv_nil) (by first | (simp [fin, b_df, b_sh, b_sh1, b_Cl]; done) | (simp [fin, AV.df, AV.sh, AV.sh1, b_df, b_sh, b_sh1, b_Cl]; done)) (Wx.bool) (r' := (.bool true)) ⟨rfl, rfl⟩
  · rintro r7 rfl  
    try dsimp only at h 
    try simp only [WW, ↓reduceIte, nA, nB, nC, nD, nE, nF, nG, reduceCtorEq, L_addr_every_s]
    have hq := Option.some.inj h; subst hq
    refine hK0 _ _ _ (.inr rfl) ?_
    exact fn_endp hcl (resv_tmp (a := (.bool r7)) rfl rfl resv_nil) (by first | (simp [fin, b_df, b_sh, b_sh1, b_Cl]; done) | (simp [fin, AV.df, AV.sh, AV.sh1, b_df, b_sh, b_sh1, b_Cl]; done)) (Wx.bool) (r' := (.bool r7)) ⟨rfl, rfl⟩

/-! ### mailbag/addr.label -/
def c_addr_label_p1 : ACode := (.rg [⟨(some 3), (.mv (.t 0)), none⟩, ⟨(some 4), (.bin .neq (.t 3) (.c (.str []))), none⟩, ⟨(some 5), (.mv (.t 4)), none⟩, ⟨(some 6), (.mv (.t 0)), (some (5, true))⟩, ⟨(some 7), (.ixs (.t 6) (.c (.int .i64 0))), (some (5, true))⟩, ⟨(some 8), (.bin .neq (.t 7) (.c (b8 45))), (some (5, true))⟩, ⟨(some 9), (.pick (.t 5) (.t 8) (.c (.bool false))), none⟩, ⟨(some 10), (.mv (.t 9)), none⟩, ⟨(some 11), (.mv (.t 0)), (some (10, true))⟩, ⟨(some 12), (.mv (.t 0)), (some (10, true))⟩, ⟨(some 13), (.lens (.t 12)), (some (10, true))⟩, ⟨(some 14), (.bin .sub (.t 13) (.c (.int .i64 1))), (some (10, true))⟩, ⟨(some 15), (.ixs (.t 11) (.t 14)), (some (10, true))⟩, ⟨(some 16), (.bin .neq (.t 15) (.c (b8 45))), (some (10, true))⟩, ⟨(some 17), (.pick (.t 10) (.t 16) (.c (.bool false))), none⟩, ⟨(some 18), (.mv (.t 17)), none⟩, ⟨(some 19), (.mv (.t 0)), (some (18, true))⟩, ⟨(some 20), (.call (.c (.fn 82 [])) [(.t 19), (.c (.fn 117 []))]), (some (18, true))⟩, ⟨(some 21), (.pick (.t 18) (.t 20) (.c (.bool false))), none⟩, ⟨(some 2), (.asg (.t 21)), none⟩])
abbrev m_addr_label_p1 := c_addr_label_p1
def c_addr_label : ACode := (.seq (.rg [⟨(some 2), (.asg (.c (.bool false))), none⟩]) (.seq c_addr_label_p1 .ret))
def m_addr_label : ACode := (.seq (.rg [⟨(some 2), (.asg (.c (.bool false))), none⟩]) (.seq (.sem c_addr_label_p1) .ret))
theorem k_addr_label : FnOk Tryd.prog 108 22 [(.tmp 2)] c_addr_label := ⟨Tryd.f108, _, rfl, by decide, rfl, by kernel_rfl, rfl, rfl⟩
abbrev L_addr_label : List Nat := [0, 2]
def addr_label_p1 (F : Nat) (s1 : List UInt8) : Option (Bool) :=
  (if (!decide (s1 = ([] : List UInt8))) then
    (idx s1 0).bind fun x2 =>
    (if (!decide (x2 = 45)) then
      (idx s1 (IntKind.wrap .i64 ((s1.length : Int) - 1))).bind fun x3 =>
      (if (!decide (x3 = 45)) then
        (addr_every_s F s1).bind fun r4 => some r4
      else
        some false)
    else
      some false)
  else
    some false)
def addr_label (F : Nat) (s1 : List UInt8) : Option (Bool) :=
  (addr_label_p1 F s1).bind fun t6 =>
  some t6
theorem addr_label_p1_ok {F : Nat} {s1 : List UInt8} {H : AH}  {K : Exit → Env → AH → Prop} {t5 : Bool}
    (h : addr_label_p1 F s1 = some t5)
    (kn : K .normal [(2, (.bool t5))] H) :
    AX Tryd.prog L_addr_label 22 H.length c_addr_label_p1 K [(0, (.str s1)), (2, (.bool false))] H := by
  refine AX.go (m := m_addr_label_p1) rfl (by decide) fun K' hK => ?_
  rw [addr_label_p1.eq_1] at h
  try simp only [WW, ↓reduceIte, nA, nB, nC, nD, nE, nF, nG, reduceCtorEq, L_addr_label, m_addr_label_p1, c_addr_label_p1]
  rcases ifb h with ⟨hy1, h⟩ | ⟨hy1, h⟩
  · refine UG_go hy1 ?_
    obtain ⟨x2, hy2, h⟩ := bnd' h
    try simp only [WW, ↓reduceIte, nA, nB, nC, nD, nE, nF, nG, reduceCtorEq, L_addr_label, hy1, hy2]
    rcases ifb h with ⟨hy3, h⟩ | ⟨hy3, h⟩
    · refine UG_go hy3 ?_
      obtain ⟨x3, hy4, h⟩ := bnd' h
      try simp only [WW, ↓reduceIte, nA, nB, nC, nD, nE, nF, nG, reduceCtorEq, L_addr_label, hy3, hy4]
      rcases ifb h with ⟨hy5, h⟩ | ⟨hy5, h⟩
      · refine UG_go hy5 ?_
        try simp only [WW, ↓reduceIte, nA, nB, nC, nD, nE, nF, nG, reduceCtorEq, L_addr_label, hy5]
        obtain ⟨r4, hy6, h⟩ := bnd' h
        refine UK_e (as' := [(.str s1), (.fn 117 [])]) (h := addr_every_s_ok (s1 := s1) (F := F)  hy6) (hw := WL.cons (Wx.str) (WL.cons (Wx.fn) (WL.nil))) (hh := WxH.refl _) ?_
        try simp only [WW, ↓reduceIte, nA, nB, nC, nD, nE, nF, nG, reduceCtorEq, L_addr_label]
        have hq := Option.some.inj h; subst hq
        refine hK _ _ _ _ _ ?_ (WxH.refl _) (kn )
        exact WE.cons (Wx.bool) (WE.nil)
      · refine UG_nt hy5 ?_
        try simp only [WW, ↓reduceIte, nA, nB, nC, nD, nE, nF, nG, reduceCtorEq, L_addr_label, hy5]
        have hq := Option.some.inj h; subst hq
        refine hK _ _ _ _ _ ?_ (WxH.refl _) (kn )
        exact WE.cons (Wx.bool) (WE.nil)
    · refine UG_nt hy3 ?_
      try simp only [WW, ↓reduceIte, nA, nB, nC, nD, nE, nF, nG, reduceCtorEq, L_addr_label, hy3]
      have hq := Option.some.inj h; subst hq
      refine hK _ _ _ _ _ ?_ (WxH.refl _) (kn )
      exact WE.cons (Wx.bool) (WE.nil)
  · refine UG_nt hy1 ?_
    try simp only [WW, ↓reduceIte, nA, nB, nC, nD, nE, nF, nG, reduceCtorEq, L_addr_label, hy1]
    have hq := Option.some.inj h; subst hq
    refine hK _ _ _ _ _ ?_ (WxH.refl _) (kn )
    exact WE.cons (Wx.bool) (WE.nil)
theorem addr_label_ok {F : Nat} {s1 : List UInt8}  {H0 : AH}  {rz0 : Bool} (h : addr_label F s1 = some rz0) :
    ACalls Tryd.prog 108 [(.str s1)] H0 fun v H' => v = (.bool rz0) ∧ H' = H0 := by
  refine ACalls.goX k_addr_label (m := m_addr_label) rfl L_addr_label (by decide) (by simp) fun hcl K0 hK0 => ?_
  refine AX.of_U (m := m_addr_label) rfl (by decide) ?_
  rw [addr_label.eq_1] at h
  try simp only [WW, ↓reduceIte, nA, nB, nC, nD, nE, nF, nG, reduceCtorEq, L_addr_label, m_addr_label]
  obtain ⟨t6, hy7, h⟩ := bnd' h
  refine UX_of (AX.weak ?_ (WxH.refl _) (addr_label_p1_ok (F := F) (s1 := s1) (t5 := t6)   hy7 ?_))
  · exact WE.cons (Wx.str) (WE.cons (Wx.bool) (WE.nil))
  try simp only [WW, ↓reduceIte, nA, nB, nC, nD, nE, nF, nG, reduceCtorEq, L_addr_label]
  have hq := Option.some.inj h; subst hq
  refine hK0 _ _ _ (.inr rfl) ?_
  exact fn_endp hcl (resv_tmp (a := (.bool t6)) rfl rfl resv_nil) (by first | (simp [fin, b_df, b_sh, b_sh1, b_Cl]; done) | (simp [fin, AV.df, AV.sh, AV.sh1, b_df, b_sh, b_sh1, b_Cl]; done)) (Wx.bool) (r' := (.bool t6)) ⟨rfl, rfl⟩

/-! ### mailbag/addr.shaped$2 -/
def c_addr_shaped_2 : ACode := (.seq (.rg [⟨(some 2), (.asg (.c (.bool false))), none⟩]) (.seq (.rg [⟨(some 3), (.mv (.t 0)), none⟩, ⟨(some 4), (.call (.c (.fn 108 [])) [(.t 3)]), none⟩, ⟨(some 5), (.un .not (.t 4)), none⟩, ⟨(some 2), (.asg (.t 5)), none⟩]) .ret))
abbrev m_addr_shaped_2 := c_addr_shaped_2
theorem k_addr_shaped_2 : FnOk Tryd.prog 107 6 [(.tmp 2)] c_addr_shaped_2 := ⟨Tryd.f107, _, rfl, by decide, rfl, by kernel_rfl, rfl, rfl⟩
abbrev L_addr_shaped_2 : List Nat := [0, 2]
def addr_shaped_2 (F : Nat) (x1 : List UInt8) : Option (Bool) :=
  (addr_label F x1).bind fun r2 => some (!r2)
theorem addr_shaped_2_ok {F : Nat} {x1 : List UInt8}  {H0 : AH}  {rz0 : Bool} (h : addr_shaped_2 F x1 = some rz0) :
    ACalls Tryd.prog 107 [(.str x1)] H0 fun v H' => v = (.bool rz0) ∧ H' = H0 := by
  refine ACalls.goX k_addr_shaped_2 (m := m_addr_shaped_2) rfl L_addr_shaped_2 (by decide) (by simp) fun hcl K0 hK0 => ?_
  refine AX.of_U (m := m_addr_shaped_2) rfl (by decide) ?_
  rw [addr_shaped_2.eq_1] at h
  try simp only [WW, ↓reduceIte, nA, nB, nC, nD, nE, nF, nG, reduceCtorEq, L_addr_shaped_2, m_addr_shaped_2, c_addr_shaped_2]
  obtain ⟨r2, hy1, h⟩ := bnd' h
  refine UK_e (as' := [(.str x1)]) (h := addr_label_ok (s1 := x1) (F := F)  hy1) (hw := WL.cons (Wx.str) (WL.nil)) (hh := WxH.refl _) ?_
  try simp only [WW, ↓reduceIte, nA, nB, nC, nD, nE, nF, nG, reduceCtorEq, L_addr_shaped_2]
  have hq := Option.some.inj h; subst hq
  refine hK0 _ _ _ (.inr rfl) ?_
  exact fn_endp hcl (resv_tmp (a := (.bool (!r2))) rfl rfl resv_nil) (by first | (simp [fin, b_df, b_sh, b_sh1, b_Cl]; done) | (simp [fin, AV.df, AV.sh, AV.sh1, b_df, b_sh, b_sh1, b_Cl]; done)) (Wx.bool) (r' := (.bool (!r2))) ⟨rfl, rfl⟩

/-! ### slices.IndexFunc[[]string,string] -/
def c_slices_IndexFunc_sx_l1b : ACode := (.seq (.rg [⟨(some 9), (.bin .lss (.t 8) (.t 7)), none⟩]) (.seq (.cond (.t 9) .skip (.exit 0)) (.seq (.blk 1 (.seq (.rg [⟨(some 10), (.mv (.t 8)), none⟩, ⟨(some 5), (.asg (.t 10)), none⟩]) (.seq (.rg [⟨(some 11), (.mv (.t 1)), none⟩, ⟨(some 12), (.mv (.t 0)), none⟩, ⟨(some 13), (.mv (.t 5)), none⟩, ⟨(some 14), (.ixa 1 (.t 12) (.t 13)), none⟩, ⟨(some 15), (.ld (.t 14) none), none⟩, ⟨(some 16), (.call (.t 11) [(.t 15)]), none⟩]) (.cond (.t 16) (.seq (.rg [⟨(some 17), (.mv (.t 5)), none⟩, ⟨(some 4), (.asg (.t 17)), none⟩]) .ret) .skip)))) (.rg [⟨(some 18), (.bin .add (.t 8) (.c (.int .i64 1))), none⟩, ⟨(some 8), (.mv (.t 18)), none⟩]))))
def c_slices_IndexFunc_sx_l1 : ACode := (.loop c_slices_IndexFunc_sx_l1b)
abbrev m_slices_IndexFunc_sx_l1b := c_slices_IndexFunc_sx_l1b
def c_slices_IndexFunc_sx : ACode := (.seq (.rg [⟨(some 4), (.asg (.c (.int .i64 0))), none⟩]) (.seq (.seq (.rg [⟨(some 6), (.mv (.t 0)), none⟩, ⟨(some 7), (.len (.t 6)), none⟩, ⟨(some 8), (.mv (.c (.int .i64 0))), none⟩]) (.blk 0 c_slices_IndexFunc_sx_l1)) (.seq (.rg [⟨(some 4), (.asg (.c (.int .i64 (-1)))), none⟩]) .ret)))
abbrev m_slices_IndexFunc_sx := c_slices_IndexFunc_sx
theorem k_slices_IndexFunc_sx : FnOk Tryd.prog 109 19 [(.tmp 4)] c_slices_IndexFunc_sx := ⟨Tryd.f109, _, rfl, by decide, rfl, by kernel_rfl, rfl, rfl⟩
abbrev L_slices_IndexFunc_sx : List Nat := [0, 1, 4, 5, 7, 8, 9, 16]
def slices_IndexFunc_sx_l1 (F : Nat) (s1 : List (List UInt8)) : (Int × Int) → Option (St Int Unit (Int × Int))
  | (t2, t3) =>
    (if (decide (t3 < (s1.length : Int))) then
      (idx s1 t3).bind fun x4 =>
      (addr_shaped_2 F x4).bind fun r5 =>
      (if r5 then
        some (.ret t3)
      else
        some (.nxt (t2, (IntKind.wrap .i64 (t3 + 1)))))
    else
      some (.brk ()))
def slices_IndexFunc_sx (F : Nat) (s1 : List (List UInt8)) : Option (Int) :=
  ((iter (slices_IndexFunc_sx_l1 F s1) F (0, 0)).bind fun o8 =>
  match o8 with
  | .inr () =>
    some (-1)
  | .inl r7 =>
    some r7)
theorem slices_IndexFunc_sx_l1_ok {F : Nat} {t3 : Int} {s1 : List (List UInt8)} {t2 : Int} {H : AH}  {K : Exit → Env → AH → Prop} {o : (Int) ⊕ (Unit)}
    (h : iter (slices_IndexFunc_sx_l1 F s1) F (t2, t3) = some o)
    (kb0 : ∀ o' : Unit, o = .inr o' → K (.exit 0) [] H)
    (kr : ∀ o' : Int, o = .inl o' → K .ret [(4, (.int .i64 o'))] H) :
    AX Tryd.prog L_slices_IndexFunc_sx 19 H.length c_slices_IndexFunc_sx_l1 K [(0, (.sl .n 1 (ml AV.str s1))), (1, (.fn 107 [])), (4, (.int .i64 t2)), (7, (.int .i64 (s1.length : Int))), (8, (.int .i64 t3))] H := by
  refine AX.iter (m := m_slices_IndexFunc_sx_l1b) rfl (by decide) (fun s e H1 => match s with | (t2, t3) => e = [(0, (.sl .n 1 (ml AV.str s1))), (1, (.fn 107 [])), (4, (.int .i64 t2)), (7, (.int .i64 (s1.length : Int))), (8, (.int .i64 t3))] ∧ H1 = H) h ⟨rfl, rfl⟩ ?_
  rintro K' ⟨t2, t3⟩ st e H ⟨rfl, rfl⟩ h hN hB hR hX
  rw [slices_IndexFunc_sx_l1.eq_1] at h
  try simp only [WW, ↓reduceIte, nA, nB, nC, nD, nE, nF, nG, reduceCtorEq, L_slices_IndexFunc_sx, m_slices_IndexFunc_sx_l1b, c_slices_IndexFunc_sx_l1b]
  rcases ifb h with ⟨hy1, h⟩ | ⟨hy1, h⟩
  · refine UC_t hy1 ?_
    obtain ⟨x4, hy2, h⟩ := bnd' h
    try simp only [WW, ↓reduceIte, nA, nB, nC, nD, nE, nF, nG, reduceCtorEq, L_slices_IndexFunc_sx, hy2]
    obtain ⟨r5, hy3, h⟩ := bnd' h
    refine UK_e (as' := [(.str x4)]) (h := addr_shaped_2_ok (x1 := x4) (F := F)  hy3) (hw := WL.cons (Wx.str) (WL.nil)) (hh := WxH.refl _) ?_
    try simp only [WW, ↓reduceIte, nA, nB, nC, nD, nE, nF, nG, reduceCtorEq, L_slices_IndexFunc_sx]
    rcases ifb h with ⟨hy4, h⟩ | ⟨hy4, h⟩
    · refine UC_t hy4 ?_
      try simp only [WW, ↓reduceIte, nA, nB, nC, nD, nE, nF, nG, reduceCtorEq, L_slices_IndexFunc_sx]
      have hq := Option.some.inj h; subst hq
      refine hX _ _ _ _ _ (by simp) ?_ (WxH.refl _) (kr _ (hR _ rfl) )
      exact WE.cons (Wx.int) (WE.nil)
    · refine UC_f hy4 ?_
      try simp only [WW, ↓reduceIte, nA, nB, nC, nD, nE, nF, nG, reduceCtorEq, L_slices_IndexFunc_sx]
      have hq := Option.some.inj h; subst hq
      refine hN _ rfl _ _ _ _ ?_ (WxH.refl _) ⟨rfl, rfl⟩
      exact WE.cons (Wx.nn) (WE.cons (Wx.fn) (WE.cons (Wx.int) (WE.cons (Wx.int) (WE.cons (Wx.int) (WE.nil)))))
  · refine UC_f hy1 ?_
    try simp only [WW, ↓reduceIte, nA, nB, nC, nD, nE, nF, nG, reduceCtorEq, L_slices_IndexFunc_sx]
    have hq := Option.some.inj h; subst hq
    refine hX _ _ _ _ _ (by simp) ?_ (WxH.refl _) (kb0 _ (hB _ rfl) )
    exact WE.nil
theorem slices_IndexFunc_sx_ok {F : Nat} {s1 : List (List UInt8)}  {H0 : AH}  {rz0 : Int} (h : slices_IndexFunc_sx F s1 = some rz0) :
    ACalls Tryd.prog 109 [(.sl .n 1 (ml AV.str s1)), (.fn 107 [])] H0 fun v H' => v = (.int .i64 rz0) ∧ H' = H0 := by
  refine ACalls.goX k_slices_IndexFunc_sx (m := m_slices_IndexFunc_sx) rfl L_slices_IndexFunc_sx (by decide) (by simp) fun hcl K0 hK0 => ?_
  refine AX.of_U (m := m_slices_IndexFunc_sx) rfl (by decide) ?_
  rw [slices_IndexFunc_sx.eq_1] at h
  try simp only [WW, ↓reduceIte, nA, nB, nC, nD, nE, nF, nG, reduceCtorEq, L_slices_IndexFunc_sx, m_slices_IndexFunc_sx, c_slices_IndexFunc_sx]
  obtain ⟨o8, hy5, h⟩ := bnd' h
  refine UX_of (AX.weak ?_ (WxH.refl _) (slices_IndexFunc_sx_l1_ok  (s1 := s1) (t2 := 0) (t3 := 0)   (o := o8) hy5 ?_ ?_))
  · exact WE.cons (Wx.nn) (WE.cons (Wx.fn) (WE.cons (Wx.int) (WE.cons (Wx.int) (WE.cons (Wx.int) (WE.nil)))))
  · rintro ⟨⟩ rfl  
    try dsimp only at h 
    try simp only [WW, ↓reduceIte, nA, nB, nC, nD, nE, nF, nG, reduceCtorEq, L_slices_IndexFunc_sx]
    have hq := Option.some.inj h; subst hq
    refine hK0 _ _ _ (.inr rfl) ?_
    exact fn_endp hcl (resv_tmp (a := (.int .i64 (-1))) rfl rfl resv_nil) (by first | (simp [fin, b_df, b_sh, b_sh1, b_Cl]; done) | (simp [fin, AV.df, AV.sh, AV.sh1, b_df, b_sh, b_sh1, b_Cl]; done)) (Wx.int) (r' := (.int .i64 (-1))) ⟨rfl, rfl⟩
  · rintro r7 rfl  
    try dsimp only at h 
    try simp only [WW, ↓reduceIte, nA, nB, nC, nD, nE, nF, nG, reduceCtorEq, L_slices_IndexFunc_sx]
    have hq := Option.some.inj h; subst hq
    refine hK0 _ _ _ (.inr rfl) ?_
    exact fn_endp hcl (resv_tmp (a := (.int .i64 r7)) rfl rfl resv_nil) (by first | (simp [fin, b_df, b_sh, b_sh1, b_Cl]; done) | (simp [fin, AV.df, AV.sh, AV.sh1, b_df, b_sh, b_sh1, b_Cl]; done)) (Wx.int) (r' := (.int .i64 r7)) ⟨rfl, rfl⟩

/-! ### slices.ContainsFunc[[]string,string] -/
def c_slices_ContainsFunc_sx : ACode := (.seq (.rg [⟨(some 4), (.asg (.c (.bool false))), none⟩]) (.seq (.rg [⟨(some 5), (.mv (.t 0)), none⟩, ⟨(some 6), (.mv (.t 1)), none⟩, ⟨(some 7), (.call (.c (.fn 109 [])) [(.t 5), (.t 6)]), none⟩, ⟨(some 8), (.bin .geq (.t 7) (.c (.int .i64 0))), none⟩, ⟨(some 4), (.asg (.t 8)), none⟩]) .ret))
abbrev m_slices_ContainsFunc_sx := c_slices_ContainsFunc_sx
theorem k_slices_ContainsFunc_sx : FnOk Tryd.prog 78 9 [(.tmp 4)] c_slices_ContainsFunc_sx := ⟨Tryd.f78, _, rfl, by decide, rfl, by kernel_rfl, rfl, rfl⟩
abbrev L_slices_ContainsFunc_sx : List Nat := [0, 1, 4]
def slices_ContainsFunc_sx (F : Nat) (s1 : List (List UInt8)) : Option (Bool) :=
  (slices_IndexFunc_sx F s1).bind fun r2 => some (decide (0 ≤ r2))
theorem slices_ContainsFunc_sx_ok {F : Nat} {s1 : List (List UInt8)}  {H0 : AH}  {rz0 : Bool} (h : slices_ContainsFunc_sx F s1 = some rz0) :
    ACalls Tryd.prog 78 [(.sl .n 1 (ml AV.str s1)), (.fn 107 [])] H0 fun v H' => v = (.bool rz0) ∧ H' = H0 := by
  refine ACalls.goX k_slices_ContainsFunc_sx (m := m_slices_ContainsFunc_sx) rfl L_slices_ContainsFunc_sx (by decide) (by simp) fun hcl K0 hK0 => ?_
  refine AX.of_U (m := m_slices_ContainsFunc_sx) rfl (by decide) ?_
  rw [slices_ContainsFunc_sx.eq_1] at h
  try simp only [WW, ↓reduceIte, nA, nB, nC, nD, nE, nF, nG, reduceCtorEq, L_slices_ContainsFunc_sx, m_slices_ContainsFunc_sx, c_slices_ContainsFunc_sx]
  obtain ⟨r2, hy1, h⟩ := bnd' h
  refine UK_e (as' := [(.sl .n 1 (ml AV.str s1)), (.fn 107 [])]) (h := slices_IndexFunc_sx_ok (s1 := s1) (F := F)  hy1) (hw := WL.cons (Wx.nn) (WL.cons (Wx.fn) (WL.nil))) (hh := WxH.refl _) ?_
  try simp only [WW, ↓reduceIte, nA, nB, nC, nD, nE, nF, nG, reduceCtorEq, L_slices_ContainsFunc_sx]
  have hq := Option.some.inj h; subst hq
  refine hK0 _ _ _ (.inr rfl) ?_
  exact fn_endp hcl (resv_tmp (a := (.bool (decide (0 ≤ r2)))) rfl rfl resv_nil) (by first | (simp [fin, b_df, b_sh, b_sh1, b_Cl]; done) | (simp [fin, AV.df, AV.sh, AV.sh1, b_df, b_sh, b_sh1, b_Cl]; done)) (Wx.bool) (r' := (.bool (decide (0 ≤ r2)))) ⟨rfl, rfl⟩

/-! ### mailbag/addr.shaped -/
def c_addr_shaped_p1 : ACode := (.rg [⟨(some 4), (.mv (.t 0)), none⟩, ⟨(some 5), (.lens (.t 4)), none⟩, ⟨(some 6), (.bin .gtr (.t 5) (.c (.int .i64 1))), none⟩, ⟨(some 7), (.mv (.t 6)), none⟩, ⟨(some 8), (.mv (.t 0)), (some (7, true))⟩, ⟨(some 9), (.ixs (.t 8) (.c (.int .i64 0))), (some (7, true))⟩, ⟨(some 10), (.bin .eql (.t 9) (.c (b8 91))), (some (7, true))⟩, ⟨(some 11), (.pick (.t 7) (.t 10) (.c (.bool false))), none⟩, ⟨(some 12), (.mv (.t 11)), none⟩, ⟨(some 13), (.mv (.t 0)), (some (12, true))⟩, ⟨(some 14), (.mv (.t 0)), (some (12, true))⟩, ⟨(some 15), (.lens (.t 14)), (some (12, true))⟩, ⟨(some 16), (.bin .sub (.t 15) (.c (.int .i64 1))), (some (12, true))⟩, ⟨(some 17), (.ixs (.t 13) (.t 16)), (some (12, true))⟩, ⟨(some 18), (.bin .eql (.t 17) (.c (b8 93))), (some (12, true))⟩, ⟨(some 19), (.pick (.t 12) (.t 18) (.c (.bool false))), none⟩])
abbrev m_addr_shaped_p1 := c_addr_shaped_p1
def c_addr_shaped_p2 : ACode := (.rg [⟨(some 26), (.mv (.t 3)), none⟩, ⟨(some 27), (.len (.t 26)), none⟩, ⟨(some 28), (.bin .eql (.t 27) (.c (.int .i64 4))), none⟩, ⟨(some 29), (.mv (.t 28)), none⟩, ⟨(some 30), (.mv (.t 3)), (some (29, true))⟩, ⟨(some 31), (.call (.c (.fn 78 [])) [(.t 30), (.c (.fn 105 []))]), (some (29, true))⟩, ⟨(some 32), (.un .not (.t 31)), (some (29, true))⟩, ⟨(some 33), (.pick (.t 29) (.t 32) (.c (.bool false))), none⟩, ⟨(some 2), (.asg (.t 33)), none⟩])
abbrev m_addr_shaped_p2 := c_addr_shaped_p2
def c_addr_shaped : ACode := (.seq (.rg [⟨(some 2), (.asg (.c (.bool false))), none⟩]) (.seq (.seq c_addr_shaped_p1 (.cond (.t 19) (.seq (.rg [⟨(some 20), (.mv (.t 0)), none⟩, ⟨(some 21), (.mv (.t 0)), none⟩, ⟨(some 22), (.lens (.t 21)), none⟩, ⟨(some 23), (.bin .sub (.t 22) (.c (.int .i64 1))), none⟩, ⟨(some 24), (.sls (.t 20) (some (.c (.int .i64 1))) (some (.t 23))), none⟩, ⟨(some 25), (.call (.c (.fn 79 [])) [(.t 24), (.c (.str [46]))]), none⟩, ⟨(some 3), (.asg (.t 25)), none⟩]) (.seq c_addr_shaped_p2 .ret)) .skip)) (.seq (.rg [⟨(some 34), (.mv (.t 0)), none⟩, ⟨(some 35), (.call (.c (.fn 79 [])) [(.t 34), (.c (.str [46]))]), none⟩, ⟨(some 36), (.call (.c (.fn 78 [])) [(.t 35), (.c (.fn 107 []))]), none⟩, ⟨(some 37), (.un .not (.t 36)), none⟩, ⟨(some 2), (.asg (.t 37)), none⟩]) .ret)))
def m_addr_shaped : ACode := (.seq (.rg [⟨(some 2), (.asg (.c (.bool false))), none⟩]) (.seq (.seq (.sem c_addr_shaped_p1) (.cond (.t 19) (.seq (.rg [⟨(some 20), (.mv (.t 0)), none⟩, ⟨(some 21), (.mv (.t 0)), none⟩, ⟨(some 22), (.lens (.t 21)), none⟩, ⟨(some 23), (.bin .sub (.t 22) (.c (.int .i64 1))), none⟩, ⟨(some 24), (.sls (.t 20) (some (.c (.int .i64 1))) (some (.t 23))), none⟩, ⟨(some 25), (.call (.c (.fn 79 [])) [(.t 24), (.c (.str [46]))]), none⟩, ⟨(some 3), (.asg (.t 25)), none⟩]) (.seq (.sem c_addr_shaped_p2) .ret)) .skip)) (.seq (.rg [⟨(some 34), (.mv (.t 0)), none⟩, ⟨(some 35), (.call (.c (.fn 79 [])) [(.t 34), (.c (.str [46]))]), none⟩, ⟨(some 36), (.call (.c (.fn 78 [])) [(.t 35), (.c (.fn 107 []))]), none⟩, ⟨(some 37), (.un .not (.t 36)), none⟩, ⟨(some 2), (.asg (.t 37)), none⟩]) .ret)))
theorem k_addr_shaped : FnOk Tryd.prog 77 38 [(.tmp 2)] c_addr_shaped := ⟨Tryd.f77, _, rfl, by decide, rfl, by kernel_rfl, rfl, rfl⟩
abbrev L_addr_shaped : List Nat := [0, 2, 3, 19]
def addr_shaped_p1 (s1 : List UInt8) : Option (Bool) :=
  (if (decide (1 < (s1.length : Int))) then
    (idx s1 0).bind fun x2 =>
    (if (decide (x2 = 91)) then
      (idx s1 (IntKind.wrap .i64 ((s1.length : Int) - 1))).bind fun x3 => some (decide (x3 = 93))
    else
      some false)
  else
    some false)
def addr_shaped_p2 (F : Nat) (r7 : List (List UInt8)) : Option (Bool) :=
  (if (decide ((r7.length : Int) = 4)) then
    (slices_ContainsFunc_s F r7).bind fun r8 => some (!r8)
  else
    some false)
def addr_shaped (F : Nat) (s1 : List UInt8) : Option (Bool) :=
  (addr_shaped_p1 s1).bind fun t5 =>
  (if t5 then
    (sub s1 1 (IntKind.wrap .i64 ((s1.length : Int) - 1))).bind fun x6 =>
    (strings_Split x6 ([46] : List UInt8)).bind fun r7 => (addr_shaped_p2 F r7).bind fun t10 =>
    some t10
  else
    (strings_Split s1 ([46] : List UInt8)).bind fun r11 => (slices_ContainsFunc_sx F r11).bind fun r12 => some (!r12))
theorem addr_shaped_p1_ok {s1 : List UInt8} {H : AH}  {K : Exit → Env → AH → Prop} {t4 : Bool}
    (h : addr_shaped_p1 s1 = some t4)
    (kn : K .normal [(0, (.str s1)), (19, (.bool t4))] H) :
    AX Tryd.prog L_addr_shaped 38 H.length c_addr_shaped_p1 K [(0, (.str s1))] H := by
  refine AX.go (m := m_addr_shaped_p1) rfl (by decide) fun K' hK => ?_
  rw [addr_shaped_p1.eq_1] at h
  try simp only [WW, ↓reduceIte, nA, nB, nC, nD, nE, nF, nG, reduceCtorEq, L_addr_shaped, m_addr_shaped_p1, c_addr_shaped_p1]
  rcases ifb h with ⟨hy1, h⟩ | ⟨hy1, h⟩
  · refine UG_go hy1 ?_
    obtain ⟨x2, hy2, h⟩ := bnd' h
    try simp only [WW, ↓reduceIte, nA, nB, nC, nD, nE, nF, nG, reduceCtorEq, L_addr_shaped, hy1, hy2]
    rcases ifb h with ⟨hy3, h⟩ | ⟨hy3, h⟩
    · refine UG_go hy3 ?_
      obtain ⟨x3, hy4, h⟩ := bnd' h
      try simp only [WW, ↓reduceIte, nA, nB, nC, nD, nE, nF, nG, reduceCtorEq, L_addr_shaped, hy3, hy4]
      have hq := Option.some.inj h; subst hq
      refine hK _ _ _ _ _ ?_ (WxH.refl _) (kn )
      exact WE.cons (Wx.str) (WE.cons (Wx.bool) (WE.nil))
    · refine UG_nt hy3 ?_
      try simp only [WW, ↓reduceIte, nA, nB, nC, nD, nE, nF, nG, reduceCtorEq, L_addr_shaped, hy3]
      have hq := Option.some.inj h; subst hq
      refine hK _ _ _ _ _ ?_ (WxH.refl _) (kn )
      exact WE.cons (Wx.str) (WE.cons (Wx.bool) (WE.nil))
  · refine UG_nt hy1 ?_
    try simp only [WW, ↓reduceIte, nA, nB, nC, nD, nE, nF, nG, reduceCtorEq, L_addr_shaped, hy1]
    have hq := Option.some.inj h; subst hq
    refine hK _ _ _ _ _ ?_ (WxH.refl _) (kn )
    exact WE.cons (Wx.str) (WE.cons (Wx.bool) (WE.nil))
theorem addr_shaped_p2_ok {F : Nat} {r7 : List (List UInt8)} {H : AH}  {K : Exit → Env → AH → Prop} {t9 : Bool}
    (h : addr_shaped_p2 F r7 = some t9)
    (kn : K .normal [(2, (.bool t9))] H) :
    AX Tryd.prog L_addr_shaped 38 H.length c_addr_shaped_p2 K [(3, (.sl .n 1 (ml AV.str r7)))] H := by
  refine AX.go (m := m_addr_shaped_p2) rfl (by decide) fun K' hK => ?_
  rw [addr_shaped_p2.eq_1] at h
  try simp only [WW, ↓reduceIte, nA, nB, nC, nD, nE, nF, nG, reduceCtorEq, L_addr_shaped, m_addr_shaped_p2, c_addr_shaped_p2]
  rcases ifb h with ⟨hy9, h⟩ | ⟨hy9, h⟩
  · refine UG_go hy9 ?_
    try simp only [WW, ↓reduceIte, nA, nB, nC, nD, nE, nF, nG, reduceCtorEq, L_addr_shaped, hy9]
    obtain ⟨r8, hy10, h⟩ := bnd' h
    refine UK_e (as' := [(.sl .n 1 (ml AV.str r7)), (.fn 105 [])]) (h := slices_ContainsFunc_s_ok (s1 := r7) (F := F)  hy10) (hw := WL.cons (Wx.nn) (WL.cons (Wx.fn) (WL.nil))) (hh := WxH.refl _) ?_
    try simp only [WW, ↓reduceIte, nA, nB, nC, nD, nE, nF, nG, reduceCtorEq, L_addr_shaped]
    have hq := Option.some.inj h; subst hq
    refine hK _ _ _ _ _ ?_ (WxH.refl _) (kn )
    exact WE.cons (Wx.bool) (WE.nil)
  · refine UG_nt hy9 ?_
    try simp only [WW, ↓reduceIte, nA, nB, nC, nD, nE, nF, nG, reduceCtorEq, L_addr_shaped, hy9]
    have hq := Option.some.inj h; subst hq
    refine hK _ _ _ _ _ ?_ (WxH.refl _) (kn )
    exact WE.cons (Wx.bool) (WE.nil)
theorem addr_shaped_ok {F : Nat} {s1 : List UInt8}  {H0 : AH}  {rz0 : Bool} (h : addr_shaped F s1 = some rz0) :
    ACalls Tryd.prog 77 [(.str s1)] H0 fun v H' => v = (.bool rz0) ∧ H' = H0 := by
  refine ACalls.goX k_addr_shaped (m := m_addr_shaped) rfl L_addr_shaped (by decide) (by simp) fun hcl K0 hK0 => ?_
  refine AX.of_U (m := m_addr_shaped) rfl (by decide) ?_
  rw [addr_shaped.eq_1] at h
  try simp only [WW, ↓reduceIte, nA, nB, nC, nD, nE, nF, nG, reduceCtorEq, L_addr_shaped, m_addr_shaped]
  obtain ⟨t5, hy5, h⟩ := bnd' h
  refine UX_of (AX.weak ?_ (WxH.refl _) (addr_shaped_p1_ok  (s1 := s1) (t4 := t5)   hy5 ?_))
  · exact WE.cons (Wx.str) (WE.nil)
  try simp only [WW, ↓reduceIte, nA, nB, nC, nD, nE, nF, nG, reduceCtorEq, L_addr_shaped]
  rcases ifb h with ⟨hy6, h⟩ | ⟨hy6, h⟩
  · refine UC_t hy6 ?_
    obtain ⟨x6, hy7, h⟩ := bnd' h
    try simp only [WW, ↓reduceIte, nA, nB, nC, nD, nE, nF, nG, reduceCtorEq, L_addr_shaped, hy7]
    obtain ⟨r7, hy8, h⟩ := bnd' h
    refine UK_e (as' := [(.str x6), (.str ([46] : List UInt8))]) (h := strings_Split_ok (s1 := x6) (s2 := ([46] : List UInt8))  hy8) (hw := WL.cons (Wx.str) (WL.cons (Wx.str) (WL.nil))) (hh := WxH.refl _) ?_
    try simp only [WW, ↓reduceIte, nA, nB, nC, nD, nE, nF, nG, reduceCtorEq, L_addr_shaped]
    obtain ⟨t10, hy11, h⟩ := bnd' h
    refine UX_of (AX.weak ?_ (WxH.refl _) (addr_shaped_p2_ok (F := F) (r7 := r7) (t9 := t10)   hy11 ?_))
    · exact WE.cons (Wx.nn) (WE.nil)
    try simp only [WW, ↓reduceIte, nA, nB, nC, nD, nE, nF, nG, reduceCtorEq, L_addr_shaped]
    have hq := Option.some.inj h; subst hq
    refine hK0 _ _ _ (.inr rfl) ?_
    exact fn_endp hcl (resv_tmp (a := (.bool t10)) rfl rfl resv_nil) (by first | (simp [fin, b_df, b_sh, b_sh1, b_Cl]; done) | (simp [fin, AV.df, AV.sh, AV.sh1, b_df, b_sh, b_sh1, b_Cl]; done)) (Wx.bool) (r' := (.bool t10)) ⟨rfl, rfl⟩
  · refine UC_f hy6 ?_
    try simp only [WW, ↓reduceIte, nA, nB, nC, nD, nE, nF, nG, reduceCtorEq, L_addr_shaped]
    obtain ⟨r11, hy12, h⟩ := bnd' h
    refine UK_e (as' := [(.str s1), (.str ([46] : List UInt8))]) (h := strings_Split_ok (s1 := s1) (s2 := ([46] : List UInt8))  hy12) (hw := WL.cons (Wx.str) (WL.cons (Wx.str) (WL.nil))) (hh := WxH.refl _) ?_
    try simp only [WW, ↓reduceIte, nA, nB, nC, nD, nE, nF, nG, reduceCtorEq, L_addr_shaped]
    obtain ⟨r12, hy13, h⟩ := bnd' h
    refine UK_e (as' := [(.sl .n 1 (ml AV.str r11)), (.fn 107 [])]) (h := slices_ContainsFunc_sx_ok (s1 := r11) (F := F)  hy13) (hw := WL.cons (Wx.nn) (WL.cons (Wx.fn) (WL.nil))) (hh := WxH.refl _) ?_
    try simp only [WW, ↓reduceIte, nA, nB, nC, nD, nE, nF, nG, reduceCtorEq, L_addr_shaped]
    have hq := Option.some.inj h; subst hq
    refine hK0 _ _ _ (.inr rfl) ?_
    exact fn_endp hcl (resv_tmp (a := (.bool (!r12))) rfl rfl resv_nil) (by first | (simp [fin, b_df, b_sh, b_sh1, b_Cl]; done) | (simp [fin, AV.df, AV.sh, AV.sh1, b_df, b_sh, b_sh1, b_Cl]; done)) (Wx.bool) (r' := (.bool (!r12))) ⟨rfl, rfl⟩

/-! ### (*mailbag/addr.scanner).domain -/
def c_addr_scanner_domain_p1 : ACode := (.rg [⟨(some 12), (.mv (.t 4)), none⟩, ⟨(some 13), (.call (.c (.fn 100 [])) [(.t 12)]), none⟩, ⟨(some 14), (.mv (.t 13)), none⟩, ⟨(some 15), (.mv (.t 4)), (some (14, false))⟩, ⟨(some 16), (.bin .eql (.t 15) (.c (b8 45))), (some (14, false))⟩, ⟨(some 17), (.pick (.t 14) (.c (.bool true)) (.t 16)), none⟩, ⟨(some 18), (.mv (.t 17)), none⟩, ⟨(some 19), (.mv (.t 4)), (some (18, false))⟩, ⟨(some 20), (.bin .eql (.t 19) (.c (b8 46))), (some (18, false))⟩, ⟨(some 21), (.pick (.t 18) (.c (.bool true)) (.t 20)), none⟩, ⟨(some 22), (.mv (.t 21)), none⟩, ⟨(some 23), (.mv (.t 4)), (some (22, false))⟩, ⟨(some 24), (.bin .eql (.t 23) (.c (b8 91))), (some (22, false))⟩, ⟨(some 25), (.pick (.t 22) (.c (.bool true)) (.t 24)), none⟩, ⟨(some 26), (.mv (.t 25)), none⟩, ⟨(some 27), (.mv (.t 4)), (some (26, false))⟩, ⟨(some 28), (.bin .eql (.t 27) (.c (b8 93))), (some (26, false))⟩, ⟨(some 29), (.pick (.t 26) (.c (.bool true)) (.t 28)), none⟩])
abbrev m_addr_scanner_domain_p1 := c_addr_scanner_domain_p1
def c_addr_scanner_domain_l1b : ACode := (.seq (.seq c_addr_scanner_domain_p1 (.cond (.t 29) .skip (.exit 0))) (.seq (.blk 1 (.rg [⟨(some 32), (.mv (.t 0)), none⟩, ⟨(some 33), (.nck (.t 32)), none⟩, ⟨(some 34), (.fld (.t 33) 1), none⟩, ⟨(some 35), (.ld (.t 34) none), none⟩, ⟨(some 36), (.bin .add (.t 35) (.c (.int .i64 1))), none⟩, ⟨(some 37), (.nck (.t 32)), none⟩, ⟨(some 38), (.fld (.t 37) 1), none⟩, ⟨none, (.st (.t 38) (.t 36) 1), none⟩])) (.rg [⟨(some 30), (.mv (.t 0)), none⟩, ⟨(some 31), (.call (.c (.fn 96 [])) [(.t 30)]), none⟩, ⟨(some 4), (.asg (.t 31)), none⟩])))
def c_addr_scanner_domain_l1 : ACode := (.loop c_addr_scanner_domain_l1b)
def m_addr_scanner_domain_l1b : ACode := (.seq (.seq (.sem c_addr_scanner_domain_p1) (.cond (.t 29) .skip (.exit 0))) (.seq (.blk 1 (.rg [⟨(some 32), (.mv (.t 0)), none⟩, ⟨(some 33), (.nck (.t 32)), none⟩, ⟨(some 34), (.fld (.t 33) 1), none⟩, ⟨(some 35), (.ld (.t 34) none), none⟩, ⟨(some 36), (.bin .add (.t 35) (.c (.int .i64 1))), none⟩, ⟨(some 37), (.nck (.t 32)), none⟩, ⟨(some 38), (.fld (.t 37) 1), none⟩, ⟨none, (.st (.t 38) (.t 36) 1), none⟩])) (.rg [⟨(some 30), (.mv (.t 0)), none⟩, ⟨(some 31), (.call (.c (.fn 96 [])) [(.t 30)]), none⟩, ⟨(some 4), (.asg (.t 31)), none⟩])))
def c_addr_scanner_domain_p2 : ACode := (.rg [⟨(some 49), (.mv (.t 0)), none⟩, ⟨(some 50), (.mv (.t 0)), none⟩, ⟨(some 51), (.nck (.t 50)), none⟩, ⟨(some 52), (.fld (.t 51) 2), none⟩, ⟨(some 53), (.ld (.t 52) none), none⟩, ⟨(some 54), (.mv (.t 53)), none⟩, ⟨(some 55), (.mv (.t 5)), (some (54, false))⟩, ⟨(some 56), (.call (.c (.fn 77 [])) [(.t 55)]), (some (54, false))⟩, ⟨(some 57), (.un .not (.t 56)), (some (54, false))⟩, ⟨(some 58), (.pick (.t 54) (.c (.bool true)) (.t 57)), none⟩, ⟨(some 59), (.nck (.t 49)), none⟩, ⟨(some 60), (.fld (.t 59) 2), none⟩, ⟨none, (.st (.t 60) (.t 58) 1), none⟩])
abbrev m_addr_scanner_domain_p2 := c_addr_scanner_domain_p2
def c_addr_scanner_domain : ACode := (.seq (.rg [⟨(some 2), (.asg (.c (.str []))), none⟩]) (.seq (.rg [⟨(some 6), (.mv (.t 0)), none⟩, ⟨(some 7), (.nck (.t 6)), none⟩, ⟨(some 8), (.fld (.t 7) 1), none⟩, ⟨(some 9), (.ld (.t 8) none), none⟩, ⟨(some 3), (.asg (.t 9)), none⟩]) (.seq (.seq (.rg [⟨(some 10), (.mv (.t 0)), none⟩, ⟨(some 11), (.call (.c (.fn 96 [])) [(.t 10)]), none⟩, ⟨(some 4), (.asg (.t 11)), none⟩]) (.blk 0 c_addr_scanner_domain_l1)) (.seq (.rg [⟨(some 39), (.mv (.t 0)), none⟩, ⟨(some 40), (.nck (.t 39)), none⟩, ⟨(some 41), (.fld (.t 40) 0), none⟩, ⟨(some 42), (.ld (.t 41) none), none⟩, ⟨(some 43), (.mv (.t 3)), none⟩, ⟨(some 44), (.mv (.t 0)), none⟩, ⟨(some 45), (.nck (.t 44)), none⟩, ⟨(some 46), (.fld (.t 45) 1), none⟩, ⟨(some 47), (.ld (.t 46) none), none⟩, ⟨(some 48), (.sls (.t 42) (some (.t 43)) (some (.t 47))), none⟩, ⟨(some 5), (.asg (.t 48)), none⟩]) (.seq c_addr_scanner_domain_p2 (.seq (.rg [⟨(some 61), (.mv (.t 5)), none⟩, ⟨(some 2), (.asg (.t 61)), none⟩]) .ret))))))
def m_addr_scanner_domain : ACode := (.seq (.rg [⟨(some 2), (.asg (.c (.str []))), none⟩]) (.seq (.rg [⟨(some 6), (.mv (.t 0)), none⟩, ⟨(some 7), (.nck (.t 6)), none⟩, ⟨(some 8), (.fld (.t 7) 1), none⟩, ⟨(some 9), (.ld (.t 8) none), none⟩, ⟨(some 3), (.asg (.t 9)), none⟩]) (.seq (.seq (.rg [⟨(some 10), (.mv (.t 0)), none⟩, ⟨(some 11), (.call (.c (.fn 96 [])) [(.t 10)]), none⟩, ⟨(some 4), (.asg (.t 11)), none⟩]) (.blk 0 c_addr_scanner_domain_l1)) (.seq (.rg [⟨(some 39), (.mv (.t 0)), none⟩, ⟨(some 40), (.nck (.t 39)), none⟩, ⟨(some 41), (.fld (.t 40) 0), none⟩, ⟨(some 42), (.ld (.t 41) none), none⟩, ⟨(some 43), (.mv (.t 3)), none⟩, ⟨(some 44), (.mv (.t 0)), none⟩, ⟨(some 45), (.nck (.t 44)), none⟩, ⟨(some 46), (.fld (.t 45) 1), none⟩, ⟨(some 47), (.ld (.t 46) none), none⟩, ⟨(some 48), (.sls (.t 42) (some (.t 43)) (some (.t 47))), none⟩, ⟨(some 5), (.asg (.t 48)), none⟩]) (.seq (.sem c_addr_scanner_domain_p2) (.seq (.rg [⟨(some 61), (.mv (.t 5)), none⟩, ⟨(some 2), (.asg (.t 61)), none⟩]) .ret))))))
theorem k_addr_scanner_domain : FnOk Tryd.prog 71 62 [(.tmp 2)] c_addr_scanner_domain := ⟨Tryd.f71, _, rfl, by decide, rfl, by kernel_rfl, rfl, rfl⟩
abbrev L_addr_scanner_domain : List Nat := [0, 2, 3, 4, 5, 29]
def addr_scanner_domain_p1 (c4 : UInt8) : Option (Bool) :=
  (addr_letter c4).bind fun r6 =>
  (if r6 then
    some true
  else
    (if (decide (c4 = 45)) then
      some true
    else
      (if (decide (c4 = 46)) then
        some true
      else
        (if (decide (c4 = 91)) then
          some true
        else
          some (decide (c4 = 93))))))
def addr_scanner_domain_l1  : (UInt8 × ScannerV) → Option (St ((List UInt8) × ScannerV) ScannerV (UInt8 × ScannerV))
  | (c4, s5) =>
    (addr_scanner_domain_p1 c4).bind fun t8 =>
    (if t8 then
      (addr_scanner_next_s (ScannerV.mk s5.s (IntKind.wrap .i64 (s5.at0 + 1)) s5.bad)).bind fun r9 =>
      some (.nxt (r9, (ScannerV.mk s5.s (IntKind.wrap .i64 (s5.at0 + 1)) s5.bad)))
    else
      some (.brk s5))
def addr_scanner_domain_p2 (F : Nat) (s11 : ScannerV) (x12 : List UInt8) : Option (ScannerV) :=
  (if s11.bad then
    some (ScannerV.mk s11.s s11.at0 true)
  else
    (addr_shaped F x12).bind fun r13 => some (ScannerV.mk s11.s s11.at0 (!r13)))
def addr_scanner_domain (F : Nat) (x2 : ScannerV) : Option ((List UInt8) × ScannerV) :=
  (addr_scanner_next_s x2).bind fun r3 =>
  ((iter addr_scanner_domain_l1 F (r3, x2)).bind fun o16 =>
  match o16 with
  | .inr s11 =>
    (sub s11.s x2.at0 s11.at0).bind fun x12 =>
    (addr_scanner_domain_p2 F s11 x12).bind fun s15 =>
    some (x12, s15)
  | .inl _ => none)
theorem addr_scanner_domain_p1_ok {c4 : UInt8} {q1 : Nat} {x2 : ScannerV} {s5 : ScannerV} {H0 H : AH} (hfr : Fr H0 H0.length [q1] H) (hs_o1 : H[q1]? = some [(.str s5.s), (.int .i64 s5.at0), (.bool s5.bad)]) (hi0 : q1 < H0.length) {K : Exit → Env → AH → Prop} {t7 : Bool}
    (h : addr_scanner_domain_p1 c4 = some t7)
    (kn : ∀ H' : AH, Fr H0 H0.length [q1] H' → H'[q1]? = some [(.str s5.s), (.int .i64 s5.at0), (.bool s5.bad)] → K .normal [(0, (.ptr q1 0)), (3, (.int .i64 x2.at0)), (29, (.bool t7))] H') :
    AX Tryd.prog L_addr_scanner_domain 62 H0.length c_addr_scanner_domain_p1 K [(0, (.ptr q1 0)), (3, (.int .i64 x2.at0)), (4, (b8 c4))] H := by
  refine AX.go (m := m_addr_scanner_domain_p1) rfl (by decide) fun K' hK => ?_
  have hle := hfr.le
  have hl_o1 := h_lt hs_o1
  rw [addr_scanner_domain_p1.eq_1] at h
  try simp (disch := first | assumption | omega | (simp only [h_sl, h_al] <;> omega) | fail) only [WW, WH, ↓reduceIte, nA, nB, nC, nD, nE, nF, nG, reduceCtorEq, L_addr_scanner_domain, m_addr_scanner_domain_p1, c_addr_scanner_domain_p1, hs_o1]
  obtain ⟨r6, hy2, h⟩ := bnd' h
  refine UK_e (as' := [(b8 c4)]) (h := addr_letter_ok (c1 := c4)  hy2) (hw := WL.cons (Wx.b8) (WL.nil)) (hh := WxH.refl _) ?_
  try simp (disch := first | assumption | omega | (simp only [h_sl, h_al] <;> omega) | fail) only [WW, WH, ↓reduceIte, nA, nB, nC, nD, nE, nF, nG, reduceCtorEq, L_addr_scanner_domain, hs_o1]
  rcases ifb h with ⟨hy3, h⟩ | ⟨hy3, h⟩
  · refine UG_nf hy3 ?_
    try simp (disch := first | assumption | omega | (simp only [h_sl, h_al] <;> omega) | fail) only [WW, WH, ↓reduceIte, nA, nB, nC, nD, nE, nF, nG, reduceCtorEq, L_addr_scanner_domain, hy3, hs_o1]
    have hq := Option.some.inj h; subst hq
    refine hK _ _ _ _ _ ?_ (WxH.refl _) (kn _ hfr ((hs_o1).trans rfl))
    exact WE.cons (Wx.ptr) (WE.cons (Wx.int) (WE.cons (Wx.bool) (WE.nil)))
  · refine UG_go hy3 ?_
    try simp (disch := first | assumption | omega | (simp only [h_sl, h_al] <;> omega) | fail) only [WW, WH, ↓reduceIte, nA, nB, nC, nD, nE, nF, nG, reduceCtorEq, L_addr_scanner_domain, hy3, hs_o1]
    rcases ifb h with ⟨hy4, h⟩ | ⟨hy4, h⟩
    · refine UG_nf hy4 ?_
      try simp (disch := first | assumption | omega | (simp only [h_sl, h_al] <;> omega) | fail) only [WW, WH, ↓reduceIte, nA, nB, nC, nD, nE, nF, nG, reduceCtorEq, L_addr_scanner_domain, hy4, hs_o1]
      have hq := Option.some.inj h; subst hq
      refine hK _ _ _ _ _ ?_ (WxH.refl _) (kn _ hfr ((hs_o1).trans rfl))
      exact WE.cons (Wx.ptr) (WE.cons (Wx.int) (WE.cons (Wx.bool) (WE.nil)))
    · refine UG_go hy4 ?_
      try simp (disch := first | assumption | omega | (simp only [h_sl, h_al] <;> omega) | fail) only [WW, WH, ↓reduceIte, nA, nB, nC, nD, nE, nF, nG, reduceCtorEq, L_addr_scanner_domain, hy4, hs_o1]
      rcases ifb h with ⟨hy5, h⟩ | ⟨hy5, h⟩
      · refine UG_nf hy5 ?_
        try simp (disch := first | assumption | omega | (simp only [h_sl, h_al] <;> omega) | fail) only [WW, WH, ↓reduceIte, nA, nB, nC, nD, nE, nF, nG, reduceCtorEq, L_addr_scanner_domain, hy5, hs_o1]
        have hq := Option.some.inj h; subst hq
        refine hK _ _ _ _ _ ?_ (WxH.refl _) (kn _ hfr ((hs_o1).trans rfl))
        exact WE.cons (Wx.ptr) (WE.cons (Wx.int) (WE.cons (Wx.bool) (WE.nil)))
      · refine UG_go hy5 ?_
        try simp (disch := first | assumption | omega | (simp only [h_sl, h_al] <;> omega) | fail) only [WW, WH, ↓reduceIte, nA, nB, nC, nD, nE, nF, nG, reduceCtorEq, L_addr_scanner_domain, hy5, hs_o1]
        rcases ifb h with ⟨hy6, h⟩ | ⟨hy6, h⟩
        · refine UG_nf hy6 ?_
          try simp (disch := first | assumption | omega | (simp only [h_sl, h_al] <;> omega) | fail) only [WW, WH, ↓reduceIte, nA, nB, nC, nD, nE, nF, nG, reduceCtorEq, L_addr_scanner_domain, hy6, hs_o1]
          have hq := Option.some.inj h; subst hq
          refine hK _ _ _ _ _ ?_ (WxH.refl _) (kn _ hfr ((hs_o1).trans rfl))
          exact WE.cons (Wx.ptr) (WE.cons (Wx.int) (WE.cons (Wx.bool) (WE.nil)))
        · refine UG_go hy6 ?_
          try simp (disch := first | assumption | omega | (simp only [h_sl, h_al] <;> omega) | fail) only [WW, WH, ↓reduceIte, nA, nB, nC, nD, nE, nF, nG, reduceCtorEq, L_addr_scanner_domain, hy6, hs_o1]
          have hq := Option.some.inj h; subst hq
          refine hK _ _ _ _ _ ?_ (WxH.refl _) (kn _ hfr ((hs_o1).trans rfl))
          exact WE.cons (Wx.ptr) (WE.cons (Wx.int) (WE.cons (Wx.bool) (WE.nil)))
theorem addr_scanner_domain_l1_ok {F : Nat} {c4 : UInt8} {s5 : ScannerV} {q1 : Nat} {x2 : ScannerV} {H0 H : AH} (hfr : Fr H0 H0.length [q1] H) (hs_o1 : H[q1]? = some [(.str s5.s), (.int .i64 s5.at0), (.bool s5.bad)]) (hi0 : q1 < H0.length) {K : Exit → Env → AH → Prop} {o : ((List UInt8) × ScannerV) ⊕ (ScannerV)}
    (h : iter addr_scanner_domain_l1 F (c4, s5) = some o)
    (kb0 : ∀ o' : ScannerV, o = .inr o' → ∀ H' : AH, Fr H0 H0.length [q1] H' → H'[q1]? = some [(.str o'.s), (.int .i64 o'.at0), (.bool o'.bad)] → K (.exit 0) [(0, (.ptr q1 0)), (3, (.int .i64 x2.at0))] H') :
    AX Tryd.prog L_addr_scanner_domain 62 H0.length c_addr_scanner_domain_l1 K [(0, (.ptr q1 0)), (3, (.int .i64 x2.at0)), (4, (b8 c4))] H := by
  refine AX.iter (m := m_addr_scanner_domain_l1b) rfl (by decide) (fun s e H1 => match s with | (c4, s5) => e = [(0, (.ptr q1 0)), (3, (.int .i64 x2.at0)), (4, (b8 c4))] ∧ Fr H0 H0.length [q1] H1 ∧ H1[q1]? = some [(.str s5.s), (.int .i64 s5.at0), (.bool s5.bad)]) h ⟨rfl, hfr, hs_o1⟩ ?_
  skip
  rintro K' ⟨c4, s5⟩ st e H ⟨rfl, hfr, hs_o1⟩ h hN hB hR hX
  have hle := hfr.le
  have hl_o1 := h_lt hs_o1
  rw [addr_scanner_domain_l1.eq_1] at h
  try simp (disch := first | assumption | omega | (simp only [h_sl, h_al] <;> omega) | fail) only [WW, WH, ↓reduceIte, nA, nB, nC, nD, nE, nF, nG, reduceCtorEq, L_addr_scanner_domain, m_addr_scanner_domain_l1b, hs_o1]
  obtain ⟨t8, hy7, h⟩ := bnd' h
  refine UX_of (AX.weak ?_ (WxH.refl _) (addr_scanner_domain_p1_ok  (c4 := c4) (q1 := q1) (x2 := x2) (s5 := s5) (t7 := t8)  (hfr) ((hs_o1).trans rfl) (by first | assumption | omega | (simp only [h_sl, h_al] <;> omega) | fail) hy7 ?_))
  · exact WE.cons (Wx.ptr) (WE.cons (Wx.int) (WE.cons (Wx.b8) (WE.nil)))
  intro H hfr hs_o1
  have hle := hfr.le
  have hl_o1 := h_lt hs_o1
  try simp (disch := first | assumption | omega | (simp only [h_sl, h_al] <;> omega) | fail) only [WW, WH, ↓reduceIte, nA, nB, nC, nD, nE, nF, nG, reduceCtorEq, L_addr_scanner_domain, hs_o1]
  rcases ifb h with ⟨hy8, h⟩ | ⟨hy8, h⟩
  · refine UC_t hy8 ?_
    try simp (disch := first | assumption | omega | (simp only [h_sl, h_al] <;> omega) | fail) only [WW, WH, ↓reduceIte, nA, nB, nC, nD, nE, nF, nG, reduceCtorEq, L_addr_scanner_domain, hs_o1]
    obtain ⟨r9, hy9, h⟩ := bnd' h
    refine UK_e (as' := [(.ptr q1 0)]) (h := ACalls.ofE (addr_scanner_next_s_ok (x1 := (ScannerV.mk s5.s (IntKind.wrap .i64 (s5.at0 + 1)) s5.bad)) (H0 := []) hy9) (PEL.cons (.one _ _ (PE1.ptrL (by exact ((h_eq (by first | assumption | omega | (simp only [h_sl, h_al] <;> omega) | fail)).trans rfl)) (PE1L.cons (PE1.str) (PE1L.cons (PE1.int) (PE1L.cons (PE1.bool) (PE1L.nil)))))) (PEL.nil)) (by rintro _ rfl; rfl)) (hw := WL.cons (Wx.ptr) (WL.nil)) (hh := WxH.refl _) ?_
    try simp (disch := first | assumption | omega | (simp only [h_sl, h_al] <;> omega) | fail) only [WW, WH, ↓reduceIte, nA, nB, nC, nD, nE, nF, nG, reduceCtorEq, L_addr_scanner_domain, hs_o1]
    have hq := Option.some.inj h; subst hq
    refine hN _ rfl _ _ _ _ ?_ (WxH.refl _) ⟨rfl, (Fr.set (s := q1) hfr (.inl (by simp))), ((h_eq (by first | assumption | omega | (simp only [h_sl, h_al] <;> omega) | fail)).trans rfl)⟩
    exact WE.cons (Wx.ptr) (WE.cons (Wx.int) (WE.cons (Wx.b8) (WE.nil)))
  · refine UC_f hy8 ?_
    try simp (disch := first | assumption | omega | (simp only [h_sl, h_al] <;> omega) | fail) only [WW, WH, ↓reduceIte, nA, nB, nC, nD, nE, nF, nG, reduceCtorEq, L_addr_scanner_domain, hs_o1]
    have hq := Option.some.inj h; subst hq
    refine hX _ _ _ _ _ (by simp) ?_ (WxH.refl _) (kb0 _ (hB _ rfl) _ hfr ((hs_o1).trans rfl))
    exact WE.cons (Wx.ptr) (WE.cons (Wx.int) (WE.nil))
theorem addr_scanner_domain_p2_ok {F : Nat} {s11 : ScannerV} {x12 : List UInt8} {q1 : Nat} {H0 H : AH} (hfr : Fr H0 H0.length [q1] H) (hs_o1 : H[q1]? = some [(.str s11.s), (.int .i64 s11.at0), (.bool s11.bad)]) (hi0 : q1 < H0.length) {K : Exit → Env → AH → Prop} {s14 : ScannerV}
    (h : addr_scanner_domain_p2 F s11 x12 = some s14)
    (kn : ∀ H' : AH, Fr H0 H0.length [q1] H' → H'[q1]? = some [(.str s14.s), (.int .i64 s14.at0), (.bool s14.bad)] → K .normal [(5, (.str x12))] H') :
    AX Tryd.prog L_addr_scanner_domain 62 H0.length c_addr_scanner_domain_p2 K [(0, (.ptr q1 0)), (5, (.str x12))] H := by
  refine AX.go (m := m_addr_scanner_domain_p2) rfl (by decide) fun K' hK => ?_
  have hle := hfr.le
  have hl_o1 := h_lt hs_o1
  rw [addr_scanner_domain_p2.eq_1] at h
  try simp (disch := first | assumption | omega | (simp only [h_sl, h_al] <;> omega) | fail) only [WW, WH, ↓reduceIte, nA, nB, nC, nD, nE, nF, nG, reduceCtorEq, L_addr_scanner_domain, m_addr_scanner_domain_p2, c_addr_scanner_domain_p2, hs_o1]
  rcases ifb h with ⟨hy12, h⟩ | ⟨hy12, h⟩
  · refine UG_nf hy12 ?_
    try simp (disch := first | assumption | omega | (simp only [h_sl, h_al] <;> omega) | fail) only [WW, WH, ↓reduceIte, nA, nB, nC, nD, nE, nF, nG, reduceCtorEq, L_addr_scanner_domain, hy12, hs_o1]
    have hq := Option.some.inj h; subst hq
    refine hK _ _ _ _ _ ?_ (WxH.refl _) (kn _ (Fr.set (s := q1) hfr (.inl (by simp))) ((h_eq (by first | assumption | omega | (simp only [h_sl, h_al] <;> omega) | fail)).trans rfl))
    exact WE.cons (Wx.str) (WE.nil)
  · refine UG_go hy12 ?_
    try simp (disch := first | assumption | omega | (simp only [h_sl, h_al] <;> omega) | fail) only [WW, WH, ↓reduceIte, nA, nB, nC, nD, nE, nF, nG, reduceCtorEq, L_addr_scanner_domain, hy12, hs_o1]
    obtain ⟨r13, hy13, h⟩ := bnd' h
    refine UK_e (as' := [(.str x12)]) (h := addr_shaped_ok (s1 := x12) (F := F)  hy13) (hw := WL.cons (Wx.str) (WL.nil)) (hh := WxH.refl _) ?_
    try simp (disch := first | assumption | omega | (simp only [h_sl, h_al] <;> omega) | fail) only [WW, WH, ↓reduceIte, nA, nB, nC, nD, nE, nF, nG, reduceCtorEq, L_addr_scanner_domain, hs_o1]
    have hq := Option.some.inj h; subst hq
    refine hK _ _ _ _ _ ?_ (WxH.refl _) (kn _ (Fr.set (s := q1) hfr (.inl (by simp))) ((h_eq (by first | assumption | omega | (simp only [h_sl, h_al] <;> omega) | fail)).trans rfl))
    exact WE.cons (Wx.str) (WE.nil)
theorem addr_scanner_domain_ok {F : Nat} {x2 : ScannerV} {q1 : Nat} {H0 : AH} (hs_o1 : H0[q1]? = some [(.str x2.s), (.int .i64 x2.at0), (.bool x2.bad)]) {rz0 : List UInt8} {rz1 : ScannerV} (h : addr_scanner_domain F x2 = some (rz0, rz1)) :
    ACalls Tryd.prog 71 [(.ptr q1 0)] H0 fun v H' => v = (.str rz0) ∧ H' = (H0.set q1 [(.str rz1.s), (.int .i64 rz1.at0), (.bool rz1.bad)]) := by
  refine ACalls.goX k_addr_scanner_domain (m := m_addr_scanner_domain) rfl L_addr_scanner_domain (by decide) (by simp) fun hcl K0 hK0 => ?_
  refine AX.of_U (m := m_addr_scanner_domain) rfl (by decide) ?_
  have hl_o1 := h_lt hs_o1
  have hfr := Fr.refl H0 [q1]
  have hle := hfr.le
  rw [addr_scanner_domain.eq_1] at h
  obtain ⟨H, hHH⟩ : ∃ H, H = H0 := ⟨_, rfl⟩
  have hfr : Fr H0 H0.length [q1] H := hHH ▸ hfr
  have hs_o1 : H[q1]? = some [(.str x2.s), (.int .i64 x2.at0), (.bool x2.bad)] := hHH ▸ hs_o1
  have hle := hfr.le
  have hL_o1 : q1 < H.length := h_lt hs_o1
  suffices hU : U Tryd.prog L_addr_scanner_domain 62 H0.length [.code m_addr_scanner_domain] K0 .normal (argE 0 [(.ptr q1 0)]) H by rwa [hHH] at hU
  try simp (disch := first | assumption | omega | (simp only [h_sl, h_al] <;> omega) | fail) only [WW, WH, ↓reduceIte, nA, nB, nC, nD, nE, nF, nG, reduceCtorEq, L_addr_scanner_domain, m_addr_scanner_domain, hs_o1]
  obtain ⟨r3, hy1, h⟩ := bnd' h
  refine UK_e (as' := [(.ptr q1 0)]) (h := ACalls.ofE (addr_scanner_next_s_ok (x1 := x2) (H0 := []) hy1) (PEL.cons (.one _ _ (PE1.ptrL (by exact ((hs_o1).trans rfl)) (PE1L.cons (PE1.str) (PE1L.cons (PE1.int) (PE1L.cons (PE1.bool) (PE1L.nil)))))) (PEL.nil)) (by rintro _ rfl; rfl)) (hw := WL.cons (Wx.ptr) (WL.nil)) (hh := WxH.refl _) ?_
  try simp (disch := first | assumption | omega | (simp only [h_sl, h_al] <;> omega) | fail) only [WW, WH, ↓reduceIte, nA, nB, nC, nD, nE, nF, nG, reduceCtorEq, L_addr_scanner_domain, hs_o1]
  obtain ⟨o16, hy10, h⟩ := bnd' h
  refine UX_of (AX.weak ?_ (WxH.refl _) (addr_scanner_domain_l1_ok  (q1 := q1) (x2 := x2) (c4 := r3) (s5 := x2)  (hfr) ((hs_o1).trans rfl) (by first | assumption | omega | (simp only [h_sl, h_al] <;> omega) | fail) (o := o16) hy10 ?_))
  · exact WE.cons (Wx.ptr) (WE.cons (Wx.int) (WE.cons (Wx.b8) (WE.nil)))
  · rintro s11 rfl H hfr hs_o1
    try dsimp only at h hs_o1
    have hle := hfr.le
    have hl_o1 := h_lt hs_o1
    obtain ⟨x12, hy11, h⟩ := bnd' h
    try simp (disch := first | assumption | omega | (simp only [h_sl, h_al] <;> omega) | fail) only [WW, WH, ↓reduceIte, nA, nB, nC, nD, nE, nF, nG, reduceCtorEq, L_addr_scanner_domain, hy11, hs_o1]
    obtain ⟨s15, hy14, h⟩ := bnd' h
    refine UX_of (AX.weak ?_ (WxH.refl _) (addr_scanner_domain_p2_ok (F := F) (s11 := s11) (x12 := x12) (q1 := q1) (s14 := s15)  (hfr) ((hs_o1).trans rfl) (by first | assumption | omega | (simp only [h_sl, h_al] <;> omega) | fail) hy14 ?_))
    · exact WE.cons (Wx.ptr) (WE.cons (Wx.str) (WE.nil))
    intro H hfr hs_o1
    have hle := hfr.le
    have hl_o1 := h_lt hs_o1
    try simp (disch := first | assumption | omega | (simp only [h_sl, h_al] <;> omega) | fail) only [WW, WH, ↓reduceIte, nA, nB, nC, nD, nE, nF, nG, reduceCtorEq, L_addr_scanner_domain, hs_o1]
    have hq := Option.some.inj h; have hq0 := (Prod.mk.inj hq).1; replace hq := (Prod.mk.inj hq).2; subst hq0; subst hq
    refine hK0 _ _ _ (.inr rfl) ?_
    exact fn_end1 (by exact hfr) hcl (resv_tmp (a := (.str x12)) rfl rfl resv_nil) (by first | (simp [fin, b_df, b_sh, b_sh1, b_Cl]; done) | (simp [fin, AV.df, AV.sh, AV.sh1, b_df, b_sh, b_sh1, b_Cl]; done)) (Wx.str) (by exact ((hs_o1).trans rfl)) (by first | assumption | omega | (simp only [h_sl, h_al] <;> omega) | fail) (by simp [b_Cl]; try omega) (WxC.cons (Wx.str) (WxC.cons (Wx.int) (WxC.cons (Wx.bool) (WxC.nil)))) (r' := (.str x12)) ⟨rfl, rfl⟩

/-! ### (*mailbag/addr.scanner).route -/
def c_addr_scanner_route_p1 : ACode := (.rg [⟨(some 3), (.mv (.t 0)), none⟩, ⟨(some 4), (.call (.c (.fn 96 [])) [(.t 3)]), none⟩, ⟨(some 5), (.bin .eql (.t 4) (.c (b8 64))), none⟩, ⟨(some 6), (.mv (.t 5)), none⟩, ⟨(some 7), (.mv (.t 2)), (some (6, false))⟩, ⟨(some 8), (.un .not (.t 7)), (some (6, false))⟩, ⟨(some 9), (.pick (.t 6) (.c (.bool true)) (.t 8)), none⟩])
abbrev m_addr_scanner_route_p1 := c_addr_scanner_route_p1
def c_addr_scanner_route_l1b : ACode := (.seq (.seq c_addr_scanner_route_p1 (.cond (.t 9) .skip (.exit 0))) (.seq (.blk 1 (.seq (.rg [⟨(some 10), (.mv (.t 0)), none⟩, ⟨(some 11), (.call (.c (.fn 67 [])) [(.t 10), (.c (b8 64))]), none⟩]) (.seq (.rg [⟨(some 12), (.mv (.t 0)), none⟩, ⟨(some 13), (.call (.c (.fn 71 [])) [(.t 12)]), none⟩]) (.seq (.rg [⟨(some 14), (.mv (.t 0)), none⟩, ⟨(some 15), (.call (.c (.fn 68 [])) [(.t 14), (.c (b8 44))]), none⟩, ⟨(some 16), (.un .not (.t 15)), none⟩]) (.cond (.t 16) (.seq (.rg [⟨(some 17), (.mv (.t 0)), none⟩, ⟨(some 18), (.call (.c (.fn 67 [])) [(.t 17), (.c (b8 58))]), none⟩]) .ret) .skip))))) (.rg [⟨(some 2), (.asg (.c (.bool false))), none⟩])))
def c_addr_scanner_route_l1 : ACode := (.loop c_addr_scanner_route_l1b)
def m_addr_scanner_route_l1b : ACode := (.seq (.seq (.sem c_addr_scanner_route_p1) (.cond (.t 9) .skip (.exit 0))) (.seq (.blk 1 (.seq (.rg [⟨(some 10), (.mv (.t 0)), none⟩, ⟨(some 11), (.call (.c (.fn 67 [])) [(.t 10), (.c (b8 64))]), none⟩]) (.seq (.rg [⟨(some 12), (.mv (.t 0)), none⟩, ⟨(some 13), (.call (.c (.fn 71 [])) [(.t 12)]), none⟩]) (.seq (.rg [⟨(some 14), (.mv (.t 0)), none⟩, ⟨(some 15), (.call (.c (.fn 68 [])) [(.t 14), (.c (b8 44))]), none⟩, ⟨(some 16), (.un .not (.t 15)), none⟩]) (.cond (.t 16) (.seq (.rg [⟨(some 17), (.mv (.t 0)), none⟩, ⟨(some 18), (.call (.c (.fn 67 [])) [(.t 17), (.c (b8 58))]), none⟩]) .ret) .skip))))) (.rg [⟨(some 2), (.asg (.c (.bool false))), none⟩])))
def c_addr_scanner_route : ACode := (.seq (.rg [⟨(some 2), (.asg (.c (.bool true))), none⟩]) (.blk 0 c_addr_scanner_route_l1))
abbrev m_addr_scanner_route := c_addr_scanner_route
theorem k_addr_scanner_route : FnOk Tryd.prog 69 19 [] c_addr_scanner_route := ⟨Tryd.f69, _, rfl, by decide, rfl, by kernel_rfl, rfl, rfl⟩
abbrev L_addr_scanner_route : List Nat := [0, 2, 9, 16]
def addr_scanner_route_p1 (s4 : ScannerV) (first3 : Bool) : Option (Bool) :=
  (addr_scanner_next_s s4).bind fun r5 =>
  (if (decide (r5 = 64)) then
    some true
  else
    some (!first3))
def addr_scanner_route_l1 (F : Nat)  : (Bool × ScannerV) → Option (St ScannerV ScannerV (Bool × ScannerV))
  | (first3, s4) =>
    (addr_scanner_route_p1 s4 first3).bind fun t7 =>
    (if t7 then
      (addr_scanner_want s4 64).bind fun r8 =>
      (addr_scanner_domain F r8).bind fun (r9, r10) =>
      (addr_scanner_takes r10 44).bind fun (r11, r12) =>
      (if (!r11) then
        (addr_scanner_want r12 58).bind fun r13 => some (.ret r13)
      else
        some (.nxt (false, r12)))
    else
      some (.brk s4))
def addr_scanner_route (F : Nat) (x2 : ScannerV) : Option (ScannerV) :=
  ((iter (addr_scanner_route_l1 F) F (true, x2)).bind fun o18 =>
  match o18 with
  | .inr s16 =>
    some s16
  | .inl s17 =>
    some s17)
theorem addr_scanner_route_p1_ok {s4 : ScannerV} {first3 : Bool} {q1 : Nat} {H0 H : AH} (hfr : Fr H0 H0.length [q1] H) (hs_o1 : H[q1]? = some [(.str s4.s), (.int .i64 s4.at0), (.bool s4.bad)]) (hi0 : q1 < H0.length) {K : Exit → Env → AH → Prop} {t6 : Bool}
    (h : addr_scanner_route_p1 s4 first3 = some t6)
    (kn : ∀ H' : AH, Fr H0 H0.length [q1] H' → H'[q1]? = some [(.str s4.s), (.int .i64 s4.at0), (.bool s4.bad)] → K .normal [(0, (.ptr q1 0)), (9, (.bool t6))] H') :
    AX Tryd.prog L_addr_scanner_route 19 H0.length c_addr_scanner_route_p1 K [(0, (.ptr q1 0)), (2, (.bool first3))] H := by
  refine AX.go (m := m_addr_scanner_route_p1) rfl (by decide) fun K' hK => ?_
  have hle := hfr.le
  have hl_o1 := h_lt hs_o1
  rw [addr_scanner_route_p1.eq_1] at h
  try simp (disch := first | assumption | omega | (simp only [h_sl, h_al] <;> omega) | fail) only [WW, WH, ↓reduceIte, nA, nB, nC, nD, nE, nF, nG, reduceCtorEq, L_addr_scanner_route, m_addr_scanner_route_p1, c_addr_scanner_route_p1, hs_o1]
  obtain ⟨r5, hy1, h⟩ := bnd' h
  refine UK_e (as' := [(.ptr q1 0)]) (h := ACalls.ofE (addr_scanner_next_s_ok (x1 := s4) (H0 := []) hy1) (PEL.cons (.one _ _ (PE1.ptrL (by exact ((hs_o1).trans rfl)) (PE1L.cons (PE1.str) (PE1L.cons (PE1.int) (PE1L.cons (PE1.bool) (PE1L.nil)))))) (PEL.nil)) (by rintro _ rfl; rfl)) (hw := WL.cons (Wx.ptr) (WL.nil)) (hh := WxH.refl _) ?_
  try simp (disch := first | assumption | omega | (simp only [h_sl, h_al] <;> omega) | fail) only [WW, WH, ↓reduceIte, nA, nB, nC, nD, nE, nF, nG, reduceCtorEq, L_addr_scanner_route, hs_o1]
  rcases ifb h with ⟨hy2, h⟩ | ⟨hy2, h⟩
  · refine UG_nf hy2 ?_
    try simp (disch := first | assumption | omega | (simp only [h_sl, h_al] <;> omega) | fail) only [WW, WH, ↓reduceIte, nA, nB, nC, nD, nE, nF, nG, reduceCtorEq, L_addr_scanner_route, hy2, hs_o1]
    have hq := Option.some.inj h; subst hq
    refine hK _ _ _ _ _ ?_ (WxH.refl _) (kn _ hfr ((hs_o1).trans rfl))
    exact WE.cons (Wx.ptr) (WE.cons (Wx.bool) (WE.nil))
  · refine UG_go hy2 ?_
    try simp (disch := first | assumption | omega | (simp only [h_sl, h_al] <;> omega) | fail) only [WW, WH, ↓reduceIte, nA, nB, nC, nD, nE, nF, nG, reduceCtorEq, L_addr_scanner_route, hy2, hs_o1]
    have hq := Option.some.inj h; subst hq
    refine hK _ _ _ _ _ ?_ (WxH.refl _) (kn _ hfr ((hs_o1).trans rfl))
    exact WE.cons (Wx.ptr) (WE.cons (Wx.bool) (WE.nil))
theorem addr_scanner_route_l1_ok {F : Nat} {s4 : ScannerV} {first3 : Bool} {q1 : Nat} {H0 H : AH} (hfr : Fr H0 H0.length [q1] H) (hs_o1 : H[q1]? = some [(.str s4.s), (.int .i64 s4.at0), (.bool s4.bad)]) (hi0 : q1 < H0.length) {K : Exit → Env → AH → Prop} {o : (ScannerV) ⊕ (ScannerV)}
    (h : iter (addr_scanner_route_l1 F) F (first3, s4) = some o)
    (kb0 : ∀ o' : ScannerV, o = .inr o' → ∀ H' : AH, Fr H0 H0.length [q1] H' → H'[q1]? = some [(.str o'.s), (.int .i64 o'.at0), (.bool o'.bad)] → K (.exit 0) [] H')
    (kr : ∀ o' : ScannerV, o = .inl o' → ∀ H' : AH, Fr H0 H0.length [q1] H' → H'[q1]? = some [(.str o'.s), (.int .i64 o'.at0), (.bool o'.bad)] → K .ret [] H') :
    AX Tryd.prog L_addr_scanner_route 19 H0.length c_addr_scanner_route_l1 K [(0, (.ptr q1 0)), (2, (.bool first3))] H := by
  refine AX.iter (m := m_addr_scanner_route_l1b) rfl (by decide) (fun s e H1 => match s with | (first3, s4) => e = [(0, (.ptr q1 0)), (2, (.bool first3))] ∧ Fr H0 H0.length [q1] H1 ∧ H1[q1]? = some [(.str s4.s), (.int .i64 s4.at0), (.bool s4.bad)]) h ⟨rfl, hfr, hs_o1⟩ ?_
  skip
  rintro K' ⟨first3, s4⟩ st e H ⟨rfl, hfr, hs_o1⟩ h hN hB hR hX
  have hle := hfr.le
  have hl_o1 := h_lt hs_o1
  rw [addr_scanner_route_l1.eq_1] at h
  try simp (disch := first | assumption | omega | (simp only [h_sl, h_al] <;> omega) | fail) only [WW, WH, ↓reduceIte, nA, nB, nC, nD, nE, nF, nG, reduceCtorEq, L_addr_scanner_route, m_addr_scanner_route_l1b, hs_o1]
  obtain ⟨t7, hy3, h⟩ := bnd' h
  refine UX_of (AX.weak ?_ (WxH.refl _) (addr_scanner_route_p1_ok  (s4 := s4) (first3 := first3) (q1 := q1) (t6 := t7)  (hfr) ((hs_o1).trans rfl) (by first | assumption | omega | (simp only [h_sl, h_al] <;> omega) | fail) hy3 ?_))
  · exact WE.cons (Wx.ptr) (WE.cons (Wx.bool) (WE.nil))
  intro H hfr hs_o1
  have hle := hfr.le
  have hl_o1 := h_lt hs_o1
  try simp (disch := first | assumption | omega | (simp only [h_sl, h_al] <;> omega) | fail) only [WW, WH, ↓reduceIte, nA, nB, nC, nD, nE, nF, nG, reduceCtorEq, L_addr_scanner_route, hs_o1]
  rcases ifb h with ⟨hy4, h⟩ | ⟨hy4, h⟩
  · refine UC_t hy4 ?_
    try simp (disch := first | assumption | omega | (simp only [h_sl, h_al] <;> omega) | fail) only [WW, WH, ↓reduceIte, nA, nB, nC, nD, nE, nF, nG, reduceCtorEq, L_addr_scanner_route, hs_o1]
    obtain ⟨r8, hy5, h⟩ := bnd' h
    refine UK_e (as' := [(.ptr q1 0), (b8 64)]) (h := addr_scanner_want_ok (x2 := s4) (c3 := 64) (q1 := q1) (by exact ((hs_o1).trans rfl)) hy5) (hw := WL.cons (Wx.ptr) (WL.cons (Wx.b8) (WL.nil))) (hh := WxH.refl _) ?_
    try simp (disch := first | assumption | omega | (simp only [h_sl, h_al] <;> omega) | fail) only [WW, WH, ↓reduceIte, nA, nB, nC, nD, nE, nF, nG, reduceCtorEq, L_addr_scanner_route, hs_o1]
    obtain ⟨⟨r9, r10⟩, hy6, h⟩ := bnd' h
    dsimp only at h
    refine UK_e (as' := [(.ptr q1 0)]) (h := addr_scanner_domain_ok (x2 := r8) (q1 := q1) (F := F) (by exact ((h_eq (by first | assumption | omega | (simp only [h_sl, h_al] <;> omega) | fail)).trans rfl)) hy6) (hw := WL.cons (Wx.ptr) (WL.nil)) (hh := WxH.refl _) ?_
    try simp (disch := first | assumption | omega | (simp only [h_sl, h_al] <;> omega) | fail) only [WW, WH, ↓reduceIte, nA, nB, nC, nD, nE, nF, nG, reduceCtorEq, L_addr_scanner_route, hs_o1]
    obtain ⟨⟨r11, r12⟩, hy7, h⟩ := bnd' h
    dsimp only at h
    refine UK_e (as' := [(.ptr q1 0), (b8 44)]) (h := addr_scanner_takes_ok (x2 := r10) (c3 := 44) (q1 := q1) (by exact ((h_eq (by first | assumption | omega | (simp only [h_sl, h_al] <;> omega) | fail)).trans rfl)) hy7) (hw := WL.cons (Wx.ptr) (WL.cons (Wx.b8) (WL.nil))) (hh := WxH.refl _) ?_
    try simp (disch := first | assumption | omega | (simp only [h_sl, h_al] <;> omega) | fail) only [WW, WH, ↓reduceIte, nA, nB, nC, nD, nE, nF, nG, reduceCtorEq, L_addr_scanner_route, hs_o1]
    rcases ifb h with ⟨hy8, h⟩ | ⟨hy8, h⟩
    · refine UC_t hy8 ?_
      try simp (disch := first | assumption | omega | (simp only [h_sl, h_al] <;> omega) | fail) only [WW, WH, ↓reduceIte, nA, nB, nC, nD, nE, nF, nG, reduceCtorEq, L_addr_scanner_route, hs_o1]
      obtain ⟨r13, hy9, h⟩ := bnd' h
      refine UK_e (as' := [(.ptr q1 0), (b8 58)]) (h := addr_scanner_want_ok (x2 := r12) (c3 := 58) (q1 := q1) (by exact ((h_eq (by first | assumption | omega | (simp only [h_sl, h_al] <;> omega) | fail)).trans rfl)) hy9) (hw := WL.cons (Wx.ptr) (WL.cons (Wx.b8) (WL.nil))) (hh := WxH.refl _) ?_
      try simp (disch := first | assumption | omega | (simp only [h_sl, h_al] <;> omega) | fail) only [WW, WH, ↓reduceIte, nA, nB, nC, nD, nE, nF, nG, reduceCtorEq, L_addr_scanner_route, hs_o1]
      have hq := Option.some.inj h; subst hq
      refine hX _ _ _ _ _ (by simp) ?_ (WxH.refl _) (kr _ (hR _ rfl) _ (Fr.set (s := q1) (Fr.set (s := q1) (Fr.set (s := q1) (Fr.set (s := q1) hfr (.inl (by simp))) (.inl (by simp))) (.inl (by simp))) (.inl (by simp))) ((h_eq (by first | assumption | omega | (simp only [h_sl, h_al] <;> omega) | fail)).trans rfl))
      exact WE.nil
    · refine UC_f hy8 ?_
      try simp (disch := first | assumption | omega | (simp only [h_sl, h_al] <;> omega) | fail) only [WW, WH, ↓reduceIte, nA, nB, nC, nD, nE, nF, nG, reduceCtorEq, L_addr_scanner_route, hs_o1]
      have hq := Option.some.inj h; subst hq
      refine hN _ rfl _ _ _ _ ?_ (WxH.refl _) ⟨rfl, (Fr.set (s := q1) (Fr.set (s := q1) (Fr.set (s := q1) hfr (.inl (by simp))) (.inl (by simp))) (.inl (by simp))), ((h_eq (by first | assumption | omega | (simp only [h_sl, h_al] <;> omega) | fail)).trans rfl)⟩
      exact WE.cons (Wx.ptr) (WE.cons (Wx.bool) (WE.nil))
  · refine UC_f hy4 ?_
    try simp (disch := first | assumption | omega | (simp only [h_sl, h_al] <;> omega) | fail) only [WW, WH, ↓reduceIte, nA, nB, nC, nD, nE, nF, nG, reduceCtorEq, L_addr_scanner_route, hs_o1]
    have hq := Option.some.inj h; subst hq
    refine hX _ _ _ _ _ (by simp) ?_ (WxH.refl _) (kb0 _ (hB _ rfl) _ hfr ((hs_o1).trans rfl))
    exact WE.nil
theorem addr_scanner_route_ok {F : Nat} {x2 : ScannerV} {q1 : Nat} {H0 : AH} (hs_o1 : H0[q1]? = some [(.str x2.s), (.int .i64 x2.at0), (.bool x2.bad)]) {rz0 : ScannerV} (h : addr_scanner_route F x2 = some rz0) :
    ACalls Tryd.prog 69 [(.ptr q1 0)] H0 fun v H' => v = (.tup []) ∧ H' = (H0.set q1 [(.str rz0.s), (.int .i64 rz0.at0), (.bool rz0.bad)]) := by
  refine ACalls.goX k_addr_scanner_route (m := m_addr_scanner_route) rfl L_addr_scanner_route (by decide) (by simp) fun hcl K0 hK0 => ?_
  refine AX.of_U (m := m_addr_scanner_route) rfl (by decide) ?_
  have hl_o1 := h_lt hs_o1
  have hfr := Fr.refl H0 [q1]
  have hle := hfr.le
  rw [addr_scanner_route.eq_1] at h
  obtain ⟨H, hHH⟩ : ∃ H, H = H0 := ⟨_, rfl⟩
  have hfr : Fr H0 H0.length [q1] H := hHH ▸ hfr
  have hs_o1 : H[q1]? = some [(.str x2.s), (.int .i64 x2.at0), (.bool x2.bad)] := hHH ▸ hs_o1
  have hle := hfr.le
  have hL_o1 : q1 < H.length := h_lt hs_o1
  suffices hU : U Tryd.prog L_addr_scanner_route 19 H0.length [.code m_addr_scanner_route] K0 .normal (argE 0 [(.ptr q1 0)]) H by rwa [hHH] at hU
  try simp (disch := first | assumption | omega | (simp only [h_sl, h_al] <;> omega) | fail) only [WW, WH, ↓reduceIte, nA, nB, nC, nD, nE, nF, nG, reduceCtorEq, L_addr_scanner_route, m_addr_scanner_route, c_addr_scanner_route, hs_o1]
  obtain ⟨o18, hy10, h⟩ := bnd' h
  refine UX_of (AX.weak ?_ (WxH.refl _) (addr_scanner_route_l1_ok  (q1 := q1) (first3 := true) (s4 := x2)  (hfr) ((hs_o1).trans rfl) (by first | assumption | omega | (simp only [h_sl, h_al] <;> omega) | fail) (o := o18) hy10 ?_ ?_))
  · exact WE.cons (Wx.ptr) (WE.cons (Wx.bool) (WE.nil))
  · rintro s16 rfl H hfr hs_o1
    try dsimp only at h hs_o1
    have hle := hfr.le
    have hl_o1 := h_lt hs_o1
    try simp (disch := first | assumption | omega | (simp only [h_sl, h_al] <;> omega) | fail) only [WW, WH, ↓reduceIte, nA, nB, nC, nD, nE, nF, nG, reduceCtorEq, L_addr_scanner_route, hs_o1]
    have hq := Option.some.inj h; subst hq
    refine hK0 _ _ _ (.inl rfl) ?_
    exact fn_end1 (by exact hfr) hcl resv_nil (by first | (simp [fin, b_df, b_sh, b_sh1, b_Cl]; done) | (simp [fin, AV.df, AV.sh, AV.sh1, b_df, b_sh, b_sh1, b_Cl]; done)) (Wx.tupX (W2L.nil)) (by exact ((hs_o1).trans rfl)) (by first | assumption | omega | (simp only [h_sl, h_al] <;> omega) | fail) (by simp [b_Cl]; try omega) (WxC.cons (Wx.str) (WxC.cons (Wx.int) (WxC.cons (Wx.bool) (WxC.nil)))) (r' := (.tup [])) ⟨rfl, rfl⟩
  · rintro s17 rfl H hfr hs_o1
    try dsimp only at h hs_o1
    have hle := hfr.le
    have hl_o1 := h_lt hs_o1
    try simp (disch := first | assumption | omega | (simp only [h_sl, h_al] <;> omega) | fail) only [WW, WH, ↓reduceIte, nA, nB, nC, nD, nE, nF, nG, reduceCtorEq, L_addr_scanner_route, hs_o1]
    have hq := Option.some.inj h; subst hq
    refine hK0 _ _ _ (.inr rfl) ?_
    exact fn_end1 (by exact hfr) hcl resv_nil (by first | (simp [fin, b_df, b_sh, b_sh1, b_Cl]; done) | (simp [fin, AV.df, AV.sh, AV.sh1, b_df, b_sh, b_sh1, b_Cl]; done)) (Wx.tupX (W2L.nil)) (by exact ((hs_o1).trans rfl)) (by first | assumption | omega | (simp only [h_sl, h_al] <;> omega) | fail) (by simp [b_Cl]; try omega) (WxC.cons (Wx.str) (WxC.cons (Wx.int) (WxC.cons (Wx.bool) (WxC.nil)))) (r' := (.tup [])) ⟨rfl, rfl⟩

/-! ### mailbag/addr.visible -/
def c_addr_visible_p1 : ACode := (.rg [⟨(some 3), (.mv (.t 0)), none⟩, ⟨(some 4), (.bin .geq (.t 3) (.c (b8 32))), none⟩, ⟨(some 5), (.mv (.t 4)), none⟩, ⟨(some 6), (.mv (.t 0)), (some (5, true))⟩, ⟨(some 7), (.bin .leq (.t 6) (.c (b8 126))), (some (5, true))⟩, ⟨(some 8), (.pick (.t 5) (.t 7) (.c (.bool false))), none⟩, ⟨(some 2), (.asg (.t 8)), none⟩])
abbrev m_addr_visible_p1 := c_addr_visible_p1
def c_addr_visible : ACode := (.seq (.rg [⟨(some 2), (.asg (.c (.bool false))), none⟩]) (.seq c_addr_visible_p1 .ret))
def m_addr_visible : ACode := (.seq (.rg [⟨(some 2), (.asg (.c (.bool false))), none⟩]) (.seq (.sem c_addr_visible_p1) .ret))
theorem k_addr_visible : FnOk Tryd.prog 83 9 [(.tmp 2)] c_addr_visible := ⟨Tryd.f83, _, rfl, by decide, rfl, by kernel_rfl, rfl, rfl⟩
abbrev L_addr_visible : List Nat := [0, 2]
def addr_visible (c1 : UInt8) : Option (Bool) :=
  some ((decide (32 ≤ c1)) && (decide (c1 ≤ 126)))
theorem addr_visible_p1_ok {c1 : UInt8} {H : AH}  {K : Exit → Env → AH → Prop}
    (kn : K .normal [(2, (.bool ((decide (32 ≤ c1)) && (decide (c1 ≤ 126)))))] H) :
    AX Tryd.prog L_addr_visible 9 H.length c_addr_visible_p1 K [(0, (b8 c1)), (2, (.bool false))] H := by
  refine AX.go (m := m_addr_visible_p1) rfl (by decide) fun K' hK => ?_
  try simp only [WW, ↓reduceIte, nA, nB, nC, nD, nE, nF, nG, reduceCtorEq, L_addr_visible, m_addr_visible_p1, c_addr_visible_p1]
  rcases bcases ((decide (32 ≤ c1))) with hy1 | hy1
  · refine UG_go hy1 ?_
    try simp only [WW, ↓reduceIte, nA, nB, nC, nD, nE, nF, nG, reduceCtorEq, L_addr_visible, hy1]
    refine hK _ _ _ _ _ ?_ (WxH.refl _) (kn )
    exact WE.cons (Wx.boolE (by simp only [hy1, WB])) (WE.nil)
  · refine UG_nt hy1 ?_
    try simp only [WW, ↓reduceIte, nA, nB, nC, nD, nE, nF, nG, reduceCtorEq, L_addr_visible, hy1]
    refine hK _ _ _ _ _ ?_ (WxH.refl _) (kn )
    exact WE.cons (Wx.boolE (by simp only [hy1, WB])) (WE.nil)
theorem addr_visible_ok {c1 : UInt8}  {H0 : AH}  {rz0 : Bool} (h : addr_visible c1 = some rz0) :
    ACalls Tryd.prog 83 [(b8 c1)] H0 fun v H' => v = (.bool rz0) ∧ H' = H0 := by
  refine ACalls.goX k_addr_visible (m := m_addr_visible) rfl L_addr_visible (by decide) (by simp) fun hcl K0 hK0 => ?_
  refine AX.of_U (m := m_addr_visible) rfl (by decide) ?_
  rw [addr_visible.eq_1] at h
  try simp only [WW, ↓reduceIte, nA, nB, nC, nD, nE, nF, nG, reduceCtorEq, L_addr_visible, m_addr_visible]
  refine UX_of (AX.weak ?_ (WxH.refl _) (addr_visible_p1_ok (c1 := c1)  ?_))
  · exact WE.cons (Wx.b8) (WE.cons (Wx.bool) (WE.nil))
  try simp only [WW, ↓reduceIte, nA, nB, nC, nD, nE, nF, nG, reduceCtorEq, L_addr_visible]
  have hq := Option.some.inj h; subst hq
  refine hK0 _ _ _ (.inr rfl) ?_
  exact fn_endp hcl (resv_tmp (a := (.bool ((decide (32 ≤ c1)) && (decide (c1 ≤ 126))))) rfl rfl resv_nil) (by first | (simp [fin, b_df, b_sh, b_sh1, b_Cl]; done) | (simp [fin, AV.df, AV.sh, AV.sh1, b_df, b_sh, b_sh1, b_Cl]; done)) (Wx.bool) (r' := (.bool ((decide (32 ≤ c1)) && (decide (c1 ≤ 126))))) ⟨rfl, rfl⟩

/-! ### (*mailbag/addr.scanner).quoted -/
def c_addr_scanner_quoted_p1 : ACode := (.rg [⟨(some 7), (.mv (.t 0)), none⟩, ⟨(some 8), (.nck (.t 7)), none⟩, ⟨(some 9), (.fld (.t 8) 2), none⟩, ⟨(some 10), (.ld (.t 9) none), none⟩, ⟨(some 11), (.un .not (.t 10)), none⟩, ⟨(some 12), (.mv (.t 11)), none⟩, ⟨(some 13), (.mv (.t 0)), (some (12, true))⟩, ⟨(some 14), (.call (.c (.fn 68 [])) [(.t 13), (.c (b8 34))]), (some (12, true))⟩, ⟨(some 15), (.un .not (.t 14)), (some (12, true))⟩, ⟨(some 16), (.pick (.t 12) (.t 15) (.c (.bool false))), none⟩])
abbrev m_addr_scanner_quoted_p1 := c_addr_scanner_quoted_p1
def c_addr_scanner_quoted_l1b : ACode := (.seq (.seq c_addr_scanner_quoted_p1 (.cond (.t 16) .skip (.exit 0))) (.blk 1 (.seq (.rg [⟨(some 17), (.mv (.t 0)), none⟩, ⟨(some 18), (.call (.c (.fn 68 [])) [(.t 17), (.c (b8 92))]), none⟩]) (.seq (.rg [⟨(some 19), (.mv (.t 0)), none⟩, ⟨(some 20), (.call (.c (.fn 96 [])) [(.t 19)]), none⟩, ⟨(some 4), (.asg (.t 20)), none⟩]) (.seq (.seq (.rg [⟨(some 21), (.mv (.t 4)), none⟩, ⟨(some 22), (.call (.c (.fn 83 [])) [(.t 21)]), none⟩, ⟨(some 23), (.un .not (.t 22)), none⟩]) (.cond (.t 23) (.seq (.rg [⟨(some 24), (.mv (.t 0)), none⟩, ⟨(some 25), (.nck (.t 24)), none⟩, ⟨(some 26), (.fld (.t 25) 2), none⟩, ⟨none, (.st (.t 26) (.c (.bool true)) 1), none⟩]) (.exit 0)) .skip)) (.seq (.rg [⟨(some 27), (.mv (.t 0)), none⟩, ⟨(some 28), (.nck (.t 27)), none⟩, ⟨(some 29), (.fld (.t 28) 1), none⟩, ⟨(some 30), (.ld (.t 29) none), none⟩, ⟨(some 31), (.bin .add (.t 30) (.c (.int .i64 1))), none⟩, ⟨(some 32), (.nck (.t 27)), none⟩, ⟨(some 33), (.fld (.t 32) 1), none⟩, ⟨none, (.st (.t 33) (.t 31) 1), none⟩]) (.rg [⟨(some 34), (.mv (.t 3)), none⟩, ⟨(some 35), (.mv (.t 4)), none⟩, ⟨(some 36), (.bsl 1 [(.t 35)]), none⟩, ⟨(some 37), (.app 1 1 (.t 34) (.t 36)), none⟩, ⟨(some 3), (.asg (.t 37)), none⟩])))))))
def c_addr_scanner_quoted_l1 : ACode := (.loop c_addr_scanner_quoted_l1b)
def m_addr_scanner_quoted_l1b : ACode := (.seq (.seq (.sem c_addr_scanner_quoted_p1) (.cond (.t 16) .skip (.exit 0))) (.blk 1 (.seq (.rg [⟨(some 17), (.mv (.t 0)), none⟩, ⟨(some 18), (.call (.c (.fn 68 [])) [(.t 17), (.c (b8 92))]), none⟩]) (.seq (.rg [⟨(some 19), (.mv (.t 0)), none⟩, ⟨(some 20), (.call (.c (.fn 96 [])) [(.t 19)]), none⟩, ⟨(some 4), (.asg (.t 20)), none⟩]) (.seq (.seq (.rg [⟨(some 21), (.mv (.t 4)), none⟩, ⟨(some 22), (.call (.c (.fn 83 [])) [(.t 21)]), none⟩, ⟨(some 23), (.un .not (.t 22)), none⟩]) (.cond (.t 23) (.seq (.rg [⟨(some 24), (.mv (.t 0)), none⟩, ⟨(some 25), (.nck (.t 24)), none⟩, ⟨(some 26), (.fld (.t 25) 2), none⟩, ⟨none, (.st (.t 26) (.c (.bool true)) 1), none⟩]) (.exit 0)) .skip)) (.seq (.rg [⟨(some 27), (.mv (.t 0)), none⟩, ⟨(some 28), (.nck (.t 27)), none⟩, ⟨(some 29), (.fld (.t 28) 1), none⟩, ⟨(some 30), (.ld (.t 29) none), none⟩, ⟨(some 31), (.bin .add (.t 30) (.c (.int .i64 1))), none⟩, ⟨(some 32), (.nck (.t 27)), none⟩, ⟨(some 33), (.fld (.t 32) 1), none⟩, ⟨none, (.st (.t 33) (.t 31) 1), none⟩]) (.rg [⟨(some 34), (.mv (.t 3)), none⟩, ⟨(some 35), (.mv (.t 4)), none⟩, ⟨(some 36), (.bsl 1 [(.t 35)]), none⟩, ⟨(some 37), (.app 1 1 (.t 34) (.t 36)), none⟩, ⟨(some 3), (.asg (.t 37)), none⟩])))))))
def c_addr_scanner_quoted_p2 : ACode := (.rg [⟨(some 38), (.mv (.t 0)), none⟩, ⟨(some 39), (.mv (.t 0)), none⟩, ⟨(some 40), (.nck (.t 39)), none⟩, ⟨(some 41), (.fld (.t 40) 2), none⟩, ⟨(some 42), (.ld (.t 41) none), none⟩, ⟨(some 43), (.mv (.t 42)), none⟩, ⟨(some 44), (.mv (.t 3)), (some (43, false))⟩, ⟨(some 45), (.len (.t 44)), (some (43, false))⟩, ⟨(some 46), (.bin .eql (.t 45) (.c (.int .i64 0))), (some (43, false))⟩, ⟨(some 47), (.pick (.t 43) (.c (.bool true)) (.t 46)), none⟩, ⟨(some 48), (.nck (.t 38)), none⟩, ⟨(some 49), (.fld (.t 48) 2), none⟩, ⟨none, (.st (.t 49) (.t 47) 1), none⟩])
abbrev m_addr_scanner_quoted_p2 := c_addr_scanner_quoted_p2
def c_addr_scanner_quoted : ACode := (.seq (.rg [⟨(some 2), (.asg (.c (.str []))), none⟩]) (.seq (.rg [⟨(some 3), (.asg (.c (.sl .ex 1 []))), none⟩]) (.seq (.rg [⟨(some 5), (.mv (.t 0)), none⟩, ⟨(some 6), (.call (.c (.fn 67 [])) [(.t 5), (.c (b8 34))]), none⟩]) (.seq (.blk 0 c_addr_scanner_quoted_l1) (.seq c_addr_scanner_quoted_p2 (.seq (.rg [⟨(some 50), (.mv (.t 3)), none⟩, ⟨(some 51), (.cvt .bs (.t 50)), none⟩, ⟨(some 2), (.asg (.t 51)), none⟩]) .ret))))))
def m_addr_scanner_quoted : ACode := (.seq (.rg [⟨(some 2), (.asg (.c (.str []))), none⟩]) (.seq (.rg [⟨(some 3), (.asg (.c (.sl .ex 1 []))), none⟩]) (.seq (.rg [⟨(some 5), (.mv (.t 0)), none⟩, ⟨(some 6), (.call (.c (.fn 67 [])) [(.t 5), (.c (b8 34))]), none⟩]) (.seq (.blk 0 c_addr_scanner_quoted_l1) (.seq (.sem c_addr_scanner_quoted_p2) (.seq (.rg [⟨(some 50), (.mv (.t 3)), none⟩, ⟨(some 51), (.cvt .bs (.t 50)), none⟩, ⟨(some 2), (.asg (.t 51)), none⟩]) .ret))))))
theorem k_addr_scanner_quoted : FnOk Tryd.prog 97 52 [(.tmp 2)] c_addr_scanner_quoted := ⟨Tryd.f97, _, rfl, by decide, rfl, by kernel_rfl, rfl, rfl⟩
abbrev L_addr_scanner_quoted : List Nat := [0, 2, 3, 4, 16, 23]
def addr_scanner_quoted_p1 (s5 : ScannerV) : Option (Bool × ScannerV) :=
  (if (!s5.bad) then
    (addr_scanner_takes s5 34).bind fun (r6, r7) => some ((!r6), r7)
  else
    some (false, s5))
def addr_scanner_quoted_l1  : ((List UInt8) × ScannerV) → Option (St ((List UInt8) × ScannerV) ((List UInt8) × ScannerV) ((List UInt8) × ScannerV))
  | (b4, s5) =>
    (addr_scanner_quoted_p1 s5).bind fun (t10, s11) =>
    (if t10 then
      (addr_scanner_takes s11 92).bind fun (r12, r13) =>
      (addr_scanner_next_s r13).bind fun r14 =>
      (addr_visible r14).bind fun r15 =>
      (if (!r15) then
        some (.brk (b4, (ScannerV.mk r13.s r13.at0 true)))
      else
        (capp 1 b4 ([r14] : List UInt8)).bind fun x16 =>
        some (.nxt (x16, (ScannerV.mk r13.s (IntKind.wrap .i64 (r13.at0 + 1)) r13.bad))))
    else
      some (.brk (b4, s11)))
def addr_scanner_quoted_p2 (s20 : ScannerV) (b19 : List UInt8) : Option (ScannerV) :=
  (if s20.bad then
    some (ScannerV.mk s20.s s20.at0 true)
  else
    some (ScannerV.mk s20.s s20.at0 (decide ((b19.length : Int) = 0))))
def addr_scanner_quoted (F : Nat) (x2 : ScannerV) : Option ((List UInt8) × ScannerV) :=
  (addr_scanner_want x2 34).bind fun r3 =>
  ((iter addr_scanner_quoted_l1 F (([] : List UInt8), r3)).bind fun o23 =>
  match o23 with
  | .inr (b19, s20) =>
    (addr_scanner_quoted_p2 s20 b19).bind fun s22 =>
    some (b19, s22)
  | .inl _ => none)
theorem addr_scanner_quoted_p1_ok {s5 : ScannerV} {q1 : Nat} {b4 : List UInt8} {H0 H : AH} (hfr : Fr H0 H0.length [q1] H) (hs_o1 : H[q1]? = some [(.str s5.s), (.int .i64 s5.at0), (.bool s5.bad)]) (hi0 : q1 < H0.length) {K : Exit → Env → AH → Prop} {t8 : Bool} {s9 : ScannerV}
    (h : addr_scanner_quoted_p1 s5 = some (t8, s9))
    (kn : ∀ H' : AH, Fr H0 H0.length [q1] H' → H'[q1]? = some [(.str s9.s), (.int .i64 s9.at0), (.bool s9.bad)] → K .normal [(0, (.ptr q1 0)), (3, (.sl .own 1 (ml b8 b4))), (16, (.bool t8))] H') :
    AX Tryd.prog L_addr_scanner_quoted 52 H0.length c_addr_scanner_quoted_p1 K [(0, (.ptr q1 0)), (3, (.sl .own 1 (ml b8 b4)))] H := by
  refine AX.go (m := m_addr_scanner_quoted_p1) rfl (by decide) fun K' hK => ?_
  have hle := hfr.le
  have hl_o1 := h_lt hs_o1
  rw [addr_scanner_quoted_p1.eq_1] at h
  try simp (disch := first | assumption | omega | (simp only [h_sl, h_al] <;> omega) | fail) only [WW, WH, ↓reduceIte, nA, nB, nC, nD, nE, nF, nG, reduceCtorEq, L_addr_scanner_quoted, m_addr_scanner_quoted_p1, c_addr_scanner_quoted_p1, hs_o1]
  rcases ifb h with ⟨hy2, h⟩ | ⟨hy2, h⟩
  · refine UG_go hy2 ?_
    try simp (disch := first | assumption | omega | (simp only [h_sl, h_al] <;> omega) | fail) only [WW, WH, ↓reduceIte, nA, nB, nC, nD, nE, nF, nG, reduceCtorEq, L_addr_scanner_quoted, hy2, hs_o1]
    obtain ⟨⟨r6, r7⟩, hy3, h⟩ := bnd' h
    dsimp only at h
    refine UK_e (as' := [(.ptr q1 0), (b8 34)]) (h := addr_scanner_takes_ok (x2 := s5) (c3 := 34) (q1 := q1) (by exact ((hs_o1).trans rfl)) hy3) (hw := WL.cons (Wx.ptr) (WL.cons (Wx.b8) (WL.nil))) (hh := WxH.refl _) ?_
    try simp (disch := first | assumption | omega | (simp only [h_sl, h_al] <;> omega) | fail) only [WW, WH, ↓reduceIte, nA, nB, nC, nD, nE, nF, nG, reduceCtorEq, L_addr_scanner_quoted, hs_o1]
    have hq := Option.some.inj h; have hq0 := (Prod.mk.inj hq).1; replace hq := (Prod.mk.inj hq).2; subst hq0; subst hq
    refine hK _ _ _ _ _ ?_ (WxH.refl _) (kn _ (Fr.set (s := q1) hfr (.inl (by simp))) ((h_eq (by first | assumption | omega | (simp only [h_sl, h_al] <;> omega) | fail)).trans rfl))
    exact WE.cons (Wx.ptr) (WE.cons (Wx.oo) (WE.cons (Wx.bool) (WE.nil)))
  · refine UG_nt hy2 ?_
    try simp (disch := first | assumption | omega | (simp only [h_sl, h_al] <;> omega) | fail) only [WW, WH, ↓reduceIte, nA, nB, nC, nD, nE, nF, nG, reduceCtorEq, L_addr_scanner_quoted, hy2, hs_o1]
    have hq := Option.some.inj h; have hq0 := (Prod.mk.inj hq).1; replace hq := (Prod.mk.inj hq).2; subst hq0; subst hq
    refine hK _ _ _ _ _ ?_ (WxH.refl _) (kn _ hfr ((hs_o1).trans rfl))
    exact WE.cons (Wx.ptr) (WE.cons (Wx.oo) (WE.cons (Wx.bool) (WE.nil)))
theorem addr_scanner_quoted_l1_ok {F : Nat} {s5 : ScannerV} {b4 : List UInt8} {q1 : Nat} {H0 H : AH} (hfr : Fr H0 H0.length [q1] H) (hs_o1 : H[q1]? = some [(.str s5.s), (.int .i64 s5.at0), (.bool s5.bad)]) (hi0 : q1 < H0.length) {K : Exit → Env → AH → Prop} {o : ((List UInt8) × ScannerV) ⊕ ((List UInt8) × ScannerV)}
    (h : iter addr_scanner_quoted_l1 F (b4, s5) = some o)
    (kb0 : ∀ o' : (List UInt8) × ScannerV, o = .inr o' → ∀ H' : AH, Fr H0 H0.length [q1] H' → H'[q1]? = some [(.str o'.2.s), (.int .i64 o'.2.at0), (.bool o'.2.bad)] → K (.exit 0) [(0, (.ptr q1 0)), (3, (.sl .own 1 (ml b8 o'.1)))] H') :
    AX Tryd.prog L_addr_scanner_quoted 52 H0.length c_addr_scanner_quoted_l1 K [(0, (.ptr q1 0)), (3, (.sl .own 1 (ml b8 b4)))] H := by
  refine AX.iter (m := m_addr_scanner_quoted_l1b) rfl (by decide) (fun s e H1 => match s with | (b4, s5) => e = [(0, (.ptr q1 0)), (3, (.sl .own 1 (ml b8 b4)))] ∧ Fr H0 H0.length [q1] H1 ∧ H1[q1]? = some [(.str s5.s), (.int .i64 s5.at0), (.bool s5.bad)]) h ⟨rfl, hfr, hs_o1⟩ ?_
  skip
  rintro K' ⟨b4, s5⟩ st e H ⟨rfl, hfr, hs_o1⟩ h hN hB hR hX
  have hle := hfr.le
  have hl_o1 := h_lt hs_o1
  rw [addr_scanner_quoted_l1.eq_1] at h
  try simp (disch := first | assumption | omega | (simp only [h_sl, h_al] <;> omega) | fail) only [WW, WH, ↓reduceIte, nA, nB, nC, nD, nE, nF, nG, reduceCtorEq, L_addr_scanner_quoted, m_addr_scanner_quoted_l1b, hs_o1]
  obtain ⟨⟨t10, s11⟩, hy4, h⟩ := bnd' h
  dsimp only at h
  refine UX_of (AX.weak ?_ (WxH.refl _) (addr_scanner_quoted_p1_ok  (s5 := s5) (q1 := q1) (b4 := b4) (t8 := t10) (s9 := s11)  (hfr) ((hs_o1).trans rfl) (by first | assumption | omega | (simp only [h_sl, h_al] <;> omega) | fail) hy4 ?_))
  · exact WE.cons (Wx.ptr) (WE.cons (Wx.oo) (WE.nil))
  intro H hfr hs_o1
  have hle := hfr.le
  have hl_o1 := h_lt hs_o1
  try simp (disch := first | assumption | omega | (simp only [h_sl, h_al] <;> omega) | fail) only [WW, WH, ↓reduceIte, nA, nB, nC, nD, nE, nF, nG, reduceCtorEq, L_addr_scanner_quoted, hs_o1]
  rcases ifb h with ⟨hy5, h⟩ | ⟨hy5, h⟩
  · refine UC_t hy5 ?_
    try simp (disch := first | assumption | omega | (simp only [h_sl, h_al] <;> omega) | fail) only [WW, WH, ↓reduceIte, nA, nB, nC, nD, nE, nF, nG, reduceCtorEq, L_addr_scanner_quoted, hs_o1]
    obtain ⟨⟨r12, r13⟩, hy6, h⟩ := bnd' h
    dsimp only at h
    refine UK_e (as' := [(.ptr q1 0), (b8 92)]) (h := addr_scanner_takes_ok (x2 := s11) (c3 := 92) (q1 := q1) (by exact ((hs_o1).trans rfl)) hy6) (hw := WL.cons (Wx.ptr) (WL.cons (Wx.b8) (WL.nil))) (hh := WxH.refl _) ?_
    try simp (disch := first | assumption | omega | (simp only [h_sl, h_al] <;> omega) | fail) only [WW, WH, ↓reduceIte, nA, nB, nC, nD, nE, nF, nG, reduceCtorEq, L_addr_scanner_quoted, hs_o1]
    obtain ⟨r14, hy7, h⟩ := bnd' h
    refine UK_e (as' := [(.ptr q1 0)]) (h := ACalls.ofE (addr_scanner_next_s_ok (x1 := r13) (H0 := []) hy7) (PEL.cons (.one _ _ (PE1.ptrL (by exact ((h_eq (by first | assumption | omega | (simp only [h_sl, h_al] <;> omega) | fail)).trans rfl)) (PE1L.cons (PE1.str) (PE1L.cons (PE1.int) (PE1L.cons (PE1.bool) (PE1L.nil)))))) (PEL.nil)) (by rintro _ rfl; rfl)) (hw := WL.cons (Wx.ptr) (WL.nil)) (hh := WxH.refl _) ?_
    try simp (disch := first | assumption | omega | (simp only [h_sl, h_al] <;> omega) | fail) only [WW, WH, ↓reduceIte, nA, nB, nC, nD, nE, nF, nG, reduceCtorEq, L_addr_scanner_quoted, hs_o1]
    obtain ⟨r15, hy8, h⟩ := bnd' h
    refine UK_e (as' := [(b8 r14)]) (h := addr_visible_ok (c1 := r14)  hy8) (hw := WL.cons (Wx.b8) (WL.nil)) (hh := WxH.refl _) ?_
    try simp (disch := first | assumption | omega | (simp only [h_sl, h_al] <;> omega) | fail) only [WW, WH, ↓reduceIte, nA, nB, nC, nD, nE, nF, nG, reduceCtorEq, L_addr_scanner_quoted, hs_o1]
    rcases ifb h with ⟨hy9, h⟩ | ⟨hy9, h⟩
    · refine UC_t hy9 ?_
      try simp (disch := first | assumption | omega | (simp only [h_sl, h_al] <;> omega) | fail) only [WW, WH, ↓reduceIte, nA, nB, nC, nD, nE, nF, nG, reduceCtorEq, L_addr_scanner_quoted, hs_o1]
      have hq := Option.some.inj h; subst hq
      refine hX _ _ _ _ _ (by simp) ?_ (WxH.refl _) (kb0 _ (hB _ rfl) _ (Fr.set (s := q1) (Fr.set (s := q1) hfr (.inl (by simp))) (.inl (by simp))) ((h_eq (by first | assumption | omega | (simp only [h_sl, h_al] <;> omega) | fail)).trans rfl))
      exact WE.cons (Wx.ptr) (WE.cons (Wx.oo) (WE.nil))
    · refine UC_f hy9 ?_
      obtain ⟨x16, hy10, h⟩ := bnd' h
      have hy11 : capp 1 (ml b8 b4) [(b8 r14)] = some (ml b8 x16) := capp_m (f := b8) hy10
      try simp (disch := first | assumption | omega | (simp only [h_sl, h_al] <;> omega) | fail) only [WW, WH, ↓reduceIte, nA, nB, nC, nD, nE, nF, nG, reduceCtorEq, L_addr_scanner_quoted, hy11, hs_o1]
      have hq := Option.some.inj h; subst hq
      refine hN _ rfl _ _ _ _ ?_ (WxH.refl _) ⟨rfl, (Fr.set (s := q1) (Fr.set (s := q1) hfr (.inl (by simp))) (.inl (by simp))), ((h_eq (by first | assumption | omega | (simp only [h_sl, h_al] <;> omega) | fail)).trans rfl)⟩
      exact WE.cons (Wx.ptr) (WE.cons (Wx.oo) (WE.nil))
  · refine UC_f hy5 ?_
    try simp (disch := first | assumption | omega | (simp only [h_sl, h_al] <;> omega) | fail) only [WW, WH, ↓reduceIte, nA, nB, nC, nD, nE, nF, nG, reduceCtorEq, L_addr_scanner_quoted, hs_o1]
    have hq := Option.some.inj h; subst hq
    refine hX _ _ _ _ _ (by simp) ?_ (WxH.refl _) (kb0 _ (hB _ rfl) _ hfr ((hs_o1).trans rfl))
    exact WE.cons (Wx.ptr) (WE.cons (Wx.oo) (WE.nil))
theorem addr_scanner_quoted_p2_ok {s20 : ScannerV} {b19 : List UInt8} {q1 : Nat} {H0 H : AH} (hfr : Fr H0 H0.length [q1] H) (hs_o1 : H[q1]? = some [(.str s20.s), (.int .i64 s20.at0), (.bool s20.bad)]) (hi0 : q1 < H0.length) {K : Exit → Env → AH → Prop} {s21 : ScannerV}
    (h : addr_scanner_quoted_p2 s20 b19 = some s21)
    (kn : ∀ H' : AH, Fr H0 H0.length [q1] H' → H'[q1]? = some [(.str s21.s), (.int .i64 s21.at0), (.bool s21.bad)] → K .normal [(3, (.sl .own 1 (ml b8 b19)))] H') :
    AX Tryd.prog L_addr_scanner_quoted 52 H0.length c_addr_scanner_quoted_p2 K [(0, (.ptr q1 0)), (3, (.sl .own 1 (ml b8 b19)))] H := by
  refine AX.go (m := m_addr_scanner_quoted_p2) rfl (by decide) fun K' hK => ?_
  have hle := hfr.le
  have hl_o1 := h_lt hs_o1
  rw [addr_scanner_quoted_p2.eq_1] at h
  try simp (disch := first | assumption | omega | (simp only [h_sl, h_al] <;> omega) | fail) only [WW, WH, ↓reduceIte, nA, nB, nC, nD, nE, nF, nG, reduceCtorEq, L_addr_scanner_quoted, m_addr_scanner_quoted_p2, c_addr_scanner_quoted_p2, hs_o1]
  rcases ifb h with ⟨hy13, h⟩ | ⟨hy13, h⟩
  · refine UG_nf hy13 ?_
    try simp (disch := first | assumption | omega | (simp only [h_sl, h_al] <;> omega) | fail) only [WW, WH, ↓reduceIte, nA, nB, nC, nD, nE, nF, nG, reduceCtorEq, L_addr_scanner_quoted, hy13, hs_o1]
    have hq := Option.some.inj h; subst hq
    refine hK _ _ _ _ _ ?_ (WxH.refl _) (kn _ (Fr.set (s := q1) hfr (.inl (by simp))) ((h_eq (by first | assumption | omega | (simp only [h_sl, h_al] <;> omega) | fail)).trans rfl))
    exact WE.cons (Wx.oo) (WE.nil)
  · refine UG_go hy13 ?_
    try simp (disch := first | assumption | omega | (simp only [h_sl, h_al] <;> omega) | fail) only [WW, WH, ↓reduceIte, nA, nB, nC, nD, nE, nF, nG, reduceCtorEq, L_addr_scanner_quoted, hy13, hs_o1]
    have hq := Option.some.inj h; subst hq
    refine hK _ _ _ _ _ ?_ (WxH.refl _) (kn _ (Fr.set (s := q1) hfr (.inl (by simp))) ((h_eq (by first | assumption | omega | (simp only [h_sl, h_al] <;> omega) | fail)).trans rfl))
    exact WE.cons (Wx.oo) (WE.nil)
theorem addr_scanner_quoted_ok {F : Nat} {x2 : ScannerV} {q1 : Nat} {H0 : AH} (hs_o1 : H0[q1]? = some [(.str x2.s), (.int .i64 x2.at0), (.bool x2.bad)]) {rz0 : List UInt8} {rz1 : ScannerV} (h : addr_scanner_quoted F x2 = some (rz0, rz1)) :
    ACalls Tryd.prog 97 [(.ptr q1 0)] H0 fun v H' => v = (.str rz0) ∧ H' = (H0.set q1 [(.str rz1.s), (.int .i64 rz1.at0), (.bool rz1.bad)]) := by
  refine ACalls.goX k_addr_scanner_quoted (m := m_addr_scanner_quoted) rfl L_addr_scanner_quoted (by decide) (by simp) fun hcl K0 hK0 => ?_
  refine AX.of_U (m := m_addr_scanner_quoted) rfl (by decide) ?_
  have hl_o1 := h_lt hs_o1
  have hfr := Fr.refl H0 [q1]
  have hle := hfr.le
  rw [addr_scanner_quoted.eq_1] at h
  obtain ⟨H, hHH⟩ : ∃ H, H = H0 := ⟨_, rfl⟩
  have hfr : Fr H0 H0.length [q1] H := hHH ▸ hfr
  have hs_o1 : H[q1]? = some [(.str x2.s), (.int .i64 x2.at0), (.bool x2.bad)] := hHH ▸ hs_o1
  have hle := hfr.le
  have hL_o1 : q1 < H.length := h_lt hs_o1
  suffices hU : U Tryd.prog L_addr_scanner_quoted 52 H0.length [.code m_addr_scanner_quoted] K0 .normal (argE 0 [(.ptr q1 0)]) H by rwa [hHH] at hU
  try simp (disch := first | assumption | omega | (simp only [h_sl, h_al] <;> omega) | fail) only [WW, WH, ↓reduceIte, nA, nB, nC, nD, nE, nF, nG, reduceCtorEq, L_addr_scanner_quoted, m_addr_scanner_quoted, hs_o1]
  obtain ⟨r3, hy1, h⟩ := bnd' h
  refine UK_e (as' := [(.ptr q1 0), (b8 34)]) (h := addr_scanner_want_ok (x2 := x2) (c3 := 34) (q1 := q1) (by exact ((hs_o1).trans rfl)) hy1) (hw := WL.cons (Wx.ptr) (WL.cons (Wx.b8) (WL.nil))) (hh := WxH.refl _) ?_
  try simp (disch := first | assumption | omega | (simp only [h_sl, h_al] <;> omega) | fail) only [WW, WH, ↓reduceIte, nA, nB, nC, nD, nE, nF, nG, reduceCtorEq, L_addr_scanner_quoted, hs_o1]
  obtain ⟨o23, hy12, h⟩ := bnd' h
  refine UX_of (AX.weak ?_ (WxH.refl _) (addr_scanner_quoted_l1_ok  (q1 := q1) (b4 := ([] : List UInt8)) (s5 := r3)  ((Fr.set (s := q1) hfr (.inl (by simp)))) ((h_eq (by first | assumption | omega | (simp only [h_sl, h_al] <;> omega) | fail)).trans rfl) (by first | assumption | omega | (simp only [h_sl, h_al] <;> omega) | fail) (o := o23) hy12 ?_))
  · exact WE.cons (Wx.ptr) (WE.cons (Wx.own ..) (WE.nil))
  · rintro ⟨b19, s20⟩ rfl H hfr hs_o1
    try dsimp only at h hs_o1
    have hle := hfr.le
    have hl_o1 := h_lt hs_o1
    try simp (disch := first | assumption | omega | (simp only [h_sl, h_al] <;> omega) | fail) only [WW, WH, ↓reduceIte, nA, nB, nC, nD, nE, nF, nG, reduceCtorEq, L_addr_scanner_quoted, hs_o1]
    obtain ⟨s22, hy14, h⟩ := bnd' h
    refine UX_of (AX.weak ?_ (WxH.refl _) (addr_scanner_quoted_p2_ok  (s20 := s20) (b19 := b19) (q1 := q1) (s21 := s22)  (hfr) ((hs_o1).trans rfl) (by first | assumption | omega | (simp only [h_sl, h_al] <;> omega) | fail) hy14 ?_))
    · exact WE.cons (Wx.ptr) (WE.cons (Wx.oo) (WE.nil))
    intro H hfr hs_o1
    have hle := hfr.le
    have hl_o1 := h_lt hs_o1
    try simp (disch := first | assumption | omega | (simp only [h_sl, h_al] <;> omega) | fail) only [WW, WH, ↓reduceIte, nA, nB, nC, nD, nE, nF, nG, reduceCtorEq, L_addr_scanner_quoted, hs_o1]
    have hq := Option.some.inj h; have hq0 := (Prod.mk.inj hq).1; replace hq := (Prod.mk.inj hq).2; subst hq0; subst hq
    refine hK0 _ _ _ (.inr rfl) ?_
    exact fn_end1 (by exact hfr) hcl (resv_tmp (a := (.str b19)) rfl rfl resv_nil) (by first | (simp [fin, b_df, b_sh, b_sh1, b_Cl]; done) | (simp [fin, AV.df, AV.sh, AV.sh1, b_df, b_sh, b_sh1, b_Cl]; done)) (Wx.str) (by exact ((hs_o1).trans rfl)) (by first | assumption | omega | (simp only [h_sl, h_al] <;> omega) | fail) (by simp [b_Cl]; try omega) (WxC.cons (Wx.str) (WxC.cons (Wx.int) (WxC.cons (Wx.bool) (WxC.nil)))) (r' := (.str b19)) ⟨rfl, rfl⟩

/-! ### mailbag/addr.atom -/
def c_addr_atom_p1 : ACode := (.rg [⟨(some 3), (.mv (.t 0)), none⟩, ⟨(some 4), (.call (.c (.fn 100 [])) [(.t 3)]), none⟩, ⟨(some 5), (.mv (.t 4)), none⟩, ⟨(some 6), (.mv (.t 0)), (some (5, false))⟩, ⟨(some 7), (.call (.c (.fn 114 [])) [(.c (.str [33, 35, 36, 37, 38, 39, 42, 43, 45, 47, 61, 63, 94, 95, 96, 123, 124, 125, 126])), (.t 6)]), (some (5, false))⟩, ⟨(some 8), (.bin .geq (.t 7) (.c (.int .i64 0))), (some (5, false))⟩, ⟨(some 9), (.pick (.t 5) (.c (.bool true)) (.t 8)), none⟩, ⟨(some 2), (.asg (.t 9)), none⟩])
abbrev m_addr_atom_p1 := c_addr_atom_p1
def c_addr_atom : ACode := (.seq (.rg [⟨(some 2), (.asg (.c (.bool false))), none⟩]) (.seq c_addr_atom_p1 .ret))
def m_addr_atom : ACode := (.seq (.rg [⟨(some 2), (.asg (.c (.bool false))), none⟩]) (.seq (.sem c_addr_atom_p1) .ret))
theorem k_addr_atom : FnOk Tryd.prog 98 10 [(.tmp 2)] c_addr_atom := ⟨Tryd.f98, _, rfl, by decide, rfl, by kernel_rfl, rfl, rfl⟩
abbrev L_addr_atom : List Nat := [0, 2]
def addr_atom_p1 (c1 : UInt8) : Option (Bool) :=
  (addr_letter c1).bind fun r2 =>
  (if r2 then
    some true
  else
    (strings_IndexByte ([33, 35, 36, 37, 38, 39, 42, 43, 45, 47, 61, 63, 94, 95, 96, 123, 124, 125, 126] : List UInt8) c1).bind fun r3 => some (decide (0 ≤ r3)))
def addr_atom (c1 : UInt8) : Option (Bool) :=
  (addr_atom_p1 c1).bind fun t5 =>
  some t5
theorem addr_atom_p1_ok {c1 : UInt8} {H : AH}  {K : Exit → Env → AH → Prop} {t4 : Bool}
    (h : addr_atom_p1 c1 = some t4)
    (kn : K .normal [(2, (.bool t4))] H) :
    AX Tryd.prog L_addr_atom 10 H.length c_addr_atom_p1 K [(0, (b8 c1)), (2, (.bool false))] H := by
  refine AX.go (m := m_addr_atom_p1) rfl (by decide) fun K' hK => ?_
  rw [addr_atom_p1.eq_1] at h
  try simp only [WW, ↓reduceIte, nA, nB, nC, nD, nE, nF, nG, reduceCtorEq, L_addr_atom, m_addr_atom_p1, c_addr_atom_p1]
  obtain ⟨r2, hy1, h⟩ := bnd' h
  refine UK_e (as' := [(b8 c1)]) (h := addr_letter_ok (c1 := c1)  hy1) (hw := WL.cons (Wx.b8) (WL.nil)) (hh := WxH.refl _) ?_
  try simp only [WW, ↓reduceIte, nA, nB, nC, nD, nE, nF, nG, reduceCtorEq, L_addr_atom]
  rcases ifb h with ⟨hy2, h⟩ | ⟨hy2, h⟩
  · refine UG_nf hy2 ?_
    try simp only [WW, ↓reduceIte, nA, nB, nC, nD, nE, nF, nG, reduceCtorEq, L_addr_atom, hy2]
    have hq := Option.some.inj h; subst hq
    refine hK _ _ _ _ _ ?_ (WxH.refl _) (kn )
    exact WE.cons (Wx.bool) (WE.nil)
  · refine UG_go hy2 ?_
    try simp only [WW, ↓reduceIte, nA, nB, nC, nD, nE, nF, nG, reduceCtorEq, L_addr_atom, hy2]
    obtain ⟨r3, hy3, h⟩ := bnd' h
    refine UK_e (as' := [(.str ([33, 35, 36, 37, 38, 39, 42, 43, 45, 47, 61, 63, 94, 95, 96, 123, 124, 125, 126] : List UInt8)), (b8 c1)]) (h := strings_IndexByte_ok (s1 := ([33, 35, 36, 37, 38, 39, 42, 43, 45, 47, 61, 63, 94, 95, 96, 123, 124, 125, 126] : List UInt8)) (c2 := c1)  hy3) (hw := WL.cons (Wx.str) (WL.cons (Wx.b8) (WL.nil))) (hh := WxH.refl _) ?_
    try simp only [WW, ↓reduceIte, nA, nB, nC, nD, nE, nF, nG, reduceCtorEq, L_addr_atom]
    have hq := Option.some.inj h; subst hq
    refine hK _ _ _ _ _ ?_ (WxH.refl _) (kn )
    exact WE.cons (Wx.bool) (WE.nil)
theorem addr_atom_ok {c1 : UInt8}  {H0 : AH}  {rz0 : Bool} (h : addr_atom c1 = some rz0) :
    ACalls Tryd.prog 98 [(b8 c1)] H0 fun v H' => v = (.bool rz0) ∧ H' = H0 := by
  refine ACalls.goX k_addr_atom (m := m_addr_atom) rfl L_addr_atom (by decide) (by simp) fun hcl K0 hK0 => ?_
  refine AX.of_U (m := m_addr_atom) rfl (by decide) ?_
  rw [addr_atom.eq_1] at h
  try simp only [WW, ↓reduceIte, nA, nB, nC, nD, nE, nF, nG, reduceCtorEq, L_addr_atom, m_addr_atom]
  obtain ⟨t5, hy4, h⟩ := bnd' h
  refine UX_of (AX.weak ?_ (WxH.refl _) (addr_atom_p1_ok  (c1 := c1) (t4 := t5)   hy4 ?_))
  · exact WE.cons (Wx.b8) (WE.cons (Wx.bool) (WE.nil))
  try simp only [WW, ↓reduceIte, nA, nB, nC, nD, nE, nF, nG, reduceCtorEq, L_addr_atom]
  have hq := Option.some.inj h; subst hq
  refine hK0 _ _ _ (.inr rfl) ?_
  exact fn_endp hcl (resv_tmp (a := (.bool t5)) rfl rfl resv_nil) (by first | (simp [fin, b_df, b_sh, b_sh1, b_Cl]; done) | (simp [fin, AV.df, AV.sh, AV.sh1, b_df, b_sh, b_sh1, b_Cl]; done)) (Wx.bool) (r' := (.bool t5)) ⟨rfl, rfl⟩

/-! ### mailbag/addr.every -/
def c_addr_every_sx_l1b : ACode := (.seq (.rg [⟨(some 9), (.bin .lss (.t 8) (.t 7)), none⟩]) (.seq (.cond (.t 9) .skip (.exit 0)) (.seq (.blk 1 (.seq (.rg [⟨(some 10), (.mv (.t 8)), none⟩, ⟨(some 5), (.asg (.t 10)), none⟩]) (.seq (.rg [⟨(some 11), (.mv (.t 1)), none⟩, ⟨(some 12), (.mv (.t 0)), none⟩, ⟨(some 13), (.mv (.t 5)), none⟩, ⟨(some 14), (.ixs (.t 12) (.t 13)), none⟩, ⟨(some 15), (.call (.t 11) [(.t 14)]), none⟩, ⟨(some 16), (.un .not (.t 15)), none⟩]) (.cond (.t 16) (.seq (.rg [⟨(some 4), (.asg (.c (.bool false))), none⟩]) .ret) .skip)))) (.rg [⟨(some 17), (.bin .add (.t 8) (.c (.int .i64 1))), none⟩, ⟨(some 8), (.mv (.t 17)), none⟩]))))
def c_addr_every_sx_l1 : ACode := (.loop c_addr_every_sx_l1b)
abbrev m_addr_every_sx_l1b := c_addr_every_sx_l1b
def c_addr_every_sx : ACode := (.seq (.rg [⟨(some 4), (.asg (.c (.bool false))), none⟩]) (.seq (.seq (.rg [⟨(some 6), (.mv (.t 0)), none⟩, ⟨(some 7), (.lens (.t 6)), none⟩, ⟨(some 8), (.mv (.c (.int .i64 0))), none⟩]) (.blk 0 c_addr_every_sx_l1)) (.seq (.rg [⟨(some 4), (.asg (.c (.bool true))), none⟩]) .ret)))
abbrev m_addr_every_sx := c_addr_every_sx
theorem k_addr_every_sx : FnOk Tryd.prog 82 18 [(.tmp 4)] c_addr_every_sx := ⟨Tryd.f82, _, rfl, by decide, rfl, by kernel_rfl, rfl, rfl⟩
abbrev L_addr_every_sx : List Nat := [0, 1, 4, 5, 7, 8, 9, 16]
def addr_every_sx_l1 (s1 : List UInt8) : (Bool × Int) → Option (St Bool Unit (Bool × Int))
  | (t2, t3) =>
    (if (decide (t3 < (s1.length : Int))) then
      (idx s1 t3).bind fun x4 =>
      (addr_atom x4).bind fun r5 =>
      (if (!r5) then
        some (.ret false)
      else
        some (.nxt (t2, (IntKind.wrap .i64 (t3 + 1)))))
    else
      some (.brk ()))
def addr_every_sx (F : Nat) (s1 : List UInt8) : Option (Bool) :=
  ((iter (addr_every_sx_l1 s1) F (false, 0)).bind fun o8 =>
  match o8 with
  | .inr () =>
    some true
  | .inl r7 =>
    some r7)
theorem addr_every_sx_l1_ok {F : Nat} {t3 : Int} {s1 : List UInt8} {t2 : Bool} {H : AH}  {K : Exit → Env → AH → Prop} {o : (Bool) ⊕ (Unit)}
    (h : iter (addr_every_sx_l1 s1) F (t2, t3) = some o)
    (kb0 : ∀ o' : Unit, o = .inr o' → K (.exit 0) [] H)
    (kr : ∀ o' : Bool, o = .inl o' → K .ret [(4, (.bool o'))] H) :
    AX Tryd.prog L_addr_every_sx 18 H.length c_addr_every_sx_l1 K [(0, (.str s1)), (1, (.fn 98 [])), (4, (.bool t2)), (7, (.int .i64 (s1.length : Int))), (8, (.int .i64 t3))] H := by
  refine AX.iter (m := m_addr_every_sx_l1b) rfl (by decide) (fun s e H1 => match s with | (t2, t3) => e = [(0, (.str s1)), (1, (.fn 98 [])), (4, (.bool t2)), (7, (.int .i64 (s1.length : Int))), (8, (.int .i64 t3))] ∧ H1 = H) h ⟨rfl, rfl⟩ ?_
  rintro K' ⟨t2, t3⟩ st e H ⟨rfl, rfl⟩ h hN hB hR hX
  rw [addr_every_sx_l1.eq_1] at h
  try simp only [WW, ↓reduceIte, nA, nB, nC, nD, nE, nF, nG, reduceCtorEq, L_addr_every_sx, m_addr_every_sx_l1b, c_addr_every_sx_l1b]
  rcases ifb h with ⟨hy1, h⟩ | ⟨hy1, h⟩
  · refine UC_t hy1 ?_
    obtain ⟨x4, hy2, h⟩ := bnd' h
    try simp only [WW, ↓reduceIte, nA, nB, nC, nD, nE, nF, nG, reduceCtorEq, L_addr_every_sx, hy2]
    obtain ⟨r5, hy3, h⟩ := bnd' h
    refine UK_e (as' := [(b8 x4)]) (h := addr_atom_ok (c1 := x4)  hy3) (hw := WL.cons (Wx.b8) (WL.nil)) (hh := WxH.refl _) ?_
    try simp only [WW, ↓reduceIte, nA, nB, nC, nD, nE, nF, nG, reduceCtorEq, L_addr_every_sx]
    rcases ifb h with ⟨hy4, h⟩ | ⟨hy4, h⟩
    · refine UC_t hy4 ?_
      try simp only [WW, ↓reduceIte, nA, nB, nC, nD, nE, nF, nG, reduceCtorEq, L_addr_every_sx]
      have hq := Option.some.inj h; subst hq
      refine hX _ _ _ _ _ (by simp) ?_ (WxH.refl _) (kr _ (hR _ rfl) )
      exact WE.cons (Wx.bool) (WE.nil)
    · refine UC_f hy4 ?_
      try simp only [WW, ↓reduceIte, nA, nB, nC, nD, nE, nF, nG, reduceCtorEq, L_addr_every_sx]
      have hq := Option.some.inj h; subst hq
      refine hN _ rfl _ _ _ _ ?_ (WxH.refl _) ⟨rfl, rfl⟩
      exact WE.cons (Wx.str) (WE.cons (Wx.fn) (WE.cons (Wx.bool) (WE.cons (Wx.int) (WE.cons (Wx.int) (WE.nil)))))
  · refine UC_f hy1 ?_
    try simp only [WW, ↓reduceIte, nA, nB, nC, nD, nE, nF, nG, reduceCtorEq, L_addr_every_sx]
    have hq := Option.some.inj h; subst hq
    refine hX _ _ _ _ _ (by simp) ?_ (WxH.refl _) (kb0 _ (hB _ rfl) )
    exact WE.nil
theorem addr_every_sx_ok {F : Nat} {s1 : List UInt8}  {H0 : AH}  {rz0 : Bool} (h : addr_every_sx F s1 = some rz0) :
    ACalls Tryd.prog 82 [(.str s1), (.fn 98 [])] H0 fun v H' => v = (.bool rz0) ∧ H' = H0 := by
  refine ACalls.goX k_addr_every_sx (m := m_addr_every_sx) rfl L_addr_every_sx (by decide) (by simp) fun hcl K0 hK0 => ?_
  refine AX.of_U (m := m_addr_every_sx) rfl (by decide) ?_
  rw [addr_every_sx.eq_1] at h
  try simp only [WW, ↓reduceIte, nA, nB, nC, nD, nE, nF, nG, reduceCtorEq, L_addr_every_sx, m_addr_every_sx, c_addr_every_sx]
  obtain ⟨o8, hy5, h⟩ := bnd' h
  refine UX_of (AX.weak ?_ (WxH.refl _) (addr_every_sx_l1_ok  (s1 := s1) (t2 := false) (t3 := 0)   (o := o8) hy5 ?_ ?_))
  · exact WE.cons (Wx.str) (WE.cons (Wx.fn) (WE.cons (Wx.bool) (WE.cons (Wx.int) (WE.cons (Wx.int) (WE.nil)))))
  · rintro ⟨⟩ rfl  
    try dsimp only at h 
    try simp only [WW, ↓reduceIte, nA, nB, nC, nD, nE, nF, nG, reduceCtorEq, L_addr_every_sx]
    have hq := Option.some.inj h; subst hq
    refine hK0 _ _ _ (.inr rfl) ?_
    exact fn_endp hcl (resv_tmp (a := (.bool true)) rfl rfl resv_nil) (by first | (simp [fin, b_df, b_sh, b_sh1, b_Cl]; done) | (simp [fin, AV.df, AV.sh, AV.sh1, b_df, b_sh, b_sh1, b_Cl]; done)) (Wx.bool) (r' := (.bool true)) ⟨rfl, rfl⟩
  · rintro r7 rfl  
    try dsimp only at h 
    try simp only [WW, ↓reduceIte, nA, nB, nC, nD, nE, nF, nG, reduceCtorEq, L_addr_every_sx]
    have hq := Option.some.inj h; subst hq
    refine hK0 _ _ _ (.inr rfl) ?_
    exact fn_endp hcl (resv_tmp (a := (.bool r7)) rfl rfl resv_nil) (by first | (simp [fin, b_df, b_sh, b_sh1, b_Cl]; done) | (simp [fin, AV.df, AV.sh, AV.sh1, b_df, b_sh, b_sh1, b_Cl]; done)) (Wx.bool) (r' := (.bool r7)) ⟨rfl, rfl⟩

/-! ### mailbag/addr.plain$1 -/
def c_addr_plain_1_p1 : ACode := (.rg [⟨(some 3), (.mv (.t 0)), none⟩, ⟨(some 4), (.bin .eql (.t 3) (.c (.str []))), none⟩, ⟨(some 5), (.mv (.t 4)), none⟩, ⟨(some 6), (.mv (.t 0)), (some (5, false))⟩, ⟨(some 7), (.call (.c (.fn 82 [])) [(.t 6), (.c (.fn 98 []))]), (some (5, false))⟩, ⟨(some 8), (.un .not (.t 7)), (some (5, false))⟩, ⟨(some 9), (.pick (.t 5) (.c (.bool true)) (.t 8)), none⟩, ⟨(some 2), (.asg (.t 9)), none⟩])
abbrev m_addr_plain_1_p1 := c_addr_plain_1_p1
def c_addr_plain_1 : ACode := (.seq (.rg [⟨(some 2), (.asg (.c (.bool false))), none⟩]) (.seq c_addr_plain_1_p1 .ret))
def m_addr_plain_1 : ACode := (.seq (.rg [⟨(some 2), (.asg (.c (.bool false))), none⟩]) (.seq (.sem c_addr_plain_1_p1) .ret))
theorem k_addr_plain_1 : FnOk Tryd.prog 115 10 [(.tmp 2)] c_addr_plain_1 := ⟨Tryd.f115, _, rfl, by decide, rfl, by kernel_rfl, rfl, rfl⟩
abbrev L_addr_plain_1 : List Nat := [0, 2]
def addr_plain_1_p1 (F : Nat) (x1 : List UInt8) : Option (Bool) :=
  (if (decide (x1 = ([] : List UInt8))) then
    some true
  else
    (addr_every_sx F x1).bind fun r2 => some (!r2))
def addr_plain_1 (F : Nat) (x1 : List UInt8) : Option (Bool) :=
  (addr_plain_1_p1 F x1).bind fun t4 =>
  some t4
theorem addr_plain_1_p1_ok {F : Nat} {x1 : List UInt8} {H : AH}  {K : Exit → Env → AH → Prop} {t3 : Bool}
    (h : addr_plain_1_p1 F x1 = some t3)
    (kn : K .normal [(2, (.bool t3))] H) :
    AX Tryd.prog L_addr_plain_1 10 H.length c_addr_plain_1_p1 K [(0, (.str x1)), (2, (.bool false))] H := by
  refine AX.go (m := m_addr_plain_1_p1) rfl (by decide) fun K' hK => ?_
  rw [addr_plain_1_p1.eq_1] at h
  try simp only [WW, ↓reduceIte, nA, nB, nC, nD, nE, nF, nG, reduceCtorEq, L_addr_plain_1, m_addr_plain_1_p1, c_addr_plain_1_p1]
  rcases ifb h with ⟨hy1, h⟩ | ⟨hy1, h⟩
  · refine UG_nf hy1 ?_
    try simp only [WW, ↓reduceIte, nA, nB, nC, nD, nE, nF, nG, reduceCtorEq, L_addr_plain_1, hy1]
    have hq := Option.some.inj h; subst hq
    refine hK _ _ _ _ _ ?_ (WxH.refl _) (kn )
    exact WE.cons (Wx.bool) (WE.nil)
  · refine UG_go hy1 ?_
    try simp only [WW, ↓reduceIte, nA, nB, nC, nD, nE, nF, nG, reduceCtorEq, L_addr_plain_1, hy1]
    obtain ⟨r2, hy2, h⟩ := bnd' h
    refine UK_e (as' := [(.str x1), (.fn 98 [])]) (h := addr_every_sx_ok (s1 := x1) (F := F)  hy2) (hw := WL.cons (Wx.str) (WL.cons (Wx.fn) (WL.nil))) (hh := WxH.refl _) ?_
    try simp only [WW, ↓reduceIte, nA, nB, nC, nD, nE, nF, nG, reduceCtorEq, L_addr_plain_1]
    have hq := Option.some.inj h; subst hq
    refine hK _ _ _ _ _ ?_ (WxH.refl _) (kn )
    exact WE.cons (Wx.bool) (WE.nil)
theorem addr_plain_1_ok {F : Nat} {x1 : List UInt8}  {H0 : AH}  {rz0 : Bool} (h : addr_plain_1 F x1 = some rz0) :
    ACalls Tryd.prog 115 [(.str x1)] H0 fun v H' => v = (.bool rz0) ∧ H' = H0 := by
  refine ACalls.goX k_addr_plain_1 (m := m_addr_plain_1) rfl L_addr_plain_1 (by decide) (by simp) fun hcl K0 hK0 => ?_
  refine AX.of_U (m := m_addr_plain_1) rfl (by decide) ?_
  rw [addr_plain_1.eq_1] at h
  try simp only [WW, ↓reduceIte, nA, nB, nC, nD, nE, nF, nG, reduceCtorEq, L_addr_plain_1, m_addr_plain_1]
  obtain ⟨t4, hy3, h⟩ := bnd' h
  refine UX_of (AX.weak ?_ (WxH.refl _) (addr_plain_1_p1_ok (F := F) (x1 := x1) (t3 := t4)   hy3 ?_))
  · exact WE.cons (Wx.str) (WE.cons (Wx.bool) (WE.nil))
  try simp only [WW, ↓reduceIte, nA, nB, nC, nD, nE, nF, nG, reduceCtorEq, L_addr_plain_1]
  have hq := Option.some.inj h; subst hq
  refine hK0 _ _ _ (.inr rfl) ?_
  exact fn_endp hcl (resv_tmp (a := (.bool t4)) rfl rfl resv_nil) (by first | (simp [fin, b_df, b_sh, b_sh1, b_Cl]; done) | (simp [fin, AV.df, AV.sh, AV.sh1, b_df, b_sh, b_sh1, b_Cl]; done)) (Wx.bool) (r' := (.bool t4)) ⟨rfl, rfl⟩

/-! ### slices.IndexFunc[[]string,string] -/
def c_slices_IndexFunc_sxx_l1b : ACode := (.seq (.rg [⟨(some 9), (.bin .lss (.t 8) (.t 7)), none⟩]) (.seq (.cond (.t 9) .skip (.exit 0)) (.seq (.blk 1 (.seq (.rg [⟨(some 10), (.mv (.t 8)), none⟩, ⟨(some 5), (.asg (.t 10)), none⟩]) (.seq (.rg [⟨(some 11), (.mv (.t 1)), none⟩, ⟨(some 12), (.mv (.t 0)), none⟩, ⟨(some 13), (.mv (.t 5)), none⟩, ⟨(some 14), (.ixa 1 (.t 12) (.t 13)), none⟩, ⟨(some 15), (.ld (.t 14) none), none⟩, ⟨(some 16), (.call (.t 11) [(.t 15)]), none⟩]) (.cond (.t 16) (.seq (.rg [⟨(some 17), (.mv (.t 5)), none⟩, ⟨(some 4), (.asg (.t 17)), none⟩]) .ret) .skip)))) (.rg [⟨(some 18), (.bin .add (.t 8) (.c (.int .i64 1))), none⟩, ⟨(some 8), (.mv (.t 18)), none⟩]))))
def c_slices_IndexFunc_sxx_l1 : ACode := (.loop c_slices_IndexFunc_sxx_l1b)
abbrev m_slices_IndexFunc_sxx_l1b := c_slices_IndexFunc_sxx_l1b
def c_slices_IndexFunc_sxx : ACode := (.seq (.rg [⟨(some 4), (.asg (.c (.int .i64 0))), none⟩]) (.seq (.seq (.rg [⟨(some 6), (.mv (.t 0)), none⟩, ⟨(some 7), (.len (.t 6)), none⟩, ⟨(some 8), (.mv (.c (.int .i64 0))), none⟩]) (.blk 0 c_slices_IndexFunc_sxx_l1)) (.seq (.rg [⟨(some 4), (.asg (.c (.int .i64 (-1)))), none⟩]) .ret)))
abbrev m_slices_IndexFunc_sxx := c_slices_IndexFunc_sxx
theorem k_slices_IndexFunc_sxx : FnOk Tryd.prog 109 19 [(.tmp 4)] c_slices_IndexFunc_sxx := ⟨Tryd.f109, _, rfl, by decide, rfl, by kernel_rfl, rfl, rfl⟩
abbrev L_slices_IndexFunc_sxx : List Nat := [0, 1, 4, 5, 7, 8, 9, 16]
def slices_IndexFunc_sxx_l1 (F : Nat) (s1 : List (List UInt8)) : (Int × Int) → Option (St Int Unit (Int × Int))
  | (t2, t3) =>
    (if (decide (t3 < (s1.length : Int))) then
      (idx s1 t3).bind fun x4 =>
      (addr_plain_1 F x4).bind fun r5 =>
      (if r5 then
        some (.ret t3)
      else
        some (.nxt (t2, (IntKind.wrap .i64 (t3 + 1)))))
    else
      some (.brk ()))
def slices_IndexFunc_sxx (F : Nat) (s1 : List (List UInt8)) : Option (Int) :=
  ((iter (slices_IndexFunc_sxx_l1 F s1) F (0, 0)).bind fun o8 =>
  match o8 with
  | .inr () =>
    some (-1)
  | .inl r7 =>
    some r7)
theorem slices_IndexFunc_sxx_l1_ok {F : Nat} {t3 : Int} {s1 : List (List UInt8)} {t2 : Int} {H : AH}  {K : Exit → Env → AH → Prop} {o : (Int) ⊕ (Unit)}
    (h : iter (slices_IndexFunc_sxx_l1 F s1) F (t2, t3) = some o)
    (kb0 : ∀ o' : Unit, o = .inr o' → K (.exit 0) [] H)
    (kr : ∀ o' : Int, o = .inl o' → K .ret [(4, (.int .i64 o'))] H) :
    AX Tryd.prog L_slices_IndexFunc_sxx 19 H.length c_slices_IndexFunc_sxx_l1 K [(0, (.sl .n 1 (ml AV.str s1))), (1, (.fn 115 [])), (4, (.int .i64 t2)), (7, (.int .i64 (s1.length : Int))), (8, (.int .i64 t3))] H := by
  refine AX.iter (m := m_slices_IndexFunc_sxx_l1b) rfl (by decide) (fun s e H1 => match s with | (t2, t3) => e = [(0, (.sl .n 1 (ml AV.str s1))), (1, (.fn 115 [])), (4, (.int .i64 t2)), (7, (.int .i64 (s1.length : Int))), (8, (.int .i64 t3))] ∧ H1 = H) h ⟨rfl, rfl⟩ ?_
  rintro K' ⟨t2, t3⟩ st e H ⟨rfl, rfl⟩ h hN hB hR hX
  rw [slices_IndexFunc_sxx_l1.eq_1] at h
  try simp only [WW, ↓reduceIte, nA, nB, nC, nD, nE, nF, nG, reduceCtorEq, L_slices_IndexFunc_sxx, m_slices_IndexFunc_sxx_l1b, c_slices_IndexFunc_sxx_l1b]
  rcases ifb h with ⟨hy1, h⟩ | ⟨hy1, h⟩
  · refine UC_t hy1 ?_
    obtain ⟨x4, hy2, h⟩ := bnd' h
    try simp only [WW, ↓reduceIte, nA, nB, nC, nD, nE, nF, nG, reduceCtorEq, L_slices_IndexFunc_sxx, hy2]
    obtain ⟨r5, hy3, h⟩ := bnd' h
    refine UK_e (as' := [(.str x4)]) (h := addr_plain_1_ok (x1 := x4) (F := F)  hy3) (hw := WL.cons (Wx.str) (WL.nil)) (hh := WxH.refl _) ?_
    try simp only [WW, ↓reduceIte, nA, nB, nC, nD, nE, nF, nG, reduceCtorEq, L_slices_IndexFunc_sxx]
    rcases ifb h with ⟨hy4, h⟩ | ⟨hy4, h⟩
    · refine UC_t hy4 ?_
      try simp only [WW, ↓reduceIte, nA, nB, nC, nD, nE, nF, nG, reduceCtorEq, L_slices_IndexFunc_sxx]
      have hq := Option.some.inj h; subst hq
      refine hX _ _ _ _ _ (by simp) ?_ (WxH.refl _) (kr _ (hR _ rfl) )
      exact WE.cons (Wx.int) (WE.nil)
    · refine UC_f hy4 ?_
      try simp only [WW, ↓reduceIte, nA, nB, nC, nD, nE, nF, nG, reduceCtorEq, L_slices_IndexFunc_sxx]
      have hq := Option.some.inj h; subst hq
      refine hN _ rfl _ _ _ _ ?_ (WxH.refl _) ⟨rfl, rfl⟩
      exact WE.cons (Wx.nn) (WE.cons (Wx.fn) (WE.cons (Wx.int) (WE.cons (Wx.int) (WE.cons (Wx.int) (WE.nil)))))
  · refine UC_f hy1 ?_
    try simp only [WW, ↓reduceIte, nA, nB, nC, nD, nE, nF, nG, reduceCtorEq, L_slices_IndexFunc_sxx]
    have hq := Option.some.inj h; subst hq
    refine hX _ _ _ _ _ (by simp) ?_ (WxH.refl _) (kb0 _ (hB _ rfl) )
    exact WE.nil
theorem slices_IndexFunc_sxx_ok {F : Nat} {s1 : List (List UInt8)}  {H0 : AH}  {rz0 : Int} (h : slices_IndexFunc_sxx F s1 = some rz0) :
    ACalls Tryd.prog 109 [(.sl .n 1 (ml AV.str s1)), (.fn 115 [])] H0 fun v H' => v = (.int .i64 rz0) ∧ H' = H0 := by
  refine ACalls.goX k_slices_IndexFunc_sxx (m := m_slices_IndexFunc_sxx) rfl L_slices_IndexFunc_sxx (by decide) (by simp) fun hcl K0 hK0 => ?_
  refine AX.of_U (m := m_slices_IndexFunc_sxx) rfl (by decide) ?_
  rw [slices_IndexFunc_sxx.eq_1] at h
  try simp only [WW, ↓reduceIte, nA, nB, nC, nD, nE, nF, nG, reduceCtorEq, L_slices_IndexFunc_sxx, m_slices_IndexFunc_sxx, c_slices_IndexFunc_sxx]
  obtain ⟨o8, hy5, h⟩ := bnd' h
  refine UX_of (AX.weak ?_ (WxH.refl _) (slices_IndexFunc_sxx_l1_ok  (s1 := s1) (t2 := 0) (t3 := 0)   (o := o8) hy5 ?_ ?_))
  · exact WE.cons (Wx.nn) (WE.cons (Wx.fn) (WE.cons (Wx.int) (WE.cons (Wx.int) (WE.cons (Wx.int) (WE.nil)))))
  · rintro ⟨⟩ rfl  
    try dsimp only at h 
    try simp only [WW, ↓reduceIte, nA, nB, nC, nD, nE, nF, nG, reduceCtorEq, L_slices_IndexFunc_sxx]
    have hq := Option.some.inj h; subst hq
    refine hK0 _ _ _ (.inr rfl) ?_
    exact fn_endp hcl (resv_tmp (a := (.int .i64 (-1))) rfl rfl resv_nil) (by first | (simp [fin, b_df, b_sh, b_sh1, b_Cl]; done) | (simp [fin, AV.df, AV.sh, AV.sh1, b_df, b_sh, b_sh1, b_Cl]; done)) (Wx.int) (r' := (.int .i64 (-1))) ⟨rfl, rfl⟩
  · rintro r7 rfl  
    try dsimp only at h 
    try simp only [WW, ↓reduceIte, nA, nB, nC, nD, nE, nF, nG, reduceCtorEq, L_slices_IndexFunc_sxx]
    have hq := Option.some.inj h; subst hq
    refine hK0 _ _ _ (.inr rfl) ?_
    exact fn_endp hcl (resv_tmp (a := (.int .i64 r7)) rfl rfl resv_nil) (by first | (simp [fin, b_df, b_sh, b_sh1, b_Cl]; done) | (simp [fin, AV.df, AV.sh, AV.sh1, b_df, b_sh, b_sh1, b_Cl]; done)) (Wx.int) (r' := (.int .i64 r7)) ⟨rfl, rfl⟩

/-! ### slices.ContainsFunc[[]string,string] -/
def c_slices_ContainsFunc_sxx : ACode := (.seq (.rg [⟨(some 4), (.asg (.c (.bool false))), none⟩]) (.seq (.rg [⟨(some 5), (.mv (.t 0)), none⟩, ⟨(some 6), (.mv (.t 1)), none⟩, ⟨(some 7), (.call (.c (.fn 109 [])) [(.t 5), (.t 6)]), none⟩, ⟨(some 8), (.bin .geq (.t 7) (.c (.int .i64 0))), none⟩, ⟨(some 4), (.asg (.t 8)), none⟩]) .ret))
abbrev m_slices_ContainsFunc_sxx := c_slices_ContainsFunc_sxx
theorem k_slices_ContainsFunc_sxx : FnOk Tryd.prog 78 9 [(.tmp 4)] c_slices_ContainsFunc_sxx := ⟨Tryd.f78, _, rfl, by decide, rfl, by kernel_rfl, rfl, rfl⟩
abbrev L_slices_ContainsFunc_sxx : List Nat := [0, 1, 4]
def slices_ContainsFunc_sxx (F : Nat) (s1 : List (List UInt8)) : Option (Bool) :=
  (slices_IndexFunc_sxx F s1).bind fun r2 => some (decide (0 ≤ r2))
theorem slices_ContainsFunc_sxx_ok {F : Nat} {s1 : List (List UInt8)}  {H0 : AH}  {rz0 : Bool} (h : slices_ContainsFunc_sxx F s1 = some rz0) :
    ACalls Tryd.prog 78 [(.sl .n 1 (ml AV.str s1)), (.fn 115 [])] H0 fun v H' => v = (.bool rz0) ∧ H' = H0 := by
  refine ACalls.goX k_slices_ContainsFunc_sxx (m := m_slices_ContainsFunc_sxx) rfl L_slices_ContainsFunc_sxx (by decide) (by simp) fun hcl K0 hK0 => ?_
  refine AX.of_U (m := m_slices_ContainsFunc_sxx) rfl (by decide) ?_
  rw [slices_ContainsFunc_sxx.eq_1] at h
  try simp only [WW, ↓reduceIte, nA, nB, nC, nD, nE, nF, nG, reduceCtorEq, L_slices_ContainsFunc_sxx, m_slices_ContainsFunc_sxx, c_slices_ContainsFunc_sxx]
  obtain ⟨r2, hy1, h⟩ := bnd' h
  refine UK_e (as' := [(.sl .n 1 (ml AV.str s1)), (.fn 115 [])]) (h := slices_IndexFunc_sxx_ok (s1 := s1) (F := F)  hy1) (hw := WL.cons (Wx.nn) (WL.cons (Wx.fn) (WL.nil))) (hh := WxH.refl _) ?_
  try simp only [WW, ↓reduceIte, nA, nB, nC, nD, nE, nF, nG, reduceCtorEq, L_slices_ContainsFunc_sxx]
  have hq := Option.some.inj h; subst hq
  refine hK0 _ _ _ (.inr rfl) ?_
  exact fn_endp hcl (resv_tmp (a := (.bool (decide (0 ≤ r2)))) rfl rfl resv_nil) (by first | (simp [fin, b_df, b_sh, b_sh1, b_Cl]; done) | (simp [fin, AV.df, AV.sh, AV.sh1, b_df, b_sh, b_sh1, b_Cl]; done)) (Wx.bool) (r' := (.bool (decide (0 ≤ r2)))) ⟨rfl, rfl⟩

/-! ### mailbag/addr.plain -/
def c_addr_plain : ACode := (.seq (.rg [⟨(some 2), (.asg (.c (.bool false))), none⟩]) (.seq (.rg [⟨(some 3), (.mv (.t 0)), none⟩, ⟨(some 4), (.call (.c (.fn 79 [])) [(.t 3), (.c (.str [46]))]), none⟩, ⟨(some 5), (.call (.c (.fn 78 [])) [(.t 4), (.c (.fn 115 []))]), none⟩, ⟨(some 6), (.un .not (.t 5)), none⟩, ⟨(some 2), (.asg (.t 6)), none⟩]) .ret))
abbrev m_addr_plain := c_addr_plain
theorem k_addr_plain : FnOk Tryd.prog 99 7 [(.tmp 2)] c_addr_plain := ⟨Tryd.f99, _, rfl, by decide, rfl, by kernel_rfl, rfl, rfl⟩
abbrev L_addr_plain : List Nat := [0, 2]
def addr_plain (F : Nat) (s1 : List UInt8) : Option (Bool) :=
  (strings_Split s1 ([46] : List UInt8)).bind fun r2 => (slices_ContainsFunc_sxx F r2).bind fun r3 => some (!r3)
theorem addr_plain_ok {F : Nat} {s1 : List UInt8}  {H0 : AH}  {rz0 : Bool} (h : addr_plain F s1 = some rz0) :
    ACalls Tryd.prog 99 [(.str s1)] H0 fun v H' => v = (.bool rz0) ∧ H' = H0 := by
  refine ACalls.goX k_addr_plain (m := m_addr_plain) rfl L_addr_plain (by decide) (by simp) fun hcl K0 hK0 => ?_
  refine AX.of_U (m := m_addr_plain) rfl (by decide) ?_
  rw [addr_plain.eq_1] at h
  try simp only [WW, ↓reduceIte, nA, nB, nC, nD, nE, nF, nG, reduceCtorEq, L_addr_plain, m_addr_plain, c_addr_plain]
  obtain ⟨r2, hy1, h⟩ := bnd' h
  refine UK_e (as' := [(.str s1), (.str ([46] : List UInt8))]) (h := strings_Split_ok (s1 := s1) (s2 := ([46] : List UInt8))  hy1) (hw := WL.cons (Wx.str) (WL.cons (Wx.str) (WL.nil))) (hh := WxH.refl _) ?_
  try simp only [WW, ↓reduceIte, nA, nB, nC, nD, nE, nF, nG, reduceCtorEq, L_addr_plain]
  obtain ⟨r3, hy2, h⟩ := bnd' h
  refine UK_e (as' := [(.sl .n 1 (ml AV.str r2)), (.fn 115 [])]) (h := slices_ContainsFunc_sxx_ok (s1 := r2) (F := F)  hy2) (hw := WL.cons (Wx.nn) (WL.cons (Wx.fn) (WL.nil))) (hh := WxH.refl _) ?_
  try simp only [WW, ↓reduceIte, nA, nB, nC, nD, nE, nF, nG, reduceCtorEq, L_addr_plain]
  have hq := Option.some.inj h; subst hq
  refine hK0 _ _ _ (.inr rfl) ?_
  exact fn_endp hcl (resv_tmp (a := (.bool (!r3))) rfl rfl resv_nil) (by first | (simp [fin, b_df, b_sh, b_sh1, b_Cl]; done) | (simp [fin, AV.df, AV.sh, AV.sh1, b_df, b_sh, b_sh1, b_Cl]; done)) (Wx.bool) (r' := (.bool (!r3))) ⟨rfl, rfl⟩

/-! ### (*mailbag/addr.scanner).local -/
def c_addr_scanner_local_p1 : ACode := (.rg [⟨(some 17), (.mv (.t 4)), none⟩, ⟨(some 18), (.bin .eql (.t 17) (.c (b8 46))), none⟩, ⟨(some 19), (.mv (.t 18)), none⟩, ⟨(some 20), (.mv (.t 4)), (some (19, false))⟩, ⟨(some 21), (.bin .neq (.t 20) (.c (b8 0))), (some (19, false))⟩, ⟨(some 22), (.mv (.t 21)), (some (19, false))⟩, ⟨(some 23), (.mv (.t 4)), (some (22, true))⟩, ⟨(some 24), (.call (.c (.fn 98 [])) [(.t 23)]), (some (22, true))⟩, ⟨(some 25), (.pick (.t 22) (.t 24) (.c (.bool false))), (some (19, false))⟩, ⟨(some 26), (.pick (.t 19) (.c (.bool true)) (.t 25)), none⟩])
abbrev m_addr_scanner_local_p1 := c_addr_scanner_local_p1
def c_addr_scanner_local_l1b : ACode := (.seq (.seq c_addr_scanner_local_p1 (.cond (.t 26) .skip (.exit 0))) (.seq (.blk 1 (.rg [⟨(some 29), (.mv (.t 0)), none⟩, ⟨(some 30), (.nck (.t 29)), none⟩, ⟨(some 31), (.fld (.t 30) 1), none⟩, ⟨(some 32), (.ld (.t 31) none), none⟩, ⟨(some 33), (.bin .add (.t 32) (.c (.int .i64 1))), none⟩, ⟨(some 34), (.nck (.t 29)), none⟩, ⟨(some 35), (.fld (.t 34) 1), none⟩, ⟨none, (.st (.t 35) (.t 33) 1), none⟩])) (.rg [⟨(some 27), (.mv (.t 0)), none⟩, ⟨(some 28), (.call (.c (.fn 96 [])) [(.t 27)]), none⟩, ⟨(some 4), (.asg (.t 28)), none⟩])))
def c_addr_scanner_local_l1 : ACode := (.loop c_addr_scanner_local_l1b)
def m_addr_scanner_local_l1b : ACode := (.seq (.seq (.sem c_addr_scanner_local_p1) (.cond (.t 26) .skip (.exit 0))) (.seq (.blk 1 (.rg [⟨(some 29), (.mv (.t 0)), none⟩, ⟨(some 30), (.nck (.t 29)), none⟩, ⟨(some 31), (.fld (.t 30) 1), none⟩, ⟨(some 32), (.ld (.t 31) none), none⟩, ⟨(some 33), (.bin .add (.t 32) (.c (.int .i64 1))), none⟩, ⟨(some 34), (.nck (.t 29)), none⟩, ⟨(some 35), (.fld (.t 34) 1), none⟩, ⟨none, (.st (.t 35) (.t 33) 1), none⟩])) (.rg [⟨(some 27), (.mv (.t 0)), none⟩, ⟨(some 28), (.call (.c (.fn 96 [])) [(.t 27)]), none⟩, ⟨(some 4), (.asg (.t 28)), none⟩])))
def c_addr_scanner_local_p2 : ACode := (.rg [⟨(some 46), (.mv (.t 0)), none⟩, ⟨(some 47), (.mv (.t 0)), none⟩, ⟨(some 48), (.nck (.t 47)), none⟩, ⟨(some 49), (.fld (.t 48) 2), none⟩, ⟨(some 50), (.ld (.t 49) none), none⟩, ⟨(some 51), (.mv (.t 50)), none⟩, ⟨(some 52), (.mv (.t 5)), (some (51, false))⟩, ⟨(some 53), (.call (.c (.fn 99 [])) [(.t 52)]), (some (51, false))⟩, ⟨(some 54), (.un .not (.t 53)), (some (51, false))⟩, ⟨(some 55), (.pick (.t 51) (.c (.bool true)) (.t 54)), none⟩, ⟨(some 56), (.nck (.t 46)), none⟩, ⟨(some 57), (.fld (.t 56) 2), none⟩, ⟨none, (.st (.t 57) (.t 55) 1), none⟩])
abbrev m_addr_scanner_local_p2 := c_addr_scanner_local_p2
def c_addr_scanner_local : ACode := (.seq (.rg [⟨(some 2), (.asg (.c (.str []))), none⟩]) (.seq (.seq (.rg [⟨(some 6), (.mv (.t 0)), none⟩, ⟨(some 7), (.call (.c (.fn 96 [])) [(.t 6)]), none⟩, ⟨(some 8), (.bin .eql (.t 7) (.c (b8 34))), none⟩]) (.cond (.t 8) (.seq (.rg [⟨(some 9), (.mv (.t 0)), none⟩, ⟨(some 10), (.call (.c (.fn 97 [])) [(.t 9)]), none⟩, ⟨(some 2), (.asg (.t 10)), none⟩]) .ret) .skip)) (.seq (.rg [⟨(some 11), (.mv (.t 0)), none⟩, ⟨(some 12), (.nck (.t 11)), none⟩, ⟨(some 13), (.fld (.t 12) 1), none⟩, ⟨(some 14), (.ld (.t 13) none), none⟩, ⟨(some 3), (.asg (.t 14)), none⟩]) (.seq (.seq (.rg [⟨(some 15), (.mv (.t 0)), none⟩, ⟨(some 16), (.call (.c (.fn 96 [])) [(.t 15)]), none⟩, ⟨(some 4), (.asg (.t 16)), none⟩]) (.blk 0 c_addr_scanner_local_l1)) (.seq (.rg [⟨(some 36), (.mv (.t 0)), none⟩, ⟨(some 37), (.nck (.t 36)), none⟩, ⟨(some 38), (.fld (.t 37) 0), none⟩, ⟨(some 39), (.ld (.t 38) none), none⟩, ⟨(some 40), (.mv (.t 3)), none⟩, ⟨(some 41), (.mv (.t 0)), none⟩, ⟨(some 42), (.nck (.t 41)), none⟩, ⟨(some 43), (.fld (.t 42) 1), none⟩, ⟨(some 44), (.ld (.t 43) none), none⟩, ⟨(some 45), (.sls (.t 39) (some (.t 40)) (some (.t 44))), none⟩, ⟨(some 5), (.asg (.t 45)), none⟩]) (.seq c_addr_scanner_local_p2 (.seq (.rg [⟨(some 58), (.mv (.t 5)), none⟩, ⟨(some 2), (.asg (.t 58)), none⟩]) .ret)))))))
def m_addr_scanner_local : ACode := (.seq (.rg [⟨(some 2), (.asg (.c (.str []))), none⟩]) (.seq (.seq (.rg [⟨(some 6), (.mv (.t 0)), none⟩, ⟨(some 7), (.call (.c (.fn 96 [])) [(.t 6)]), none⟩, ⟨(some 8), (.bin .eql (.t 7) (.c (b8 34))), none⟩]) (.cond (.t 8) (.seq (.rg [⟨(some 9), (.mv (.t 0)), none⟩, ⟨(some 10), (.call (.c (.fn 97 [])) [(.t 9)]), none⟩, ⟨(some 2), (.asg (.t 10)), none⟩]) .ret) .skip)) (.seq (.rg [⟨(some 11), (.mv (.t 0)), none⟩, ⟨(some 12), (.nck (.t 11)), none⟩, ⟨(some 13), (.fld (.t 12) 1), none⟩, ⟨(some 14), (.ld (.t 13) none), none⟩, ⟨(some 3), (.asg (.t 14)), none⟩]) (.seq (.seq (.rg [⟨(some 15), (.mv (.t 0)), none⟩, ⟨(some 16), (.call (.c (.fn 96 [])) [(.t 15)]), none⟩, ⟨(some 4), (.asg (.t 16)), none⟩]) (.blk 0 c_addr_scanner_local_l1)) (.seq (.rg [⟨(some 36), (.mv (.t 0)), none⟩, ⟨(some 37), (.nck (.t 36)), none⟩, ⟨(some 38), (.fld (.t 37) 0), none⟩, ⟨(some 39), (.ld (.t 38) none), none⟩, ⟨(some 40), (.mv (.t 3)), none⟩, ⟨(some 41), (.mv (.t 0)), none⟩, ⟨(some 42), (.nck (.t 41)), none⟩, ⟨(some 43), (.fld (.t 42) 1), none⟩, ⟨(some 44), (.ld (.t 43) none), none⟩, ⟨(some 45), (.sls (.t 39) (some (.t 40)) (some (.t 44))), none⟩, ⟨(some 5), (.asg (.t 45)), none⟩]) (.seq (.sem c_addr_scanner_local_p2) (.seq (.rg [⟨(some 58), (.mv (.t 5)), none⟩, ⟨(some 2), (.asg (.t 58)), none⟩]) .ret)))))))
theorem k_addr_scanner_local : FnOk Tryd.prog 70 59 [(.tmp 2)] c_addr_scanner_local := ⟨Tryd.f70, _, rfl, by decide, rfl, by kernel_rfl, rfl, rfl⟩
abbrev L_addr_scanner_local : List Nat := [0, 2, 3, 4, 5, 8, 26]
def addr_scanner_local_p1 (c7 : UInt8) : Option (Bool) :=
  (if (decide (c7 = 46)) then
    some true
  else
    (if (!decide (c7 = 0)) then
      (addr_atom c7).bind fun r9 => some r9
    else
      some false))
def addr_scanner_local_l1  : (UInt8 × ScannerV) → Option (St ((List UInt8) × ScannerV) ScannerV (UInt8 × ScannerV))
  | (c7, s8) =>
    (addr_scanner_local_p1 c7).bind fun t11 =>
    (if t11 then
      (addr_scanner_next_s (ScannerV.mk s8.s (IntKind.wrap .i64 (s8.at0 + 1)) s8.bad)).bind fun r12 =>
      some (.nxt (r12, (ScannerV.mk s8.s (IntKind.wrap .i64 (s8.at0 + 1)) s8.bad)))
    else
      some (.brk s8))
def addr_scanner_local_p2 (F : Nat) (s14 : ScannerV) (x15 : List UInt8) : Option (ScannerV) :=
  (if s14.bad then
    some (ScannerV.mk s14.s s14.at0 true)
  else
    (addr_plain F x15).bind fun r16 => some (ScannerV.mk s14.s s14.at0 (!r16)))
def addr_scanner_local (F : Nat) (x2 : ScannerV) : Option ((List UInt8) × ScannerV) :=
  (addr_scanner_next_s x2).bind fun r3 =>
  (if (decide (r3 = 34)) then
    (addr_scanner_quoted F x2).bind fun (r4, r5) => some (r4, r5)
  else
    (addr_scanner_next_s x2).bind fun r6 =>
    ((iter addr_scanner_local_l1 F (r6, x2)).bind fun o19 =>
    match o19 with
    | .inr s14 =>
      (sub s14.s x2.at0 s14.at0).bind fun x15 =>
      (addr_scanner_local_p2 F s14 x15).bind fun s18 =>
      some (x15, s18)
    | .inl _ => none))
theorem addr_scanner_local_p1_ok {c7 : UInt8} {q1 : Nat} {x2 : ScannerV} {s8 : ScannerV} {H0 H : AH} (hfr : Fr H0 H0.length [q1] H) (hs_o1 : H[q1]? = some [(.str s8.s), (.int .i64 s8.at0), (.bool s8.bad)]) (hi0 : q1 < H0.length) {K : Exit → Env → AH → Prop} {t10 : Bool}
    (h : addr_scanner_local_p1 c7 = some t10)
    (kn : ∀ H' : AH, Fr H0 H0.length [q1] H' → H'[q1]? = some [(.str s8.s), (.int .i64 s8.at0), (.bool s8.bad)] → K .normal [(0, (.ptr q1 0)), (3, (.int .i64 x2.at0)), (26, (.bool t10))] H') :
    AX Tryd.prog L_addr_scanner_local 59 H0.length c_addr_scanner_local_p1 K [(0, (.ptr q1 0)), (3, (.int .i64 x2.at0)), (4, (b8 c7))] H := by
  refine AX.go (m := m_addr_scanner_local_p1) rfl (by decide) fun K' hK => ?_
  have hle := hfr.le
  have hl_o1 := h_lt hs_o1
  rw [addr_scanner_local_p1.eq_1] at h
  try simp (disch := first | assumption | omega | (simp only [h_sl, h_al] <;> omega) | fail) only [WW, WH, ↓reduceIte, nA, nB, nC, nD, nE, nF, nG, reduceCtorEq, L_addr_scanner_local, m_addr_scanner_local_p1, c_addr_scanner_local_p1, hs_o1]
  rcases ifb h with ⟨hy5, h⟩ | ⟨hy5, h⟩
  · refine UG_nf hy5 ?_
    try simp (disch := first | assumption | omega | (simp only [h_sl, h_al] <;> omega) | fail) only [WW, WH, ↓reduceIte, nA, nB, nC, nD, nE, nF, nG, reduceCtorEq, L_addr_scanner_local, hy5, hs_o1]
    have hq := Option.some.inj h; subst hq
    refine hK _ _ _ _ _ ?_ (WxH.refl _) (kn _ hfr ((hs_o1).trans rfl))
    exact WE.cons (Wx.ptr) (WE.cons (Wx.int) (WE.cons (Wx.bool) (WE.nil)))
  · refine UG_go hy5 ?_
    try simp (disch := first | assumption | omega | (simp only [h_sl, h_al] <;> omega) | fail) only [WW, WH, ↓reduceIte, nA, nB, nC, nD, nE, nF, nG, reduceCtorEq, L_addr_scanner_local, hy5, hs_o1]
    rcases ifb h with ⟨hy6, h⟩ | ⟨hy6, h⟩
    · refine UG_go hy6 ?_
      try simp (disch := first | assumption | omega | (simp only [h_sl, h_al] <;> omega) | fail) only [WW, WH, ↓reduceIte, nA, nB, nC, nD, nE, nF, nG, reduceCtorEq, L_addr_scanner_local, hy6, hs_o1]
      obtain ⟨r9, hy7, h⟩ := bnd' h
      refine UK_e (as' := [(b8 c7)]) (h := addr_atom_ok (c1 := c7)  hy7) (hw := WL.cons (Wx.b8) (WL.nil)) (hh := WxH.refl _) ?_
      try simp (disch := first | assumption | omega | (simp only [h_sl, h_al] <;> omega) | fail) only [WW, WH, ↓reduceIte, nA, nB, nC, nD, nE, nF, nG, reduceCtorEq, L_addr_scanner_local, hs_o1]
      have hq := Option.some.inj h; subst hq
      refine hK _ _ _ _ _ ?_ (WxH.refl _) (kn _ hfr ((hs_o1).trans rfl))
      exact WE.cons (Wx.ptr) (WE.cons (Wx.int) (WE.cons (Wx.bool) (WE.nil)))
    · refine UG_nt hy6 ?_
      try simp (disch := first | assumption | omega | (simp only [h_sl, h_al] <;> omega) | fail) only [WW, WH, ↓reduceIte, nA, nB, nC, nD, nE, nF, nG, reduceCtorEq, L_addr_scanner_local, hy6, hs_o1]
      have hq := Option.some.inj h; subst hq
      refine hK _ _ _ _ _ ?_ (WxH.refl _) (kn _ hfr ((hs_o1).trans rfl))
      exact WE.cons (Wx.ptr) (WE.cons (Wx.int) (WE.cons (Wx.bool) (WE.nil)))
theorem addr_scanner_local_l1_ok {F : Nat} {c7 : UInt8} {s8 : ScannerV} {q1 : Nat} {x2 : ScannerV} {H0 H : AH} (hfr : Fr H0 H0.length [q1] H) (hs_o1 : H[q1]? = some [(.str s8.s), (.int .i64 s8.at0), (.bool s8.bad)]) (hi0 : q1 < H0.length) {K : Exit → Env → AH → Prop} {o : ((List UInt8) × ScannerV) ⊕ (ScannerV)}
    (h : iter addr_scanner_local_l1 F (c7, s8) = some o)
    (kb0 : ∀ o' : ScannerV, o = .inr o' → ∀ H' : AH, Fr H0 H0.length [q1] H' → H'[q1]? = some [(.str o'.s), (.int .i64 o'.at0), (.bool o'.bad)] → K (.exit 0) [(0, (.ptr q1 0)), (3, (.int .i64 x2.at0))] H') :
    AX Tryd.prog L_addr_scanner_local 59 H0.length c_addr_scanner_local_l1 K [(0, (.ptr q1 0)), (3, (.int .i64 x2.at0)), (4, (b8 c7))] H := by
  refine AX.iter (m := m_addr_scanner_local_l1b) rfl (by decide) (fun s e H1 => match s with | (c7, s8) => e = [(0, (.ptr q1 0)), (3, (.int .i64 x2.at0)), (4, (b8 c7))] ∧ Fr H0 H0.length [q1] H1 ∧ H1[q1]? = some [(.str s8.s), (.int .i64 s8.at0), (.bool s8.bad)]) h ⟨rfl, hfr, hs_o1⟩ ?_
  skip
  rintro K' ⟨c7, s8⟩ st e H ⟨rfl, hfr, hs_o1⟩ h hN hB hR hX
  have hle := hfr.le
  have hl_o1 := h_lt hs_o1
  rw [addr_scanner_local_l1.eq_1] at h
  try simp (disch := first | assumption | omega | (simp only [h_sl, h_al] <;> omega) | fail) only [WW, WH, ↓reduceIte, nA, nB, nC, nD, nE, nF, nG, reduceCtorEq, L_addr_scanner_local, m_addr_scanner_local_l1b, hs_o1]
  obtain ⟨t11, hy8, h⟩ := bnd' h
  refine UX_of (AX.weak ?_ (WxH.refl _) (addr_scanner_local_p1_ok  (c7 := c7) (q1 := q1) (x2 := x2) (s8 := s8) (t10 := t11)  (hfr) ((hs_o1).trans rfl) (by first | assumption | omega | (simp only [h_sl, h_al] <;> omega) | fail) hy8 ?_))
  · exact WE.cons (Wx.ptr) (WE.cons (Wx.int) (WE.cons (Wx.b8) (WE.nil)))
  intro H hfr hs_o1
  have hle := hfr.le
  have hl_o1 := h_lt hs_o1
  try simp (disch := first | assumption | omega | (simp only [h_sl, h_al] <;> omega) | fail) only [WW, WH, ↓reduceIte, nA, nB, nC, nD, nE, nF, nG, reduceCtorEq, L_addr_scanner_local, hs_o1]
  rcases ifb h with ⟨hy9, h⟩ | ⟨hy9, h⟩
  · refine UC_t hy9 ?_
    try simp (disch := first | assumption | omega | (simp only [h_sl, h_al] <;> omega) | fail) only [WW, WH, ↓reduceIte, nA, nB, nC, nD, nE, nF, nG, reduceCtorEq, L_addr_scanner_local, hs_o1]
    obtain ⟨r12, hy10, h⟩ := bnd' h
    refine UK_e (as' := [(.ptr q1 0)]) (h := ACalls.ofE (addr_scanner_next_s_ok (x1 := (ScannerV.mk s8.s (IntKind.wrap .i64 (s8.at0 + 1)) s8.bad)) (H0 := []) hy10) (PEL.cons (.one _ _ (PE1.ptrL (by exact ((h_eq (by first | assumption | omega | (simp only [h_sl, h_al] <;> omega) | fail)).trans rfl)) (PE1L.cons (PE1.str) (PE1L.cons (PE1.int) (PE1L.cons (PE1.bool) (PE1L.nil)))))) (PEL.nil)) (by rintro _ rfl; rfl)) (hw := WL.cons (Wx.ptr) (WL.nil)) (hh := WxH.refl _) ?_
    try simp (disch := first | assumption | omega | (simp only [h_sl, h_al] <;> omega) | fail) only [WW, WH, ↓reduceIte, nA, nB, nC, nD, nE, nF, nG, reduceCtorEq, L_addr_scanner_local, hs_o1]
    have hq := Option.some.inj h; subst hq
    refine hN _ rfl _ _ _ _ ?_ (WxH.refl _) ⟨rfl, (Fr.set (s := q1) hfr (.inl (by simp))), ((h_eq (by first | assumption | omega | (simp only [h_sl, h_al] <;> omega) | fail)).trans rfl)⟩
    exact WE.cons (Wx.ptr) (WE.cons (Wx.int) (WE.cons (Wx.b8) (WE.nil)))
  · refine UC_f hy9 ?_
    try simp (disch := first | assumption | omega | (simp only [h_sl, h_al] <;> omega) | fail) only [WW, WH, ↓reduceIte, nA, nB, nC, nD, nE, nF, nG, reduceCtorEq, L_addr_scanner_local, hs_o1]
    have hq := Option.some.inj h; subst hq
    refine hX _ _ _ _ _ (by simp) ?_ (WxH.refl _) (kb0 _ (hB _ rfl) _ hfr ((hs_o1).trans rfl))
    exact WE.cons (Wx.ptr) (WE.cons (Wx.int) (WE.nil))
theorem addr_scanner_local_p2_ok {F : Nat} {s14 : ScannerV} {x15 : List UInt8} {q1 : Nat} {H0 H : AH} (hfr : Fr H0 H0.length [q1] H) (hs_o1 : H[q1]? = some [(.str s14.s), (.int .i64 s14.at0), (.bool s14.bad)]) (hi0 : q1 < H0.length) {K : Exit → Env → AH → Prop} {s17 : ScannerV}
    (h : addr_scanner_local_p2 F s14 x15 = some s17)
    (kn : ∀ H' : AH, Fr H0 H0.length [q1] H' → H'[q1]? = some [(.str s17.s), (.int .i64 s17.at0), (.bool s17.bad)] → K .normal [(5, (.str x15))] H') :
    AX Tryd.prog L_addr_scanner_local 59 H0.length c_addr_scanner_local_p2 K [(0, (.ptr q1 0)), (5, (.str x15))] H := by
  refine AX.go (m := m_addr_scanner_local_p2) rfl (by decide) fun K' hK => ?_
  have hle := hfr.le
  have hl_o1 := h_lt hs_o1
  rw [addr_scanner_local_p2.eq_1] at h
  try simp (disch := first | assumption | omega | (simp only [h_sl, h_al] <;> omega) | fail) only [WW, WH, ↓reduceIte, nA, nB, nC, nD, nE, nF, nG, reduceCtorEq, L_addr_scanner_local, m_addr_scanner_local_p2, c_addr_scanner_local_p2, hs_o1]
  rcases ifb h with ⟨hy13, h⟩ | ⟨hy13, h⟩
  · refine UG_nf hy13 ?_
    try simp (disch := first | assumption | omega | (simp only [h_sl, h_al] <;> omega) | fail) only [WW, WH, ↓reduceIte, nA, nB, nC, nD, nE, nF, nG, reduceCtorEq, L_addr_scanner_local, hy13, hs_o1]
    have hq := Option.some.inj h; subst hq
    refine hK _ _ _ _ _ ?_ (WxH.refl _) (kn _ (Fr.set (s := q1) hfr (.inl (by simp))) ((h_eq (by first | assumption | omega | (simp only [h_sl, h_al] <;> omega) | fail)).trans rfl))
    exact WE.cons (Wx.str) (WE.nil)
  · refine UG_go hy13 ?_
    try simp (disch := first | assumption | omega | (simp only [h_sl, h_al] <;> omega) | fail) only [WW, WH, ↓reduceIte, nA, nB, nC, nD, nE, nF, nG, reduceCtorEq, L_addr_scanner_local, hy13, hs_o1]
    obtain ⟨r16, hy14, h⟩ := bnd' h
    refine UK_e (as' := [(.str x15)]) (h := addr_plain_ok (s1 := x15) (F := F)  hy14) (hw := WL.cons (Wx.str) (WL.nil)) (hh := WxH.refl _) ?_
    try simp (disch := first | assumption | omega | (simp only [h_sl, h_al] <;> omega) | fail) only [WW, WH, ↓reduceIte, nA, nB, nC, nD, nE, nF, nG, reduceCtorEq, L_addr_scanner_local, hs_o1]
    have hq := Option.some.inj h; subst hq
    refine hK _ _ _ _ _ ?_ (WxH.refl _) (kn _ (Fr.set (s := q1) hfr (.inl (by simp))) ((h_eq (by first | assumption | omega | (simp only [h_sl, h_al] <;> omega) | fail)).trans rfl))
    exact WE.cons (Wx.str) (WE.nil)
theorem addr_scanner_local_ok {F : Nat} {x2 : ScannerV} {q1 : Nat} {H0 : AH} (hs_o1 : H0[q1]? = some [(.str x2.s), (.int .i64 x2.at0), (.bool x2.bad)]) {rz0 : List UInt8} {rz1 : ScannerV} (h : addr_scanner_local F x2 = some (rz0, rz1)) :
    ACalls Tryd.prog 70 [(.ptr q1 0)] H0 fun v H' => v = (.str rz0) ∧ H' = (H0.set q1 [(.str rz1.s), (.int .i64 rz1.at0), (.bool rz1.bad)]) := by
  refine ACalls.goX k_addr_scanner_local (m := m_addr_scanner_local) rfl L_addr_scanner_local (by decide) (by simp) fun hcl K0 hK0 => ?_
  refine AX.of_U (m := m_addr_scanner_local) rfl (by decide) ?_
  have hl_o1 := h_lt hs_o1
  have hfr := Fr.refl H0 [q1]
  have hle := hfr.le
  rw [addr_scanner_local.eq_1] at h
  obtain ⟨H, hHH⟩ : ∃ H, H = H0 := ⟨_, rfl⟩
  have hfr : Fr H0 H0.length [q1] H := hHH ▸ hfr
  have hs_o1 : H[q1]? = some [(.str x2.s), (.int .i64 x2.at0), (.bool x2.bad)] := hHH ▸ hs_o1
  have hle := hfr.le
  have hL_o1 : q1 < H.length := h_lt hs_o1
  suffices hU : U Tryd.prog L_addr_scanner_local 59 H0.length [.code m_addr_scanner_local] K0 .normal (argE 0 [(.ptr q1 0)]) H by rwa [hHH] at hU
  try simp (disch := first | assumption | omega | (simp only [h_sl, h_al] <;> omega) | fail) only [WW, WH, ↓reduceIte, nA, nB, nC, nD, nE, nF, nG, reduceCtorEq, L_addr_scanner_local, m_addr_scanner_local, hs_o1]
  obtain ⟨r3, hy1, h⟩ := bnd' h
  refine UK_e (as' := [(.ptr q1 0)]) (h := ACalls.ofE (addr_scanner_next_s_ok (x1 := x2) (H0 := []) hy1) (PEL.cons (.one _ _ (PE1.ptrL (by exact ((hs_o1).trans rfl)) (PE1L.cons (PE1.str) (PE1L.cons (PE1.int) (PE1L.cons (PE1.bool) (PE1L.nil)))))) (PEL.nil)) (by rintro _ rfl; rfl)) (hw := WL.cons (Wx.ptr) (WL.nil)) (hh := WxH.refl _) ?_
  try simp (disch := first | assumption | omega | (simp only [h_sl, h_al] <;> omega) | fail) only [WW, WH, ↓reduceIte, nA, nB, nC, nD, nE, nF, nG, reduceCtorEq, L_addr_scanner_local, hs_o1]
  rcases ifb h with ⟨hy2, h⟩ | ⟨hy2, h⟩
  · refine UC_t hy2 ?_
    try simp (disch := first | assumption | omega | (simp only [h_sl, h_al] <;> omega) | fail) only [WW, WH, ↓reduceIte, nA, nB, nC, nD, nE, nF, nG, reduceCtorEq, L_addr_scanner_local, hs_o1]
    obtain ⟨⟨r4, r5⟩, hy3, h⟩ := bnd' h
    dsimp only at h
    refine UK_e (as' := [(.ptr q1 0)]) (h := addr_scanner_quoted_ok (x2 := x2) (q1 := q1) (F := F) (by exact ((hs_o1).trans rfl)) hy3) (hw := WL.cons (Wx.ptr) (WL.nil)) (hh := WxH.refl _) ?_
    try simp (disch := first | assumption | omega | (simp only [h_sl, h_al] <;> omega) | fail) only [WW, WH, ↓reduceIte, nA, nB, nC, nD, nE, nF, nG, reduceCtorEq, L_addr_scanner_local, hs_o1]
    have hq := Option.some.inj h; have hq0 := (Prod.mk.inj hq).1; replace hq := (Prod.mk.inj hq).2; subst hq0; subst hq
    refine hK0 _ _ _ (.inr rfl) ?_
    exact fn_end1 (by exact (Fr.set (s := q1) hfr (.inl (by simp)))) hcl (resv_tmp (a := (.str r4)) rfl rfl resv_nil) (by first | (simp [fin, b_df, b_sh, b_sh1, b_Cl]; done) | (simp [fin, AV.df, AV.sh, AV.sh1, b_df, b_sh, b_sh1, b_Cl]; done)) (Wx.str) (by exact ((h_eq (by first | assumption | omega | (simp only [h_sl, h_al] <;> omega) | fail)).trans rfl)) (by first | assumption | omega | (simp only [h_sl, h_al] <;> omega) | fail) (by simp [b_Cl]; try omega) (WxC.cons (Wx.str) (WxC.cons (Wx.int) (WxC.cons (Wx.bool) (WxC.nil)))) (r' := (.str r4)) ⟨rfl, rfl⟩
  · refine UC_f hy2 ?_
    try simp (disch := first | assumption | omega | (simp only [h_sl, h_al] <;> omega) | fail) only [WW, WH, ↓reduceIte, nA, nB, nC, nD, nE, nF, nG, reduceCtorEq, L_addr_scanner_local, hs_o1]
    obtain ⟨r6, hy4, h⟩ := bnd' h
    refine UK_e (as' := [(.ptr q1 0)]) (h := ACalls.ofE (addr_scanner_next_s_ok (x1 := x2) (H0 := []) hy4) (PEL.cons (.one _ _ (PE1.ptrL (by exact ((hs_o1).trans rfl)) (PE1L.cons (PE1.str) (PE1L.cons (PE1.int) (PE1L.cons (PE1.bool) (PE1L.nil)))))) (PEL.nil)) (by rintro _ rfl; rfl)) (hw := WL.cons (Wx.ptr) (WL.nil)) (hh := WxH.refl _) ?_
    try simp (disch := first | assumption | omega | (simp only [h_sl, h_al] <;> omega) | fail) only [WW, WH, ↓reduceIte, nA, nB, nC, nD, nE, nF, nG, reduceCtorEq, L_addr_scanner_local, hs_o1]
    obtain ⟨o19, hy11, h⟩ := bnd' h
    refine UX_of (AX.weak ?_ (WxH.refl _) (addr_scanner_local_l1_ok  (q1 := q1) (x2 := x2) (c7 := r6) (s8 := x2)  (hfr) ((hs_o1).trans rfl) (by first | assumption | omega | (simp only [h_sl, h_al] <;> omega) | fail) (o := o19) hy11 ?_))
    · exact WE.cons (Wx.ptr) (WE.cons (Wx.int) (WE.cons (Wx.b8) (WE.nil)))
    · rintro s14 rfl H hfr hs_o1
      try dsimp only at h hs_o1
      have hle := hfr.le
      have hl_o1 := h_lt hs_o1
      obtain ⟨x15, hy12, h⟩ := bnd' h
      try simp (disch := first | assumption | omega | (simp only [h_sl, h_al] <;> omega) | fail) only [WW, WH, ↓reduceIte, nA, nB, nC, nD, nE, nF, nG, reduceCtorEq, L_addr_scanner_local, hy12, hs_o1]
      obtain ⟨s18, hy15, h⟩ := bnd' h
      refine UX_of (AX.weak ?_ (WxH.refl _) (addr_scanner_local_p2_ok (F := F) (s14 := s14) (x15 := x15) (q1 := q1) (s17 := s18)  (hfr) ((hs_o1).trans rfl) (by first | assumption | omega | (simp only [h_sl, h_al] <;> omega) | fail) hy15 ?_))
      · exact WE.cons (Wx.ptr) (WE.cons (Wx.str) (WE.nil))
      intro H hfr hs_o1
      have hle := hfr.le
      have hl_o1 := h_lt hs_o1
      try simp (disch := first | assumption | omega | (simp only [h_sl, h_al] <;> omega) | fail) only [WW, WH, ↓reduceIte, nA, nB, nC, nD, nE, nF, nG, reduceCtorEq, L_addr_scanner_local, hs_o1]
      have hq := Option.some.inj h; have hq0 := (Prod.mk.inj hq).1; replace hq := (Prod.mk.inj hq).2; subst hq0; subst hq
      refine hK0 _ _ _ (.inr rfl) ?_
      exact fn_end1 (by exact hfr) hcl (resv_tmp (a := (.str x15)) rfl rfl resv_nil) (by first | (simp [fin, b_df, b_sh, b_sh1, b_Cl]; done) | (simp [fin, AV.df, AV.sh, AV.sh1, b_df, b_sh, b_sh1, b_Cl]; done)) (Wx.str) (by exact ((hs_o1).trans rfl)) (by first | assumption | omega | (simp only [h_sl, h_al] <;> omega) | fail) (by simp [b_Cl]; try omega) (WxC.cons (Wx.str) (WxC.cons (Wx.int) (WxC.cons (Wx.bool) (WxC.nil)))) (r' := (.str x15)) ⟨rfl, rfl⟩

/-! ### mailbag/addr.null -/
def c_addr_null : ACode := (.seq (.rg [⟨(some 1), (.box (.t 0)), none⟩, ⟨(some 2), (.asg (.c (.bool false))), none⟩]) (.seq (.rg [⟨(some 3), (.ld (.t 1) (some 2)), none⟩, ⟨(some 4), (.build [(.str []), (.str [])] []), none⟩, ⟨(some 5), (.seq [.s, .s] false (.t 3) (.t 4)), none⟩, ⟨(some 2), (.asg (.t 5)), none⟩]) .ret))
abbrev m_addr_null := c_addr_null
theorem k_addr_null : FnOk Tryd.prog 85 6 [(.tmp 2)] c_addr_null := ⟨Tryd.f85, _, rfl, by decide, rfl, by kernel_rfl, rfl, rfl⟩
abbrev L_addr_null : List Nat := [0, 1, 2]
def addr_null (a1 : AddressV) : Option (Bool) :=
  some (decide (a1.local0 = ([] : List UInt8)) && decide (a1.domain = ([] : List UInt8)))
theorem addr_null_ok {a1 : AddressV}  {H0 : AH}  {rz0 : Bool} (h : addr_null a1 = some rz0) :
    ACalls Tryd.prog 85 [(.agg [(.str a1.local0), (.str a1.domain)])] H0 fun v H' => v = (.bool rz0) ∧ H' = H0 := by
  refine ACalls.goX k_addr_null (m := m_addr_null) rfl L_addr_null (by decide) (by simp) fun hcl K0 hK0 => ?_
  refine AX.of_U (m := m_addr_null) rfl (by decide) ?_
  have hfr := Fr.refl H0 []
  have hle := hfr.le
  rw [addr_null.eq_1] at h
  obtain ⟨H, hHH⟩ : ∃ H, H = H0 := ⟨_, rfl⟩
  have hfr : Fr H0 H0.length [] H := hHH ▸ hfr
  have hle := hfr.le
  suffices hU : U Tryd.prog L_addr_null 6 H0.length [.code m_addr_null] K0 .normal (argE 0 [(.agg [(.str a1.local0), (.str a1.domain)])]) H by rwa [hHH] at hU
  try simp (disch := first | assumption | omega | (simp only [h_sl, h_al] <;> omega) | fail) only [WW, WH, ↓reduceIte, nA, nB, nC, nD, nE, nF, nG, reduceCtorEq, L_addr_null, m_addr_null, c_addr_null]
  have hq := Option.some.inj h; subst hq
  refine hK0 _ _ _ (.inr rfl) ?_
  exact fn_end0 (by exact (Fr.app hfr)) hcl (resv_tmp (a := (.bool (decide (a1.local0 = ([] : List UInt8)) && decide (a1.domain = ([] : List UInt8))))) rfl rfl resv_nil) (by first | (simp [fin, b_df, b_sh, b_sh1, b_Cl]; done) | (simp [fin, AV.df, AV.sh, AV.sh1, b_df, b_sh, b_sh1, b_Cl]; done)) (Wx.bool) (r' := (.bool (decide (a1.local0 = ([] : List UInt8)) && decide (a1.domain = ([] : List UInt8))))) ⟨rfl, rfl⟩

end Go.Proofs.AddrS
