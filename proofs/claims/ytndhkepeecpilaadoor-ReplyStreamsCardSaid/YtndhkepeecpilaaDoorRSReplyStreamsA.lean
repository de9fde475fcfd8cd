import Derived.Test.YtndhkepeecpilaaDoorRS2
set_option linter.unusedSimpArgs false
set_option linter.unusedVariables false
set_option linter.unusedSectionVars false
set_option linter.defProp false
set_option maxRecDepth 100000
namespace Go.Proofs.ReplyS
open Go Go.Am Go.Proofs

/-! ### mailbag/mailbagref16.New -/
def c_ref16_New : ACode := (.seq (.rg [⟨(some 0), (.asg (.c (.v (.pointer none)))), none⟩]) (.seq (.rg [⟨(some 1), (.build [(.int .i64 0), (.sl .ex 1 []), (.int .i64 0), (.bool false)] [(0, (1, (.c (.int .i64 512))))]), none⟩, ⟨(some 2), (.build [(.int .i64 0), (.sl .ex 1 []), (.int .i64 0), (.bool false), (.int .i64 0), (.sl .ex 1 []), (.bool false)] [(0, (4, (.t 1)))]), none⟩, ⟨(some 3), (.box (.t 2)), none⟩, ⟨(some 0), (.asg (.t 3)), none⟩]) .ret))
abbrev m_ref16_New := c_ref16_New
theorem k_ref16_New : FnOk Tryd.prog 13 4 [(.tmp 0)] c_ref16_New := ⟨Tryd.f13, _, rfl, by decide, rfl, by kernel_rfl, rfl, rfl⟩
abbrev L_ref16_New : List Nat := [0]
def ref16_New  : Option ((Option ReaderVx)) :=
  some (some (ReaderVx.mk (SplitterVx.mk 512 ([] : List UInt8) 0 false) 0 ([] : List (List UInt8)) false))
set_option maxHeartbeats 2000000 in
theorem ref16_New_ok   {H0 : AH}  {rz0 : Option ReaderVx} (h : ref16_New  = some rz0) :
    ACalls Tryd.prog 13 [] H0 fun v H' => match (generalizing := false) rz0 with | none => v = (.v (.pointer none)) ∧ Fr H0 H0.length [] H' | some x9000 => ∃ q9001, v = (.ptr q9001 0) ∧ H0.length ≤ q9001 ∧ Fr H0 H0.length [] H' ∧ H'[q9001]? = some [(.int .i64 x9000.s.most), (.sl .own 1 (ml b8 x9000.s.b)), (.int .i64 x9000.s.n), (.bool x9000.s.cR), (.int .i64 x9000.code), (.sl .own 1 (ml AV.str x9000.l)), (.bool x9000.bad)] := by
  refine ACalls.goX k_ref16_New (m := m_ref16_New) rfl L_ref16_New (by decide) (by simp) fun hcl K0 hK0 => ?_
  refine AX.of_U (m := m_ref16_New) rfl (by decide) ?_
  have hfr := Fr.refl H0 []
  have hle := hfr.le
  rw [ref16_New.eq_1] at h
  obtain ⟨H, hHH⟩ : ∃ H, H = H0 := ⟨_, rfl⟩
  have hfr : Fr H0 H0.length [] H := hHH ▸ hfr
  have hle := hfr.le
  suffices hU : U Tryd.prog L_ref16_New 4 H0.length [.code m_ref16_New] K0 .normal (argE 0 []) H by rwa [hHH] at hU
  simp (disch := first | assumption | omega | (simp only [h_sl, h_al] <;> omega) | fail) only [WW, WH, ↓reduceIte, Nat.reduceEqDiff, Nat.reduceLT, Nat.reduceLeDiff, Nat.reduceAdd, Nat.reduceSub, Nat.reduceMul, Nat.reduceBEq, reduceCtorEq, if_false, if_true, L_ref16_New, m_ref16_New, c_ref16_New, encReplyV]
  have hq := Option.some.inj h; subst hq
  refine hK0 _ _ _ (.inr rfl) ?_
  exact fn_endB (resv_tmp (a := (.ptr H.length 0)) rfl rfl resv_nil) (r' := (.ptr H.length 0)) (Wx.ptr) (WxH.set (q := H.length) (cs' := [(.int .i64 512), (.sl .own 1 []), (.int .i64 0), (.bool false), (.int .i64 0), (.sl .own 1 []), (.bool false)]) ((h_new' (by first | assumption | omega | (simp only [h_sl, h_al] <;> omega) | fail)).trans rfl) (WxC.cons (Wx.int) (WxC.cons (Wx.own ..) (WxC.cons (Wx.int) (WxC.cons (Wx.bool) (WxC.cons (Wx.int) (WxC.cons (Wx.own ..) (WxC.cons (Wx.bool) (WxC.nil))))))))) ⟨H.length, rfl, by first | assumption | omega | (simp only [h_sl, h_al] <;> omega) | fail, by exact (Fr.set (s := H.length) (Fr.app hfr) (.inr (by first | assumption | omega | (simp only [h_sl, h_al] <;> omega) | fail))), by exact ((h_eq (by first | assumption | omega | (simp only [h_sl, h_al] <;> omega) | fail)).trans rfl)⟩

/-! ### (*mailbag/mailbagref13.Splitter).Reset -/
def c_ref13_Splitter_Reset_sx : ACode := (.seq (.rg [⟨(some 2), (.mv (.t 0)), none⟩, ⟨(some 3), (.nck (.t 2)), none⟩, ⟨(some 4), (.fld (.t 3) 1), none⟩, ⟨none, (.st (.t 4) (.c (.sl .ex 1 [])) 1), none⟩]) (.seq (.rg [⟨(some 5), (.mv (.t 0)), none⟩, ⟨(some 6), (.nck (.t 5)), none⟩, ⟨(some 7), (.fld (.t 6) 2), none⟩, ⟨none, (.st (.t 7) (.c (.int .i64 0)) 1), none⟩]) (.rg [⟨(some 8), (.mv (.t 0)), none⟩, ⟨(some 9), (.nck (.t 8)), none⟩, ⟨(some 10), (.fld (.t 9) 3), none⟩, ⟨none, (.st (.t 10) (.c (.bool false)) 1), none⟩])))
abbrev m_ref13_Splitter_Reset_sx := c_ref13_Splitter_Reset_sx
theorem k_ref13_Splitter_Reset_sx : FnOk Tryd.prog 47 11 [] c_ref13_Splitter_Reset_sx := ⟨Tryd.f47, _, rfl, by decide, rfl, by kernel_rfl, rfl, rfl⟩
abbrev L_ref13_Splitter_Reset_sx : List Nat := [0]
def ref13_Splitter_Reset_sx (s2 : ReaderVx) : Option (ReaderVx) :=
  some (ReaderVx.mk (SplitterVx.mk s2.s.most ([] : List UInt8) 0 false) s2.code s2.l s2.bad)
set_option maxHeartbeats 2000000 in
theorem ref13_Splitter_Reset_sx_ok {s2 : ReaderVx} {q1 : Nat} {H0 : AH} (hs_o1 : H0[q1]? = some [(.int .i64 s2.s.most), (.sl .own 1 (ml b8 s2.s.b)), (.int .i64 s2.s.n), (.bool s2.s.cR), (.int .i64 s2.code), (.sl .own 1 (ml AV.str s2.l)), (.bool s2.bad)]) {rz0 : ReaderVx} (h : ref13_Splitter_Reset_sx s2 = some rz0) :
    ACalls Tryd.prog 47 [(.ptr q1 0)] H0 fun v H' => v = (.tup []) ∧ H' = (H0.set q1 [(.int .i64 rz0.s.most), (.sl .own 1 (ml b8 rz0.s.b)), (.int .i64 rz0.s.n), (.bool rz0.s.cR), (.int .i64 rz0.code), (.sl .own 1 (ml AV.str rz0.l)), (.bool rz0.bad)]) := by
  refine ACalls.goX k_ref13_Splitter_Reset_sx (m := m_ref13_Splitter_Reset_sx) rfl L_ref13_Splitter_Reset_sx (by decide) (by simp) fun hcl K0 hK0 => ?_
  refine AX.of_U (m := m_ref13_Splitter_Reset_sx) rfl (by decide) ?_
  have hl_o1 := h_lt hs_o1
  have hfr := Fr.refl H0 [q1]
  have hle := hfr.le
  rw [ref13_Splitter_Reset_sx.eq_1] at h
  obtain ⟨H, hHH⟩ : ∃ H, H = H0 := ⟨_, rfl⟩
  have hfr : Fr H0 H0.length [q1] H := hHH ▸ hfr
  have hs_o1 : H[q1]? = some [(.int .i64 s2.s.most), (.sl .own 1 (ml b8 s2.s.b)), (.int .i64 s2.s.n), (.bool s2.s.cR), (.int .i64 s2.code), (.sl .own 1 (ml AV.str s2.l)), (.bool s2.bad)] := hHH ▸ hs_o1
  have hle := hfr.le
  have hL_o1 : q1 < H.length := h_lt hs_o1
  suffices hU : U Tryd.prog L_ref13_Splitter_Reset_sx 11 H0.length [.code m_ref13_Splitter_Reset_sx] K0 .normal (argE 0 [(.ptr q1 0)]) H by rwa [hHH] at hU
  simp (disch := first | assumption | omega | (simp only [h_sl, h_al] <;> omega) | fail) only [WW, WH, ↓reduceIte, Nat.reduceEqDiff, Nat.reduceLT, Nat.reduceLeDiff, Nat.reduceAdd, Nat.reduceSub, Nat.reduceMul, Nat.reduceBEq, reduceCtorEq, if_false, if_true, L_ref13_Splitter_Reset_sx, m_ref13_Splitter_Reset_sx, c_ref13_Splitter_Reset_sx, hs_o1, encReplyV]
  have hq := Option.some.inj h; subst hq
  refine hK0 _ _ _ (.inl rfl) ?_
  exact fn_end1 (by exact (Fr.set (s := q1) (Fr.set (s := q1) (Fr.set (s := q1) hfr (.inl (by simp))) (.inl (by simp))) (.inl (by simp)))) hcl resv_nil (by simp [fin, AV.df, AV.sh, AV.sh1, b_df, b_sh, b_sh1, b_Cl]) (Wx.tupX (W2L.nil)) (by exact ((h_eq (by first | assumption | omega | (simp only [h_sl, h_al] <;> omega) | fail)).trans rfl)) (by first | assumption | omega | (simp only [h_sl, h_al] <;> omega) | fail) (by simp [b_Cl]; try omega) (WxC.cons (Wx.int) (WxC.cons (Wx.own ..) (WxC.cons (Wx.int) (WxC.cons (Wx.bool) (WxC.cons (Wx.int) (WxC.cons (Wx.oo) (WxC.cons (Wx.bool) (WxC.nil)))))))) (r' := (.tup [])) ⟨rfl, rfl⟩

/-! ### (*mailbag/mailbagref13.Splitter).add -/
def c_ref13_Splitter_add_sx : ACode := (.seq (.rg [⟨(some 4), (.mv (.t 0)), none⟩, ⟨(some 5), (.nck (.t 4)), none⟩, ⟨(some 6), (.fld (.t 5) 2), none⟩, ⟨(some 7), (.ld (.t 6) none), none⟩, ⟨(some 8), (.bin .add (.t 7) (.c (.int .i64 1))), none⟩, ⟨(some 9), (.nck (.t 4)), none⟩, ⟨(some 10), (.fld (.t 9) 2), none⟩, ⟨none, (.st (.t 10) (.t 8) 1), none⟩]) (.seq (.rg [⟨(some 11), (.mv (.t 0)), none⟩, ⟨(some 12), (.nck (.t 11)), none⟩, ⟨(some 13), (.fld (.t 12) 1), none⟩, ⟨(some 14), (.ld (.t 13) none), none⟩, ⟨(some 15), (.len (.t 14)), none⟩, ⟨(some 16), (.mv (.t 0)), none⟩, ⟨(some 17), (.nck (.t 16)), none⟩, ⟨(some 18), (.fld (.t 17) 0), none⟩, ⟨(some 19), (.ld (.t 18) none), none⟩, ⟨(some 20), (.bin .sub (.t 19) (.c (.int .i64 2))), none⟩, ⟨(some 21), (.bin .lss (.t 15) (.t 20)), none⟩]) (.cond (.t 21) (.rg [⟨(some 22), (.mv (.t 0)), none⟩, ⟨(some 23), (.bsl 1 []), none⟩, ⟨(some 24), (.mv (.t 0)), none⟩, ⟨(some 25), (.nck (.t 24)), none⟩, ⟨(some 26), (.fld (.t 25) 1), none⟩, ⟨(some 27), (.ld (.t 26) none), none⟩, ⟨(some 28), (.app 1 1 (.t 23) (.t 27)), none⟩, ⟨(some 29), (.mv (.t 1)), none⟩, ⟨(some 30), (.bsl 1 [(.t 29)]), none⟩, ⟨(some 31), (.app 1 1 (.t 28) (.t 30)), none⟩, ⟨(some 32), (.nck (.t 22)), none⟩, ⟨(some 33), (.fld (.t 32) 1), none⟩, ⟨none, (.st (.t 33) (.t 31) 1), none⟩]) .skip)))
abbrev m_ref13_Splitter_add_sx := c_ref13_Splitter_add_sx
theorem k_ref13_Splitter_add_sx : FnOk Tryd.prog 48 34 [] c_ref13_Splitter_add_sx := ⟨Tryd.f48, _, rfl, by decide, rfl, by kernel_rfl, rfl, rfl⟩
abbrev L_ref13_Splitter_add_sx : List Nat := [0, 1, 21]
def ref13_Splitter_add_sx (s2 : ReaderVx) (c3 : UInt8) : Option (ReaderVx) :=
  (if (decide ((s2.s.b.length : Int) < (IntKind.wrap .i64 (s2.s.most - 2)))) then
    (capp 1 ([] : List UInt8) s2.s.b).bind fun x4 =>
    (capp 1 x4 ([c3] : List UInt8)).bind fun x5 =>
    some (ReaderVx.mk (SplitterVx.mk s2.s.most x5 (IntKind.wrap .i64 (s2.s.n + 1)) s2.s.cR) s2.code s2.l s2.bad)
  else
    some (ReaderVx.mk (SplitterVx.mk s2.s.most s2.s.b (IntKind.wrap .i64 (s2.s.n + 1)) s2.s.cR) s2.code s2.l s2.bad))
set_option maxHeartbeats 2000000 in
theorem ref13_Splitter_add_sx_ok {s2 : ReaderVx} {c3 : UInt8} {q1 : Nat} {H0 : AH} (hs_o1 : H0[q1]? = some [(.int .i64 s2.s.most), (.sl .own 1 (ml b8 s2.s.b)), (.int .i64 s2.s.n), (.bool s2.s.cR), (.int .i64 s2.code), (.sl .own 1 (ml AV.str s2.l)), (.bool s2.bad)]) {rz0 : ReaderVx} (h : ref13_Splitter_add_sx s2 c3 = some rz0) :
    ACalls Tryd.prog 48 [(.ptr q1 0), (b8 c3)] H0 fun v H' => v = (.tup []) ∧ H' = (H0.set q1 [(.int .i64 rz0.s.most), (.sl .own 1 (ml b8 rz0.s.b)), (.int .i64 rz0.s.n), (.bool rz0.s.cR), (.int .i64 rz0.code), (.sl .own 1 (ml AV.str rz0.l)), (.bool rz0.bad)]) := by
  refine ACalls.goX k_ref13_Splitter_add_sx (m := m_ref13_Splitter_add_sx) rfl L_ref13_Splitter_add_sx (by decide) (by simp) fun hcl K0 hK0 => ?_
  refine AX.of_U (m := m_ref13_Splitter_add_sx) rfl (by decide) ?_
  have hl_o1 := h_lt hs_o1
  have hfr := Fr.refl H0 [q1]
  have hle := hfr.le
  rw [ref13_Splitter_add_sx.eq_1] at h
  obtain ⟨H, hHH⟩ : ∃ H, H = H0 := ⟨_, rfl⟩
  have hfr : Fr H0 H0.length [q1] H := hHH ▸ hfr
  have hs_o1 : H[q1]? = some [(.int .i64 s2.s.most), (.sl .own 1 (ml b8 s2.s.b)), (.int .i64 s2.s.n), (.bool s2.s.cR), (.int .i64 s2.code), (.sl .own 1 (ml AV.str s2.l)), (.bool s2.bad)] := hHH ▸ hs_o1
  have hle := hfr.le
  have hL_o1 : q1 < H.length := h_lt hs_o1
  suffices hU : U Tryd.prog L_ref13_Splitter_add_sx 34 H0.length [.code m_ref13_Splitter_add_sx] K0 .normal (argE 0 [(.ptr q1 0), (b8 c3)]) H by rwa [hHH] at hU
  simp (disch := first | assumption | omega | (simp only [h_sl, h_al] <;> omega) | fail) only [WW, WH, ↓reduceIte, Nat.reduceEqDiff, Nat.reduceLT, Nat.reduceLeDiff, Nat.reduceAdd, Nat.reduceSub, Nat.reduceMul, Nat.reduceBEq, reduceCtorEq, if_false, if_true, L_ref13_Splitter_add_sx, m_ref13_Splitter_add_sx, c_ref13_Splitter_add_sx, hs_o1, encReplyV]
  rcases ifb h with ⟨hy1, h⟩ | ⟨hy1, h⟩
  · refine UC_t hy1 ?_
    obtain ⟨x4, hy2, h⟩ := bnd' h
    have hy3 : capp 1 [] (ml b8 s2.s.b) = some (ml b8 x4) := capp_m (f := b8) hy2
    obtain ⟨x5, hy4, h⟩ := bnd' h
    have hy5 : capp 1 (ml b8 x4) [(b8 c3)] = some (ml b8 x5) := capp_m (f := b8) hy4
    simp (disch := first | assumption | omega | (simp only [h_sl, h_al] <;> omega) | fail) only [WW, WH, ↓reduceIte, Nat.reduceEqDiff, Nat.reduceLT, Nat.reduceLeDiff, Nat.reduceAdd, Nat.reduceSub, Nat.reduceMul, Nat.reduceBEq, reduceCtorEq, if_false, if_true, L_ref13_Splitter_add_sx, hy3, hy5, hs_o1, encReplyV]
    have hq := Option.some.inj h; subst hq
    refine hK0 _ _ _ (.inl rfl) ?_
    exact fn_end1 (by exact (Fr.set (s := q1) (Fr.set (s := q1) hfr (.inl (by simp))) (.inl (by simp)))) hcl resv_nil (by simp [fin, AV.df, AV.sh, AV.sh1, b_df, b_sh, b_sh1, b_Cl]) (Wx.tupX (W2L.nil)) (by exact ((h_eq (by first | assumption | omega | (simp only [h_sl, h_al] <;> omega) | fail)).trans rfl)) (by first | assumption | omega | (simp only [h_sl, h_al] <;> omega) | fail) (by simp [b_Cl]; try omega) (WxC.cons (Wx.int) (WxC.cons (Wx.oo) (WxC.cons (Wx.int) (WxC.cons (Wx.bool) (WxC.cons (Wx.int) (WxC.cons (Wx.oo) (WxC.cons (Wx.bool) (WxC.nil)))))))) (r' := (.tup [])) ⟨rfl, rfl⟩
  · refine UC_f hy1 ?_
    simp (disch := first | assumption | omega | (simp only [h_sl, h_al] <;> omega) | fail) only [WW, WH, ↓reduceIte, Nat.reduceEqDiff, Nat.reduceLT, Nat.reduceLeDiff, Nat.reduceAdd, Nat.reduceSub, Nat.reduceMul, Nat.reduceBEq, reduceCtorEq, if_false, if_true, L_ref13_Splitter_add_sx, hs_o1, encReplyV]
    have hq := Option.some.inj h; subst hq
    refine hK0 _ _ _ (.inl rfl) ?_
    exact fn_end1 (by exact (Fr.set (s := q1) hfr (.inl (by simp)))) hcl resv_nil (by simp [fin, AV.df, AV.sh, AV.sh1, b_df, b_sh, b_sh1, b_Cl]) (Wx.tupX (W2L.nil)) (by exact ((h_eq (by first | assumption | omega | (simp only [h_sl, h_al] <;> omega) | fail)).trans rfl)) (by first | assumption | omega | (simp only [h_sl, h_al] <;> omega) | fail) (by simp [b_Cl]; try omega) (WxC.cons (Wx.int) (WxC.cons (Wx.oo) (WxC.cons (Wx.int) (WxC.cons (Wx.bool) (WxC.cons (Wx.int) (WxC.cons (Wx.oo) (WxC.cons (Wx.bool) (WxC.nil)))))))) (r' := (.tup [])) ⟨rfl, rfl⟩

/-! ### (*mailbag/mailbagref13.Splitter).Put -/
def c_ref13_Splitter_Put_sx_p1 : ACode := (.rg [⟨(some 7), (.mv (.t 0)), none⟩, ⟨(some 8), (.nck (.t 7)), none⟩, ⟨(some 9), (.fld (.t 8) 3), none⟩, ⟨(some 10), (.ld (.t 9) none), none⟩, ⟨(some 11), (.mv (.t 10)), none⟩, ⟨(some 12), (.mv (.t 1)), (some (11, true))⟩, ⟨(some 13), (.bin .eql (.t 12) (.c (b8 10))), (some (11, true))⟩, ⟨(some 14), (.pick (.t 11) (.t 13) (.c (.bool false))), none⟩])
abbrev m_ref13_Splitter_Put_sx_p1 := c_ref13_Splitter_Put_sx_p1
def c_ref13_Splitter_Put_sx_p2 : ACode := (.cond (.t 37) (.seq (.rg [⟨(some 38), (.mv (.t 0)), none⟩, ⟨(some 39), (.call (.c (.fn 48 [])) [(.t 38), (.c (b8 13))]), none⟩]) (.rg [⟨(some 40), (.mv (.t 0)), none⟩, ⟨(some 41), (.nck (.t 40)), none⟩, ⟨(some 42), (.fld (.t 41) 3), none⟩, ⟨none, (.st (.t 42) (.c (.bool false)) 1), none⟩])) .skip)
abbrev m_ref13_Splitter_Put_sx_p2 := c_ref13_Splitter_Put_sx_p2
def c_ref13_Splitter_Put_sx : ACode := (.seq (.rg [⟨(some 4), (.alloc [(.str []), (.bool false)]), none⟩, ⟨(some 5), (.asg (.c (.bool false))), none⟩]) (.seq (.seq c_ref13_Splitter_Put_sx_p1 (.cond (.t 14) (.seq (.rg [⟨(some 15), (.mv (.t 0)), none⟩, ⟨(some 16), (.nck (.t 15)), none⟩, ⟨(some 17), (.fld (.t 16) 1), none⟩, ⟨(some 18), (.ld (.t 17) none), none⟩, ⟨(some 19), (.cvt .bs (.t 18)), none⟩, ⟨(some 20), (.mv (.t 0)), none⟩, ⟨(some 21), (.nck (.t 20)), none⟩, ⟨(some 22), (.fld (.t 21) 2), none⟩, ⟨(some 23), (.ld (.t 22) none), none⟩, ⟨(some 24), (.mv (.t 0)), none⟩, ⟨(some 25), (.nck (.t 24)), none⟩, ⟨(some 26), (.fld (.t 25) 0), none⟩, ⟨(some 27), (.ld (.t 26) none), none⟩, ⟨(some 28), (.bin .sub (.t 27) (.c (.int .i64 2))), none⟩, ⟨(some 29), (.bin .gtr (.t 23) (.t 28)), none⟩, ⟨(some 30), (.build [(.str []), (.bool false)] [(0, (1, (.t 19))), (1, (1, (.t 29)))]), none⟩, ⟨(some 6), (.alloc [(.str []), (.bool false)]), none⟩, ⟨none, (.st (.t 6) (.t 30) 2), none⟩]) (.seq (.rg [⟨(some 31), (.mv (.t 0)), none⟩, ⟨(some 32), (.call (.c (.fn 47 [])) [(.t 31)]), none⟩]) (.seq (.rg [⟨(some 33), (.ld (.t 6) (some 2)), none⟩, ⟨none, (.st (.t 4) (.t 33) 2), none⟩, ⟨(some 5), (.asg (.c (.bool true))), none⟩]) .ret))) .skip)) (.seq (.seq (.rg [⟨(some 34), (.mv (.t 0)), none⟩, ⟨(some 35), (.nck (.t 34)), none⟩, ⟨(some 36), (.fld (.t 35) 3), none⟩, ⟨(some 37), (.ld (.t 36) none), none⟩]) c_ref13_Splitter_Put_sx_p2) (.seq (.seq (.rg [⟨(some 43), (.mv (.t 1)), none⟩, ⟨(some 44), (.bin .eql (.t 43) (.c (b8 13))), none⟩]) (.cond (.t 44) (.rg [⟨(some 45), (.mv (.t 0)), none⟩, ⟨(some 46), (.nck (.t 45)), none⟩, ⟨(some 47), (.fld (.t 46) 3), none⟩, ⟨none, (.st (.t 47) (.c (.bool true)) 1), none⟩]) (.rg [⟨(some 48), (.mv (.t 0)), none⟩, ⟨(some 49), (.mv (.t 1)), none⟩, ⟨(some 50), (.call (.c (.fn 48 [])) [(.t 48), (.t 49)]), none⟩]))) (.seq (.rg [⟨(some 51), (.build [(.str []), (.bool false)] []), none⟩, ⟨none, (.st (.t 4) (.t 51) 2), none⟩, ⟨(some 5), (.asg (.c (.bool false))), none⟩]) .ret)))))
def m_ref13_Splitter_Put_sx : ACode := (.seq (.rg [⟨(some 4), (.alloc [(.str []), (.bool false)]), none⟩, ⟨(some 5), (.asg (.c (.bool false))), none⟩]) (.seq (.seq (.sem c_ref13_Splitter_Put_sx_p1) (.cond (.t 14) (.seq (.rg [⟨(some 15), (.mv (.t 0)), none⟩, ⟨(some 16), (.nck (.t 15)), none⟩, ⟨(some 17), (.fld (.t 16) 1), none⟩, ⟨(some 18), (.ld (.t 17) none), none⟩, ⟨(some 19), (.cvt .bs (.t 18)), none⟩, ⟨(some 20), (.mv (.t 0)), none⟩, ⟨(some 21), (.nck (.t 20)), none⟩, ⟨(some 22), (.fld (.t 21) 2), none⟩, ⟨(some 23), (.ld (.t 22) none), none⟩, ⟨(some 24), (.mv (.t 0)), none⟩, ⟨(some 25), (.nck (.t 24)), none⟩, ⟨(some 26), (.fld (.t 25) 0), none⟩, ⟨(some 27), (.ld (.t 26) none), none⟩, ⟨(some 28), (.bin .sub (.t 27) (.c (.int .i64 2))), none⟩, ⟨(some 29), (.bin .gtr (.t 23) (.t 28)), none⟩, ⟨(some 30), (.build [(.str []), (.bool false)] [(0, (1, (.t 19))), (1, (1, (.t 29)))]), none⟩, ⟨(some 6), (.alloc [(.str []), (.bool false)]), none⟩, ⟨none, (.st (.t 6) (.t 30) 2), none⟩]) (.seq (.rg [⟨(some 31), (.mv (.t 0)), none⟩, ⟨(some 32), (.call (.c (.fn 47 [])) [(.t 31)]), none⟩]) (.seq (.rg [⟨(some 33), (.ld (.t 6) (some 2)), none⟩, ⟨none, (.st (.t 4) (.t 33) 2), none⟩, ⟨(some 5), (.asg (.c (.bool true))), none⟩]) .ret))) .skip)) (.seq (.seq (.rg [⟨(some 34), (.mv (.t 0)), none⟩, ⟨(some 35), (.nck (.t 34)), none⟩, ⟨(some 36), (.fld (.t 35) 3), none⟩, ⟨(some 37), (.ld (.t 36) none), none⟩]) (.sem c_ref13_Splitter_Put_sx_p2)) (.seq (.seq (.rg [⟨(some 43), (.mv (.t 1)), none⟩, ⟨(some 44), (.bin .eql (.t 43) (.c (b8 13))), none⟩]) (.cond (.t 44) (.rg [⟨(some 45), (.mv (.t 0)), none⟩, ⟨(some 46), (.nck (.t 45)), none⟩, ⟨(some 47), (.fld (.t 46) 3), none⟩, ⟨none, (.st (.t 47) (.c (.bool true)) 1), none⟩]) (.rg [⟨(some 48), (.mv (.t 0)), none⟩, ⟨(some 49), (.mv (.t 1)), none⟩, ⟨(some 50), (.call (.c (.fn 48 [])) [(.t 48), (.t 49)]), none⟩]))) (.seq (.rg [⟨(some 51), (.build [(.str []), (.bool false)] []), none⟩, ⟨none, (.st (.t 4) (.t 51) 2), none⟩, ⟨(some 5), (.asg (.c (.bool false))), none⟩]) .ret)))))
theorem k_ref13_Splitter_Put_sx : FnOk Tryd.prog 43 52 [(.cell 4 84), (.tmp 5)] c_ref13_Splitter_Put_sx := ⟨Tryd.f43, _, rfl, by decide, rfl, by kernel_rfl, rfl, rfl⟩
abbrev L_ref13_Splitter_Put_sx : List Nat := [0, 1, 4, 5, 6, 14, 37, 44]
def ref13_Splitter_Put_sx_p2 (s2 : ReaderVx) : Option (ReaderVx) :=
  (if s2.s.cR then
    (ref13_Splitter_add_sx s2 13).bind fun r7 =>
    some (ReaderVx.mk (SplitterVx.mk r7.s.most r7.s.b r7.s.n false) r7.code r7.l r7.bad)
  else
    some s2)
def ref13_Splitter_Put_sx (s2 : ReaderVx) (c3 : UInt8) : Option (LineV × Bool × ReaderVx) :=
  (if (s2.s.cR && (decide (c3 = 10))) then
    (ref13_Splitter_Reset_sx s2).bind fun r5 =>
    some ((LineV.mk s2.s.b (decide ((IntKind.wrap .i64 (s2.s.most - 2)) < s2.s.n))), true, r5)
  else
    (ref13_Splitter_Put_sx_p2 s2).bind fun s9 =>
    (if (decide (c3 = 13)) then
      some ((LineV.mk ([] : List UInt8) false), false, (ReaderVx.mk (SplitterVx.mk s9.s.most s9.s.b s9.s.n true) s9.code s9.l s9.bad))
    else
      (ref13_Splitter_add_sx s9 c3).bind fun r10 => some ((LineV.mk ([] : List UInt8) false), false, r10)))
set_option maxHeartbeats 2000000 in
theorem ref13_Splitter_Put_sx_p1_ok {q1 : Nat} {c3 : UInt8} {q4 : Nat} {s2 : ReaderVx} {H0 H : AH} (hfr : Fr H0 H0.length [q1] H) (hs_o1 : H[q1]? = some [(.int .i64 s2.s.most), (.sl .own 1 (ml b8 s2.s.b)), (.int .i64 s2.s.n), (.bool s2.s.cR), (.int .i64 s2.code), (.sl .own 1 (ml AV.str s2.l)), (.bool s2.bad)]) (hs_o2 : H[q4]? = some [(.str ([] : List UInt8)), (.bool false)]) (hi0 : q1 < H0.length) (hi1 : H0.length ≤ q4) {K : Exit → Env → AH → Prop}
    (kn : ∀ H' : AH, Fr H0 H0.length [q1] H' → H'[q1]? = some [(.int .i64 s2.s.most), (.sl .own 1 (ml b8 s2.s.b)), (.int .i64 s2.s.n), (.bool s2.s.cR), (.int .i64 s2.code), (.sl .own 1 (ml AV.str s2.l)), (.bool s2.bad)] → H'[q4]? = some [(.str ([] : List UInt8)), (.bool false)] → K .normal [(0, (.ptr q1 0)), (1, (b8 c3)), (4, (.ptr q4 0)), (14, (.bool (s2.s.cR && (decide (c3 = 10)))))] H') :
    AX Tryd.prog L_ref13_Splitter_Put_sx 52 H0.length c_ref13_Splitter_Put_sx_p1 K [(0, (.ptr q1 0)), (1, (b8 c3)), (4, (.ptr q4 0))] H := by
  refine AX.go (m := m_ref13_Splitter_Put_sx_p1) rfl (by decide) fun K' hK => ?_
  have hle := hfr.le
  have hl_o1 := h_lt hs_o1
  have hl_o2 := h_lt hs_o2
  simp (disch := first | assumption | omega | (simp only [h_sl, h_al] <;> omega) | fail) only [WW, WH, ↓reduceIte, Nat.reduceEqDiff, Nat.reduceLT, Nat.reduceLeDiff, Nat.reduceAdd, Nat.reduceSub, Nat.reduceMul, Nat.reduceBEq, reduceCtorEq, if_false, if_true, L_ref13_Splitter_Put_sx, m_ref13_Splitter_Put_sx_p1, c_ref13_Splitter_Put_sx_p1, hs_o1, hs_o2, encReplyV]
  rcases bcases (s2.s.cR) with hy1 | hy1
  · refine UG_go hy1 ?_
    simp (disch := first | assumption | omega | (simp only [h_sl, h_al] <;> omega) | fail) only [WW, WH, ↓reduceIte, Nat.reduceEqDiff, Nat.reduceLT, Nat.reduceLeDiff, Nat.reduceAdd, Nat.reduceSub, Nat.reduceMul, Nat.reduceBEq, reduceCtorEq, if_false, if_true, L_ref13_Splitter_Put_sx, hy1, hs_o1, hs_o2, encReplyV]
    refine hK _ _ _ _ _ ?_ (WxH.refl _) (kn _ hfr ((hs_o1).trans rfl) ((hs_o2).trans rfl))
    exact WE.cons (Wx.ptr) (WE.cons (Wx.b8) (WE.cons (Wx.ptr) (WE.cons (Wx.boolE (by simp only [hy1, WB])) (WE.nil))))
  · refine UG_nt hy1 ?_
    simp (disch := first | assumption | omega | (simp only [h_sl, h_al] <;> omega) | fail) only [WW, WH, ↓reduceIte, Nat.reduceEqDiff, Nat.reduceLT, Nat.reduceLeDiff, Nat.reduceAdd, Nat.reduceSub, Nat.reduceMul, Nat.reduceBEq, reduceCtorEq, if_false, if_true, L_ref13_Splitter_Put_sx, hy1, hs_o1, hs_o2, encReplyV]
    refine hK _ _ _ _ _ ?_ (WxH.refl _) (kn _ hfr ((hs_o1).trans rfl) ((hs_o2).trans rfl))
    exact WE.cons (Wx.ptr) (WE.cons (Wx.b8) (WE.cons (Wx.ptr) (WE.cons (Wx.boolE (by simp only [hy1, WB])) (WE.nil))))
set_option maxHeartbeats 2000000 in
theorem ref13_Splitter_Put_sx_p2_ok {s2 : ReaderVx} {q1 : Nat} {c3 : UInt8} {q6 : Nat} {H0 H : AH} (hfr : Fr H0 H0.length [q1] H) (hs_o1 : H[q1]? = some [(.int .i64 s2.s.most), (.sl .own 1 (ml b8 s2.s.b)), (.int .i64 s2.s.n), (.bool s2.s.cR), (.int .i64 s2.code), (.sl .own 1 (ml AV.str s2.l)), (.bool s2.bad)]) (hs_o2 : H[q6]? = some [(.str ([] : List UInt8)), (.bool false)]) (hi0 : q1 < H0.length) (hi1 : H0.length ≤ q6) {K : Exit → Env → AH → Prop} {s8 : ReaderVx}
    (h : ref13_Splitter_Put_sx_p2 s2 = some s8)
    (kn : ∀ H' : AH, Fr H0 H0.length [q1] H' → H'[q1]? = some [(.int .i64 s8.s.most), (.sl .own 1 (ml b8 s8.s.b)), (.int .i64 s8.s.n), (.bool s8.s.cR), (.int .i64 s8.code), (.sl .own 1 (ml AV.str s8.l)), (.bool s8.bad)] → H'[q6]? = some [(.str ([] : List UInt8)), (.bool false)] → K .normal [(0, (.ptr q1 0)), (1, (b8 c3)), (4, (.ptr q6 0))] H') :
    AX Tryd.prog L_ref13_Splitter_Put_sx 52 H0.length c_ref13_Splitter_Put_sx_p2 K [(0, (.ptr q1 0)), (1, (b8 c3)), (4, (.ptr q6 0)), (37, (.bool s2.s.cR))] H := by
  refine AX.go (m := m_ref13_Splitter_Put_sx_p2) rfl (by decide) fun K' hK => ?_
  have hle := hfr.le
  have hl_o1 := h_lt hs_o1
  have hl_o2 := h_lt hs_o2
  rw [ref13_Splitter_Put_sx_p2.eq_1] at h
  simp (disch := first | assumption | omega | (simp only [h_sl, h_al] <;> omega) | fail) only [WW, WH, ↓reduceIte, Nat.reduceEqDiff, Nat.reduceLT, Nat.reduceLeDiff, Nat.reduceAdd, Nat.reduceSub, Nat.reduceMul, Nat.reduceBEq, reduceCtorEq, if_false, if_true, L_ref13_Splitter_Put_sx, m_ref13_Splitter_Put_sx_p2, c_ref13_Splitter_Put_sx_p2, hs_o1, hs_o2, encReplyV]
  rcases ifb h with ⟨hy4, h⟩ | ⟨hy4, h⟩
  · refine UC_t hy4 ?_
    simp (disch := first | assumption | omega | (simp only [h_sl, h_al] <;> omega) | fail) only [WW, WH, ↓reduceIte, Nat.reduceEqDiff, Nat.reduceLT, Nat.reduceLeDiff, Nat.reduceAdd, Nat.reduceSub, Nat.reduceMul, Nat.reduceBEq, reduceCtorEq, if_false, if_true, L_ref13_Splitter_Put_sx, hs_o1, hs_o2, encReplyV]
    obtain ⟨r7, hy5, h⟩ := bnd' h
    refine UK_e (as' := [(.ptr q1 0), (b8 13)]) (h := ref13_Splitter_add_sx_ok (s2 := s2) (c3 := 13) (q1 := q1) (by exact ((hs_o1).trans rfl)) hy5) (hw := WL.cons (Wx.ptr) (WL.cons (Wx.b8) (WL.nil))) (hh := WxH.refl _) ?_
    simp (disch := first | assumption | omega | (simp only [h_sl, h_al] <;> omega) | fail) only [WW, WH, ↓reduceIte, Nat.reduceEqDiff, Nat.reduceLT, Nat.reduceLeDiff, Nat.reduceAdd, Nat.reduceSub, Nat.reduceMul, Nat.reduceBEq, reduceCtorEq, if_false, if_true, L_ref13_Splitter_Put_sx, hs_o1, hs_o2, encReplyV]
    have hq := Option.some.inj h; subst hq
    refine hK _ _ _ _ _ ?_ (WxH.refl _) (kn _ (Fr.set (s := q1) (Fr.set (s := q1) hfr (.inl (by simp))) (.inl (by simp))) ((h_eq (by first | assumption | omega | (simp only [h_sl, h_al] <;> omega) | fail)).trans rfl) (((h_ne (by first | assumption | omega | (simp only [h_sl, h_al] <;> omega) | fail)).trans ((h_ne (by first | assumption | omega | (simp only [h_sl, h_al] <;> omega) | fail)).trans (hs_o2))).trans rfl))
    exact WE.cons (Wx.ptr) (WE.cons (Wx.b8) (WE.cons (Wx.ptr) (WE.nil)))
  · refine UC_f hy4 ?_
    simp (disch := first | assumption | omega | (simp only [h_sl, h_al] <;> omega) | fail) only [WW, WH, ↓reduceIte, Nat.reduceEqDiff, Nat.reduceLT, Nat.reduceLeDiff, Nat.reduceAdd, Nat.reduceSub, Nat.reduceMul, Nat.reduceBEq, reduceCtorEq, if_false, if_true, L_ref13_Splitter_Put_sx, hs_o1, hs_o2, encReplyV]
    have hq := Option.some.inj h; subst hq
    refine hK _ _ _ _ _ ?_ (WxH.refl _) (kn _ hfr ((hs_o1).trans rfl) ((hs_o2).trans rfl))
    exact WE.cons (Wx.ptr) (WE.cons (Wx.b8) (WE.cons (Wx.ptr) (WE.nil)))
set_option maxHeartbeats 2000000 in
theorem ref13_Splitter_Put_sx_ok {s2 : ReaderVx} {c3 : UInt8} {q1 : Nat} {H0 : AH} (hs_o1 : H0[q1]? = some [(.int .i64 s2.s.most), (.sl .own 1 (ml b8 s2.s.b)), (.int .i64 s2.s.n), (.bool s2.s.cR), (.int .i64 s2.code), (.sl .own 1 (ml AV.str s2.l)), (.bool s2.bad)]) {rz0 : LineV} {rz1 : Bool} {rz2 : ReaderVx} (h : ref13_Splitter_Put_sx s2 c3 = some (rz0, rz1, rz2)) :
    ACalls Tryd.prog 43 [(.ptr q1 0), (b8 c3)] H0 fun v H' => v = (.tup [(.agg [(.str rz0.text), (.bool rz0.long)]), (.bool rz1)]) ∧ H' = (H0.set q1 [(.int .i64 rz2.s.most), (.sl .own 1 (ml b8 rz2.s.b)), (.int .i64 rz2.s.n), (.bool rz2.s.cR), (.int .i64 rz2.code), (.sl .own 1 (ml AV.str rz2.l)), (.bool rz2.bad)]) := by
  refine ACalls.goX k_ref13_Splitter_Put_sx (m := m_ref13_Splitter_Put_sx) rfl L_ref13_Splitter_Put_sx (by decide) (by simp) fun hcl K0 hK0 => ?_
  refine AX.of_U (m := m_ref13_Splitter_Put_sx) rfl (by decide) ?_
  have hl_o1 := h_lt hs_o1
  have hfr := Fr.refl H0 [q1]
  have hle := hfr.le
  rw [ref13_Splitter_Put_sx.eq_1] at h
  obtain ⟨H, hHH⟩ : ∃ H, H = H0 := ⟨_, rfl⟩
  have hfr : Fr H0 H0.length [q1] H := hHH ▸ hfr
  have hs_o1 : H[q1]? = some [(.int .i64 s2.s.most), (.sl .own 1 (ml b8 s2.s.b)), (.int .i64 s2.s.n), (.bool s2.s.cR), (.int .i64 s2.code), (.sl .own 1 (ml AV.str s2.l)), (.bool s2.bad)] := hHH ▸ hs_o1
  have hle := hfr.le
  have hL_o1 : q1 < H.length := h_lt hs_o1
  suffices hU : U Tryd.prog L_ref13_Splitter_Put_sx 52 H0.length [.code m_ref13_Splitter_Put_sx] K0 .normal (argE 0 [(.ptr q1 0), (b8 c3)]) H by rwa [hHH] at hU
  simp (disch := first | assumption | omega | (simp only [h_sl, h_al] <;> omega) | fail) only [WW, WH, ↓reduceIte, Nat.reduceEqDiff, Nat.reduceLT, Nat.reduceLeDiff, Nat.reduceAdd, Nat.reduceSub, Nat.reduceMul, Nat.reduceBEq, reduceCtorEq, if_false, if_true, L_ref13_Splitter_Put_sx, m_ref13_Splitter_Put_sx, hs_o1, encReplyV]
  obtain ⟨q4, hg_q4⟩ : ∃ q : Nat, H.length = q := ⟨_, rfl⟩
  try rw [hg_q4]
  refine UX_of (AX.weak ?_ (WxH.refl _) (ref13_Splitter_Put_sx_p1_ok (q1 := q1) (c3 := c3) (q4 := q4) (s2 := s2) ((Fr.app hfr)) (((h_app (by first | assumption | omega | (simp only [h_sl, h_al] <;> omega) | fail)).trans (hs_o1)).trans rfl) ((h_new' (by first | assumption | omega | (simp only [h_sl, h_al] <;> omega) | fail)).trans rfl) (by first | assumption | omega | (simp only [h_sl, h_al] <;> omega) | fail) (by first | assumption | omega | (simp only [h_sl, h_al] <;> omega) | fail) ?_))
  · exact WE.cons (Wx.ptr) (WE.cons (Wx.b8) (WE.cons (Wx.ptr) (WE.nil)))
  intro H hfr hs_o1 hs_o2
  have hle := hfr.le
  have hl_o1 := h_lt hs_o1
  have hl_o2 := h_lt hs_o2
  simp (disch := first | assumption | omega | (simp only [h_sl, h_al] <;> omega) | fail) only [WW, WH, ↓reduceIte, Nat.reduceEqDiff, Nat.reduceLT, Nat.reduceLeDiff, Nat.reduceAdd, Nat.reduceSub, Nat.reduceMul, Nat.reduceBEq, reduceCtorEq, if_false, if_true, L_ref13_Splitter_Put_sx, hs_o1, hs_o2, encReplyV]
  rcases ifb h with ⟨hy2, h⟩ | ⟨hy2, h⟩
  · refine UC_t hy2 ?_
    simp (disch := first | assumption | omega | (simp only [h_sl, h_al] <;> omega) | fail) only [WW, WH, ↓reduceIte, Nat.reduceEqDiff, Nat.reduceLT, Nat.reduceLeDiff, Nat.reduceAdd, Nat.reduceSub, Nat.reduceMul, Nat.reduceBEq, reduceCtorEq, if_false, if_true, L_ref13_Splitter_Put_sx, hs_o1, hs_o2, encReplyV]
    obtain ⟨r5, hy3, h⟩ := bnd' h
    refine UK_e (as' := [(.ptr q1 0)]) (h := ref13_Splitter_Reset_sx_ok (s2 := s2) (q1 := q1) (by exact (((h_ne (by first | assumption | omega | (simp only [h_sl, h_al] <;> omega) | fail)).trans ((h_app (by first | assumption | omega | (simp only [h_sl, h_al] <;> omega) | fail)).trans (hs_o1))).trans rfl)) hy3) (hw := WL.cons (Wx.ptr) (WL.nil)) (hh := WxH.refl _) ?_
    simp (disch := first | assumption | omega | (simp only [h_sl, h_al] <;> omega) | fail) only [WW, WH, ↓reduceIte, Nat.reduceEqDiff, Nat.reduceLT, Nat.reduceLeDiff, Nat.reduceAdd, Nat.reduceSub, Nat.reduceMul, Nat.reduceBEq, reduceCtorEq, if_false, if_true, L_ref13_Splitter_Put_sx, hs_o1, hs_o2, encReplyV]
    have hq := Option.some.inj h; have hq0 := (Prod.mk.inj hq).1; replace hq := (Prod.mk.inj hq).2; have hq1 := (Prod.mk.inj hq).1; replace hq := (Prod.mk.inj hq).2; subst hq0; subst hq1; subst hq
    refine hK0 _ _ _ (.inr rfl) ?_
    exact fn_end1 (by exact (Fr.set (s := q4) (Fr.set (s := q1) (Fr.set (s := H.length) (Fr.app hfr) (.inr (by first | assumption | omega | (simp only [h_sl, h_al] <;> omega) | fail))) (.inl (by simp))) (.inr (by first | assumption | omega | (simp only [h_sl, h_al] <;> omega) | fail)))) hcl (resv_cell (cs := [(.str s2.s.b), (.bool (decide ((IntKind.wrap .i64 (s2.s.most - 2)) < s2.s.n)))]) (v := (.agg [(.str s2.s.b), (.bool (decide ((IntKind.wrap .i64 (s2.s.most - 2)) < s2.s.n)))])) (by kernel_rfl) (n := (some 2)) (by kernel_rfl) rfl (by exact ((h_eq (by first | assumption | omega | (simp only [h_sl, h_al] <;> omega) | fail)).trans rfl)) (by simp [loadc_n, loadc_1, ld1, allFlat, AV.flat, b_flat, b_sh1, AV.sh1, Tg.sh]) (resv_tmp (a := (.bool true)) rfl rfl resv_nil)) (by simp [fin, AV.df, AV.sh, AV.sh1, b_df, b_sh, b_sh1, b_Cl]) (Wx.tupX (W2L.same (W2L.same (W2L.nil)))) (by exact (((h_ne (by first | assumption | omega | (simp only [h_sl, h_al] <;> omega) | fail)).trans (h_eq (by first | assumption | omega | (simp only [h_sl, h_al] <;> omega) | fail))).trans rfl)) (by first | assumption | omega | (simp only [h_sl, h_al] <;> omega) | fail) (by simp [b_Cl]; try omega) (WxC.cons (Wx.int) (WxC.cons (Wx.oo) (WxC.cons (Wx.int) (WxC.cons (Wx.bool) (WxC.cons (Wx.int) (WxC.cons (Wx.oo) (WxC.cons (Wx.bool) (WxC.nil)))))))) (r' := (.tup [(.agg [(.str ((LineV.mk s2.s.b (decide ((IntKind.wrap .i64 (s2.s.most - 2)) < s2.s.n))).text)), (.bool ((LineV.mk s2.s.b (decide ((IntKind.wrap .i64 (s2.s.most - 2)) < s2.s.n))).long))]), (.bool true)])) ⟨rfl, rfl⟩
  · refine UC_f hy2 ?_
    simp (disch := first | assumption | omega | (simp only [h_sl, h_al] <;> omega) | fail) only [WW, WH, ↓reduceIte, Nat.reduceEqDiff, Nat.reduceLT, Nat.reduceLeDiff, Nat.reduceAdd, Nat.reduceSub, Nat.reduceMul, Nat.reduceBEq, reduceCtorEq, if_false, if_true, L_ref13_Splitter_Put_sx, hs_o1, hs_o2, encReplyV]
    obtain ⟨s9, hy6, h⟩ := bnd' h
    refine UX_of (AX.weak ?_ (WxH.refl _) (ref13_Splitter_Put_sx_p2_ok  (s2 := s2) (q1 := q1) (c3 := c3) (s8 := s9) (q6 := q4) (hfr) ((hs_o1).trans rfl) ((hs_o2).trans rfl) (by first | assumption | omega | (simp only [h_sl, h_al] <;> omega) | fail) (by first | assumption | omega | (simp only [h_sl, h_al] <;> omega) | fail) hy6 ?_))
    · exact WE.cons (Wx.ptr) (WE.cons (Wx.b8) (WE.cons (Wx.ptr) (WE.cons (Wx.bool) (WE.nil))))
    intro H hfr hs_o1 hs_o2
    have hle := hfr.le
    have hl_o1 := h_lt hs_o1
    have hl_o2 := h_lt hs_o2
    simp (disch := first | assumption | omega | (simp only [h_sl, h_al] <;> omega) | fail) only [WW, WH, ↓reduceIte, Nat.reduceEqDiff, Nat.reduceLT, Nat.reduceLeDiff, Nat.reduceAdd, Nat.reduceSub, Nat.reduceMul, Nat.reduceBEq, reduceCtorEq, if_false, if_true, L_ref13_Splitter_Put_sx, hs_o1, hs_o2, encReplyV]
    rcases ifb h with ⟨hy7, h⟩ | ⟨hy7, h⟩
    · refine UC_t hy7 ?_
      simp (disch := first | assumption | omega | (simp only [h_sl, h_al] <;> omega) | fail) only [WW, WH, ↓reduceIte, Nat.reduceEqDiff, Nat.reduceLT, Nat.reduceLeDiff, Nat.reduceAdd, Nat.reduceSub, Nat.reduceMul, Nat.reduceBEq, reduceCtorEq, if_false, if_true, L_ref13_Splitter_Put_sx, hs_o1, hs_o2, encReplyV]
      have hq := Option.some.inj h; have hq0 := (Prod.mk.inj hq).1; replace hq := (Prod.mk.inj hq).2; have hq1 := (Prod.mk.inj hq).1; replace hq := (Prod.mk.inj hq).2; subst hq0; subst hq1; subst hq
      refine hK0 _ _ _ (.inr rfl) ?_
      exact fn_end1 (by exact (Fr.set (s := q4) (Fr.set (s := q1) hfr (.inl (by simp))) (.inr (by first | assumption | omega | (simp only [h_sl, h_al] <;> omega) | fail)))) hcl (resv_cell (cs := [(.str ([] : List UInt8)), (.bool false)]) (v := (.agg [(.str ([] : List UInt8)), (.bool false)])) (by kernel_rfl) (n := (some 2)) (by kernel_rfl) rfl (by exact ((h_eq (by first | assumption | omega | (simp only [h_sl, h_al] <;> omega) | fail)).trans rfl)) (by simp [loadc_n, loadc_1, ld1, allFlat, AV.flat, b_flat, b_sh1, AV.sh1, Tg.sh]) (resv_tmp (a := (.bool false)) rfl rfl resv_nil)) (by simp [fin, AV.df, AV.sh, AV.sh1, b_df, b_sh, b_sh1, b_Cl]) (Wx.tupX (W2L.same (W2L.same (W2L.nil)))) (by exact (((h_ne (by first | assumption | omega | (simp only [h_sl, h_al] <;> omega) | fail)).trans (h_eq (by first | assumption | omega | (simp only [h_sl, h_al] <;> omega) | fail))).trans rfl)) (by first | assumption | omega | (simp only [h_sl, h_al] <;> omega) | fail) (by simp [b_Cl]; try omega) (WxC.cons (Wx.int) (WxC.cons (Wx.oo) (WxC.cons (Wx.int) (WxC.cons (Wx.bool) (WxC.cons (Wx.int) (WxC.cons (Wx.oo) (WxC.cons (Wx.bool) (WxC.nil)))))))) (r' := (.tup [(.agg [(.str ((LineV.mk ([] : List UInt8) false).text)), (.bool ((LineV.mk ([] : List UInt8) false).long))]), (.bool false)])) ⟨rfl, rfl⟩
    · refine UC_f hy7 ?_
      simp (disch := first | assumption | omega | (simp only [h_sl, h_al] <;> omega) | fail) only [WW, WH, ↓reduceIte, Nat.reduceEqDiff, Nat.reduceLT, Nat.reduceLeDiff, Nat.reduceAdd, Nat.reduceSub, Nat.reduceMul, Nat.reduceBEq, reduceCtorEq, if_false, if_true, L_ref13_Splitter_Put_sx, hs_o1, hs_o2, encReplyV]
      obtain ⟨r10, hy8, h⟩ := bnd' h
      refine UK_e (as' := [(.ptr q1 0), (b8 c3)]) (h := ref13_Splitter_add_sx_ok (s2 := s9) (c3 := c3) (q1 := q1) (by exact ((hs_o1).trans rfl)) hy8) (hw := WL.cons (Wx.ptr) (WL.cons (Wx.b8) (WL.nil))) (hh := WxH.refl _) ?_
      simp (disch := first | assumption | omega | (simp only [h_sl, h_al] <;> omega) | fail) only [WW, WH, ↓reduceIte, Nat.reduceEqDiff, Nat.reduceLT, Nat.reduceLeDiff, Nat.reduceAdd, Nat.reduceSub, Nat.reduceMul, Nat.reduceBEq, reduceCtorEq, if_false, if_true, L_ref13_Splitter_Put_sx, hs_o1, hs_o2, encReplyV]
      have hq := Option.some.inj h; have hq0 := (Prod.mk.inj hq).1; replace hq := (Prod.mk.inj hq).2; have hq1 := (Prod.mk.inj hq).1; replace hq := (Prod.mk.inj hq).2; subst hq0; subst hq1; subst hq
      refine hK0 _ _ _ (.inr rfl) ?_
      exact fn_end1 (by exact (Fr.set (s := q4) (Fr.set (s := q1) hfr (.inl (by simp))) (.inr (by first | assumption | omega | (simp only [h_sl, h_al] <;> omega) | fail)))) hcl (resv_cell (cs := [(.str ([] : List UInt8)), (.bool false)]) (v := (.agg [(.str ([] : List UInt8)), (.bool false)])) (by kernel_rfl) (n := (some 2)) (by kernel_rfl) rfl (by exact ((h_eq (by first | assumption | omega | (simp only [h_sl, h_al] <;> omega) | fail)).trans rfl)) (by simp [loadc_n, loadc_1, ld1, allFlat, AV.flat, b_flat, b_sh1, AV.sh1, Tg.sh]) (resv_tmp (a := (.bool false)) rfl rfl resv_nil)) (by simp [fin, AV.df, AV.sh, AV.sh1, b_df, b_sh, b_sh1, b_Cl]) (Wx.tupX (W2L.same (W2L.same (W2L.nil)))) (by exact (((h_ne (by first | assumption | omega | (simp only [h_sl, h_al] <;> omega) | fail)).trans (h_eq (by first | assumption | omega | (simp only [h_sl, h_al] <;> omega) | fail))).trans rfl)) (by first | assumption | omega | (simp only [h_sl, h_al] <;> omega) | fail) (by simp [b_Cl]; try omega) (WxC.cons (Wx.int) (WxC.cons (Wx.oo) (WxC.cons (Wx.int) (WxC.cons (Wx.bool) (WxC.cons (Wx.int) (WxC.cons (Wx.oo) (WxC.cons (Wx.bool) (WxC.nil)))))))) (r' := (.tup [(.agg [(.str ((LineV.mk ([] : List UInt8) false).text)), (.bool ((LineV.mk ([] : List UInt8) false).long))]), (.bool false)])) ⟨rfl, rfl⟩

/-! ### mailbag/mailbagref16.one -/
def c_ref16_one_p1 : ACode := (.rg [⟨(some 10), (.fld (.t 1) 1), none⟩, ⟨(some 11), (.ld (.t 10) none), none⟩, ⟨(some 12), (.mv (.t 11)), none⟩, ⟨(some 13), (.mv (.t 6)), (some (12, false))⟩, ⟨(some 14), (.lens (.t 13)), (some (12, false))⟩, ⟨(some 15), (.bin .lss (.t 14) (.c (.int .i64 3))), (some (12, false))⟩, ⟨(some 16), (.pick (.t 12) (.c (.bool true)) (.t 15)), none⟩, ⟨(some 17), (.mv (.t 16)), none⟩, ⟨(some 18), (.mv (.t 6)), (some (17, false))⟩, ⟨(some 19), (.ixs (.t 18) (.c (.int .i64 0))), (some (17, false))⟩, ⟨(some 20), (.bin .lss (.t 19) (.c (b8 50))), (some (17, false))⟩, ⟨(some 21), (.pick (.t 17) (.c (.bool true)) (.t 20)), none⟩, ⟨(some 22), (.mv (.t 21)), none⟩, ⟨(some 23), (.mv (.t 6)), (some (22, false))⟩, ⟨(some 24), (.ixs (.t 23) (.c (.int .i64 0))), (some (22, false))⟩, ⟨(some 25), (.bin .gtr (.t 24) (.c (b8 53))), (some (22, false))⟩, ⟨(some 26), (.pick (.t 22) (.c (.bool true)) (.t 25)), none⟩, ⟨(some 27), (.mv (.t 26)), none⟩, ⟨(some 28), (.mv (.t 6)), (some (27, false))⟩, ⟨(some 29), (.ixs (.t 28) (.c (.int .i64 1))), (some (27, false))⟩, ⟨(some 30), (.bin .lss (.t 29) (.c (b8 48))), (some (27, false))⟩, ⟨(some 31), (.pick (.t 27) (.c (.bool true)) (.t 30)), none⟩, ⟨(some 32), (.mv (.t 31)), none⟩, ⟨(some 33), (.mv (.t 6)), (some (32, false))⟩, ⟨(some 34), (.ixs (.t 33) (.c (.int .i64 1))), (some (32, false))⟩, ⟨(some 35), (.bin .gtr (.t 34) (.c (b8 57))), (some (32, false))⟩, ⟨(some 36), (.pick (.t 32) (.c (.bool true)) (.t 35)), none⟩, ⟨(some 37), (.mv (.t 36)), none⟩, ⟨(some 38), (.mv (.t 6)), (some (37, false))⟩, ⟨(some 39), (.ixs (.t 38) (.c (.int .i64 2))), (some (37, false))⟩, ⟨(some 40), (.bin .lss (.t 39) (.c (b8 48))), (some (37, false))⟩, ⟨(some 41), (.pick (.t 37) (.c (.bool true)) (.t 40)), none⟩, ⟨(some 42), (.mv (.t 41)), none⟩, ⟨(some 43), (.mv (.t 6)), (some (42, false))⟩, ⟨(some 44), (.ixs (.t 43) (.c (.int .i64 2))), (some (42, false))⟩, ⟨(some 45), (.bin .gtr (.t 44) (.c (b8 57))), (some (42, false))⟩, ⟨(some 46), (.pick (.t 42) (.c (.bool true)) (.t 45)), none⟩])
abbrev m_ref16_one_p1 := c_ref16_one_p1
def c_ref16_one_p2 : ACode := (.rg [⟨(some 67), (.mv (.t 6)), none⟩, ⟨(some 68), (.ixs (.t 67) (.c (.int .i64 3))), none⟩, ⟨(some 69), (.bin .neq (.t 68) (.c (b8 32))), none⟩, ⟨(some 70), (.mv (.t 69)), none⟩, ⟨(some 71), (.mv (.t 6)), (some (70, true))⟩, ⟨(some 72), (.ixs (.t 71) (.c (.int .i64 3))), (some (70, true))⟩, ⟨(some 73), (.bin .neq (.t 72) (.c (b8 45))), (some (70, true))⟩, ⟨(some 74), (.pick (.t 70) (.t 73) (.c (.bool false))), none⟩, ⟨(some 75), (.mv (.t 74)), none⟩, ⟨(some 76), (.mv (.t 6)), (some (75, false))⟩, ⟨(some 77), (.sls (.t 76) (some (.c (.int .i64 4))) none), (some (75, false))⟩, ⟨(some 78), (.call (.c (.fn 39 [])) [(.t 77)]), (some (75, false))⟩, ⟨(some 79), (.un .not (.t 78)), (some (75, false))⟩, ⟨(some 80), (.pick (.t 75) (.c (.bool true)) (.t 79)), none⟩])
abbrev m_ref16_one_p2 := c_ref16_one_p2
def c_ref16_one : ACode := (.seq (.rg [⟨(some 1), (.box (.t 0)), none⟩, ⟨(some 2), (.asg (.c (.int .i64 0))), none⟩, ⟨(some 3), (.asg (.c (.str []))), none⟩, ⟨(some 4), (.asg (.c (.bool false))), none⟩, ⟨(some 5), (.asg (.c (.bool false))), none⟩]) (.seq (.rg [⟨(some 8), (.fld (.t 1) 0), none⟩, ⟨(some 9), (.ld (.t 8) none), none⟩, ⟨(some 6), (.asg (.t 9)), none⟩]) (.seq (.seq c_ref16_one_p1 (.cond (.t 46) (.seq (.rg [⟨(some 2), (.asg (.c (.int .i64 0))), none⟩, ⟨(some 3), (.asg (.c (.str []))), none⟩, ⟨(some 4), (.asg (.c (.bool false))), none⟩, ⟨(some 5), (.asg (.c (.bool false))), none⟩]) .ret) .skip)) (.seq (.rg [⟨(some 47), (.mv (.t 6)), none⟩, ⟨(some 48), (.ixs (.t 47) (.c (.int .i64 0))), none⟩, ⟨(some 49), (.bin .sub (.t 48) (.c (b8 48))), none⟩, ⟨(some 50), (.cvt (.int .i64) (.t 49)), none⟩, ⟨(some 51), (.bin .mul (.c (.int .i64 100)) (.t 50)), none⟩, ⟨(some 52), (.mv (.t 6)), none⟩, ⟨(some 53), (.ixs (.t 52) (.c (.int .i64 1))), none⟩, ⟨(some 54), (.bin .sub (.t 53) (.c (b8 48))), none⟩, ⟨(some 55), (.cvt (.int .i64) (.t 54)), none⟩, ⟨(some 56), (.bin .mul (.c (.int .i64 10)) (.t 55)), none⟩, ⟨(some 57), (.bin .add (.t 51) (.t 56)), none⟩, ⟨(some 58), (.mv (.t 6)), none⟩, ⟨(some 59), (.ixs (.t 58) (.c (.int .i64 2))), none⟩, ⟨(some 60), (.bin .sub (.t 59) (.c (b8 48))), none⟩, ⟨(some 61), (.cvt (.int .i64) (.t 60)), none⟩, ⟨(some 62), (.bin .add (.t 57) (.t 61)), none⟩, ⟨(some 7), (.asg (.t 62)), none⟩]) (.seq (.seq (.rg [⟨(some 63), (.mv (.t 6)), none⟩, ⟨(some 64), (.lens (.t 63)), none⟩, ⟨(some 65), (.bin .eql (.t 64) (.c (.int .i64 3))), none⟩]) (.cond (.t 65) (.seq (.rg [⟨(some 66), (.mv (.t 7)), none⟩, ⟨(some 2), (.asg (.t 66)), none⟩, ⟨(some 3), (.asg (.c (.str []))), none⟩, ⟨(some 4), (.asg (.c (.bool true))), none⟩, ⟨(some 5), (.asg (.c (.bool true))), none⟩]) .ret) .skip)) (.seq (.seq c_ref16_one_p2 (.cond (.t 80) (.seq (.rg [⟨(some 2), (.asg (.c (.int .i64 0))), none⟩, ⟨(some 3), (.asg (.c (.str []))), none⟩, ⟨(some 4), (.asg (.c (.bool false))), none⟩, ⟨(some 5), (.asg (.c (.bool false))), none⟩]) .ret) .skip)) (.seq (.rg [⟨(some 81), (.mv (.t 7)), none⟩, ⟨(some 82), (.mv (.t 6)), none⟩, ⟨(some 83), (.sls (.t 82) (some (.c (.int .i64 4))) none), none⟩, ⟨(some 84), (.mv (.t 6)), none⟩, ⟨(some 85), (.ixs (.t 84) (.c (.int .i64 3))), none⟩, ⟨(some 86), (.bin .eql (.t 85) (.c (b8 32))), none⟩, ⟨(some 2), (.asg (.t 81)), none⟩, ⟨(some 3), (.asg (.t 83)), none⟩, ⟨(some 4), (.asg (.t 86)), none⟩, ⟨(some 5), (.asg (.c (.bool true))), none⟩]) .ret)))))))
def m_ref16_one : ACode := (.seq (.rg [⟨(some 1), (.box (.t 0)), none⟩, ⟨(some 2), (.asg (.c (.int .i64 0))), none⟩, ⟨(some 3), (.asg (.c (.str []))), none⟩, ⟨(some 4), (.asg (.c (.bool false))), none⟩, ⟨(some 5), (.asg (.c (.bool false))), none⟩]) (.seq (.rg [⟨(some 8), (.fld (.t 1) 0), none⟩, ⟨(some 9), (.ld (.t 8) none), none⟩, ⟨(some 6), (.asg (.t 9)), none⟩]) (.seq (.seq (.sem c_ref16_one_p1) (.cond (.t 46) (.seq (.rg [⟨(some 2), (.asg (.c (.int .i64 0))), none⟩, ⟨(some 3), (.asg (.c (.str []))), none⟩, ⟨(some 4), (.asg (.c (.bool false))), none⟩, ⟨(some 5), (.asg (.c (.bool false))), none⟩]) .ret) .skip)) (.seq (.rg [⟨(some 47), (.mv (.t 6)), none⟩, ⟨(some 48), (.ixs (.t 47) (.c (.int .i64 0))), none⟩, ⟨(some 49), (.bin .sub (.t 48) (.c (b8 48))), none⟩, ⟨(some 50), (.cvt (.int .i64) (.t 49)), none⟩, ⟨(some 51), (.bin .mul (.c (.int .i64 100)) (.t 50)), none⟩, ⟨(some 52), (.mv (.t 6)), none⟩, ⟨(some 53), (.ixs (.t 52) (.c (.int .i64 1))), none⟩, ⟨(some 54), (.bin .sub (.t 53) (.c (b8 48))), none⟩, ⟨(some 55), (.cvt (.int .i64) (.t 54)), none⟩, ⟨(some 56), (.bin .mul (.c (.int .i64 10)) (.t 55)), none⟩, ⟨(some 57), (.bin .add (.t 51) (.t 56)), none⟩, ⟨(some 58), (.mv (.t 6)), none⟩, ⟨(some 59), (.ixs (.t 58) (.c (.int .i64 2))), none⟩, ⟨(some 60), (.bin .sub (.t 59) (.c (b8 48))), none⟩, ⟨(some 61), (.cvt (.int .i64) (.t 60)), none⟩, ⟨(some 62), (.bin .add (.t 57) (.t 61)), none⟩, ⟨(some 7), (.asg (.t 62)), none⟩]) (.seq (.seq (.rg [⟨(some 63), (.mv (.t 6)), none⟩, ⟨(some 64), (.lens (.t 63)), none⟩, ⟨(some 65), (.bin .eql (.t 64) (.c (.int .i64 3))), none⟩]) (.cond (.t 65) (.seq (.rg [⟨(some 66), (.mv (.t 7)), none⟩, ⟨(some 2), (.asg (.t 66)), none⟩, ⟨(some 3), (.asg (.c (.str []))), none⟩, ⟨(some 4), (.asg (.c (.bool true))), none⟩, ⟨(some 5), (.asg (.c (.bool true))), none⟩]) .ret) .skip)) (.seq (.seq (.sem c_ref16_one_p2) (.cond (.t 80) (.seq (.rg [⟨(some 2), (.asg (.c (.int .i64 0))), none⟩, ⟨(some 3), (.asg (.c (.str []))), none⟩, ⟨(some 4), (.asg (.c (.bool false))), none⟩, ⟨(some 5), (.asg (.c (.bool false))), none⟩]) .ret) .skip)) (.seq (.rg [⟨(some 81), (.mv (.t 7)), none⟩, ⟨(some 82), (.mv (.t 6)), none⟩, ⟨(some 83), (.sls (.t 82) (some (.c (.int .i64 4))) none), none⟩, ⟨(some 84), (.mv (.t 6)), none⟩, ⟨(some 85), (.ixs (.t 84) (.c (.int .i64 3))), none⟩, ⟨(some 86), (.bin .eql (.t 85) (.c (b8 32))), none⟩, ⟨(some 2), (.asg (.t 81)), none⟩, ⟨(some 3), (.asg (.t 83)), none⟩, ⟨(some 4), (.asg (.t 86)), none⟩, ⟨(some 5), (.asg (.c (.bool true))), none⟩]) .ret)))))))
theorem k_ref16_one : FnOk Tryd.prog 44 87 [(.tmp 2), (.tmp 3), (.tmp 4), (.tmp 5)] c_ref16_one := ⟨Tryd.f44, _, rfl, by decide, rfl, by kernel_rfl, rfl, rfl⟩
abbrev L_ref16_one : List Nat := [0, 1, 2, 3, 4, 5, 6, 7, 46, 65, 80]
def ref16_one_p1 (l1 : LineV) : Option (Bool) :=
  (if l1.long then
    some true
  else
    (if (decide ((l1.text.length : Int) < 3)) then
      some true
    else
      (idx l1.text 0).bind fun x3 =>
      (if (decide (x3 < 50)) then
        some true
      else
        (if (decide (53 < x3)) then
          some true
        else
          (idx l1.text 1).bind fun x4 =>
          (if (decide (x4 < 48)) then
            some true
          else
            (if (decide (57 < x4)) then
              some true
            else
              (idx l1.text 2).bind fun x5 =>
              (if (decide (x5 < 48)) then
                some true
              else
                some (decide (57 < x5)))))))))
def ref16_one_p2 (F : Nat) (l1 : LineV) : Option (Bool) :=
  (idx l1.text 3).bind fun x11 =>
  (if (!decide (x11 = 32)) then
    (if (!decide (x11 = 45)) then
      some true
    else
      (sub l1.text 4 (l1.text.length : Int)).bind fun x12 => (ref16_text F x12).bind fun r13 => some (!r13))
  else
    (sub l1.text 4 (l1.text.length : Int)).bind fun x14 => (ref16_text F x14).bind fun r15 => some (!r15))
def ref16_one (F : Nat) (l1 : LineV) : Option (Int × (List UInt8) × Bool × Bool) :=
  (ref16_one_p1 l1).bind fun t7 =>
  (if t7 then
    some (0, ([] : List UInt8), false, false)
  else
    (idx l1.text 0).bind fun x8 =>
    (idx l1.text 1).bind fun x9 =>
    (idx l1.text 2).bind fun x10 =>
    (if (decide ((l1.text.length : Int) = 3)) then
      some ((IntKind.wrap .i64 ((IntKind.wrap .i64 ((IntKind.wrap .i64 (100 * (IntKind.wrap .i64 ((x8 - 48).toNat : Int)))) + (IntKind.wrap .i64 (10 * (IntKind.wrap .i64 ((x9 - 48).toNat : Int)))))) + (IntKind.wrap .i64 ((x10 - 48).toNat : Int)))), ([] : List UInt8), true, true)
    else
      (ref16_one_p2 F l1).bind fun t17 =>
      (if t17 then
        some (0, ([] : List UInt8), false, false)
      else
        (sub l1.text 4 (l1.text.length : Int)).bind fun x18 =>
        (idx l1.text 3).bind fun x19 =>
        some ((IntKind.wrap .i64 ((IntKind.wrap .i64 ((IntKind.wrap .i64 (100 * (IntKind.wrap .i64 ((x8 - 48).toNat : Int)))) + (IntKind.wrap .i64 (10 * (IntKind.wrap .i64 ((x9 - 48).toNat : Int)))))) + (IntKind.wrap .i64 ((x10 - 48).toNat : Int)))), x18, (decide (x19 = 32)), true))))
set_option maxHeartbeats 2000000 in
theorem ref16_one_p1_ok {l1 : LineV} {q2 : Nat} {H0 H : AH} (hfr : Fr H0 H0.length [] H) (hs_o1 : H[q2]? = some [(.str l1.text), (.bool l1.long)]) (hi0 : H0.length ≤ q2) {K : Exit → Env → AH → Prop} {t6 : Bool}
    (h : ref16_one_p1 l1 = some t6)
    (kn : ∀ H' : AH, Fr H0 H0.length [] H' → H'[q2]? = some [(.str l1.text), (.bool l1.long)] → K .normal [(6, (.str l1.text)), (46, (.bool t6))] H') :
    AX Tryd.prog L_ref16_one 87 H0.length c_ref16_one_p1 K [(1, (.ptr q2 0)), (6, (.str l1.text))] H := by
  refine AX.go (m := m_ref16_one_p1) rfl (by decide) fun K' hK => ?_
  have hle := hfr.le
  have hl_o1 := h_lt hs_o1
  rw [ref16_one_p1.eq_1] at h
  simp (disch := first | assumption | omega | (simp only [h_sl, h_al] <;> omega) | fail) only [WW, WH, ↓reduceIte, Nat.reduceEqDiff, Nat.reduceLT, Nat.reduceLeDiff, Nat.reduceAdd, Nat.reduceSub, Nat.reduceMul, Nat.reduceBEq, reduceCtorEq, if_false, if_true, L_ref16_one, m_ref16_one_p1, c_ref16_one_p1, hs_o1, encReplyV]
  rcases ifb h with ⟨hy1, h⟩ | ⟨hy1, h⟩
  · refine UG_nf hy1 ?_
    simp (disch := first | assumption | omega | (simp only [h_sl, h_al] <;> omega) | fail) only [WW, WH, ↓reduceIte, Nat.reduceEqDiff, Nat.reduceLT, Nat.reduceLeDiff, Nat.reduceAdd, Nat.reduceSub, Nat.reduceMul, Nat.reduceBEq, reduceCtorEq, if_false, if_true, L_ref16_one, hy1, hs_o1, encReplyV]
    have hq := Option.some.inj h; subst hq
    refine hK _ _ _ _ _ ?_ (WxH.refl _) (kn _ hfr ((hs_o1).trans rfl))
    exact WE.cons (Wx.str) (WE.cons (Wx.bool) (WE.nil))
  · refine UG_go hy1 ?_
    simp (disch := first | assumption | omega | (simp only [h_sl, h_al] <;> omega) | fail) only [WW, WH, ↓reduceIte, Nat.reduceEqDiff, Nat.reduceLT, Nat.reduceLeDiff, Nat.reduceAdd, Nat.reduceSub, Nat.reduceMul, Nat.reduceBEq, reduceCtorEq, if_false, if_true, L_ref16_one, hy1, hs_o1, encReplyV]
    rcases ifb h with ⟨hy2, h⟩ | ⟨hy2, h⟩
    · refine UG_nf hy2 ?_
      simp (disch := first | assumption | omega | (simp only [h_sl, h_al] <;> omega) | fail) only [WW, WH, ↓reduceIte, Nat.reduceEqDiff, Nat.reduceLT, Nat.reduceLeDiff, Nat.reduceAdd, Nat.reduceSub, Nat.reduceMul, Nat.reduceBEq, reduceCtorEq, if_false, if_true, L_ref16_one, hy2, hs_o1, encReplyV]
      have hq := Option.some.inj h; subst hq
      refine hK _ _ _ _ _ ?_ (WxH.refl _) (kn _ hfr ((hs_o1).trans rfl))
      exact WE.cons (Wx.str) (WE.cons (Wx.bool) (WE.nil))
    · refine UG_go hy2 ?_
      obtain ⟨x3, hy3, h⟩ := bnd' h
      simp (disch := first | assumption | omega | (simp only [h_sl, h_al] <;> omega) | fail) only [WW, WH, ↓reduceIte, Nat.reduceEqDiff, Nat.reduceLT, Nat.reduceLeDiff, Nat.reduceAdd, Nat.reduceSub, Nat.reduceMul, Nat.reduceBEq, reduceCtorEq, if_false, if_true, L_ref16_one, hy2, hy3, hs_o1, encReplyV]
      rcases ifb h with ⟨hy4, h⟩ | ⟨hy4, h⟩
      · refine UG_nf hy4 ?_
        simp (disch := first | assumption | omega | (simp only [h_sl, h_al] <;> omega) | fail) only [WW, WH, ↓reduceIte, Nat.reduceEqDiff, Nat.reduceLT, Nat.reduceLeDiff, Nat.reduceAdd, Nat.reduceSub, Nat.reduceMul, Nat.reduceBEq, reduceCtorEq, if_false, if_true, L_ref16_one, hy4, hs_o1, encReplyV]
        have hq := Option.some.inj h; subst hq
        refine hK _ _ _ _ _ ?_ (WxH.refl _) (kn _ hfr ((hs_o1).trans rfl))
        exact WE.cons (Wx.str) (WE.cons (Wx.bool) (WE.nil))
      · refine UG_go hy4 ?_
        simp (disch := first | assumption | omega | (simp only [h_sl, h_al] <;> omega) | fail) only [WW, WH, ↓reduceIte, Nat.reduceEqDiff, Nat.reduceLT, Nat.reduceLeDiff, Nat.reduceAdd, Nat.reduceSub, Nat.reduceMul, Nat.reduceBEq, reduceCtorEq, if_false, if_true, L_ref16_one, hy4, hy3, hs_o1, encReplyV]
        rcases ifb h with ⟨hy5, h⟩ | ⟨hy5, h⟩
        · refine UG_nf hy5 ?_
          simp (disch := first | assumption | omega | (simp only [h_sl, h_al] <;> omega) | fail) only [WW, WH, ↓reduceIte, Nat.reduceEqDiff, Nat.reduceLT, Nat.reduceLeDiff, Nat.reduceAdd, Nat.reduceSub, Nat.reduceMul, Nat.reduceBEq, reduceCtorEq, if_false, if_true, L_ref16_one, hy5, hs_o1, encReplyV]
          have hq := Option.some.inj h; subst hq
          refine hK _ _ _ _ _ ?_ (WxH.refl _) (kn _ hfr ((hs_o1).trans rfl))
          exact WE.cons (Wx.str) (WE.cons (Wx.bool) (WE.nil))
        · refine UG_go hy5 ?_
          obtain ⟨x4, hy6, h⟩ := bnd' h
          simp (disch := first | assumption | omega | (simp only [h_sl, h_al] <;> omega) | fail) only [WW, WH, ↓reduceIte, Nat.reduceEqDiff, Nat.reduceLT, Nat.reduceLeDiff, Nat.reduceAdd, Nat.reduceSub, Nat.reduceMul, Nat.reduceBEq, reduceCtorEq, if_false, if_true, L_ref16_one, hy5, hy6, hs_o1, encReplyV]
          rcases ifb h with ⟨hy7, h⟩ | ⟨hy7, h⟩
          · refine UG_nf hy7 ?_
            simp (disch := first | assumption | omega | (simp only [h_sl, h_al] <;> omega) | fail) only [WW, WH, ↓reduceIte, Nat.reduceEqDiff, Nat.reduceLT, Nat.reduceLeDiff, Nat.reduceAdd, Nat.reduceSub, Nat.reduceMul, Nat.reduceBEq, reduceCtorEq, if_false, if_true, L_ref16_one, hy7, hs_o1, encReplyV]
            have hq := Option.some.inj h; subst hq
            refine hK _ _ _ _ _ ?_ (WxH.refl _) (kn _ hfr ((hs_o1).trans rfl))
            exact WE.cons (Wx.str) (WE.cons (Wx.bool) (WE.nil))
          · refine UG_go hy7 ?_
            simp (disch := first | assumption | omega | (simp only [h_sl, h_al] <;> omega) | fail) only [WW, WH, ↓reduceIte, Nat.reduceEqDiff, Nat.reduceLT, Nat.reduceLeDiff, Nat.reduceAdd, Nat.reduceSub, Nat.reduceMul, Nat.reduceBEq, reduceCtorEq, if_false, if_true, L_ref16_one, hy7, hy6, hs_o1, encReplyV]
            rcases ifb h with ⟨hy8, h⟩ | ⟨hy8, h⟩
            · refine UG_nf hy8 ?_
              simp (disch := first | assumption | omega | (simp only [h_sl, h_al] <;> omega) | fail) only [WW, WH, ↓reduceIte, Nat.reduceEqDiff, Nat.reduceLT, Nat.reduceLeDiff, Nat.reduceAdd, Nat.reduceSub, Nat.reduceMul, Nat.reduceBEq, reduceCtorEq, if_false, if_true, L_ref16_one, hy8, hs_o1, encReplyV]
              have hq := Option.some.inj h; subst hq
              refine hK _ _ _ _ _ ?_ (WxH.refl _) (kn _ hfr ((hs_o1).trans rfl))
              exact WE.cons (Wx.str) (WE.cons (Wx.bool) (WE.nil))
            · refine UG_go hy8 ?_
              obtain ⟨x5, hy9, h⟩ := bnd' h
              simp (disch := first | assumption | omega | (simp only [h_sl, h_al] <;> omega) | fail) only [WW, WH, ↓reduceIte, Nat.reduceEqDiff, Nat.reduceLT, Nat.reduceLeDiff, Nat.reduceAdd, Nat.reduceSub, Nat.reduceMul, Nat.reduceBEq, reduceCtorEq, if_false, if_true, L_ref16_one, hy8, hy9, hs_o1, encReplyV]
              rcases ifb h with ⟨hy10, h⟩ | ⟨hy10, h⟩
              · refine UG_nf hy10 ?_
                simp (disch := first | assumption | omega | (simp only [h_sl, h_al] <;> omega) | fail) only [WW, WH, ↓reduceIte, Nat.reduceEqDiff, Nat.reduceLT, Nat.reduceLeDiff, Nat.reduceAdd, Nat.reduceSub, Nat.reduceMul, Nat.reduceBEq, reduceCtorEq, if_false, if_true, L_ref16_one, hy10, hs_o1, encReplyV]
                have hq := Option.some.inj h; subst hq
                refine hK _ _ _ _ _ ?_ (WxH.refl _) (kn _ hfr ((hs_o1).trans rfl))
                exact WE.cons (Wx.str) (WE.cons (Wx.bool) (WE.nil))
              · refine UG_go hy10 ?_
                simp (disch := first | assumption | omega | (simp only [h_sl, h_al] <;> omega) | fail) only [WW, WH, ↓reduceIte, Nat.reduceEqDiff, Nat.reduceLT, Nat.reduceLeDiff, Nat.reduceAdd, Nat.reduceSub, Nat.reduceMul, Nat.reduceBEq, reduceCtorEq, if_false, if_true, L_ref16_one, hy10, hy9, hs_o1, encReplyV]
                have hq := Option.some.inj h; subst hq
                refine hK _ _ _ _ _ ?_ (WxH.refl _) (kn _ hfr ((hs_o1).trans rfl))
                exact WE.cons (Wx.str) (WE.cons (Wx.bool) (WE.nil))
set_option maxHeartbeats 2000000 in
theorem ref16_one_p2_ok {F : Nat} {l1 : LineV} {x8 : UInt8} {x9 : UInt8} {x10 : UInt8} {H0 H : AH} (hfr : Fr H0 H0.length [] H) {K : Exit → Env → AH → Prop} {t16 : Bool}
    (h : ref16_one_p2 F l1 = some t16)
    (kn : ∀ H' : AH, Fr H0 H0.length [] H' → K .normal [(6, (.str l1.text)), (7, (.int .i64 (IntKind.wrap .i64 ((IntKind.wrap .i64 ((IntKind.wrap .i64 (100 * (IntKind.wrap .i64 ((x8 - 48).toNat : Int)))) + (IntKind.wrap .i64 (10 * (IntKind.wrap .i64 ((x9 - 48).toNat : Int)))))) + (IntKind.wrap .i64 ((x10 - 48).toNat : Int)))))), (80, (.bool t16))] H') :
    AX Tryd.prog L_ref16_one 87 H0.length c_ref16_one_p2 K [(6, (.str l1.text)), (7, (.int .i64 (IntKind.wrap .i64 ((IntKind.wrap .i64 ((IntKind.wrap .i64 (100 * (IntKind.wrap .i64 ((x8 - 48).toNat : Int)))) + (IntKind.wrap .i64 (10 * (IntKind.wrap .i64 ((x9 - 48).toNat : Int)))))) + (IntKind.wrap .i64 ((x10 - 48).toNat : Int))))))] H := by
  refine AX.go (m := m_ref16_one_p2) rfl (by decide) fun K' hK => ?_
  have hle := hfr.le
  rw [ref16_one_p2.eq_1] at h
  obtain ⟨x11, hy17, h⟩ := bnd' h
  simp (disch := first | assumption | omega | (simp only [h_sl, h_al] <;> omega) | fail) only [WW, WH, ↓reduceIte, Nat.reduceEqDiff, Nat.reduceLT, Nat.reduceLeDiff, Nat.reduceAdd, Nat.reduceSub, Nat.reduceMul, Nat.reduceBEq, reduceCtorEq, if_false, if_true, L_ref16_one, m_ref16_one_p2, c_ref16_one_p2, hy17, encReplyV]
  rcases ifb h with ⟨hy18, h⟩ | ⟨hy18, h⟩
  · refine UG_go hy18 ?_
    simp (disch := first | assumption | omega | (simp only [h_sl, h_al] <;> omega) | fail) only [WW, WH, ↓reduceIte, Nat.reduceEqDiff, Nat.reduceLT, Nat.reduceLeDiff, Nat.reduceAdd, Nat.reduceSub, Nat.reduceMul, Nat.reduceBEq, reduceCtorEq, if_false, if_true, L_ref16_one, hy18, hy17, encReplyV]
    rcases ifb h with ⟨hy19, h⟩ | ⟨hy19, h⟩
    · refine UG_nf hy19 ?_
      simp (disch := first | assumption | omega | (simp only [h_sl, h_al] <;> omega) | fail) only [WW, WH, ↓reduceIte, Nat.reduceEqDiff, Nat.reduceLT, Nat.reduceLeDiff, Nat.reduceAdd, Nat.reduceSub, Nat.reduceMul, Nat.reduceBEq, reduceCtorEq, if_false, if_true, L_ref16_one, hy19, encReplyV]
      have hq := Option.some.inj h; subst hq
      refine hK _ _ _ _ _ ?_ (WxH.refl _) (kn _ hfr)
      exact WE.cons (Wx.str) (WE.cons (Wx.int) (WE.cons (Wx.bool) (WE.nil)))
    · refine UG_go hy19 ?_
      obtain ⟨x12, hy20, h⟩ := bnd' h
      simp (disch := first | assumption | omega | (simp only [h_sl, h_al] <;> omega) | fail) only [WW, WH, ↓reduceIte, Nat.reduceEqDiff, Nat.reduceLT, Nat.reduceLeDiff, Nat.reduceAdd, Nat.reduceSub, Nat.reduceMul, Nat.reduceBEq, reduceCtorEq, if_false, if_true, L_ref16_one, hy19, hy20, encReplyV]
      obtain ⟨r13, hy21, h⟩ := bnd' h
      refine UK_e (as' := [(.str x12)]) (h := ref16_text_ok (s1 := x12) (F := F)  hy21) (hw := WL.cons (Wx.str) (WL.nil)) (hh := WxH.refl _) ?_
      simp (disch := first | assumption | omega | (simp only [h_sl, h_al] <;> omega) | fail) only [WW, WH, ↓reduceIte, Nat.reduceEqDiff, Nat.reduceLT, Nat.reduceLeDiff, Nat.reduceAdd, Nat.reduceSub, Nat.reduceMul, Nat.reduceBEq, reduceCtorEq, if_false, if_true, L_ref16_one, encReplyV]
      have hq := Option.some.inj h; subst hq
      refine hK _ _ _ _ _ ?_ (WxH.refl _) (kn _ hfr)
      exact WE.cons (Wx.str) (WE.cons (Wx.int) (WE.cons (Wx.bool) (WE.nil)))
  · refine UG_nt hy18 ?_
    obtain ⟨x14, hy22, h⟩ := bnd' h
    simp (disch := first | assumption | omega | (simp only [h_sl, h_al] <;> omega) | fail) only [WW, WH, ↓reduceIte, Nat.reduceEqDiff, Nat.reduceLT, Nat.reduceLeDiff, Nat.reduceAdd, Nat.reduceSub, Nat.reduceMul, Nat.reduceBEq, reduceCtorEq, if_false, if_true, L_ref16_one, hy18, hy22, encReplyV]
    obtain ⟨r15, hy23, h⟩ := bnd' h
    refine UK_e (as' := [(.str x14)]) (h := ref16_text_ok (s1 := x14) (F := F)  hy23) (hw := WL.cons (Wx.str) (WL.nil)) (hh := WxH.refl _) ?_
    simp (disch := first | assumption | omega | (simp only [h_sl, h_al] <;> omega) | fail) only [WW, WH, ↓reduceIte, Nat.reduceEqDiff, Nat.reduceLT, Nat.reduceLeDiff, Nat.reduceAdd, Nat.reduceSub, Nat.reduceMul, Nat.reduceBEq, reduceCtorEq, if_false, if_true, L_ref16_one, encReplyV]
    have hq := Option.some.inj h; subst hq
    refine hK _ _ _ _ _ ?_ (WxH.refl _) (kn _ hfr)
    exact WE.cons (Wx.str) (WE.cons (Wx.int) (WE.cons (Wx.bool) (WE.nil)))
set_option maxHeartbeats 2000000 in
theorem ref16_one_ok {F : Nat} {l1 : LineV}  {H0 : AH}  {rz0 : Int} {rz1 : List UInt8} {rz2 : Bool} {rz3 : Bool} (h : ref16_one F l1 = some (rz0, rz1, rz2, rz3)) :
    ACalls Tryd.prog 44 [(.agg [(.str l1.text), (.bool l1.long)])] H0 fun v H' => v = (.tup [(.int .i64 rz0), (.str rz1), (.bool rz2), (.bool rz3)]) ∧ H' = H0 := by
  refine ACalls.goX k_ref16_one (m := m_ref16_one) rfl L_ref16_one (by decide) (by simp) fun hcl K0 hK0 => ?_
  refine AX.of_U (m := m_ref16_one) rfl (by decide) ?_
  have hfr := Fr.refl H0 []
  have hle := hfr.le
  rw [ref16_one.eq_1] at h
  obtain ⟨H, hHH⟩ : ∃ H, H = H0 := ⟨_, rfl⟩
  have hfr : Fr H0 H0.length [] H := hHH ▸ hfr
  have hle := hfr.le
  suffices hU : U Tryd.prog L_ref16_one 87 H0.length [.code m_ref16_one] K0 .normal (argE 0 [(.agg [(.str l1.text), (.bool l1.long)])]) H by rwa [hHH] at hU
  simp (disch := first | assumption | omega | (simp only [h_sl, h_al] <;> omega) | fail) only [WW, WH, ↓reduceIte, Nat.reduceEqDiff, Nat.reduceLT, Nat.reduceLeDiff, Nat.reduceAdd, Nat.reduceSub, Nat.reduceMul, Nat.reduceBEq, reduceCtorEq, if_false, if_true, L_ref16_one, m_ref16_one, encReplyV]
  obtain ⟨q2, hg_q2⟩ : ∃ q : Nat, H.length = q := ⟨_, rfl⟩
  try rw [hg_q2]
  obtain ⟨t7, hy11, h⟩ := bnd' h
  refine UX_of (AX.weak ?_ (WxH.refl _) (ref16_one_p1_ok  (l1 := l1) (t6 := t7) (q2 := q2) ((Fr.app hfr)) ((h_new' (by first | assumption | omega | (simp only [h_sl, h_al] <;> omega) | fail)).trans rfl) (by first | assumption | omega | (simp only [h_sl, h_al] <;> omega) | fail) hy11 ?_))
  · exact WE.cons (Wx.ptr) (WE.cons (Wx.str) (WE.nil))
  intro H hfr hs_o1
  have hle := hfr.le
  have hl_o1 := h_lt hs_o1
  simp (disch := first | assumption | omega | (simp only [h_sl, h_al] <;> omega) | fail) only [WW, WH, ↓reduceIte, Nat.reduceEqDiff, Nat.reduceLT, Nat.reduceLeDiff, Nat.reduceAdd, Nat.reduceSub, Nat.reduceMul, Nat.reduceBEq, reduceCtorEq, if_false, if_true, L_ref16_one, hs_o1, encReplyV]
  rcases ifb h with ⟨hy12, h⟩ | ⟨hy12, h⟩
  · refine UC_t hy12 ?_
    simp (disch := first | assumption | omega | (simp only [h_sl, h_al] <;> omega) | fail) only [WW, WH, ↓reduceIte, Nat.reduceEqDiff, Nat.reduceLT, Nat.reduceLeDiff, Nat.reduceAdd, Nat.reduceSub, Nat.reduceMul, Nat.reduceBEq, reduceCtorEq, if_false, if_true, L_ref16_one, hs_o1, encReplyV]
    have hq := Option.some.inj h; have hq0 := (Prod.mk.inj hq).1; replace hq := (Prod.mk.inj hq).2; have hq1 := (Prod.mk.inj hq).1; replace hq := (Prod.mk.inj hq).2; have hq2 := (Prod.mk.inj hq).1; replace hq := (Prod.mk.inj hq).2; subst hq0; subst hq1; subst hq2; subst hq
    refine hK0 _ _ _ (.inr rfl) ?_
    exact fn_end0 (by exact hfr) hcl (resv_tmp (a := (.int .i64 0)) rfl rfl (resv_tmp (a := (.str ([] : List UInt8))) rfl rfl (resv_tmp (a := (.bool false)) rfl rfl (resv_tmp (a := (.bool false)) rfl rfl resv_nil)))) (by simp [fin, AV.df, AV.sh, AV.sh1, b_df, b_sh, b_sh1, b_Cl]) (Wx.tupX (W2L.same (W2L.same (W2L.same (W2L.same (W2L.nil)))))) (r' := (.tup [(.int .i64 0), (.str ([] : List UInt8)), (.bool false), (.bool false)])) ⟨rfl, rfl⟩
  · refine UC_f hy12 ?_
    obtain ⟨x8, hy13, h⟩ := bnd' h
    obtain ⟨x9, hy14, h⟩ := bnd' h
    obtain ⟨x10, hy15, h⟩ := bnd' h
    simp (disch := first | assumption | omega | (simp only [h_sl, h_al] <;> omega) | fail) only [WW, WH, ↓reduceIte, Nat.reduceEqDiff, Nat.reduceLT, Nat.reduceLeDiff, Nat.reduceAdd, Nat.reduceSub, Nat.reduceMul, Nat.reduceBEq, reduceCtorEq, if_false, if_true, L_ref16_one, hy13, hy14, hy15, hs_o1, encReplyV]
    rcases ifb h with ⟨hy16, h⟩ | ⟨hy16, h⟩
    · refine UC_t hy16 ?_
      simp (disch := first | assumption | omega | (simp only [h_sl, h_al] <;> omega) | fail) only [WW, WH, ↓reduceIte, Nat.reduceEqDiff, Nat.reduceLT, Nat.reduceLeDiff, Nat.reduceAdd, Nat.reduceSub, Nat.reduceMul, Nat.reduceBEq, reduceCtorEq, if_false, if_true, L_ref16_one, hs_o1, encReplyV]
      have hq := Option.some.inj h; have hq0 := (Prod.mk.inj hq).1; replace hq := (Prod.mk.inj hq).2; have hq1 := (Prod.mk.inj hq).1; replace hq := (Prod.mk.inj hq).2; have hq2 := (Prod.mk.inj hq).1; replace hq := (Prod.mk.inj hq).2; subst hq0; subst hq1; subst hq2; subst hq
      refine hK0 _ _ _ (.inr rfl) ?_
      exact fn_end0 (by exact hfr) hcl (resv_tmp (a := (.int .i64 (IntKind.wrap .i64 ((IntKind.wrap .i64 ((IntKind.wrap .i64 (100 * (IntKind.wrap .i64 ((x8 - 48).toNat : Int)))) + (IntKind.wrap .i64 (10 * (IntKind.wrap .i64 ((x9 - 48).toNat : Int)))))) + (IntKind.wrap .i64 ((x10 - 48).toNat : Int)))))) rfl rfl (resv_tmp (a := (.str ([] : List UInt8))) rfl rfl (resv_tmp (a := (.bool true)) rfl rfl (resv_tmp (a := (.bool true)) rfl rfl resv_nil)))) (by simp [fin, AV.df, AV.sh, AV.sh1, b_df, b_sh, b_sh1, b_Cl]) (Wx.tupX (W2L.same (W2L.same (W2L.same (W2L.same (W2L.nil)))))) (r' := (.tup [(.int .i64 (IntKind.wrap .i64 ((IntKind.wrap .i64 ((IntKind.wrap .i64 (100 * (IntKind.wrap .i64 ((x8 - 48).toNat : Int)))) + (IntKind.wrap .i64 (10 * (IntKind.wrap .i64 ((x9 - 48).toNat : Int)))))) + (IntKind.wrap .i64 ((x10 - 48).toNat : Int))))), (.str ([] : List UInt8)), (.bool true), (.bool true)])) ⟨rfl, rfl⟩
    · refine UC_f hy16 ?_
      simp (disch := first | assumption | omega | (simp only [h_sl, h_al] <;> omega) | fail) only [WW, WH, ↓reduceIte, Nat.reduceEqDiff, Nat.reduceLT, Nat.reduceLeDiff, Nat.reduceAdd, Nat.reduceSub, Nat.reduceMul, Nat.reduceBEq, reduceCtorEq, if_false, if_true, L_ref16_one, hs_o1, encReplyV]
      obtain ⟨t17, hy24, h⟩ := bnd' h
      refine UX_of (AX.weak ?_ (WxH.refl _) (ref16_one_p2_ok (F := F) (l1 := l1) (x8 := x8) (x9 := x9) (x10 := x10) (t16 := t17)  (hfr) hy24 ?_))
      · exact WE.cons (Wx.str) (WE.cons (Wx.int) (WE.nil))
      intro H hfr
      have hle := hfr.le
      simp (disch := first | assumption | omega | (simp only [h_sl, h_al] <;> omega) | fail) only [WW, WH, ↓reduceIte, Nat.reduceEqDiff, Nat.reduceLT, Nat.reduceLeDiff, Nat.reduceAdd, Nat.reduceSub, Nat.reduceMul, Nat.reduceBEq, reduceCtorEq, if_false, if_true, L_ref16_one, encReplyV]
      rcases ifb h with ⟨hy25, h⟩ | ⟨hy25, h⟩
      · refine UC_t hy25 ?_
        simp (disch := first | assumption | omega | (simp only [h_sl, h_al] <;> omega) | fail) only [WW, WH, ↓reduceIte, Nat.reduceEqDiff, Nat.reduceLT, Nat.reduceLeDiff, Nat.reduceAdd, Nat.reduceSub, Nat.reduceMul, Nat.reduceBEq, reduceCtorEq, if_false, if_true, L_ref16_one, encReplyV]
        have hq := Option.some.inj h; have hq0 := (Prod.mk.inj hq).1; replace hq := (Prod.mk.inj hq).2; have hq1 := (Prod.mk.inj hq).1; replace hq := (Prod.mk.inj hq).2; have hq2 := (Prod.mk.inj hq).1; replace hq := (Prod.mk.inj hq).2; subst hq0; subst hq1; subst hq2; subst hq
        refine hK0 _ _ _ (.inr rfl) ?_
        exact fn_end0 (by exact hfr) hcl (resv_tmp (a := (.int .i64 0)) rfl rfl (resv_tmp (a := (.str ([] : List UInt8))) rfl rfl (resv_tmp (a := (.bool false)) rfl rfl (resv_tmp (a := (.bool false)) rfl rfl resv_nil)))) (by simp [fin, AV.df, AV.sh, AV.sh1, b_df, b_sh, b_sh1, b_Cl]) (Wx.tupX (W2L.same (W2L.same (W2L.same (W2L.same (W2L.nil)))))) (r' := (.tup [(.int .i64 0), (.str ([] : List UInt8)), (.bool false), (.bool false)])) ⟨rfl, rfl⟩
      · refine UC_f hy25 ?_
        obtain ⟨x18, hy26, h⟩ := bnd' h
        obtain ⟨x19, hy27, h⟩ := bnd' h
        simp (disch := first | assumption | omega | (simp only [h_sl, h_al] <;> omega) | fail) only [WW, WH, ↓reduceIte, Nat.reduceEqDiff, Nat.reduceLT, Nat.reduceLeDiff, Nat.reduceAdd, Nat.reduceSub, Nat.reduceMul, Nat.reduceBEq, reduceCtorEq, if_false, if_true, L_ref16_one, hy26, hy27, encReplyV]
        have hq := Option.some.inj h; have hq0 := (Prod.mk.inj hq).1; replace hq := (Prod.mk.inj hq).2; have hq1 := (Prod.mk.inj hq).1; replace hq := (Prod.mk.inj hq).2; have hq2 := (Prod.mk.inj hq).1; replace hq := (Prod.mk.inj hq).2; subst hq0; subst hq1; subst hq2; subst hq
        refine hK0 _ _ _ (.inr rfl) ?_
        exact fn_end0 (by exact hfr) hcl (resv_tmp (a := (.int .i64 (IntKind.wrap .i64 ((IntKind.wrap .i64 ((IntKind.wrap .i64 (100 * (IntKind.wrap .i64 ((x8 - 48).toNat : Int)))) + (IntKind.wrap .i64 (10 * (IntKind.wrap .i64 ((x9 - 48).toNat : Int)))))) + (IntKind.wrap .i64 ((x10 - 48).toNat : Int)))))) rfl rfl (resv_tmp (a := (.str x18)) rfl rfl (resv_tmp (a := (.bool (decide (x19 = 32)))) rfl rfl (resv_tmp (a := (.bool true)) rfl rfl resv_nil)))) (by simp [fin, AV.df, AV.sh, AV.sh1, b_df, b_sh, b_sh1, b_Cl]) (Wx.tupX (W2L.same (W2L.same (W2L.same (W2L.same (W2L.nil)))))) (r' := (.tup [(.int .i64 (IntKind.wrap .i64 ((IntKind.wrap .i64 ((IntKind.wrap .i64 (100 * (IntKind.wrap .i64 ((x8 - 48).toNat : Int)))) + (IntKind.wrap .i64 (10 * (IntKind.wrap .i64 ((x9 - 48).toNat : Int)))))) + (IntKind.wrap .i64 ((x10 - 48).toNat : Int))))), (.str x18), (.bool (decide (x19 = 32))), (.bool true)])) ⟨rfl, rfl⟩

/-! ### (*mailbag/mailbagref16.Reader).Put -/
def c_ref16_Reader_Put_p1 : ACode := (.rg [⟨(some 21), (.mv (.t 7)), none⟩, ⟨(some 22), (.un .not (.t 21)), none⟩, ⟨(some 23), (.mv (.t 22)), none⟩, ⟨(some 24), (.mv (.t 0)), (some (23, false))⟩, ⟨(some 25), (.nck (.t 24)), (some (23, false))⟩, ⟨(some 26), (.fld (.t 25) 6), (some (23, false))⟩, ⟨(some 27), (.ld (.t 26) none), (some (23, false))⟩, ⟨(some 28), (.pick (.t 23) (.c (.bool true)) (.t 27)), none⟩])
abbrev m_ref16_Reader_Put_p1 := c_ref16_Reader_Put_p1
def c_ref16_Reader_Put_p2 : ACode := (.rg [⟨(some 37), (.mv (.t 11)), none⟩, ⟨(some 38), (.un .not (.t 37)), none⟩, ⟨(some 39), (.mv (.t 38)), none⟩, ⟨(some 40), (.mv (.t 0)), (some (39, false))⟩, ⟨(some 41), (.nck (.t 40)), (some (39, false))⟩, ⟨(some 42), (.fld (.t 41) 5), (some (39, false))⟩, ⟨(some 43), (.ld (.t 42) none), (some (39, false))⟩, ⟨(some 44), (.len (.t 43)), (some (39, false))⟩, ⟨(some 45), (.bin .gtr (.t 44) (.c (.int .i64 0))), (some (39, false))⟩, ⟨(some 46), (.mv (.t 45)), (some (39, false))⟩, ⟨(some 47), (.mv (.t 8)), (some (46, true))⟩, ⟨(some 48), (.mv (.t 0)), (some (46, true))⟩, ⟨(some 49), (.nck (.t 48)), (some (46, true))⟩, ⟨(some 50), (.fld (.t 49) 4), (some (46, true))⟩, ⟨(some 51), (.ld (.t 50) none), (some (46, true))⟩, ⟨(some 52), (.bin .neq (.t 47) (.t 51)), (some (46, true))⟩, ⟨(some 53), (.pick (.t 46) (.t 52) (.c (.bool false))), (some (39, false))⟩, ⟨(some 54), (.pick (.t 39) (.c (.bool true)) (.t 53)), none⟩, ⟨(some 55), (.mv (.t 54)), none⟩, ⟨(some 56), (.mv (.t 0)), (some (55, false))⟩, ⟨(some 57), (.nck (.t 56)), (some (55, false))⟩, ⟨(some 58), (.fld (.t 57) 5), (some (55, false))⟩, ⟨(some 59), (.ld (.t 58) none), (some (55, false))⟩, ⟨(some 60), (.len (.t 59)), (some (55, false))⟩, ⟨(some 61), (.bin .eql (.t 60) (.c (.int .i64 20))), (some (55, false))⟩, ⟨(some 62), (.pick (.t 55) (.c (.bool true)) (.t 61)), none⟩])
abbrev m_ref16_Reader_Put_p2 := c_ref16_Reader_Put_p2
def c_ref16_Reader_Put : ACode := (.seq (.rg [⟨(some 4), (.alloc [(.int .i64 0), (.sl .ex 1 [])]), none⟩, ⟨(some 5), (.asg (.c (.bool false))), none⟩]) (.seq (.rg [⟨(some 14), (.mv (.t 0)), none⟩, ⟨(some 15), (.nck (.t 14)), none⟩, ⟨(some 16), (.fld (.t 15) 0), none⟩, ⟨(some 17), (.mv (.t 1)), none⟩, ⟨(some 18), (.call (.c (.fn 43 [])) [(.t 16), (.t 17)]), none⟩, ⟨(some 13), (.mv (.t 18)), none⟩, ⟨(some 19), (.ext (.t 13) 0), none⟩, ⟨(some 20), (.ext (.t 13) 1), none⟩, ⟨(some 6), (.alloc [(.str []), (.bool false)]), none⟩, ⟨none, (.st (.t 6) (.t 19) 2), none⟩, ⟨(some 7), (.asg (.t 20)), none⟩]) (.seq (.seq c_ref16_Reader_Put_p1 (.cond (.t 28) (.seq (.rg [⟨(some 29), (.build [(.int .i64 0), (.sl .ex 1 [])] []), none⟩, ⟨none, (.st (.t 4) (.t 29) 2), none⟩, ⟨(some 5), (.asg (.c (.bool false))), none⟩]) .ret) .skip)) (.seq (.rg [⟨(some 31), (.ld (.t 6) (some 2)), none⟩, ⟨(some 32), (.call (.c (.fn 44 [])) [(.t 31)]), none⟩, ⟨(some 30), (.mv (.t 32)), none⟩, ⟨(some 33), (.ext (.t 30) 0), none⟩, ⟨(some 34), (.ext (.t 30) 1), none⟩, ⟨(some 35), (.ext (.t 30) 2), none⟩, ⟨(some 36), (.ext (.t 30) 3), none⟩, ⟨(some 8), (.asg (.t 33)), none⟩, ⟨(some 9), (.asg (.t 34)), none⟩, ⟨(some 10), (.asg (.t 35)), none⟩, ⟨(some 11), (.asg (.t 36)), none⟩]) (.seq (.seq c_ref16_Reader_Put_p2 (.cond (.t 62) (.seq (.rg [⟨(some 63), (.mv (.t 0)), none⟩, ⟨(some 64), (.nck (.t 63)), none⟩, ⟨(some 65), (.fld (.t 64) 6), none⟩, ⟨none, (.st (.t 65) (.c (.bool true)) 1), none⟩]) (.seq (.rg [⟨(some 66), (.build [(.int .i64 0), (.sl .ex 1 [])] []), none⟩, ⟨none, (.st (.t 4) (.t 66) 2), none⟩, ⟨(some 5), (.asg (.c (.bool false))), none⟩]) .ret)) .skip)) (.seq (.rg [⟨(some 67), (.mv (.t 0)), none⟩, ⟨(some 68), (.mv (.t 8)), none⟩, ⟨(some 69), (.nck (.t 67)), none⟩, ⟨(some 70), (.fld (.t 69) 4), none⟩, ⟨none, (.st (.t 70) (.t 68) 1), none⟩]) (.seq (.rg [⟨(some 71), (.mv (.t 0)), none⟩, ⟨(some 72), (.bsl 1 []), none⟩, ⟨(some 73), (.mv (.t 0)), none⟩, ⟨(some 74), (.nck (.t 73)), none⟩, ⟨(some 75), (.fld (.t 74) 5), none⟩, ⟨(some 76), (.ld (.t 75) none), none⟩, ⟨(some 77), (.app 1 16 (.t 72) (.t 76)), none⟩, ⟨(some 78), (.mv (.t 9)), none⟩, ⟨(some 79), (.bsl 1 [(.t 78)]), none⟩, ⟨(some 80), (.app 1 16 (.t 77) (.t 79)), none⟩, ⟨(some 81), (.nck (.t 71)), none⟩, ⟨(some 82), (.fld (.t 81) 5), none⟩, ⟨none, (.st (.t 82) (.t 80) 1), none⟩]) (.seq (.seq (.rg [⟨(some 83), (.mv (.t 10)), none⟩, ⟨(some 84), (.un .not (.t 83)), none⟩]) (.cond (.t 84) (.seq (.rg [⟨(some 85), (.build [(.int .i64 0), (.sl .ex 1 [])] []), none⟩, ⟨none, (.st (.t 4) (.t 85) 2), none⟩, ⟨(some 5), (.asg (.c (.bool false))), none⟩]) .ret) .skip)) (.seq (.rg [⟨(some 86), (.mv (.t 8)), none⟩, ⟨(some 87), (.mv (.t 0)), none⟩, ⟨(some 88), (.nck (.t 87)), none⟩, ⟨(some 89), (.fld (.t 88) 5), none⟩, ⟨(some 90), (.ld (.t 89) none), none⟩, ⟨(some 91), (.build [(.int .i64 0), (.sl .ex 1 [])] [(0, (1, (.t 86))), (1, (1, (.t 90)))]), none⟩, ⟨(some 12), (.alloc [(.int .i64 0), (.sl .ex 1 [])]), none⟩, ⟨none, (.st (.t 12) (.t 91) 2), none⟩]) (.seq (.rg [⟨(some 92), (.mv (.t 0)), none⟩, ⟨(some 93), (.nck (.t 92)), none⟩, ⟨(some 94), (.fld (.t 93) 5), none⟩, ⟨none, (.st (.t 94) (.c (.sl .ex 1 [])) 1), none⟩]) (.seq (.rg [⟨(some 95), (.ld (.t 12) (some 2)), none⟩, ⟨none, (.st (.t 4) (.t 95) 2), none⟩, ⟨(some 5), (.asg (.c (.bool true))), none⟩]) .ret)))))))))))
def m_ref16_Reader_Put : ACode := (.seq (.rg [⟨(some 4), (.alloc [(.int .i64 0), (.sl .ex 1 [])]), none⟩, ⟨(some 5), (.asg (.c (.bool false))), none⟩]) (.seq (.rg [⟨(some 14), (.mv (.t 0)), none⟩, ⟨(some 15), (.nck (.t 14)), none⟩, ⟨(some 16), (.fld (.t 15) 0), none⟩, ⟨(some 17), (.mv (.t 1)), none⟩, ⟨(some 18), (.call (.c (.fn 43 [])) [(.t 16), (.t 17)]), none⟩, ⟨(some 13), (.mv (.t 18)), none⟩, ⟨(some 19), (.ext (.t 13) 0), none⟩, ⟨(some 20), (.ext (.t 13) 1), none⟩, ⟨(some 6), (.alloc [(.str []), (.bool false)]), none⟩, ⟨none, (.st (.t 6) (.t 19) 2), none⟩, ⟨(some 7), (.asg (.t 20)), none⟩]) (.seq (.seq (.sem c_ref16_Reader_Put_p1) (.cond (.t 28) (.seq (.rg [⟨(some 29), (.build [(.int .i64 0), (.sl .ex 1 [])] []), none⟩, ⟨none, (.st (.t 4) (.t 29) 2), none⟩, ⟨(some 5), (.asg (.c (.bool false))), none⟩]) .ret) .skip)) (.seq (.rg [⟨(some 31), (.ld (.t 6) (some 2)), none⟩, ⟨(some 32), (.call (.c (.fn 44 [])) [(.t 31)]), none⟩, ⟨(some 30), (.mv (.t 32)), none⟩, ⟨(some 33), (.ext (.t 30) 0), none⟩, ⟨(some 34), (.ext (.t 30) 1), none⟩, ⟨(some 35), (.ext (.t 30) 2), none⟩, ⟨(some 36), (.ext (.t 30) 3), none⟩, ⟨(some 8), (.asg (.t 33)), none⟩, ⟨(some 9), (.asg (.t 34)), none⟩, ⟨(some 10), (.asg (.t 35)), none⟩, ⟨(some 11), (.asg (.t 36)), none⟩]) (.seq (.seq (.sem c_ref16_Reader_Put_p2) (.cond (.t 62) (.seq (.rg [⟨(some 63), (.mv (.t 0)), none⟩, ⟨(some 64), (.nck (.t 63)), none⟩, ⟨(some 65), (.fld (.t 64) 6), none⟩, ⟨none, (.st (.t 65) (.c (.bool true)) 1), none⟩]) (.seq (.rg [⟨(some 66), (.build [(.int .i64 0), (.sl .ex 1 [])] []), none⟩, ⟨none, (.st (.t 4) (.t 66) 2), none⟩, ⟨(some 5), (.asg (.c (.bool false))), none⟩]) .ret)) .skip)) (.seq (.rg [⟨(some 67), (.mv (.t 0)), none⟩, ⟨(some 68), (.mv (.t 8)), none⟩, ⟨(some 69), (.nck (.t 67)), none⟩, ⟨(some 70), (.fld (.t 69) 4), none⟩, ⟨none, (.st (.t 70) (.t 68) 1), none⟩]) (.seq (.rg [⟨(some 71), (.mv (.t 0)), none⟩, ⟨(some 72), (.bsl 1 []), none⟩, ⟨(some 73), (.mv (.t 0)), none⟩, ⟨(some 74), (.nck (.t 73)), none⟩, ⟨(some 75), (.fld (.t 74) 5), none⟩, ⟨(some 76), (.ld (.t 75) none), none⟩, ⟨(some 77), (.app 1 16 (.t 72) (.t 76)), none⟩, ⟨(some 78), (.mv (.t 9)), none⟩, ⟨(some 79), (.bsl 1 [(.t 78)]), none⟩, ⟨(some 80), (.app 1 16 (.t 77) (.t 79)), none⟩, ⟨(some 81), (.nck (.t 71)), none⟩, ⟨(some 82), (.fld (.t 81) 5), none⟩, ⟨none, (.st (.t 82) (.t 80) 1), none⟩]) (.seq (.seq (.rg [⟨(some 83), (.mv (.t 10)), none⟩, ⟨(some 84), (.un .not (.t 83)), none⟩]) (.cond (.t 84) (.seq (.rg [⟨(some 85), (.build [(.int .i64 0), (.sl .ex 1 [])] []), none⟩, ⟨none, (.st (.t 4) (.t 85) 2), none⟩, ⟨(some 5), (.asg (.c (.bool false))), none⟩]) .ret) .skip)) (.seq (.rg [⟨(some 86), (.mv (.t 8)), none⟩, ⟨(some 87), (.mv (.t 0)), none⟩, ⟨(some 88), (.nck (.t 87)), none⟩, ⟨(some 89), (.fld (.t 88) 5), none⟩, ⟨(some 90), (.ld (.t 89) none), none⟩, ⟨(some 91), (.build [(.int .i64 0), (.sl .ex 1 [])] [(0, (1, (.t 86))), (1, (1, (.t 90)))]), none⟩, ⟨(some 12), (.alloc [(.int .i64 0), (.sl .ex 1 [])]), none⟩, ⟨none, (.st (.t 12) (.t 91) 2), none⟩]) (.seq (.rg [⟨(some 92), (.mv (.t 0)), none⟩, ⟨(some 93), (.nck (.t 92)), none⟩, ⟨(some 94), (.fld (.t 93) 5), none⟩, ⟨none, (.st (.t 94) (.c (.sl .ex 1 [])) 1), none⟩]) (.seq (.rg [⟨(some 95), (.ld (.t 12) (some 2)), none⟩, ⟨none, (.st (.t 4) (.t 95) 2), none⟩, ⟨(some 5), (.asg (.c (.bool true))), none⟩]) .ret)))))))))))
theorem k_ref16_Reader_Put : FnOk Tryd.prog 33 96 [(.cell 4 46), (.tmp 5)] c_ref16_Reader_Put := ⟨Tryd.f33, _, rfl, by decide, rfl, by kernel_rfl, rfl, rfl⟩
abbrev L_ref16_Reader_Put : List Nat := [0, 1, 4, 5, 6, 7, 8, 9, 10, 11, 12, 28, 62, 84]
def ref16_Reader_Put (F : Nat) (r2 : ReaderVx) (c3 : UInt8) : Option (ReplyV × Bool × ReaderVx) :=
  (ref13_Splitter_Put_sx r2 c3).bind fun (r4, r5, r6) =>
  (if ((!r5) || r6.bad) then
    some ((ReplyV.mk 0 ([] : List (List UInt8))), false, r6)
  else
    (ref16_one F r4).bind fun (r9, r10, r11, r12) =>
    (if (((!r12) || ((decide (0 < (r6.l.length : Int))) && (!decide (r9 = r6.code)))) || (decide ((r6.l.length : Int) = 20))) then
      some ((ReplyV.mk 0 ([] : List (List UInt8))), false, (ReaderVx.mk r6.s r6.code r6.l true))
    else
      (capp 16 ([] : List (List UInt8)) r6.l).bind fun x14 =>
      (capp 16 x14 ([r10] : List (List UInt8))).bind fun x15 =>
      (if (!r11) then
        some ((ReplyV.mk 0 ([] : List (List UInt8))), false, (ReaderVx.mk r6.s r9 x15 r6.bad))
      else
        some ((ReplyV.mk r9 x15), true, (ReaderVx.mk r6.s r9 ([] : List (List UInt8)) r6.bad)))))
set_option maxHeartbeats 2000000 in
theorem ref16_Reader_Put_p1_ok {q1 : Nat} {q7 : Nat} {q8 : Nat} {r5 : Bool} {r6 : ReaderVx} {r4 : LineV} {H0 H : AH} (hfr : Fr H0 H0.length [q1] H) (hs_o1 : H[q1]? = some [(.int .i64 r6.s.most), (.sl .own 1 (ml b8 r6.s.b)), (.int .i64 r6.s.n), (.bool r6.s.cR), (.int .i64 r6.code), (.sl .own 1 (ml AV.str r6.l)), (.bool r6.bad)]) (hs_o2 : H[q7]? = some [(.int .i64 0), (.sl .own 1 [])]) (hs_o3 : H[q8]? = some [(.str r4.text), (.bool r4.long)]) (hi0 : q1 < H0.length) (hi1 : H0.length ≤ q7) (hi2 : H0.length ≤ q8) (hi3 : q7 ≠ q8) {K : Exit → Env → AH → Prop}
    (kn : ∀ H' : AH, Fr H0 H0.length [q1] H' → H'[q1]? = some [(.int .i64 r6.s.most), (.sl .own 1 (ml b8 r6.s.b)), (.int .i64 r6.s.n), (.bool r6.s.cR), (.int .i64 r6.code), (.sl .own 1 (ml AV.str r6.l)), (.bool r6.bad)] → H'[q7]? = some [(.int .i64 0), (.sl .own 1 [])] → H'[q8]? = some [(.str r4.text), (.bool r4.long)] → K .normal [(0, (.ptr q1 0)), (4, (.ptr q7 0)), (6, (.ptr q8 0)), (28, (.bool ((!r5) || r6.bad)))] H') :
    AX Tryd.prog L_ref16_Reader_Put 96 H0.length c_ref16_Reader_Put_p1 K [(0, (.ptr q1 0)), (4, (.ptr q7 0)), (6, (.ptr q8 0)), (7, (.bool r5))] H := by
  refine AX.go (m := m_ref16_Reader_Put_p1) rfl (by decide) fun K' hK => ?_
  have hle := hfr.le
  have hl_o1 := h_lt hs_o1
  have hl_o2 := h_lt hs_o2
  have hl_o3 := h_lt hs_o3
  simp (disch := first | assumption | omega | (simp only [h_sl, h_al] <;> omega) | fail) only [WW, WH, ↓reduceIte, Nat.reduceEqDiff, Nat.reduceLT, Nat.reduceLeDiff, Nat.reduceAdd, Nat.reduceSub, Nat.reduceMul, Nat.reduceBEq, reduceCtorEq, if_false, if_true, L_ref16_Reader_Put, m_ref16_Reader_Put_p1, c_ref16_Reader_Put_p1, hs_o1, hs_o2, hs_o3, encReplyV]
  rcases bcases ((!r5)) with hy2 | hy2
  · refine UG_nf hy2 ?_
    simp (disch := first | assumption | omega | (simp only [h_sl, h_al] <;> omega) | fail) only [WW, WH, ↓reduceIte, Nat.reduceEqDiff, Nat.reduceLT, Nat.reduceLeDiff, Nat.reduceAdd, Nat.reduceSub, Nat.reduceMul, Nat.reduceBEq, reduceCtorEq, if_false, if_true, L_ref16_Reader_Put, hy2, hs_o1, hs_o2, hs_o3, encReplyV]
    refine hK _ _ _ _ _ ?_ (WxH.refl _) (kn _ hfr ((hs_o1).trans rfl) ((hs_o2).trans rfl) ((hs_o3).trans rfl))
    exact WE.cons (Wx.ptr) (WE.cons (Wx.ptr) (WE.cons (Wx.ptr) (WE.cons (Wx.boolE (by simp only [hy2, WB])) (WE.nil))))
  · refine UG_go hy2 ?_
    simp (disch := first | assumption | omega | (simp only [h_sl, h_al] <;> omega) | fail) only [WW, WH, ↓reduceIte, Nat.reduceEqDiff, Nat.reduceLT, Nat.reduceLeDiff, Nat.reduceAdd, Nat.reduceSub, Nat.reduceMul, Nat.reduceBEq, reduceCtorEq, if_false, if_true, L_ref16_Reader_Put, hy2, hs_o1, hs_o2, hs_o3, encReplyV]
    refine hK _ _ _ _ _ ?_ (WxH.refl _) (kn _ hfr ((hs_o1).trans rfl) ((hs_o2).trans rfl) ((hs_o3).trans rfl))
    exact WE.cons (Wx.ptr) (WE.cons (Wx.ptr) (WE.cons (Wx.ptr) (WE.cons (Wx.boolE (by simp only [hy2, WB])) (WE.nil))))
set_option maxHeartbeats 2000000 in
theorem ref16_Reader_Put_p2_ok {q1 : Nat} {q13 : Nat} {r9 : Int} {r10 : List UInt8} {r11 : Bool} {r12 : Bool} {r6 : ReaderVx} {H0 H : AH} (hfr : Fr H0 H0.length [q1] H) (hs_o1 : H[q1]? = some [(.int .i64 r6.s.most), (.sl .own 1 (ml b8 r6.s.b)), (.int .i64 r6.s.n), (.bool r6.s.cR), (.int .i64 r6.code), (.sl .own 1 (ml AV.str r6.l)), (.bool r6.bad)]) (hs_o2 : H[q13]? = some [(.int .i64 0), (.sl .own 1 [])]) (hi0 : q1 < H0.length) (hi1 : H0.length ≤ q13) {K : Exit → Env → AH → Prop}
    (kn : ∀ H' : AH, Fr H0 H0.length [q1] H' → H'[q1]? = some [(.int .i64 r6.s.most), (.sl .own 1 (ml b8 r6.s.b)), (.int .i64 r6.s.n), (.bool r6.s.cR), (.int .i64 r6.code), (.sl .own 1 (ml AV.str r6.l)), (.bool r6.bad)] → H'[q13]? = some [(.int .i64 0), (.sl .own 1 [])] → K .normal [(0, (.ptr q1 0)), (4, (.ptr q13 0)), (8, (.int .i64 r9)), (9, (.str r10)), (10, (.bool r11)), (62, (.bool (((!r12) || ((decide (0 < (r6.l.length : Int))) && (!decide (r9 = r6.code)))) || (decide ((r6.l.length : Int) = 20)))))] H') :
    AX Tryd.prog L_ref16_Reader_Put 96 H0.length c_ref16_Reader_Put_p2 K [(0, (.ptr q1 0)), (4, (.ptr q13 0)), (8, (.int .i64 r9)), (9, (.str r10)), (10, (.bool r11)), (11, (.bool r12))] H := by
  refine AX.go (m := m_ref16_Reader_Put_p2) rfl (by decide) fun K' hK => ?_
  have hle := hfr.le
  have hl_o1 := h_lt hs_o1
  have hl_o2 := h_lt hs_o2
  simp (disch := first | assumption | omega | (simp only [h_sl, h_al] <;> omega) | fail) only [WW, WH, ↓reduceIte, Nat.reduceEqDiff, Nat.reduceLT, Nat.reduceLeDiff, Nat.reduceAdd, Nat.reduceSub, Nat.reduceMul, Nat.reduceBEq, reduceCtorEq, if_false, if_true, L_ref16_Reader_Put, m_ref16_Reader_Put_p2, c_ref16_Reader_Put_p2, hs_o1, hs_o2, encReplyV]
  rcases bcases ((!r12)) with hy5 | hy5
  · refine UG_nf hy5 ?_
    simp (disch := first | assumption | omega | (simp only [h_sl, h_al] <;> omega) | fail) only [WW, WH, ↓reduceIte, Nat.reduceEqDiff, Nat.reduceLT, Nat.reduceLeDiff, Nat.reduceAdd, Nat.reduceSub, Nat.reduceMul, Nat.reduceBEq, reduceCtorEq, if_false, if_true, L_ref16_Reader_Put, hy5, hs_o1, hs_o2, encReplyV]
    refine hK _ _ _ _ _ ?_ (WxH.refl _) (kn _ hfr ((hs_o1).trans rfl) ((hs_o2).trans rfl))
    exact WE.cons (Wx.ptr) (WE.cons (Wx.ptr) (WE.cons (Wx.int) (WE.cons (Wx.str) (WE.cons (Wx.bool) (WE.cons (Wx.boolE (by simp only [hy5, WB])) (WE.nil))))))
  · refine UG_go hy5 ?_
    simp (disch := first | assumption | omega | (simp only [h_sl, h_al] <;> omega) | fail) only [WW, WH, ↓reduceIte, Nat.reduceEqDiff, Nat.reduceLT, Nat.reduceLeDiff, Nat.reduceAdd, Nat.reduceSub, Nat.reduceMul, Nat.reduceBEq, reduceCtorEq, if_false, if_true, L_ref16_Reader_Put, hy5, hs_o1, hs_o2, encReplyV]
    rcases bcases ((decide (0 < (r6.l.length : Int)))) with hy6 | hy6
    · refine UG_go hy6 ?_
      simp (disch := first | assumption | omega | (simp only [h_sl, h_al] <;> omega) | fail) only [WW, WH, ↓reduceIte, Nat.reduceEqDiff, Nat.reduceLT, Nat.reduceLeDiff, Nat.reduceAdd, Nat.reduceSub, Nat.reduceMul, Nat.reduceBEq, reduceCtorEq, if_false, if_true, L_ref16_Reader_Put, hy6, hs_o1, hs_o2, encReplyV]
      rcases bcases ((!decide (r9 = r6.code))) with hy7 | hy7
      · refine UG_nf hy7 ?_
        simp (disch := first | assumption | omega | (simp only [h_sl, h_al] <;> omega) | fail) only [WW, WH, ↓reduceIte, Nat.reduceEqDiff, Nat.reduceLT, Nat.reduceLeDiff, Nat.reduceAdd, Nat.reduceSub, Nat.reduceMul, Nat.reduceBEq, reduceCtorEq, if_false, if_true, L_ref16_Reader_Put, hy7, hs_o1, hs_o2, encReplyV]
        refine hK _ _ _ _ _ ?_ (WxH.refl _) (kn _ hfr ((hs_o1).trans rfl) ((hs_o2).trans rfl))
        exact WE.cons (Wx.ptr) (WE.cons (Wx.ptr) (WE.cons (Wx.int) (WE.cons (Wx.str) (WE.cons (Wx.bool) (WE.cons (Wx.boolE (by first | (simp only [hy5, hy6, hy7, WB]; done) | (try rw [hy5]; try rw [hy6]; try rw [hy7]; try simp only [WB]))) (WE.nil))))))
      · refine UG_go hy7 ?_
        simp (disch := first | assumption | omega | (simp only [h_sl, h_al] <;> omega) | fail) only [WW, WH, ↓reduceIte, Nat.reduceEqDiff, Nat.reduceLT, Nat.reduceLeDiff, Nat.reduceAdd, Nat.reduceSub, Nat.reduceMul, Nat.reduceBEq, reduceCtorEq, if_false, if_true, L_ref16_Reader_Put, hy7, hs_o1, hs_o2, encReplyV]
        refine hK _ _ _ _ _ ?_ (WxH.refl _) (kn _ hfr ((hs_o1).trans rfl) ((hs_o2).trans rfl))
        exact WE.cons (Wx.ptr) (WE.cons (Wx.ptr) (WE.cons (Wx.int) (WE.cons (Wx.str) (WE.cons (Wx.bool) (WE.cons (Wx.boolE (by first | (simp only [hy5, hy6, hy7, WB]; done) | (try rw [hy5]; try rw [hy6]; try rw [hy7]; try simp only [WB]))) (WE.nil))))))
    · refine UG_nt hy6 ?_
      simp (disch := first | assumption | omega | (simp only [h_sl, h_al] <;> omega) | fail) only [WW, WH, ↓reduceIte, Nat.reduceEqDiff, Nat.reduceLT, Nat.reduceLeDiff, Nat.reduceAdd, Nat.reduceSub, Nat.reduceMul, Nat.reduceBEq, reduceCtorEq, if_false, if_true, L_ref16_Reader_Put, hy6, hs_o1, hs_o2, encReplyV]
      refine hK _ _ _ _ _ ?_ (WxH.refl _) (kn _ hfr ((hs_o1).trans rfl) ((hs_o2).trans rfl))
      exact WE.cons (Wx.ptr) (WE.cons (Wx.ptr) (WE.cons (Wx.int) (WE.cons (Wx.str) (WE.cons (Wx.bool) (WE.cons (Wx.boolE (by first | (simp only [hy5, hy6, WB]; done) | (try rw [hy5]; try rw [hy6]; try simp only [WB]))) (WE.nil))))))
set_option maxHeartbeats 2000000 in
theorem ref16_Reader_Put_ok {F : Nat} {r2 : ReaderVx} {c3 : UInt8} {q1 : Nat} {H0 : AH} (hs_o1 : H0[q1]? = some [(.int .i64 r2.s.most), (.sl .own 1 (ml b8 r2.s.b)), (.int .i64 r2.s.n), (.bool r2.s.cR), (.int .i64 r2.code), (.sl .own 1 (ml AV.str r2.l)), (.bool r2.bad)]) {rz0 : ReplyV} {rz1 : Bool} {rz2 : ReaderVx} (h : ref16_Reader_Put F r2 c3 = some (rz0, rz1, rz2)) :
    ACalls Tryd.prog 33 [(.ptr q1 0), (b8 c3)] H0 fun v H' => v = (.tup [(.agg [(.int .i64 rz0.code), (.sl .n 1 (ml AV.str rz0.lines))]), (.bool rz1)]) ∧ H' = (H0.set q1 [(.int .i64 rz2.s.most), (.sl .own 1 (ml b8 rz2.s.b)), (.int .i64 rz2.s.n), (.bool rz2.s.cR), (.int .i64 rz2.code), (.sl .own 1 (ml AV.str rz2.l)), (.bool rz2.bad)]) := by
  refine ACalls.goX k_ref16_Reader_Put (m := m_ref16_Reader_Put) rfl L_ref16_Reader_Put (by decide) (by simp) fun hcl K0 hK0 => ?_
  refine AX.of_U (m := m_ref16_Reader_Put) rfl (by decide) ?_
  have hl_o1 := h_lt hs_o1
  have hfr := Fr.refl H0 [q1]
  have hle := hfr.le
  rw [ref16_Reader_Put.eq_1] at h
  obtain ⟨H, hHH⟩ : ∃ H, H = H0 := ⟨_, rfl⟩
  have hfr : Fr H0 H0.length [q1] H := hHH ▸ hfr
  have hs_o1 : H[q1]? = some [(.int .i64 r2.s.most), (.sl .own 1 (ml b8 r2.s.b)), (.int .i64 r2.s.n), (.bool r2.s.cR), (.int .i64 r2.code), (.sl .own 1 (ml AV.str r2.l)), (.bool r2.bad)] := hHH ▸ hs_o1
  have hle := hfr.le
  have hL_o1 : q1 < H.length := h_lt hs_o1
  suffices hU : U Tryd.prog L_ref16_Reader_Put 96 H0.length [.code m_ref16_Reader_Put] K0 .normal (argE 0 [(.ptr q1 0), (b8 c3)]) H by rwa [hHH] at hU
  simp (disch := first | assumption | omega | (simp only [h_sl, h_al] <;> omega) | fail) only [WW, WH, ↓reduceIte, Nat.reduceEqDiff, Nat.reduceLT, Nat.reduceLeDiff, Nat.reduceAdd, Nat.reduceSub, Nat.reduceMul, Nat.reduceBEq, reduceCtorEq, if_false, if_true, L_ref16_Reader_Put, m_ref16_Reader_Put, hs_o1, encReplyV]
  obtain ⟨⟨r4, r5, r6⟩, hy1, h⟩ := bnd' h
  dsimp only at h
  refine UK_e (as' := [(.ptr q1 0), (b8 c3)]) (h := ref13_Splitter_Put_sx_ok (s2 := r2) (c3 := c3) (q1 := q1) (by exact (((h_app (by first | assumption | omega | (simp only [h_sl, h_al] <;> omega) | fail)).trans (hs_o1)).trans rfl)) hy1) (hw := WL.cons (Wx.ptr) (WL.cons (Wx.b8) (WL.nil))) (hh := WxH.refl _) ?_
  simp (disch := first | assumption | omega | (simp only [h_sl, h_al] <;> omega) | fail) only [WW, WH, ↓reduceIte, Nat.reduceEqDiff, Nat.reduceLT, Nat.reduceLeDiff, Nat.reduceAdd, Nat.reduceSub, Nat.reduceMul, Nat.reduceBEq, reduceCtorEq, if_false, if_true, L_ref16_Reader_Put, hs_o1, encReplyV]
  obtain ⟨q8, hg_q8⟩ : ∃ q : Nat, (H.length + 1) = q := ⟨_, rfl⟩
  try rw [hg_q8]
  obtain ⟨q7, hg_q7⟩ : ∃ q : Nat, H.length = q := ⟨_, rfl⟩
  try rw [hg_q7]
  refine UX_of (AX.weak ?_ (WxH.set (q := q7) (cs' := [(.int .i64 0), (.sl .own 1 [])]) (((h_ne (by first | assumption | omega | (simp only [h_sl, h_al] <;> omega) | fail)).trans ((h_app (by first | assumption | omega | (simp only [h_sl, h_al] <;> omega) | fail)).trans ((h_ne (by first | assumption | omega | (simp only [h_sl, h_al] <;> omega) | fail)).trans (h_new' (by first | assumption | omega | (simp only [h_sl, h_al] <;> omega) | fail))))).trans rfl) (WxC.cons (Wx.int) (WxC.cons (Wx.own ..) (WxC.nil)))) (ref16_Reader_Put_p1_ok (q1 := q1) (q7 := q7) (q8 := q8) (r5 := r5) (r6 := r6) (r4 := r4) ((Fr.set (s := q7) (Fr.set (s := q8) (Fr.app (Fr.set (s := q1) (Fr.app hfr) (.inl (by simp)))) (.inr (by first | assumption | omega | (simp only [h_sl, h_al] <;> omega) | fail))) (.inr (by first | assumption | omega | (simp only [h_sl, h_al] <;> omega) | fail)))) (((h_ne (by first | assumption | omega | (simp only [h_sl, h_al] <;> omega) | fail)).trans ((h_ne (by first | assumption | omega | (simp only [h_sl, h_al] <;> omega) | fail)).trans ((h_app (by first | assumption | omega | (simp only [h_sl, h_al] <;> omega) | fail)).trans (h_eq (by first | assumption | omega | (simp only [h_sl, h_al] <;> omega) | fail))))).trans rfl) ((h_eq (by first | assumption | omega | (simp only [h_sl, h_al] <;> omega) | fail)).trans rfl) (((h_ne (by first | assumption | omega | (simp only [h_sl, h_al] <;> omega) | fail)).trans (h_eq (by first | assumption | omega | (simp only [h_sl, h_al] <;> omega) | fail))).trans rfl) (by first | assumption | omega | (simp only [h_sl, h_al] <;> omega) | fail) (by first | assumption | omega | (simp only [h_sl, h_al] <;> omega) | fail) (by first | assumption | omega | (simp only [h_sl, h_al] <;> omega) | fail) (by first | assumption | omega | (simp only [h_sl, h_al] <;> omega) | fail) ?_))
  · exact WE.cons (Wx.ptr) (WE.cons (Wx.ptr) (WE.cons (Wx.ptr) (WE.cons (Wx.bool) (WE.nil))))
  intro H hfr hs_o1 hs_o2 hs_o3
  have hle := hfr.le
  have hl_o1 := h_lt hs_o1
  have hl_o2 := h_lt hs_o2
  have hl_o3 := h_lt hs_o3
  simp (disch := first | assumption | omega | (simp only [h_sl, h_al] <;> omega) | fail) only [WW, WH, ↓reduceIte, Nat.reduceEqDiff, Nat.reduceLT, Nat.reduceLeDiff, Nat.reduceAdd, Nat.reduceSub, Nat.reduceMul, Nat.reduceBEq, reduceCtorEq, if_false, if_true, L_ref16_Reader_Put, hs_o1, hs_o2, hs_o3, encReplyV]
  rcases ifb h with ⟨hy3, h⟩ | ⟨hy3, h⟩
  · refine UC_t hy3 ?_
    simp (disch := first | assumption | omega | (simp only [h_sl, h_al] <;> omega) | fail) only [WW, WH, ↓reduceIte, Nat.reduceEqDiff, Nat.reduceLT, Nat.reduceLeDiff, Nat.reduceAdd, Nat.reduceSub, Nat.reduceMul, Nat.reduceBEq, reduceCtorEq, if_false, if_true, L_ref16_Reader_Put, hs_o1, hs_o2, hs_o3, encReplyV]
    have hq := Option.some.inj h; have hq0 := (Prod.mk.inj hq).1; replace hq := (Prod.mk.inj hq).2; have hq1 := (Prod.mk.inj hq).1; replace hq := (Prod.mk.inj hq).2; subst hq0; subst hq1; subst hq
    refine hK0 _ _ _ (.inr rfl) ?_
    exact fn_end1 (by exact (Fr.set (s := q7) hfr (.inr (by first | assumption | omega | (simp only [h_sl, h_al] <;> omega) | fail)))) hcl (resv_cell (cs := [(.int .i64 0), (.sl .ex 1 [])]) (v := (.agg [(.int .i64 0), (.sl .ex 1 [])])) (by kernel_rfl) (n := (some 2)) (by kernel_rfl) rfl (by exact ((h_eq (by first | assumption | omega | (simp only [h_sl, h_al] <;> omega) | fail)).trans rfl)) (by simp [loadc_n, loadc_1, ld1, allFlat, AV.flat, b_flat, b_sh1, AV.sh1, Tg.sh]) (resv_tmp (a := (.bool false)) rfl rfl resv_nil)) (by simp [fin, AV.df, AV.sh, AV.sh1, b_df, b_sh, b_sh1, b_Cl]) (Wx.tupX (W2L.agg (W1L.same (W1L.n (W1L.nil))) (W2L.same (W2L.nil)))) (by exact (((h_ne (by first | assumption | omega | (simp only [h_sl, h_al] <;> omega) | fail)).trans (hs_o1)).trans rfl)) (by first | assumption | omega | (simp only [h_sl, h_al] <;> omega) | fail) (by simp [b_Cl]; try omega) (WxC.cons (Wx.int) (WxC.cons (Wx.oo) (WxC.cons (Wx.int) (WxC.cons (Wx.bool) (WxC.cons (Wx.int) (WxC.cons (Wx.oo) (WxC.cons (Wx.bool) (WxC.nil)))))))) (r' := (.tup [(.agg [(.int .i64 ((ReplyV.mk 0 ([] : List (List UInt8))).code)), (.sl .n 1 (ml AV.str ((ReplyV.mk 0 ([] : List (List UInt8))).lines)))]), (.bool false)])) ⟨rfl, rfl⟩
  · refine UC_f hy3 ?_
    simp (disch := first | assumption | omega | (simp only [h_sl, h_al] <;> omega) | fail) only [WW, WH, ↓reduceIte, Nat.reduceEqDiff, Nat.reduceLT, Nat.reduceLeDiff, Nat.reduceAdd, Nat.reduceSub, Nat.reduceMul, Nat.reduceBEq, reduceCtorEq, if_false, if_true, L_ref16_Reader_Put, hs_o1, hs_o2, hs_o3, encReplyV]
    obtain ⟨⟨r9, r10, r11, r12⟩, hy4, h⟩ := bnd' h
    dsimp only at h
    refine UK_e (as' := [(.agg [(.str r4.text), (.bool r4.long)])]) (h := ref16_one_ok (l1 := r4) (F := F)  hy4) (hw := WL.cons (Wx.agg (W1L.same (W1L.same (W1L.nil)))) (WL.nil)) (hh := WxH.refl _) ?_
    simp (disch := first | assumption | omega | (simp only [h_sl, h_al] <;> omega) | fail) only [WW, WH, ↓reduceIte, Nat.reduceEqDiff, Nat.reduceLT, Nat.reduceLeDiff, Nat.reduceAdd, Nat.reduceSub, Nat.reduceMul, Nat.reduceBEq, reduceCtorEq, if_false, if_true, L_ref16_Reader_Put, hs_o1, hs_o2, hs_o3, encReplyV]
    refine UX_of (AX.weak ?_ (WxH.refl _) (ref16_Reader_Put_p2_ok (q1 := q1) (q13 := q7) (r9 := r9) (r10 := r10) (r11 := r11) (r12 := r12) (r6 := r6) (hfr) ((hs_o1).trans rfl) ((hs_o2).trans rfl) (by first | assumption | omega | (simp only [h_sl, h_al] <;> omega) | fail) (by first | assumption | omega | (simp only [h_sl, h_al] <;> omega) | fail) ?_))
    · exact WE.cons (Wx.ptr) (WE.cons (Wx.ptr) (WE.cons (Wx.int) (WE.cons (Wx.str) (WE.cons (Wx.bool) (WE.cons (Wx.bool) (WE.nil))))))
    intro H hfr hs_o1 hs_o2
    have hle := hfr.le
    have hl_o1 := h_lt hs_o1
    have hl_o2 := h_lt hs_o2
    simp (disch := first | assumption | omega | (simp only [h_sl, h_al] <;> omega) | fail) only [WW, WH, ↓reduceIte, Nat.reduceEqDiff, Nat.reduceLT, Nat.reduceLeDiff, Nat.reduceAdd, Nat.reduceSub, Nat.reduceMul, Nat.reduceBEq, reduceCtorEq, if_false, if_true, L_ref16_Reader_Put, hs_o1, hs_o2, encReplyV]
    rcases ifb h with ⟨hy8, h⟩ | ⟨hy8, h⟩
    · refine UC_t hy8 ?_
      simp (disch := first | assumption | omega | (simp only [h_sl, h_al] <;> omega) | fail) only [WW, WH, ↓reduceIte, Nat.reduceEqDiff, Nat.reduceLT, Nat.reduceLeDiff, Nat.reduceAdd, Nat.reduceSub, Nat.reduceMul, Nat.reduceBEq, reduceCtorEq, if_false, if_true, L_ref16_Reader_Put, hs_o1, hs_o2, encReplyV]
      have hq := Option.some.inj h; have hq0 := (Prod.mk.inj hq).1; replace hq := (Prod.mk.inj hq).2; have hq1 := (Prod.mk.inj hq).1; replace hq := (Prod.mk.inj hq).2; subst hq0; subst hq1; subst hq
      refine hK0 _ _ _ (.inr rfl) ?_
      exact fn_end1 (by exact (Fr.set (s := q7) (Fr.set (s := q1) hfr (.inl (by simp))) (.inr (by first | assumption | omega | (simp only [h_sl, h_al] <;> omega) | fail)))) hcl (resv_cell (cs := [(.int .i64 0), (.sl .ex 1 [])]) (v := (.agg [(.int .i64 0), (.sl .ex 1 [])])) (by kernel_rfl) (n := (some 2)) (by kernel_rfl) rfl (by exact ((h_eq (by first | assumption | omega | (simp only [h_sl, h_al] <;> omega) | fail)).trans rfl)) (by simp [loadc_n, loadc_1, ld1, allFlat, AV.flat, b_flat, b_sh1, AV.sh1, Tg.sh]) (resv_tmp (a := (.bool false)) rfl rfl resv_nil)) (by simp [fin, AV.df, AV.sh, AV.sh1, b_df, b_sh, b_sh1, b_Cl]) (Wx.tupX (W2L.agg (W1L.same (W1L.n (W1L.nil))) (W2L.same (W2L.nil)))) (by exact (((h_ne (by first | assumption | omega | (simp only [h_sl, h_al] <;> omega) | fail)).trans (h_eq (by first | assumption | omega | (simp only [h_sl, h_al] <;> omega) | fail))).trans rfl)) (by first | assumption | omega | (simp only [h_sl, h_al] <;> omega) | fail) (by simp [b_Cl]; try omega) (WxC.cons (Wx.int) (WxC.cons (Wx.oo) (WxC.cons (Wx.int) (WxC.cons (Wx.bool) (WxC.cons (Wx.int) (WxC.cons (Wx.oo) (WxC.cons (Wx.bool) (WxC.nil)))))))) (r' := (.tup [(.agg [(.int .i64 ((ReplyV.mk 0 ([] : List (List UInt8))).code)), (.sl .n 1 (ml AV.str ((ReplyV.mk 0 ([] : List (List UInt8))).lines)))]), (.bool false)])) ⟨rfl, rfl⟩
    · refine UC_f hy8 ?_
      obtain ⟨x14, hy9, h⟩ := bnd' h
      have hy10 : capp 16 [] (ml AV.str r6.l) = some (ml AV.str x14) := capp_m (f := AV.str) hy9
      obtain ⟨x15, hy11, h⟩ := bnd' h
      have hy12 : capp 16 (ml AV.str x14) [(.str r10)] = some (ml AV.str x15) := capp_m (f := AV.str) hy11
      simp (disch := first | assumption | omega | (simp only [h_sl, h_al] <;> omega) | fail) only [WW, WH, ↓reduceIte, Nat.reduceEqDiff, Nat.reduceLT, Nat.reduceLeDiff, Nat.reduceAdd, Nat.reduceSub, Nat.reduceMul, Nat.reduceBEq, reduceCtorEq, if_false, if_true, L_ref16_Reader_Put, hy10, hy12, hs_o1, hs_o2, encReplyV]
      rcases ifb h with ⟨hy13, h⟩ | ⟨hy13, h⟩
      · refine UC_t hy13 ?_
        simp (disch := first | assumption | omega | (simp only [h_sl, h_al] <;> omega) | fail) only [WW, WH, ↓reduceIte, Nat.reduceEqDiff, Nat.reduceLT, Nat.reduceLeDiff, Nat.reduceAdd, Nat.reduceSub, Nat.reduceMul, Nat.reduceBEq, reduceCtorEq, if_false, if_true, L_ref16_Reader_Put, hs_o1, hs_o2, encReplyV]
        have hq := Option.some.inj h; have hq0 := (Prod.mk.inj hq).1; replace hq := (Prod.mk.inj hq).2; have hq1 := (Prod.mk.inj hq).1; replace hq := (Prod.mk.inj hq).2; subst hq0; subst hq1; subst hq
        refine hK0 _ _ _ (.inr rfl) ?_
        exact fn_end1 (by exact (Fr.set (s := q7) (Fr.set (s := q1) (Fr.set (s := q1) hfr (.inl (by simp))) (.inl (by simp))) (.inr (by first | assumption | omega | (simp only [h_sl, h_al] <;> omega) | fail)))) hcl (resv_cell (cs := [(.int .i64 0), (.sl .ex 1 [])]) (v := (.agg [(.int .i64 0), (.sl .ex 1 [])])) (by kernel_rfl) (n := (some 2)) (by kernel_rfl) rfl (by exact ((h_eq (by first | assumption | omega | (simp only [h_sl, h_al] <;> omega) | fail)).trans rfl)) (by simp [loadc_n, loadc_1, ld1, allFlat, AV.flat, b_flat, b_sh1, AV.sh1, Tg.sh]) (resv_tmp (a := (.bool false)) rfl rfl resv_nil)) (by simp [fin, AV.df, AV.sh, AV.sh1, b_df, b_sh, b_sh1, b_Cl]) (Wx.tupX (W2L.agg (W1L.same (W1L.n (W1L.nil))) (W2L.same (W2L.nil)))) (by exact (((h_ne (by first | assumption | omega | (simp only [h_sl, h_al] <;> omega) | fail)).trans (h_eq (by first | assumption | omega | (simp only [h_sl, h_al] <;> omega) | fail))).trans rfl)) (by first | assumption | omega | (simp only [h_sl, h_al] <;> omega) | fail) (by simp [b_Cl]; try omega) (WxC.cons (Wx.int) (WxC.cons (Wx.oo) (WxC.cons (Wx.int) (WxC.cons (Wx.bool) (WxC.cons (Wx.int) (WxC.cons (Wx.oo) (WxC.cons (Wx.bool) (WxC.nil)))))))) (r' := (.tup [(.agg [(.int .i64 ((ReplyV.mk 0 ([] : List (List UInt8))).code)), (.sl .n 1 (ml AV.str ((ReplyV.mk 0 ([] : List (List UInt8))).lines)))]), (.bool false)])) ⟨rfl, rfl⟩
      · refine UC_f hy13 ?_
        simp (disch := first | assumption | omega | (simp only [h_sl, h_al] <;> omega) | fail) only [WW, WH, ↓reduceIte, Nat.reduceEqDiff, Nat.reduceLT, Nat.reduceLeDiff, Nat.reduceAdd, Nat.reduceSub, Nat.reduceMul, Nat.reduceBEq, reduceCtorEq, if_false, if_true, L_ref16_Reader_Put, hs_o1, hs_o2, encReplyV]
        have hq := Option.some.inj h; have hq0 := (Prod.mk.inj hq).1; replace hq := (Prod.mk.inj hq).2; have hq1 := (Prod.mk.inj hq).1; replace hq := (Prod.mk.inj hq).2; subst hq0; subst hq1; subst hq
        refine hK0 _ _ _ (.inr rfl) ?_
        exact fn_end1 (by exact (Fr.set (s := q7) (Fr.set (s := q1) (Fr.set (s := H.length) (Fr.app (Fr.set (s := q1) (Fr.set (s := q1) hfr (.inl (by simp))) (.inl (by simp)))) (.inr (by first | assumption | omega | (simp only [h_sl, h_al] <;> omega) | fail))) (.inl (by simp))) (.inr (by first | assumption | omega | (simp only [h_sl, h_al] <;> omega) | fail)))) hcl (resv_cell (cs := [(.int .i64 r9), (.sl .n 1 (ml AV.str x15))]) (v := (.agg [(.int .i64 r9), (.sl .n 1 (ml AV.str x15))])) (by kernel_rfl) (n := (some 2)) (by kernel_rfl) rfl (by exact ((h_eq (by first | assumption | omega | (simp only [h_sl, h_al] <;> omega) | fail)).trans rfl)) (by simp [loadc_n, loadc_1, ld1, allFlat, AV.flat, b_flat, b_sh1, AV.sh1, Tg.sh]) (resv_tmp (a := (.bool true)) rfl rfl resv_nil)) (by simp [fin, AV.df, AV.sh, AV.sh1, b_df, b_sh, b_sh1, b_Cl]) (Wx.tupX (W2L.same (W2L.same (W2L.nil)))) (by exact (((h_ne (by first | assumption | omega | (simp only [h_sl, h_al] <;> omega) | fail)).trans (h_eq (by first | assumption | omega | (simp only [h_sl, h_al] <;> omega) | fail))).trans rfl)) (by first | assumption | omega | (simp only [h_sl, h_al] <;> omega) | fail) (by simp [b_Cl]; try omega) (WxC.cons (Wx.int) (WxC.cons (Wx.oo) (WxC.cons (Wx.int) (WxC.cons (Wx.bool) (WxC.cons (Wx.int) (WxC.cons (Wx.own ..) (WxC.cons (Wx.bool) (WxC.nil)))))))) (r' := (.tup [(.agg [(.int .i64 ((ReplyV.mk r9 x15).code)), (.sl .n 1 (ml AV.str ((ReplyV.mk r9 x15).lines)))]), (.bool true)])) ⟨rfl, rfl⟩

/-! ### (*mailbag/mailbagref16.Reader).Feed -/
def c_ref16_Reader_Feed_p1 : ACode := (.rg [⟨(some 14), (.mv (.t 7)), none⟩, ⟨(some 15), (.mv (.t 1)), none⟩, ⟨(some 16), (.len (.t 15)), none⟩, ⟨(some 17), (.bin .lss (.t 14) (.t 16)), none⟩, ⟨(some 18), (.mv (.t 17)), none⟩, ⟨(some 19), (.mv (.t 0)), (some (18, true))⟩, ⟨(some 20), (.nck (.t 19)), (some (18, true))⟩, ⟨(some 21), (.fld (.t 20) 6), (some (18, true))⟩, ⟨(some 22), (.ld (.t 21) none), (some (18, true))⟩, ⟨(some 23), (.un .not (.t 22)), (some (18, true))⟩, ⟨(some 24), (.pick (.t 18) (.t 23) (.c (.bool false))), none⟩])
abbrev m_ref16_Reader_Feed_p1 := c_ref16_Reader_Feed_p1
def c_ref16_Reader_Feed_l1b : ACode := (.seq (.seq c_ref16_Reader_Feed_p1 (.cond (.t 24) .skip (.exit 0))) (.seq (.blk 1 (.seq (.rg [⟨(some 28), (.mv (.t 0)), none⟩, ⟨(some 29), (.mv (.t 1)), none⟩, ⟨(some 30), (.mv (.t 7)), none⟩, ⟨(some 31), (.ixa 1 (.t 29) (.t 30)), none⟩, ⟨(some 32), (.ld (.t 31) none), none⟩, ⟨(some 33), (.call (.c (.fn 33 [])) [(.t 28), (.t 32)]), none⟩, ⟨(some 27), (.mv (.t 33)), none⟩, ⟨(some 34), (.ext (.t 27) 0), none⟩, ⟨(some 35), (.ext (.t 27) 1), none⟩, ⟨(some 8), (.alloc [(.int .i64 0), (.sl .ex 1 [])]), none⟩, ⟨none, (.st (.t 8) (.t 34) 2), none⟩, ⟨(some 9), (.asg (.t 35)), none⟩]) (.seq (.rg [⟨(some 36), (.mv (.t 9)), none⟩]) (.cond (.t 36) (.rg [⟨(some 37), (.mv (.t 6)), none⟩, ⟨(some 38), (.ld (.t 8) (some 2)), none⟩, ⟨(some 39), (.bsl 2 [(.t 38)]), none⟩, ⟨(some 40), (.app 2 32 (.t 37) (.t 39)), none⟩, ⟨(some 6), (.asg (.t 40)), none⟩]) .skip)))) (.rg [⟨(some 25), (.mv (.t 7)), none⟩, ⟨(some 26), (.bin .add (.t 25) (.c (.int .i64 1))), none⟩, ⟨(some 7), (.asg (.t 26)), none⟩])))
def c_ref16_Reader_Feed_l1 : ACode := (.loop c_ref16_Reader_Feed_l1b)
def m_ref16_Reader_Feed_l1b : ACode := (.seq (.seq (.sem c_ref16_Reader_Feed_p1) (.cond (.t 24) .skip (.exit 0))) (.seq (.blk 1 (.seq (.rg [⟨(some 28), (.mv (.t 0)), none⟩, ⟨(some 29), (.mv (.t 1)), none⟩, ⟨(some 30), (.mv (.t 7)), none⟩, ⟨(some 31), (.ixa 1 (.t 29) (.t 30)), none⟩, ⟨(some 32), (.ld (.t 31) none), none⟩, ⟨(some 33), (.call (.c (.fn 33 [])) [(.t 28), (.t 32)]), none⟩, ⟨(some 27), (.mv (.t 33)), none⟩, ⟨(some 34), (.ext (.t 27) 0), none⟩, ⟨(some 35), (.ext (.t 27) 1), none⟩, ⟨(some 8), (.alloc [(.int .i64 0), (.sl .ex 1 [])]), none⟩, ⟨none, (.st (.t 8) (.t 34) 2), none⟩, ⟨(some 9), (.asg (.t 35)), none⟩]) (.seq (.rg [⟨(some 36), (.mv (.t 9)), none⟩]) (.cond (.t 36) (.rg [⟨(some 37), (.mv (.t 6)), none⟩, ⟨(some 38), (.ld (.t 8) (some 2)), none⟩, ⟨(some 39), (.bsl 2 [(.t 38)]), none⟩, ⟨(some 40), (.app 2 32 (.t 37) (.t 39)), none⟩, ⟨(some 6), (.asg (.t 40)), none⟩]) .skip)))) (.rg [⟨(some 25), (.mv (.t 7)), none⟩, ⟨(some 26), (.bin .add (.t 25) (.c (.int .i64 1))), none⟩, ⟨(some 7), (.asg (.t 26)), none⟩])))
def c_ref16_Reader_Feed : ACode := (.seq (.rg [⟨(some 4), (.asg (.c (.sl .ex 2 []))), none⟩, ⟨(some 5), (.asg (.c (.int .i64 0))), none⟩]) (.seq (.seq (.rg [⟨(some 10), (.mv (.t 0)), none⟩, ⟨(some 11), (.nck (.t 10)), none⟩, ⟨(some 12), (.fld (.t 11) 6), none⟩, ⟨(some 13), (.ld (.t 12) none), none⟩]) (.cond (.t 13) (.seq (.rg [⟨(some 4), (.asg (.c (.sl .ex 2 []))), none⟩, ⟨(some 5), (.asg (.c (.int .i64 3))), none⟩]) .ret) .skip)) (.seq (.rg [⟨(some 6), (.asg (.c (.sl .ex 2 []))), none⟩]) (.seq (.seq (.rg [⟨(some 7), (.asg (.c (.int .i64 0))), none⟩]) (.blk 0 c_ref16_Reader_Feed_l1)) (.seq (.seq (.rg [⟨(some 41), (.mv (.t 0)), none⟩, ⟨(some 42), (.nck (.t 41)), none⟩, ⟨(some 43), (.fld (.t 42) 6), none⟩, ⟨(some 44), (.ld (.t 43) none), none⟩]) (.cond (.t 44) (.seq (.rg [⟨(some 45), (.mv (.t 6)), none⟩, ⟨(some 4), (.asg (.t 45)), none⟩, ⟨(some 5), (.asg (.c (.int .i64 3))), none⟩]) .ret) .skip)) (.seq (.rg [⟨(some 46), (.mv (.t 6)), none⟩, ⟨(some 4), (.asg (.t 46)), none⟩, ⟨(some 5), (.asg (.c (.int .i64 0))), none⟩]) .ret))))))
abbrev m_ref16_Reader_Feed := c_ref16_Reader_Feed
theorem k_ref16_Reader_Feed : FnOk Tryd.prog 15 47 [(.tmp 4), (.tmp 5)] c_ref16_Reader_Feed := ⟨Tryd.f15, _, rfl, by decide, rfl, by kernel_rfl, rfl, rfl⟩
abbrev L_ref16_Reader_Feed : List Nat := [0, 1, 4, 5, 6, 7, 8, 9, 13, 24, 36, 44]
def ref16_Reader_Feed_l1 (F : Nat) (b3 : List UInt8) : ((List ReplyV) × Int × ReaderVx) → Option (St ((List ReplyV) × Int × ReaderVx) ((List ReplyV) × ReaderVx) ((List ReplyV) × Int × ReaderVx))
  | (out4, i5, s6) =>
    (if ((decide (i5 < (b3.length : Int))) && (!s6.bad)) then
      (idx b3 i5).bind fun x7 =>
      (ref16_Reader_Put F s6 x7).bind fun (r8, r9, r10) =>
      (if r9 then
        (capp 32 out4 ([r8] : List ReplyV)).bind fun x11 => some (.nxt (x11, (IntKind.wrap .i64 (i5 + 1)), r10))
      else
        some (.nxt (out4, (IntKind.wrap .i64 (i5 + 1)), r10)))
    else
      some (.brk (out4, s6)))
def ref16_Reader_Feed (F : Nat) (r2 : ReaderVx) (b3 : List UInt8) : Option ((List ReplyV) × Int × ReaderVx) :=
  (if r2.bad then
    some (([] : List ReplyV), 3, r2)
  else
    ((iter (ref16_Reader_Feed_l1 F b3) F (([] : List ReplyV), 0, r2)).bind fun o16 =>
    match o16 with
    | .inr (out14, s15) =>
      (if s15.bad then
        some (out14, 3, s15)
      else
        some (out14, 0, s15))
    | .inl _ => none))
set_option maxHeartbeats 2000000 in
theorem ref16_Reader_Feed_p1_ok {q1 : Nat} {b3 : List UInt8} {out4 : List ReplyV} {i5 : Int} {s6 : ReaderVx} {H0 H : AH} (hfr : Fr H0 H0.length [q1] H) (hs_o1 : H[q1]? = some [(.int .i64 s6.s.most), (.sl .own 1 (ml b8 s6.s.b)), (.int .i64 s6.s.n), (.bool s6.s.cR), (.int .i64 s6.code), (.sl .own 1 (ml AV.str s6.l)), (.bool s6.bad)]) (hi0 : q1 < H0.length) {K : Exit → Env → AH → Prop}
    (kn : ∀ H' : AH, Fr H0 H0.length [q1] H' → H'[q1]? = some [(.int .i64 s6.s.most), (.sl .own 1 (ml b8 s6.s.b)), (.int .i64 s6.s.n), (.bool s6.s.cR), (.int .i64 s6.code), (.sl .own 1 (ml AV.str s6.l)), (.bool s6.bad)] → K .normal [(0, (.ptr q1 0)), (1, (.sl .n 1 (ml b8 b3))), (6, (.sl .own 2 (ml encReplyV out4))), (7, (.int .i64 i5)), (24, (.bool ((decide (i5 < (b3.length : Int))) && (!s6.bad))))] H') :
    AX Tryd.prog L_ref16_Reader_Feed 47 H0.length c_ref16_Reader_Feed_p1 K [(0, (.ptr q1 0)), (1, (.sl .n 1 (ml b8 b3))), (6, (.sl .own 2 (ml encReplyV out4))), (7, (.int .i64 i5))] H := by
  refine AX.go (m := m_ref16_Reader_Feed_p1) rfl (by decide) fun K' hK => ?_
  have hle := hfr.le
  have hl_o1 := h_lt hs_o1
  simp (disch := first | assumption | omega | (simp only [h_sl, h_al] <;> omega) | fail) only [WW, WH, ↓reduceIte, Nat.reduceEqDiff, Nat.reduceLT, Nat.reduceLeDiff, Nat.reduceAdd, Nat.reduceSub, Nat.reduceMul, Nat.reduceBEq, reduceCtorEq, if_false, if_true, L_ref16_Reader_Feed, m_ref16_Reader_Feed_p1, c_ref16_Reader_Feed_p1, hs_o1, encReplyV]
  rcases bcases ((decide (i5 < (b3.length : Int)))) with hy2 | hy2
  · refine UG_go hy2 ?_
    simp (disch := first | assumption | omega | (simp only [h_sl, h_al] <;> omega) | fail) only [WW, WH, ↓reduceIte, Nat.reduceEqDiff, Nat.reduceLT, Nat.reduceLeDiff, Nat.reduceAdd, Nat.reduceSub, Nat.reduceMul, Nat.reduceBEq, reduceCtorEq, if_false, if_true, L_ref16_Reader_Feed, hy2, hs_o1, encReplyV]
    refine hK _ _ _ _ _ ?_ (WxH.refl _) (kn _ hfr ((hs_o1).trans rfl))
    exact WE.cons (Wx.ptr) (WE.cons (Wx.nn) (WE.cons (Wx.oo) (WE.cons (Wx.int) (WE.cons (Wx.boolE (by simp only [hy2, WB])) (WE.nil)))))
  · refine UG_nt hy2 ?_
    simp (disch := first | assumption | omega | (simp only [h_sl, h_al] <;> omega) | fail) only [WW, WH, ↓reduceIte, Nat.reduceEqDiff, Nat.reduceLT, Nat.reduceLeDiff, Nat.reduceAdd, Nat.reduceSub, Nat.reduceMul, Nat.reduceBEq, reduceCtorEq, if_false, if_true, L_ref16_Reader_Feed, hy2, hs_o1, encReplyV]
    refine hK _ _ _ _ _ ?_ (WxH.refl _) (kn _ hfr ((hs_o1).trans rfl))
    exact WE.cons (Wx.ptr) (WE.cons (Wx.nn) (WE.cons (Wx.oo) (WE.cons (Wx.int) (WE.cons (Wx.boolE (by simp only [hy2, WB])) (WE.nil)))))
set_option maxHeartbeats 2000000 in
theorem ref16_Reader_Feed_l1_ok {F : Nat} {i5 : Int} {b3 : List UInt8} {s6 : ReaderVx} {out4 : List ReplyV} {q1 : Nat} {H0 H : AH} (hfr : Fr H0 H0.length [q1] H) (hs_o1 : H[q1]? = some [(.int .i64 s6.s.most), (.sl .own 1 (ml b8 s6.s.b)), (.int .i64 s6.s.n), (.bool s6.s.cR), (.int .i64 s6.code), (.sl .own 1 (ml AV.str s6.l)), (.bool s6.bad)]) (hi0 : q1 < H0.length) {K : Exit → Env → AH → Prop} {o : ((List ReplyV) × Int × ReaderVx) ⊕ ((List ReplyV) × ReaderVx)}
    (h : iter (ref16_Reader_Feed_l1 F b3) F (out4, i5, s6) = some o)
    (kb0 : ∀ o' : (List ReplyV) × ReaderVx, o = .inr o' → ∀ H' : AH, Fr H0 H0.length [q1] H' → H'[q1]? = some [(.int .i64 o'.2.s.most), (.sl .own 1 (ml b8 o'.2.s.b)), (.int .i64 o'.2.s.n), (.bool o'.2.s.cR), (.int .i64 o'.2.code), (.sl .own 1 (ml AV.str o'.2.l)), (.bool o'.2.bad)] → K (.exit 0) [(0, (.ptr q1 0)), (6, (.sl .own 2 (ml encReplyV o'.1)))] H') :
    AX Tryd.prog L_ref16_Reader_Feed 47 H0.length c_ref16_Reader_Feed_l1 K [(0, (.ptr q1 0)), (1, (.sl .n 1 (ml b8 b3))), (6, (.sl .own 2 (ml encReplyV out4))), (7, (.int .i64 i5))] H := by
  refine AX.iter (m := m_ref16_Reader_Feed_l1b) rfl (by decide) (fun s e H1 => match s with | (out4, i5, s6) => e = [(0, (.ptr q1 0)), (1, (.sl .n 1 (ml b8 b3))), (6, (.sl .own 2 (ml encReplyV out4))), (7, (.int .i64 i5))] ∧ Fr H0 H0.length [q1] H1 ∧ H1[q1]? = some [(.int .i64 s6.s.most), (.sl .own 1 (ml b8 s6.s.b)), (.int .i64 s6.s.n), (.bool s6.s.cR), (.int .i64 s6.code), (.sl .own 1 (ml AV.str s6.l)), (.bool s6.bad)]) h ⟨rfl, hfr, hs_o1⟩ ?_
  skip
  rintro K' ⟨out4, i5, s6⟩ st e H ⟨rfl, hfr, hs_o1⟩ h hN hB hR hX
  have hle := hfr.le
  have hl_o1 := h_lt hs_o1
  rw [ref16_Reader_Feed_l1.eq_1] at h
  simp (disch := first | assumption | omega | (simp only [h_sl, h_al] <;> omega) | fail) only [WW, WH, ↓reduceIte, Nat.reduceEqDiff, Nat.reduceLT, Nat.reduceLeDiff, Nat.reduceAdd, Nat.reduceSub, Nat.reduceMul, Nat.reduceBEq, reduceCtorEq, if_false, if_true, L_ref16_Reader_Feed, m_ref16_Reader_Feed_l1b, hs_o1, encReplyV]
  refine UX_of (AX.weak ?_ (WxH.refl _) (ref16_Reader_Feed_p1_ok (q1 := q1) (b3 := b3) (out4 := out4) (i5 := i5) (s6 := s6) (hfr) ((hs_o1).trans rfl) (by first | assumption | omega | (simp only [h_sl, h_al] <;> omega) | fail) ?_))
  · exact WE.cons (Wx.ptr) (WE.cons (Wx.nn) (WE.cons (Wx.oo) (WE.cons (Wx.int) (WE.nil))))
  intro H hfr hs_o1
  have hle := hfr.le
  have hl_o1 := h_lt hs_o1
  simp (disch := first | assumption | omega | (simp only [h_sl, h_al] <;> omega) | fail) only [WW, WH, ↓reduceIte, Nat.reduceEqDiff, Nat.reduceLT, Nat.reduceLeDiff, Nat.reduceAdd, Nat.reduceSub, Nat.reduceMul, Nat.reduceBEq, reduceCtorEq, if_false, if_true, L_ref16_Reader_Feed, hs_o1, encReplyV]
  rcases ifb h with ⟨hy3, h⟩ | ⟨hy3, h⟩
  · refine UC_t hy3 ?_
    obtain ⟨x7, hy4, h⟩ := bnd' h
    simp (disch := first | assumption | omega | (simp only [h_sl, h_al] <;> omega) | fail) only [WW, WH, ↓reduceIte, Nat.reduceEqDiff, Nat.reduceLT, Nat.reduceLeDiff, Nat.reduceAdd, Nat.reduceSub, Nat.reduceMul, Nat.reduceBEq, reduceCtorEq, if_false, if_true, L_ref16_Reader_Feed, hy4, hs_o1, encReplyV]
    obtain ⟨⟨r8, r9, r10⟩, hy5, h⟩ := bnd' h
    dsimp only at h
    refine UK_e (as' := [(.ptr q1 0), (b8 x7)]) (h := ref16_Reader_Put_ok (r2 := s6) (c3 := x7) (q1 := q1) (F := F) (by exact ((hs_o1).trans rfl)) hy5) (hw := WL.cons (Wx.ptr) (WL.cons (Wx.b8) (WL.nil))) (hh := WxH.refl _) ?_
    simp (disch := first | assumption | omega | (simp only [h_sl, h_al] <;> omega) | fail) only [WW, WH, ↓reduceIte, Nat.reduceEqDiff, Nat.reduceLT, Nat.reduceLeDiff, Nat.reduceAdd, Nat.reduceSub, Nat.reduceMul, Nat.reduceBEq, reduceCtorEq, if_false, if_true, L_ref16_Reader_Feed, hs_o1, encReplyV]
    rcases ifb h with ⟨hy6, h⟩ | ⟨hy6, h⟩
    · refine UC_t hy6 ?_
      obtain ⟨x11, hy7, h⟩ := bnd' h
      have hy8 : capp 32 (ml encReplyV out4) [(.agg [(.int .i64 r8.code), (.sl .n 1 (ml AV.str r8.lines))])] = some (ml encReplyV x11) := capp_m (f := encReplyV) hy7
      simp (disch := first | assumption | omega | (simp only [h_sl, h_al] <;> omega) | fail) only [WW, WH, ↓reduceIte, Nat.reduceEqDiff, Nat.reduceLT, Nat.reduceLeDiff, Nat.reduceAdd, Nat.reduceSub, Nat.reduceMul, Nat.reduceBEq, reduceCtorEq, if_false, if_true, L_ref16_Reader_Feed, hy8, hs_o1, encReplyV]
      have hq := Option.some.inj h; subst hq
      refine hN _ rfl _ _ _ _ ?_ (WxH.refl _) ⟨rfl, (Fr.set (s := H.length) (Fr.app (Fr.set (s := q1) hfr (.inl (by simp)))) (.inr (by first | assumption | omega | (simp only [h_sl, h_al] <;> omega) | fail))), (((h_ne (by first | assumption | omega | (simp only [h_sl, h_al] <;> omega) | fail)).trans ((h_app (by first | assumption | omega | (simp only [h_sl, h_al] <;> omega) | fail)).trans (h_eq (by first | assumption | omega | (simp only [h_sl, h_al] <;> omega) | fail)))).trans rfl)⟩
      exact WE.cons (Wx.ptr) (WE.cons (Wx.nn) (WE.cons (Wx.oo) (WE.cons (Wx.int) (WE.nil))))
    · refine UC_f hy6 ?_
      simp (disch := first | assumption | omega | (simp only [h_sl, h_al] <;> omega) | fail) only [WW, WH, ↓reduceIte, Nat.reduceEqDiff, Nat.reduceLT, Nat.reduceLeDiff, Nat.reduceAdd, Nat.reduceSub, Nat.reduceMul, Nat.reduceBEq, reduceCtorEq, if_false, if_true, L_ref16_Reader_Feed, hs_o1, encReplyV]
      have hq := Option.some.inj h; subst hq
      refine hN _ rfl _ _ _ _ ?_ (WxH.refl _) ⟨rfl, (Fr.set (s := H.length) (Fr.app (Fr.set (s := q1) hfr (.inl (by simp)))) (.inr (by first | assumption | omega | (simp only [h_sl, h_al] <;> omega) | fail))), (((h_ne (by first | assumption | omega | (simp only [h_sl, h_al] <;> omega) | fail)).trans ((h_app (by first | assumption | omega | (simp only [h_sl, h_al] <;> omega) | fail)).trans (h_eq (by first | assumption | omega | (simp only [h_sl, h_al] <;> omega) | fail)))).trans rfl)⟩
      exact WE.cons (Wx.ptr) (WE.cons (Wx.nn) (WE.cons (Wx.oo) (WE.cons (Wx.int) (WE.nil))))
  · refine UC_f hy3 ?_
    simp (disch := first | assumption | omega | (simp only [h_sl, h_al] <;> omega) | fail) only [WW, WH, ↓reduceIte, Nat.reduceEqDiff, Nat.reduceLT, Nat.reduceLeDiff, Nat.reduceAdd, Nat.reduceSub, Nat.reduceMul, Nat.reduceBEq, reduceCtorEq, if_false, if_true, L_ref16_Reader_Feed, hs_o1, encReplyV]
    have hq := Option.some.inj h; subst hq
    refine hX _ _ _ _ _ (by simp) ?_ (WxH.refl _) (kb0 _ (hB _ rfl) _ hfr ((hs_o1).trans rfl))
    exact WE.cons (Wx.ptr) (WE.cons (Wx.oo) (WE.nil))
set_option maxHeartbeats 2000000 in
theorem ref16_Reader_Feed_ok {F : Nat} {r2 : ReaderVx} {b3 : List UInt8} {q1 : Nat} {H0 : AH} (hs_o1 : H0[q1]? = some [(.int .i64 r2.s.most), (.sl .own 1 (ml b8 r2.s.b)), (.int .i64 r2.s.n), (.bool r2.s.cR), (.int .i64 r2.code), (.sl .own 1 (ml AV.str r2.l)), (.bool r2.bad)]) {rz0 : List ReplyV} {rz1 : Int} {rz2 : ReaderVx} (h : ref16_Reader_Feed F r2 b3 = some (rz0, rz1, rz2)) :
    ACalls Tryd.prog 15 [(.ptr q1 0), (.sl .n 1 (ml b8 b3))] H0 fun v H' => v = (.tup [(.sl .n 2 (ml encReplyV rz0)), (.int .i64 rz1)]) ∧ H' = (H0.set q1 [(.int .i64 rz2.s.most), (.sl .own 1 (ml b8 rz2.s.b)), (.int .i64 rz2.s.n), (.bool rz2.s.cR), (.int .i64 rz2.code), (.sl .own 1 (ml AV.str rz2.l)), (.bool rz2.bad)]) := by
  refine ACalls.goX k_ref16_Reader_Feed (m := m_ref16_Reader_Feed) rfl L_ref16_Reader_Feed (by decide) (by simp) fun hcl K0 hK0 => ?_
  refine AX.of_U (m := m_ref16_Reader_Feed) rfl (by decide) ?_
  have hl_o1 := h_lt hs_o1
  have hfr := Fr.refl H0 [q1]
  have hle := hfr.le
  rw [ref16_Reader_Feed.eq_1] at h
  obtain ⟨H, hHH⟩ : ∃ H, H = H0 := ⟨_, rfl⟩
  have hfr : Fr H0 H0.length [q1] H := hHH ▸ hfr
  have hs_o1 : H[q1]? = some [(.int .i64 r2.s.most), (.sl .own 1 (ml b8 r2.s.b)), (.int .i64 r2.s.n), (.bool r2.s.cR), (.int .i64 r2.code), (.sl .own 1 (ml AV.str r2.l)), (.bool r2.bad)] := hHH ▸ hs_o1
  have hle := hfr.le
  have hL_o1 : q1 < H.length := h_lt hs_o1
  suffices hU : U Tryd.prog L_ref16_Reader_Feed 47 H0.length [.code m_ref16_Reader_Feed] K0 .normal (argE 0 [(.ptr q1 0), (.sl .n 1 (ml b8 b3))]) H by rwa [hHH] at hU
  simp (disch := first | assumption | omega | (simp only [h_sl, h_al] <;> omega) | fail) only [WW, WH, ↓reduceIte, Nat.reduceEqDiff, Nat.reduceLT, Nat.reduceLeDiff, Nat.reduceAdd, Nat.reduceSub, Nat.reduceMul, Nat.reduceBEq, reduceCtorEq, if_false, if_true, L_ref16_Reader_Feed, m_ref16_Reader_Feed, c_ref16_Reader_Feed, hs_o1, encReplyV]
  rcases ifb h with ⟨hy1, h⟩ | ⟨hy1, h⟩
  · refine UC_t hy1 ?_
    simp (disch := first | assumption | omega | (simp only [h_sl, h_al] <;> omega) | fail) only [WW, WH, ↓reduceIte, Nat.reduceEqDiff, Nat.reduceLT, Nat.reduceLeDiff, Nat.reduceAdd, Nat.reduceSub, Nat.reduceMul, Nat.reduceBEq, reduceCtorEq, if_false, if_true, L_ref16_Reader_Feed, hs_o1, encReplyV]
    have hq := Option.some.inj h; have hq0 := (Prod.mk.inj hq).1; replace hq := (Prod.mk.inj hq).2; have hq1 := (Prod.mk.inj hq).1; replace hq := (Prod.mk.inj hq).2; subst hq0; subst hq1; subst hq
    refine hK0 _ _ _ (.inr rfl) ?_
    exact fn_end1 (by exact hfr) hcl (resv_tmp (a := (.sl .ex 2 [])) rfl rfl (resv_tmp (a := (.int .i64 3)) rfl rfl resv_nil)) (by simp [fin, AV.df, AV.sh, AV.sh1, b_df, b_sh, b_sh1, b_Cl]) (Wx.tupX (W2L.n (W2L.same (W2L.nil)))) (by exact ((hs_o1).trans rfl)) (by first | assumption | omega | (simp only [h_sl, h_al] <;> omega) | fail) (by simp [b_Cl]; try omega) (WxC.cons (Wx.int) (WxC.cons (Wx.oo) (WxC.cons (Wx.int) (WxC.cons (Wx.bool) (WxC.cons (Wx.int) (WxC.cons (Wx.oo) (WxC.cons (Wx.bool) (WxC.nil)))))))) (r' := (.tup [(.sl .n 2 (ml encReplyV ([] : List ReplyV))), (.int .i64 3)])) ⟨rfl, rfl⟩
  · refine UC_f hy1 ?_
    simp (disch := first | assumption | omega | (simp only [h_sl, h_al] <;> omega) | fail) only [WW, WH, ↓reduceIte, Nat.reduceEqDiff, Nat.reduceLT, Nat.reduceLeDiff, Nat.reduceAdd, Nat.reduceSub, Nat.reduceMul, Nat.reduceBEq, reduceCtorEq, if_false, if_true, L_ref16_Reader_Feed, hs_o1, encReplyV]
    obtain ⟨o16, hy9, h⟩ := bnd' h
    refine UX_of (AX.weak ?_ (WxH.refl _) (ref16_Reader_Feed_l1_ok  (b3 := b3) (q1 := q1) (out4 := ([] : List ReplyV)) (i5 := 0) (s6 := r2)  (hfr) ((hs_o1).trans rfl) (by first | assumption | omega | (simp only [h_sl, h_al] <;> omega) | fail) (o := o16) hy9 ?_))
    · exact WE.cons (Wx.ptr) (WE.cons (Wx.nn) (WE.cons (Wx.own ..) (WE.cons (Wx.int) (WE.nil))))
    · rintro ⟨out14, s15⟩ rfl H hfr hs_o1
      try dsimp only at h hs_o1
      have hle := hfr.le
      have hl_o1 := h_lt hs_o1
      simp (disch := first | assumption | omega | (simp only [h_sl, h_al] <;> omega) | fail) only [WW, WH, ↓reduceIte, Nat.reduceEqDiff, Nat.reduceLT, Nat.reduceLeDiff, Nat.reduceAdd, Nat.reduceSub, Nat.reduceMul, Nat.reduceBEq, reduceCtorEq, if_false, if_true, L_ref16_Reader_Feed, hs_o1, encReplyV]
      rcases ifb h with ⟨hy10, h⟩ | ⟨hy10, h⟩
      · refine UC_t hy10 ?_
        simp (disch := first | assumption | omega | (simp only [h_sl, h_al] <;> omega) | fail) only [WW, WH, ↓reduceIte, Nat.reduceEqDiff, Nat.reduceLT, Nat.reduceLeDiff, Nat.reduceAdd, Nat.reduceSub, Nat.reduceMul, Nat.reduceBEq, reduceCtorEq, if_false, if_true, L_ref16_Reader_Feed, hs_o1, encReplyV]
        have hq := Option.some.inj h; have hq0 := (Prod.mk.inj hq).1; replace hq := (Prod.mk.inj hq).2; have hq1 := (Prod.mk.inj hq).1; replace hq := (Prod.mk.inj hq).2; subst hq0; subst hq1; subst hq
        refine hK0 _ _ _ (.inr rfl) ?_
        exact fn_end1 (by exact hfr) hcl (resv_tmp (a := (.sl .n 2 (ml encReplyV out14))) rfl rfl (resv_tmp (a := (.int .i64 3)) rfl rfl resv_nil)) (by simp [fin, AV.df, AV.sh, AV.sh1, b_df, b_sh, b_sh1, b_Cl]) (Wx.tupX (W2L.same (W2L.same (W2L.nil)))) (by exact ((hs_o1).trans rfl)) (by first | assumption | omega | (simp only [h_sl, h_al] <;> omega) | fail) (by simp [b_Cl]; try omega) (WxC.cons (Wx.int) (WxC.cons (Wx.oo) (WxC.cons (Wx.int) (WxC.cons (Wx.bool) (WxC.cons (Wx.int) (WxC.cons (Wx.oo) (WxC.cons (Wx.bool) (WxC.nil)))))))) (r' := (.tup [(.sl .n 2 (ml encReplyV out14)), (.int .i64 3)])) ⟨rfl, rfl⟩
      · refine UC_f hy10 ?_
        simp (disch := first | assumption | omega | (simp only [h_sl, h_al] <;> omega) | fail) only [WW, WH, ↓reduceIte, Nat.reduceEqDiff, Nat.reduceLT, Nat.reduceLeDiff, Nat.reduceAdd, Nat.reduceSub, Nat.reduceMul, Nat.reduceBEq, reduceCtorEq, if_false, if_true, L_ref16_Reader_Feed, hs_o1, encReplyV]
        have hq := Option.some.inj h; have hq0 := (Prod.mk.inj hq).1; replace hq := (Prod.mk.inj hq).2; have hq1 := (Prod.mk.inj hq).1; replace hq := (Prod.mk.inj hq).2; subst hq0; subst hq1; subst hq
        refine hK0 _ _ _ (.inr rfl) ?_
        exact fn_end1 (by exact hfr) hcl (resv_tmp (a := (.sl .n 2 (ml encReplyV out14))) rfl rfl (resv_tmp (a := (.int .i64 0)) rfl rfl resv_nil)) (by simp [fin, AV.df, AV.sh, AV.sh1, b_df, b_sh, b_sh1, b_Cl]) (Wx.tupX (W2L.same (W2L.same (W2L.nil)))) (by exact ((hs_o1).trans rfl)) (by first | assumption | omega | (simp only [h_sl, h_al] <;> omega) | fail) (by simp [b_Cl]; try omega) (WxC.cons (Wx.int) (WxC.cons (Wx.oo) (WxC.cons (Wx.int) (WxC.cons (Wx.bool) (WxC.cons (Wx.int) (WxC.cons (Wx.oo) (WxC.cons (Wx.bool) (WxC.nil)))))))) (r' := (.tup [(.sl .n 2 (ml encReplyV out14)), (.int .i64 0)])) ⟨rfl, rfl⟩

/-! ### mailbag/mailbaglaw16.same -/
def c_law16_same_l1b : ACode := (.seq (.seq (.rg [⟨(some 11), (.mv (.t 5)), none⟩, ⟨(some 12), (.mv (.t 0)), none⟩, ⟨(some 13), (.len (.t 12)), none⟩, ⟨(some 14), (.bin .lss (.t 11) (.t 13)), none⟩]) (.cond (.t 14) .skip (.exit 0))) (.seq (.blk 1 (.seq (.rg [⟨(some 17), (.mv (.t 0)), none⟩, ⟨(some 18), (.mv (.t 5)), none⟩, ⟨(some 19), (.ixa 2 (.t 17) (.t 18)), none⟩, ⟨(some 20), (.lde (.t 19) (some 2)), none⟩, ⟨(some 22), (.mv (.t 1)), none⟩, ⟨(some 23), (.mv (.t 5)), none⟩, ⟨(some 24), (.ixa 2 (.t 22) (.t 23)), none⟩, ⟨(some 25), (.lde (.t 24) (some 2)), none⟩, ⟨(some 21), (.call (.c (.fn 20 [])) [(.t 20)]), none⟩, ⟨(some 26), (.call (.c (.fn 19 [])) [(.t 21), (.t 25)]), none⟩, ⟨(some 27), (.un .not (.t 26)), none⟩]) (.cond (.t 27) (.seq (.rg [⟨(some 4), (.asg (.c (.bool false))), none⟩]) .ret) .skip))) (.rg [⟨(some 15), (.mv (.t 5)), none⟩, ⟨(some 16), (.bin .add (.t 15) (.c (.int .i64 1))), none⟩, ⟨(some 5), (.asg (.t 16)), none⟩])))
def c_law16_same_l1 : ACode := (.loop c_law16_same_l1b)
abbrev m_law16_same_l1b := c_law16_same_l1b
def c_law16_same : ACode := (.seq (.rg [⟨(some 4), (.asg (.c (.bool false))), none⟩]) (.seq (.seq (.rg [⟨(some 6), (.mv (.t 0)), none⟩, ⟨(some 7), (.len (.t 6)), none⟩, ⟨(some 8), (.mv (.t 1)), none⟩, ⟨(some 9), (.len (.t 8)), none⟩, ⟨(some 10), (.bin .neq (.t 7) (.t 9)), none⟩]) (.cond (.t 10) (.seq (.rg [⟨(some 4), (.asg (.c (.bool false))), none⟩]) .ret) .skip)) (.seq (.seq (.rg [⟨(some 5), (.asg (.c (.int .i64 0))), none⟩]) (.blk 0 c_law16_same_l1)) (.seq (.rg [⟨(some 4), (.asg (.c (.bool true))), none⟩]) .ret))))
abbrev m_law16_same := c_law16_same
theorem k_law16_same : FnOk Tryd.prog 16 28 [(.tmp 4)] c_law16_same := ⟨Tryd.f16, _, rfl, by decide, rfl, by kernel_rfl, rfl, rfl⟩
abbrev L_law16_same : List Nat := [0, 1, 4, 5, 10, 14, 27]
def law16_same_l1 (F : Nat) (a1 : List ReplyV) (b2 : List ReplyV) : (Bool × Int) → Option (St Bool Unit (Bool × Int))
  | (t3, i4) =>
    (if (decide (i4 < (a1.length : Int))) then
      (idx a1 i4).bind fun x5 =>
      (idx b2 i4).bind fun x6 =>
      (law16_Of x5).bind fun r7 =>
      (ref16_Same F r7 x6).bind fun r8 =>
      (if (!r8) then
        some (.ret false)
      else
        some (.nxt (t3, (IntKind.wrap .i64 (i4 + 1)))))
    else
      some (.brk ()))
def law16_same (F : Nat) (a1 : List ReplyV) (b2 : List ReplyV) : Option (Bool) :=
  (if (!decide ((a1.length : Int) = (b2.length : Int))) then
    some false
  else
    ((iter (law16_same_l1 F a1 b2) F (false, 0)).bind fun o11 =>
    match o11 with
    | .inr () =>
      some true
    | .inl r10 =>
      some r10))
set_option maxHeartbeats 2000000 in
theorem law16_same_l1_ok {F : Nat} {i4 : Int} {a1 : List ReplyV} {b2 : List ReplyV} {t3 : Bool} {H : AH}  {K : Exit → Env → AH → Prop} {o : (Bool) ⊕ (Unit)}
    (h : iter (law16_same_l1 F a1 b2) F (t3, i4) = some o)
    (kb0 : ∀ o' : Unit, o = .inr o' → K (.exit 0) [] H)
    (kr : ∀ o' : Bool, o = .inl o' → K .ret [(4, (.bool o'))] H) :
    AX Tryd.prog L_law16_same 28 H.length c_law16_same_l1 K [(0, (.sl .n 2 (ml encReplyV a1))), (1, (.sl .n 2 (ml encReplyV b2))), (4, (.bool t3)), (5, (.int .i64 i4))] H := by
  refine AX.iter (m := m_law16_same_l1b) rfl (by decide) (fun s e H1 => match s with | (t3, i4) => e = [(0, (.sl .n 2 (ml encReplyV a1))), (1, (.sl .n 2 (ml encReplyV b2))), (4, (.bool t3)), (5, (.int .i64 i4))] ∧ H1 = H) h ⟨rfl, rfl⟩ ?_
  rintro K' ⟨t3, i4⟩ st e H ⟨rfl, rfl⟩ h hN hB hR hX
  rw [law16_same_l1.eq_1] at h
  simp only [WW, ↓reduceIte, Nat.reduceEqDiff, Nat.reduceLT, Nat.reduceLeDiff, Nat.reduceAdd, Nat.reduceSub, Nat.reduceMul, Nat.reduceBEq, reduceCtorEq, if_false, if_true, L_law16_same, m_law16_same_l1b, c_law16_same_l1b, encReplyV]
  rcases ifb h with ⟨hy2, h⟩ | ⟨hy2, h⟩
  · refine UC_t hy2 ?_
    obtain ⟨x5, hy3, h⟩ := bnd' h
    obtain ⟨x6, hy4, h⟩ := bnd' h
    simp only [WW, ↓reduceIte, Nat.reduceEqDiff, Nat.reduceLT, Nat.reduceLeDiff, Nat.reduceAdd, Nat.reduceSub, Nat.reduceMul, Nat.reduceBEq, reduceCtorEq, if_false, if_true, L_law16_same, hy3, hy4, encReplyV]
    obtain ⟨r7, hy5, h⟩ := bnd' h
    refine UK_e (as' := [(.agg [(.int .i64 x5.code), (.sl .n 1 (ml AV.str x5.lines))])]) (h := law16_Of_ok (r1 := x5)  hy5) (hw := WL.cons (Wx.agg (W1L.same (W1L.same (W1L.nil)))) (WL.nil)) (hh := WxH.refl _) ?_
    simp only [WW, ↓reduceIte, Nat.reduceEqDiff, Nat.reduceLT, Nat.reduceLeDiff, Nat.reduceAdd, Nat.reduceSub, Nat.reduceMul, Nat.reduceBEq, reduceCtorEq, if_false, if_true, L_law16_same, encReplyV]
    obtain ⟨r8, hy6, h⟩ := bnd' h
    refine UK_e (as' := [(.agg [(.int .i64 r7.code), (.sl .n 1 (ml AV.str r7.lines))]), (.agg [(.int .i64 x6.code), (.sl .n 1 (ml AV.str x6.lines))])]) (h := ref16_Same_ok (a1 := r7) (b2 := x6) (F := F)  hy6) (hw := WL.cons (Wx.agg (W1L.same (W1L.same (W1L.nil)))) (WL.cons (Wx.agg (W1L.same (W1L.same (W1L.nil)))) (WL.nil))) (hh := WxH.refl _) ?_
    simp only [WW, ↓reduceIte, Nat.reduceEqDiff, Nat.reduceLT, Nat.reduceLeDiff, Nat.reduceAdd, Nat.reduceSub, Nat.reduceMul, Nat.reduceBEq, reduceCtorEq, if_false, if_true, L_law16_same, encReplyV]
    rcases ifb h with ⟨hy7, h⟩ | ⟨hy7, h⟩
    · refine UC_t hy7 ?_
      simp only [WW, ↓reduceIte, Nat.reduceEqDiff, Nat.reduceLT, Nat.reduceLeDiff, Nat.reduceAdd, Nat.reduceSub, Nat.reduceMul, Nat.reduceBEq, reduceCtorEq, if_false, if_true, L_law16_same, encReplyV]
      have hq := Option.some.inj h; subst hq
      refine hX _ _ _ _ _ (by simp) ?_ (WxH.refl _) (kr _ (hR _ rfl) )
      exact WE.cons (Wx.bool) (WE.nil)
    · refine UC_f hy7 ?_
      simp only [WW, ↓reduceIte, Nat.reduceEqDiff, Nat.reduceLT, Nat.reduceLeDiff, Nat.reduceAdd, Nat.reduceSub, Nat.reduceMul, Nat.reduceBEq, reduceCtorEq, if_false, if_true, L_law16_same, encReplyV]
      have hq := Option.some.inj h; subst hq
      refine hN _ rfl _ _ _ _ ?_ (WxH.refl _) ⟨rfl, rfl⟩
      exact WE.cons (Wx.nn) (WE.cons (Wx.nn) (WE.cons (Wx.bool) (WE.cons (Wx.int) (WE.nil))))
  · refine UC_f hy2 ?_
    simp only [WW, ↓reduceIte, Nat.reduceEqDiff, Nat.reduceLT, Nat.reduceLeDiff, Nat.reduceAdd, Nat.reduceSub, Nat.reduceMul, Nat.reduceBEq, reduceCtorEq, if_false, if_true, L_law16_same, encReplyV]
    have hq := Option.some.inj h; subst hq
    refine hX _ _ _ _ _ (by simp) ?_ (WxH.refl _) (kb0 _ (hB _ rfl) )
    exact WE.nil
set_option maxHeartbeats 2000000 in
theorem law16_same_ok {F : Nat} {a1 : List ReplyV} {b2 : List ReplyV}  {H0 : AH}  {rz0 : Bool} (h : law16_same F a1 b2 = some rz0) :
    ACalls Tryd.prog 16 [(.sl .n 2 (ml encReplyV a1)), (.sl .n 2 (ml encReplyV b2))] H0 fun v H' => v = (.bool rz0) ∧ H' = H0 := by
  refine ACalls.goX k_law16_same (m := m_law16_same) rfl L_law16_same (by decide) (by simp) fun hcl K0 hK0 => ?_
  refine AX.of_U (m := m_law16_same) rfl (by decide) ?_
  rw [law16_same.eq_1] at h
  simp only [WW, ↓reduceIte, Nat.reduceEqDiff, Nat.reduceLT, Nat.reduceLeDiff, Nat.reduceAdd, Nat.reduceSub, Nat.reduceMul, Nat.reduceBEq, reduceCtorEq, if_false, if_true, L_law16_same, m_law16_same, c_law16_same, encReplyV]
  rcases ifb h with ⟨hy1, h⟩ | ⟨hy1, h⟩
  · refine UC_t hy1 ?_
    simp only [WW, ↓reduceIte, Nat.reduceEqDiff, Nat.reduceLT, Nat.reduceLeDiff, Nat.reduceAdd, Nat.reduceSub, Nat.reduceMul, Nat.reduceBEq, reduceCtorEq, if_false, if_true, L_law16_same, encReplyV]
    have hq := Option.some.inj h; subst hq
    refine hK0 _ _ _ (.inr rfl) ?_
    exact fn_endp hcl (resv_tmp (a := (.bool false)) rfl rfl resv_nil) (by simp [fin, AV.df, AV.sh, AV.sh1, b_df, b_sh, b_sh1, b_Cl]) (Wx.bool) (r' := (.bool false)) ⟨rfl, rfl⟩
  · refine UC_f hy1 ?_
    simp only [WW, ↓reduceIte, Nat.reduceEqDiff, Nat.reduceLT, Nat.reduceLeDiff, Nat.reduceAdd, Nat.reduceSub, Nat.reduceMul, Nat.reduceBEq, reduceCtorEq, if_false, if_true, L_law16_same, encReplyV]
    obtain ⟨o11, hy8, h⟩ := bnd' h
    refine UX_of (AX.weak ?_ (WxH.refl _) (law16_same_l1_ok  (a1 := a1) (b2 := b2) (t3 := false) (i4 := 0)   (o := o11) hy8 ?_ ?_))
    · exact WE.cons (Wx.nn) (WE.cons (Wx.nn) (WE.cons (Wx.bool) (WE.cons (Wx.int) (WE.nil))))
    · rintro ⟨⟩ rfl  
      try dsimp only at h 
      simp only [WW, ↓reduceIte, Nat.reduceEqDiff, Nat.reduceLT, Nat.reduceLeDiff, Nat.reduceAdd, Nat.reduceSub, Nat.reduceMul, Nat.reduceBEq, reduceCtorEq, if_false, if_true, L_law16_same, encReplyV]
      have hq := Option.some.inj h; subst hq
      refine hK0 _ _ _ (.inr rfl) ?_
      exact fn_endp hcl (resv_tmp (a := (.bool true)) rfl rfl resv_nil) (by simp [fin, AV.df, AV.sh, AV.sh1, b_df, b_sh, b_sh1, b_Cl]) (Wx.bool) (r' := (.bool true)) ⟨rfl, rfl⟩
    · rintro r10 rfl  
      try dsimp only at h 
      simp only [WW, ↓reduceIte, Nat.reduceEqDiff, Nat.reduceLT, Nat.reduceLeDiff, Nat.reduceAdd, Nat.reduceSub, Nat.reduceMul, Nat.reduceBEq, reduceCtorEq, if_false, if_true, L_law16_same, encReplyV]
      have hq := Option.some.inj h; subst hq
      refine hK0 _ _ _ (.inr rfl) ?_
      exact fn_endp hcl (resv_tmp (a := (.bool r10)) rfl rfl resv_nil) (by simp [fin, AV.df, AV.sh, AV.sh1, b_df, b_sh, b_sh1, b_Cl]) (Wx.bool) (r' := (.bool r10)) ⟨rfl, rfl⟩

/-! ### (*mailbag/mailbagref16.Reader).Empty -/
def c_ref16_Reader_Empty_s_p1 : ACode := (.rg [⟨(some 3), (.mv (.t 0)), none⟩, ⟨(some 4), (.nck (.t 3)), none⟩, ⟨(some 5), (.fld (.t 4) 5), none⟩, ⟨(some 6), (.ld (.t 5) none), none⟩, ⟨(some 7), (.len (.t 6)), none⟩, ⟨(some 8), (.bin .eql (.t 7) (.c (.int .i64 0))), none⟩, ⟨(some 9), (.mv (.t 8)), none⟩, ⟨(some 10), (.mv (.t 0)), (some (9, true))⟩, ⟨(some 11), (.nck (.t 10)), (some (9, true))⟩, ⟨(some 12), (.fld (.t 11) 0), (some (9, true))⟩, ⟨(some 13), (.fld (.t 12) 2), (some (9, true))⟩, ⟨(some 14), (.ld (.t 13) none), (some (9, true))⟩, ⟨(some 15), (.bin .eql (.t 14) (.c (.int .i64 0))), (some (9, true))⟩, ⟨(some 16), (.pick (.t 9) (.t 15) (.c (.bool false))), none⟩, ⟨(some 17), (.mv (.t 16)), none⟩, ⟨(some 18), (.mv (.t 0)), (some (17, true))⟩, ⟨(some 19), (.nck (.t 18)), (some (17, true))⟩, ⟨(some 20), (.fld (.t 19) 0), (some (17, true))⟩, ⟨(some 21), (.fld (.t 20) 3), (some (17, true))⟩, ⟨(some 22), (.ld (.t 21) none), (some (17, true))⟩, ⟨(some 23), (.un .not (.t 22)), (some (17, true))⟩, ⟨(some 24), (.pick (.t 17) (.t 23) (.c (.bool false))), none⟩, ⟨(some 2), (.asg (.t 24)), none⟩])
abbrev m_ref16_Reader_Empty_s_p1 := c_ref16_Reader_Empty_s_p1
def c_ref16_Reader_Empty_s : ACode := (.seq (.rg [⟨(some 2), (.asg (.c (.bool false))), none⟩]) (.seq c_ref16_Reader_Empty_s_p1 .ret))
def m_ref16_Reader_Empty_s : ACode := (.seq (.rg [⟨(some 2), (.asg (.c (.bool false))), none⟩]) (.seq (.sem c_ref16_Reader_Empty_s_p1) .ret))
theorem k_ref16_Reader_Empty_s : FnOk Tryd.prog 34 25 [(.tmp 2)] c_ref16_Reader_Empty_s := ⟨Tryd.f34, _, rfl, by decide, rfl, by kernel_rfl, rfl, rfl⟩
abbrev L_ref16_Reader_Empty_s : List Nat := [0, 2]
def ref16_Reader_Empty_s (r1 : ReaderVx) : Option (Bool) :=
  some (((decide ((r1.l.length : Int) = 0)) && (decide (r1.s.n = 0))) && (!r1.s.cR))
set_option maxHeartbeats 2000000 in
theorem ref16_Reader_Empty_s_p1_ok {r1 : ReaderVx} {H : AH}  {K : Exit → Env → AH → Prop}
    (kn : K .normal [(2, (.bool (((decide ((r1.l.length : Int) = 0)) && (decide (r1.s.n = 0))) && (!r1.s.cR))))] H) :
    AX Tryd.prog L_ref16_Reader_Empty_s 25 H.length c_ref16_Reader_Empty_s_p1 K [(0, (.ep (.agg [(.int .i64 r1.s.most), (.sl .n 1 (ml b8 r1.s.b)), (.int .i64 r1.s.n), (.bool r1.s.cR), (.int .i64 r1.code), (.sl .n 1 (ml AV.str r1.l)), (.bool r1.bad)]) 0)), (2, (.bool false))] H := by
  refine AX.go (m := m_ref16_Reader_Empty_s_p1) rfl (by decide) fun K' hK => ?_
  simp only [WW, ↓reduceIte, Nat.reduceEqDiff, Nat.reduceLT, Nat.reduceLeDiff, Nat.reduceAdd, Nat.reduceSub, Nat.reduceMul, Nat.reduceBEq, reduceCtorEq, if_false, if_true, L_ref16_Reader_Empty_s, m_ref16_Reader_Empty_s_p1, c_ref16_Reader_Empty_s_p1, encReplyV]
  rcases bcases ((decide ((r1.l.length : Int) = 0))) with hy1 | hy1
  · refine UG_go hy1 ?_
    simp only [WW, ↓reduceIte, Nat.reduceEqDiff, Nat.reduceLT, Nat.reduceLeDiff, Nat.reduceAdd, Nat.reduceSub, Nat.reduceMul, Nat.reduceBEq, reduceCtorEq, if_false, if_true, L_ref16_Reader_Empty_s, hy1, encReplyV]
    rcases bcases ((decide (r1.s.n = 0))) with hy2 | hy2
    · refine UG_go hy2 ?_
      simp only [WW, ↓reduceIte, Nat.reduceEqDiff, Nat.reduceLT, Nat.reduceLeDiff, Nat.reduceAdd, Nat.reduceSub, Nat.reduceMul, Nat.reduceBEq, reduceCtorEq, if_false, if_true, L_ref16_Reader_Empty_s, hy2, encReplyV]
      refine hK _ _ _ _ _ ?_ (WxH.refl _) (kn )
      exact WE.cons (Wx.boolE (by first | (simp only [hy1, hy2, WB]; done) | (try rw [hy1]; try rw [hy2]; try simp only [WB]))) (WE.nil)
    · refine UG_nt hy2 ?_
      simp only [WW, ↓reduceIte, Nat.reduceEqDiff, Nat.reduceLT, Nat.reduceLeDiff, Nat.reduceAdd, Nat.reduceSub, Nat.reduceMul, Nat.reduceBEq, reduceCtorEq, if_false, if_true, L_ref16_Reader_Empty_s, hy2, encReplyV]
      refine hK _ _ _ _ _ ?_ (WxH.refl _) (kn )
      exact WE.cons (Wx.boolE (by first | (simp only [hy1, hy2, WB]; done) | (try rw [hy1]; try rw [hy2]; try simp only [WB]))) (WE.nil)
  · refine UG_nt hy1 ?_
    simp only [WW, ↓reduceIte, Nat.reduceEqDiff, Nat.reduceLT, Nat.reduceLeDiff, Nat.reduceAdd, Nat.reduceSub, Nat.reduceMul, Nat.reduceBEq, reduceCtorEq, if_false, if_true, L_ref16_Reader_Empty_s, hy1, encReplyV]
    refine hK _ _ _ _ _ ?_ (WxH.refl _) (kn )
    exact WE.cons (Wx.boolE (by simp only [hy1, WB])) (WE.nil)
set_option maxHeartbeats 2000000 in
theorem ref16_Reader_Empty_s_ok {r1 : ReaderVx}  {H0 : AH}  {rz0 : Bool} (h : ref16_Reader_Empty_s r1 = some rz0) :
    ACalls Tryd.prog 34 [(.ep (.agg [(.int .i64 r1.s.most), (.sl .n 1 (ml b8 r1.s.b)), (.int .i64 r1.s.n), (.bool r1.s.cR), (.int .i64 r1.code), (.sl .n 1 (ml AV.str r1.l)), (.bool r1.bad)]) 0)] H0 fun v H' => v = (.bool rz0) ∧ H' = H0 := by
  refine ACalls.goX k_ref16_Reader_Empty_s (m := m_ref16_Reader_Empty_s) rfl L_ref16_Reader_Empty_s (by decide) (by simp) fun hcl K0 hK0 => ?_
  refine AX.of_U (m := m_ref16_Reader_Empty_s) rfl (by decide) ?_
  rw [ref16_Reader_Empty_s.eq_1] at h
  simp only [WW, ↓reduceIte, Nat.reduceEqDiff, Nat.reduceLT, Nat.reduceLeDiff, Nat.reduceAdd, Nat.reduceSub, Nat.reduceMul, Nat.reduceBEq, reduceCtorEq, if_false, if_true, L_ref16_Reader_Empty_s, m_ref16_Reader_Empty_s, encReplyV]
  refine UX_of (AX.weak ?_ (WxH.refl _) (ref16_Reader_Empty_s_p1_ok (r1 := r1)  ?_))
  · exact WE.cons (Wx.ep) (WE.cons (Wx.bool) (WE.nil))
  simp only [WW, ↓reduceIte, Nat.reduceEqDiff, Nat.reduceLT, Nat.reduceLeDiff, Nat.reduceAdd, Nat.reduceSub, Nat.reduceMul, Nat.reduceBEq, reduceCtorEq, if_false, if_true, L_ref16_Reader_Empty_s, encReplyV]
  have hq := Option.some.inj h; subst hq
  refine hK0 _ _ _ (.inr rfl) ?_
  exact fn_endp hcl (resv_tmp (a := (.bool (((decide ((r1.l.length : Int) = 0)) && (decide (r1.s.n = 0))) && (!r1.s.cR)))) rfl rfl resv_nil) (by simp [fin, AV.df, AV.sh, AV.sh1, b_df, b_sh, b_sh1, b_Cl]) (Wx.bool) (r' := (.bool (((decide ((r1.l.length : Int) = 0)) && (decide (r1.s.n = 0))) && (!r1.s.cR)))) ⟨rfl, rfl⟩

/-! ### mailbag/mailbagref16.Parse -/
def c_ref16_Parse_p1 : ACode := (.rg [⟨(some 14), (.mv (.t 6)), none⟩, ⟨(some 15), (.bin .neq (.t 14) (.c (.int .i64 0))), none⟩, ⟨(some 16), (.mv (.t 15)), none⟩, ⟨(some 17), (.mv (.t 5)), (some (16, false))⟩, ⟨(some 18), (.len (.t 17)), (some (16, false))⟩, ⟨(some 19), (.bin .gtr (.t 18) (.c (.int .i64 1))), (some (16, false))⟩, ⟨(some 20), (.pick (.t 16) (.c (.bool true)) (.t 19)), none⟩, ⟨(some 21), (.mv (.t 20)), none⟩, ⟨(some 22), (.mv (.t 5)), (some (21, false))⟩, ⟨(some 23), (.len (.t 22)), (some (21, false))⟩, ⟨(some 24), (.bin .eql (.t 23) (.c (.int .i64 1))), (some (21, false))⟩, ⟨(some 25), (.mv (.t 24)), (some (21, false))⟩, ⟨(some 26), (.mv (.t 4)), (some (25, true))⟩, ⟨(some 27), (.call (.c (.fn 34 [])) [(.t 26)]), (some (25, true))⟩, ⟨(some 28), (.un .not (.t 27)), (some (25, true))⟩, ⟨(some 29), (.pick (.t 25) (.t 28) (.c (.bool false))), (some (21, false))⟩, ⟨(some 30), (.pick (.t 21) (.c (.bool true)) (.t 29)), none⟩])
abbrev m_ref16_Parse_p1 := c_ref16_Parse_p1
def c_ref16_Parse : ACode := (.seq (.rg [⟨(some 2), (.alloc [(.int .i64 0), (.sl .ex 1 [])]), none⟩, ⟨(some 3), (.asg (.c (.int .i64 0))), none⟩]) (.seq (.rg [⟨(some 7), (.call (.c (.fn 13 [])) []), none⟩, ⟨(some 4), (.asg (.t 7)), none⟩]) (.seq (.rg [⟨(some 9), (.mv (.t 4)), none⟩, ⟨(some 10), (.mv (.t 0)), none⟩, ⟨(some 11), (.call (.c (.fn 15 [])) [(.t 9), (.t 10)]), none⟩, ⟨(some 8), (.mv (.t 11)), none⟩, ⟨(some 12), (.ext (.t 8) 0), none⟩, ⟨(some 13), (.ext (.t 8) 1), none⟩, ⟨(some 5), (.asg (.t 12)), none⟩, ⟨(some 6), (.asg (.t 13)), none⟩]) (.seq (.seq c_ref16_Parse_p1 (.cond (.t 30) (.seq (.rg [⟨(some 31), (.build [(.int .i64 0), (.sl .ex 1 [])] []), none⟩, ⟨none, (.st (.t 2) (.t 31) 2), none⟩, ⟨(some 3), (.asg (.c (.int .i64 3))), none⟩]) .ret) .skip)) (.seq (.seq (.rg [⟨(some 32), (.mv (.t 5)), none⟩, ⟨(some 33), (.len (.t 32)), none⟩, ⟨(some 34), (.bin .eql (.t 33) (.c (.int .i64 0))), none⟩]) (.cond (.t 34) (.seq (.rg [⟨(some 35), (.build [(.int .i64 0), (.sl .ex 1 [])] []), none⟩, ⟨none, (.st (.t 2) (.t 35) 2), none⟩, ⟨(some 3), (.asg (.c (.int .i64 2))), none⟩]) .ret) .skip)) (.seq (.rg [⟨(some 36), (.mv (.t 5)), none⟩, ⟨(some 37), (.ixa 2 (.t 36) (.c (.int .i64 0))), none⟩, ⟨(some 38), (.ld (.t 37) (some 2)), none⟩, ⟨none, (.st (.t 2) (.t 38) 2), none⟩, ⟨(some 3), (.asg (.c (.int .i64 0))), none⟩]) .ret))))))
def m_ref16_Parse : ACode := (.seq (.rg [⟨(some 2), (.alloc [(.int .i64 0), (.sl .ex 1 [])]), none⟩, ⟨(some 3), (.asg (.c (.int .i64 0))), none⟩]) (.seq (.rg [⟨(some 7), (.call (.c (.fn 13 [])) []), none⟩, ⟨(some 4), (.asg (.t 7)), none⟩]) (.seq (.rg [⟨(some 9), (.mv (.t 4)), none⟩, ⟨(some 10), (.mv (.t 0)), none⟩, ⟨(some 11), (.call (.c (.fn 15 [])) [(.t 9), (.t 10)]), none⟩, ⟨(some 8), (.mv (.t 11)), none⟩, ⟨(some 12), (.ext (.t 8) 0), none⟩, ⟨(some 13), (.ext (.t 8) 1), none⟩, ⟨(some 5), (.asg (.t 12)), none⟩, ⟨(some 6), (.asg (.t 13)), none⟩]) (.seq (.seq (.sem c_ref16_Parse_p1) (.cond (.t 30) (.seq (.rg [⟨(some 31), (.build [(.int .i64 0), (.sl .ex 1 [])] []), none⟩, ⟨none, (.st (.t 2) (.t 31) 2), none⟩, ⟨(some 3), (.asg (.c (.int .i64 3))), none⟩]) .ret) .skip)) (.seq (.seq (.rg [⟨(some 32), (.mv (.t 5)), none⟩, ⟨(some 33), (.len (.t 32)), none⟩, ⟨(some 34), (.bin .eql (.t 33) (.c (.int .i64 0))), none⟩]) (.cond (.t 34) (.seq (.rg [⟨(some 35), (.build [(.int .i64 0), (.sl .ex 1 [])] []), none⟩, ⟨none, (.st (.t 2) (.t 35) 2), none⟩, ⟨(some 3), (.asg (.c (.int .i64 2))), none⟩]) .ret) .skip)) (.seq (.rg [⟨(some 36), (.mv (.t 5)), none⟩, ⟨(some 37), (.ixa 2 (.t 36) (.c (.int .i64 0))), none⟩, ⟨(some 38), (.ld (.t 37) (some 2)), none⟩, ⟨none, (.st (.t 2) (.t 38) 2), none⟩, ⟨(some 3), (.asg (.c (.int .i64 0))), none⟩]) .ret))))))
theorem k_ref16_Parse : FnOk Tryd.prog 18 39 [(.cell 2 46), (.tmp 3)] c_ref16_Parse := ⟨Tryd.f18, _, rfl, by decide, rfl, by kernel_rfl, rfl, rfl⟩
abbrev L_ref16_Parse : List Nat := [0, 2, 3, 4, 5, 6, 30, 34]
def ref16_Parse_p1 (r7 : Int) (r6 : List ReplyV) (r8 : ReaderVx) : Option (Bool) :=
  (if (!decide (r7 = 0)) then
    some true
  else
    (if (decide (1 < (r6.length : Int))) then
      some true
    else
      (if (decide ((r6.length : Int) = 1)) then
        (ref16_Reader_Empty_s r8).bind fun r11 => some (!r11)
      else
        some false)))
def ref16_Parse (F : Nat) (b1 : List UInt8) : Option (ReplyV × Int) :=
  ((ref16_New ).bind fun r2 =>
  match r2 with
  | none =>
    none
  | some t4 =>
    (ref16_Reader_Feed F t4 b1).bind fun (r6, r7, r8) =>
    (ref16_Parse_p1 r7 r6 r8).bind fun t13 =>
    (if t13 then
      some ((ReplyV.mk 0 ([] : List (List UInt8))), 3)
    else
      (if (decide ((r6.length : Int) = 0)) then
        some ((ReplyV.mk 0 ([] : List (List UInt8))), 2)
      else
        (idx r6 0).bind fun x14 => some (x14, 0))))
set_option maxHeartbeats 2000000 in
theorem ref16_Parse_p1_ok {r7 : Int} {r6 : List ReplyV} {r8 : ReaderVx} {q9 : Nat} {q10 : Nat} {H0 H : AH} (hfr : Fr H0 H0.length [] H) (hs_o1 : H[q9]? = some [(.int .i64 0), (.sl .own 1 [])]) (hs_o2 : H[q10]? = some [(.int .i64 r8.s.most), (.sl .own 1 (ml b8 r8.s.b)), (.int .i64 r8.s.n), (.bool r8.s.cR), (.int .i64 r8.code), (.sl .own 1 (ml AV.str r8.l)), (.bool r8.bad)]) (hi0 : H0.length ≤ q9) (hi1 : H0.length ≤ q10) (hi2 : q9 ≠ q10) {K : Exit → Env → AH → Prop} {t12 : Bool}
    (h : ref16_Parse_p1 r7 r6 r8 = some t12)
    (kn : ∀ H' : AH, Fr H0 H0.length [] H' → H'[q9]? = some [(.int .i64 0), (.sl .own 1 [])] → H'[q10]? = some [(.int .i64 r8.s.most), (.sl .own 1 (ml b8 r8.s.b)), (.int .i64 r8.s.n), (.bool r8.s.cR), (.int .i64 r8.code), (.sl .own 1 (ml AV.str r8.l)), (.bool r8.bad)] → K .normal [(2, (.ptr q9 0)), (5, (.sl .n 2 (ml encReplyV r6))), (30, (.bool t12))] H') :
    AX Tryd.prog L_ref16_Parse 39 H0.length c_ref16_Parse_p1 K [(2, (.ptr q9 0)), (4, (.ptr q10 0)), (5, (.sl .n 2 (ml encReplyV r6))), (6, (.int .i64 r7))] H := by
  refine AX.go (m := m_ref16_Parse_p1) rfl (by decide) fun K' hK => ?_
  have hle := hfr.le
  have hl_o1 := h_lt hs_o1
  have hl_o2 := h_lt hs_o2
  rw [ref16_Parse_p1.eq_1] at h
  simp (disch := first | assumption | omega | (simp only [h_sl, h_al] <;> omega) | fail) only [WW, WH, ↓reduceIte, Nat.reduceEqDiff, Nat.reduceLT, Nat.reduceLeDiff, Nat.reduceAdd, Nat.reduceSub, Nat.reduceMul, Nat.reduceBEq, reduceCtorEq, if_false, if_true, L_ref16_Parse, m_ref16_Parse_p1, c_ref16_Parse_p1, hs_o1, hs_o2, encReplyV]
  rcases ifb h with ⟨hy3, h⟩ | ⟨hy3, h⟩
  · refine UG_nf hy3 ?_
    simp (disch := first | assumption | omega | (simp only [h_sl, h_al] <;> omega) | fail) only [WW, WH, ↓reduceIte, Nat.reduceEqDiff, Nat.reduceLT, Nat.reduceLeDiff, Nat.reduceAdd, Nat.reduceSub, Nat.reduceMul, Nat.reduceBEq, reduceCtorEq, if_false, if_true, L_ref16_Parse, hy3, hs_o1, hs_o2, encReplyV]
    have hq := Option.some.inj h; subst hq
    refine hK _ _ _ _ _ ?_ (WxH.refl _) (kn _ hfr ((hs_o1).trans rfl) ((hs_o2).trans rfl))
    exact WE.cons (Wx.ptr) (WE.cons (Wx.nn) (WE.cons (Wx.bool) (WE.nil)))
  · refine UG_go hy3 ?_
    simp (disch := first | assumption | omega | (simp only [h_sl, h_al] <;> omega) | fail) only [WW, WH, ↓reduceIte, Nat.reduceEqDiff, Nat.reduceLT, Nat.reduceLeDiff, Nat.reduceAdd, Nat.reduceSub, Nat.reduceMul, Nat.reduceBEq, reduceCtorEq, if_false, if_true, L_ref16_Parse, hy3, hs_o1, hs_o2, encReplyV]
    rcases ifb h with ⟨hy4, h⟩ | ⟨hy4, h⟩
    · refine UG_nf hy4 ?_
      simp (disch := first | assumption | omega | (simp only [h_sl, h_al] <;> omega) | fail) only [WW, WH, ↓reduceIte, Nat.reduceEqDiff, Nat.reduceLT, Nat.reduceLeDiff, Nat.reduceAdd, Nat.reduceSub, Nat.reduceMul, Nat.reduceBEq, reduceCtorEq, if_false, if_true, L_ref16_Parse, hy4, hs_o1, hs_o2, encReplyV]
      have hq := Option.some.inj h; subst hq
      refine hK _ _ _ _ _ ?_ (WxH.refl _) (kn _ hfr ((hs_o1).trans rfl) ((hs_o2).trans rfl))
      exact WE.cons (Wx.ptr) (WE.cons (Wx.nn) (WE.cons (Wx.bool) (WE.nil)))
    · refine UG_go hy4 ?_
      simp (disch := first | assumption | omega | (simp only [h_sl, h_al] <;> omega) | fail) only [WW, WH, ↓reduceIte, Nat.reduceEqDiff, Nat.reduceLT, Nat.reduceLeDiff, Nat.reduceAdd, Nat.reduceSub, Nat.reduceMul, Nat.reduceBEq, reduceCtorEq, if_false, if_true, L_ref16_Parse, hy4, hs_o1, hs_o2, encReplyV]
      rcases ifb h with ⟨hy5, h⟩ | ⟨hy5, h⟩
      · refine UG_go hy5 ?_
        simp (disch := first | assumption | omega | (simp only [h_sl, h_al] <;> omega) | fail) only [WW, WH, ↓reduceIte, Nat.reduceEqDiff, Nat.reduceLT, Nat.reduceLeDiff, Nat.reduceAdd, Nat.reduceSub, Nat.reduceMul, Nat.reduceBEq, reduceCtorEq, if_false, if_true, L_ref16_Parse, hy5, hs_o1, hs_o2, encReplyV]
        obtain ⟨r11, hy6, h⟩ := bnd' h
        refine UK_e (as' := [(.ptr q10 0)]) (h := ACalls.ofE (ref16_Reader_Empty_s_ok (r1 := r8) (H0 := []) hy6) (PEL.cons (.one _ _ (PE1.ptrL (by exact ((hs_o2).trans rfl)) (PE1L.cons (PE1.int) (PE1L.cons (.sl _ _ _) (PE1L.cons (PE1.int) (PE1L.cons (PE1.bool) (PE1L.cons (PE1.int) (PE1L.cons (.sl _ _ _) (PE1L.cons (PE1.bool) (PE1L.nil)))))))))) (PEL.nil)) (by rintro _ rfl; rfl)) (hw := WL.cons (Wx.ptr) (WL.nil)) (hh := WxH.refl _) ?_
        simp (disch := first | assumption | omega | (simp only [h_sl, h_al] <;> omega) | fail) only [WW, WH, ↓reduceIte, Nat.reduceEqDiff, Nat.reduceLT, Nat.reduceLeDiff, Nat.reduceAdd, Nat.reduceSub, Nat.reduceMul, Nat.reduceBEq, reduceCtorEq, if_false, if_true, L_ref16_Parse, hs_o1, hs_o2, encReplyV]
        have hq := Option.some.inj h; subst hq
        refine hK _ _ _ _ _ ?_ (WxH.refl _) (kn _ hfr ((hs_o1).trans rfl) ((hs_o2).trans rfl))
        exact WE.cons (Wx.ptr) (WE.cons (Wx.nn) (WE.cons (Wx.bool) (WE.nil)))
      · refine UG_nt hy5 ?_
        simp (disch := first | assumption | omega | (simp only [h_sl, h_al] <;> omega) | fail) only [WW, WH, ↓reduceIte, Nat.reduceEqDiff, Nat.reduceLT, Nat.reduceLeDiff, Nat.reduceAdd, Nat.reduceSub, Nat.reduceMul, Nat.reduceBEq, reduceCtorEq, if_false, if_true, L_ref16_Parse, hy5, hs_o1, hs_o2, encReplyV]
        have hq := Option.some.inj h; subst hq
        refine hK _ _ _ _ _ ?_ (WxH.refl _) (kn _ hfr ((hs_o1).trans rfl) ((hs_o2).trans rfl))
        exact WE.cons (Wx.ptr) (WE.cons (Wx.nn) (WE.cons (Wx.bool) (WE.nil)))
set_option maxHeartbeats 2000000 in
theorem ref16_Parse_ok {F : Nat} {b1 : List UInt8}  {H0 : AH}  {rz0 : ReplyV} {rz1 : Int} (h : ref16_Parse F b1 = some (rz0, rz1)) :
    ACalls Tryd.prog 18 [(.sl .n 1 (ml b8 b1))] H0 fun v H' => v = (.tup [(.agg [(.int .i64 rz0.code), (.sl .n 1 (ml AV.str rz0.lines))]), (.int .i64 rz1)]) ∧ H' = H0 := by
  refine ACalls.goX k_ref16_Parse (m := m_ref16_Parse) rfl L_ref16_Parse (by decide) (by simp) fun hcl K0 hK0 => ?_
  refine AX.of_U (m := m_ref16_Parse) rfl (by decide) ?_
  have hfr := Fr.refl H0 []
  have hle := hfr.le
  rw [ref16_Parse.eq_1] at h
  obtain ⟨H, hHH⟩ : ∃ H, H = H0 := ⟨_, rfl⟩
  have hfr : Fr H0 H0.length [] H := hHH ▸ hfr
  have hle := hfr.le
  suffices hU : U Tryd.prog L_ref16_Parse 39 H0.length [.code m_ref16_Parse] K0 .normal (argE 0 [(.sl .n 1 (ml b8 b1))]) H by rwa [hHH] at hU
  simp (disch := first | assumption | omega | (simp only [h_sl, h_al] <;> omega) | fail) only [WW, WH, ↓reduceIte, Nat.reduceEqDiff, Nat.reduceLT, Nat.reduceLeDiff, Nat.reduceAdd, Nat.reduceSub, Nat.reduceMul, Nat.reduceBEq, reduceCtorEq, if_false, if_true, L_ref16_Parse, m_ref16_Parse, encReplyV]
  obtain ⟨r2, hy1, h⟩ := bnd' h
  obtain ⟨q3, hg_q3⟩ : ∃ q : Nat, H.length = q := ⟨_, rfl⟩
  try rw [hg_q3]
  rcases r2 with _ | t4
  · try dsimp only at h
    cases h
  · try dsimp only at h
    refine UK_x (as' := []) (h := ref16_New_ok   hy1) (hw := WL.nil) (hh := WxH.refl _) ?_
    rintro _ H ⟨q5, rfl, hgn0, hfrn, hs_o2⟩
    try simp only [h_sl, h_al] at hgn0
    have hs_o1 : H[q3]? = some [(.int .i64 0), (.sl .ex 1 [])] := (hfrn.eq _ (h_lt (by exact ((h_new' (by first | assumption | omega | (simp only [h_sl, h_al] <;> omega) | fail)).trans rfl))) (by simp <;> (first | assumption | omega | (simp only [h_sl, h_al] <;> omega) | fail))).trans (by exact ((h_new' (by first | assumption | omega | (simp only [h_sl, h_al] <;> omega) | fail)).trans rfl))
    have hfr := Fr.trans (Fr.app hfr) hfrn (by simp)
    have hle := hfr.le
    have hl_o1 := h_lt hs_o1
    have hl_o2 := h_lt hs_o2
    simp (disch := first | assumption | omega | (simp only [h_sl, h_al] <;> omega) | fail) only [WW, WH, ↓reduceIte, Nat.reduceEqDiff, Nat.reduceLT, Nat.reduceLeDiff, Nat.reduceAdd, Nat.reduceSub, Nat.reduceMul, Nat.reduceBEq, reduceCtorEq, if_false, if_true, L_ref16_Parse, hs_o1, hs_o2, encReplyV]
    obtain ⟨⟨r6, r7, r8⟩, hy2, h⟩ := bnd' h
    dsimp only at h
    refine UK_e (as' := [(.ptr q5 0), (.sl .n 1 (ml b8 b1))]) (h := ref16_Reader_Feed_ok (r2 := t4) (b3 := b1) (q1 := q5) (F := F) (by exact ((hs_o2).trans rfl)) hy2) (hw := WL.cons (Wx.ptr) (WL.cons (Wx.nn) (WL.nil))) (hh := WxH.refl _) ?_
    simp (disch := first | assumption | omega | (simp only [h_sl, h_al] <;> omega) | fail) only [WW, WH, ↓reduceIte, Nat.reduceEqDiff, Nat.reduceLT, Nat.reduceLeDiff, Nat.reduceAdd, Nat.reduceSub, Nat.reduceMul, Nat.reduceBEq, reduceCtorEq, if_false, if_true, L_ref16_Parse, hs_o1, hs_o2, encReplyV]
    obtain ⟨t13, hy7, h⟩ := bnd' h
    refine UX_of (AX.weak ?_ (WxH.set (q := q3) (cs' := [(.int .i64 0), (.sl .own 1 [])]) (((h_ne (by first | assumption | omega | (simp only [h_sl, h_al] <;> omega) | fail)).trans (hs_o1)).trans rfl) (WxC.cons (Wx.int) (WxC.cons (Wx.own ..) (WxC.nil)))) (ref16_Parse_p1_ok  (r7 := r7) (r6 := r6) (r8 := r8) (t12 := t13) (q9 := q3) (q10 := q5) ((Fr.set (s := q3) (Fr.set (s := q5) hfr (.inr (by first | assumption | omega | (simp only [h_sl, h_al] <;> omega) | fail))) (.inr (by first | assumption | omega | (simp only [h_sl, h_al] <;> omega) | fail)))) ((h_eq (by first | assumption | omega | (simp only [h_sl, h_al] <;> omega) | fail)).trans rfl) (((h_ne (by first | assumption | omega | (simp only [h_sl, h_al] <;> omega) | fail)).trans (h_eq (by first | assumption | omega | (simp only [h_sl, h_al] <;> omega) | fail))).trans rfl) (by first | assumption | omega | (simp only [h_sl, h_al] <;> omega) | fail) (by first | assumption | omega | (simp only [h_sl, h_al] <;> omega) | fail) (by first | assumption | omega | (simp only [h_sl, h_al] <;> omega) | fail) hy7 ?_))
    · exact WE.cons (Wx.ptr) (WE.cons (Wx.ptr) (WE.cons (Wx.nn) (WE.cons (Wx.int) (WE.nil))))
    intro H hfr hs_o1 hs_o2
    have hle := hfr.le
    have hl_o1 := h_lt hs_o1
    have hl_o2 := h_lt hs_o2
    simp (disch := first | assumption | omega | (simp only [h_sl, h_al] <;> omega) | fail) only [WW, WH, ↓reduceIte, Nat.reduceEqDiff, Nat.reduceLT, Nat.reduceLeDiff, Nat.reduceAdd, Nat.reduceSub, Nat.reduceMul, Nat.reduceBEq, reduceCtorEq, if_false, if_true, L_ref16_Parse, hs_o1, hs_o2, encReplyV]
    rcases ifb h with ⟨hy8, h⟩ | ⟨hy8, h⟩
    · refine UC_t hy8 ?_
      simp (disch := first | assumption | omega | (simp only [h_sl, h_al] <;> omega) | fail) only [WW, WH, ↓reduceIte, Nat.reduceEqDiff, Nat.reduceLT, Nat.reduceLeDiff, Nat.reduceAdd, Nat.reduceSub, Nat.reduceMul, Nat.reduceBEq, reduceCtorEq, if_false, if_true, L_ref16_Parse, hs_o1, hs_o2, encReplyV]
      have hq := Option.some.inj h; have hq0 := (Prod.mk.inj hq).1; replace hq := (Prod.mk.inj hq).2; subst hq0; subst hq
      refine hK0 _ _ _ (.inr rfl) ?_
      exact fn_end0 (by exact (Fr.set (s := q3) hfr (.inr (by first | assumption | omega | (simp only [h_sl, h_al] <;> omega) | fail)))) hcl (resv_cell (cs := [(.int .i64 0), (.sl .ex 1 [])]) (v := (.agg [(.int .i64 0), (.sl .ex 1 [])])) (by kernel_rfl) (n := (some 2)) (by kernel_rfl) rfl (by exact ((h_eq (by first | assumption | omega | (simp only [h_sl, h_al] <;> omega) | fail)).trans rfl)) (by simp [loadc_n, loadc_1, ld1, allFlat, AV.flat, b_flat, b_sh1, AV.sh1, Tg.sh]) (resv_tmp (a := (.int .i64 3)) rfl rfl resv_nil)) (by simp [fin, AV.df, AV.sh, AV.sh1, b_df, b_sh, b_sh1, b_Cl]) (Wx.tupX (W2L.agg (W1L.same (W1L.n (W1L.nil))) (W2L.same (W2L.nil)))) (r' := (.tup [(.agg [(.int .i64 ((ReplyV.mk 0 ([] : List (List UInt8))).code)), (.sl .n 1 (ml AV.str ((ReplyV.mk 0 ([] : List (List UInt8))).lines)))]), (.int .i64 3)])) ⟨rfl, rfl⟩
    · refine UC_f hy8 ?_
      simp (disch := first | assumption | omega | (simp only [h_sl, h_al] <;> omega) | fail) only [WW, WH, ↓reduceIte, Nat.reduceEqDiff, Nat.reduceLT, Nat.reduceLeDiff, Nat.reduceAdd, Nat.reduceSub, Nat.reduceMul, Nat.reduceBEq, reduceCtorEq, if_false, if_true, L_ref16_Parse, hs_o1, hs_o2, encReplyV]
      rcases ifb h with ⟨hy9, h⟩ | ⟨hy9, h⟩
      · refine UC_t hy9 ?_
        simp (disch := first | assumption | omega | (simp only [h_sl, h_al] <;> omega) | fail) only [WW, WH, ↓reduceIte, Nat.reduceEqDiff, Nat.reduceLT, Nat.reduceLeDiff, Nat.reduceAdd, Nat.reduceSub, Nat.reduceMul, Nat.reduceBEq, reduceCtorEq, if_false, if_true, L_ref16_Parse, hs_o1, hs_o2, encReplyV]
        have hq := Option.some.inj h; have hq0 := (Prod.mk.inj hq).1; replace hq := (Prod.mk.inj hq).2; subst hq0; subst hq
        refine hK0 _ _ _ (.inr rfl) ?_
        exact fn_end0 (by exact (Fr.set (s := q3) hfr (.inr (by first | assumption | omega | (simp only [h_sl, h_al] <;> omega) | fail)))) hcl (resv_cell (cs := [(.int .i64 0), (.sl .ex 1 [])]) (v := (.agg [(.int .i64 0), (.sl .ex 1 [])])) (by kernel_rfl) (n := (some 2)) (by kernel_rfl) rfl (by exact ((h_eq (by first | assumption | omega | (simp only [h_sl, h_al] <;> omega) | fail)).trans rfl)) (by simp [loadc_n, loadc_1, ld1, allFlat, AV.flat, b_flat, b_sh1, AV.sh1, Tg.sh]) (resv_tmp (a := (.int .i64 2)) rfl rfl resv_nil)) (by simp [fin, AV.df, AV.sh, AV.sh1, b_df, b_sh, b_sh1, b_Cl]) (Wx.tupX (W2L.agg (W1L.same (W1L.n (W1L.nil))) (W2L.same (W2L.nil)))) (r' := (.tup [(.agg [(.int .i64 ((ReplyV.mk 0 ([] : List (List UInt8))).code)), (.sl .n 1 (ml AV.str ((ReplyV.mk 0 ([] : List (List UInt8))).lines)))]), (.int .i64 2)])) ⟨rfl, rfl⟩
      · refine UC_f hy9 ?_
        obtain ⟨x14, hy10, h⟩ := bnd' h
        simp (disch := first | assumption | omega | (simp only [h_sl, h_al] <;> omega) | fail) only [WW, WH, ↓reduceIte, Nat.reduceEqDiff, Nat.reduceLT, Nat.reduceLeDiff, Nat.reduceAdd, Nat.reduceSub, Nat.reduceMul, Nat.reduceBEq, reduceCtorEq, if_false, if_true, L_ref16_Parse, hy10, hs_o1, hs_o2, encReplyV]
        have hq := Option.some.inj h; have hq0 := (Prod.mk.inj hq).1; replace hq := (Prod.mk.inj hq).2; subst hq0; subst hq
        refine hK0 _ _ _ (.inr rfl) ?_
        exact fn_end0 (by exact (Fr.set (s := q3) hfr (.inr (by first | assumption | omega | (simp only [h_sl, h_al] <;> omega) | fail)))) hcl (resv_cell (cs := [(.int .i64 x14.code), (.sl .n 1 (ml AV.str x14.lines))]) (v := (.agg [(.int .i64 x14.code), (.sl .n 1 (ml AV.str x14.lines))])) (by kernel_rfl) (n := (some 2)) (by kernel_rfl) rfl (by exact ((h_eq (by first | assumption | omega | (simp only [h_sl, h_al] <;> omega) | fail)).trans rfl)) (by simp [loadc_n, loadc_1, ld1, allFlat, AV.flat, b_flat, b_sh1, AV.sh1, Tg.sh]) (resv_tmp (a := (.int .i64 0)) rfl rfl resv_nil)) (by simp [fin, AV.df, AV.sh, AV.sh1, b_df, b_sh, b_sh1, b_Cl]) (Wx.tupX (W2L.same (W2L.same (W2L.nil)))) (r' := (.tup [(.agg [(.int .i64 x14.code), (.sl .n 1 (ml AV.str x14.lines))]), (.int .i64 0)])) ⟨rfl, rfl⟩

end Go.Proofs.ReplyS
