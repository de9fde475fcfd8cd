import Derived.Test.YtndhkepeecpilaaAmW
import Derived.Test.YtndhkepeecpilaaProg
set_option linter.unusedSimpArgs false
set_option linter.unusedVariables false
set_option linter.unusedSectionVars false
set_option linter.defProp false
set_option maxRecDepth 100000
namespace Go.Proofs.LineS
open Go Go.Am Go.Proofs

structure SplitterV where
  most : Int
  b : List UInt8
  state : Int
  long : Bool
  deriving DecidableEq

structure LineV where
  text : List UInt8
  long : Bool
  deriving DecidableEq

structure PieceV where
  kind : Int
  n : Int
  b : List UInt8
  deriving DecidableEq

structure SplitterVx where
  most : Int
  b : List UInt8
  n : Int
  cR : Bool
  deriving DecidableEq
def encLineV (x : LineV) : AV := .agg [(.str x.text), (.bool x.long)]

def encPieceV (x : PieceV) : AV := .agg [(.int .i64 x.kind), (.int .i64 x.n), (.sl .n 1 (ml b8 x.b))]

/-! ### mailbag/line.may -/
def c_line_may_p1 : ACode := (.rg [⟨(some 3), (.mv (.t 0)), none⟩, ⟨(some 4), (.bin .geq (.t 3) (.c (.int .i64 2))), none⟩, ⟨(some 5), (.mv (.t 4)), none⟩, ⟨(some 6), (.mv (.t 0)), (some (5, true))⟩, ⟨(some 7), (.bin .leq (.t 6) (.c (.int .i64 65536))), (some (5, true))⟩, ⟨(some 8), (.pick (.t 5) (.t 7) (.c (.bool false))), none⟩, ⟨(some 2), (.asg (.t 8)), none⟩])
abbrev m_line_may_p1 := c_line_may_p1
def c_line_may : ACode := (.seq (.rg [⟨(some 2), (.asg (.c (.bool false))), none⟩]) (.seq c_line_may_p1 .ret))
def m_line_may : ACode := (.seq (.rg [⟨(some 2), (.asg (.c (.bool false))), none⟩]) (.seq (.sem c_line_may_p1) .ret))
theorem k_line_may : FnOk Try.prog 21 9 [(.tmp 2)] c_line_may := ⟨Try.f21, _, rfl, by decide, rfl, by kernel_rfl, rfl, rfl⟩
abbrev L_line_may : List Nat := [0, 2]
def line_may (most1 : Int) : Option (Bool) :=
  some ((decide (2 ≤ most1)) && (decide (most1 ≤ 65536)))
set_option maxHeartbeats 2000000 in
theorem line_may_p1_ok {most1 : Int} {H : AH}  {K : Exit → Env → AH → Prop}
    (kn : K .normal [(2, (.bool ((decide (2 ≤ most1)) && (decide (most1 ≤ 65536)))))] H) :
    AX Try.prog L_line_may 9 H.length c_line_may_p1 K [(0, (.int .i64 most1)), (2, (.bool false))] H := by
  refine AX.go (m := m_line_may_p1) rfl (by decide) fun K' hK => ?_
  simp only [WW, ↓reduceIte, Nat.reduceEqDiff, Nat.reduceLT, Nat.reduceLeDiff, Nat.reduceAdd, Nat.reduceSub, Nat.reduceMul, Nat.reduceBEq, reduceCtorEq, if_false, if_true, L_line_may, m_line_may_p1, c_line_may_p1]
  rcases bcases ((decide (2 ≤ most1))) with hy1 | hy1
  · refine UG_go hy1 ?_
    simp only [WW, ↓reduceIte, Nat.reduceEqDiff, Nat.reduceLT, Nat.reduceLeDiff, Nat.reduceAdd, Nat.reduceSub, Nat.reduceMul, Nat.reduceBEq, reduceCtorEq, if_false, if_true, L_line_may, hy1]
    refine hK _ _ _ _ _ ?_ (WxH.refl _) (kn )
    exact WE.cons (Wx.boolE (by simp only [hy1, WB])) (WE.nil)
  · refine UG_nt hy1 ?_
    simp only [WW, ↓reduceIte, Nat.reduceEqDiff, Nat.reduceLT, Nat.reduceLeDiff, Nat.reduceAdd, Nat.reduceSub, Nat.reduceMul, Nat.reduceBEq, reduceCtorEq, if_false, if_true, L_line_may, hy1]
    refine hK _ _ _ _ _ ?_ (WxH.refl _) (kn )
    exact WE.cons (Wx.boolE (by simp only [hy1, WB])) (WE.nil)
set_option maxHeartbeats 2000000 in
theorem line_may_ok {most1 : Int}  {H0 : AH}  {r0 : Bool} (h : line_may most1 = some r0) :
    ACalls Try.prog 21 [(.int .i64 most1)] H0 fun v H' => v = (.bool r0) ∧ H' = H0 := by
  refine ACalls.goX k_line_may (m := m_line_may) rfl L_line_may (by decide) (by simp) fun hcl K0 hK0 => ?_
  refine AX.of_U (m := m_line_may) rfl (by decide) ?_
  rw [line_may.eq_1] at h
  simp only [WW, ↓reduceIte, Nat.reduceEqDiff, Nat.reduceLT, Nat.reduceLeDiff, Nat.reduceAdd, Nat.reduceSub, Nat.reduceMul, Nat.reduceBEq, reduceCtorEq, if_false, if_true, L_line_may, m_line_may]
  refine UX_of (AX.weak ?_ (WxH.refl _) (line_may_p1_ok (most1 := most1)  ?_))
  · exact WE.cons (Wx.int) (WE.cons (Wx.bool) (WE.nil))
  simp only [WW, ↓reduceIte, Nat.reduceEqDiff, Nat.reduceLT, Nat.reduceLeDiff, Nat.reduceAdd, Nat.reduceSub, Nat.reduceMul, Nat.reduceBEq, reduceCtorEq, if_false, if_true, L_line_may]
  have hq := Option.some.inj h; subst hq
  refine hK0 _ _ _ (.inr rfl) ?_
  exact fn_endp hcl (resv_tmp (a := (.bool ((decide (2 ≤ most1)) && (decide (most1 ≤ 65536))))) rfl rfl resv_nil) (by simp [fin, AV.df, AV.sh, AV.sh1, b_df, b_sh, b_sh1, b_Cl]) (Wx.bool) (r' := (.bool ((decide (2 ≤ most1)) && (decide (most1 ≤ 65536))))) ⟨rfl, rfl⟩

/-! ### mailbag/line.New -/
def c_line_New : ACode := (.seq (.rg [⟨(some 2), (.asg (.c (.v (.pointer none)))), none⟩, ⟨(some 3), (.asg (.c (.int .i64 0))), none⟩]) (.seq (.seq (.rg [⟨(some 4), (.mv (.t 0)), none⟩, ⟨(some 5), (.call (.c (.fn 21 [])) [(.t 4)]), none⟩, ⟨(some 6), (.un .not (.t 5)), none⟩]) (.cond (.t 6) (.seq (.rg [⟨(some 2), (.asg (.c (.v (.pointer none)))), none⟩, ⟨(some 3), (.asg (.c (.int .i64 1))), none⟩]) .ret) .skip)) (.seq (.rg [⟨(some 7), (.mv (.t 0)), none⟩, ⟨(some 8), (.build [(.int .i64 0), (.sl .ex 1 []), (.int .i64 0), (.bool false)] [(0, (1, (.t 7)))]), none⟩, ⟨(some 9), (.box (.t 8)), none⟩, ⟨(some 2), (.asg (.t 9)), none⟩, ⟨(some 3), (.asg (.c (.int .i64 0))), none⟩]) .ret)))
abbrev m_line_New := c_line_New
theorem k_line_New : FnOk Try.prog 9 10 [(.tmp 2), (.tmp 3)] c_line_New := ⟨Try.f9, _, rfl, by decide, rfl, by kernel_rfl, rfl, rfl⟩
abbrev L_line_New : List Nat := [0, 2, 3, 6]
def line_New (most1 : Int) : Option ((Option SplitterV) × Int) :=
  (line_may most1).bind fun r2 =>
  (if (!r2) then
    some (none, 1)
  else
    some (some (SplitterV.mk most1 ([] : List UInt8) 0 false), 0))
set_option maxHeartbeats 2000000 in
theorem line_New_ok {most1 : Int}  {H0 : AH}  {r0 : Option SplitterV} {r1 : Int} (h : line_New most1 = some (r0, r1)) :
    ACalls Try.prog 9 [(.int .i64 most1)] H0 fun v H' => match (generalizing := false) r0 with | none => v = (.tup [(.v (.pointer none)), (.int .i64 r1)]) ∧ Fr H0 H0.length [] H' | some x9000 => ∃ q9001, v = (.tup [(.ptr q9001 0), (.int .i64 r1)]) ∧ H0.length ≤ q9001 ∧ Fr H0 H0.length [] H' ∧ H'[q9001]? = some [(.int .i64 x9000.most), (.sl .own 1 (ml b8 x9000.b)), (.int .i64 x9000.state), (.bool x9000.long)] := by
  refine ACalls.goX k_line_New (m := m_line_New) rfl L_line_New (by decide) (by simp) fun hcl K0 hK0 => ?_
  refine AX.of_U (m := m_line_New) rfl (by decide) ?_
  have hfr := Fr.refl H0 []
  have hle := hfr.le
  rw [line_New.eq_1] at h
  obtain ⟨H, hHH⟩ : ∃ H, H = H0 := ⟨_, rfl⟩
  have hfr : Fr H0 H0.length [] H := hHH ▸ hfr
  have hle := hfr.le
  suffices hU : U Try.prog L_line_New 10 H0.length [.code m_line_New] K0 .normal (argE 0 [(.int .i64 most1)]) H by rwa [hHH] at hU
  simp (disch := first | assumption | omega | (simp only [h_sl, h_al] <;> omega) | fail) only [WW, WH, ↓reduceIte, Nat.reduceEqDiff, Nat.reduceLT, Nat.reduceLeDiff, Nat.reduceAdd, Nat.reduceSub, Nat.reduceMul, Nat.reduceBEq, reduceCtorEq, if_false, if_true, L_line_New, m_line_New, c_line_New]
  obtain ⟨r2, hy1, h⟩ := bnd' h
  refine UK_e (as' := [(.int .i64 most1)]) (h := line_may_ok (most1 := most1)  hy1) (hw := WL.cons (Wx.int) (WL.nil)) (hh := WxH.refl _) ?_
  simp (disch := first | assumption | omega | (simp only [h_sl, h_al] <;> omega) | fail) only [WW, WH, ↓reduceIte, Nat.reduceEqDiff, Nat.reduceLT, Nat.reduceLeDiff, Nat.reduceAdd, Nat.reduceSub, Nat.reduceMul, Nat.reduceBEq, reduceCtorEq, if_false, if_true, L_line_New]
  rcases ifb h with ⟨hy2, h⟩ | ⟨hy2, h⟩
  · refine UC_t hy2 ?_
    simp (disch := first | assumption | omega | (simp only [h_sl, h_al] <;> omega) | fail) only [WW, WH, ↓reduceIte, Nat.reduceEqDiff, Nat.reduceLT, Nat.reduceLeDiff, Nat.reduceAdd, Nat.reduceSub, Nat.reduceMul, Nat.reduceBEq, reduceCtorEq, if_false, if_true, L_line_New]
    have hq := Option.some.inj h; have hq0 := (Prod.mk.inj hq).1; replace hq := (Prod.mk.inj hq).2; subst hq0; subst hq
    refine hK0 _ _ _ (.inr rfl) ?_
    exact fn_endB (resv_tmp (a := (.v (.pointer none))) rfl rfl (resv_tmp (a := (.int .i64 1)) rfl rfl resv_nil)) (r' := (.tup [(.v (.pointer none)), (.int .i64 1)])) (Wx.tup (W1L.same (W1L.same (W1L.nil)))) (WxH.refl _) ⟨rfl, by exact hfr⟩
  · refine UC_f hy2 ?_
    simp (disch := first | assumption | omega | (simp only [h_sl, h_al] <;> omega) | fail) only [WW, WH, ↓reduceIte, Nat.reduceEqDiff, Nat.reduceLT, Nat.reduceLeDiff, Nat.reduceAdd, Nat.reduceSub, Nat.reduceMul, Nat.reduceBEq, reduceCtorEq, if_false, if_true, L_line_New]
    have hq := Option.some.inj h; have hq0 := (Prod.mk.inj hq).1; replace hq := (Prod.mk.inj hq).2; subst hq0; subst hq
    refine hK0 _ _ _ (.inr rfl) ?_
    exact fn_endB (resv_tmp (a := (.ptr H.length 0)) rfl rfl (resv_tmp (a := (.int .i64 0)) rfl rfl resv_nil)) (r' := (.tup [(.ptr H.length 0), (.int .i64 0)])) (Wx.tup (W1L.same (W1L.same (W1L.nil)))) (WxH.set (q := H.length) (cs' := [(.int .i64 most1), (.sl .own 1 []), (.int .i64 0), (.bool false)]) ((h_new' (by first | assumption | omega | (simp only [h_sl, h_al] <;> omega) | fail)).trans rfl) (WxC.cons (Wx.int) (WxC.cons (Wx.own ..) (WxC.cons (Wx.int) (WxC.cons (Wx.bool) (WxC.nil)))))) ⟨H.length, rfl, by first | assumption | omega | (simp only [h_sl, h_al] <;> omega) | fail, by exact (Fr.set (s := H.length) (Fr.app hfr) (.inr (by first | assumption | omega | (simp only [h_sl, h_al] <;> omega) | fail))), by exact ((h_eq (by first | assumption | omega | (simp only [h_sl, h_al] <;> omega) | fail)).trans rfl)⟩

/-! ### (*mailbag/line.Splitter).Reset -/
def c_line_Splitter_Reset : ACode := (.rg [⟨(some 2), (.mv (.t 0)), none⟩, ⟨(some 3), (.mv (.t 0)), none⟩, ⟨(some 4), (.mv (.t 0)), none⟩, ⟨(some 5), (.nck (.t 2)), none⟩, ⟨(some 6), (.fld (.t 5) 1), none⟩, ⟨none, (.st (.t 6) (.c (.sl .ex 1 [])) 1), none⟩, ⟨(some 7), (.nck (.t 3)), none⟩, ⟨(some 8), (.fld (.t 7) 2), none⟩, ⟨none, (.st (.t 8) (.c (.int .i64 0)) 1), none⟩, ⟨(some 9), (.nck (.t 4)), none⟩, ⟨(some 10), (.fld (.t 9) 3), none⟩, ⟨none, (.st (.t 10) (.c (.bool false)) 1), none⟩])
abbrev m_line_Splitter_Reset := c_line_Splitter_Reset
theorem k_line_Splitter_Reset : FnOk Try.prog 18 11 [] c_line_Splitter_Reset := ⟨Try.f18, _, rfl, by decide, rfl, by kernel_rfl, rfl, rfl⟩
abbrev L_line_Splitter_Reset : List Nat := [0]
def line_Splitter_Reset (s2 : SplitterV) : Option (SplitterV) :=
  some (SplitterV.mk s2.most ([] : List UInt8) 0 false)
set_option maxHeartbeats 2000000 in
theorem line_Splitter_Reset_ok {s2 : SplitterV} {q1 : Nat} {H0 : AH} (hs_o1 : H0[q1]? = some [(.int .i64 s2.most), (.sl .own 1 (ml b8 s2.b)), (.int .i64 s2.state), (.bool s2.long)]) {r0 : SplitterV} (h : line_Splitter_Reset s2 = some r0) :
    ACalls Try.prog 18 [(.ptr q1 0)] H0 fun v H' => v = (.tup []) ∧ H' = (H0.set q1 [(.int .i64 r0.most), (.sl .own 1 (ml b8 r0.b)), (.int .i64 r0.state), (.bool r0.long)]) := by
  refine ACalls.goX k_line_Splitter_Reset (m := m_line_Splitter_Reset) rfl L_line_Splitter_Reset (by decide) (by simp) fun hcl K0 hK0 => ?_
  refine AX.of_U (m := m_line_Splitter_Reset) rfl (by decide) ?_
  have hl_o1 := h_lt hs_o1
  have hfr := Fr.refl H0 [q1]
  have hle := hfr.le
  rw [line_Splitter_Reset.eq_1] at h
  obtain ⟨H, hHH⟩ : ∃ H, H = H0 := ⟨_, rfl⟩
  have hfr : Fr H0 H0.length [q1] H := hHH ▸ hfr
  have hs_o1 : H[q1]? = some [(.int .i64 s2.most), (.sl .own 1 (ml b8 s2.b)), (.int .i64 s2.state), (.bool s2.long)] := hHH ▸ hs_o1
  have hle := hfr.le
  have hL_o1 : q1 < H.length := h_lt hs_o1
  suffices hU : U Try.prog L_line_Splitter_Reset 11 H0.length [.code m_line_Splitter_Reset] K0 .normal (argE 0 [(.ptr q1 0)]) H by rwa [hHH] at hU
  simp (disch := first | assumption | omega | (simp only [h_sl, h_al] <;> omega) | fail) only [WW, WH, ↓reduceIte, Nat.reduceEqDiff, Nat.reduceLT, Nat.reduceLeDiff, Nat.reduceAdd, Nat.reduceSub, Nat.reduceMul, Nat.reduceBEq, reduceCtorEq, if_false, if_true, L_line_Splitter_Reset, m_line_Splitter_Reset, c_line_Splitter_Reset, hs_o1, encLineV]
  have hq := Option.some.inj h; subst hq
  refine hK0 _ _ _ (.inl rfl) ?_
  exact fn_end1 (by exact (Fr.set (s := q1) (Fr.set (s := q1) (Fr.set (s := q1) hfr (.inl (by simp))) (.inl (by simp))) (.inl (by simp)))) hcl resv_nil (by simp [fin, AV.df, AV.sh, AV.sh1, b_df, b_sh, b_sh1, b_Cl]) (Wx.tup (W1L.nil)) (by exact ((h_eq (by first | assumption | omega | (simp only [h_sl, h_al] <;> omega) | fail)).trans rfl)) (by first | assumption | omega | (simp only [h_sl, h_al] <;> omega) | fail) (by simp [b_Cl]; try omega) (WxC.cons (Wx.int) (WxC.cons (Wx.own ..) (WxC.cons (Wx.int) (WxC.cons (Wx.bool) (WxC.nil))))) (r' := (.tup [])) ⟨rfl, rfl⟩

/-! ### (*mailbag/line.Splitter).put -/
def c_line_Splitter_put : ACode := (.seq (.rg [⟨(some 4), (.mv (.t 0)), none⟩, ⟨(some 5), (.nck (.t 4)), none⟩, ⟨(some 6), (.fld (.t 5) 2), none⟩, ⟨none, (.st (.t 6) (.c (.int .i64 1)) 1), none⟩]) (.seq (.seq (.rg [⟨(some 7), (.mv (.t 0)), none⟩, ⟨(some 8), (.nck (.t 7)), none⟩, ⟨(some 9), (.fld (.t 8) 1), none⟩, ⟨(some 10), (.ld (.t 9) none), none⟩, ⟨(some 11), (.len (.t 10)), none⟩, ⟨(some 12), (.mv (.t 0)), none⟩, ⟨(some 13), (.nck (.t 12)), none⟩, ⟨(some 14), (.fld (.t 13) 0), none⟩, ⟨(some 15), (.ld (.t 14) none), none⟩, ⟨(some 16), (.bin .sub (.t 15) (.c (.int .i64 2))), none⟩, ⟨(some 17), (.bin .eql (.t 11) (.t 16)), none⟩]) (.cond (.t 17) (.seq (.rg [⟨(some 18), (.mv (.t 0)), none⟩, ⟨(some 19), (.nck (.t 18)), none⟩, ⟨(some 20), (.fld (.t 19) 3), none⟩, ⟨none, (.st (.t 20) (.c (.bool true)) 1), none⟩]) .ret) .skip)) (.rg [⟨(some 21), (.mv (.t 0)), none⟩, ⟨(some 22), (.mv (.t 0)), none⟩, ⟨(some 23), (.nck (.t 22)), none⟩, ⟨(some 24), (.fld (.t 23) 1), none⟩, ⟨(some 25), (.ld (.t 24) none), none⟩, ⟨(some 26), (.mv (.t 1)), none⟩, ⟨(some 27), (.bsl 1 [(.t 26)]), none⟩, ⟨(some 28), (.app 1 1 (.t 25) (.t 27)), none⟩, ⟨(some 29), (.nck (.t 21)), none⟩, ⟨(some 30), (.fld (.t 29) 1), none⟩, ⟨none, (.st (.t 30) (.t 28) 1), none⟩])))
abbrev m_line_Splitter_put := c_line_Splitter_put
theorem k_line_Splitter_put : FnOk Try.prog 24 31 [] c_line_Splitter_put := ⟨Try.f24, _, rfl, by decide, rfl, by kernel_rfl, rfl, rfl⟩
abbrev L_line_Splitter_put : List Nat := [0, 1, 17]
def line_Splitter_put (s2 : SplitterV) (c3 : UInt8) : Option (SplitterV) :=
  (if (decide ((s2.b.length : Int) = (IntKind.wrap .i64 (s2.most - 2)))) then
    some (SplitterV.mk s2.most s2.b 1 true)
  else
    (capp 1 s2.b ([c3] : List UInt8)).bind fun x4 => some (SplitterV.mk s2.most x4 1 s2.long))
set_option maxHeartbeats 2000000 in
theorem line_Splitter_put_ok {s2 : SplitterV} {c3 : UInt8} {q1 : Nat} {H0 : AH} (hs_o1 : H0[q1]? = some [(.int .i64 s2.most), (.sl .own 1 (ml b8 s2.b)), (.int .i64 s2.state), (.bool s2.long)]) {r0 : SplitterV} (h : line_Splitter_put s2 c3 = some r0) :
    ACalls Try.prog 24 [(.ptr q1 0), (b8 c3)] H0 fun v H' => v = (.tup []) ∧ H' = (H0.set q1 [(.int .i64 r0.most), (.sl .own 1 (ml b8 r0.b)), (.int .i64 r0.state), (.bool r0.long)]) := by
  refine ACalls.goX k_line_Splitter_put (m := m_line_Splitter_put) rfl L_line_Splitter_put (by decide) (by simp) fun hcl K0 hK0 => ?_
  refine AX.of_U (m := m_line_Splitter_put) rfl (by decide) ?_
  have hl_o1 := h_lt hs_o1
  have hfr := Fr.refl H0 [q1]
  have hle := hfr.le
  rw [line_Splitter_put.eq_1] at h
  obtain ⟨H, hHH⟩ : ∃ H, H = H0 := ⟨_, rfl⟩
  have hfr : Fr H0 H0.length [q1] H := hHH ▸ hfr
  have hs_o1 : H[q1]? = some [(.int .i64 s2.most), (.sl .own 1 (ml b8 s2.b)), (.int .i64 s2.state), (.bool s2.long)] := hHH ▸ hs_o1
  have hle := hfr.le
  have hL_o1 : q1 < H.length := h_lt hs_o1
  suffices hU : U Try.prog L_line_Splitter_put 31 H0.length [.code m_line_Splitter_put] K0 .normal (argE 0 [(.ptr q1 0), (b8 c3)]) H by rwa [hHH] at hU
  simp (disch := first | assumption | omega | (simp only [h_sl, h_al] <;> omega) | fail) only [WW, WH, ↓reduceIte, Nat.reduceEqDiff, Nat.reduceLT, Nat.reduceLeDiff, Nat.reduceAdd, Nat.reduceSub, Nat.reduceMul, Nat.reduceBEq, reduceCtorEq, if_false, if_true, L_line_Splitter_put, m_line_Splitter_put, c_line_Splitter_put, hs_o1, encLineV]
  rcases ifb h with ⟨hy1, h⟩ | ⟨hy1, h⟩
  · refine UC_t hy1 ?_
    simp (disch := first | assumption | omega | (simp only [h_sl, h_al] <;> omega) | fail) only [WW, WH, ↓reduceIte, Nat.reduceEqDiff, Nat.reduceLT, Nat.reduceLeDiff, Nat.reduceAdd, Nat.reduceSub, Nat.reduceMul, Nat.reduceBEq, reduceCtorEq, if_false, if_true, L_line_Splitter_put, hs_o1, encLineV]
    have hq := Option.some.inj h; subst hq
    refine hK0 _ _ _ (.inr rfl) ?_
    exact fn_end1 (by exact (Fr.set (s := q1) (Fr.set (s := q1) hfr (.inl (by simp))) (.inl (by simp)))) hcl resv_nil (by simp [fin, AV.df, AV.sh, AV.sh1, b_df, b_sh, b_sh1, b_Cl]) (Wx.tup (W1L.nil)) (by exact ((h_eq (by first | assumption | omega | (simp only [h_sl, h_al] <;> omega) | fail)).trans rfl)) (by first | assumption | omega | (simp only [h_sl, h_al] <;> omega) | fail) (by simp [b_Cl]; try omega) (WxC.cons (Wx.int) (WxC.cons (Wx.oo) (WxC.cons (Wx.int) (WxC.cons (Wx.bool) (WxC.nil))))) (r' := (.tup [])) ⟨rfl, rfl⟩
  · refine UC_f hy1 ?_
    obtain ⟨x4, hy2, h⟩ := bnd' h
    have hy3 : capp 1 (ml b8 s2.b) [(b8 c3)] = some (ml b8 x4) := capp_m (f := b8) hy2
    simp (disch := first | assumption | omega | (simp only [h_sl, h_al] <;> omega) | fail) only [WW, WH, ↓reduceIte, Nat.reduceEqDiff, Nat.reduceLT, Nat.reduceLeDiff, Nat.reduceAdd, Nat.reduceSub, Nat.reduceMul, Nat.reduceBEq, reduceCtorEq, if_false, if_true, L_line_Splitter_put, hy3, hs_o1, encLineV]
    have hq := Option.some.inj h; subst hq
    refine hK0 _ _ _ (.inl rfl) ?_
    exact fn_end1 (by exact (Fr.set (s := q1) (Fr.set (s := q1) (Fr.set (s := q1) hfr (.inl (by simp))) (.inl (by simp))) (.inl (by simp)))) hcl resv_nil (by simp [fin, AV.df, AV.sh, AV.sh1, b_df, b_sh, b_sh1, b_Cl]) (Wx.tup (W1L.nil)) (by exact ((h_eq (by first | assumption | omega | (simp only [h_sl, h_al] <;> omega) | fail)).trans rfl)) (by first | assumption | omega | (simp only [h_sl, h_al] <;> omega) | fail) (by simp [b_Cl]; try omega) (WxC.cons (Wx.int) (WxC.cons (Wx.oo) (WxC.cons (Wx.int) (WxC.cons (Wx.bool) (WxC.nil))))) (r' := (.tup [])) ⟨rfl, rfl⟩

/-! ### (*mailbag/line.Splitter).Next -/
def c_line_Splitter_Next_p1 : ACode := (.cond (.t 21) (.seq (.seq (.rg [⟨(some 22), (.mv (.t 8)), none⟩, ⟨(some 23), (.bin .eql (.t 22) (.c (b8 10))), none⟩]) (.cond (.t 23) (.seq (.rg [⟨(some 24), (.mv (.t 0)), none⟩, ⟨(some 25), (.nck (.t 24)), none⟩, ⟨(some 26), (.fld (.t 25) 1), none⟩, ⟨(some 27), (.ld (.t 26) none), none⟩, ⟨(some 28), (.cvt .bs (.t 27)), none⟩, ⟨(some 29), (.mv (.t 0)), none⟩, ⟨(some 30), (.nck (.t 29)), none⟩, ⟨(some 31), (.fld (.t 30) 3), none⟩, ⟨(some 32), (.ld (.t 31) none), none⟩, ⟨(some 33), (.build [(.str []), (.bool false)] [(0, (1, (.t 28))), (1, (1, (.t 32)))]), none⟩, ⟨(some 9), (.alloc [(.str []), (.bool false)]), none⟩, ⟨none, (.st (.t 9) (.t 33) 2), none⟩]) (.seq (.rg [⟨(some 34), (.mv (.t 0)), none⟩, ⟨(some 35), (.call (.c (.fn 18 [])) [(.t 34)]), none⟩]) (.seq (.rg [⟨(some 36), (.ld (.t 9) (some 2)), none⟩, ⟨(some 38), (.mv (.t 1)), none⟩, ⟨(some 39), (.mv (.t 7)), none⟩, ⟨(some 40), (.bin .add (.t 39) (.c (.int .i64 1))), none⟩, ⟨(some 41), (.slc 1 (.t 38) (some (.t 40)) none none), none⟩, ⟨(some 37), (.bsl 1 []), none⟩, ⟨(some 42), (.app 1 1 (.t 37) (.t 41)), none⟩, ⟨none, (.st (.t 4) (.t 36) 2), none⟩, ⟨(some 5), (.asg (.c (.bool true))), none⟩, ⟨(some 6), (.asg (.t 42)), none⟩]) .ret))) .skip)) (.rg [⟨(some 43), (.mv (.t 0)), none⟩, ⟨(some 44), (.call (.c (.fn 24 [])) [(.t 43), (.c (b8 13))]), none⟩])) .skip)
abbrev m_line_Splitter_Next_p1 := c_line_Splitter_Next_p1
def c_line_Splitter_Next_l1b : ACode := (.seq (.rg [⟨(some 13), (.bin .lss (.t 12) (.t 11)), none⟩]) (.seq (.cond (.t 13) .skip (.exit 0)) (.seq (.blk 1 (.seq (.rg [⟨(some 14), (.mv (.t 12)), none⟩, ⟨(some 15), (.ixa 1 (.t 10) (.t 12)), none⟩, ⟨(some 16), (.ld (.t 15) none), none⟩, ⟨(some 7), (.asg (.t 14)), none⟩, ⟨(some 8), (.asg (.t 16)), none⟩]) (.seq (.seq (.rg [⟨(some 17), (.mv (.t 0)), none⟩, ⟨(some 18), (.nck (.t 17)), none⟩, ⟨(some 19), (.fld (.t 18) 2), none⟩, ⟨(some 20), (.ld (.t 19) none), none⟩, ⟨(some 21), (.bin .eql (.t 20) (.c (.int .i64 2))), none⟩]) c_line_Splitter_Next_p1) (.seq (.seq (.rg [⟨(some 45), (.mv (.t 8)), none⟩, ⟨(some 46), (.bin .eql (.t 45) (.c (b8 13))), none⟩]) (.cond (.t 46) (.seq (.rg [⟨(some 47), (.mv (.t 0)), none⟩, ⟨(some 48), (.nck (.t 47)), none⟩, ⟨(some 49), (.fld (.t 48) 2), none⟩, ⟨none, (.st (.t 49) (.c (.int .i64 2)) 1), none⟩]) (.exit 1)) .skip)) (.rg [⟨(some 50), (.mv (.t 0)), none⟩, ⟨(some 51), (.mv (.t 8)), none⟩, ⟨(some 52), (.call (.c (.fn 24 [])) [(.t 50), (.t 51)]), none⟩]))))) (.rg [⟨(some 53), (.bin .add (.t 12) (.c (.int .i64 1))), none⟩, ⟨(some 12), (.mv (.t 53)), none⟩]))))
def c_line_Splitter_Next_l1 : ACode := (.loop c_line_Splitter_Next_l1b)
def m_line_Splitter_Next_l1b : ACode := (.seq (.rg [⟨(some 13), (.bin .lss (.t 12) (.t 11)), none⟩]) (.seq (.cond (.t 13) .skip (.exit 0)) (.seq (.blk 1 (.seq (.rg [⟨(some 14), (.mv (.t 12)), none⟩, ⟨(some 15), (.ixa 1 (.t 10) (.t 12)), none⟩, ⟨(some 16), (.ld (.t 15) none), none⟩, ⟨(some 7), (.asg (.t 14)), none⟩, ⟨(some 8), (.asg (.t 16)), none⟩]) (.seq (.seq (.rg [⟨(some 17), (.mv (.t 0)), none⟩, ⟨(some 18), (.nck (.t 17)), none⟩, ⟨(some 19), (.fld (.t 18) 2), none⟩, ⟨(some 20), (.ld (.t 19) none), none⟩, ⟨(some 21), (.bin .eql (.t 20) (.c (.int .i64 2))), none⟩]) (.sem c_line_Splitter_Next_p1)) (.seq (.seq (.rg [⟨(some 45), (.mv (.t 8)), none⟩, ⟨(some 46), (.bin .eql (.t 45) (.c (b8 13))), none⟩]) (.cond (.t 46) (.seq (.rg [⟨(some 47), (.mv (.t 0)), none⟩, ⟨(some 48), (.nck (.t 47)), none⟩, ⟨(some 49), (.fld (.t 48) 2), none⟩, ⟨none, (.st (.t 49) (.c (.int .i64 2)) 1), none⟩]) (.exit 1)) .skip)) (.rg [⟨(some 50), (.mv (.t 0)), none⟩, ⟨(some 51), (.mv (.t 8)), none⟩, ⟨(some 52), (.call (.c (.fn 24 [])) [(.t 50), (.t 51)]), none⟩]))))) (.rg [⟨(some 53), (.bin .add (.t 12) (.c (.int .i64 1))), none⟩, ⟨(some 12), (.mv (.t 53)), none⟩]))))
def c_line_Splitter_Next : ACode := (.seq (.rg [⟨(some 4), (.alloc [(.str []), (.bool false)]), none⟩, ⟨(some 5), (.asg (.c (.bool false))), none⟩, ⟨(some 6), (.asg (.c (.sl .ex 1 []))), none⟩]) (.seq .skip (.seq (.seq (.rg [⟨(some 10), (.mv (.t 1)), none⟩, ⟨(some 11), (.len (.t 10)), none⟩, ⟨(some 12), (.mv (.c (.int .i64 0))), none⟩]) (.blk 0 c_line_Splitter_Next_l1)) (.seq (.rg [⟨(some 54), (.build [(.str []), (.bool false)] []), none⟩, ⟨none, (.st (.t 4) (.t 54) 2), none⟩, ⟨(some 5), (.asg (.c (.bool false))), none⟩, ⟨(some 6), (.asg (.c (.sl .ex 1 []))), none⟩]) .ret))))
abbrev m_line_Splitter_Next := c_line_Splitter_Next
theorem k_line_Splitter_Next : FnOk Try.prog 22 55 [(.cell 4 34), (.tmp 5), (.tmp 6)] c_line_Splitter_Next := ⟨Try.f22, _, rfl, by decide, rfl, by kernel_rfl, rfl, rfl⟩
abbrev L_line_Splitter_Next : List Nat := [0, 1, 4, 5, 6, 7, 8, 9, 10, 11, 12, 13, 21, 23, 46]
def line_Splitter_Next_p1 (s6 : SplitterV) (x8 : UInt8) (b3 : List UInt8) (t5 : Int) (s7 : LineV) : Option (St (LineV × Bool × (List UInt8) × SplitterV) Unit (SplitterV × LineV)) :=
  (if (decide (s6.state = 2)) then
    (if (decide (x8 = 10)) then
      (line_Splitter_Reset s6).bind fun r10 =>
      (sub b3 (IntKind.wrap .i64 (t5 + 1)) (b3.length : Int)).bind fun x11 =>
      (capp 1 ([] : List UInt8) x11).bind fun x12 => some (.ret ((LineV.mk s6.b s6.long), true, x12, r10))
    else
      (line_Splitter_put s6 13).bind fun r13 => some (.nxt (r13, s7)))
  else
    some (.nxt (s6, s7)))
def line_Splitter_Next_l1 (b3 : List UInt8) : (Int × SplitterV × LineV) → Option (St (LineV × Bool × (List UInt8) × SplitterV) (SplitterV × LineV) (Int × SplitterV × LineV))
  | (t5, s6, s7) =>
    (if (decide (t5 < (b3.length : Int))) then
      (idx b3 t5).bind fun x8 =>
      ((line_Splitter_Next_p1 s6 x8 b3 t5 s7).bind fun o27 =>
      match o27 with
      | .nxt (s20, s21) =>
        (if (decide (x8 = 13)) then
          some (.nxt ((IntKind.wrap .i64 (t5 + 1)), (SplitterV.mk s20.most s20.b 2 s20.long), s21))
        else
          (line_Splitter_put s20 x8).bind fun r22 => some (.nxt ((IntKind.wrap .i64 (t5 + 1)), r22, s21)))
      | .ret (r23, r24, r25, s26) =>
        some (.ret (r23, r24, r25, s26))
      | .brk _ => none)
    else
      some (.brk (s6, s7)))
def line_Splitter_Next (F : Nat) (s2 : SplitterV) (b3 : List UInt8) : Option (LineV × Bool × (List UInt8) × SplitterV) :=
  ((iter (line_Splitter_Next_l1 b3) F (0, s2, (LineV.mk ([] : List UInt8) false))).bind fun o40 =>
  match o40 with
  | .inr (s34, s35) =>
    some ((LineV.mk ([] : List UInt8) false), false, ([] : List UInt8), s34)
  | .inl (r36, r37, r38, s39) =>
    some (r36, r37, r38, s39))
set_option maxHeartbeats 2000000 in
theorem line_Splitter_Next_p1_ok {s6 : SplitterV} {x8 : UInt8} {b3 : List UInt8} {t5 : Int} {s7 : LineV} {q1 : Nat} {q9 : Nat} {H0 H : AH} (hfr : Fr H0 H0.length [q1] H) (hs_o1 : H[q1]? = some [(.int .i64 s6.most), (.sl .own 1 (ml b8 s6.b)), (.int .i64 s6.state), (.bool s6.long)]) (hs_o2 : H[q9]? = some [(.str s7.text), (.bool s7.long)]) (hi0 : q1 < H0.length) (hi1 : H0.length ≤ q9) {K : Exit → Env → AH → Prop} {o : St (LineV × Bool × (List UInt8) × SplitterV) Unit (SplitterV × LineV)}
    (h : line_Splitter_Next_p1 s6 x8 b3 t5 s7 = some o)
    (kn : ∀ o' : SplitterV × LineV, o = .nxt o' → ∀ H' : AH, Fr H0 H0.length [q1] H' → H'[q1]? = some [(.int .i64 o'.1.most), (.sl .own 1 (ml b8 o'.1.b)), (.int .i64 o'.1.state), (.bool o'.1.long)] → H'[q9]? = some [(.str o'.2.text), (.bool o'.2.long)] → K .normal [(0, (.ptr q1 0)), (1, (.sl .n 1 (ml b8 b3))), (4, (.ptr q9 0)), (8, (b8 x8)), (10, (.sl .n 1 (ml b8 b3))), (11, (.int .i64 (b3.length : Int))), (12, (.int .i64 t5))] H')
    (kr : ∀ o' : LineV × Bool × (List UInt8) × SplitterV, o = .ret o' → ∀ H' : AH, Fr H0 H0.length [q1] H' → H'[q1]? = some [(.int .i64 o'.2.2.2.most), (.sl .own 1 (ml b8 o'.2.2.2.b)), (.int .i64 o'.2.2.2.state), (.bool o'.2.2.2.long)] → H'[q9]? = some [(.str o'.1.text), (.bool o'.1.long)] → K .ret [(4, (.ptr q9 0)), (5, (.bool o'.2.1)), (6, (.sl .n 1 (ml b8 o'.2.2.1)))] H') :
    AX Try.prog L_line_Splitter_Next 55 H0.length c_line_Splitter_Next_p1 K [(0, (.ptr q1 0)), (1, (.sl .n 1 (ml b8 b3))), (4, (.ptr q9 0)), (7, (.int .i64 t5)), (8, (b8 x8)), (10, (.sl .n 1 (ml b8 b3))), (11, (.int .i64 (b3.length : Int))), (12, (.int .i64 t5)), (21, (.bool (decide (s6.state = 2))))] H := by
  refine AX.go (m := m_line_Splitter_Next_p1) rfl (by decide) fun K' hK => ?_
  have hle := hfr.le
  have hl_o1 := h_lt hs_o1
  have hl_o2 := h_lt hs_o2
  rw [line_Splitter_Next_p1.eq_1] at h
  simp (disch := first | assumption | omega | (simp only [h_sl, h_al] <;> omega) | fail) only [WW, WH, ↓reduceIte, Nat.reduceEqDiff, Nat.reduceLT, Nat.reduceLeDiff, Nat.reduceAdd, Nat.reduceSub, Nat.reduceMul, Nat.reduceBEq, reduceCtorEq, if_false, if_true, L_line_Splitter_Next, m_line_Splitter_Next_p1, c_line_Splitter_Next_p1, hs_o1, hs_o2, encLineV]
  rcases ifb h with ⟨hy3, h⟩ | ⟨hy3, h⟩
  · refine UC_t hy3 ?_
    simp (disch := first | assumption | omega | (simp only [h_sl, h_al] <;> omega) | fail) only [WW, WH, ↓reduceIte, Nat.reduceEqDiff, Nat.reduceLT, Nat.reduceLeDiff, Nat.reduceAdd, Nat.reduceSub, Nat.reduceMul, Nat.reduceBEq, reduceCtorEq, if_false, if_true, L_line_Splitter_Next, hs_o1, hs_o2, encLineV]
    rcases ifb h with ⟨hy4, h⟩ | ⟨hy4, h⟩
    · refine UC_t hy4 ?_
      simp (disch := first | assumption | omega | (simp only [h_sl, h_al] <;> omega) | fail) only [WW, WH, ↓reduceIte, Nat.reduceEqDiff, Nat.reduceLT, Nat.reduceLeDiff, Nat.reduceAdd, Nat.reduceSub, Nat.reduceMul, Nat.reduceBEq, reduceCtorEq, if_false, if_true, L_line_Splitter_Next, hs_o1, hs_o2, encLineV]
      obtain ⟨r10, hy5, h⟩ := bnd' h
      refine UK_e (as' := [(.ptr q1 0)]) (h := line_Splitter_Reset_ok (s2 := s6) (q1 := q1) (by exact (((h_ne (by first | assumption | omega | (simp only [h_sl, h_al] <;> omega) | fail)).trans ((h_app (by first | assumption | omega | (simp only [h_sl, h_al] <;> omega) | fail)).trans (hs_o1))).trans rfl)) hy5) (hw := WL.cons (Wx.ptr) (WL.nil)) (hh := WxH.refl _) ?_
      obtain ⟨x11, hy6, h⟩ := bnd' h
      have hy7 := sub_m (f := b8) hy6
      obtain ⟨x12, hy8, h⟩ := bnd' h
      have hy9 : capp 1 [] (ml b8 x11) = some (ml b8 x12) := capp_m (f := b8) hy8
      simp (disch := first | assumption | omega | (simp only [h_sl, h_al] <;> omega) | fail) only [WW, WH, ↓reduceIte, Nat.reduceEqDiff, Nat.reduceLT, Nat.reduceLeDiff, Nat.reduceAdd, Nat.reduceSub, Nat.reduceMul, Nat.reduceBEq, reduceCtorEq, if_false, if_true, L_line_Splitter_Next, hy6, hy9, hs_o1, hs_o2, encLineV]
      have hq := Option.some.inj h; subst hq
      refine hK _ _ _ _ _ ?_ (WxH.refl _) (kr _ rfl _ (Fr.set (s := q9) (Fr.set (s := q1) (Fr.set (s := H.length) (Fr.app hfr) (.inr (by first | assumption | omega | (simp only [h_sl, h_al] <;> omega) | fail))) (.inl (by simp))) (.inr (by first | assumption | omega | (simp only [h_sl, h_al] <;> omega) | fail))) (((h_ne (by first | assumption | omega | (simp only [h_sl, h_al] <;> omega) | fail)).trans (h_eq (by first | assumption | omega | (simp only [h_sl, h_al] <;> omega) | fail))).trans rfl) ((h_eq (by first | assumption | omega | (simp only [h_sl, h_al] <;> omega) | fail)).trans rfl))
      exact WE.cons (Wx.ptr) (WE.cons (Wx.bool) (WE.cons (Wx.n) (WE.nil)))
    · refine UC_f hy4 ?_
      simp (disch := first | assumption | omega | (simp only [h_sl, h_al] <;> omega) | fail) only [WW, WH, ↓reduceIte, Nat.reduceEqDiff, Nat.reduceLT, Nat.reduceLeDiff, Nat.reduceAdd, Nat.reduceSub, Nat.reduceMul, Nat.reduceBEq, reduceCtorEq, if_false, if_true, L_line_Splitter_Next, hs_o1, hs_o2, encLineV]
      obtain ⟨r13, hy10, h⟩ := bnd' h
      refine UK_e (as' := [(.ptr q1 0), (b8 13)]) (h := line_Splitter_put_ok (s2 := s6) (c3 := 13) (q1 := q1) (by exact ((hs_o1).trans rfl)) hy10) (hw := WL.cons (Wx.ptr) (WL.cons (Wx.b8) (WL.nil))) (hh := WxH.refl _) ?_
      simp (disch := first | assumption | omega | (simp only [h_sl, h_al] <;> omega) | fail) only [WW, WH, ↓reduceIte, Nat.reduceEqDiff, Nat.reduceLT, Nat.reduceLeDiff, Nat.reduceAdd, Nat.reduceSub, Nat.reduceMul, Nat.reduceBEq, reduceCtorEq, if_false, if_true, L_line_Splitter_Next, hs_o1, hs_o2, encLineV]
      have hq := Option.some.inj h; subst hq
      refine hK _ _ _ _ _ ?_ (WxH.refl _) (kn _ rfl _ (Fr.set (s := q1) hfr (.inl (by simp))) ((h_eq (by first | assumption | omega | (simp only [h_sl, h_al] <;> omega) | fail)).trans rfl) (((h_ne (by first | assumption | omega | (simp only [h_sl, h_al] <;> omega) | fail)).trans (hs_o2)).trans rfl))
      exact WE.cons (Wx.ptr) (WE.cons (Wx.nn) (WE.cons (Wx.ptr) (WE.cons (Wx.b8) (WE.cons (Wx.nn) (WE.cons (Wx.int) (WE.cons (Wx.int) (WE.nil)))))))
  · refine UC_f hy3 ?_
    simp (disch := first | assumption | omega | (simp only [h_sl, h_al] <;> omega) | fail) only [WW, WH, ↓reduceIte, Nat.reduceEqDiff, Nat.reduceLT, Nat.reduceLeDiff, Nat.reduceAdd, Nat.reduceSub, Nat.reduceMul, Nat.reduceBEq, reduceCtorEq, if_false, if_true, L_line_Splitter_Next, hs_o1, hs_o2, encLineV]
    have hq := Option.some.inj h; subst hq
    refine hK _ _ _ _ _ ?_ (WxH.refl _) (kn _ rfl _ hfr ((hs_o1).trans rfl) ((hs_o2).trans rfl))
    exact WE.cons (Wx.ptr) (WE.cons (Wx.nn) (WE.cons (Wx.ptr) (WE.cons (Wx.b8) (WE.cons (Wx.nn) (WE.cons (Wx.int) (WE.cons (Wx.int) (WE.nil)))))))
set_option maxHeartbeats 2000000 in
theorem line_Splitter_Next_l1_ok {F : Nat} {t5 : Int} {b3 : List UInt8} {s6 : SplitterV} {s7 : LineV} {q1 : Nat} {q4 : Nat} {H0 H : AH} (hfr : Fr H0 H0.length [q1] H) (hs_o1 : H[q1]? = some [(.int .i64 s6.most), (.sl .own 1 (ml b8 s6.b)), (.int .i64 s6.state), (.bool s6.long)]) (hs_o2 : H[q4]? = some [(.str s7.text), (.bool s7.long)]) (hi0 : q1 < H0.length) (hi1 : H0.length ≤ q4) {K : Exit → Env → AH → Prop} {o : (LineV × Bool × (List UInt8) × SplitterV) ⊕ (SplitterV × LineV)}
    (h : iter (line_Splitter_Next_l1 b3) F (t5, s6, s7) = some o)
    (kb0 : ∀ o' : SplitterV × LineV, o = .inr o' → ∀ H' : AH, Fr H0 H0.length [q1] H' → H'[q1]? = some [(.int .i64 o'.1.most), (.sl .own 1 (ml b8 o'.1.b)), (.int .i64 o'.1.state), (.bool o'.1.long)] → H'[q4]? = some [(.str o'.2.text), (.bool o'.2.long)] → K (.exit 0) [(4, (.ptr q4 0))] H')
    (kr : ∀ o' : LineV × Bool × (List UInt8) × SplitterV, o = .inl o' → ∀ H' : AH, Fr H0 H0.length [q1] H' → H'[q1]? = some [(.int .i64 o'.2.2.2.most), (.sl .own 1 (ml b8 o'.2.2.2.b)), (.int .i64 o'.2.2.2.state), (.bool o'.2.2.2.long)] → H'[q4]? = some [(.str o'.1.text), (.bool o'.1.long)] → K .ret [(4, (.ptr q4 0)), (5, (.bool o'.2.1)), (6, (.sl .n 1 (ml b8 o'.2.2.1)))] H') :
    AX Try.prog L_line_Splitter_Next 55 H0.length c_line_Splitter_Next_l1 K [(0, (.ptr q1 0)), (1, (.sl .n 1 (ml b8 b3))), (4, (.ptr q4 0)), (10, (.sl .n 1 (ml b8 b3))), (11, (.int .i64 (b3.length : Int))), (12, (.int .i64 t5))] H := by
  refine AX.iter (m := m_line_Splitter_Next_l1b) rfl (by decide) (fun s e H1 => match s with | (t5, s6, s7) => e = [(0, (.ptr q1 0)), (1, (.sl .n 1 (ml b8 b3))), (4, (.ptr q4 0)), (10, (.sl .n 1 (ml b8 b3))), (11, (.int .i64 (b3.length : Int))), (12, (.int .i64 t5))] ∧ Fr H0 H0.length [q1] H1 ∧ H1[q1]? = some [(.int .i64 s6.most), (.sl .own 1 (ml b8 s6.b)), (.int .i64 s6.state), (.bool s6.long)] ∧ H1[q4]? = some [(.str s7.text), (.bool s7.long)]) h ⟨rfl, hfr, hs_o1, hs_o2⟩ ?_
  skip
  rintro K' ⟨t5, s6, s7⟩ st e H ⟨rfl, hfr, hs_o1, hs_o2⟩ h hN hB hR hX
  have hle := hfr.le
  have hl_o1 := h_lt hs_o1
  have hl_o2 := h_lt hs_o2
  rw [line_Splitter_Next_l1.eq_1] at h
  simp (disch := first | assumption | omega | (simp only [h_sl, h_al] <;> omega) | fail) only [WW, WH, ↓reduceIte, Nat.reduceEqDiff, Nat.reduceLT, Nat.reduceLeDiff, Nat.reduceAdd, Nat.reduceSub, Nat.reduceMul, Nat.reduceBEq, reduceCtorEq, if_false, if_true, L_line_Splitter_Next, m_line_Splitter_Next_l1b, hs_o1, hs_o2, encLineV]
  rcases ifb h with ⟨hy1, h⟩ | ⟨hy1, h⟩
  · refine UC_t hy1 ?_
    obtain ⟨x8, hy2, h⟩ := bnd' h
    simp (disch := first | assumption | omega | (simp only [h_sl, h_al] <;> omega) | fail) only [WW, WH, ↓reduceIte, Nat.reduceEqDiff, Nat.reduceLT, Nat.reduceLeDiff, Nat.reduceAdd, Nat.reduceSub, Nat.reduceMul, Nat.reduceBEq, reduceCtorEq, if_false, if_true, L_line_Splitter_Next, hy2, hs_o1, hs_o2, encLineV]
    obtain ⟨o27, hy11, h⟩ := bnd' h
    refine UX_of (AX.weak ?_ (WxH.refl _) (line_Splitter_Next_p1_ok  (s6 := s6) (x8 := x8) (b3 := b3) (t5 := t5) (s7 := s7) (q1 := q1) (q9 := q4) (hfr) ((hs_o1).trans rfl) ((hs_o2).trans rfl) (by first | assumption | omega | (simp only [h_sl, h_al] <;> omega) | fail) (by first | assumption | omega | (simp only [h_sl, h_al] <;> omega) | fail) (o := o27) hy11 ?_ ?_))
    · exact WE.cons (Wx.ptr) (WE.cons (Wx.nn) (WE.cons (Wx.ptr) (WE.cons (Wx.int) (WE.cons (Wx.b8) (WE.cons (Wx.nn) (WE.cons (Wx.int) (WE.cons (Wx.int) (WE.cons (Wx.bool) (WE.nil)))))))))
    · rintro ⟨s20, s21⟩ rfl H hfr hs_o1 hs_o2
      try dsimp only at h hs_o1 hs_o2
      have hle := hfr.le
      have hl_o1 := h_lt hs_o1
      have hl_o2 := h_lt hs_o2
      simp (disch := first | assumption | omega | (simp only [h_sl, h_al] <;> omega) | fail) only [WW, WH, ↓reduceIte, Nat.reduceEqDiff, Nat.reduceLT, Nat.reduceLeDiff, Nat.reduceAdd, Nat.reduceSub, Nat.reduceMul, Nat.reduceBEq, reduceCtorEq, if_false, if_true, L_line_Splitter_Next, hs_o1, hs_o2, encLineV]
      rcases ifb h with ⟨hy12, h⟩ | ⟨hy12, h⟩
      · refine UC_t hy12 ?_
        simp (disch := first | assumption | omega | (simp only [h_sl, h_al] <;> omega) | fail) only [WW, WH, ↓reduceIte, Nat.reduceEqDiff, Nat.reduceLT, Nat.reduceLeDiff, Nat.reduceAdd, Nat.reduceSub, Nat.reduceMul, Nat.reduceBEq, reduceCtorEq, if_false, if_true, L_line_Splitter_Next, hs_o1, hs_o2, encLineV]
        have hq := Option.some.inj h; subst hq
        refine hN _ rfl _ _ _ _ ?_ (WxH.refl _) ⟨rfl, (Fr.set (s := q1) hfr (.inl (by simp))), ((h_eq (by first | assumption | omega | (simp only [h_sl, h_al] <;> omega) | fail)).trans rfl), (((h_ne (by first | assumption | omega | (simp only [h_sl, h_al] <;> omega) | fail)).trans (hs_o2)).trans rfl)⟩
        exact WE.cons (Wx.ptr) (WE.cons (Wx.nn) (WE.cons (Wx.ptr) (WE.cons (Wx.nn) (WE.cons (Wx.int) (WE.cons (Wx.int) (WE.nil))))))
      · refine UC_f hy12 ?_
        simp (disch := first | assumption | omega | (simp only [h_sl, h_al] <;> omega) | fail) only [WW, WH, ↓reduceIte, Nat.reduceEqDiff, Nat.reduceLT, Nat.reduceLeDiff, Nat.reduceAdd, Nat.reduceSub, Nat.reduceMul, Nat.reduceBEq, reduceCtorEq, if_false, if_true, L_line_Splitter_Next, hs_o1, hs_o2, encLineV]
        obtain ⟨r22, hy13, h⟩ := bnd' h
        refine UK_e (as' := [(.ptr q1 0), (b8 x8)]) (h := line_Splitter_put_ok (s2 := s20) (c3 := x8) (q1 := q1) (by exact ((hs_o1).trans rfl)) hy13) (hw := WL.cons (Wx.ptr) (WL.cons (Wx.b8) (WL.nil))) (hh := WxH.refl _) ?_
        simp (disch := first | assumption | omega | (simp only [h_sl, h_al] <;> omega) | fail) only [WW, WH, ↓reduceIte, Nat.reduceEqDiff, Nat.reduceLT, Nat.reduceLeDiff, Nat.reduceAdd, Nat.reduceSub, Nat.reduceMul, Nat.reduceBEq, reduceCtorEq, if_false, if_true, L_line_Splitter_Next, hs_o1, hs_o2, encLineV]
        have hq := Option.some.inj h; subst hq
        refine hN _ rfl _ _ _ _ ?_ (WxH.refl _) ⟨rfl, (Fr.set (s := q1) hfr (.inl (by simp))), ((h_eq (by first | assumption | omega | (simp only [h_sl, h_al] <;> omega) | fail)).trans rfl), (((h_ne (by first | assumption | omega | (simp only [h_sl, h_al] <;> omega) | fail)).trans (hs_o2)).trans rfl)⟩
        exact WE.cons (Wx.ptr) (WE.cons (Wx.nn) (WE.cons (Wx.ptr) (WE.cons (Wx.nn) (WE.cons (Wx.int) (WE.cons (Wx.int) (WE.nil))))))
    · rintro ⟨r23, r24, r25, s26⟩ rfl H hfr hs_o1 hs_o2
      try dsimp only at h hs_o1 hs_o2
      have hle := hfr.le
      have hl_o1 := h_lt hs_o1
      have hl_o2 := h_lt hs_o2
      simp (disch := first | assumption | omega | (simp only [h_sl, h_al] <;> omega) | fail) only [WW, WH, ↓reduceIte, Nat.reduceEqDiff, Nat.reduceLT, Nat.reduceLeDiff, Nat.reduceAdd, Nat.reduceSub, Nat.reduceMul, Nat.reduceBEq, reduceCtorEq, if_false, if_true, L_line_Splitter_Next, hs_o1, hs_o2, encLineV]
      have hq := Option.some.inj h; subst hq
      refine hX _ _ _ _ _ (by simp) ?_ (WxH.refl _) (kr _ (hR _ rfl) _ hfr ((hs_o1).trans rfl) ((hs_o2).trans rfl))
      exact WE.cons (Wx.ptr) (WE.cons (Wx.bool) (WE.cons (Wx.nn) (WE.nil)))
  · refine UC_f hy1 ?_
    simp (disch := first | assumption | omega | (simp only [h_sl, h_al] <;> omega) | fail) only [WW, WH, ↓reduceIte, Nat.reduceEqDiff, Nat.reduceLT, Nat.reduceLeDiff, Nat.reduceAdd, Nat.reduceSub, Nat.reduceMul, Nat.reduceBEq, reduceCtorEq, if_false, if_true, L_line_Splitter_Next, hs_o1, hs_o2, encLineV]
    have hq := Option.some.inj h; subst hq
    refine hX _ _ _ _ _ (by simp) ?_ (WxH.refl _) (kb0 _ (hB _ rfl) _ hfr ((hs_o1).trans rfl) ((hs_o2).trans rfl))
    exact WE.cons (Wx.ptr) (WE.nil)
set_option maxHeartbeats 2000000 in
theorem line_Splitter_Next_ok {F : Nat} {s2 : SplitterV} {b3 : List UInt8} {q1 : Nat} {H0 : AH} (hs_o1 : H0[q1]? = some [(.int .i64 s2.most), (.sl .own 1 (ml b8 s2.b)), (.int .i64 s2.state), (.bool s2.long)]) {r0 : LineV} {r1 : Bool} {r2 : List UInt8} {r3 : SplitterV} (h : line_Splitter_Next F s2 b3 = some (r0, r1, r2, r3)) :
    ACalls Try.prog 22 [(.ptr q1 0), (.sl .n 1 (ml b8 b3))] H0 fun v H' => v = (.tup [(.agg [(.str r0.text), (.bool r0.long)]), (.bool r1), (.sl .n 1 (ml b8 r2))]) ∧ H' = (H0.set q1 [(.int .i64 r3.most), (.sl .own 1 (ml b8 r3.b)), (.int .i64 r3.state), (.bool r3.long)]) := by
  refine ACalls.goX k_line_Splitter_Next (m := m_line_Splitter_Next) rfl L_line_Splitter_Next (by decide) (by simp) fun hcl K0 hK0 => ?_
  refine AX.of_U (m := m_line_Splitter_Next) rfl (by decide) ?_
  have hl_o1 := h_lt hs_o1
  have hfr := Fr.refl H0 [q1]
  have hle := hfr.le
  rw [line_Splitter_Next.eq_1] at h
  obtain ⟨H, hHH⟩ : ∃ H, H = H0 := ⟨_, rfl⟩
  have hfr : Fr H0 H0.length [q1] H := hHH ▸ hfr
  have hs_o1 : H[q1]? = some [(.int .i64 s2.most), (.sl .own 1 (ml b8 s2.b)), (.int .i64 s2.state), (.bool s2.long)] := hHH ▸ hs_o1
  have hle := hfr.le
  have hL_o1 : q1 < H.length := h_lt hs_o1
  suffices hU : U Try.prog L_line_Splitter_Next 55 H0.length [.code m_line_Splitter_Next] K0 .normal (argE 0 [(.ptr q1 0), (.sl .n 1 (ml b8 b3))]) H by rwa [hHH] at hU
  simp (disch := first | assumption | omega | (simp only [h_sl, h_al] <;> omega) | fail) only [WW, WH, ↓reduceIte, Nat.reduceEqDiff, Nat.reduceLT, Nat.reduceLeDiff, Nat.reduceAdd, Nat.reduceSub, Nat.reduceMul, Nat.reduceBEq, reduceCtorEq, if_false, if_true, L_line_Splitter_Next, m_line_Splitter_Next, c_line_Splitter_Next, hs_o1, encLineV]
  obtain ⟨q4, hg_q4⟩ : ∃ q : Nat, H.length = q := ⟨_, rfl⟩
  try rw [hg_q4]
  obtain ⟨o40, hy14, h⟩ := bnd' h
  refine UX_of (AX.weak ?_ (WxH.refl _) (line_Splitter_Next_l1_ok  (b3 := b3) (q1 := q1) (t5 := 0) (s6 := s2) (s7 := (LineV.mk ([] : List UInt8) false)) (q4 := q4) ((Fr.app hfr)) (((h_app (by first | assumption | omega | (simp only [h_sl, h_al] <;> omega) | fail)).trans (hs_o1)).trans rfl) ((h_new' (by first | assumption | omega | (simp only [h_sl, h_al] <;> omega) | fail)).trans rfl) (by first | assumption | omega | (simp only [h_sl, h_al] <;> omega) | fail) (by first | assumption | omega | (simp only [h_sl, h_al] <;> omega) | fail) (o := o40) hy14 ?_ ?_))
  · exact WE.cons (Wx.ptr) (WE.cons (Wx.nn) (WE.cons (Wx.ptr) (WE.cons (Wx.nn) (WE.cons (Wx.int) (WE.cons (Wx.int) (WE.nil))))))
  · rintro ⟨s34, s35⟩ rfl H hfr hs_o1 hs_o2
    try dsimp only at h hs_o1 hs_o2
    have hle := hfr.le
    have hl_o1 := h_lt hs_o1
    have hl_o2 := h_lt hs_o2
    simp (disch := first | assumption | omega | (simp only [h_sl, h_al] <;> omega) | fail) only [WW, WH, ↓reduceIte, Nat.reduceEqDiff, Nat.reduceLT, Nat.reduceLeDiff, Nat.reduceAdd, Nat.reduceSub, Nat.reduceMul, Nat.reduceBEq, reduceCtorEq, if_false, if_true, L_line_Splitter_Next, hs_o1, hs_o2, encLineV]
    have hq := Option.some.inj h; have hq0 := (Prod.mk.inj hq).1; replace hq := (Prod.mk.inj hq).2; have hq1 := (Prod.mk.inj hq).1; replace hq := (Prod.mk.inj hq).2; have hq2 := (Prod.mk.inj hq).1; replace hq := (Prod.mk.inj hq).2; subst hq0; subst hq1; subst hq2; subst hq
    refine hK0 _ _ _ (.inr rfl) ?_
    exact fn_end1 (by exact (Fr.set (s := q4) hfr (.inr (by first | assumption | omega | (simp only [h_sl, h_al] <;> omega) | fail)))) hcl (resv_cell (cs := [(.str ([] : List UInt8)), (.bool false)]) (v := (.agg [(.str ([] : List UInt8)), (.bool false)])) (by kernel_rfl) (n := (some 2)) (by kernel_rfl) rfl (by exact ((h_eq (by first | assumption | omega | (simp only [h_sl, h_al] <;> omega) | fail)).trans rfl)) (by simp [loadc_n, loadc_1, ld1, allFlat, AV.flat, b_flat, b_sh1, AV.sh1]) (resv_tmp (a := (.bool false)) rfl rfl (resv_tmp (a := (.sl .ex 1 [])) rfl rfl resv_nil))) (by simp [fin, AV.df, AV.sh, AV.sh1, b_df, b_sh, b_sh1, b_Cl]) (Wx.tup (W1L.same (W1L.same (W1L.n (W1L.nil))))) (by exact (((h_ne (by first | assumption | omega | (simp only [h_sl, h_al] <;> omega) | fail)).trans (hs_o1)).trans rfl)) (by first | assumption | omega | (simp only [h_sl, h_al] <;> omega) | fail) (by simp [b_Cl]; try omega) (WxC.cons (Wx.int) (WxC.cons (Wx.oo) (WxC.cons (Wx.int) (WxC.cons (Wx.bool) (WxC.nil))))) (r' := (.tup [(.agg [(.str ((LineV.mk ([] : List UInt8) false).text)), (.bool ((LineV.mk ([] : List UInt8) false).long))]), (.bool false), (.sl .n 1 (ml b8 ([] : List UInt8)))])) ⟨rfl, rfl⟩
  · rintro ⟨r36, r37, r38, s39⟩ rfl H hfr hs_o1 hs_o2
    try dsimp only at h hs_o1 hs_o2
    have hle := hfr.le
    have hl_o1 := h_lt hs_o1
    have hl_o2 := h_lt hs_o2
    simp (disch := first | assumption | omega | (simp only [h_sl, h_al] <;> omega) | fail) only [WW, WH, ↓reduceIte, Nat.reduceEqDiff, Nat.reduceLT, Nat.reduceLeDiff, Nat.reduceAdd, Nat.reduceSub, Nat.reduceMul, Nat.reduceBEq, reduceCtorEq, if_false, if_true, L_line_Splitter_Next, hs_o1, hs_o2, encLineV]
    have hq := Option.some.inj h; have hq0 := (Prod.mk.inj hq).1; replace hq := (Prod.mk.inj hq).2; have hq1 := (Prod.mk.inj hq).1; replace hq := (Prod.mk.inj hq).2; have hq2 := (Prod.mk.inj hq).1; replace hq := (Prod.mk.inj hq).2; subst hq0; subst hq1; subst hq2; subst hq
    refine hK0 _ _ _ (.inr rfl) ?_
    exact fn_end1 (by exact hfr) hcl (resv_cell (cs := [(.str r36.text), (.bool r36.long)]) (v := (.agg [(.str r36.text), (.bool r36.long)])) (by kernel_rfl) (n := (some 2)) (by kernel_rfl) rfl (by exact ((hs_o2).trans rfl)) (by simp [loadc_n, loadc_1, ld1, allFlat, AV.flat, b_flat, b_sh1, AV.sh1]) (resv_tmp (a := (.bool r37)) rfl rfl (resv_tmp (a := (.sl .n 1 (ml b8 r38))) rfl rfl resv_nil))) (by simp [fin, AV.df, AV.sh, AV.sh1, b_df, b_sh, b_sh1, b_Cl]) (Wx.tup (W1L.same (W1L.same (W1L.same (W1L.nil))))) (by exact ((hs_o1).trans rfl)) (by first | assumption | omega | (simp only [h_sl, h_al] <;> omega) | fail) (by simp [b_Cl]; try omega) (WxC.cons (Wx.int) (WxC.cons (Wx.oo) (WxC.cons (Wx.int) (WxC.cons (Wx.bool) (WxC.nil))))) (r' := (.tup [(.agg [(.str r36.text), (.bool r36.long)]), (.bool r37), (.sl .n 1 (ml b8 r38))])) ⟨rfl, rfl⟩

/-! ### (*mailbag/line.Splitter).Feed -/
def c_line_Splitter_Feed_l1b : ACode := (.blk 1 (.seq (.rg [⟨(some 10), (.mv (.t 0)), none⟩, ⟨(some 11), (.mv (.t 1)), none⟩, ⟨(some 12), (.call (.c (.fn 22 [])) [(.t 10), (.t 11)]), none⟩, ⟨(some 9), (.mv (.t 12)), none⟩, ⟨(some 13), (.ext (.t 9) 0), none⟩, ⟨(some 14), (.ext (.t 9) 1), none⟩, ⟨(some 15), (.ext (.t 9) 2), none⟩, ⟨(some 6), (.alloc [(.str []), (.bool false)]), none⟩, ⟨none, (.st (.t 6) (.t 13) 2), none⟩, ⟨(some 7), (.asg (.t 14)), none⟩, ⟨(some 8), (.asg (.t 15)), none⟩]) (.seq (.seq (.rg [⟨(some 16), (.mv (.t 7)), none⟩, ⟨(some 17), (.un .not (.t 16)), none⟩]) (.cond (.t 17) (.seq (.rg [⟨(some 18), (.mv (.t 5)), none⟩, ⟨(some 4), (.asg (.t 18)), none⟩]) .ret) .skip)) (.seq (.rg [⟨(some 19), (.mv (.t 5)), none⟩, ⟨(some 20), (.ld (.t 6) (some 2)), none⟩, ⟨(some 21), (.bsl 2 [(.t 20)]), none⟩, ⟨(some 22), (.app 2 24 (.t 19) (.t 21)), none⟩, ⟨(some 5), (.asg (.t 22)), none⟩]) (.rg [⟨(some 23), (.mv (.t 8)), none⟩, ⟨(some 1), (.asg (.t 23)), none⟩])))))
def c_line_Splitter_Feed_l1 : ACode := (.loop c_line_Splitter_Feed_l1b)
abbrev m_line_Splitter_Feed_l1b := c_line_Splitter_Feed_l1b
def c_line_Splitter_Feed : ACode := (.seq (.rg [⟨(some 4), (.asg (.c (.sl .ex 2 []))), none⟩]) (.seq (.rg [⟨(some 5), (.asg (.c (.sl .ex 2 []))), none⟩]) (.blk 0 c_line_Splitter_Feed_l1)))
abbrev m_line_Splitter_Feed := c_line_Splitter_Feed
theorem k_line_Splitter_Feed : FnOk Try.prog 10 24 [(.tmp 4)] c_line_Splitter_Feed := ⟨Try.f10, _, rfl, by decide, rfl, by kernel_rfl, rfl, rfl⟩
abbrev L_line_Splitter_Feed : List Nat := [0, 1, 4, 5, 6, 7, 8, 17]
def line_Splitter_Feed_l1 (F : Nat)  : ((List UInt8) × (List LineV) × (List LineV) × SplitterV) → Option (St ((List LineV) × SplitterV) Unit ((List UInt8) × (List LineV) × (List LineV) × SplitterV))
  | (b4, t5, out6, s7) =>
    (line_Splitter_Next F s7 b4).bind fun (r8, r9, r10, r11) =>
    (if (!r9) then
      some (.ret (out6, r11))
    else
      (capp 24 out6 ([r8] : List LineV)).bind fun x12 => some (.nxt (r10, t5, x12, r11)))
def line_Splitter_Feed (F : Nat) (s2 : SplitterV) (b3 : List UInt8) : Option ((List LineV) × SplitterV) :=
  ((iter (line_Splitter_Feed_l1 F) F (b3, ([] : List LineV), ([] : List LineV), s2)).bind fun o17 =>
  match o17 with
  | .inl (r15, s16) =>
    some (r15, s16)
  | .inr _ => none)
set_option maxHeartbeats 2000000 in
theorem line_Splitter_Feed_l1_ok {F : Nat} {s7 : SplitterV} {b4 : List UInt8} {out6 : List LineV} {t5 : List LineV} {q1 : Nat} {H0 H : AH} (hfr : Fr H0 H0.length [q1] H) (hs_o1 : H[q1]? = some [(.int .i64 s7.most), (.sl .own 1 (ml b8 s7.b)), (.int .i64 s7.state), (.bool s7.long)]) (hi0 : q1 < H0.length) {K : Exit → Env → AH → Prop} {o : ((List LineV) × SplitterV) ⊕ (Unit)}
    (h : iter (line_Splitter_Feed_l1 F) F (b4, t5, out6, s7) = some o)
    (kr : ∀ o' : (List LineV) × SplitterV, o = .inl o' → ∀ H' : AH, Fr H0 H0.length [q1] H' → H'[q1]? = some [(.int .i64 o'.2.most), (.sl .own 1 (ml b8 o'.2.b)), (.int .i64 o'.2.state), (.bool o'.2.long)] → K .ret [(4, (.sl .n 2 (ml encLineV o'.1)))] H') :
    AX Try.prog L_line_Splitter_Feed 24 H0.length c_line_Splitter_Feed_l1 K [(0, (.ptr q1 0)), (1, (.sl .n 1 (ml b8 b4))), (4, (.sl .own 2 (ml encLineV t5))), (5, (.sl .own 2 (ml encLineV out6)))] H := by
  refine AX.iter (m := m_line_Splitter_Feed_l1b) rfl (by decide) (fun s e H1 => match s with | (b4, t5, out6, s7) => e = [(0, (.ptr q1 0)), (1, (.sl .n 1 (ml b8 b4))), (4, (.sl .own 2 (ml encLineV t5))), (5, (.sl .own 2 (ml encLineV out6)))] ∧ Fr H0 H0.length [q1] H1 ∧ H1[q1]? = some [(.int .i64 s7.most), (.sl .own 1 (ml b8 s7.b)), (.int .i64 s7.state), (.bool s7.long)]) h ⟨rfl, hfr, hs_o1⟩ ?_
  skip
  rintro K' ⟨b4, t5, out6, s7⟩ st e H ⟨rfl, hfr, hs_o1⟩ h hN hB hR hX
  have hle := hfr.le
  have hl_o1 := h_lt hs_o1
  rw [line_Splitter_Feed_l1.eq_1] at h
  simp (disch := first | assumption | omega | (simp only [h_sl, h_al] <;> omega) | fail) only [WW, WH, ↓reduceIte, Nat.reduceEqDiff, Nat.reduceLT, Nat.reduceLeDiff, Nat.reduceAdd, Nat.reduceSub, Nat.reduceMul, Nat.reduceBEq, reduceCtorEq, if_false, if_true, L_line_Splitter_Feed, m_line_Splitter_Feed_l1b, c_line_Splitter_Feed_l1b, hs_o1, encLineV]
  obtain ⟨⟨r8, r9, r10, r11⟩, hy1, h⟩ := bnd' h
  dsimp only at h
  refine UK_e (as' := [(.ptr q1 0), (.sl .n 1 (ml b8 b4))]) (h := line_Splitter_Next_ok (s2 := s7) (b3 := b4) (q1 := q1) (F := F) (by exact ((hs_o1).trans rfl)) hy1) (hw := WL.cons (Wx.ptr) (WL.cons (Wx.nn) (WL.nil))) (hh := WxH.refl _) ?_
  simp (disch := first | assumption | omega | (simp only [h_sl, h_al] <;> omega) | fail) only [WW, WH, ↓reduceIte, Nat.reduceEqDiff, Nat.reduceLT, Nat.reduceLeDiff, Nat.reduceAdd, Nat.reduceSub, Nat.reduceMul, Nat.reduceBEq, reduceCtorEq, if_false, if_true, L_line_Splitter_Feed, hs_o1, encLineV]
  rcases ifb h with ⟨hy2, h⟩ | ⟨hy2, h⟩
  · refine UC_t hy2 ?_
    simp (disch := first | assumption | omega | (simp only [h_sl, h_al] <;> omega) | fail) only [WW, WH, ↓reduceIte, Nat.reduceEqDiff, Nat.reduceLT, Nat.reduceLeDiff, Nat.reduceAdd, Nat.reduceSub, Nat.reduceMul, Nat.reduceBEq, reduceCtorEq, if_false, if_true, L_line_Splitter_Feed, hs_o1, encLineV]
    have hq := Option.some.inj h; subst hq
    refine hX _ _ _ _ _ (by simp) ?_ (WxH.refl _) (kr _ (hR _ rfl) _ (Fr.set (s := H.length) (Fr.app (Fr.set (s := q1) hfr (.inl (by simp)))) (.inr (by first | assumption | omega | (simp only [h_sl, h_al] <;> omega) | fail))) (((h_ne (by first | assumption | omega | (simp only [h_sl, h_al] <;> omega) | fail)).trans ((h_app (by first | assumption | omega | (simp only [h_sl, h_al] <;> omega) | fail)).trans (h_eq (by first | assumption | omega | (simp only [h_sl, h_al] <;> omega) | fail)))).trans rfl))
    exact WE.cons (Wx.nn) (WE.nil)
  · refine UC_f hy2 ?_
    obtain ⟨x12, hy3, h⟩ := bnd' h
    have hy4 : capp 24 (ml encLineV out6) [(.agg [(.str r8.text), (.bool r8.long)])] = some (ml encLineV x12) := capp_m (f := encLineV) hy3
    simp (disch := first | assumption | omega | (simp only [h_sl, h_al] <;> omega) | fail) only [WW, WH, ↓reduceIte, Nat.reduceEqDiff, Nat.reduceLT, Nat.reduceLeDiff, Nat.reduceAdd, Nat.reduceSub, Nat.reduceMul, Nat.reduceBEq, reduceCtorEq, if_false, if_true, L_line_Splitter_Feed, hy4, hs_o1, encLineV]
    have hq := Option.some.inj h; subst hq
    refine hN _ rfl _ _ _ _ ?_ (WxH.refl _) ⟨rfl, (Fr.set (s := H.length) (Fr.app (Fr.set (s := q1) hfr (.inl (by simp)))) (.inr (by first | assumption | omega | (simp only [h_sl, h_al] <;> omega) | fail))), (((h_ne (by first | assumption | omega | (simp only [h_sl, h_al] <;> omega) | fail)).trans ((h_app (by first | assumption | omega | (simp only [h_sl, h_al] <;> omega) | fail)).trans (h_eq (by first | assumption | omega | (simp only [h_sl, h_al] <;> omega) | fail)))).trans rfl)⟩
    exact WE.cons (Wx.ptr) (WE.cons (Wx.nn) (WE.cons (Wx.oo) (WE.cons (Wx.oo) (WE.nil))))
set_option maxHeartbeats 2000000 in
theorem line_Splitter_Feed_ok {F : Nat} {s2 : SplitterV} {b3 : List UInt8} {q1 : Nat} {H0 : AH} (hs_o1 : H0[q1]? = some [(.int .i64 s2.most), (.sl .own 1 (ml b8 s2.b)), (.int .i64 s2.state), (.bool s2.long)]) {r0 : List LineV} {r1 : SplitterV} (h : line_Splitter_Feed F s2 b3 = some (r0, r1)) :
    ACalls Try.prog 10 [(.ptr q1 0), (.sl .n 1 (ml b8 b3))] H0 fun v H' => v = (.sl .n 2 (ml encLineV r0)) ∧ H' = (H0.set q1 [(.int .i64 r1.most), (.sl .own 1 (ml b8 r1.b)), (.int .i64 r1.state), (.bool r1.long)]) := by
  refine ACalls.goX k_line_Splitter_Feed (m := m_line_Splitter_Feed) rfl L_line_Splitter_Feed (by decide) (by simp) fun hcl K0 hK0 => ?_
  refine AX.of_U (m := m_line_Splitter_Feed) rfl (by decide) ?_
  have hl_o1 := h_lt hs_o1
  have hfr := Fr.refl H0 [q1]
  have hle := hfr.le
  rw [line_Splitter_Feed.eq_1] at h
  obtain ⟨H, hHH⟩ : ∃ H, H = H0 := ⟨_, rfl⟩
  have hfr : Fr H0 H0.length [q1] H := hHH ▸ hfr
  have hs_o1 : H[q1]? = some [(.int .i64 s2.most), (.sl .own 1 (ml b8 s2.b)), (.int .i64 s2.state), (.bool s2.long)] := hHH ▸ hs_o1
  have hle := hfr.le
  have hL_o1 : q1 < H.length := h_lt hs_o1
  suffices hU : U Try.prog L_line_Splitter_Feed 24 H0.length [.code m_line_Splitter_Feed] K0 .normal (argE 0 [(.ptr q1 0), (.sl .n 1 (ml b8 b3))]) H by rwa [hHH] at hU
  simp (disch := first | assumption | omega | (simp only [h_sl, h_al] <;> omega) | fail) only [WW, WH, ↓reduceIte, Nat.reduceEqDiff, Nat.reduceLT, Nat.reduceLeDiff, Nat.reduceAdd, Nat.reduceSub, Nat.reduceMul, Nat.reduceBEq, reduceCtorEq, if_false, if_true, L_line_Splitter_Feed, m_line_Splitter_Feed, c_line_Splitter_Feed, hs_o1, encLineV]
  obtain ⟨o17, hy5, h⟩ := bnd' h
  refine UX_of (AX.weak ?_ (WxH.refl _) (line_Splitter_Feed_l1_ok  (q1 := q1) (b4 := b3) (t5 := ([] : List LineV)) (out6 := ([] : List LineV)) (s7 := s2)  (hfr) ((hs_o1).trans rfl) (by first | assumption | omega | (simp only [h_sl, h_al] <;> omega) | fail) (o := o17) hy5 ?_))
  · exact WE.cons (Wx.ptr) (WE.cons (Wx.nn) (WE.cons (Wx.own ..) (WE.cons (Wx.own ..) (WE.nil))))
  · rintro ⟨r15, s16⟩ rfl H hfr hs_o1
    try dsimp only at h hs_o1
    have hle := hfr.le
    have hl_o1 := h_lt hs_o1
    simp (disch := first | assumption | omega | (simp only [h_sl, h_al] <;> omega) | fail) only [WW, WH, ↓reduceIte, Nat.reduceEqDiff, Nat.reduceLT, Nat.reduceLeDiff, Nat.reduceAdd, Nat.reduceSub, Nat.reduceMul, Nat.reduceBEq, reduceCtorEq, if_false, if_true, L_line_Splitter_Feed, hs_o1, encLineV]
    have hq := Option.some.inj h; have hq0 := (Prod.mk.inj hq).1; replace hq := (Prod.mk.inj hq).2; subst hq0; subst hq
    refine hK0 _ _ _ (.inr rfl) ?_
    exact fn_end1 (by exact hfr) hcl (resv_tmp (a := (.sl .n 2 (ml encLineV r15))) rfl rfl resv_nil) (by simp [fin, AV.df, AV.sh, AV.sh1, b_df, b_sh, b_sh1, b_Cl]) (Wx.nn) (by exact ((hs_o1).trans rfl)) (by first | assumption | omega | (simp only [h_sl, h_al] <;> omega) | fail) (by simp [b_Cl]; try omega) (WxC.cons (Wx.int) (WxC.cons (Wx.oo) (WxC.cons (Wx.int) (WxC.cons (Wx.bool) (WxC.nil))))) (r' := (.sl .n 2 (ml encLineV r15))) ⟨rfl, rfl⟩

/-! ### (*mailbag/line.Splitter).Held -/
def c_line_Splitter_Held : ACode := (.seq (.rg [⟨(some 2), (.asg (.c (.int .i64 0))), none⟩]) (.seq (.seq (.rg [⟨(some 3), (.mv (.t 0)), none⟩, ⟨(some 4), (.nck (.t 3)), none⟩, ⟨(some 5), (.fld (.t 4) 2), none⟩, ⟨(some 6), (.ld (.t 5) none), none⟩, ⟨(some 7), (.bin .eql (.t 6) (.c (.int .i64 2))), none⟩]) (.cond (.t 7) (.seq (.rg [⟨(some 8), (.mv (.t 0)), none⟩, ⟨(some 9), (.nck (.t 8)), none⟩, ⟨(some 10), (.fld (.t 9) 1), none⟩, ⟨(some 11), (.ld (.t 10) none), none⟩, ⟨(some 12), (.len (.t 11)), none⟩, ⟨(some 13), (.bin .add (.t 12) (.c (.int .i64 1))), none⟩, ⟨(some 2), (.asg (.t 13)), none⟩]) .ret) .skip)) (.seq (.rg [⟨(some 14), (.mv (.t 0)), none⟩, ⟨(some 15), (.nck (.t 14)), none⟩, ⟨(some 16), (.fld (.t 15) 1), none⟩, ⟨(some 17), (.ld (.t 16) none), none⟩, ⟨(some 18), (.len (.t 17)), none⟩, ⟨(some 2), (.asg (.t 18)), none⟩]) .ret)))
abbrev m_line_Splitter_Held := c_line_Splitter_Held
theorem k_line_Splitter_Held : FnOk Try.prog 11 19 [(.tmp 2)] c_line_Splitter_Held := ⟨Try.f11, _, rfl, by decide, rfl, by kernel_rfl, rfl, rfl⟩
abbrev L_line_Splitter_Held : List Nat := [0, 2, 7]
def line_Splitter_Held (s2 : SplitterV) : Option (Int) :=
  (if (decide (s2.state = 2)) then
    some (IntKind.wrap .i64 ((s2.b.length : Int) + 1))
  else
    some (s2.b.length : Int))
set_option maxHeartbeats 2000000 in
theorem line_Splitter_Held_ok {s2 : SplitterV} {q1 : Nat} {H0 : AH} (hs_o1 : H0[q1]? = some [(.int .i64 s2.most), (.sl .own 1 (ml b8 s2.b)), (.int .i64 s2.state), (.bool s2.long)]) {r0 : Int} (h : line_Splitter_Held s2 = some r0) :
    ACalls Try.prog 11 [(.ptr q1 0)] H0 fun v H' => v = (.int .i64 r0) ∧ H' = H0 := by
  refine ACalls.goX k_line_Splitter_Held (m := m_line_Splitter_Held) rfl L_line_Splitter_Held (by decide) (by simp) fun hcl K0 hK0 => ?_
  refine AX.of_U (m := m_line_Splitter_Held) rfl (by decide) ?_
  have hl_o1 := h_lt hs_o1
  have hfr := Fr.refl H0 []
  have hle := hfr.le
  rw [line_Splitter_Held.eq_1] at h
  obtain ⟨H, hHH⟩ : ∃ H, H = H0 := ⟨_, rfl⟩
  have hfr : Fr H0 H0.length [] H := hHH ▸ hfr
  have hs_o1 : H[q1]? = some [(.int .i64 s2.most), (.sl .own 1 (ml b8 s2.b)), (.int .i64 s2.state), (.bool s2.long)] := hHH ▸ hs_o1
  have hle := hfr.le
  have hL_o1 : q1 < H.length := h_lt hs_o1
  suffices hU : U Try.prog L_line_Splitter_Held 19 H0.length [.code m_line_Splitter_Held] K0 .normal (argE 0 [(.ptr q1 0)]) H by rwa [hHH] at hU
  simp (disch := first | assumption | omega | (simp only [h_sl, h_al] <;> omega) | fail) only [WW, WH, ↓reduceIte, Nat.reduceEqDiff, Nat.reduceLT, Nat.reduceLeDiff, Nat.reduceAdd, Nat.reduceSub, Nat.reduceMul, Nat.reduceBEq, reduceCtorEq, if_false, if_true, L_line_Splitter_Held, m_line_Splitter_Held, c_line_Splitter_Held, hs_o1, encLineV]
  rcases ifb h with ⟨hy1, h⟩ | ⟨hy1, h⟩
  · refine UC_t hy1 ?_
    simp (disch := first | assumption | omega | (simp only [h_sl, h_al] <;> omega) | fail) only [WW, WH, ↓reduceIte, Nat.reduceEqDiff, Nat.reduceLT, Nat.reduceLeDiff, Nat.reduceAdd, Nat.reduceSub, Nat.reduceMul, Nat.reduceBEq, reduceCtorEq, if_false, if_true, L_line_Splitter_Held, hs_o1, encLineV]
    have hq := Option.some.inj h; subst hq
    refine hK0 _ _ _ (.inr rfl) ?_
    exact fn_end0 (by exact hfr) hcl (resv_tmp (a := (.int .i64 (IntKind.wrap .i64 ((s2.b.length : Int) + 1)))) rfl rfl resv_nil) (by simp [fin, AV.df, AV.sh, AV.sh1, b_df, b_sh, b_sh1, b_Cl]) (Wx.int) (r' := (.int .i64 (IntKind.wrap .i64 ((s2.b.length : Int) + 1)))) ⟨rfl, rfl⟩
  · refine UC_f hy1 ?_
    simp (disch := first | assumption | omega | (simp only [h_sl, h_al] <;> omega) | fail) only [WW, WH, ↓reduceIte, Nat.reduceEqDiff, Nat.reduceLT, Nat.reduceLeDiff, Nat.reduceAdd, Nat.reduceSub, Nat.reduceMul, Nat.reduceBEq, reduceCtorEq, if_false, if_true, L_line_Splitter_Held, hs_o1, encLineV]
    have hq := Option.some.inj h; subst hq
    refine hK0 _ _ _ (.inr rfl) ?_
    exact fn_end0 (by exact hfr) hcl (resv_tmp (a := (.int .i64 (s2.b.length : Int))) rfl rfl resv_nil) (by simp [fin, AV.df, AV.sh, AV.sh1, b_df, b_sh, b_sh1, b_Cl]) (Wx.int) (r' := (.int .i64 (s2.b.length : Int))) ⟨rfl, rfl⟩

/-! ### mailbag/mailbaglaw13.known -/
def c_law13_known_p1 : ACode := (.rg [⟨(some 8), (.mv (.t 2)), none⟩, ⟨(some 9), (.bin .neq (.t 8) (.c (.int .i64 0))), none⟩, ⟨(some 10), (.mv (.t 9)), none⟩, ⟨(some 11), (.mv (.t 1)), (some (10, false))⟩, ⟨(some 12), (.pq false (.t 11) (.c (.v (.pointer none)))), (some (10, false))⟩, ⟨(some 13), (.pick (.t 10) (.c (.bool true)) (.t 12)), none⟩])
abbrev m_law13_known_p1 := c_law13_known_p1
def c_law13_known_p2 : ACode := (.rg [⟨(some 18), (.mv (.t 3)), none⟩, ⟨(some 19), (.len (.t 18)), none⟩, ⟨(some 20), (.bin .eql (.t 19) (.c (.int .i64 2))), none⟩, ⟨(some 21), (.mv (.t 20)), none⟩, ⟨(some 22), (.mv (.t 3)), (some (21, true))⟩, ⟨(some 23), (.ixa 2 (.t 22) (.c (.int .i64 0))), (some (21, true))⟩, ⟨(some 24), (.ld (.t 23) (some 2)), (some (21, true))⟩, ⟨(some 25), (.build [(.str []), (.bool false)] [(0, (1, (.c (.str [97, 98]))))]), (some (21, true))⟩, ⟨(some 26), (.seq [.s, .b] false (.t 24) (.t 25)), (some (21, true))⟩, ⟨(some 27), (.pick (.t 21) (.t 26) (.c (.bool false))), none⟩, ⟨(some 28), (.mv (.t 27)), none⟩, ⟨(some 29), (.mv (.t 3)), (some (28, true))⟩, ⟨(some 30), (.ixa 2 (.t 29) (.c (.int .i64 1))), (some (28, true))⟩, ⟨(some 31), (.ld (.t 30) (some 2)), (some (28, true))⟩, ⟨(some 32), (.build [(.str []), (.bool false)] [(0, (1, (.c (.str [97, 98, 99, 100])))), (1, (1, (.c (.bool true))))]), (some (28, true))⟩, ⟨(some 33), (.seq [.s, .b] false (.t 31) (.t 32)), (some (28, true))⟩, ⟨(some 34), (.pick (.t 28) (.t 33) (.c (.bool false))), none⟩, ⟨(some 35), (.mv (.t 34)), none⟩, ⟨(some 36), (.mv (.t 1)), (some (35, true))⟩, ⟨(some 37), (.call (.c (.fn 11 [])) [(.t 36)]), (some (35, true))⟩, ⟨(some 38), (.bin .eql (.t 37) (.c (.int .i64 1))), (some (35, true))⟩, ⟨(some 39), (.pick (.t 35) (.t 38) (.c (.bool false))), none⟩, ⟨(some 0), (.asg (.t 39)), none⟩])
abbrev m_law13_known_p2 := c_law13_known_p2
def c_law13_known : ACode := (.seq (.rg [⟨(some 0), (.asg (.c (.bool false))), none⟩]) (.seq (.rg [⟨(some 5), (.call (.c (.fn 9 [])) [(.c (.int .i64 6))]), none⟩, ⟨(some 4), (.mv (.t 5)), none⟩, ⟨(some 6), (.ext (.t 4) 0), none⟩, ⟨(some 7), (.ext (.t 4) 1), none⟩, ⟨(some 1), (.asg (.t 6)), none⟩, ⟨(some 2), (.asg (.t 7)), none⟩]) (.seq (.seq c_law13_known_p1 (.cond (.t 13) (.seq (.rg [⟨(some 0), (.asg (.c (.bool false))), none⟩]) .ret) .skip)) (.seq (.rg [⟨(some 14), (.mv (.t 1)), none⟩, ⟨(some 16), (.lit 15 [97, 98, 13, 10, 97, 98, 99, 100, 101, 102, 103, 13, 10, 120]), none⟩, ⟨(some 17), (.call (.c (.fn 10 [])) [(.t 14), (.t 16)]), none⟩, ⟨(some 3), (.asg (.t 17)), none⟩]) (.seq c_law13_known_p2 .ret)))))
def m_law13_known : ACode := (.seq (.rg [⟨(some 0), (.asg (.c (.bool false))), none⟩]) (.seq (.rg [⟨(some 5), (.call (.c (.fn 9 [])) [(.c (.int .i64 6))]), none⟩, ⟨(some 4), (.mv (.t 5)), none⟩, ⟨(some 6), (.ext (.t 4) 0), none⟩, ⟨(some 7), (.ext (.t 4) 1), none⟩, ⟨(some 1), (.asg (.t 6)), none⟩, ⟨(some 2), (.asg (.t 7)), none⟩]) (.seq (.seq (.sem c_law13_known_p1) (.cond (.t 13) (.seq (.rg [⟨(some 0), (.asg (.c (.bool false))), none⟩]) .ret) .skip)) (.seq (.rg [⟨(some 14), (.mv (.t 1)), none⟩, ⟨(some 16), (.lit 15 [97, 98, 13, 10, 97, 98, 99, 100, 101, 102, 103, 13, 10, 120]), none⟩, ⟨(some 17), (.call (.c (.fn 10 [])) [(.t 14), (.t 16)]), none⟩, ⟨(some 3), (.asg (.t 17)), none⟩]) (.seq (.sem c_law13_known_p2) .ret)))))
theorem k_law13_known : FnOk Try.prog 7 40 [(.tmp 0)] c_law13_known := ⟨Try.f7, _, rfl, by decide, rfl, by kernel_rfl, rfl, rfl⟩
abbrev L_law13_known : List Nat := [0, 1, 2, 3, 13]
def law13_known_p2 (r6 : List LineV) (r7 : SplitterV) : Option (Bool) :=
  (if (decide ((r6.length : Int) = 2)) then
    (idx r6 0).bind fun x9 =>
    (if (decide (x9.text = ([97, 98] : List UInt8)) && (x9.long == false)) then
      (idx r6 1).bind fun x10 =>
      (if (decide (x10.text = ([97, 98, 99, 100] : List UInt8)) && (x10.long == true)) then
        (line_Splitter_Held r7).bind fun r11 => some (decide (r11 = 1))
      else
        some false)
    else
      some false)
  else
    some false)
def law13_known (F : Nat)  : Option (Bool) :=
  ((line_New 6).bind fun (r1, r2) =>
  match r1 with
  | none =>
    some false
  | some t3 =>
    (if (!decide (r2 = 0)) then
      some false
    else
      (line_Splitter_Feed F t3 ([97, 98, 13, 10, 97, 98, 99, 100, 101, 102, 103, 13, 10, 120] : List UInt8)).bind fun (r6, r7) => (law13_known_p2 r6 r7).bind fun t13 =>
      some t13))
set_option maxHeartbeats 2000000 in
theorem law13_known_p1_ok {r2 : Int} {H0 H : AH} (hfr : Fr H0 H0.length [] H) {K : Exit → Env → AH → Prop}
    (kn : ∀ H' : AH, Fr H0 H0.length [] H' → K .normal [(1, (.v (.pointer none))), (13, (.bool true))] H') :
    AX Try.prog L_law13_known 40 H0.length c_law13_known_p1 K [(1, (.v (.pointer none))), (2, (.int .i64 r2))] H := by
  refine AX.go (m := m_law13_known_p1) rfl (by decide) fun K' hK => ?_
  have hle := hfr.le
  simp (disch := first | assumption | omega | (simp only [h_sl, h_al] <;> omega) | fail) only [WW, WH, ↓reduceIte, Nat.reduceEqDiff, Nat.reduceLT, Nat.reduceLeDiff, Nat.reduceAdd, Nat.reduceSub, Nat.reduceMul, Nat.reduceBEq, reduceCtorEq, if_false, if_true, L_law13_known, m_law13_known_p1, c_law13_known_p1]
  rcases bcases ((!decide (r2 = 0))) with hy2 | hy2
  · refine UG_nf hy2 ?_
    simp (disch := first | assumption | omega | (simp only [h_sl, h_al] <;> omega) | fail) only [WW, WH, ↓reduceIte, Nat.reduceEqDiff, Nat.reduceLT, Nat.reduceLeDiff, Nat.reduceAdd, Nat.reduceSub, Nat.reduceMul, Nat.reduceBEq, reduceCtorEq, if_false, if_true, L_law13_known, hy2]
    refine hK _ _ _ _ _ ?_ (WxH.refl _) (kn _ hfr)
    exact WE.cons (Wx.v) (WE.cons (Wx.bool) (WE.nil))
  · refine UG_go hy2 ?_
    simp (disch := first | assumption | omega | (simp only [h_sl, h_al] <;> omega) | fail) only [WW, WH, ↓reduceIte, Nat.reduceEqDiff, Nat.reduceLT, Nat.reduceLeDiff, Nat.reduceAdd, Nat.reduceSub, Nat.reduceMul, Nat.reduceBEq, reduceCtorEq, if_false, if_true, L_law13_known, hy2]
    refine hK _ _ _ _ _ ?_ (WxH.refl _) (kn _ hfr)
    exact WE.cons (Wx.v) (WE.cons (Wx.bool) (WE.nil))
set_option maxHeartbeats 2000000 in
theorem law13_known_p1x_ok {q5 : Nat} {r2 : Int} {t3 : SplitterV} {H0 H : AH} (hfr : Fr H0 H0.length [] H) (hs_o1 : H[q5]? = some [(.int .i64 t3.most), (.sl .own 1 (ml b8 t3.b)), (.int .i64 t3.state), (.bool t3.long)]) (hi0 : H0.length ≤ q5) {K : Exit → Env → AH → Prop}
    (kn : ∀ H' : AH, Fr H0 H0.length [] H' → H'[q5]? = some [(.int .i64 t3.most), (.sl .own 1 (ml b8 t3.b)), (.int .i64 t3.state), (.bool t3.long)] → K .normal [(1, (.ptr q5 0)), (13, (.bool (!decide (r2 = 0))))] H') :
    AX Try.prog L_law13_known 40 H0.length c_law13_known_p1 K [(1, (.ptr q5 0)), (2, (.int .i64 r2))] H := by
  refine AX.go (m := m_law13_known_p1) rfl (by decide) fun K' hK => ?_
  have hle := hfr.le
  have hl_o1 := h_lt hs_o1
  simp (disch := first | assumption | omega | (simp only [h_sl, h_al] <;> omega) | fail) only [WW, WH, ↓reduceIte, Nat.reduceEqDiff, Nat.reduceLT, Nat.reduceLeDiff, Nat.reduceAdd, Nat.reduceSub, Nat.reduceMul, Nat.reduceBEq, reduceCtorEq, if_false, if_true, L_law13_known, m_law13_known_p1, c_law13_known_p1, hs_o1]
  rcases bcases ((!decide (r2 = 0))) with hy3 | hy3
  · refine UG_nf hy3 ?_
    simp (disch := first | assumption | omega | (simp only [h_sl, h_al] <;> omega) | fail) only [WW, WH, ↓reduceIte, Nat.reduceEqDiff, Nat.reduceLT, Nat.reduceLeDiff, Nat.reduceAdd, Nat.reduceSub, Nat.reduceMul, Nat.reduceBEq, reduceCtorEq, if_false, if_true, L_law13_known, hy3, hs_o1]
    refine hK _ _ _ _ _ ?_ (WxH.refl _) (kn _ hfr ((hs_o1).trans rfl))
    exact WE.cons (Wx.ptr) (WE.cons (Wx.boolE (by simp only [hy3, WB])) (WE.nil))
  · refine UG_go hy3 ?_
    simp (disch := first | assumption | omega | (simp only [h_sl, h_al] <;> omega) | fail) only [WW, WH, ↓reduceIte, Nat.reduceEqDiff, Nat.reduceLT, Nat.reduceLeDiff, Nat.reduceAdd, Nat.reduceSub, Nat.reduceMul, Nat.reduceBEq, reduceCtorEq, if_false, if_true, L_law13_known, hy3, hs_o1]
    refine hK _ _ _ _ _ ?_ (WxH.refl _) (kn _ hfr ((hs_o1).trans rfl))
    exact WE.cons (Wx.ptr) (WE.cons (Wx.boolE (by simp only [hy3, WB])) (WE.nil))
set_option maxHeartbeats 2000000 in
theorem law13_known_p2_ok {r6 : List LineV} {r7 : SplitterV} {q8 : Nat} {H0 H : AH} (hfr : Fr H0 H0.length [] H) (hs_o1 : H[q8]? = some [(.int .i64 r7.most), (.sl .own 1 (ml b8 r7.b)), (.int .i64 r7.state), (.bool r7.long)]) (hi0 : H0.length ≤ q8) {K : Exit → Env → AH → Prop} {t12 : Bool}
    (h : law13_known_p2 r6 r7 = some t12)
    (kn : ∀ H' : AH, Fr H0 H0.length [] H' → H'[q8]? = some [(.int .i64 r7.most), (.sl .own 1 (ml b8 r7.b)), (.int .i64 r7.state), (.bool r7.long)] → K .normal [(0, (.bool t12))] H') :
    AX Try.prog L_law13_known 40 H0.length c_law13_known_p2 K [(1, (.ptr q8 0)), (3, (.sl .n 2 (ml encLineV r6)))] H := by
  refine AX.go (m := m_law13_known_p2) rfl (by decide) fun K' hK => ?_
  have hle := hfr.le
  have hl_o1 := h_lt hs_o1
  rw [law13_known_p2.eq_1] at h
  simp (disch := first | assumption | omega | (simp only [h_sl, h_al] <;> omega) | fail) only [WW, WH, ↓reduceIte, Nat.reduceEqDiff, Nat.reduceLT, Nat.reduceLeDiff, Nat.reduceAdd, Nat.reduceSub, Nat.reduceMul, Nat.reduceBEq, reduceCtorEq, if_false, if_true, L_law13_known, m_law13_known_p2, c_law13_known_p2, hs_o1, encLineV]
  rcases ifb h with ⟨hy6, h⟩ | ⟨hy6, h⟩
  · refine UG_go hy6 ?_
    obtain ⟨x9, hy7, h⟩ := bnd' h
    simp (disch := first | assumption | omega | (simp only [h_sl, h_al] <;> omega) | fail) only [WW, WH, ↓reduceIte, Nat.reduceEqDiff, Nat.reduceLT, Nat.reduceLeDiff, Nat.reduceAdd, Nat.reduceSub, Nat.reduceMul, Nat.reduceBEq, reduceCtorEq, if_false, if_true, L_law13_known, hy6, hy7, hs_o1, encLineV]
    rcases ifb h with ⟨hy8, h⟩ | ⟨hy8, h⟩
    · refine UG_go hy8 ?_
      obtain ⟨x10, hy9, h⟩ := bnd' h
      simp (disch := first | assumption | omega | (simp only [h_sl, h_al] <;> omega) | fail) only [WW, WH, ↓reduceIte, Nat.reduceEqDiff, Nat.reduceLT, Nat.reduceLeDiff, Nat.reduceAdd, Nat.reduceSub, Nat.reduceMul, Nat.reduceBEq, reduceCtorEq, if_false, if_true, L_law13_known, hy8, hy9, hs_o1, encLineV]
      rcases ifb h with ⟨hy10, h⟩ | ⟨hy10, h⟩
      · refine UG_go hy10 ?_
        simp (disch := first | assumption | omega | (simp only [h_sl, h_al] <;> omega) | fail) only [WW, WH, ↓reduceIte, Nat.reduceEqDiff, Nat.reduceLT, Nat.reduceLeDiff, Nat.reduceAdd, Nat.reduceSub, Nat.reduceMul, Nat.reduceBEq, reduceCtorEq, if_false, if_true, L_law13_known, hy10, hs_o1, encLineV]
        obtain ⟨r11, hy11, h⟩ := bnd' h
        refine UK_e (as' := [(.ptr q8 0)]) (h := line_Splitter_Held_ok (s2 := r7) (q1 := q8) (by exact ((hs_o1).trans rfl)) hy11) (hw := WL.cons (Wx.ptr) (WL.nil)) (hh := WxH.refl _) ?_
        simp (disch := first | assumption | omega | (simp only [h_sl, h_al] <;> omega) | fail) only [WW, WH, ↓reduceIte, Nat.reduceEqDiff, Nat.reduceLT, Nat.reduceLeDiff, Nat.reduceAdd, Nat.reduceSub, Nat.reduceMul, Nat.reduceBEq, reduceCtorEq, if_false, if_true, L_law13_known, hs_o1, encLineV]
        have hq := Option.some.inj h; subst hq
        refine hK _ _ _ _ _ ?_ (WxH.refl _) (kn _ hfr ((hs_o1).trans rfl))
        exact WE.cons (Wx.bool) (WE.nil)
      · refine UG_nt hy10 ?_
        simp (disch := first | assumption | omega | (simp only [h_sl, h_al] <;> omega) | fail) only [WW, WH, ↓reduceIte, Nat.reduceEqDiff, Nat.reduceLT, Nat.reduceLeDiff, Nat.reduceAdd, Nat.reduceSub, Nat.reduceMul, Nat.reduceBEq, reduceCtorEq, if_false, if_true, L_law13_known, hy10, hs_o1, encLineV]
        have hq := Option.some.inj h; subst hq
        refine hK _ _ _ _ _ ?_ (WxH.refl _) (kn _ hfr ((hs_o1).trans rfl))
        exact WE.cons (Wx.bool) (WE.nil)
    · refine UG_nt hy8 ?_
      simp (disch := first | assumption | omega | (simp only [h_sl, h_al] <;> omega) | fail) only [WW, WH, ↓reduceIte, Nat.reduceEqDiff, Nat.reduceLT, Nat.reduceLeDiff, Nat.reduceAdd, Nat.reduceSub, Nat.reduceMul, Nat.reduceBEq, reduceCtorEq, if_false, if_true, L_law13_known, hy8, hs_o1, encLineV]
      have hq := Option.some.inj h; subst hq
      refine hK _ _ _ _ _ ?_ (WxH.refl _) (kn _ hfr ((hs_o1).trans rfl))
      exact WE.cons (Wx.bool) (WE.nil)
  · refine UG_nt hy6 ?_
    simp (disch := first | assumption | omega | (simp only [h_sl, h_al] <;> omega) | fail) only [WW, WH, ↓reduceIte, Nat.reduceEqDiff, Nat.reduceLT, Nat.reduceLeDiff, Nat.reduceAdd, Nat.reduceSub, Nat.reduceMul, Nat.reduceBEq, reduceCtorEq, if_false, if_true, L_law13_known, hy6, hs_o1, encLineV]
    have hq := Option.some.inj h; subst hq
    refine hK _ _ _ _ _ ?_ (WxH.refl _) (kn _ hfr ((hs_o1).trans rfl))
    exact WE.cons (Wx.bool) (WE.nil)
set_option maxHeartbeats 2000000 in
theorem law13_known_ok {F : Nat}   {H0 : AH}  {r0 : Bool} (h : law13_known F  = some r0) :
    ACalls Try.prog 7 [] H0 fun v H' => v = (.bool r0) ∧ H' = H0 := by
  refine ACalls.goX k_law13_known (m := m_law13_known) rfl L_law13_known (by decide) (by simp) fun hcl K0 hK0 => ?_
  refine AX.of_U (m := m_law13_known) rfl (by decide) ?_
  have hfr := Fr.refl H0 []
  have hle := hfr.le
  rw [law13_known.eq_1] at h
  obtain ⟨H, hHH⟩ : ∃ H, H = H0 := ⟨_, rfl⟩
  have hfr : Fr H0 H0.length [] H := hHH ▸ hfr
  have hle := hfr.le
  suffices hU : U Try.prog L_law13_known 40 H0.length [.code m_law13_known] K0 .normal (argE 0 []) H by rwa [hHH] at hU
  simp (disch := first | assumption | omega | (simp only [h_sl, h_al] <;> omega) | fail) only [WW, WH, ↓reduceIte, Nat.reduceEqDiff, Nat.reduceLT, Nat.reduceLeDiff, Nat.reduceAdd, Nat.reduceSub, Nat.reduceMul, Nat.reduceBEq, reduceCtorEq, if_false, if_true, L_law13_known, m_law13_known]
  obtain ⟨⟨r1, r2⟩, hy1, h⟩ := bnd' h
  dsimp only at h
  rcases r1 with _ | t3
  · try dsimp only at h
    refine UK_x (as' := [(.int .i64 6)]) (h := line_New_ok (most1 := 6)  hy1) (hw := WL.cons (Wx.int) (WL.nil)) (hh := WxH.refl _) ?_
    rintro _ H ⟨rfl, hfrn⟩
    have hfr := Fr.trans hfr hfrn (by simp)
    have hle := hfr.le
    simp (disch := first | assumption | omega | (simp only [h_sl, h_al] <;> omega) | fail) only [WW, WH, ↓reduceIte, Nat.reduceEqDiff, Nat.reduceLT, Nat.reduceLeDiff, Nat.reduceAdd, Nat.reduceSub, Nat.reduceMul, Nat.reduceBEq, reduceCtorEq, if_false, if_true, L_law13_known]
    refine UX_of (AX.weak ?_ (WxH.refl _) (law13_known_p1_ok (r2 := r2) (hfr) ?_))
    · exact WE.cons (Wx.v) (WE.cons (Wx.int) (WE.nil))
    intro H hfr 
    have hle := hfr.le
    simp (disch := first | assumption | omega | (simp only [h_sl, h_al] <;> omega) | fail) only [WW, WH, ↓reduceIte, Nat.reduceEqDiff, Nat.reduceLT, Nat.reduceLeDiff, Nat.reduceAdd, Nat.reduceSub, Nat.reduceMul, Nat.reduceBEq, reduceCtorEq, if_false, if_true, L_law13_known]
    have hq := Option.some.inj h; subst hq
    refine hK0 _ _ _ (.inr rfl) ?_
    exact fn_end0 (by exact hfr) hcl (resv_tmp (a := (.bool false)) rfl rfl resv_nil) (by simp [fin, AV.df, AV.sh, AV.sh1, b_df, b_sh, b_sh1, b_Cl]) (Wx.bool) (r' := (.bool false)) ⟨rfl, rfl⟩
  · try dsimp only at h
    refine UK_x (as' := [(.int .i64 6)]) (h := line_New_ok (most1 := 6)  hy1) (hw := WL.cons (Wx.int) (WL.nil)) (hh := WxH.refl _) ?_
    rintro _ H ⟨q4, rfl, hgn0, hfrn, hs_o1⟩
    have hfr := Fr.trans hfr hfrn (by simp)
    have hle := hfr.le
    have hl_o1 := h_lt hs_o1
    simp (disch := first | assumption | omega | (simp only [h_sl, h_al] <;> omega) | fail) only [WW, WH, ↓reduceIte, Nat.reduceEqDiff, Nat.reduceLT, Nat.reduceLeDiff, Nat.reduceAdd, Nat.reduceSub, Nat.reduceMul, Nat.reduceBEq, reduceCtorEq, if_false, if_true, L_law13_known, hs_o1]
    refine UX_of (AX.weak ?_ (WxH.refl _) (law13_known_p1x_ok (q5 := q4) (r2 := r2) (t3 := t3) (hfr) ((hs_o1).trans rfl) (by first | assumption | omega | (simp only [h_sl, h_al] <;> omega) | fail) ?_))
    · exact WE.cons (Wx.ptr) (WE.cons (Wx.int) (WE.nil))
    intro H hfr hs_o1
    have hle := hfr.le
    have hl_o1 := h_lt hs_o1
    simp (disch := first | assumption | omega | (simp only [h_sl, h_al] <;> omega) | fail) only [WW, WH, ↓reduceIte, Nat.reduceEqDiff, Nat.reduceLT, Nat.reduceLeDiff, Nat.reduceAdd, Nat.reduceSub, Nat.reduceMul, Nat.reduceBEq, reduceCtorEq, if_false, if_true, L_law13_known, hs_o1]
    rcases ifb h with ⟨hy4, h⟩ | ⟨hy4, h⟩
    · refine UC_t hy4 ?_
      simp (disch := first | assumption | omega | (simp only [h_sl, h_al] <;> omega) | fail) only [WW, WH, ↓reduceIte, Nat.reduceEqDiff, Nat.reduceLT, Nat.reduceLeDiff, Nat.reduceAdd, Nat.reduceSub, Nat.reduceMul, Nat.reduceBEq, reduceCtorEq, if_false, if_true, L_law13_known, hs_o1]
      have hq := Option.some.inj h; subst hq
      refine hK0 _ _ _ (.inr rfl) ?_
      exact fn_end0 (by exact hfr) hcl (resv_tmp (a := (.bool false)) rfl rfl resv_nil) (by simp [fin, AV.df, AV.sh, AV.sh1, b_df, b_sh, b_sh1, b_Cl]) (Wx.bool) (r' := (.bool false)) ⟨rfl, rfl⟩
    · refine UC_f hy4 ?_
      simp (disch := first | assumption | omega | (simp only [h_sl, h_al] <;> omega) | fail) only [WW, WH, ↓reduceIte, Nat.reduceEqDiff, Nat.reduceLT, Nat.reduceLeDiff, Nat.reduceAdd, Nat.reduceSub, Nat.reduceMul, Nat.reduceBEq, reduceCtorEq, if_false, if_true, L_law13_known, hs_o1, encLineV]
      obtain ⟨⟨r6, r7⟩, hy5, h⟩ := bnd' h
      dsimp only at h
      refine UK_e (as' := [(.ptr q4 0), (.sl .n 1 (ml b8 ([97, 98, 13, 10, 97, 98, 99, 100, 101, 102, 103, 13, 10, 120] : List UInt8)))]) (h := line_Splitter_Feed_ok (s2 := t3) (b3 := ([97, 98, 13, 10, 97, 98, 99, 100, 101, 102, 103, 13, 10, 120] : List UInt8)) (q1 := q4) (F := F) (by exact ((hs_o1).trans rfl)) hy5) (hw := WL.cons (Wx.ptr) (WL.cons (Wx.n) (WL.nil))) (hh := WxH.refl _) ?_
      simp (disch := first | assumption | omega | (simp only [h_sl, h_al] <;> omega) | fail) only [WW, WH, ↓reduceIte, Nat.reduceEqDiff, Nat.reduceLT, Nat.reduceLeDiff, Nat.reduceAdd, Nat.reduceSub, Nat.reduceMul, Nat.reduceBEq, reduceCtorEq, if_false, if_true, L_law13_known, hs_o1, encLineV]
      obtain ⟨t13, hy12, h⟩ := bnd' h
      refine UX_of (AX.weak ?_ (WxH.refl _) (law13_known_p2_ok  (r6 := r6) (r7 := r7) (t12 := t13) (q8 := q4) ((Fr.set (s := q4) hfr (.inr (by first | assumption | omega | (simp only [h_sl, h_al] <;> omega) | fail)))) ((h_eq (by first | assumption | omega | (simp only [h_sl, h_al] <;> omega) | fail)).trans rfl) (by first | assumption | omega | (simp only [h_sl, h_al] <;> omega) | fail) hy12 ?_))
      · exact WE.cons (Wx.ptr) (WE.cons (Wx.nn) (WE.nil))
      intro H hfr hs_o1
      have hle := hfr.le
      have hl_o1 := h_lt hs_o1
      simp (disch := first | assumption | omega | (simp only [h_sl, h_al] <;> omega) | fail) only [WW, WH, ↓reduceIte, Nat.reduceEqDiff, Nat.reduceLT, Nat.reduceLeDiff, Nat.reduceAdd, Nat.reduceSub, Nat.reduceMul, Nat.reduceBEq, reduceCtorEq, if_false, if_true, L_law13_known, hs_o1, encLineV]
      have hq := Option.some.inj h; subst hq
      refine hK0 _ _ _ (.inr rfl) ?_
      exact fn_end0 (by exact hfr) hcl (resv_tmp (a := (.bool t13)) rfl rfl resv_nil) (by simp [fin, AV.df, AV.sh, AV.sh1, b_df, b_sh, b_sh1, b_Cl]) (Wx.bool) (r' := (.bool t13)) ⟨rfl, rfl⟩

/-! ### mailbag/mailbagref13.Right -/
def c_ref13_Right_p1 : ACode := (.rg [⟨(some 3), (.mv (.t 0)), none⟩, ⟨(some 4), (.bin .geq (.t 3) (.c (.int .i64 2))), none⟩, ⟨(some 5), (.mv (.t 4)), none⟩, ⟨(some 6), (.mv (.t 0)), (some (5, true))⟩, ⟨(some 7), (.bin .leq (.t 6) (.c (.int .i64 65536))), (some (5, true))⟩, ⟨(some 8), (.pick (.t 5) (.t 7) (.c (.bool false))), none⟩, ⟨(some 2), (.asg (.t 8)), none⟩])
abbrev m_ref13_Right_p1 := c_ref13_Right_p1
def c_ref13_Right : ACode := (.seq (.rg [⟨(some 2), (.asg (.c (.bool false))), none⟩]) (.seq c_ref13_Right_p1 .ret))
def m_ref13_Right : ACode := (.seq (.rg [⟨(some 2), (.asg (.c (.bool false))), none⟩]) (.seq (.sem c_ref13_Right_p1) .ret))
theorem k_ref13_Right : FnOk Try.prog 8 9 [(.tmp 2)] c_ref13_Right := ⟨Try.f8, _, rfl, by decide, rfl, by kernel_rfl, rfl, rfl⟩
abbrev L_ref13_Right : List Nat := [0, 2]
def ref13_Right (most1 : Int) : Option (Bool) :=
  some ((decide (2 ≤ most1)) && (decide (most1 ≤ 65536)))
set_option maxHeartbeats 2000000 in
theorem ref13_Right_p1_ok {most1 : Int} {H : AH}  {K : Exit → Env → AH → Prop}
    (kn : K .normal [(2, (.bool ((decide (2 ≤ most1)) && (decide (most1 ≤ 65536)))))] H) :
    AX Try.prog L_ref13_Right 9 H.length c_ref13_Right_p1 K [(0, (.int .i64 most1)), (2, (.bool false))] H := by
  refine AX.go (m := m_ref13_Right_p1) rfl (by decide) fun K' hK => ?_
  simp only [WW, ↓reduceIte, Nat.reduceEqDiff, Nat.reduceLT, Nat.reduceLeDiff, Nat.reduceAdd, Nat.reduceSub, Nat.reduceMul, Nat.reduceBEq, reduceCtorEq, if_false, if_true, L_ref13_Right, m_ref13_Right_p1, c_ref13_Right_p1, encLineV]
  rcases bcases ((decide (2 ≤ most1))) with hy1 | hy1
  · refine UG_go hy1 ?_
    simp only [WW, ↓reduceIte, Nat.reduceEqDiff, Nat.reduceLT, Nat.reduceLeDiff, Nat.reduceAdd, Nat.reduceSub, Nat.reduceMul, Nat.reduceBEq, reduceCtorEq, if_false, if_true, L_ref13_Right, hy1, encLineV]
    refine hK _ _ _ _ _ ?_ (WxH.refl _) (kn )
    exact WE.cons (Wx.boolE (by simp only [hy1, WB])) (WE.nil)
  · refine UG_nt hy1 ?_
    simp only [WW, ↓reduceIte, Nat.reduceEqDiff, Nat.reduceLT, Nat.reduceLeDiff, Nat.reduceAdd, Nat.reduceSub, Nat.reduceMul, Nat.reduceBEq, reduceCtorEq, if_false, if_true, L_ref13_Right, hy1, encLineV]
    refine hK _ _ _ _ _ ?_ (WxH.refl _) (kn )
    exact WE.cons (Wx.boolE (by simp only [hy1, WB])) (WE.nil)
set_option maxHeartbeats 2000000 in
theorem ref13_Right_ok {most1 : Int}  {H0 : AH}  {r0 : Bool} (h : ref13_Right most1 = some r0) :
    ACalls Try.prog 8 [(.int .i64 most1)] H0 fun v H' => v = (.bool r0) ∧ H' = H0 := by
  refine ACalls.goX k_ref13_Right (m := m_ref13_Right) rfl L_ref13_Right (by decide) (by simp) fun hcl K0 hK0 => ?_
  refine AX.of_U (m := m_ref13_Right) rfl (by decide) ?_
  rw [ref13_Right.eq_1] at h
  simp only [WW, ↓reduceIte, Nat.reduceEqDiff, Nat.reduceLT, Nat.reduceLeDiff, Nat.reduceAdd, Nat.reduceSub, Nat.reduceMul, Nat.reduceBEq, reduceCtorEq, if_false, if_true, L_ref13_Right, m_ref13_Right, encLineV]
  refine UX_of (AX.weak ?_ (WxH.refl _) (ref13_Right_p1_ok (most1 := most1)  ?_))
  · exact WE.cons (Wx.int) (WE.cons (Wx.bool) (WE.nil))
  simp only [WW, ↓reduceIte, Nat.reduceEqDiff, Nat.reduceLT, Nat.reduceLeDiff, Nat.reduceAdd, Nat.reduceSub, Nat.reduceMul, Nat.reduceBEq, reduceCtorEq, if_false, if_true, L_ref13_Right, encLineV]
  have hq := Option.some.inj h; subst hq
  refine hK0 _ _ _ (.inr rfl) ?_
  exact fn_endp hcl (resv_tmp (a := (.bool ((decide (2 ≤ most1)) && (decide (most1 ≤ 65536))))) rfl rfl resv_nil) (by simp [fin, AV.df, AV.sh, AV.sh1, b_df, b_sh, b_sh1, b_Cl]) (Wx.bool) (r' := (.bool ((decide (2 ≤ most1)) && (decide (most1 ≤ 65536))))) ⟨rfl, rfl⟩

end Go.Proofs.LineS
