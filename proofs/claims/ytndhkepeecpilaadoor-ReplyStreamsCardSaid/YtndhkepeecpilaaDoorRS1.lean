import Derived.Test.YtndhkepeecpilaaDoorAmW
import Derived.Test.YtndhkepeecpilaaDoorAmPE
import Derived.Test.YtndhkepeecpilaaDoorProg
import Derived.Test.YtndhkepeecpilaaDoorRS0
set_option linter.unusedSimpArgs false
set_option linter.unusedVariables false
set_option linter.unusedSectionVars false
set_option linter.defProp false
set_option maxRecDepth 100000
namespace Go.Proofs.ReplyS
open Go Go.Am Go.Proofs

structure SplitterV where
  most : Int
  b : List UInt8
  state : Int
  long : Bool
  deriving DecidableEq

structure ReplyV where
  code : Int
  lines : List (List UInt8)
  deriving DecidableEq

structure ReaderV where
  splitter : SplitterV
  r : ReplyV
  n : Int
  bad : Bool
  deriving DecidableEq

structure LineV where
  text : List UInt8
  long : Bool
  deriving DecidableEq

structure SplitterVx where
  most : Int
  b : List UInt8
  n : Int
  cR : Bool
  deriving DecidableEq

structure ReaderVx where
  s : SplitterVx
  code : Int
  l : List (List UInt8)
  bad : Bool
  deriving DecidableEq
def encReplyV (x : ReplyV) : AV := .agg [(.int .i64 x.code), (.sl .n 1 (ml AV.str x.lines))]

/-! ### mailbag/line.may -/
def c_line_may_p1 : ACode := (.rg [⟨(some 3), (.mv (.t 0)), none⟩, ⟨(some 4), (.bin .geq (.t 3) (.c (.int .i64 2))), none⟩, ⟨(some 5), (.mv (.t 4)), none⟩, ⟨(some 6), (.mv (.t 0)), (some (5, true))⟩, ⟨(some 7), (.bin .leq (.t 6) (.c (.int .i64 65536))), (some (5, true))⟩, ⟨(some 8), (.pick (.t 5) (.t 7) (.c (.bool false))), none⟩, ⟨(some 2), (.asg (.t 8)), none⟩])
abbrev m_line_may_p1 := c_line_may_p1
def c_line_may : ACode := (.seq (.rg [⟨(some 2), (.asg (.c (.bool false))), none⟩]) (.seq c_line_may_p1 .ret))
def m_line_may : ACode := (.seq (.rg [⟨(some 2), (.asg (.c (.bool false))), none⟩]) (.seq (.sem c_line_may_p1) .ret))
theorem k_line_may : FnOk Tryd.prog 41 9 [(.tmp 2)] c_line_may := ⟨Tryd.f41, _, rfl, by decide, rfl, by kernel_rfl, rfl, rfl⟩
abbrev L_line_may : List Nat := [0, 2]
def line_may (most1 : Int) : Option (Bool) :=
  some ((decide (2 ≤ most1)) && (decide (most1 ≤ 65536)))
set_option maxHeartbeats 2000000 in
theorem line_may_p1_ok {most1 : Int} {H : AH}  {K : Exit → Env → AH → Prop}
    (kn : K .normal [(2, (.bool ((decide (2 ≤ most1)) && (decide (most1 ≤ 65536)))))] H) :
    AX Tryd.prog L_line_may 9 H.length c_line_may_p1 K [(0, (.int .i64 most1)), (2, (.bool false))] H := by
  refine AX.go (m := m_line_may_p1) rfl (by decide) fun K' hK => ?_
  simp only [WW, ↓reduceIte, Nat.reduceEqDiff, Nat.reduceLT, Nat.reduceLeDiff, Nat.reduceAdd, Nat.reduceSub, Nat.reduceMul, Nat.reduceBEq, reduceCtorEq, if_false, if_true, L_line_may, m_line_may_p1, c_line_may_p1]
  rcases bcases ((decide (2 ≤ most1))) with hy1 | hy1
  · refine UG_go hy1 ?_
    simp only [WW, ↓reduceIte, Nat.reduceEqDiff, Nat.reduceLT, Nat.reduceLeDiff, Nat.reduceAdd, Nat.reduceSub, Nat.reduceMul, Nat.reduceBEq, reduceCtorEq, if_false, if_true, L_line_may, hy1]
    refine hK _ _ _ _ _ ?_ (WxH.refl _) (kn )
    exact WE.cons (Wx.boolE (by simp only [hy1, WB])) (WE.nil)
  · refine UG_nt hy1 ?_
    simp only [WW, ↓reduceIte, Nat.reduceEqDiff, Nat.reduceLT, Nat.reduceLeDiff, Nat.reduceAdd, Nat.reduceSub, Nat.reduceMul, Nat.reduceBEq, reduceCtorEq, if_false, if_true, L_line_may, hy1]
    refine hK _ _ _ _ _ ?_ (WxH.refl _) (kn )
    exact WE.cons (Wx.boolE (by simp only [hy1, WB])) (WE.nil)
set_option maxHeartbeats 2000000 in
theorem line_may_ok {most1 : Int}  {H0 : AH}  {rz0 : Bool} (h : line_may most1 = some rz0) :
    ACalls Tryd.prog 41 [(.int .i64 most1)] H0 fun v H' => v = (.bool rz0) ∧ H' = H0 := by
  refine ACalls.goX k_line_may (m := m_line_may) rfl L_line_may (by decide) (by simp) fun hcl K0 hK0 => ?_
  refine AX.of_U (m := m_line_may) rfl (by decide) ?_
  rw [line_may.eq_1] at h
  simp only [WW, ↓reduceIte, Nat.reduceEqDiff, Nat.reduceLT, Nat.reduceLeDiff, Nat.reduceAdd, Nat.reduceSub, Nat.reduceMul, Nat.reduceBEq, reduceCtorEq, if_false, if_true, L_line_may, m_line_may]
  refine UX_of (AX.weak ?_ (WxH.refl _) (line_may_p1_ok (most1 := most1)  ?_))
  · exact WE.cons (Wx.int) (WE.cons (Wx.bool) (WE.nil))
  simp only [WW, ↓reduceIte, Nat.reduceEqDiff, Nat.reduceLT, Nat.reduceLeDiff, Nat.reduceAdd, Nat.reduceSub, Nat.reduceMul, Nat.reduceBEq, reduceCtorEq, if_false, if_true, L_line_may]
  have hq := Option.some.inj h; subst hq
  refine hK0 _ _ _ (.inr rfl) ?_
  exact fn_endp hcl (resv_tmp (a := (.bool ((decide (2 ≤ most1)) && (decide (most1 ≤ 65536))))) rfl rfl resv_nil) (by simp [fin, AV.df, AV.sh, AV.sh1, b_df, b_sh, b_sh1, b_Cl]) (Wx.bool) (r' := (.bool ((decide (2 ≤ most1)) && (decide (most1 ≤ 65536))))) ⟨rfl, rfl⟩

/-! ### mailbag/line.New -/
def c_line_New : ACode := (.seq (.rg [⟨(some 2), (.asg (.c (.v (.pointer none)))), none⟩, ⟨(some 3), (.asg (.c (.int .i64 0))), none⟩]) (.seq (.seq (.rg [⟨(some 4), (.mv (.t 0)), none⟩, ⟨(some 5), (.call (.c (.fn 41 [])) [(.t 4)]), none⟩, ⟨(some 6), (.un .not (.t 5)), none⟩]) (.cond (.t 6) (.seq (.rg [⟨(some 2), (.asg (.c (.v (.pointer none)))), none⟩, ⟨(some 3), (.asg (.c (.int .i64 1))), none⟩]) .ret) .skip)) (.seq (.rg [⟨(some 7), (.mv (.t 0)), none⟩, ⟨(some 8), (.build [(.int .i64 0), (.sl .ex 1 []), (.int .i64 0), (.bool false)] [(0, (1, (.t 7)))]), none⟩, ⟨(some 9), (.box (.t 8)), none⟩, ⟨(some 2), (.asg (.t 9)), none⟩, ⟨(some 3), (.asg (.c (.int .i64 0))), none⟩]) .ret)))
abbrev m_line_New := c_line_New
theorem k_line_New : FnOk Tryd.prog 29 10 [(.tmp 2), (.tmp 3)] c_line_New := ⟨Tryd.f29, _, rfl, by decide, rfl, by kernel_rfl, rfl, rfl⟩
abbrev L_line_New : List Nat := [0, 2, 3, 6]
def line_New (most1 : Int) : Option ((Option SplitterV) × Int) :=
  (line_may most1).bind fun r2 =>
  (if (!r2) then
    some (none, 1)
  else
    some (some (SplitterV.mk most1 ([] : List UInt8) 0 false), 0))
set_option maxHeartbeats 2000000 in
theorem line_New_ok {most1 : Int}  {H0 : AH}  {rz0 : Option SplitterV} {rz1 : Int} (h : line_New most1 = some (rz0, rz1)) :
    ACalls Tryd.prog 29 [(.int .i64 most1)] H0 fun v H' => match (generalizing := false) rz0 with | none => v = (.tup [(.v (.pointer none)), (.int .i64 rz1)]) ∧ Fr H0 H0.length [] H' | some x9000 => ∃ q9001, v = (.tup [(.ptr q9001 0), (.int .i64 rz1)]) ∧ H0.length ≤ q9001 ∧ Fr H0 H0.length [] H' ∧ H'[q9001]? = some [(.int .i64 x9000.most), (.sl .own 1 (ml b8 x9000.b)), (.int .i64 x9000.state), (.bool x9000.long)] := by
  refine ACalls.goX k_line_New (m := m_line_New) rfl L_line_New (by decide) (by simp) fun hcl K0 hK0 => ?_
  refine AX.of_U (m := m_line_New) rfl (by decide) ?_
  have hfr := Fr.refl H0 []
  have hle := hfr.le
  rw [line_New.eq_1] at h
  obtain ⟨H, hHH⟩ : ∃ H, H = H0 := ⟨_, rfl⟩
  have hfr : Fr H0 H0.length [] H := hHH ▸ hfr
  have hle := hfr.le
  suffices hU : U Tryd.prog L_line_New 10 H0.length [.code m_line_New] K0 .normal (argE 0 [(.int .i64 most1)]) H by rwa [hHH] at hU
  simp (disch := first | assumption | omega | (simp only [h_sl, h_al] <;> omega) | fail) only [WW, WH, ↓reduceIte, Nat.reduceEqDiff, Nat.reduceLT, Nat.reduceLeDiff, Nat.reduceAdd, Nat.reduceSub, Nat.reduceMul, Nat.reduceBEq, reduceCtorEq, if_false, if_true, L_line_New, m_line_New, c_line_New]
  obtain ⟨r2, hy1, h⟩ := bnd' h
  refine UK_e (as' := [(.int .i64 most1)]) (h := line_may_ok (most1 := most1)  hy1) (hw := WL.cons (Wx.int) (WL.nil)) (hh := WxH.refl _) ?_
  simp (disch := first | assumption | omega | (simp only [h_sl, h_al] <;> omega) | fail) only [WW, WH, ↓reduceIte, Nat.reduceEqDiff, Nat.reduceLT, Nat.reduceLeDiff, Nat.reduceAdd, Nat.reduceSub, Nat.reduceMul, Nat.reduceBEq, reduceCtorEq, if_false, if_true, L_line_New]
  rcases ifb h with ⟨hy2, h⟩ | ⟨hy2, h⟩
  · refine UC_t hy2 ?_
    simp (disch := first | assumption | omega | (simp only [h_sl, h_al] <;> omega) | fail) only [WW, WH, ↓reduceIte, Nat.reduceEqDiff, Nat.reduceLT, Nat.reduceLeDiff, Nat.reduceAdd, Nat.reduceSub, Nat.reduceMul, Nat.reduceBEq, reduceCtorEq, if_false, if_true, L_line_New]
    have hq := Option.some.inj h; have hq0 := (Prod.mk.inj hq).1; replace hq := (Prod.mk.inj hq).2; subst hq0; subst hq
    refine hK0 _ _ _ (.inr rfl) ?_
    exact fn_endB (resv_tmp (a := (.v (.pointer none))) rfl rfl (resv_tmp (a := (.int .i64 1)) rfl rfl resv_nil)) (r' := (.tup [(.v (.pointer none)), (.int .i64 1)])) (Wx.tupX (W2L.same (W2L.same (W2L.nil)))) (WxH.refl _) ⟨rfl, by exact hfr⟩
  · refine UC_f hy2 ?_
    simp (disch := first | assumption | omega | (simp only [h_sl, h_al] <;> omega) | fail) only [WW, WH, ↓reduceIte, Nat.reduceEqDiff, Nat.reduceLT, Nat.reduceLeDiff, Nat.reduceAdd, Nat.reduceSub, Nat.reduceMul, Nat.reduceBEq, reduceCtorEq, if_false, if_true, L_line_New]
    have hq := Option.some.inj h; have hq0 := (Prod.mk.inj hq).1; replace hq := (Prod.mk.inj hq).2; subst hq0; subst hq
    refine hK0 _ _ _ (.inr rfl) ?_
    exact fn_endB (resv_tmp (a := (.ptr H.length 0)) rfl rfl (resv_tmp (a := (.int .i64 0)) rfl rfl resv_nil)) (r' := (.tup [(.ptr H.length 0), (.int .i64 0)])) (Wx.tupX (W2L.same (W2L.same (W2L.nil)))) (WxH.set (q := H.length) (cs' := [(.int .i64 most1), (.sl .own 1 []), (.int .i64 0), (.bool false)]) ((h_new' (by first | assumption | omega | (simp only [h_sl, h_al] <;> omega) | fail)).trans rfl) (WxC.cons (Wx.int) (WxC.cons (Wx.own ..) (WxC.cons (Wx.int) (WxC.cons (Wx.bool) (WxC.nil)))))) ⟨H.length, rfl, by first | assumption | omega | (simp only [h_sl, h_al] <;> omega) | fail, by exact (Fr.set (s := H.length) (Fr.app hfr) (.inr (by first | assumption | omega | (simp only [h_sl, h_al] <;> omega) | fail))), by exact ((h_eq (by first | assumption | omega | (simp only [h_sl, h_al] <;> omega) | fail)).trans rfl)⟩

/-! ### mailbag/reply.New -/
def c_reply_New : ACode := (.seq (.rg [⟨(some 0), (.asg (.c (.v (.pointer none)))), none⟩]) (.seq (.rg [⟨(some 4), (.call (.c (.fn 29 [])) [(.c (.int .i64 512))]), none⟩, ⟨(some 3), (.mv (.t 4)), none⟩, ⟨(some 5), (.ext (.t 3) 0), none⟩, ⟨(some 6), (.ext (.t 3) 1), none⟩, ⟨(some 1), (.asg (.t 5)), none⟩, ⟨(some 2), (.asg (.t 6)), none⟩]) (.seq (.rg [⟨(some 7), (.mv (.t 1)), none⟩, ⟨(some 8), (.build [(.v (.pointer none)), (.int .i64 0), (.sl .ex 1 []), (.int .i64 0), (.bool false)] [(0, (1, (.t 7)))]), none⟩, ⟨(some 9), (.box (.t 8)), none⟩, ⟨(some 0), (.asg (.t 9)), none⟩]) .ret)))
abbrev m_reply_New := c_reply_New
theorem k_reply_New : FnOk Tryd.prog 12 10 [(.tmp 0)] c_reply_New := ⟨Tryd.f12, _, rfl, by decide, rfl, by kernel_rfl, rfl, rfl⟩
abbrev L_reply_New : List Nat := [0, 1]
def reply_New  : Option ((Option ReaderV)) :=
  ((line_New 512).bind fun (r1, r2) =>
  match r1 with
  | none =>
    none
  | some t3 =>
    some (some (ReaderV.mk t3 (ReplyV.mk 0 ([] : List (List UInt8))) 0 false)))
set_option maxHeartbeats 2000000 in
theorem reply_New_ok   {H0 : AH}  {rz0 : Option ReaderV} (h : reply_New  = some rz0) :
    ACalls Tryd.prog 12 [] H0 fun v H' => match (generalizing := false) rz0 with | none => v = (.v (.pointer none)) ∧ Fr H0 H0.length [] H' | some x9000 => ∃ q9001 q9002, v = (.ptr q9001 0) ∧ H0.length ≤ q9001 ∧ H0.length ≤ q9002 ∧ q9001 ≠ q9002 ∧ Fr H0 H0.length [] H' ∧ H'[q9001]? = some [(.ptr q9002 0), (.int .i64 x9000.r.code), (.sl .own 1 (ml AV.str x9000.r.lines)), (.int .i64 x9000.n), (.bool x9000.bad)] ∧ H'[q9002]? = some [(.int .i64 x9000.splitter.most), (.sl .own 1 (ml b8 x9000.splitter.b)), (.int .i64 x9000.splitter.state), (.bool x9000.splitter.long)] := by
  refine ACalls.goX k_reply_New (m := m_reply_New) rfl L_reply_New (by decide) (by simp) fun hcl K0 hK0 => ?_
  refine AX.of_U (m := m_reply_New) rfl (by decide) ?_
  have hfr := Fr.refl H0 []
  have hle := hfr.le
  rw [reply_New.eq_1] at h
  obtain ⟨H, hHH⟩ : ∃ H, H = H0 := ⟨_, rfl⟩
  have hfr : Fr H0 H0.length [] H := hHH ▸ hfr
  have hle := hfr.le
  suffices hU : U Tryd.prog L_reply_New 10 H0.length [.code m_reply_New] K0 .normal (argE 0 []) H by rwa [hHH] at hU
  simp (disch := first | assumption | omega | (simp only [h_sl, h_al] <;> omega) | fail) only [WW, WH, ↓reduceIte, Nat.reduceEqDiff, Nat.reduceLT, Nat.reduceLeDiff, Nat.reduceAdd, Nat.reduceSub, Nat.reduceMul, Nat.reduceBEq, reduceCtorEq, if_false, if_true, L_reply_New, m_reply_New, c_reply_New]
  obtain ⟨⟨r1, r2⟩, hy1, h⟩ := bnd' h
  dsimp only at h
  rcases r1 with _ | t3
  · try dsimp only at h
    cases h
  · try dsimp only at h
    refine UK_x (as' := [(.int .i64 512)]) (h := line_New_ok (most1 := 512)  hy1) (hw := WL.cons (Wx.int) (WL.nil)) (hh := WxH.refl _) ?_
    rintro _ H ⟨q4, rfl, hgn0, hfrn, hs_o1⟩
    try simp only [h_sl, h_al] at hgn0
    have hfr := Fr.trans hfr hfrn (by simp)
    have hle := hfr.le
    have hl_o1 := h_lt hs_o1
    simp (disch := first | assumption | omega | (simp only [h_sl, h_al] <;> omega) | fail) only [WW, WH, ↓reduceIte, Nat.reduceEqDiff, Nat.reduceLT, Nat.reduceLeDiff, Nat.reduceAdd, Nat.reduceSub, Nat.reduceMul, Nat.reduceBEq, reduceCtorEq, if_false, if_true, L_reply_New, hs_o1]
    have hq := Option.some.inj h; subst hq
    refine hK0 _ _ _ (.inr rfl) ?_
    exact fn_endB (resv_tmp (a := (.ptr H.length 0)) rfl rfl resv_nil) (r' := (.ptr H.length 0)) (Wx.ptr) (WxH.set (q := H.length) (cs' := [(.ptr q4 0), (.int .i64 0), (.sl .own 1 []), (.int .i64 0), (.bool false)]) ((h_new' (by first | assumption | omega | (simp only [h_sl, h_al] <;> omega) | fail)).trans rfl) (WxC.cons (Wx.ptr) (WxC.cons (Wx.int) (WxC.cons (Wx.own ..) (WxC.cons (Wx.int) (WxC.cons (Wx.bool) (WxC.nil))))))) ⟨H.length, q4, rfl, by first | assumption | omega | (simp only [h_sl, h_al] <;> omega) | fail, by first | assumption | omega | (simp only [h_sl, h_al] <;> omega) | fail, by first | assumption | omega | (simp only [h_sl, h_al] <;> omega) | fail, by exact (Fr.set (s := H.length) (Fr.app hfr) (.inr (by first | assumption | omega | (simp only [h_sl, h_al] <;> omega) | fail))), by exact ((h_eq (by first | assumption | omega | (simp only [h_sl, h_al] <;> omega) | fail)).trans rfl), by exact (((h_ne (by first | assumption | omega | (simp only [h_sl, h_al] <;> omega) | fail)).trans ((h_app (by first | assumption | omega | (simp only [h_sl, h_al] <;> omega) | fail)).trans (hs_o1))).trans rfl)⟩

/-! ### (*mailbag/line.Splitter).Reset -/
def c_line_Splitter_Reset : ACode := (.rg [⟨(some 2), (.mv (.t 0)), none⟩, ⟨(some 3), (.mv (.t 0)), none⟩, ⟨(some 4), (.mv (.t 0)), none⟩, ⟨(some 5), (.nck (.t 2)), none⟩, ⟨(some 6), (.fld (.t 5) 1), none⟩, ⟨none, (.st (.t 6) (.c (.sl .ex 1 [])) 1), none⟩, ⟨(some 7), (.nck (.t 3)), none⟩, ⟨(some 8), (.fld (.t 7) 2), none⟩, ⟨none, (.st (.t 8) (.c (.int .i64 0)) 1), none⟩, ⟨(some 9), (.nck (.t 4)), none⟩, ⟨(some 10), (.fld (.t 9) 3), none⟩, ⟨none, (.st (.t 10) (.c (.bool false)) 1), none⟩])
abbrev m_line_Splitter_Reset := c_line_Splitter_Reset
theorem k_line_Splitter_Reset : FnOk Tryd.prog 32 11 [] c_line_Splitter_Reset := ⟨Tryd.f32, _, rfl, by decide, rfl, by kernel_rfl, rfl, rfl⟩
abbrev L_line_Splitter_Reset : List Nat := [0]
def line_Splitter_Reset (s2 : SplitterV) : Option (SplitterV) :=
  some (SplitterV.mk s2.most ([] : List UInt8) 0 false)
set_option maxHeartbeats 2000000 in
theorem line_Splitter_Reset_ok {s2 : SplitterV} {q1 : Nat} {H0 : AH} (hs_o1 : H0[q1]? = some [(.int .i64 s2.most), (.sl .own 1 (ml b8 s2.b)), (.int .i64 s2.state), (.bool s2.long)]) {rz0 : SplitterV} (h : line_Splitter_Reset s2 = some rz0) :
    ACalls Tryd.prog 32 [(.ptr q1 0)] H0 fun v H' => v = (.tup []) ∧ H' = (H0.set q1 [(.int .i64 rz0.most), (.sl .own 1 (ml b8 rz0.b)), (.int .i64 rz0.state), (.bool rz0.long)]) := by
  refine ACalls.goX k_line_Splitter_Reset (m := m_line_Splitter_Reset) rfl L_line_Splitter_Reset (by decide) (by simp) fun hcl K0 hK0 => ?_
  refine AX.of_U (m := m_line_Splitter_Reset) rfl (by decide) ?_
  have hl_o1 := h_lt hs_o1
  have hfr := Fr.refl H0 [q1]
  have hle := hfr.le
  rw [line_Splitter_Reset.eq_1] at h
  obtain ⟨H, hHH⟩ : ∃ H, H = H0 := ⟨_, rfl⟩
  have hfr : Fr H0 H0.length [q1] H := hHH ▸ hfr
  have hs_o1 : H[q1]? = some [(.int .i64 s2.most), (.sl .own 1 (ml b8 s2.b)), (.int .i64 s2.state), (.bool s2.long)] := hHH ▸ hs_o1
  have hle := hfr.le
  have hL_o1 : q1 < H.length := h_lt hs_o1
  suffices hU : U Tryd.prog L_line_Splitter_Reset 11 H0.length [.code m_line_Splitter_Reset] K0 .normal (argE 0 [(.ptr q1 0)]) H by rwa [hHH] at hU
  simp (disch := first | assumption | omega | (simp only [h_sl, h_al] <;> omega) | fail) only [WW, WH, ↓reduceIte, Nat.reduceEqDiff, Nat.reduceLT, Nat.reduceLeDiff, Nat.reduceAdd, Nat.reduceSub, Nat.reduceMul, Nat.reduceBEq, reduceCtorEq, if_false, if_true, L_line_Splitter_Reset, m_line_Splitter_Reset, c_line_Splitter_Reset, hs_o1, encReplyV]
  have hq := Option.some.inj h; subst hq
  refine hK0 _ _ _ (.inl rfl) ?_
  exact fn_end1 (by exact (Fr.set (s := q1) (Fr.set (s := q1) (Fr.set (s := q1) hfr (.inl (by simp))) (.inl (by simp))) (.inl (by simp)))) hcl resv_nil (by simp [fin, AV.df, AV.sh, AV.sh1, b_df, b_sh, b_sh1, b_Cl]) (Wx.tupX (W2L.nil)) (by exact ((h_eq (by first | assumption | omega | (simp only [h_sl, h_al] <;> omega) | fail)).trans rfl)) (by first | assumption | omega | (simp only [h_sl, h_al] <;> omega) | fail) (by simp [b_Cl]; try omega) (WxC.cons (Wx.int) (WxC.cons (Wx.own ..) (WxC.cons (Wx.int) (WxC.cons (Wx.bool) (WxC.nil))))) (r' := (.tup [])) ⟨rfl, rfl⟩

/-! ### (*mailbag/line.Splitter).put -/
def c_line_Splitter_put : ACode := (.seq (.rg [⟨(some 4), (.mv (.t 0)), none⟩, ⟨(some 5), (.nck (.t 4)), none⟩, ⟨(some 6), (.fld (.t 5) 2), none⟩, ⟨none, (.st (.t 6) (.c (.int .i64 1)) 1), none⟩]) (.seq (.seq (.rg [⟨(some 7), (.mv (.t 0)), none⟩, ⟨(some 8), (.nck (.t 7)), none⟩, ⟨(some 9), (.fld (.t 8) 1), none⟩, ⟨(some 10), (.ld (.t 9) none), none⟩, ⟨(some 11), (.len (.t 10)), none⟩, ⟨(some 12), (.mv (.t 0)), none⟩, ⟨(some 13), (.nck (.t 12)), none⟩, ⟨(some 14), (.fld (.t 13) 0), none⟩, ⟨(some 15), (.ld (.t 14) none), none⟩, ⟨(some 16), (.bin .sub (.t 15) (.c (.int .i64 2))), none⟩, ⟨(some 17), (.bin .eql (.t 11) (.t 16)), none⟩]) (.cond (.t 17) (.seq (.rg [⟨(some 18), (.mv (.t 0)), none⟩, ⟨(some 19), (.nck (.t 18)), none⟩, ⟨(some 20), (.fld (.t 19) 3), none⟩, ⟨none, (.st (.t 20) (.c (.bool true)) 1), none⟩]) .ret) .skip)) (.rg [⟨(some 21), (.mv (.t 0)), none⟩, ⟨(some 22), (.mv (.t 0)), none⟩, ⟨(some 23), (.nck (.t 22)), none⟩, ⟨(some 24), (.fld (.t 23) 1), none⟩, ⟨(some 25), (.ld (.t 24) none), none⟩, ⟨(some 26), (.mv (.t 1)), none⟩, ⟨(some 27), (.bsl 1 [(.t 26)]), none⟩, ⟨(some 28), (.app 1 1 (.t 25) (.t 27)), none⟩, ⟨(some 29), (.nck (.t 21)), none⟩, ⟨(some 30), (.fld (.t 29) 1), none⟩, ⟨none, (.st (.t 30) (.t 28) 1), none⟩])))
abbrev m_line_Splitter_put := c_line_Splitter_put
theorem k_line_Splitter_put : FnOk Tryd.prog 42 31 [] c_line_Splitter_put := ⟨Tryd.f42, _, rfl, by decide, rfl, by kernel_rfl, rfl, rfl⟩
abbrev L_line_Splitter_put : List Nat := [0, 1, 17]
def line_Splitter_put (s2 : SplitterV) (c3 : UInt8) : Option (SplitterV) :=
  (if (decide ((s2.b.length : Int) = (IntKind.wrap .i64 (s2.most - 2)))) then
    some (SplitterV.mk s2.most s2.b 1 true)
  else
    (capp 1 s2.b ([c3] : List UInt8)).bind fun x4 => some (SplitterV.mk s2.most x4 1 s2.long))
set_option maxHeartbeats 2000000 in
theorem line_Splitter_put_ok {s2 : SplitterV} {c3 : UInt8} {q1 : Nat} {H0 : AH} (hs_o1 : H0[q1]? = some [(.int .i64 s2.most), (.sl .own 1 (ml b8 s2.b)), (.int .i64 s2.state), (.bool s2.long)]) {rz0 : SplitterV} (h : line_Splitter_put s2 c3 = some rz0) :
    ACalls Tryd.prog 42 [(.ptr q1 0), (b8 c3)] H0 fun v H' => v = (.tup []) ∧ H' = (H0.set q1 [(.int .i64 rz0.most), (.sl .own 1 (ml b8 rz0.b)), (.int .i64 rz0.state), (.bool rz0.long)]) := by
  refine ACalls.goX k_line_Splitter_put (m := m_line_Splitter_put) rfl L_line_Splitter_put (by decide) (by simp) fun hcl K0 hK0 => ?_
  refine AX.of_U (m := m_line_Splitter_put) rfl (by decide) ?_
  have hl_o1 := h_lt hs_o1
  have hfr := Fr.refl H0 [q1]
  have hle := hfr.le
  rw [line_Splitter_put.eq_1] at h
  obtain ⟨H, hHH⟩ : ∃ H, H = H0 := ⟨_, rfl⟩
  have hfr : Fr H0 H0.length [q1] H := hHH ▸ hfr
  have hs_o1 : H[q1]? = some [(.int .i64 s2.most), (.sl .own 1 (ml b8 s2.b)), (.int .i64 s2.state), (.bool s2.long)] := hHH ▸ hs_o1
  have hle := hfr.le
  have hL_o1 : q1 < H.length := h_lt hs_o1
  suffices hU : U Tryd.prog L_line_Splitter_put 31 H0.length [.code m_line_Splitter_put] K0 .normal (argE 0 [(.ptr q1 0), (b8 c3)]) H by rwa [hHH] at hU
  simp (disch := first | assumption | omega | (simp only [h_sl, h_al] <;> omega) | fail) only [WW, WH, ↓reduceIte, Nat.reduceEqDiff, Nat.reduceLT, Nat.reduceLeDiff, Nat.reduceAdd, Nat.reduceSub, Nat.reduceMul, Nat.reduceBEq, reduceCtorEq, if_false, if_true, L_line_Splitter_put, m_line_Splitter_put, c_line_Splitter_put, hs_o1, encReplyV]
  rcases ifb h with ⟨hy1, h⟩ | ⟨hy1, h⟩
  · refine UC_t hy1 ?_
    simp (disch := first | assumption | omega | (simp only [h_sl, h_al] <;> omega) | fail) only [WW, WH, ↓reduceIte, Nat.reduceEqDiff, Nat.reduceLT, Nat.reduceLeDiff, Nat.reduceAdd, Nat.reduceSub, Nat.reduceMul, Nat.reduceBEq, reduceCtorEq, if_false, if_true, L_line_Splitter_put, hs_o1, encReplyV]
    have hq := Option.some.inj h; subst hq
    refine hK0 _ _ _ (.inr rfl) ?_
    exact fn_end1 (by exact (Fr.set (s := q1) (Fr.set (s := q1) hfr (.inl (by simp))) (.inl (by simp)))) hcl resv_nil (by simp [fin, AV.df, AV.sh, AV.sh1, b_df, b_sh, b_sh1, b_Cl]) (Wx.tupX (W2L.nil)) (by exact ((h_eq (by first | assumption | omega | (simp only [h_sl, h_al] <;> omega) | fail)).trans rfl)) (by first | assumption | omega | (simp only [h_sl, h_al] <;> omega) | fail) (by simp [b_Cl]; try omega) (WxC.cons (Wx.int) (WxC.cons (Wx.oo) (WxC.cons (Wx.int) (WxC.cons (Wx.bool) (WxC.nil))))) (r' := (.tup [])) ⟨rfl, rfl⟩
  · refine UC_f hy1 ?_
    obtain ⟨x4, hy2, h⟩ := bnd' h
    have hy3 : capp 1 (ml b8 s2.b) [(b8 c3)] = some (ml b8 x4) := capp_m (f := b8) hy2
    simp (disch := first | assumption | omega | (simp only [h_sl, h_al] <;> omega) | fail) only [WW, WH, ↓reduceIte, Nat.reduceEqDiff, Nat.reduceLT, Nat.reduceLeDiff, Nat.reduceAdd, Nat.reduceSub, Nat.reduceMul, Nat.reduceBEq, reduceCtorEq, if_false, if_true, L_line_Splitter_put, hy3, hs_o1, encReplyV]
    have hq := Option.some.inj h; subst hq
    refine hK0 _ _ _ (.inl rfl) ?_
    exact fn_end1 (by exact (Fr.set (s := q1) (Fr.set (s := q1) (Fr.set (s := q1) hfr (.inl (by simp))) (.inl (by simp))) (.inl (by simp)))) hcl resv_nil (by simp [fin, AV.df, AV.sh, AV.sh1, b_df, b_sh, b_sh1, b_Cl]) (Wx.tupX (W2L.nil)) (by exact ((h_eq (by first | assumption | omega | (simp only [h_sl, h_al] <;> omega) | fail)).trans rfl)) (by first | assumption | omega | (simp only [h_sl, h_al] <;> omega) | fail) (by simp [b_Cl]; try omega) (WxC.cons (Wx.int) (WxC.cons (Wx.oo) (WxC.cons (Wx.int) (WxC.cons (Wx.bool) (WxC.nil))))) (r' := (.tup [])) ⟨rfl, rfl⟩

/-! ### (*mailbag/line.Splitter).Next -/
def c_line_Splitter_Next_p1 : ACode := (.cond (.t 21) (.seq (.seq (.rg [⟨(some 22), (.mv (.t 8)), none⟩, ⟨(some 23), (.bin .eql (.t 22) (.c (b8 10))), none⟩]) (.cond (.t 23) (.seq (.rg [⟨(some 24), (.mv (.t 0)), none⟩, ⟨(some 25), (.nck (.t 24)), none⟩, ⟨(some 26), (.fld (.t 25) 1), none⟩, ⟨(some 27), (.ld (.t 26) none), none⟩, ⟨(some 28), (.cvt .bs (.t 27)), none⟩, ⟨(some 29), (.mv (.t 0)), none⟩, ⟨(some 30), (.nck (.t 29)), none⟩, ⟨(some 31), (.fld (.t 30) 3), none⟩, ⟨(some 32), (.ld (.t 31) none), none⟩, ⟨(some 33), (.build [(.str []), (.bool false)] [(0, (1, (.t 28))), (1, (1, (.t 32)))]), none⟩, ⟨(some 9), (.alloc [(.str []), (.bool false)]), none⟩, ⟨none, (.st (.t 9) (.t 33) 2), none⟩]) (.seq (.rg [⟨(some 34), (.mv (.t 0)), none⟩, ⟨(some 35), (.call (.c (.fn 32 [])) [(.t 34)]), none⟩]) (.seq (.rg [⟨(some 36), (.ld (.t 9) (some 2)), none⟩, ⟨(some 38), (.mv (.t 1)), none⟩, ⟨(some 39), (.mv (.t 7)), none⟩, ⟨(some 40), (.bin .add (.t 39) (.c (.int .i64 1))), none⟩, ⟨(some 41), (.slc 1 (.t 38) (some (.t 40)) none none), none⟩, ⟨(some 37), (.bsl 1 []), none⟩, ⟨(some 42), (.app 1 1 (.t 37) (.t 41)), none⟩, ⟨none, (.st (.t 4) (.t 36) 2), none⟩, ⟨(some 5), (.asg (.c (.bool true))), none⟩, ⟨(some 6), (.asg (.t 42)), none⟩]) .ret))) .skip)) (.rg [⟨(some 43), (.mv (.t 0)), none⟩, ⟨(some 44), (.call (.c (.fn 42 [])) [(.t 43), (.c (b8 13))]), none⟩])) .skip)
abbrev m_line_Splitter_Next_p1 := c_line_Splitter_Next_p1
def c_line_Splitter_Next_l1b : ACode := (.seq (.rg [⟨(some 13), (.bin .lss (.t 12) (.t 11)), none⟩]) (.seq (.cond (.t 13) .skip (.exit 0)) (.seq (.blk 1 (.seq (.rg [⟨(some 14), (.mv (.t 12)), none⟩, ⟨(some 15), (.ixa 1 (.t 10) (.t 12)), none⟩, ⟨(some 16), (.ld (.t 15) none), none⟩, ⟨(some 7), (.asg (.t 14)), none⟩, ⟨(some 8), (.asg (.t 16)), none⟩]) (.seq (.seq (.rg [⟨(some 17), (.mv (.t 0)), none⟩, ⟨(some 18), (.nck (.t 17)), none⟩, ⟨(some 19), (.fld (.t 18) 2), none⟩, ⟨(some 20), (.ld (.t 19) none), none⟩, ⟨(some 21), (.bin .eql (.t 20) (.c (.int .i64 2))), none⟩]) c_line_Splitter_Next_p1) (.seq (.seq (.rg [⟨(some 45), (.mv (.t 8)), none⟩, ⟨(some 46), (.bin .eql (.t 45) (.c (b8 13))), none⟩]) (.cond (.t 46) (.seq (.rg [⟨(some 47), (.mv (.t 0)), none⟩, ⟨(some 48), (.nck (.t 47)), none⟩, ⟨(some 49), (.fld (.t 48) 2), none⟩, ⟨none, (.st (.t 49) (.c (.int .i64 2)) 1), none⟩]) (.exit 1)) .skip)) (.rg [⟨(some 50), (.mv (.t 0)), none⟩, ⟨(some 51), (.mv (.t 8)), none⟩, ⟨(some 52), (.call (.c (.fn 42 [])) [(.t 50), (.t 51)]), none⟩]))))) (.rg [⟨(some 53), (.bin .add (.t 12) (.c (.int .i64 1))), none⟩, ⟨(some 12), (.mv (.t 53)), none⟩]))))
def c_line_Splitter_Next_l1 : ACode := (.loop c_line_Splitter_Next_l1b)
def m_line_Splitter_Next_l1b : ACode := (.seq (.rg [⟨(some 13), (.bin .lss (.t 12) (.t 11)), none⟩]) (.seq (.cond (.t 13) .skip (.exit 0)) (.seq (.blk 1 (.seq (.rg [⟨(some 14), (.mv (.t 12)), none⟩, ⟨(some 15), (.ixa 1 (.t 10) (.t 12)), none⟩, ⟨(some 16), (.ld (.t 15) none), none⟩, ⟨(some 7), (.asg (.t 14)), none⟩, ⟨(some 8), (.asg (.t 16)), none⟩]) (.seq (.seq (.rg [⟨(some 17), (.mv (.t 0)), none⟩, ⟨(some 18), (.nck (.t 17)), none⟩, ⟨(some 19), (.fld (.t 18) 2), none⟩, ⟨(some 20), (.ld (.t 19) none), none⟩, ⟨(some 21), (.bin .eql (.t 20) (.c (.int .i64 2))), none⟩]) (.sem c_line_Splitter_Next_p1)) (.seq (.seq (.rg [⟨(some 45), (.mv (.t 8)), none⟩, ⟨(some 46), (.bin .eql (.t 45) (.c (b8 13))), none⟩]) (.cond (.t 46) (.seq (.rg [⟨(some 47), (.mv (.t 0)), none⟩, ⟨(some 48), (.nck (.t 47)), none⟩, ⟨(some 49), (.fld (.t 48) 2), none⟩, ⟨none, (.st (.t 49) (.c (.int .i64 2)) 1), none⟩]) (.exit 1)) .skip)) (.rg [⟨(some 50), (.mv (.t 0)), none⟩, ⟨(some 51), (.mv (.t 8)), none⟩, ⟨(some 52), (.call (.c (.fn 42 [])) [(.t 50), (.t 51)]), none⟩]))))) (.rg [⟨(some 53), (.bin .add (.t 12) (.c (.int .i64 1))), none⟩, ⟨(some 12), (.mv (.t 53)), none⟩]))))
def c_line_Splitter_Next : ACode := (.seq (.rg [⟨(some 4), (.alloc [(.str []), (.bool false)]), none⟩, ⟨(some 5), (.asg (.c (.bool false))), none⟩, ⟨(some 6), (.asg (.c (.sl .ex 1 []))), none⟩]) (.seq .skip (.seq (.seq (.rg [⟨(some 10), (.mv (.t 1)), none⟩, ⟨(some 11), (.len (.t 10)), none⟩, ⟨(some 12), (.mv (.c (.int .i64 0))), none⟩]) (.blk 0 c_line_Splitter_Next_l1)) (.seq (.rg [⟨(some 54), (.build [(.str []), (.bool false)] []), none⟩, ⟨none, (.st (.t 4) (.t 54) 2), none⟩, ⟨(some 5), (.asg (.c (.bool false))), none⟩, ⟨(some 6), (.asg (.c (.sl .ex 1 []))), none⟩]) .ret))))
abbrev m_line_Splitter_Next := c_line_Splitter_Next
theorem k_line_Splitter_Next : FnOk Tryd.prog 30 55 [(.cell 4 70), (.tmp 5), (.tmp 6)] c_line_Splitter_Next := ⟨Tryd.f30, _, rfl, by decide, rfl, by kernel_rfl, rfl, rfl⟩
abbrev L_line_Splitter_Next : List Nat := [0, 1, 4, 5, 6, 7, 8, 9, 10, 11, 12, 13, 21, 23, 46]
def line_Splitter_Next_p1 (s6 : SplitterV) (x8 : UInt8) (b3 : List UInt8) (t5 : Int) (s7 : LineV) : Option (St (LineV × Bool × (List UInt8) × SplitterV) Unit (SplitterV × LineV)) :=
  (if (decide (s6.state = 2)) then
    (if (decide (x8 = 10)) then
      (line_Splitter_Reset s6).bind fun r10 =>
      (sub b3 (IntKind.wrap .i64 (t5 + 1)) (b3.length : Int)).bind fun x11 =>
      (capp 1 ([] : List UInt8) x11).bind fun x12 => some (.ret ((LineV.mk s6.b s6.long), true, x12, r10))
    else
      (line_Splitter_put s6 13).bind fun r13 => some (.nxt (r13, s7)))
  else
    some (.nxt (s6, s7)))
def line_Splitter_Next_l1 (b3 : List UInt8) : (Int × SplitterV × LineV) → Option (St (LineV × Bool × (List UInt8) × SplitterV) (SplitterV × LineV) (Int × SplitterV × LineV))
  | (t5, s6, s7) =>
    (if (decide (t5 < (b3.length : Int))) then
      (idx b3 t5).bind fun x8 =>
      ((line_Splitter_Next_p1 s6 x8 b3 t5 s7).bind fun o27 =>
      match o27 with
      | .nxt (s20, s21) =>
        (if (decide (x8 = 13)) then
          some (.nxt ((IntKind.wrap .i64 (t5 + 1)), (SplitterV.mk s20.most s20.b 2 s20.long), s21))
        else
          (line_Splitter_put s20 x8).bind fun r22 => some (.nxt ((IntKind.wrap .i64 (t5 + 1)), r22, s21)))
      | .ret (r23, r24, r25, s26) =>
        some (.ret (r23, r24, r25, s26))
      | .brk _ => none)
    else
      some (.brk (s6, s7)))
def line_Splitter_Next (F : Nat) (s2 : SplitterV) (b3 : List UInt8) : Option (LineV × Bool × (List UInt8) × SplitterV) :=
  ((iter (line_Splitter_Next_l1 b3) F (0, s2, (LineV.mk ([] : List UInt8) false))).bind fun o40 =>
  match o40 with
  | .inr (s34, s35) =>
    some ((LineV.mk ([] : List UInt8) false), false, ([] : List UInt8), s34)
  | .inl (r36, r37, r38, s39) =>
    some (r36, r37, r38, s39))
set_option maxHeartbeats 2000000 in
theorem line_Splitter_Next_p1_ok {s6 : SplitterV} {x8 : UInt8} {b3 : List UInt8} {t5 : Int} {s7 : LineV} {q1 : Nat} {q9 : Nat} {H0 H : AH} (hfr : Fr H0 H0.length [q1] H) (hs_o1 : H[q1]? = some [(.int .i64 s6.most), (.sl .own 1 (ml b8 s6.b)), (.int .i64 s6.state), (.bool s6.long)]) (hs_o2 : H[q9]? = some [(.str s7.text), (.bool s7.long)]) (hi0 : q1 < H0.length) (hi1 : H0.length ≤ q9) {K : Exit → Env → AH → Prop} {o : St (LineV × Bool × (List UInt8) × SplitterV) Unit (SplitterV × LineV)}
    (h : line_Splitter_Next_p1 s6 x8 b3 t5 s7 = some o)
    (kn : ∀ o' : SplitterV × LineV, o = .nxt o' → ∀ H' : AH, Fr H0 H0.length [q1] H' → H'[q1]? = some [(.int .i64 o'.1.most), (.sl .own 1 (ml b8 o'.1.b)), (.int .i64 o'.1.state), (.bool o'.1.long)] → H'[q9]? = some [(.str o'.2.text), (.bool o'.2.long)] → K .normal [(0, (.ptr q1 0)), (1, (.sl .n 1 (ml b8 b3))), (4, (.ptr q9 0)), (8, (b8 x8)), (10, (.sl .n 1 (ml b8 b3))), (11, (.int .i64 (b3.length : Int))), (12, (.int .i64 t5))] H')
    (kr : ∀ o' : LineV × Bool × (List UInt8) × SplitterV, o = .ret o' → ∀ H' : AH, Fr H0 H0.length [q1] H' → H'[q1]? = some [(.int .i64 o'.2.2.2.most), (.sl .own 1 (ml b8 o'.2.2.2.b)), (.int .i64 o'.2.2.2.state), (.bool o'.2.2.2.long)] → H'[q9]? = some [(.str o'.1.text), (.bool o'.1.long)] → K .ret [(4, (.ptr q9 0)), (5, (.bool o'.2.1)), (6, (.sl .n 1 (ml b8 o'.2.2.1)))] H') :
    AX Tryd.prog L_line_Splitter_Next 55 H0.length c_line_Splitter_Next_p1 K [(0, (.ptr q1 0)), (1, (.sl .n 1 (ml b8 b3))), (4, (.ptr q9 0)), (7, (.int .i64 t5)), (8, (b8 x8)), (10, (.sl .n 1 (ml b8 b3))), (11, (.int .i64 (b3.length : Int))), (12, (.int .i64 t5)), (21, (.bool (decide (s6.state = 2))))] H := by
  refine AX.go (m := m_line_Splitter_Next_p1) rfl (by decide) fun K' hK => ?_
  have hle := hfr.le
  have hl_o1 := h_lt hs_o1
  have hl_o2 := h_lt hs_o2
  rw [line_Splitter_Next_p1.eq_1] at h
  simp (disch := first | assumption | omega | (simp only [h_sl, h_al] <;> omega) | fail) only [WW, WH, ↓reduceIte, Nat.reduceEqDiff, Nat.reduceLT, Nat.reduceLeDiff, Nat.reduceAdd, Nat.reduceSub, Nat.reduceMul, Nat.reduceBEq, reduceCtorEq, if_false, if_true, L_line_Splitter_Next, m_line_Splitter_Next_p1, c_line_Splitter_Next_p1, hs_o1, hs_o2, encReplyV]
  rcases ifb h with ⟨hy3, h⟩ | ⟨hy3, h⟩
  · refine UC_t hy3 ?_
    simp (disch := first | assumption | omega | (simp only [h_sl, h_al] <;> omega) | fail) only [WW, WH, ↓reduceIte, Nat.reduceEqDiff, Nat.reduceLT, Nat.reduceLeDiff, Nat.reduceAdd, Nat.reduceSub, Nat.reduceMul, Nat.reduceBEq, reduceCtorEq, if_false, if_true, L_line_Splitter_Next, hs_o1, hs_o2, encReplyV]
    rcases ifb h with ⟨hy4, h⟩ | ⟨hy4, h⟩
    · refine UC_t hy4 ?_
      simp (disch := first | assumption | omega | (simp only [h_sl, h_al] <;> omega) | fail) only [WW, WH, ↓reduceIte, Nat.reduceEqDiff, Nat.reduceLT, Nat.reduceLeDiff, Nat.reduceAdd, Nat.reduceSub, Nat.reduceMul, Nat.reduceBEq, reduceCtorEq, if_false, if_true, L_line_Splitter_Next, hs_o1, hs_o2, encReplyV]
      obtain ⟨r10, hy5, h⟩ := bnd' h
      refine UK_e (as' := [(.ptr q1 0)]) (h := line_Splitter_Reset_ok (s2 := s6) (q1 := q1) (by exact (((h_ne (by first | assumption | omega | (simp only [h_sl, h_al] <;> omega) | fail)).trans ((h_app (by first | assumption | omega | (simp only [h_sl, h_al] <;> omega) | fail)).trans (hs_o1))).trans rfl)) hy5) (hw := WL.cons (Wx.ptr) (WL.nil)) (hh := WxH.refl _) ?_
      obtain ⟨x11, hy6, h⟩ := bnd' h
      have hy7 := sub_m (f := b8) hy6
      obtain ⟨x12, hy8, h⟩ := bnd' h
      have hy9 : capp 1 [] (ml b8 x11) = some (ml b8 x12) := capp_m (f := b8) hy8
      simp (disch := first | assumption | omega | (simp only [h_sl, h_al] <;> omega) | fail) only [WW, WH, ↓reduceIte, Nat.reduceEqDiff, Nat.reduceLT, Nat.reduceLeDiff, Nat.reduceAdd, Nat.reduceSub, Nat.reduceMul, Nat.reduceBEq, reduceCtorEq, if_false, if_true, L_line_Splitter_Next, hy6, hy9, hs_o1, hs_o2, encReplyV]
      have hq := Option.some.inj h; subst hq
      refine hK _ _ _ _ _ ?_ (WxH.refl _) (kr _ rfl _ (Fr.set (s := q9) (Fr.set (s := q1) (Fr.set (s := H.length) (Fr.app hfr) (.inr (by first | assumption | omega | (simp only [h_sl, h_al] <;> omega) | fail))) (.inl (by simp))) (.inr (by first | assumption | omega | (simp only [h_sl, h_al] <;> omega) | fail))) (((h_ne (by first | assumption | omega | (simp only [h_sl, h_al] <;> omega) | fail)).trans (h_eq (by first | assumption | omega | (simp only [h_sl, h_al] <;> omega) | fail))).trans rfl) ((h_eq (by first | assumption | omega | (simp only [h_sl, h_al] <;> omega) | fail)).trans rfl))
      exact WE.cons (Wx.ptr) (WE.cons (Wx.bool) (WE.cons (Wx.n) (WE.nil)))
    · refine UC_f hy4 ?_
      simp (disch := first | assumption | omega | (simp only [h_sl, h_al] <;> omega) | fail) only [WW, WH, ↓reduceIte, Nat.reduceEqDiff, Nat.reduceLT, Nat.reduceLeDiff, Nat.reduceAdd, Nat.reduceSub, Nat.reduceMul, Nat.reduceBEq, reduceCtorEq, if_false, if_true, L_line_Splitter_Next, hs_o1, hs_o2, encReplyV]
      obtain ⟨r13, hy10, h⟩ := bnd' h
      refine UK_e (as' := [(.ptr q1 0), (b8 13)]) (h := line_Splitter_put_ok (s2 := s6) (c3 := 13) (q1 := q1) (by exact ((hs_o1).trans rfl)) hy10) (hw := WL.cons (Wx.ptr) (WL.cons (Wx.b8) (WL.nil))) (hh := WxH.refl _) ?_
      simp (disch := first | assumption | omega | (simp only [h_sl, h_al] <;> omega) | fail) only [WW, WH, ↓reduceIte, Nat.reduceEqDiff, Nat.reduceLT, Nat.reduceLeDiff, Nat.reduceAdd, Nat.reduceSub, Nat.reduceMul, Nat.reduceBEq, reduceCtorEq, if_false, if_true, L_line_Splitter_Next, hs_o1, hs_o2, encReplyV]
      have hq := Option.some.inj h; subst hq
      refine hK _ _ _ _ _ ?_ (WxH.refl _) (kn _ rfl _ (Fr.set (s := q1) hfr (.inl (by simp))) ((h_eq (by first | assumption | omega | (simp only [h_sl, h_al] <;> omega) | fail)).trans rfl) (((h_ne (by first | assumption | omega | (simp only [h_sl, h_al] <;> omega) | fail)).trans (hs_o2)).trans rfl))
      exact WE.cons (Wx.ptr) (WE.cons (Wx.nn) (WE.cons (Wx.ptr) (WE.cons (Wx.b8) (WE.cons (Wx.nn) (WE.cons (Wx.int) (WE.cons (Wx.int) (WE.nil)))))))
  · refine UC_f hy3 ?_
    simp (disch := first | assumption | omega | (simp only [h_sl, h_al] <;> omega) | fail) only [WW, WH, ↓reduceIte, Nat.reduceEqDiff, Nat.reduceLT, Nat.reduceLeDiff, Nat.reduceAdd, Nat.reduceSub, Nat.reduceMul, Nat.reduceBEq, reduceCtorEq, if_false, if_true, L_line_Splitter_Next, hs_o1, hs_o2, encReplyV]
    have hq := Option.some.inj h; subst hq
    refine hK _ _ _ _ _ ?_ (WxH.refl _) (kn _ rfl _ hfr ((hs_o1).trans rfl) ((hs_o2).trans rfl))
    exact WE.cons (Wx.ptr) (WE.cons (Wx.nn) (WE.cons (Wx.ptr) (WE.cons (Wx.b8) (WE.cons (Wx.nn) (WE.cons (Wx.int) (WE.cons (Wx.int) (WE.nil)))))))
set_option maxHeartbeats 2000000 in
theorem line_Splitter_Next_l1_ok {F : Nat} {t5 : Int} {b3 : List UInt8} {s6 : SplitterV} {s7 : LineV} {q1 : Nat} {q4 : Nat} {H0 H : AH} (hfr : Fr H0 H0.length [q1] H) (hs_o1 : H[q1]? = some [(.int .i64 s6.most), (.sl .own 1 (ml b8 s6.b)), (.int .i64 s6.state), (.bool s6.long)]) (hs_o2 : H[q4]? = some [(.str s7.text), (.bool s7.long)]) (hi0 : q1 < H0.length) (hi1 : H0.length ≤ q4) {K : Exit → Env → AH → Prop} {o : (LineV × Bool × (List UInt8) × SplitterV) ⊕ (SplitterV × LineV)}
    (h : iter (line_Splitter_Next_l1 b3) F (t5, s6, s7) = some o)
    (kb0 : ∀ o' : SplitterV × LineV, o = .inr o' → ∀ H' : AH, Fr H0 H0.length [q1] H' → H'[q1]? = some [(.int .i64 o'.1.most), (.sl .own 1 (ml b8 o'.1.b)), (.int .i64 o'.1.state), (.bool o'.1.long)] → H'[q4]? = some [(.str o'.2.text), (.bool o'.2.long)] → K (.exit 0) [(4, (.ptr q4 0))] H')
    (kr : ∀ o' : LineV × Bool × (List UInt8) × SplitterV, o = .inl o' → ∀ H' : AH, Fr H0 H0.length [q1] H' → H'[q1]? = some [(.int .i64 o'.2.2.2.most), (.sl .own 1 (ml b8 o'.2.2.2.b)), (.int .i64 o'.2.2.2.state), (.bool o'.2.2.2.long)] → H'[q4]? = some [(.str o'.1.text), (.bool o'.1.long)] → K .ret [(4, (.ptr q4 0)), (5, (.bool o'.2.1)), (6, (.sl .n 1 (ml b8 o'.2.2.1)))] H') :
    AX Tryd.prog L_line_Splitter_Next 55 H0.length c_line_Splitter_Next_l1 K [(0, (.ptr q1 0)), (1, (.sl .n 1 (ml b8 b3))), (4, (.ptr q4 0)), (10, (.sl .n 1 (ml b8 b3))), (11, (.int .i64 (b3.length : Int))), (12, (.int .i64 t5))] H := by
  refine AX.iter (m := m_line_Splitter_Next_l1b) rfl (by decide) (fun s e H1 => match s with | (t5, s6, s7) => e = [(0, (.ptr q1 0)), (1, (.sl .n 1 (ml b8 b3))), (4, (.ptr q4 0)), (10, (.sl .n 1 (ml b8 b3))), (11, (.int .i64 (b3.length : Int))), (12, (.int .i64 t5))] ∧ Fr H0 H0.length [q1] H1 ∧ H1[q1]? = some [(.int .i64 s6.most), (.sl .own 1 (ml b8 s6.b)), (.int .i64 s6.state), (.bool s6.long)] ∧ H1[q4]? = some [(.str s7.text), (.bool s7.long)]) h ⟨rfl, hfr, hs_o1, hs_o2⟩ ?_
  skip
  rintro K' ⟨t5, s6, s7⟩ st e H ⟨rfl, hfr, hs_o1, hs_o2⟩ h hN hB hR hX
  have hle := hfr.le
  have hl_o1 := h_lt hs_o1
  have hl_o2 := h_lt hs_o2
  rw [line_Splitter_Next_l1.eq_1] at h
  simp (disch := first | assumption | omega | (simp only [h_sl, h_al] <;> omega) | fail) only [WW, WH, ↓reduceIte, Nat.reduceEqDiff, Nat.reduceLT, Nat.reduceLeDiff, Nat.reduceAdd, Nat.reduceSub, Nat.reduceMul, Nat.reduceBEq, reduceCtorEq, if_false, if_true, L_line_Splitter_Next, m_line_Splitter_Next_l1b, hs_o1, hs_o2, encReplyV]
  rcases ifb h with ⟨hy1, h⟩ | ⟨hy1, h⟩
  · refine UC_t hy1 ?_
    obtain ⟨x8, hy2, h⟩ := bnd' h
    simp (disch := first | assumption | omega | (simp only [h_sl, h_al] <;> omega) | fail) only [WW, WH, ↓reduceIte, Nat.reduceEqDiff, Nat.reduceLT, Nat.reduceLeDiff, Nat.reduceAdd, Nat.reduceSub, Nat.reduceMul, Nat.reduceBEq, reduceCtorEq, if_false, if_true, L_line_Splitter_Next, hy2, hs_o1, hs_o2, encReplyV]
    obtain ⟨o27, hy11, h⟩ := bnd' h
    refine UX_of (AX.weak ?_ (WxH.refl _) (line_Splitter_Next_p1_ok  (s6 := s6) (x8 := x8) (b3 := b3) (t5 := t5) (s7 := s7) (q1 := q1) (q9 := q4) (hfr) ((hs_o1).trans rfl) ((hs_o2).trans rfl) (by first | assumption | omega | (simp only [h_sl, h_al] <;> omega) | fail) (by first | assumption | omega | (simp only [h_sl, h_al] <;> omega) | fail) (o := o27) hy11 ?_ ?_))
    · exact WE.cons (Wx.ptr) (WE.cons (Wx.nn) (WE.cons (Wx.ptr) (WE.cons (Wx.int) (WE.cons (Wx.b8) (WE.cons (Wx.nn) (WE.cons (Wx.int) (WE.cons (Wx.int) (WE.cons (Wx.bool) (WE.nil)))))))))
    · rintro ⟨s20, s21⟩ rfl H hfr hs_o1 hs_o2
      try dsimp only at h hs_o1 hs_o2
      have hle := hfr.le
      have hl_o1 := h_lt hs_o1
      have hl_o2 := h_lt hs_o2
      simp (disch := first | assumption | omega | (simp only [h_sl, h_al] <;> omega) | fail) only [WW, WH, ↓reduceIte, Nat.reduceEqDiff, Nat.reduceLT, Nat.reduceLeDiff, Nat.reduceAdd, Nat.reduceSub, Nat.reduceMul, Nat.reduceBEq, reduceCtorEq, if_false, if_true, L_line_Splitter_Next, hs_o1, hs_o2, encReplyV]
      rcases ifb h with ⟨hy12, h⟩ | ⟨hy12, h⟩
      · refine UC_t hy12 ?_
        simp (disch := first | assumption | omega | (simp only [h_sl, h_al] <;> omega) | fail) only [WW, WH, ↓reduceIte, Nat.reduceEqDiff, Nat.reduceLT, Nat.reduceLeDiff, Nat.reduceAdd, Nat.reduceSub, Nat.reduceMul, Nat.reduceBEq, reduceCtorEq, if_false, if_true, L_line_Splitter_Next, hs_o1, hs_o2, encReplyV]
        have hq := Option.some.inj h; subst hq
        refine hN _ rfl _ _ _ _ ?_ (WxH.refl _) ⟨rfl, (Fr.set (s := q1) hfr (.inl (by simp))), ((h_eq (by first | assumption | omega | (simp only [h_sl, h_al] <;> omega) | fail)).trans rfl), (((h_ne (by first | assumption | omega | (simp only [h_sl, h_al] <;> omega) | fail)).trans (hs_o2)).trans rfl)⟩
        exact WE.cons (Wx.ptr) (WE.cons (Wx.nn) (WE.cons (Wx.ptr) (WE.cons (Wx.nn) (WE.cons (Wx.int) (WE.cons (Wx.int) (WE.nil))))))
      · refine UC_f hy12 ?_
        simp (disch := first | assumption | omega | (simp only [h_sl, h_al] <;> omega) | fail) only [WW, WH, ↓reduceIte, Nat.reduceEqDiff, Nat.reduceLT, Nat.reduceLeDiff, Nat.reduceAdd, Nat.reduceSub, Nat.reduceMul, Nat.reduceBEq, reduceCtorEq, if_false, if_true, L_line_Splitter_Next, hs_o1, hs_o2, encReplyV]
        obtain ⟨r22, hy13, h⟩ := bnd' h
        refine UK_e (as' := [(.ptr q1 0), (b8 x8)]) (h := line_Splitter_put_ok (s2 := s20) (c3 := x8) (q1 := q1) (by exact ((hs_o1).trans rfl)) hy13) (hw := WL.cons (Wx.ptr) (WL.cons (Wx.b8) (WL.nil))) (hh := WxH.refl _) ?_
        simp (disch := first | assumption | omega | (simp only [h_sl, h_al] <;> omega) | fail) only [WW, WH, ↓reduceIte, Nat.reduceEqDiff, Nat.reduceLT, Nat.reduceLeDiff, Nat.reduceAdd, Nat.reduceSub, Nat.reduceMul, Nat.reduceBEq, reduceCtorEq, if_false, if_true, L_line_Splitter_Next, hs_o1, hs_o2, encReplyV]
        have hq := Option.some.inj h; subst hq
        refine hN _ rfl _ _ _ _ ?_ (WxH.refl _) ⟨rfl, (Fr.set (s := q1) hfr (.inl (by simp))), ((h_eq (by first | assumption | omega | (simp only [h_sl, h_al] <;> omega) | fail)).trans rfl), (((h_ne (by first | assumption | omega | (simp only [h_sl, h_al] <;> omega) | fail)).trans (hs_o2)).trans rfl)⟩
        exact WE.cons (Wx.ptr) (WE.cons (Wx.nn) (WE.cons (Wx.ptr) (WE.cons (Wx.nn) (WE.cons (Wx.int) (WE.cons (Wx.int) (WE.nil))))))
    · rintro ⟨r23, r24, r25, s26⟩ rfl H hfr hs_o1 hs_o2
      try dsimp only at h hs_o1 hs_o2
      have hle := hfr.le
      have hl_o1 := h_lt hs_o1
      have hl_o2 := h_lt hs_o2
      simp (disch := first | assumption | omega | (simp only [h_sl, h_al] <;> omega) | fail) only [WW, WH, ↓reduceIte, Nat.reduceEqDiff, Nat.reduceLT, Nat.reduceLeDiff, Nat.reduceAdd, Nat.reduceSub, Nat.reduceMul, Nat.reduceBEq, reduceCtorEq, if_false, if_true, L_line_Splitter_Next, hs_o1, hs_o2, encReplyV]
      have hq := Option.some.inj h; subst hq
      refine hX _ _ _ _ _ (by simp) ?_ (WxH.refl _) (kr _ (hR _ rfl) _ hfr ((hs_o1).trans rfl) ((hs_o2).trans rfl))
      exact WE.cons (Wx.ptr) (WE.cons (Wx.bool) (WE.cons (Wx.nn) (WE.nil)))
  · refine UC_f hy1 ?_
    simp (disch := first | assumption | omega | (simp only [h_sl, h_al] <;> omega) | fail) only [WW, WH, ↓reduceIte, Nat.reduceEqDiff, Nat.reduceLT, Nat.reduceLeDiff, Nat.reduceAdd, Nat.reduceSub, Nat.reduceMul, Nat.reduceBEq, reduceCtorEq, if_false, if_true, L_line_Splitter_Next, hs_o1, hs_o2, encReplyV]
    have hq := Option.some.inj h; subst hq
    refine hX _ _ _ _ _ (by simp) ?_ (WxH.refl _) (kb0 _ (hB _ rfl) _ hfr ((hs_o1).trans rfl) ((hs_o2).trans rfl))
    exact WE.cons (Wx.ptr) (WE.nil)
set_option maxHeartbeats 2000000 in
theorem line_Splitter_Next_ok {F : Nat} {s2 : SplitterV} {b3 : List UInt8} {q1 : Nat} {H0 : AH} (hs_o1 : H0[q1]? = some [(.int .i64 s2.most), (.sl .own 1 (ml b8 s2.b)), (.int .i64 s2.state), (.bool s2.long)]) {rz0 : LineV} {rz1 : Bool} {rz2 : List UInt8} {rz3 : SplitterV} (h : line_Splitter_Next F s2 b3 = some (rz0, rz1, rz2, rz3)) :
    ACalls Tryd.prog 30 [(.ptr q1 0), (.sl .n 1 (ml b8 b3))] H0 fun v H' => v = (.tup [(.agg [(.str rz0.text), (.bool rz0.long)]), (.bool rz1), (.sl .n 1 (ml b8 rz2))]) ∧ H' = (H0.set q1 [(.int .i64 rz3.most), (.sl .own 1 (ml b8 rz3.b)), (.int .i64 rz3.state), (.bool rz3.long)]) := by
  refine ACalls.goX k_line_Splitter_Next (m := m_line_Splitter_Next) rfl L_line_Splitter_Next (by decide) (by simp) fun hcl K0 hK0 => ?_
  refine AX.of_U (m := m_line_Splitter_Next) rfl (by decide) ?_
  have hl_o1 := h_lt hs_o1
  have hfr := Fr.refl H0 [q1]
  have hle := hfr.le
  rw [line_Splitter_Next.eq_1] at h
  obtain ⟨H, hHH⟩ : ∃ H, H = H0 := ⟨_, rfl⟩
  have hfr : Fr H0 H0.length [q1] H := hHH ▸ hfr
  have hs_o1 : H[q1]? = some [(.int .i64 s2.most), (.sl .own 1 (ml b8 s2.b)), (.int .i64 s2.state), (.bool s2.long)] := hHH ▸ hs_o1
  have hle := hfr.le
  have hL_o1 : q1 < H.length := h_lt hs_o1
  suffices hU : U Tryd.prog L_line_Splitter_Next 55 H0.length [.code m_line_Splitter_Next] K0 .normal (argE 0 [(.ptr q1 0), (.sl .n 1 (ml b8 b3))]) H by rwa [hHH] at hU
  simp (disch := first | assumption | omega | (simp only [h_sl, h_al] <;> omega) | fail) only [WW, WH, ↓reduceIte, Nat.reduceEqDiff, Nat.reduceLT, Nat.reduceLeDiff, Nat.reduceAdd, Nat.reduceSub, Nat.reduceMul, Nat.reduceBEq, reduceCtorEq, if_false, if_true, L_line_Splitter_Next, m_line_Splitter_Next, c_line_Splitter_Next, hs_o1, encReplyV]
  obtain ⟨q4, hg_q4⟩ : ∃ q : Nat, H.length = q := ⟨_, rfl⟩
  try rw [hg_q4]
  obtain ⟨o40, hy14, h⟩ := bnd' h
  refine UX_of (AX.weak ?_ (WxH.refl _) (line_Splitter_Next_l1_ok  (b3 := b3) (q1 := q1) (t5 := 0) (s6 := s2) (s7 := (LineV.mk ([] : List UInt8) false)) (q4 := q4) ((Fr.app hfr)) (((h_app (by first | assumption | omega | (simp only [h_sl, h_al] <;> omega) | fail)).trans (hs_o1)).trans rfl) ((h_new' (by first | assumption | omega | (simp only [h_sl, h_al] <;> omega) | fail)).trans rfl) (by first | assumption | omega | (simp only [h_sl, h_al] <;> omega) | fail) (by first | assumption | omega | (simp only [h_sl, h_al] <;> omega) | fail) (o := o40) hy14 ?_ ?_))
  · exact WE.cons (Wx.ptr) (WE.cons (Wx.nn) (WE.cons (Wx.ptr) (WE.cons (Wx.nn) (WE.cons (Wx.int) (WE.cons (Wx.int) (WE.nil))))))
  · rintro ⟨s34, s35⟩ rfl H hfr hs_o1 hs_o2
    try dsimp only at h hs_o1 hs_o2
    have hle := hfr.le
    have hl_o1 := h_lt hs_o1
    have hl_o2 := h_lt hs_o2
    simp (disch := first | assumption | omega | (simp only [h_sl, h_al] <;> omega) | fail) only [WW, WH, ↓reduceIte, Nat.reduceEqDiff, Nat.reduceLT, Nat.reduceLeDiff, Nat.reduceAdd, Nat.reduceSub, Nat.reduceMul, Nat.reduceBEq, reduceCtorEq, if_false, if_true, L_line_Splitter_Next, hs_o1, hs_o2, encReplyV]
    have hq := Option.some.inj h; have hq0 := (Prod.mk.inj hq).1; replace hq := (Prod.mk.inj hq).2; have hq1 := (Prod.mk.inj hq).1; replace hq := (Prod.mk.inj hq).2; have hq2 := (Prod.mk.inj hq).1; replace hq := (Prod.mk.inj hq).2; subst hq0; subst hq1; subst hq2; subst hq
    refine hK0 _ _ _ (.inr rfl) ?_
    exact fn_end1 (by exact (Fr.set (s := q4) hfr (.inr (by first | assumption | omega | (simp only [h_sl, h_al] <;> omega) | fail)))) hcl (resv_cell (cs := [(.str ([] : List UInt8)), (.bool false)]) (v := (.agg [(.str ([] : List UInt8)), (.bool false)])) (by kernel_rfl) (n := (some 2)) (by kernel_rfl) rfl (by exact ((h_eq (by first | assumption | omega | (simp only [h_sl, h_al] <;> omega) | fail)).trans rfl)) (by simp [loadc_n, loadc_1, ld1, allFlat, AV.flat, b_flat, b_sh1, AV.sh1, Tg.sh]) (resv_tmp (a := (.bool false)) rfl rfl (resv_tmp (a := (.sl .ex 1 [])) rfl rfl resv_nil))) (by simp [fin, AV.df, AV.sh, AV.sh1, b_df, b_sh, b_sh1, b_Cl]) (Wx.tupX (W2L.same (W2L.same (W2L.n (W2L.nil))))) (by exact (((h_ne (by first | assumption | omega | (simp only [h_sl, h_al] <;> omega) | fail)).trans (hs_o1)).trans rfl)) (by first | assumption | omega | (simp only [h_sl, h_al] <;> omega) | fail) (by simp [b_Cl]; try omega) (WxC.cons (Wx.int) (WxC.cons (Wx.oo) (WxC.cons (Wx.int) (WxC.cons (Wx.bool) (WxC.nil))))) (r' := (.tup [(.agg [(.str ((LineV.mk ([] : List UInt8) false).text)), (.bool ((LineV.mk ([] : List UInt8) false).long))]), (.bool false), (.sl .n 1 (ml b8 ([] : List UInt8)))])) ⟨rfl, rfl⟩
  · rintro ⟨r36, r37, r38, s39⟩ rfl H hfr hs_o1 hs_o2
    try dsimp only at h hs_o1 hs_o2
    have hle := hfr.le
    have hl_o1 := h_lt hs_o1
    have hl_o2 := h_lt hs_o2
    simp (disch := first | assumption | omega | (simp only [h_sl, h_al] <;> omega) | fail) only [WW, WH, ↓reduceIte, Nat.reduceEqDiff, Nat.reduceLT, Nat.reduceLeDiff, Nat.reduceAdd, Nat.reduceSub, Nat.reduceMul, Nat.reduceBEq, reduceCtorEq, if_false, if_true, L_line_Splitter_Next, hs_o1, hs_o2, encReplyV]
    have hq := Option.some.inj h; have hq0 := (Prod.mk.inj hq).1; replace hq := (Prod.mk.inj hq).2; have hq1 := (Prod.mk.inj hq).1; replace hq := (Prod.mk.inj hq).2; have hq2 := (Prod.mk.inj hq).1; replace hq := (Prod.mk.inj hq).2; subst hq0; subst hq1; subst hq2; subst hq
    refine hK0 _ _ _ (.inr rfl) ?_
    exact fn_end1 (by exact hfr) hcl (resv_cell (cs := [(.str r36.text), (.bool r36.long)]) (v := (.agg [(.str r36.text), (.bool r36.long)])) (by kernel_rfl) (n := (some 2)) (by kernel_rfl) rfl (by exact ((hs_o2).trans rfl)) (by simp [loadc_n, loadc_1, ld1, allFlat, AV.flat, b_flat, b_sh1, AV.sh1, Tg.sh]) (resv_tmp (a := (.bool r37)) rfl rfl (resv_tmp (a := (.sl .n 1 (ml b8 r38))) rfl rfl resv_nil))) (by simp [fin, AV.df, AV.sh, AV.sh1, b_df, b_sh, b_sh1, b_Cl]) (Wx.tupX (W2L.same (W2L.same (W2L.same (W2L.nil))))) (by exact ((hs_o1).trans rfl)) (by first | assumption | omega | (simp only [h_sl, h_al] <;> omega) | fail) (by simp [b_Cl]; try omega) (WxC.cons (Wx.int) (WxC.cons (Wx.oo) (WxC.cons (Wx.int) (WxC.cons (Wx.bool) (WxC.nil))))) (r' := (.tup [(.agg [(.str r36.text), (.bool r36.long)]), (.bool r37), (.sl .n 1 (ml b8 r38))])) ⟨rfl, rfl⟩

/-! ### mailbag/reply.Class -/
def c_reply_Class_p1 : ACode := (.rg [⟨(some 3), (.mv (.t 0)), none⟩, ⟨(some 4), (.bin .lss (.t 3) (.c (.int .i64 200))), none⟩, ⟨(some 5), (.mv (.t 4)), none⟩, ⟨(some 6), (.mv (.t 0)), (some (5, false))⟩, ⟨(some 7), (.bin .gtr (.t 6) (.c (.int .i64 599))), (some (5, false))⟩, ⟨(some 8), (.pick (.t 5) (.c (.bool true)) (.t 7)), none⟩])
abbrev m_reply_Class_p1 := c_reply_Class_p1
def c_reply_Class : ACode := (.seq (.rg [⟨(some 2), (.asg (.c (.int .i64 0))), none⟩]) (.seq (.seq c_reply_Class_p1 (.cond (.t 8) (.seq (.rg [⟨(some 2), (.asg (.c (.int .i64 0))), none⟩]) .ret) .skip)) (.seq (.rg [⟨(some 9), (.mv (.t 0)), none⟩, ⟨(some 10), (.bin .quo (.t 9) (.c (.int .i64 100))), none⟩, ⟨(some 2), (.asg (.t 10)), none⟩]) .ret)))
def m_reply_Class : ACode := (.seq (.rg [⟨(some 2), (.asg (.c (.int .i64 0))), none⟩]) (.seq (.seq (.sem c_reply_Class_p1) (.cond (.t 8) (.seq (.rg [⟨(some 2), (.asg (.c (.int .i64 0))), none⟩]) .ret) .skip)) (.seq (.rg [⟨(some 9), (.mv (.t 0)), none⟩, ⟨(some 10), (.bin .quo (.t 9) (.c (.int .i64 100))), none⟩, ⟨(some 2), (.asg (.t 10)), none⟩]) .ret)))
theorem k_reply_Class : FnOk Tryd.prog 11 11 [(.tmp 2)] c_reply_Class := ⟨Tryd.f11, _, rfl, by decide, rfl, by kernel_rfl, rfl, rfl⟩
abbrev L_reply_Class : List Nat := [0, 2, 8]
def reply_Class (code1 : Int) : Option (Int) :=
  (if ((decide (code1 < 200)) || (decide (599 < code1))) then
    some 0
  else
    some (IntKind.wrap .i64 (Int.tdiv code1 100)))
set_option maxHeartbeats 2000000 in
theorem reply_Class_p1_ok {code1 : Int} {H : AH}  {K : Exit → Env → AH → Prop}
    (kn : K .normal [(0, (.int .i64 code1)), (8, (.bool ((decide (code1 < 200)) || (decide (599 < code1)))))] H) :
    AX Tryd.prog L_reply_Class 11 H.length c_reply_Class_p1 K [(0, (.int .i64 code1))] H := by
  refine AX.go (m := m_reply_Class_p1) rfl (by decide) fun K' hK => ?_
  simp only [WW, ↓reduceIte, Nat.reduceEqDiff, Nat.reduceLT, Nat.reduceLeDiff, Nat.reduceAdd, Nat.reduceSub, Nat.reduceMul, Nat.reduceBEq, reduceCtorEq, if_false, if_true, L_reply_Class, m_reply_Class_p1, c_reply_Class_p1, encReplyV]
  rcases bcases ((decide (code1 < 200))) with hy1 | hy1
  · refine UG_nf hy1 ?_
    simp only [WW, ↓reduceIte, Nat.reduceEqDiff, Nat.reduceLT, Nat.reduceLeDiff, Nat.reduceAdd, Nat.reduceSub, Nat.reduceMul, Nat.reduceBEq, reduceCtorEq, if_false, if_true, L_reply_Class, hy1, encReplyV]
    refine hK _ _ _ _ _ ?_ (WxH.refl _) (kn )
    exact WE.cons (Wx.int) (WE.cons (Wx.boolE (by simp only [hy1, WB])) (WE.nil))
  · refine UG_go hy1 ?_
    simp only [WW, ↓reduceIte, Nat.reduceEqDiff, Nat.reduceLT, Nat.reduceLeDiff, Nat.reduceAdd, Nat.reduceSub, Nat.reduceMul, Nat.reduceBEq, reduceCtorEq, if_false, if_true, L_reply_Class, hy1, encReplyV]
    refine hK _ _ _ _ _ ?_ (WxH.refl _) (kn )
    exact WE.cons (Wx.int) (WE.cons (Wx.boolE (by simp only [hy1, WB])) (WE.nil))
set_option maxHeartbeats 2000000 in
theorem reply_Class_ok {code1 : Int}  {H0 : AH}  {rz0 : Int} (h : reply_Class code1 = some rz0) :
    ACalls Tryd.prog 11 [(.int .i64 code1)] H0 fun v H' => v = (.int .i64 rz0) ∧ H' = H0 := by
  refine ACalls.goX k_reply_Class (m := m_reply_Class) rfl L_reply_Class (by decide) (by simp) fun hcl K0 hK0 => ?_
  refine AX.of_U (m := m_reply_Class) rfl (by decide) ?_
  rw [reply_Class.eq_1] at h
  simp only [WW, ↓reduceIte, Nat.reduceEqDiff, Nat.reduceLT, Nat.reduceLeDiff, Nat.reduceAdd, Nat.reduceSub, Nat.reduceMul, Nat.reduceBEq, reduceCtorEq, if_false, if_true, L_reply_Class, m_reply_Class, encReplyV]
  refine UX_of (AX.weak ?_ (WxH.refl _) (reply_Class_p1_ok (code1 := code1)  ?_))
  · exact WE.cons (Wx.int) (WE.nil)
  simp only [WW, ↓reduceIte, Nat.reduceEqDiff, Nat.reduceLT, Nat.reduceLeDiff, Nat.reduceAdd, Nat.reduceSub, Nat.reduceMul, Nat.reduceBEq, reduceCtorEq, if_false, if_true, L_reply_Class, encReplyV]
  rcases ifb h with ⟨hy2, h⟩ | ⟨hy2, h⟩
  · refine UC_t hy2 ?_
    simp only [WW, ↓reduceIte, Nat.reduceEqDiff, Nat.reduceLT, Nat.reduceLeDiff, Nat.reduceAdd, Nat.reduceSub, Nat.reduceMul, Nat.reduceBEq, reduceCtorEq, if_false, if_true, L_reply_Class, encReplyV]
    have hq := Option.some.inj h; subst hq
    refine hK0 _ _ _ (.inr rfl) ?_
    exact fn_endp hcl (resv_tmp (a := (.int .i64 0)) rfl rfl resv_nil) (by simp [fin, AV.df, AV.sh, AV.sh1, b_df, b_sh, b_sh1, b_Cl]) (Wx.int) (r' := (.int .i64 0)) ⟨rfl, rfl⟩
  · refine UC_f hy2 ?_
    have hy3 : dv .i64 code1 100 = some (IntKind.wrap .i64 (Int.tdiv code1 100)) := rfl
    simp only [WW, ↓reduceIte, Nat.reduceEqDiff, Nat.reduceLT, Nat.reduceLeDiff, Nat.reduceAdd, Nat.reduceSub, Nat.reduceMul, Nat.reduceBEq, reduceCtorEq, if_false, if_true, L_reply_Class, hy3, encReplyV]
    have hq := Option.some.inj h; subst hq
    refine hK0 _ _ _ (.inr rfl) ?_
    exact fn_endp hcl (resv_tmp (a := (.int .i64 (IntKind.wrap .i64 (Int.tdiv code1 100)))) rfl rfl resv_nil) (by simp [fin, AV.df, AV.sh, AV.sh1, b_df, b_sh, b_sh1, b_Cl]) (Wx.int) (r' := (.int .i64 (IntKind.wrap .i64 (Int.tdiv code1 100)))) ⟨rfl, rfl⟩

/-! ### mailbag/reply.text -/
def c_reply_text_p1 : ACode := (.rg [⟨(some 9), (.mv (.t 0)), none⟩, ⟨(some 10), (.mv (.t 3)), none⟩, ⟨(some 11), (.ixs (.t 9) (.t 10)), none⟩, ⟨(some 12), (.bin .lss (.t 11) (.c (b8 32))), none⟩, ⟨(some 13), (.mv (.t 12)), none⟩, ⟨(some 14), (.mv (.t 0)), (some (13, false))⟩, ⟨(some 15), (.mv (.t 3)), (some (13, false))⟩, ⟨(some 16), (.ixs (.t 14) (.t 15)), (some (13, false))⟩, ⟨(some 17), (.bin .gtr (.t 16) (.c (b8 126))), (some (13, false))⟩, ⟨(some 18), (.pick (.t 13) (.c (.bool true)) (.t 17)), none⟩])
abbrev m_reply_text_p1 := c_reply_text_p1
def c_reply_text_l1b : ACode := (.seq (.rg [⟨(some 7), (.bin .lss (.t 6) (.t 5)), none⟩]) (.seq (.cond (.t 7) .skip (.exit 0)) (.seq (.blk 1 (.seq (.rg [⟨(some 8), (.mv (.t 6)), none⟩, ⟨(some 3), (.asg (.t 8)), none⟩]) (.seq c_reply_text_p1 (.cond (.t 18) (.seq (.rg [⟨(some 2), (.asg (.c (.bool false))), none⟩]) .ret) .skip)))) (.rg [⟨(some 19), (.bin .add (.t 6) (.c (.int .i64 1))), none⟩, ⟨(some 6), (.mv (.t 19)), none⟩]))))
def c_reply_text_l1 : ACode := (.loop c_reply_text_l1b)
def m_reply_text_l1b : ACode := (.seq (.rg [⟨(some 7), (.bin .lss (.t 6) (.t 5)), none⟩]) (.seq (.cond (.t 7) .skip (.exit 0)) (.seq (.blk 1 (.seq (.rg [⟨(some 8), (.mv (.t 6)), none⟩, ⟨(some 3), (.asg (.t 8)), none⟩]) (.seq (.sem c_reply_text_p1) (.cond (.t 18) (.seq (.rg [⟨(some 2), (.asg (.c (.bool false))), none⟩]) .ret) .skip)))) (.rg [⟨(some 19), (.bin .add (.t 6) (.c (.int .i64 1))), none⟩, ⟨(some 6), (.mv (.t 19)), none⟩]))))
def c_reply_text : ACode := (.seq (.rg [⟨(some 2), (.asg (.c (.bool false))), none⟩]) (.seq (.seq (.rg [⟨(some 4), (.mv (.t 0)), none⟩, ⟨(some 5), (.lens (.t 4)), none⟩, ⟨(some 6), (.mv (.c (.int .i64 0))), none⟩]) (.blk 0 c_reply_text_l1)) (.seq (.rg [⟨(some 20), (.mv (.t 0)), none⟩, ⟨(some 21), (.lens (.t 20)), none⟩, ⟨(some 22), (.bin .leq (.t 21) (.c (.int .i64 480))), none⟩, ⟨(some 2), (.asg (.t 22)), none⟩]) .ret)))
abbrev m_reply_text := c_reply_text
theorem k_reply_text : FnOk Tryd.prog 38 23 [(.tmp 2)] c_reply_text := ⟨Tryd.f38, _, rfl, by decide, rfl, by kernel_rfl, rfl, rfl⟩
abbrev L_reply_text : List Nat := [0, 2, 3, 5, 6, 7, 18]
def reply_text_p1 (s1 : List UInt8) (t2 : Int) : Option (Bool) :=
  (idx s1 t2).bind fun x3 =>
  (if (decide (x3 < 32)) then
    some true
  else
    some (decide (126 < x3)))
def reply_text_l1 (s1 : List UInt8) : Int → Option (St Bool Unit Int)
  | t2 =>
    (if (decide (t2 < (s1.length : Int))) then
      (reply_text_p1 s1 t2).bind fun t5 =>
      (if t5 then
        some (.ret false)
      else
        some (.nxt (IntKind.wrap .i64 (t2 + 1))))
    else
      some (.brk ()))
def reply_text (F : Nat) (s1 : List UInt8) : Option (Bool) :=
  ((iter (reply_text_l1 s1) F 0).bind fun o8 =>
  match o8 with
  | .inr () =>
    some (decide ((s1.length : Int) ≤ 480))
  | .inl r7 =>
    some r7)
set_option maxHeartbeats 2000000 in
theorem reply_text_p1_ok {s1 : List UInt8} {t2 : Int} {H : AH}  {K : Exit → Env → AH → Prop} {t4 : Bool}
    (h : reply_text_p1 s1 t2 = some t4)
    (kn : K .normal [(0, (.str s1)), (5, (.int .i64 (s1.length : Int))), (6, (.int .i64 t2)), (18, (.bool t4))] H) :
    AX Tryd.prog L_reply_text 23 H.length c_reply_text_p1 K [(0, (.str s1)), (3, (.int .i64 t2)), (5, (.int .i64 (s1.length : Int))), (6, (.int .i64 t2))] H := by
  refine AX.go (m := m_reply_text_p1) rfl (by decide) fun K' hK => ?_
  rw [reply_text_p1.eq_1] at h
  obtain ⟨x3, hy2, h⟩ := bnd' h
  simp only [WW, ↓reduceIte, Nat.reduceEqDiff, Nat.reduceLT, Nat.reduceLeDiff, Nat.reduceAdd, Nat.reduceSub, Nat.reduceMul, Nat.reduceBEq, reduceCtorEq, if_false, if_true, L_reply_text, m_reply_text_p1, c_reply_text_p1, hy2, encReplyV]
  rcases ifb h with ⟨hy3, h⟩ | ⟨hy3, h⟩
  · refine UG_nf hy3 ?_
    simp only [WW, ↓reduceIte, Nat.reduceEqDiff, Nat.reduceLT, Nat.reduceLeDiff, Nat.reduceAdd, Nat.reduceSub, Nat.reduceMul, Nat.reduceBEq, reduceCtorEq, if_false, if_true, L_reply_text, hy3, encReplyV]
    have hq := Option.some.inj h; subst hq
    refine hK _ _ _ _ _ ?_ (WxH.refl _) (kn )
    exact WE.cons (Wx.str) (WE.cons (Wx.int) (WE.cons (Wx.int) (WE.cons (Wx.bool) (WE.nil))))
  · refine UG_go hy3 ?_
    simp only [WW, ↓reduceIte, Nat.reduceEqDiff, Nat.reduceLT, Nat.reduceLeDiff, Nat.reduceAdd, Nat.reduceSub, Nat.reduceMul, Nat.reduceBEq, reduceCtorEq, if_false, if_true, L_reply_text, hy3, hy2, encReplyV]
    have hq := Option.some.inj h; subst hq
    refine hK _ _ _ _ _ ?_ (WxH.refl _) (kn )
    exact WE.cons (Wx.str) (WE.cons (Wx.int) (WE.cons (Wx.int) (WE.cons (Wx.bool) (WE.nil))))
set_option maxHeartbeats 2000000 in
theorem reply_text_l1_ok {F : Nat} {t2 : Int} {s1 : List UInt8} {H : AH}  {K : Exit → Env → AH → Prop} {o : (Bool) ⊕ (Unit)}
    (h : iter (reply_text_l1 s1) F t2 = some o)
    (kb0 : ∀ o' : Unit, o = .inr o' → K (.exit 0) [(0, (.str s1))] H)
    (kr : ∀ o' : Bool, o = .inl o' → K .ret [(2, (.bool o'))] H) :
    AX Tryd.prog L_reply_text 23 H.length c_reply_text_l1 K [(0, (.str s1)), (5, (.int .i64 (s1.length : Int))), (6, (.int .i64 t2))] H := by
  refine AX.iter (m := m_reply_text_l1b) rfl (by decide) (fun s e H1 => match s with | t2 => e = [(0, (.str s1)), (5, (.int .i64 (s1.length : Int))), (6, (.int .i64 t2))] ∧ H1 = H) h ⟨rfl, rfl⟩ ?_
  rintro K' t2 st e H ⟨rfl, rfl⟩ h hN hB hR hX
  rw [reply_text_l1.eq_1] at h
  simp only [WW, ↓reduceIte, Nat.reduceEqDiff, Nat.reduceLT, Nat.reduceLeDiff, Nat.reduceAdd, Nat.reduceSub, Nat.reduceMul, Nat.reduceBEq, reduceCtorEq, if_false, if_true, L_reply_text, m_reply_text_l1b, encReplyV]
  rcases ifb h with ⟨hy1, h⟩ | ⟨hy1, h⟩
  · refine UC_t hy1 ?_
    simp only [WW, ↓reduceIte, Nat.reduceEqDiff, Nat.reduceLT, Nat.reduceLeDiff, Nat.reduceAdd, Nat.reduceSub, Nat.reduceMul, Nat.reduceBEq, reduceCtorEq, if_false, if_true, L_reply_text, encReplyV]
    obtain ⟨t5, hy4, h⟩ := bnd' h
    refine UX_of (AX.weak ?_ (WxH.refl _) (reply_text_p1_ok  (s1 := s1) (t2 := t2) (t4 := t5)   hy4 ?_))
    · exact WE.cons (Wx.str) (WE.cons (Wx.int) (WE.cons (Wx.int) (WE.cons (Wx.int) (WE.nil))))
    simp only [WW, ↓reduceIte, Nat.reduceEqDiff, Nat.reduceLT, Nat.reduceLeDiff, Nat.reduceAdd, Nat.reduceSub, Nat.reduceMul, Nat.reduceBEq, reduceCtorEq, if_false, if_true, L_reply_text, encReplyV]
    rcases ifb h with ⟨hy5, h⟩ | ⟨hy5, h⟩
    · refine UC_t hy5 ?_
      simp only [WW, ↓reduceIte, Nat.reduceEqDiff, Nat.reduceLT, Nat.reduceLeDiff, Nat.reduceAdd, Nat.reduceSub, Nat.reduceMul, Nat.reduceBEq, reduceCtorEq, if_false, if_true, L_reply_text, encReplyV]
      have hq := Option.some.inj h; subst hq
      refine hX _ _ _ _ _ (by simp) ?_ (WxH.refl _) (kr _ (hR _ rfl) )
      exact WE.cons (Wx.bool) (WE.nil)
    · refine UC_f hy5 ?_
      simp only [WW, ↓reduceIte, Nat.reduceEqDiff, Nat.reduceLT, Nat.reduceLeDiff, Nat.reduceAdd, Nat.reduceSub, Nat.reduceMul, Nat.reduceBEq, reduceCtorEq, if_false, if_true, L_reply_text, encReplyV]
      have hq := Option.some.inj h; subst hq
      refine hN _ rfl _ _ _ _ ?_ (WxH.refl _) ⟨rfl, rfl⟩
      exact WE.cons (Wx.str) (WE.cons (Wx.int) (WE.cons (Wx.int) (WE.nil)))
  · refine UC_f hy1 ?_
    simp only [WW, ↓reduceIte, Nat.reduceEqDiff, Nat.reduceLT, Nat.reduceLeDiff, Nat.reduceAdd, Nat.reduceSub, Nat.reduceMul, Nat.reduceBEq, reduceCtorEq, if_false, if_true, L_reply_text, encReplyV]
    have hq := Option.some.inj h; subst hq
    refine hX _ _ _ _ _ (by simp) ?_ (WxH.refl _) (kb0 _ (hB _ rfl) )
    exact WE.cons (Wx.str) (WE.nil)
set_option maxHeartbeats 2000000 in
theorem reply_text_ok {F : Nat} {s1 : List UInt8}  {H0 : AH}  {rz0 : Bool} (h : reply_text F s1 = some rz0) :
    ACalls Tryd.prog 38 [(.str s1)] H0 fun v H' => v = (.bool rz0) ∧ H' = H0 := by
  refine ACalls.goX k_reply_text (m := m_reply_text) rfl L_reply_text (by decide) (by simp) fun hcl K0 hK0 => ?_
  refine AX.of_U (m := m_reply_text) rfl (by decide) ?_
  rw [reply_text.eq_1] at h
  simp only [WW, ↓reduceIte, Nat.reduceEqDiff, Nat.reduceLT, Nat.reduceLeDiff, Nat.reduceAdd, Nat.reduceSub, Nat.reduceMul, Nat.reduceBEq, reduceCtorEq, if_false, if_true, L_reply_text, m_reply_text, c_reply_text, encReplyV]
  obtain ⟨o8, hy6, h⟩ := bnd' h
  refine UX_of (AX.weak ?_ (WxH.refl _) (reply_text_l1_ok  (s1 := s1) (t2 := 0)   (o := o8) hy6 ?_ ?_))
  · exact WE.cons (Wx.str) (WE.cons (Wx.int) (WE.cons (Wx.int) (WE.nil)))
  · rintro ⟨⟩ rfl  
    try dsimp only at h 
    simp only [WW, ↓reduceIte, Nat.reduceEqDiff, Nat.reduceLT, Nat.reduceLeDiff, Nat.reduceAdd, Nat.reduceSub, Nat.reduceMul, Nat.reduceBEq, reduceCtorEq, if_false, if_true, L_reply_text, encReplyV]
    have hq := Option.some.inj h; subst hq
    refine hK0 _ _ _ (.inr rfl) ?_
    exact fn_endp hcl (resv_tmp (a := (.bool (decide ((s1.length : Int) ≤ 480)))) rfl rfl resv_nil) (by simp [fin, AV.df, AV.sh, AV.sh1, b_df, b_sh, b_sh1, b_Cl]) (Wx.bool) (r' := (.bool (decide ((s1.length : Int) ≤ 480)))) ⟨rfl, rfl⟩
  · rintro r7 rfl  
    try dsimp only at h 
    simp only [WW, ↓reduceIte, Nat.reduceEqDiff, Nat.reduceLT, Nat.reduceLeDiff, Nat.reduceAdd, Nat.reduceSub, Nat.reduceMul, Nat.reduceBEq, reduceCtorEq, if_false, if_true, L_reply_text, encReplyV]
    have hq := Option.some.inj h; subst hq
    refine hK0 _ _ _ (.inr rfl) ?_
    exact fn_endp hcl (resv_tmp (a := (.bool r7)) rfl rfl resv_nil) (by simp [fin, AV.df, AV.sh, AV.sh1, b_df, b_sh, b_sh1, b_Cl]) (Wx.bool) (r' := (.bool r7)) ⟨rfl, rfl⟩

/-! ### (*mailbag/reply.Reader).take -/
def c_reply_Reader_take_p1 : ACode := (.rg [⟨(some 13), (.fld (.t 3) 1), none⟩, ⟨(some 14), (.ld (.t 13) none), none⟩, ⟨(some 15), (.mv (.t 14)), none⟩, ⟨(some 16), (.mv (.t 6)), (some (15, false))⟩, ⟨(some 17), (.lens (.t 16)), (some (15, false))⟩, ⟨(some 18), (.bin .lss (.t 17) (.c (.int .i64 3))), (some (15, false))⟩, ⟨(some 19), (.pick (.t 15) (.c (.bool true)) (.t 18)), none⟩])
abbrev m_reply_Reader_take_p1 := c_reply_Reader_take_p1
def c_reply_Reader_take_p2 : ACode := (.rg [⟨(some 25), (.mv (.t 6)), none⟩, ⟨(some 26), (.mv (.t 10)), none⟩, ⟨(some 27), (.ixs (.t 25) (.t 26)), none⟩, ⟨(some 28), (.bin .lss (.t 27) (.c (b8 48))), none⟩, ⟨(some 29), (.mv (.t 28)), none⟩, ⟨(some 30), (.mv (.t 6)), (some (29, false))⟩, ⟨(some 31), (.mv (.t 10)), (some (29, false))⟩, ⟨(some 32), (.ixs (.t 30) (.t 31)), (some (29, false))⟩, ⟨(some 33), (.bin .gtr (.t 32) (.c (b8 57))), (some (29, false))⟩, ⟨(some 34), (.pick (.t 29) (.c (.bool true)) (.t 33)), none⟩])
abbrev m_reply_Reader_take_p2 := c_reply_Reader_take_p2
def c_reply_Reader_take_l1b : ACode := (.seq (.rg [⟨(some 23), (.bin .lss (.t 22) (.c (.int .i64 3))), none⟩]) (.seq (.cond (.t 23) .skip (.exit 0)) (.seq (.blk 1 (.seq (.rg [⟨(some 24), (.mv (.t 22)), none⟩, ⟨(some 10), (.asg (.t 24)), none⟩]) (.seq (.seq c_reply_Reader_take_p2 (.cond (.t 34) (.seq (.rg [⟨(some 4), (.asg (.c (.bool false))), none⟩, ⟨(some 5), (.asg (.c (.bool false))), none⟩]) .ret) .skip)) (.rg [⟨(some 35), (.mv (.t 7)), none⟩, ⟨(some 36), (.bin .mul (.c (.int .i64 10)) (.t 35)), none⟩, ⟨(some 37), (.mv (.t 6)), none⟩, ⟨(some 38), (.mv (.t 10)), none⟩, ⟨(some 39), (.ixs (.t 37) (.t 38)), none⟩, ⟨(some 40), (.bin .sub (.t 39) (.c (b8 48))), none⟩, ⟨(some 41), (.cvt (.int .i64) (.t 40)), none⟩, ⟨(some 42), (.bin .add (.t 36) (.t 41)), none⟩, ⟨(some 7), (.asg (.t 42)), none⟩])))) (.rg [⟨(some 43), (.bin .add (.t 22) (.c (.int .i64 1))), none⟩, ⟨(some 22), (.mv (.t 43)), none⟩]))))
def c_reply_Reader_take_l1 : ACode := (.loop c_reply_Reader_take_l1b)
def m_reply_Reader_take_l1b : ACode := (.seq (.rg [⟨(some 23), (.bin .lss (.t 22) (.c (.int .i64 3))), none⟩]) (.seq (.cond (.t 23) .skip (.exit 0)) (.seq (.blk 1 (.seq (.rg [⟨(some 24), (.mv (.t 22)), none⟩, ⟨(some 10), (.asg (.t 24)), none⟩]) (.seq (.seq (.sem c_reply_Reader_take_p2) (.cond (.t 34) (.seq (.rg [⟨(some 4), (.asg (.c (.bool false))), none⟩, ⟨(some 5), (.asg (.c (.bool false))), none⟩]) .ret) .skip)) (.rg [⟨(some 35), (.mv (.t 7)), none⟩, ⟨(some 36), (.bin .mul (.c (.int .i64 10)) (.t 35)), none⟩, ⟨(some 37), (.mv (.t 6)), none⟩, ⟨(some 38), (.mv (.t 10)), none⟩, ⟨(some 39), (.ixs (.t 37) (.t 38)), none⟩, ⟨(some 40), (.bin .sub (.t 39) (.c (b8 48))), none⟩, ⟨(some 41), (.cvt (.int .i64) (.t 40)), none⟩, ⟨(some 42), (.bin .add (.t 36) (.t 41)), none⟩, ⟨(some 7), (.asg (.t 42)), none⟩])))) (.rg [⟨(some 43), (.bin .add (.t 22) (.c (.int .i64 1))), none⟩, ⟨(some 22), (.mv (.t 43)), none⟩]))))
def c_reply_Reader_take_p3 : ACode := (.rg [⟨(some 49), (.mv (.t 9)), none⟩, ⟨(some 50), (.un .not (.t 49)), none⟩, ⟨(some 51), (.mv (.t 50)), none⟩, ⟨(some 52), (.mv (.t 8)), (some (51, true))⟩, ⟨(some 53), (.ixs (.t 52) (.c (.int .i64 0))), (some (51, true))⟩, ⟨(some 54), (.bin .neq (.t 53) (.c (b8 32))), (some (51, true))⟩, ⟨(some 55), (.pick (.t 51) (.t 54) (.c (.bool false))), none⟩])
abbrev m_reply_Reader_take_p3 := c_reply_Reader_take_p3
def c_reply_Reader_take_p4 : ACode := (.cond (.t 45) (.seq (.rg [⟨(some 46), (.mv (.t 8)), none⟩, ⟨(some 47), (.ixs (.t 46) (.c (.int .i64 0))), none⟩, ⟨(some 48), (.bin .eql (.t 47) (.c (b8 45))), none⟩, ⟨(some 9), (.asg (.t 48)), none⟩]) (.seq (.seq c_reply_Reader_take_p3 (.cond (.t 55) (.seq (.rg [⟨(some 4), (.asg (.c (.bool false))), none⟩, ⟨(some 5), (.asg (.c (.bool false))), none⟩]) .ret) .skip)) (.rg [⟨(some 56), (.mv (.t 8)), none⟩, ⟨(some 57), (.sls (.t 56) (some (.c (.int .i64 1))) none), none⟩, ⟨(some 8), (.asg (.t 57)), none⟩]))) .skip)
def m_reply_Reader_take_p4 : ACode := (.cond (.t 45) (.seq (.rg [⟨(some 46), (.mv (.t 8)), none⟩, ⟨(some 47), (.ixs (.t 46) (.c (.int .i64 0))), none⟩, ⟨(some 48), (.bin .eql (.t 47) (.c (b8 45))), none⟩, ⟨(some 9), (.asg (.t 48)), none⟩]) (.seq (.seq (.sem c_reply_Reader_take_p3) (.cond (.t 55) (.seq (.rg [⟨(some 4), (.asg (.c (.bool false))), none⟩, ⟨(some 5), (.asg (.c (.bool false))), none⟩]) .ret) .skip)) (.rg [⟨(some 56), (.mv (.t 8)), none⟩, ⟨(some 57), (.sls (.t 56) (some (.c (.int .i64 1))) none), none⟩, ⟨(some 8), (.asg (.t 57)), none⟩]))) .skip)
def c_reply_Reader_take_p5 : ACode := (.rg [⟨(some 58), (.mv (.t 7)), none⟩, ⟨(some 59), (.call (.c (.fn 11 [])) [(.t 58)]), none⟩, ⟨(some 60), (.bin .eql (.t 59) (.c (.int .i64 0))), none⟩, ⟨(some 61), (.mv (.t 60)), none⟩, ⟨(some 62), (.mv (.t 8)), (some (61, false))⟩, ⟨(some 63), (.call (.c (.fn 38 [])) [(.t 62)]), (some (61, false))⟩, ⟨(some 64), (.un .not (.t 63)), (some (61, false))⟩, ⟨(some 65), (.pick (.t 61) (.c (.bool true)) (.t 64)), none⟩, ⟨(some 66), (.mv (.t 65)), none⟩, ⟨(some 67), (.mv (.t 0)), (some (66, false))⟩, ⟨(some 68), (.nck (.t 67)), (some (66, false))⟩, ⟨(some 69), (.fld (.t 68) 1), (some (66, false))⟩, ⟨(some 70), (.fld (.t 69) 1), (some (66, false))⟩, ⟨(some 71), (.ld (.t 70) none), (some (66, false))⟩, ⟨(some 72), (.len (.t 71)), (some (66, false))⟩, ⟨(some 73), (.bin .eql (.t 72) (.c (.int .i64 20))), (some (66, false))⟩, ⟨(some 74), (.pick (.t 66) (.c (.bool true)) (.t 73)), none⟩, ⟨(some 75), (.mv (.t 74)), none⟩, ⟨(some 76), (.mv (.t 0)), (some (75, false))⟩, ⟨(some 77), (.nck (.t 76)), (some (75, false))⟩, ⟨(some 78), (.fld (.t 77) 1), (some (75, false))⟩, ⟨(some 79), (.fld (.t 78) 1), (some (75, false))⟩, ⟨(some 80), (.ld (.t 79) none), (some (75, false))⟩, ⟨(some 81), (.len (.t 80)), (some (75, false))⟩, ⟨(some 82), (.bin .gtr (.t 81) (.c (.int .i64 0))), (some (75, false))⟩, ⟨(some 83), (.mv (.t 82)), (some (75, false))⟩, ⟨(some 84), (.mv (.t 7)), (some (83, true))⟩, ⟨(some 85), (.mv (.t 0)), (some (83, true))⟩, ⟨(some 86), (.nck (.t 85)), (some (83, true))⟩, ⟨(some 87), (.fld (.t 86) 1), (some (83, true))⟩, ⟨(some 88), (.fld (.t 87) 0), (some (83, true))⟩, ⟨(some 89), (.ld (.t 88) none), (some (83, true))⟩, ⟨(some 90), (.bin .neq (.t 84) (.t 89)), (some (83, true))⟩, ⟨(some 91), (.pick (.t 83) (.t 90) (.c (.bool false))), (some (75, false))⟩, ⟨(some 92), (.pick (.t 75) (.c (.bool true)) (.t 91)), none⟩])
abbrev m_reply_Reader_take_p5 := c_reply_Reader_take_p5
def c_reply_Reader_take : ACode := (.seq (.rg [⟨(some 3), (.box (.t 1)), none⟩, ⟨(some 4), (.asg (.c (.bool false))), none⟩, ⟨(some 5), (.asg (.c (.bool false))), none⟩]) (.seq (.rg [⟨(some 11), (.fld (.t 3) 0), none⟩, ⟨(some 12), (.ld (.t 11) none), none⟩, ⟨(some 6), (.asg (.t 12)), none⟩]) (.seq (.seq c_reply_Reader_take_p1 (.cond (.t 19) (.seq (.rg [⟨(some 4), (.asg (.c (.bool false))), none⟩, ⟨(some 5), (.asg (.c (.bool false))), none⟩]) .ret) .skip)) (.seq (.rg [⟨(some 20), (.mv (.t 6)), none⟩, ⟨(some 21), (.sls (.t 20) (some (.c (.int .i64 3))) none), none⟩, ⟨(some 7), (.asg (.c (.int .i64 0))), none⟩, ⟨(some 8), (.asg (.t 21)), none⟩, ⟨(some 9), (.asg (.c (.bool false))), none⟩]) (.seq (.seq (.rg [⟨(some 22), (.mv (.c (.int .i64 0))), none⟩]) (.blk 0 c_reply_Reader_take_l1)) (.seq (.seq (.rg [⟨(some 44), (.mv (.t 8)), none⟩, ⟨(some 45), (.bin .neq (.t 44) (.c (.str []))), none⟩]) c_reply_Reader_take_p4) (.seq (.seq c_reply_Reader_take_p5 (.cond (.t 92) (.seq (.rg [⟨(some 4), (.asg (.c (.bool false))), none⟩, ⟨(some 5), (.asg (.c (.bool false))), none⟩]) .ret) .skip)) (.seq (.rg [⟨(some 93), (.mv (.t 0)), none⟩, ⟨(some 94), (.mv (.t 7)), none⟩, ⟨(some 95), (.nck (.t 93)), none⟩, ⟨(some 96), (.fld (.t 95) 1), none⟩, ⟨(some 97), (.fld (.t 96) 0), none⟩, ⟨none, (.st (.t 97) (.t 94) 1), none⟩]) (.seq (.rg [⟨(some 98), (.mv (.t 0)), none⟩, ⟨(some 99), (.mv (.t 0)), none⟩, ⟨(some 100), (.nck (.t 99)), none⟩, ⟨(some 101), (.fld (.t 100) 1), none⟩, ⟨(some 102), (.fld (.t 101) 1), none⟩, ⟨(some 103), (.ld (.t 102) none), none⟩, ⟨(some 104), (.mv (.t 8)), none⟩, ⟨(some 105), (.bsl 1 [(.t 104)]), none⟩, ⟨(some 106), (.app 1 16 (.t 103) (.t 105)), none⟩, ⟨(some 107), (.nck (.t 98)), none⟩, ⟨(some 108), (.fld (.t 107) 1), none⟩, ⟨(some 109), (.fld (.t 108) 1), none⟩, ⟨none, (.st (.t 109) (.t 106) 1), none⟩]) (.seq (.rg [⟨(some 110), (.mv (.t 0)), none⟩, ⟨(some 111), (.nck (.t 110)), none⟩, ⟨(some 112), (.fld (.t 111) 3), none⟩, ⟨(some 113), (.ld (.t 112) none), none⟩, ⟨(some 114), (.mv (.t 8)), none⟩, ⟨(some 115), (.lens (.t 114)), none⟩, ⟨(some 116), (.bin .add (.t 113) (.t 115)), none⟩, ⟨(some 117), (.nck (.t 110)), none⟩, ⟨(some 118), (.fld (.t 117) 3), none⟩, ⟨none, (.st (.t 118) (.t 116) 1), none⟩]) (.seq (.rg [⟨(some 119), (.mv (.t 9)), none⟩, ⟨(some 120), (.un .not (.t 119)), none⟩, ⟨(some 4), (.asg (.t 120)), none⟩, ⟨(some 5), (.asg (.c (.bool true))), none⟩]) .ret)))))))))))
def m_reply_Reader_take : ACode := (.seq (.rg [⟨(some 3), (.box (.t 1)), none⟩, ⟨(some 4), (.asg (.c (.bool false))), none⟩, ⟨(some 5), (.asg (.c (.bool false))), none⟩]) (.seq (.rg [⟨(some 11), (.fld (.t 3) 0), none⟩, ⟨(some 12), (.ld (.t 11) none), none⟩, ⟨(some 6), (.asg (.t 12)), none⟩]) (.seq (.seq (.sem c_reply_Reader_take_p1) (.cond (.t 19) (.seq (.rg [⟨(some 4), (.asg (.c (.bool false))), none⟩, ⟨(some 5), (.asg (.c (.bool false))), none⟩]) .ret) .skip)) (.seq (.rg [⟨(some 20), (.mv (.t 6)), none⟩, ⟨(some 21), (.sls (.t 20) (some (.c (.int .i64 3))) none), none⟩, ⟨(some 7), (.asg (.c (.int .i64 0))), none⟩, ⟨(some 8), (.asg (.t 21)), none⟩, ⟨(some 9), (.asg (.c (.bool false))), none⟩]) (.seq (.seq (.rg [⟨(some 22), (.mv (.c (.int .i64 0))), none⟩]) (.blk 0 c_reply_Reader_take_l1)) (.seq (.seq (.rg [⟨(some 44), (.mv (.t 8)), none⟩, ⟨(some 45), (.bin .neq (.t 44) (.c (.str []))), none⟩]) (.sem c_reply_Reader_take_p4)) (.seq (.seq (.sem c_reply_Reader_take_p5) (.cond (.t 92) (.seq (.rg [⟨(some 4), (.asg (.c (.bool false))), none⟩, ⟨(some 5), (.asg (.c (.bool false))), none⟩]) .ret) .skip)) (.seq (.rg [⟨(some 93), (.mv (.t 0)), none⟩, ⟨(some 94), (.mv (.t 7)), none⟩, ⟨(some 95), (.nck (.t 93)), none⟩, ⟨(some 96), (.fld (.t 95) 1), none⟩, ⟨(some 97), (.fld (.t 96) 0), none⟩, ⟨none, (.st (.t 97) (.t 94) 1), none⟩]) (.seq (.rg [⟨(some 98), (.mv (.t 0)), none⟩, ⟨(some 99), (.mv (.t 0)), none⟩, ⟨(some 100), (.nck (.t 99)), none⟩, ⟨(some 101), (.fld (.t 100) 1), none⟩, ⟨(some 102), (.fld (.t 101) 1), none⟩, ⟨(some 103), (.ld (.t 102) none), none⟩, ⟨(some 104), (.mv (.t 8)), none⟩, ⟨(some 105), (.bsl 1 [(.t 104)]), none⟩, ⟨(some 106), (.app 1 16 (.t 103) (.t 105)), none⟩, ⟨(some 107), (.nck (.t 98)), none⟩, ⟨(some 108), (.fld (.t 107) 1), none⟩, ⟨(some 109), (.fld (.t 108) 1), none⟩, ⟨none, (.st (.t 109) (.t 106) 1), none⟩]) (.seq (.rg [⟨(some 110), (.mv (.t 0)), none⟩, ⟨(some 111), (.nck (.t 110)), none⟩, ⟨(some 112), (.fld (.t 111) 3), none⟩, ⟨(some 113), (.ld (.t 112) none), none⟩, ⟨(some 114), (.mv (.t 8)), none⟩, ⟨(some 115), (.lens (.t 114)), none⟩, ⟨(some 116), (.bin .add (.t 113) (.t 115)), none⟩, ⟨(some 117), (.nck (.t 110)), none⟩, ⟨(some 118), (.fld (.t 117) 3), none⟩, ⟨none, (.st (.t 118) (.t 116) 1), none⟩]) (.seq (.rg [⟨(some 119), (.mv (.t 9)), none⟩, ⟨(some 120), (.un .not (.t 119)), none⟩, ⟨(some 4), (.asg (.t 120)), none⟩, ⟨(some 5), (.asg (.c (.bool true))), none⟩]) .ret)))))))))))
theorem k_reply_Reader_take : FnOk Tryd.prog 31 121 [(.tmp 4), (.tmp 5)] c_reply_Reader_take := ⟨Tryd.f31, _, rfl, by decide, rfl, by kernel_rfl, rfl, rfl⟩
abbrev L_reply_Reader_take : List Nat := [0, 1, 3, 4, 5, 6, 7, 8, 9, 10, 19, 22, 23, 34, 45, 55, 92]
def reply_Reader_take_p2 (l4 : LineV) (t8 : Int) : Option (Bool) :=
  (idx l4.text t8).bind fun x9 =>
  (if (decide (x9 < 48)) then
    some true
  else
    some (decide (57 < x9)))
def reply_Reader_take_l1 (l4 : LineV) (r2 : ReaderV) : (Int × Int) → Option (St (Bool × Bool × ReaderV) Int (Int × Int))
  | (code7, t8) =>
    (if (decide (t8 < 3)) then
      (reply_Reader_take_p2 l4 t8).bind fun t11 =>
      (if t11 then
        some (.ret (false, false, r2))
      else
        (idx l4.text t8).bind fun x12 =>
        some (.nxt ((IntKind.wrap .i64 ((IntKind.wrap .i64 (10 * code7)) + (IntKind.wrap .i64 ((x12 - 48).toNat : Int)))), (IntKind.wrap .i64 (t8 + 1)))))
    else
      some (.brk code7))
def reply_Reader_take_p3 (x18 : UInt8) (x6 : List UInt8) : Option (Bool) :=
  (if (!(decide (x18 = 45))) then
    (idx x6 0).bind fun x19 => some (!decide (x19 = 32))
  else
    some false)
def reply_Reader_take_p4 (x6 : List UInt8) (r2 : ReaderV) : Option (St (Bool × Bool × ReaderV) Unit ((List UInt8) × Bool)) :=
  (if (!decide (x6 = ([] : List UInt8))) then
    (idx x6 0).bind fun x18 =>
    (reply_Reader_take_p3 x18 x6).bind fun t21 =>
    (if t21 then
      some (.ret (false, false, r2))
    else
      (sub x6 1 (x6.length : Int)).bind fun x22 => some (.nxt (x22, (decide (x18 = 45)))))
  else
    some (.nxt (x6, false)))
def reply_Reader_take_p5 (F : Nat) (code17 : Int) (rest28 : List UInt8) (r2 : ReaderV) : Option (Bool) :=
  (reply_Class code17).bind fun r30 =>
  (if (decide (r30 = 0)) then
    some true
  else
    (reply_text F rest28).bind fun r31 =>
    (if (!r31) then
      some true
    else
      (if (decide ((r2.r.lines.length : Int) = 20)) then
        some true
      else
        (if (decide (0 < (r2.r.lines.length : Int))) then
          some (!decide (code17 = r2.r.code))
        else
          some false))))
def reply_Reader_take (F : Nat) (r2 : ReaderV) (l4 : LineV) : Option (Bool × Bool × ReaderV) :=
  (if (l4.long || (decide ((l4.text.length : Int) < 3))) then
    some (false, false, r2)
  else
    (sub l4.text 3 (l4.text.length : Int)).bind fun x6 =>
    ((iter (reply_Reader_take_l1 l4 r2) F (0, 0)).bind fun o42 =>
    match o42 with
    | .inr code17 =>
      ((reply_Reader_take_p4 x6 r2).bind fun o38 =>
      match o38 with
      | .nxt (rest28, more29) =>
        (reply_Reader_take_p5 F code17 rest28 r2).bind fun t33 =>
        (if t33 then
          some (false, false, r2)
        else
          (capp 16 r2.r.lines ([rest28] : List (List UInt8))).bind fun x34 =>
          some ((!more29), true, (ReaderV.mk r2.splitter (ReplyV.mk code17 x34) (IntKind.wrap .i64 (r2.n + (rest28.length : Int))) r2.bad)))
      | .ret (r35, r36, s37) =>
        some (r35, r36, s37)
      | .brk _ => none)
    | .inl (r39, r40, s41) =>
      some (r39, r40, s41)))
set_option maxHeartbeats 2000000 in
theorem reply_Reader_take_p1_ok {q1 : Nat} {q5 : Nat} {l4 : LineV} {q3 : Nat} {r2 : ReaderV} {H0 H : AH} (hfr : Fr H0 H0.length [q1] H) (hs_o1 : H[q1]? = some [(.ptr q3 0), (.int .i64 r2.r.code), (.sl .own 1 (ml AV.str r2.r.lines)), (.int .i64 r2.n), (.bool r2.bad)]) (hs_o2 : H[q3]? = some [(.int .i64 r2.splitter.most), (.sl .own 1 (ml b8 r2.splitter.b)), (.int .i64 r2.splitter.state), (.bool r2.splitter.long)]) (hs_o3 : H[q5]? = some [(.str l4.text), (.bool l4.long)]) (hi0 : q1 < H0.length) (hi1 : q3 < H0.length) (hi2 : q1 ≠ q3) (hi3 : H0.length ≤ q5) {K : Exit → Env → AH → Prop}
    (kn : ∀ H' : AH, Fr H0 H0.length [q1] H' → H'[q1]? = some [(.ptr q3 0), (.int .i64 r2.r.code), (.sl .own 1 (ml AV.str r2.r.lines)), (.int .i64 r2.n), (.bool r2.bad)] → H'[q3]? = some [(.int .i64 r2.splitter.most), (.sl .own 1 (ml b8 r2.splitter.b)), (.int .i64 r2.splitter.state), (.bool r2.splitter.long)] → H'[q5]? = some [(.str l4.text), (.bool l4.long)] → K .normal [(0, (.ptr q1 0)), (6, (.str l4.text)), (19, (.bool (l4.long || (decide ((l4.text.length : Int) < 3)))))] H') :
    AX Tryd.prog L_reply_Reader_take 121 H0.length c_reply_Reader_take_p1 K [(0, (.ptr q1 0)), (3, (.ptr q5 0)), (6, (.str l4.text))] H := by
  refine AX.go (m := m_reply_Reader_take_p1) rfl (by decide) fun K' hK => ?_
  have hle := hfr.le
  have hl_o1 := h_lt hs_o1
  have hl_o2 := h_lt hs_o2
  have hl_o3 := h_lt hs_o3
  simp (disch := first | assumption | omega | (simp only [h_sl, h_al] <;> omega) | fail) only [WW, WH, ↓reduceIte, Nat.reduceEqDiff, Nat.reduceLT, Nat.reduceLeDiff, Nat.reduceAdd, Nat.reduceSub, Nat.reduceMul, Nat.reduceBEq, reduceCtorEq, if_false, if_true, L_reply_Reader_take, m_reply_Reader_take_p1, c_reply_Reader_take_p1, hs_o1, hs_o2, hs_o3, encReplyV]
  rcases bcases (l4.long) with hy1 | hy1
  · refine UG_nf hy1 ?_
    simp (disch := first | assumption | omega | (simp only [h_sl, h_al] <;> omega) | fail) only [WW, WH, ↓reduceIte, Nat.reduceEqDiff, Nat.reduceLT, Nat.reduceLeDiff, Nat.reduceAdd, Nat.reduceSub, Nat.reduceMul, Nat.reduceBEq, reduceCtorEq, if_false, if_true, L_reply_Reader_take, hy1, hs_o1, hs_o2, hs_o3, encReplyV]
    refine hK _ _ _ _ _ ?_ (WxH.refl _) (kn _ hfr ((hs_o1).trans rfl) ((hs_o2).trans rfl) ((hs_o3).trans rfl))
    exact WE.cons (Wx.ptr) (WE.cons (Wx.str) (WE.cons (Wx.boolE (by simp only [hy1, WB])) (WE.nil)))
  · refine UG_go hy1 ?_
    simp (disch := first | assumption | omega | (simp only [h_sl, h_al] <;> omega) | fail) only [WW, WH, ↓reduceIte, Nat.reduceEqDiff, Nat.reduceLT, Nat.reduceLeDiff, Nat.reduceAdd, Nat.reduceSub, Nat.reduceMul, Nat.reduceBEq, reduceCtorEq, if_false, if_true, L_reply_Reader_take, hy1, hs_o1, hs_o2, hs_o3, encReplyV]
    refine hK _ _ _ _ _ ?_ (WxH.refl _) (kn _ hfr ((hs_o1).trans rfl) ((hs_o2).trans rfl) ((hs_o3).trans rfl))
    exact WE.cons (Wx.ptr) (WE.cons (Wx.str) (WE.cons (Wx.boolE (by simp only [hy1, WB])) (WE.nil)))
set_option maxHeartbeats 2000000 in
theorem reply_Reader_take_p2_ok {l4 : LineV} {t8 : Int} {q1 : Nat} {code7 : Int} {x6 : List UInt8} {q3 : Nat} {r2 : ReaderV} {H0 H : AH} (hfr : Fr H0 H0.length [q1] H) (hs_o1 : H[q1]? = some [(.ptr q3 0), (.int .i64 r2.r.code), (.sl .own 1 (ml AV.str r2.r.lines)), (.int .i64 r2.n), (.bool r2.bad)]) (hs_o2 : H[q3]? = some [(.int .i64 r2.splitter.most), (.sl .own 1 (ml b8 r2.splitter.b)), (.int .i64 r2.splitter.state), (.bool r2.splitter.long)]) (hi0 : q1 < H0.length) (hi1 : q3 < H0.length) (hi2 : q1 ≠ q3) {K : Exit → Env → AH → Prop} {t10 : Bool}
    (h : reply_Reader_take_p2 l4 t8 = some t10)
    (kn : ∀ H' : AH, Fr H0 H0.length [q1] H' → H'[q1]? = some [(.ptr q3 0), (.int .i64 r2.r.code), (.sl .own 1 (ml AV.str r2.r.lines)), (.int .i64 r2.n), (.bool r2.bad)] → H'[q3]? = some [(.int .i64 r2.splitter.most), (.sl .own 1 (ml b8 r2.splitter.b)), (.int .i64 r2.splitter.state), (.bool r2.splitter.long)] → K .normal [(0, (.ptr q1 0)), (6, (.str l4.text)), (7, (.int .i64 code7)), (8, (.str x6)), (9, (.bool false)), (10, (.int .i64 t8)), (22, (.int .i64 t8)), (34, (.bool t10))] H') :
    AX Tryd.prog L_reply_Reader_take 121 H0.length c_reply_Reader_take_p2 K [(0, (.ptr q1 0)), (6, (.str l4.text)), (7, (.int .i64 code7)), (8, (.str x6)), (9, (.bool false)), (10, (.int .i64 t8)), (22, (.int .i64 t8))] H := by
  refine AX.go (m := m_reply_Reader_take_p2) rfl (by decide) fun K' hK => ?_
  have hle := hfr.le
  have hl_o1 := h_lt hs_o1
  have hl_o2 := h_lt hs_o2
  rw [reply_Reader_take_p2.eq_1] at h
  obtain ⟨x9, hy5, h⟩ := bnd' h
  simp (disch := first | assumption | omega | (simp only [h_sl, h_al] <;> omega) | fail) only [WW, WH, ↓reduceIte, Nat.reduceEqDiff, Nat.reduceLT, Nat.reduceLeDiff, Nat.reduceAdd, Nat.reduceSub, Nat.reduceMul, Nat.reduceBEq, reduceCtorEq, if_false, if_true, L_reply_Reader_take, m_reply_Reader_take_p2, c_reply_Reader_take_p2, hy5, hs_o1, hs_o2, encReplyV]
  rcases ifb h with ⟨hy6, h⟩ | ⟨hy6, h⟩
  · refine UG_nf hy6 ?_
    simp (disch := first | assumption | omega | (simp only [h_sl, h_al] <;> omega) | fail) only [WW, WH, ↓reduceIte, Nat.reduceEqDiff, Nat.reduceLT, Nat.reduceLeDiff, Nat.reduceAdd, Nat.reduceSub, Nat.reduceMul, Nat.reduceBEq, reduceCtorEq, if_false, if_true, L_reply_Reader_take, hy6, hs_o1, hs_o2, encReplyV]
    have hq := Option.some.inj h; subst hq
    refine hK _ _ _ _ _ ?_ (WxH.refl _) (kn _ hfr ((hs_o1).trans rfl) ((hs_o2).trans rfl))
    exact WE.cons (Wx.ptr) (WE.cons (Wx.str) (WE.cons (Wx.int) (WE.cons (Wx.str) (WE.cons (Wx.bool) (WE.cons (Wx.int) (WE.cons (Wx.int) (WE.cons (Wx.bool) (WE.nil))))))))
  · refine UG_go hy6 ?_
    simp (disch := first | assumption | omega | (simp only [h_sl, h_al] <;> omega) | fail) only [WW, WH, ↓reduceIte, Nat.reduceEqDiff, Nat.reduceLT, Nat.reduceLeDiff, Nat.reduceAdd, Nat.reduceSub, Nat.reduceMul, Nat.reduceBEq, reduceCtorEq, if_false, if_true, L_reply_Reader_take, hy6, hy5, hs_o1, hs_o2, encReplyV]
    have hq := Option.some.inj h; subst hq
    refine hK _ _ _ _ _ ?_ (WxH.refl _) (kn _ hfr ((hs_o1).trans rfl) ((hs_o2).trans rfl))
    exact WE.cons (Wx.ptr) (WE.cons (Wx.str) (WE.cons (Wx.int) (WE.cons (Wx.str) (WE.cons (Wx.bool) (WE.cons (Wx.int) (WE.cons (Wx.int) (WE.cons (Wx.bool) (WE.nil))))))))
set_option maxHeartbeats 2000000 in
theorem reply_Reader_take_l1_ok {F : Nat} {t8 : Int} {l4 : LineV} {r2 : ReaderV} {code7 : Int} {q1 : Nat} {x6 : List UInt8} {q3 : Nat} {H0 H : AH} (hfr : Fr H0 H0.length [q1] H) (hs_o1 : H[q1]? = some [(.ptr q3 0), (.int .i64 r2.r.code), (.sl .own 1 (ml AV.str r2.r.lines)), (.int .i64 r2.n), (.bool r2.bad)]) (hs_o2 : H[q3]? = some [(.int .i64 r2.splitter.most), (.sl .own 1 (ml b8 r2.splitter.b)), (.int .i64 r2.splitter.state), (.bool r2.splitter.long)]) (hi0 : q1 < H0.length) (hi1 : q3 < H0.length) (hi2 : q1 ≠ q3) {K : Exit → Env → AH → Prop} {o : (Bool × Bool × ReaderV) ⊕ (Int)}
    (h : iter (reply_Reader_take_l1 l4 r2) F (code7, t8) = some o)
    (kb0 : ∀ o' : Int, o = .inr o' → ∀ H' : AH, Fr H0 H0.length [q1] H' → H'[q1]? = some [(.ptr q3 0), (.int .i64 r2.r.code), (.sl .own 1 (ml AV.str r2.r.lines)), (.int .i64 r2.n), (.bool r2.bad)] → H'[q3]? = some [(.int .i64 r2.splitter.most), (.sl .own 1 (ml b8 r2.splitter.b)), (.int .i64 r2.splitter.state), (.bool r2.splitter.long)] → K (.exit 0) [(0, (.ptr q1 0)), (7, (.int .i64 o')), (8, (.str x6)), (9, (.bool false))] H')
    (kr : ∀ o' : Bool × Bool × ReaderV, o = .inl o' → ∀ H' : AH, Fr H0 H0.length [q1] H' → H'[q1]? = some [(.ptr q3 0), (.int .i64 o'.2.2.r.code), (.sl .own 1 (ml AV.str o'.2.2.r.lines)), (.int .i64 o'.2.2.n), (.bool o'.2.2.bad)] → H'[q3]? = some [(.int .i64 o'.2.2.splitter.most), (.sl .own 1 (ml b8 o'.2.2.splitter.b)), (.int .i64 o'.2.2.splitter.state), (.bool o'.2.2.splitter.long)] → K .ret [(4, (.bool o'.1)), (5, (.bool o'.2.1))] H') :
    AX Tryd.prog L_reply_Reader_take 121 H0.length c_reply_Reader_take_l1 K [(0, (.ptr q1 0)), (6, (.str l4.text)), (7, (.int .i64 code7)), (8, (.str x6)), (9, (.bool false)), (22, (.int .i64 t8))] H := by
  refine AX.iter (m := m_reply_Reader_take_l1b) rfl (by decide) (fun s e H1 => match s with | (code7, t8) => e = [(0, (.ptr q1 0)), (6, (.str l4.text)), (7, (.int .i64 code7)), (8, (.str x6)), (9, (.bool false)), (22, (.int .i64 t8))] ∧ Fr H0 H0.length [q1] H1 ∧ H1[q1]? = some [(.ptr q3 0), (.int .i64 r2.r.code), (.sl .own 1 (ml AV.str r2.r.lines)), (.int .i64 r2.n), (.bool r2.bad)] ∧ H1[q3]? = some [(.int .i64 r2.splitter.most), (.sl .own 1 (ml b8 r2.splitter.b)), (.int .i64 r2.splitter.state), (.bool r2.splitter.long)]) h ⟨rfl, hfr, hs_o1, hs_o2⟩ ?_
  skip
  rintro K' ⟨code7, t8⟩ st e H ⟨rfl, hfr, hs_o1, hs_o2⟩ h hN hB hR hX
  have hle := hfr.le
  have hl_o1 := h_lt hs_o1
  have hl_o2 := h_lt hs_o2
  rw [reply_Reader_take_l1.eq_1] at h
  simp (disch := first | assumption | omega | (simp only [h_sl, h_al] <;> omega) | fail) only [WW, WH, ↓reduceIte, Nat.reduceEqDiff, Nat.reduceLT, Nat.reduceLeDiff, Nat.reduceAdd, Nat.reduceSub, Nat.reduceMul, Nat.reduceBEq, reduceCtorEq, if_false, if_true, L_reply_Reader_take, m_reply_Reader_take_l1b, hs_o1, hs_o2, encReplyV]
  rcases ifb h with ⟨hy4, h⟩ | ⟨hy4, h⟩
  · refine UC_t hy4 ?_
    simp (disch := first | assumption | omega | (simp only [h_sl, h_al] <;> omega) | fail) only [WW, WH, ↓reduceIte, Nat.reduceEqDiff, Nat.reduceLT, Nat.reduceLeDiff, Nat.reduceAdd, Nat.reduceSub, Nat.reduceMul, Nat.reduceBEq, reduceCtorEq, if_false, if_true, L_reply_Reader_take, hs_o1, hs_o2, encReplyV]
    obtain ⟨t11, hy7, h⟩ := bnd' h
    refine UX_of (AX.weak ?_ (WxH.refl _) (reply_Reader_take_p2_ok  (l4 := l4) (t8 := t8) (q1 := q1) (code7 := code7) (x6 := x6) (q3 := q3) (r2 := r2) (t10 := t11)  (hfr) ((hs_o1).trans rfl) ((hs_o2).trans rfl) (by first | assumption | omega | (simp only [h_sl, h_al] <;> omega) | fail) (by first | assumption | omega | (simp only [h_sl, h_al] <;> omega) | fail) (by first | assumption | omega | (simp only [h_sl, h_al] <;> omega) | fail) hy7 ?_))
    · exact WE.cons (Wx.ptr) (WE.cons (Wx.str) (WE.cons (Wx.int) (WE.cons (Wx.str) (WE.cons (Wx.bool) (WE.cons (Wx.int) (WE.cons (Wx.int) (WE.nil)))))))
    intro H hfr hs_o1 hs_o2
    have hle := hfr.le
    have hl_o1 := h_lt hs_o1
    have hl_o2 := h_lt hs_o2
    simp (disch := first | assumption | omega | (simp only [h_sl, h_al] <;> omega) | fail) only [WW, WH, ↓reduceIte, Nat.reduceEqDiff, Nat.reduceLT, Nat.reduceLeDiff, Nat.reduceAdd, Nat.reduceSub, Nat.reduceMul, Nat.reduceBEq, reduceCtorEq, if_false, if_true, L_reply_Reader_take, hs_o1, hs_o2, encReplyV]
    rcases ifb h with ⟨hy8, h⟩ | ⟨hy8, h⟩
    · refine UC_t hy8 ?_
      simp (disch := first | assumption | omega | (simp only [h_sl, h_al] <;> omega) | fail) only [WW, WH, ↓reduceIte, Nat.reduceEqDiff, Nat.reduceLT, Nat.reduceLeDiff, Nat.reduceAdd, Nat.reduceSub, Nat.reduceMul, Nat.reduceBEq, reduceCtorEq, if_false, if_true, L_reply_Reader_take, hs_o1, hs_o2, encReplyV]
      have hq := Option.some.inj h; subst hq
      refine hX _ _ _ _ _ (by simp) ?_ (WxH.refl _) (kr _ (hR _ rfl) _ hfr ((hs_o1).trans rfl) ((hs_o2).trans rfl))
      exact WE.cons (Wx.bool) (WE.cons (Wx.bool) (WE.nil))
    · refine UC_f hy8 ?_
      obtain ⟨x12, hy9, h⟩ := bnd' h
      simp (disch := first | assumption | omega | (simp only [h_sl, h_al] <;> omega) | fail) only [WW, WH, ↓reduceIte, Nat.reduceEqDiff, Nat.reduceLT, Nat.reduceLeDiff, Nat.reduceAdd, Nat.reduceSub, Nat.reduceMul, Nat.reduceBEq, reduceCtorEq, if_false, if_true, L_reply_Reader_take, hy9, hs_o1, hs_o2, encReplyV]
      have hq := Option.some.inj h; subst hq
      refine hN _ rfl _ _ _ _ ?_ (WxH.refl _) ⟨rfl, hfr, ((hs_o1).trans rfl), ((hs_o2).trans rfl)⟩
      exact WE.cons (Wx.ptr) (WE.cons (Wx.str) (WE.cons (Wx.int) (WE.cons (Wx.str) (WE.cons (Wx.bool) (WE.cons (Wx.int) (WE.nil))))))
  · refine UC_f hy4 ?_
    simp (disch := first | assumption | omega | (simp only [h_sl, h_al] <;> omega) | fail) only [WW, WH, ↓reduceIte, Nat.reduceEqDiff, Nat.reduceLT, Nat.reduceLeDiff, Nat.reduceAdd, Nat.reduceSub, Nat.reduceMul, Nat.reduceBEq, reduceCtorEq, if_false, if_true, L_reply_Reader_take, hs_o1, hs_o2, encReplyV]
    have hq := Option.some.inj h; subst hq
    refine hX _ _ _ _ _ (by simp) ?_ (WxH.refl _) (kb0 _ (hB _ rfl) _ hfr ((hs_o1).trans rfl) ((hs_o2).trans rfl))
    exact WE.cons (Wx.ptr) (WE.cons (Wx.int) (WE.cons (Wx.str) (WE.cons (Wx.bool) (WE.nil))))
set_option maxHeartbeats 2000000 in
theorem reply_Reader_take_p3_ok {x18 : UInt8} {x6 : List UInt8} {q1 : Nat} {code17 : Int} {q3 : Nat} {r2 : ReaderV} {H0 H : AH} (hfr : Fr H0 H0.length [q1] H) (hs_o1 : H[q1]? = some [(.ptr q3 0), (.int .i64 r2.r.code), (.sl .own 1 (ml AV.str r2.r.lines)), (.int .i64 r2.n), (.bool r2.bad)]) (hs_o2 : H[q3]? = some [(.int .i64 r2.splitter.most), (.sl .own 1 (ml b8 r2.splitter.b)), (.int .i64 r2.splitter.state), (.bool r2.splitter.long)]) (hi0 : q1 < H0.length) (hi1 : q3 < H0.length) (hi2 : q1 ≠ q3) {K : Exit → Env → AH → Prop} {t20 : Bool}
    (h : reply_Reader_take_p3 x18 x6 = some t20)
    (kn : ∀ H' : AH, Fr H0 H0.length [q1] H' → H'[q1]? = some [(.ptr q3 0), (.int .i64 r2.r.code), (.sl .own 1 (ml AV.str r2.r.lines)), (.int .i64 r2.n), (.bool r2.bad)] → H'[q3]? = some [(.int .i64 r2.splitter.most), (.sl .own 1 (ml b8 r2.splitter.b)), (.int .i64 r2.splitter.state), (.bool r2.splitter.long)] → K .normal [(0, (.ptr q1 0)), (7, (.int .i64 code17)), (8, (.str x6)), (9, (.bool (decide (x18 = 45)))), (55, (.bool t20))] H') :
    AX Tryd.prog L_reply_Reader_take 121 H0.length c_reply_Reader_take_p3 K [(0, (.ptr q1 0)), (7, (.int .i64 code17)), (8, (.str x6)), (9, (.bool (decide (x18 = 45))))] H := by
  refine AX.go (m := m_reply_Reader_take_p3) rfl (by decide) fun K' hK => ?_
  have hle := hfr.le
  have hl_o1 := h_lt hs_o1
  have hl_o2 := h_lt hs_o2
  rw [reply_Reader_take_p3.eq_1] at h
  simp (disch := first | assumption | omega | (simp only [h_sl, h_al] <;> omega) | fail) only [WW, WH, ↓reduceIte, Nat.reduceEqDiff, Nat.reduceLT, Nat.reduceLeDiff, Nat.reduceAdd, Nat.reduceSub, Nat.reduceMul, Nat.reduceBEq, reduceCtorEq, if_false, if_true, L_reply_Reader_take, m_reply_Reader_take_p3, c_reply_Reader_take_p3, hs_o1, hs_o2, encReplyV]
  rcases ifb h with ⟨hy13, h⟩ | ⟨hy13, h⟩
  · refine UG_go hy13 ?_
    obtain ⟨x19, hy14, h⟩ := bnd' h
    simp (disch := first | assumption | omega | (simp only [h_sl, h_al] <;> omega) | fail) only [WW, WH, ↓reduceIte, Nat.reduceEqDiff, Nat.reduceLT, Nat.reduceLeDiff, Nat.reduceAdd, Nat.reduceSub, Nat.reduceMul, Nat.reduceBEq, reduceCtorEq, if_false, if_true, L_reply_Reader_take, hy13, hy14, hs_o1, hs_o2, encReplyV]
    have hq := Option.some.inj h; subst hq
    refine hK _ _ _ _ _ ?_ (WxH.refl _) (kn _ hfr ((hs_o1).trans rfl) ((hs_o2).trans rfl))
    exact WE.cons (Wx.ptr) (WE.cons (Wx.int) (WE.cons (Wx.str) (WE.cons (Wx.bool) (WE.cons (Wx.bool) (WE.nil)))))
  · refine UG_nt hy13 ?_
    simp (disch := first | assumption | omega | (simp only [h_sl, h_al] <;> omega) | fail) only [WW, WH, ↓reduceIte, Nat.reduceEqDiff, Nat.reduceLT, Nat.reduceLeDiff, Nat.reduceAdd, Nat.reduceSub, Nat.reduceMul, Nat.reduceBEq, reduceCtorEq, if_false, if_true, L_reply_Reader_take, hy13, hs_o1, hs_o2, encReplyV]
    have hq := Option.some.inj h; subst hq
    refine hK _ _ _ _ _ ?_ (WxH.refl _) (kn _ hfr ((hs_o1).trans rfl) ((hs_o2).trans rfl))
    exact WE.cons (Wx.ptr) (WE.cons (Wx.int) (WE.cons (Wx.str) (WE.cons (Wx.bool) (WE.cons (Wx.bool) (WE.nil)))))
set_option maxHeartbeats 2000000 in
theorem reply_Reader_take_p4_ok {x6 : List UInt8} {r2 : ReaderV} {q1 : Nat} {code17 : Int} {q3 : Nat} {H0 H : AH} (hfr : Fr H0 H0.length [q1] H) (hs_o1 : H[q1]? = some [(.ptr q3 0), (.int .i64 r2.r.code), (.sl .own 1 (ml AV.str r2.r.lines)), (.int .i64 r2.n), (.bool r2.bad)]) (hs_o2 : H[q3]? = some [(.int .i64 r2.splitter.most), (.sl .own 1 (ml b8 r2.splitter.b)), (.int .i64 r2.splitter.state), (.bool r2.splitter.long)]) (hi0 : q1 < H0.length) (hi1 : q3 < H0.length) (hi2 : q1 ≠ q3) {K : Exit → Env → AH → Prop} {o : St (Bool × Bool × ReaderV) Unit ((List UInt8) × Bool)}
    (h : reply_Reader_take_p4 x6 r2 = some o)
    (kn : ∀ o' : (List UInt8) × Bool, o = .nxt o' → ∀ H' : AH, Fr H0 H0.length [q1] H' → H'[q1]? = some [(.ptr q3 0), (.int .i64 r2.r.code), (.sl .own 1 (ml AV.str r2.r.lines)), (.int .i64 r2.n), (.bool r2.bad)] → H'[q3]? = some [(.int .i64 r2.splitter.most), (.sl .own 1 (ml b8 r2.splitter.b)), (.int .i64 r2.splitter.state), (.bool r2.splitter.long)] → K .normal [(0, (.ptr q1 0)), (7, (.int .i64 code17)), (8, (.str o'.1)), (9, (.bool o'.2))] H')
    (kr : ∀ o' : Bool × Bool × ReaderV, o = .ret o' → ∀ H' : AH, Fr H0 H0.length [q1] H' → H'[q1]? = some [(.ptr q3 0), (.int .i64 o'.2.2.r.code), (.sl .own 1 (ml AV.str o'.2.2.r.lines)), (.int .i64 o'.2.2.n), (.bool o'.2.2.bad)] → H'[q3]? = some [(.int .i64 o'.2.2.splitter.most), (.sl .own 1 (ml b8 o'.2.2.splitter.b)), (.int .i64 o'.2.2.splitter.state), (.bool o'.2.2.splitter.long)] → K .ret [(4, (.bool o'.1)), (5, (.bool o'.2.1))] H') :
    AX Tryd.prog L_reply_Reader_take 121 H0.length c_reply_Reader_take_p4 K [(0, (.ptr q1 0)), (7, (.int .i64 code17)), (8, (.str x6)), (9, (.bool false)), (45, (.bool (!decide (x6 = ([] : List UInt8)))))] H := by
  refine AX.go (m := m_reply_Reader_take_p4) rfl (by decide) fun K' hK => ?_
  have hle := hfr.le
  have hl_o1 := h_lt hs_o1
  have hl_o2 := h_lt hs_o2
  rw [reply_Reader_take_p4.eq_1] at h
  simp (disch := first | assumption | omega | (simp only [h_sl, h_al] <;> omega) | fail) only [WW, WH, ↓reduceIte, Nat.reduceEqDiff, Nat.reduceLT, Nat.reduceLeDiff, Nat.reduceAdd, Nat.reduceSub, Nat.reduceMul, Nat.reduceBEq, reduceCtorEq, if_false, if_true, L_reply_Reader_take, m_reply_Reader_take_p4, hs_o1, hs_o2, encReplyV]
  rcases ifb h with ⟨hy11, h⟩ | ⟨hy11, h⟩
  · refine UC_t hy11 ?_
    obtain ⟨x18, hy12, h⟩ := bnd' h
    simp (disch := first | assumption | omega | (simp only [h_sl, h_al] <;> omega) | fail) only [WW, WH, ↓reduceIte, Nat.reduceEqDiff, Nat.reduceLT, Nat.reduceLeDiff, Nat.reduceAdd, Nat.reduceSub, Nat.reduceMul, Nat.reduceBEq, reduceCtorEq, if_false, if_true, L_reply_Reader_take, hy12, hs_o1, hs_o2, encReplyV]
    obtain ⟨t21, hy15, h⟩ := bnd' h
    refine UX_of (AX.weak ?_ (WxH.refl _) (reply_Reader_take_p3_ok  (x18 := x18) (x6 := x6) (q1 := q1) (code17 := code17) (q3 := q3) (r2 := r2) (t20 := t21)  (hfr) ((hs_o1).trans rfl) ((hs_o2).trans rfl) (by first | assumption | omega | (simp only [h_sl, h_al] <;> omega) | fail) (by first | assumption | omega | (simp only [h_sl, h_al] <;> omega) | fail) (by first | assumption | omega | (simp only [h_sl, h_al] <;> omega) | fail) hy15 ?_))
    · exact WE.cons (Wx.ptr) (WE.cons (Wx.int) (WE.cons (Wx.str) (WE.cons (Wx.bool) (WE.nil))))
    intro H hfr hs_o1 hs_o2
    have hle := hfr.le
    have hl_o1 := h_lt hs_o1
    have hl_o2 := h_lt hs_o2
    simp (disch := first | assumption | omega | (simp only [h_sl, h_al] <;> omega) | fail) only [WW, WH, ↓reduceIte, Nat.reduceEqDiff, Nat.reduceLT, Nat.reduceLeDiff, Nat.reduceAdd, Nat.reduceSub, Nat.reduceMul, Nat.reduceBEq, reduceCtorEq, if_false, if_true, L_reply_Reader_take, hs_o1, hs_o2, encReplyV]
    rcases ifb h with ⟨hy16, h⟩ | ⟨hy16, h⟩
    · refine UC_t hy16 ?_
      simp (disch := first | assumption | omega | (simp only [h_sl, h_al] <;> omega) | fail) only [WW, WH, ↓reduceIte, Nat.reduceEqDiff, Nat.reduceLT, Nat.reduceLeDiff, Nat.reduceAdd, Nat.reduceSub, Nat.reduceMul, Nat.reduceBEq, reduceCtorEq, if_false, if_true, L_reply_Reader_take, hs_o1, hs_o2, encReplyV]
      have hq := Option.some.inj h; subst hq
      refine hK _ _ _ _ _ ?_ (WxH.refl _) (kr _ rfl _ hfr ((hs_o1).trans rfl) ((hs_o2).trans rfl))
      exact WE.cons (Wx.bool) (WE.cons (Wx.bool) (WE.nil))
    · refine UC_f hy16 ?_
      obtain ⟨x22, hy17, h⟩ := bnd' h
      simp (disch := first | assumption | omega | (simp only [h_sl, h_al] <;> omega) | fail) only [WW, WH, ↓reduceIte, Nat.reduceEqDiff, Nat.reduceLT, Nat.reduceLeDiff, Nat.reduceAdd, Nat.reduceSub, Nat.reduceMul, Nat.reduceBEq, reduceCtorEq, if_false, if_true, L_reply_Reader_take, hy17, hs_o1, hs_o2, encReplyV]
      have hq := Option.some.inj h; subst hq
      refine hK _ _ _ _ _ ?_ (WxH.refl _) (kn _ rfl _ hfr ((hs_o1).trans rfl) ((hs_o2).trans rfl))
      exact WE.cons (Wx.ptr) (WE.cons (Wx.int) (WE.cons (Wx.str) (WE.cons (Wx.bool) (WE.nil))))
  · refine UC_f hy11 ?_
    simp (disch := first | assumption | omega | (simp only [h_sl, h_al] <;> omega) | fail) only [WW, WH, ↓reduceIte, Nat.reduceEqDiff, Nat.reduceLT, Nat.reduceLeDiff, Nat.reduceAdd, Nat.reduceSub, Nat.reduceMul, Nat.reduceBEq, reduceCtorEq, if_false, if_true, L_reply_Reader_take, hs_o1, hs_o2, encReplyV]
    have hq := Option.some.inj h; subst hq
    refine hK _ _ _ _ _ ?_ (WxH.refl _) (kn _ rfl _ hfr ((hs_o1).trans rfl) ((hs_o2).trans rfl))
    exact WE.cons (Wx.ptr) (WE.cons (Wx.int) (WE.cons (Wx.str) (WE.cons (Wx.bool) (WE.nil))))
set_option maxHeartbeats 2000000 in
theorem reply_Reader_take_p5_ok {F : Nat} {code17 : Int} {rest28 : List UInt8} {r2 : ReaderV} {q1 : Nat} {more29 : Bool} {q3 : Nat} {H0 H : AH} (hfr : Fr H0 H0.length [q1] H) (hs_o1 : H[q1]? = some [(.ptr q3 0), (.int .i64 r2.r.code), (.sl .own 1 (ml AV.str r2.r.lines)), (.int .i64 r2.n), (.bool r2.bad)]) (hs_o2 : H[q3]? = some [(.int .i64 r2.splitter.most), (.sl .own 1 (ml b8 r2.splitter.b)), (.int .i64 r2.splitter.state), (.bool r2.splitter.long)]) (hi0 : q1 < H0.length) (hi1 : q3 < H0.length) (hi2 : q1 ≠ q3) {K : Exit → Env → AH → Prop} {t32 : Bool}
    (h : reply_Reader_take_p5 F code17 rest28 r2 = some t32)
    (kn : ∀ H' : AH, Fr H0 H0.length [q1] H' → H'[q1]? = some [(.ptr q3 0), (.int .i64 r2.r.code), (.sl .own 1 (ml AV.str r2.r.lines)), (.int .i64 r2.n), (.bool r2.bad)] → H'[q3]? = some [(.int .i64 r2.splitter.most), (.sl .own 1 (ml b8 r2.splitter.b)), (.int .i64 r2.splitter.state), (.bool r2.splitter.long)] → K .normal [(0, (.ptr q1 0)), (7, (.int .i64 code17)), (8, (.str rest28)), (9, (.bool more29)), (92, (.bool t32))] H') :
    AX Tryd.prog L_reply_Reader_take 121 H0.length c_reply_Reader_take_p5 K [(0, (.ptr q1 0)), (7, (.int .i64 code17)), (8, (.str rest28)), (9, (.bool more29))] H := by
  refine AX.go (m := m_reply_Reader_take_p5) rfl (by decide) fun K' hK => ?_
  have hle := hfr.le
  have hl_o1 := h_lt hs_o1
  have hl_o2 := h_lt hs_o2
  rw [reply_Reader_take_p5.eq_1] at h
  simp (disch := first | assumption | omega | (simp only [h_sl, h_al] <;> omega) | fail) only [WW, WH, ↓reduceIte, Nat.reduceEqDiff, Nat.reduceLT, Nat.reduceLeDiff, Nat.reduceAdd, Nat.reduceSub, Nat.reduceMul, Nat.reduceBEq, reduceCtorEq, if_false, if_true, L_reply_Reader_take, m_reply_Reader_take_p5, c_reply_Reader_take_p5, hs_o1, hs_o2, encReplyV]
  obtain ⟨r30, hy19, h⟩ := bnd' h
  refine UK_e (as' := [(.int .i64 code17)]) (h := reply_Class_ok (code1 := code17)  hy19) (hw := WL.cons (Wx.int) (WL.nil)) (hh := WxH.refl _) ?_
  simp (disch := first | assumption | omega | (simp only [h_sl, h_al] <;> omega) | fail) only [WW, WH, ↓reduceIte, Nat.reduceEqDiff, Nat.reduceLT, Nat.reduceLeDiff, Nat.reduceAdd, Nat.reduceSub, Nat.reduceMul, Nat.reduceBEq, reduceCtorEq, if_false, if_true, L_reply_Reader_take, hs_o1, hs_o2, encReplyV]
  rcases ifb h with ⟨hy20, h⟩ | ⟨hy20, h⟩
  · refine UG_nf hy20 ?_
    simp (disch := first | assumption | omega | (simp only [h_sl, h_al] <;> omega) | fail) only [WW, WH, ↓reduceIte, Nat.reduceEqDiff, Nat.reduceLT, Nat.reduceLeDiff, Nat.reduceAdd, Nat.reduceSub, Nat.reduceMul, Nat.reduceBEq, reduceCtorEq, if_false, if_true, L_reply_Reader_take, hy20, hs_o1, hs_o2, encReplyV]
    have hq := Option.some.inj h; subst hq
    refine hK _ _ _ _ _ ?_ (WxH.refl _) (kn _ hfr ((hs_o1).trans rfl) ((hs_o2).trans rfl))
    exact WE.cons (Wx.ptr) (WE.cons (Wx.int) (WE.cons (Wx.str) (WE.cons (Wx.bool) (WE.cons (Wx.bool) (WE.nil)))))
  · refine UG_go hy20 ?_
    simp (disch := first | assumption | omega | (simp only [h_sl, h_al] <;> omega) | fail) only [WW, WH, ↓reduceIte, Nat.reduceEqDiff, Nat.reduceLT, Nat.reduceLeDiff, Nat.reduceAdd, Nat.reduceSub, Nat.reduceMul, Nat.reduceBEq, reduceCtorEq, if_false, if_true, L_reply_Reader_take, hy20, hs_o1, hs_o2, encReplyV]
    obtain ⟨r31, hy21, h⟩ := bnd' h
    refine UK_e (as' := [(.str rest28)]) (h := reply_text_ok (s1 := rest28) (F := F)  hy21) (hw := WL.cons (Wx.str) (WL.nil)) (hh := WxH.refl _) ?_
    simp (disch := first | assumption | omega | (simp only [h_sl, h_al] <;> omega) | fail) only [WW, WH, ↓reduceIte, Nat.reduceEqDiff, Nat.reduceLT, Nat.reduceLeDiff, Nat.reduceAdd, Nat.reduceSub, Nat.reduceMul, Nat.reduceBEq, reduceCtorEq, if_false, if_true, L_reply_Reader_take, hs_o1, hs_o2, encReplyV]
    rcases ifb h with ⟨hy22, h⟩ | ⟨hy22, h⟩
    · refine UG_nf hy22 ?_
      simp (disch := first | assumption | omega | (simp only [h_sl, h_al] <;> omega) | fail) only [WW, WH, ↓reduceIte, Nat.reduceEqDiff, Nat.reduceLT, Nat.reduceLeDiff, Nat.reduceAdd, Nat.reduceSub, Nat.reduceMul, Nat.reduceBEq, reduceCtorEq, if_false, if_true, L_reply_Reader_take, hy22, hs_o1, hs_o2, encReplyV]
      have hq := Option.some.inj h; subst hq
      refine hK _ _ _ _ _ ?_ (WxH.refl _) (kn _ hfr ((hs_o1).trans rfl) ((hs_o2).trans rfl))
      exact WE.cons (Wx.ptr) (WE.cons (Wx.int) (WE.cons (Wx.str) (WE.cons (Wx.bool) (WE.cons (Wx.bool) (WE.nil)))))
    · refine UG_go hy22 ?_
      simp (disch := first | assumption | omega | (simp only [h_sl, h_al] <;> omega) | fail) only [WW, WH, ↓reduceIte, Nat.reduceEqDiff, Nat.reduceLT, Nat.reduceLeDiff, Nat.reduceAdd, Nat.reduceSub, Nat.reduceMul, Nat.reduceBEq, reduceCtorEq, if_false, if_true, L_reply_Reader_take, hy22, hs_o1, hs_o2, encReplyV]
      rcases ifb h with ⟨hy23, h⟩ | ⟨hy23, h⟩
      · refine UG_nf hy23 ?_
        simp (disch := first | assumption | omega | (simp only [h_sl, h_al] <;> omega) | fail) only [WW, WH, ↓reduceIte, Nat.reduceEqDiff, Nat.reduceLT, Nat.reduceLeDiff, Nat.reduceAdd, Nat.reduceSub, Nat.reduceMul, Nat.reduceBEq, reduceCtorEq, if_false, if_true, L_reply_Reader_take, hy23, hs_o1, hs_o2, encReplyV]
        have hq := Option.some.inj h; subst hq
        refine hK _ _ _ _ _ ?_ (WxH.refl _) (kn _ hfr ((hs_o1).trans rfl) ((hs_o2).trans rfl))
        exact WE.cons (Wx.ptr) (WE.cons (Wx.int) (WE.cons (Wx.str) (WE.cons (Wx.bool) (WE.cons (Wx.bool) (WE.nil)))))
      · refine UG_go hy23 ?_
        simp (disch := first | assumption | omega | (simp only [h_sl, h_al] <;> omega) | fail) only [WW, WH, ↓reduceIte, Nat.reduceEqDiff, Nat.reduceLT, Nat.reduceLeDiff, Nat.reduceAdd, Nat.reduceSub, Nat.reduceMul, Nat.reduceBEq, reduceCtorEq, if_false, if_true, L_reply_Reader_take, hy23, hs_o1, hs_o2, encReplyV]
        rcases ifb h with ⟨hy24, h⟩ | ⟨hy24, h⟩
        · refine UG_go hy24 ?_
          simp (disch := first | assumption | omega | (simp only [h_sl, h_al] <;> omega) | fail) only [WW, WH, ↓reduceIte, Nat.reduceEqDiff, Nat.reduceLT, Nat.reduceLeDiff, Nat.reduceAdd, Nat.reduceSub, Nat.reduceMul, Nat.reduceBEq, reduceCtorEq, if_false, if_true, L_reply_Reader_take, hy24, hs_o1, hs_o2, encReplyV]
          have hq := Option.some.inj h; subst hq
          refine hK _ _ _ _ _ ?_ (WxH.refl _) (kn _ hfr ((hs_o1).trans rfl) ((hs_o2).trans rfl))
          exact WE.cons (Wx.ptr) (WE.cons (Wx.int) (WE.cons (Wx.str) (WE.cons (Wx.bool) (WE.cons (Wx.bool) (WE.nil)))))
        · refine UG_nt hy24 ?_
          simp (disch := first | assumption | omega | (simp only [h_sl, h_al] <;> omega) | fail) only [WW, WH, ↓reduceIte, Nat.reduceEqDiff, Nat.reduceLT, Nat.reduceLeDiff, Nat.reduceAdd, Nat.reduceSub, Nat.reduceMul, Nat.reduceBEq, reduceCtorEq, if_false, if_true, L_reply_Reader_take, hy24, hs_o1, hs_o2, encReplyV]
          have hq := Option.some.inj h; subst hq
          refine hK _ _ _ _ _ ?_ (WxH.refl _) (kn _ hfr ((hs_o1).trans rfl) ((hs_o2).trans rfl))
          exact WE.cons (Wx.ptr) (WE.cons (Wx.int) (WE.cons (Wx.str) (WE.cons (Wx.bool) (WE.cons (Wx.bool) (WE.nil)))))
set_option maxHeartbeats 2000000 in
theorem reply_Reader_take_ok {F : Nat} {r2 : ReaderV} {l4 : LineV} {q1 : Nat} {q3 : Nat} {H0 : AH} (hs_o1 : H0[q1]? = some [(.ptr q3 0), (.int .i64 r2.r.code), (.sl .own 1 (ml AV.str r2.r.lines)), (.int .i64 r2.n), (.bool r2.bad)]) (hs_o2 : H0[q3]? = some [(.int .i64 r2.splitter.most), (.sl .own 1 (ml b8 r2.splitter.b)), (.int .i64 r2.splitter.state), (.bool r2.splitter.long)]) (hi0 : q1 ≠ q3) {rz0 : Bool} {rz1 : Bool} {rz2 : ReaderV} (h : reply_Reader_take F r2 l4 = some (rz0, rz1, rz2)) :
    ACalls Tryd.prog 31 [(.ptr q1 0), (.agg [(.str l4.text), (.bool l4.long)])] H0 fun v H' => v = (.tup [(.bool rz0), (.bool rz1)]) ∧ H' = (H0.set q1 [(.ptr q3 0), (.int .i64 rz2.r.code), (.sl .own 1 (ml AV.str rz2.r.lines)), (.int .i64 rz2.n), (.bool rz2.bad)]) := by
  refine ACalls.goX k_reply_Reader_take (m := m_reply_Reader_take) rfl L_reply_Reader_take (by decide) (by simp) fun hcl K0 hK0 => ?_
  refine AX.of_U (m := m_reply_Reader_take) rfl (by decide) ?_
  have hl_o1 := h_lt hs_o1
  have hl_o2 := h_lt hs_o2
  have hfr := Fr.refl H0 [q1]
  have hle := hfr.le
  rw [reply_Reader_take.eq_1] at h
  obtain ⟨H, hHH⟩ : ∃ H, H = H0 := ⟨_, rfl⟩
  have hfr : Fr H0 H0.length [q1] H := hHH ▸ hfr
  have hs_o1 : H[q1]? = some [(.ptr q3 0), (.int .i64 r2.r.code), (.sl .own 1 (ml AV.str r2.r.lines)), (.int .i64 r2.n), (.bool r2.bad)] := hHH ▸ hs_o1
  have hs_o2 : H[q3]? = some [(.int .i64 r2.splitter.most), (.sl .own 1 (ml b8 r2.splitter.b)), (.int .i64 r2.splitter.state), (.bool r2.splitter.long)] := hHH ▸ hs_o2
  have hle := hfr.le
  have hL_o1 : q1 < H.length := h_lt hs_o1
  have hL_o2 : q3 < H.length := h_lt hs_o2
  suffices hU : U Tryd.prog L_reply_Reader_take 121 H0.length [.code m_reply_Reader_take] K0 .normal (argE 0 [(.ptr q1 0), (.agg [(.str l4.text), (.bool l4.long)])]) H by rwa [hHH] at hU
  simp (disch := first | assumption | omega | (simp only [h_sl, h_al] <;> omega) | fail) only [WW, WH, ↓reduceIte, Nat.reduceEqDiff, Nat.reduceLT, Nat.reduceLeDiff, Nat.reduceAdd, Nat.reduceSub, Nat.reduceMul, Nat.reduceBEq, reduceCtorEq, if_false, if_true, L_reply_Reader_take, m_reply_Reader_take, hs_o1, hs_o2, encReplyV]
  obtain ⟨q5, hg_q5⟩ : ∃ q : Nat, H.length = q := ⟨_, rfl⟩
  try rw [hg_q5]
  refine UX_of (AX.weak ?_ (WxH.refl _) (reply_Reader_take_p1_ok (q1 := q1) (q5 := q5) (l4 := l4) (q3 := q3) (r2 := r2) ((Fr.app hfr)) (((h_app (by first | assumption | omega | (simp only [h_sl, h_al] <;> omega) | fail)).trans (hs_o1)).trans rfl) (((h_app (by first | assumption | omega | (simp only [h_sl, h_al] <;> omega) | fail)).trans (hs_o2)).trans rfl) ((h_new' (by first | assumption | omega | (simp only [h_sl, h_al] <;> omega) | fail)).trans rfl) (by first | assumption | omega | (simp only [h_sl, h_al] <;> omega) | fail) (by first | assumption | omega | (simp only [h_sl, h_al] <;> omega) | fail) (by first | assumption | omega | (simp only [h_sl, h_al] <;> omega) | fail) (by first | assumption | omega | (simp only [h_sl, h_al] <;> omega) | fail) ?_))
  · exact WE.cons (Wx.ptr) (WE.cons (Wx.ptr) (WE.cons (Wx.str) (WE.nil)))
  intro H hfr hs_o1 hs_o2 hs_o3
  have hle := hfr.le
  have hl_o1 := h_lt hs_o1
  have hl_o2 := h_lt hs_o2
  have hl_o3 := h_lt hs_o3
  simp (disch := first | assumption | omega | (simp only [h_sl, h_al] <;> omega) | fail) only [WW, WH, ↓reduceIte, Nat.reduceEqDiff, Nat.reduceLT, Nat.reduceLeDiff, Nat.reduceAdd, Nat.reduceSub, Nat.reduceMul, Nat.reduceBEq, reduceCtorEq, if_false, if_true, L_reply_Reader_take, hs_o1, hs_o2, hs_o3, encReplyV]
  rcases ifb h with ⟨hy2, h⟩ | ⟨hy2, h⟩
  · refine UC_t hy2 ?_
    simp (disch := first | assumption | omega | (simp only [h_sl, h_al] <;> omega) | fail) only [WW, WH, ↓reduceIte, Nat.reduceEqDiff, Nat.reduceLT, Nat.reduceLeDiff, Nat.reduceAdd, Nat.reduceSub, Nat.reduceMul, Nat.reduceBEq, reduceCtorEq, if_false, if_true, L_reply_Reader_take, hs_o1, hs_o2, hs_o3, encReplyV]
    have hq := Option.some.inj h; have hq0 := (Prod.mk.inj hq).1; replace hq := (Prod.mk.inj hq).2; have hq1 := (Prod.mk.inj hq).1; replace hq := (Prod.mk.inj hq).2; subst hq0; subst hq1; subst hq
    refine hK0 _ _ _ (.inr rfl) ?_
    exact fn_end1 (by exact hfr) hcl (resv_tmp (a := (.bool false)) rfl rfl (resv_tmp (a := (.bool false)) rfl rfl resv_nil)) (by simp [fin, AV.df, AV.sh, AV.sh1, b_df, b_sh, b_sh1, b_Cl]) (Wx.tupX (W2L.same (W2L.same (W2L.nil)))) (by exact ((hs_o1).trans rfl)) (by first | assumption | omega | (simp only [h_sl, h_al] <;> omega) | fail) (by simp [b_Cl]; try omega) (WxC.cons (Wx.ptr) (WxC.cons (Wx.int) (WxC.cons (Wx.oo) (WxC.cons (Wx.int) (WxC.cons (Wx.bool) (WxC.nil)))))) (r' := (.tup [(.bool false), (.bool false)])) ⟨rfl, rfl⟩
  · refine UC_f hy2 ?_
    obtain ⟨x6, hy3, h⟩ := bnd' h
    simp (disch := first | assumption | omega | (simp only [h_sl, h_al] <;> omega) | fail) only [WW, WH, ↓reduceIte, Nat.reduceEqDiff, Nat.reduceLT, Nat.reduceLeDiff, Nat.reduceAdd, Nat.reduceSub, Nat.reduceMul, Nat.reduceBEq, reduceCtorEq, if_false, if_true, L_reply_Reader_take, hy3, hs_o1, hs_o2, hs_o3, encReplyV]
    obtain ⟨o42, hy10, h⟩ := bnd' h
    refine UX_of (AX.weak ?_ (WxH.refl _) (reply_Reader_take_l1_ok  (l4 := l4) (r2 := r2) (q1 := q1) (x6 := x6) (q3 := q3) (code7 := 0) (t8 := 0)  (hfr) ((hs_o1).trans rfl) ((hs_o2).trans rfl) (by first | assumption | omega | (simp only [h_sl, h_al] <;> omega) | fail) (by first | assumption | omega | (simp only [h_sl, h_al] <;> omega) | fail) (by first | assumption | omega | (simp only [h_sl, h_al] <;> omega) | fail) (o := o42) hy10 ?_ ?_))
    · exact WE.cons (Wx.ptr) (WE.cons (Wx.str) (WE.cons (Wx.int) (WE.cons (Wx.str) (WE.cons (Wx.bool) (WE.cons (Wx.int) (WE.nil))))))
    · rintro code17 rfl H hfr hs_o1 hs_o2
      try dsimp only at h hs_o1 hs_o2
      have hle := hfr.le
      have hl_o1 := h_lt hs_o1
      have hl_o2 := h_lt hs_o2
      simp (disch := first | assumption | omega | (simp only [h_sl, h_al] <;> omega) | fail) only [WW, WH, ↓reduceIte, Nat.reduceEqDiff, Nat.reduceLT, Nat.reduceLeDiff, Nat.reduceAdd, Nat.reduceSub, Nat.reduceMul, Nat.reduceBEq, reduceCtorEq, if_false, if_true, L_reply_Reader_take, hs_o1, hs_o2, encReplyV]
      obtain ⟨o38, hy18, h⟩ := bnd' h
      refine UX_of (AX.weak ?_ (WxH.refl _) (reply_Reader_take_p4_ok  (x6 := x6) (r2 := r2) (q1 := q1) (code17 := code17) (q3 := q3)  (hfr) ((hs_o1).trans rfl) ((hs_o2).trans rfl) (by first | assumption | omega | (simp only [h_sl, h_al] <;> omega) | fail) (by first | assumption | omega | (simp only [h_sl, h_al] <;> omega) | fail) (by first | assumption | omega | (simp only [h_sl, h_al] <;> omega) | fail) (o := o38) hy18 ?_ ?_))
      · exact WE.cons (Wx.ptr) (WE.cons (Wx.int) (WE.cons (Wx.str) (WE.cons (Wx.bool) (WE.cons (Wx.bool) (WE.nil)))))
      · rintro ⟨rest28, more29⟩ rfl H hfr hs_o1 hs_o2
        try dsimp only at h hs_o1 hs_o2
        have hle := hfr.le
        have hl_o1 := h_lt hs_o1
        have hl_o2 := h_lt hs_o2
        simp (disch := first | assumption | omega | (simp only [h_sl, h_al] <;> omega) | fail) only [WW, WH, ↓reduceIte, Nat.reduceEqDiff, Nat.reduceLT, Nat.reduceLeDiff, Nat.reduceAdd, Nat.reduceSub, Nat.reduceMul, Nat.reduceBEq, reduceCtorEq, if_false, if_true, L_reply_Reader_take, hs_o1, hs_o2, encReplyV]
        obtain ⟨t33, hy25, h⟩ := bnd' h
        refine UX_of (AX.weak ?_ (WxH.refl _) (reply_Reader_take_p5_ok (F := F) (code17 := code17) (rest28 := rest28) (r2 := r2) (q1 := q1) (more29 := more29) (q3 := q3) (t32 := t33)  (hfr) ((hs_o1).trans rfl) ((hs_o2).trans rfl) (by first | assumption | omega | (simp only [h_sl, h_al] <;> omega) | fail) (by first | assumption | omega | (simp only [h_sl, h_al] <;> omega) | fail) (by first | assumption | omega | (simp only [h_sl, h_al] <;> omega) | fail) hy25 ?_))
        · exact WE.cons (Wx.ptr) (WE.cons (Wx.int) (WE.cons (Wx.str) (WE.cons (Wx.bool) (WE.nil))))
        intro H hfr hs_o1 hs_o2
        have hle := hfr.le
        have hl_o1 := h_lt hs_o1
        have hl_o2 := h_lt hs_o2
        simp (disch := first | assumption | omega | (simp only [h_sl, h_al] <;> omega) | fail) only [WW, WH, ↓reduceIte, Nat.reduceEqDiff, Nat.reduceLT, Nat.reduceLeDiff, Nat.reduceAdd, Nat.reduceSub, Nat.reduceMul, Nat.reduceBEq, reduceCtorEq, if_false, if_true, L_reply_Reader_take, hs_o1, hs_o2, encReplyV]
        rcases ifb h with ⟨hy26, h⟩ | ⟨hy26, h⟩
        · refine UC_t hy26 ?_
          simp (disch := first | assumption | omega | (simp only [h_sl, h_al] <;> omega) | fail) only [WW, WH, ↓reduceIte, Nat.reduceEqDiff, Nat.reduceLT, Nat.reduceLeDiff, Nat.reduceAdd, Nat.reduceSub, Nat.reduceMul, Nat.reduceBEq, reduceCtorEq, if_false, if_true, L_reply_Reader_take, hs_o1, hs_o2, encReplyV]
          have hq := Option.some.inj h; have hq0 := (Prod.mk.inj hq).1; replace hq := (Prod.mk.inj hq).2; have hq1 := (Prod.mk.inj hq).1; replace hq := (Prod.mk.inj hq).2; subst hq0; subst hq1; subst hq
          refine hK0 _ _ _ (.inr rfl) ?_
          exact fn_end1 (by exact hfr) hcl (resv_tmp (a := (.bool false)) rfl rfl (resv_tmp (a := (.bool false)) rfl rfl resv_nil)) (by simp [fin, AV.df, AV.sh, AV.sh1, b_df, b_sh, b_sh1, b_Cl]) (Wx.tupX (W2L.same (W2L.same (W2L.nil)))) (by exact ((hs_o1).trans rfl)) (by first | assumption | omega | (simp only [h_sl, h_al] <;> omega) | fail) (by simp [b_Cl]; try omega) (WxC.cons (Wx.ptr) (WxC.cons (Wx.int) (WxC.cons (Wx.oo) (WxC.cons (Wx.int) (WxC.cons (Wx.bool) (WxC.nil)))))) (r' := (.tup [(.bool false), (.bool false)])) ⟨rfl, rfl⟩
        · refine UC_f hy26 ?_
          obtain ⟨x34, hy27, h⟩ := bnd' h
          have hy28 : capp 16 (ml AV.str r2.r.lines) [(.str rest28)] = some (ml AV.str x34) := capp_m (f := AV.str) hy27
          simp (disch := first | assumption | omega | (simp only [h_sl, h_al] <;> omega) | fail) only [WW, WH, ↓reduceIte, Nat.reduceEqDiff, Nat.reduceLT, Nat.reduceLeDiff, Nat.reduceAdd, Nat.reduceSub, Nat.reduceMul, Nat.reduceBEq, reduceCtorEq, if_false, if_true, L_reply_Reader_take, hy28, hs_o1, hs_o2, encReplyV]
          have hq := Option.some.inj h; have hq0 := (Prod.mk.inj hq).1; replace hq := (Prod.mk.inj hq).2; have hq1 := (Prod.mk.inj hq).1; replace hq := (Prod.mk.inj hq).2; subst hq0; subst hq1; subst hq
          refine hK0 _ _ _ (.inr rfl) ?_
          exact fn_end1 (by exact (Fr.set (s := q1) (Fr.set (s := q1) (Fr.set (s := q1) (Fr.set (s := q1) hfr (.inl (by simp))) (.inl (by simp))) (.inl (by simp))) (.inl (by simp)))) hcl (resv_tmp (a := (.bool (!more29))) rfl rfl (resv_tmp (a := (.bool true)) rfl rfl resv_nil)) (by simp [fin, AV.df, AV.sh, AV.sh1, b_df, b_sh, b_sh1, b_Cl]) (Wx.tupX (W2L.same (W2L.same (W2L.nil)))) (by exact ((h_eq (by first | assumption | omega | (simp only [h_sl, h_al] <;> omega) | fail)).trans rfl)) (by first | assumption | omega | (simp only [h_sl, h_al] <;> omega) | fail) (by simp [b_Cl]; try omega) (WxC.cons (Wx.ptr) (WxC.cons (Wx.int) (WxC.cons (Wx.oo) (WxC.cons (Wx.int) (WxC.cons (Wx.bool) (WxC.nil)))))) (r' := (.tup [(.bool (!more29)), (.bool true)])) ⟨rfl, rfl⟩
      · rintro ⟨r35, r36, s37⟩ rfl H hfr hs_o1 hs_o2
        try dsimp only at h hs_o1 hs_o2
        have hle := hfr.le
        have hl_o1 := h_lt hs_o1
        have hl_o2 := h_lt hs_o2
        simp (disch := first | assumption | omega | (simp only [h_sl, h_al] <;> omega) | fail) only [WW, WH, ↓reduceIte, Nat.reduceEqDiff, Nat.reduceLT, Nat.reduceLeDiff, Nat.reduceAdd, Nat.reduceSub, Nat.reduceMul, Nat.reduceBEq, reduceCtorEq, if_false, if_true, L_reply_Reader_take, hs_o1, hs_o2, encReplyV]
        have hq := Option.some.inj h; have hq0 := (Prod.mk.inj hq).1; replace hq := (Prod.mk.inj hq).2; have hq1 := (Prod.mk.inj hq).1; replace hq := (Prod.mk.inj hq).2; subst hq0; subst hq1; subst hq
        refine hK0 _ _ _ (.inr rfl) ?_
        exact fn_end1 (by exact hfr) hcl (resv_tmp (a := (.bool r35)) rfl rfl (resv_tmp (a := (.bool r36)) rfl rfl resv_nil)) (by simp [fin, AV.df, AV.sh, AV.sh1, b_df, b_sh, b_sh1, b_Cl]) (Wx.tupX (W2L.same (W2L.same (W2L.nil)))) (by exact ((hs_o1).trans rfl)) (by first | assumption | omega | (simp only [h_sl, h_al] <;> omega) | fail) (by simp [b_Cl]; try omega) (WxC.cons (Wx.ptr) (WxC.cons (Wx.int) (WxC.cons (Wx.oo) (WxC.cons (Wx.int) (WxC.cons (Wx.bool) (WxC.nil)))))) (r' := (.tup [(.bool r35), (.bool r36)])) ⟨rfl, rfl⟩
    · rintro ⟨r39, r40, s41⟩ rfl H hfr hs_o1 hs_o2
      try dsimp only at h hs_o1 hs_o2
      have hle := hfr.le
      have hl_o1 := h_lt hs_o1
      have hl_o2 := h_lt hs_o2
      simp (disch := first | assumption | omega | (simp only [h_sl, h_al] <;> omega) | fail) only [WW, WH, ↓reduceIte, Nat.reduceEqDiff, Nat.reduceLT, Nat.reduceLeDiff, Nat.reduceAdd, Nat.reduceSub, Nat.reduceMul, Nat.reduceBEq, reduceCtorEq, if_false, if_true, L_reply_Reader_take, hs_o1, hs_o2, encReplyV]
      have hq := Option.some.inj h; have hq0 := (Prod.mk.inj hq).1; replace hq := (Prod.mk.inj hq).2; have hq1 := (Prod.mk.inj hq).1; replace hq := (Prod.mk.inj hq).2; subst hq0; subst hq1; subst hq
      refine hK0 _ _ _ (.inr rfl) ?_
      exact fn_end1 (by exact hfr) hcl (resv_tmp (a := (.bool r39)) rfl rfl (resv_tmp (a := (.bool r40)) rfl rfl resv_nil)) (by simp [fin, AV.df, AV.sh, AV.sh1, b_df, b_sh, b_sh1, b_Cl]) (Wx.tupX (W2L.same (W2L.same (W2L.nil)))) (by exact ((hs_o1).trans rfl)) (by first | assumption | omega | (simp only [h_sl, h_al] <;> omega) | fail) (by simp [b_Cl]; try omega) (WxC.cons (Wx.ptr) (WxC.cons (Wx.int) (WxC.cons (Wx.oo) (WxC.cons (Wx.int) (WxC.cons (Wx.bool) (WxC.nil)))))) (r' := (.tup [(.bool r39), (.bool r40)])) ⟨rfl, rfl⟩

/-! ### (*mailbag/reply.Reader).Feed -/
def c_reply_Reader_Feed_l1b : ACode := (.seq (.seq (.rg [⟨(some 12), (.mv (.t 0)), none⟩, ⟨(some 13), (.nck (.t 12)), none⟩, ⟨(some 14), (.fld (.t 13) 4), none⟩, ⟨(some 15), (.ld (.t 14) none), none⟩, ⟨(some 16), (.un .not (.t 15)), none⟩]) (.cond (.t 16) .skip (.exit 0))) (.blk 1 (.seq (.rg [⟨(some 18), (.mv (.t 0)), none⟩, ⟨(some 19), (.nck (.t 18)), none⟩, ⟨(some 20), (.fld (.t 19) 0), none⟩, ⟨(some 21), (.ld (.t 20) none), none⟩, ⟨(some 22), (.mv (.t 1)), none⟩, ⟨(some 23), (.call (.c (.fn 30 [])) [(.t 21), (.t 22)]), none⟩, ⟨(some 17), (.mv (.t 23)), none⟩, ⟨(some 24), (.ext (.t 17) 0), none⟩, ⟨(some 25), (.ext (.t 17) 1), none⟩, ⟨(some 26), (.ext (.t 17) 2), none⟩, ⟨(some 7), (.alloc [(.str []), (.bool false)]), none⟩, ⟨none, (.st (.t 7) (.t 24) 2), none⟩, ⟨(some 8), (.asg (.t 25)), none⟩, ⟨(some 9), (.asg (.t 26)), none⟩]) (.seq (.seq (.rg [⟨(some 27), (.mv (.t 8)), none⟩, ⟨(some 28), (.un .not (.t 27)), none⟩]) (.cond (.t 28) (.seq (.rg [⟨(some 29), (.mv (.t 6)), none⟩, ⟨(some 4), (.asg (.t 29)), none⟩, ⟨(some 5), (.asg (.c (.int .i64 0))), none⟩]) .ret) .skip)) (.seq (.rg [⟨(some 30), (.mv (.t 9)), none⟩, ⟨(some 1), (.asg (.t 30)), none⟩]) (.seq (.rg [⟨(some 32), (.mv (.t 0)), none⟩, ⟨(some 33), (.ld (.t 7) (some 2)), none⟩, ⟨(some 34), (.call (.c (.fn 31 [])) [(.t 32), (.t 33)]), none⟩, ⟨(some 31), (.mv (.t 34)), none⟩, ⟨(some 35), (.ext (.t 31) 0), none⟩, ⟨(some 36), (.ext (.t 31) 1), none⟩, ⟨(some 10), (.asg (.t 35)), none⟩, ⟨(some 11), (.asg (.t 36)), none⟩]) (.blk 2 (.seq (.rg [⟨(some 38), (.mv (.t 11)), none⟩, ⟨(some 39), (.un .not (.t 38)), none⟩, ⟨(some 37), (.asg (.t 39)), none⟩]) (.cond (.t 37) (.seq (.rg [⟨(some 40), (.mv (.t 0)), none⟩, ⟨(some 41), (.nck (.t 40)), none⟩, ⟨(some 42), (.fld (.t 41) 4), none⟩, ⟨none, (.st (.t 42) (.c (.bool true)) 1), none⟩]) (.seq (.rg [⟨(some 43), (.mv (.t 0)), none⟩, ⟨(some 44), (.mv (.t 0)), none⟩, ⟨(some 45), (.build [(.int .i64 0), (.sl .ex 1 [])] []), none⟩, ⟨(some 46), (.nck (.t 43)), none⟩, ⟨(some 47), (.fld (.t 46) 1), none⟩, ⟨none, (.st (.t 47) (.t 45) 2), none⟩, ⟨(some 48), (.nck (.t 44)), none⟩, ⟨(some 49), (.fld (.t 48) 3), none⟩, ⟨none, (.st (.t 49) (.c (.int .i64 0)) 1), none⟩]) (.rg [⟨(some 50), (.mv (.t 0)), none⟩, ⟨(some 51), (.nck (.t 50)), none⟩, ⟨(some 52), (.fld (.t 51) 0), none⟩, ⟨(some 53), (.ld (.t 52) none), none⟩, ⟨(some 54), (.call (.c (.fn 32 [])) [(.t 53)]), none⟩]))) (.seq (.rg [⟨(some 56), (.mv (.t 10)), none⟩, ⟨(some 55), (.asg (.t 56)), none⟩]) (.cond (.t 55) (.seq (.rg [⟨(some 57), (.mv (.t 6)), none⟩, ⟨(some 58), (.mv (.t 0)), none⟩, ⟨(some 59), (.nck (.t 58)), none⟩, ⟨(some 60), (.fld (.t 59) 1), none⟩, ⟨(some 61), (.ld (.t 60) (some 2)), none⟩, ⟨(some 62), (.bsl 2 [(.t 61)]), none⟩, ⟨(some 63), (.app 2 32 (.t 57) (.t 62)), none⟩, ⟨(some 6), (.asg (.t 63)), none⟩]) (.rg [⟨(some 64), (.mv (.t 0)), none⟩, ⟨(some 65), (.mv (.t 0)), none⟩, ⟨(some 66), (.build [(.int .i64 0), (.sl .ex 1 [])] []), none⟩, ⟨(some 67), (.nck (.t 64)), none⟩, ⟨(some 68), (.fld (.t 67) 1), none⟩, ⟨none, (.st (.t 68) (.t 66) 2), none⟩, ⟨(some 69), (.nck (.t 65)), none⟩, ⟨(some 70), (.fld (.t 69) 3), none⟩, ⟨none, (.st (.t 70) (.c (.int .i64 0)) 1), none⟩])) .skip)))))))))))
def c_reply_Reader_Feed_l1 : ACode := (.loop c_reply_Reader_Feed_l1b)
abbrev m_reply_Reader_Feed_l1b := c_reply_Reader_Feed_l1b
def c_reply_Reader_Feed : ACode := (.seq (.rg [⟨(some 4), (.asg (.c (.sl .ex 2 []))), none⟩, ⟨(some 5), (.asg (.c (.int .i64 0))), none⟩]) (.seq (.rg [⟨(some 6), (.asg (.c (.sl .ex 2 []))), none⟩]) (.seq (.blk 0 c_reply_Reader_Feed_l1) (.seq (.rg [⟨(some 71), (.mv (.t 6)), none⟩, ⟨(some 4), (.asg (.t 71)), none⟩, ⟨(some 5), (.asg (.c (.int .i64 3))), none⟩]) .ret))))
abbrev m_reply_Reader_Feed := c_reply_Reader_Feed
theorem k_reply_Reader_Feed : FnOk Tryd.prog 14 72 [(.tmp 4), (.tmp 5)] c_reply_Reader_Feed := ⟨Tryd.f14, _, rfl, by decide, rfl, by kernel_rfl, rfl, rfl⟩
abbrev L_reply_Reader_Feed : List Nat := [0, 1, 4, 5, 6, 7, 8, 9, 10, 11, 16, 28, 37, 55]
def reply_Reader_Feed_l1 (F : Nat)  : ((List UInt8) × (List ReplyV) × Int × (List ReplyV) × ReaderV × SplitterV) → Option (St ((List ReplyV) × Int × ReaderV) ((List ReplyV) × ReaderV × SplitterV) ((List UInt8) × (List ReplyV) × Int × (List ReplyV) × ReaderV × SplitterV))
  | (b5, t6, t7, out8, s9, s10) =>
    (if (!s9.bad) then
      (line_Splitter_Next F s10 b5).bind fun (r11, r12, r13, r14) =>
      (if (!r12) then
        some (.ret (out8, 0, (ReaderV.mk r14 s9.r s9.n s9.bad)))
      else
        (reply_Reader_take F (ReaderV.mk r14 s9.r s9.n s9.bad) r11).bind fun (r15, r16, r17) =>
        (if (!r16) then
          (line_Splitter_Reset r14).bind fun r18 =>
          some (.nxt (r13, t6, t7, out8, (ReaderV.mk r18 (ReplyV.mk 0 ([] : List (List UInt8))) 0 true), r18))
        else
          (if r15 then
            (capp 32 out8 ([r17.r] : List ReplyV)).bind fun x19 =>
            some (.nxt (r13, t6, t7, x19, (ReaderV.mk r14 (ReplyV.mk 0 ([] : List (List UInt8))) 0 r17.bad), r14))
          else
            some (.nxt (r13, t6, t7, out8, (ReaderV.mk r14 r17.r r17.n r17.bad), r14)))))
    else
      some (.brk (out8, (ReaderV.mk s10 s9.r s9.n s9.bad), s10)))
def reply_Reader_Feed (F : Nat) (r2 : ReaderV) (b4 : List UInt8) : Option ((List ReplyV) × Int × ReaderV) :=
  ((iter (reply_Reader_Feed_l1 F) F (b4, ([] : List ReplyV), 0, ([] : List ReplyV), r2, r2.splitter)).bind fun o32 =>
  match o32 with
  | .inr (out26, s27, s28) =>
    some (out26, 3, (ReaderV.mk s28 s27.r s27.n s27.bad))
  | .inl (r29, r30, s31) =>
    some (r29, r30, s31))
set_option maxHeartbeats 2000000 in
theorem reply_Reader_Feed_l1_ok {F : Nat} {s9 : ReaderV} {s10 : SplitterV} {b5 : List UInt8} {out8 : List ReplyV} {t6 : List ReplyV} {t7 : Int} {q1 : Nat} {q3 : Nat} {H0 H : AH} (hfr : Fr H0 H0.length [q1, q3] H) (hs_o1 : H[q1]? = some [(.ptr q3 0), (.int .i64 s9.r.code), (.sl .own 1 (ml AV.str s9.r.lines)), (.int .i64 s9.n), (.bool s9.bad)]) (hs_o2 : H[q3]? = some [(.int .i64 s10.most), (.sl .own 1 (ml b8 s10.b)), (.int .i64 s10.state), (.bool s10.long)]) (hi0 : q1 < H0.length) (hi1 : q3 < H0.length) (hi2 : q1 ≠ q3) {K : Exit → Env → AH → Prop} {o : ((List ReplyV) × Int × ReaderV) ⊕ ((List ReplyV) × ReaderV × SplitterV)}
    (h : iter (reply_Reader_Feed_l1 F) F (b5, t6, t7, out8, s9, s10) = some o)
    (kb0 : ∀ o' : (List ReplyV) × ReaderV × SplitterV, o = .inr o' → ∀ H' : AH, Fr H0 H0.length [q1, q3] H' → H'[q1]? = some [(.ptr q3 0), (.int .i64 o'.2.1.r.code), (.sl .own 1 (ml AV.str o'.2.1.r.lines)), (.int .i64 o'.2.1.n), (.bool o'.2.1.bad)] → H'[q3]? = some [(.int .i64 o'.2.2.most), (.sl .own 1 (ml b8 o'.2.2.b)), (.int .i64 o'.2.2.state), (.bool o'.2.2.long)] → K (.exit 0) [(6, (.sl .own 2 (ml encReplyV o'.1)))] H')
    (kr : ∀ o' : (List ReplyV) × Int × ReaderV, o = .inl o' → ∀ H' : AH, Fr H0 H0.length [q1, q3] H' → H'[q1]? = some [(.ptr q3 0), (.int .i64 o'.2.2.r.code), (.sl .own 1 (ml AV.str o'.2.2.r.lines)), (.int .i64 o'.2.2.n), (.bool o'.2.2.bad)] → H'[q3]? = some [(.int .i64 o'.2.2.splitter.most), (.sl .own 1 (ml b8 o'.2.2.splitter.b)), (.int .i64 o'.2.2.splitter.state), (.bool o'.2.2.splitter.long)] → K .ret [(4, (.sl .n 2 (ml encReplyV o'.1))), (5, (.int .i64 o'.2.1))] H') :
    AX Tryd.prog L_reply_Reader_Feed 72 H0.length c_reply_Reader_Feed_l1 K [(0, (.ptr q1 0)), (1, (.sl .n 1 (ml b8 b5))), (4, (.sl .own 2 (ml encReplyV t6))), (5, (.int .i64 t7)), (6, (.sl .own 2 (ml encReplyV out8)))] H := by
  refine AX.iter (m := m_reply_Reader_Feed_l1b) rfl (by decide) (fun s e H1 => match s with | (b5, t6, t7, out8, s9, s10) => e = [(0, (.ptr q1 0)), (1, (.sl .n 1 (ml b8 b5))), (4, (.sl .own 2 (ml encReplyV t6))), (5, (.int .i64 t7)), (6, (.sl .own 2 (ml encReplyV out8)))] ∧ Fr H0 H0.length [q1, q3] H1 ∧ H1[q1]? = some [(.ptr q3 0), (.int .i64 s9.r.code), (.sl .own 1 (ml AV.str s9.r.lines)), (.int .i64 s9.n), (.bool s9.bad)] ∧ H1[q3]? = some [(.int .i64 s10.most), (.sl .own 1 (ml b8 s10.b)), (.int .i64 s10.state), (.bool s10.long)]) h ⟨rfl, hfr, hs_o1, hs_o2⟩ ?_
  skip
  rintro K' ⟨b5, t6, t7, out8, s9, s10⟩ st e H ⟨rfl, hfr, hs_o1, hs_o2⟩ h hN hB hR hX
  have hle := hfr.le
  have hl_o1 := h_lt hs_o1
  have hl_o2 := h_lt hs_o2
  rw [reply_Reader_Feed_l1.eq_1] at h
  simp (disch := first | assumption | omega | (simp only [h_sl, h_al] <;> omega) | fail) only [WW, WH, ↓reduceIte, Nat.reduceEqDiff, Nat.reduceLT, Nat.reduceLeDiff, Nat.reduceAdd, Nat.reduceSub, Nat.reduceMul, Nat.reduceBEq, reduceCtorEq, if_false, if_true, L_reply_Reader_Feed, m_reply_Reader_Feed_l1b, c_reply_Reader_Feed_l1b, hs_o1, hs_o2, encReplyV]
  rcases ifb h with ⟨hy1, h⟩ | ⟨hy1, h⟩
  · refine UC_t hy1 ?_
    simp (disch := first | assumption | omega | (simp only [h_sl, h_al] <;> omega) | fail) only [WW, WH, ↓reduceIte, Nat.reduceEqDiff, Nat.reduceLT, Nat.reduceLeDiff, Nat.reduceAdd, Nat.reduceSub, Nat.reduceMul, Nat.reduceBEq, reduceCtorEq, if_false, if_true, L_reply_Reader_Feed, hs_o1, hs_o2, encReplyV]
    obtain ⟨⟨r11, r12, r13, r14⟩, hy2, h⟩ := bnd' h
    dsimp only at h
    refine UK_e (as' := [(.ptr q3 0), (.sl .n 1 (ml b8 b5))]) (h := line_Splitter_Next_ok (s2 := s10) (b3 := b5) (q1 := q3) (F := F) (by exact ((hs_o2).trans rfl)) hy2) (hw := WL.cons (Wx.ptr) (WL.cons (Wx.nn) (WL.nil))) (hh := WxH.refl _) ?_
    simp (disch := first | assumption | omega | (simp only [h_sl, h_al] <;> omega) | fail) only [WW, WH, ↓reduceIte, Nat.reduceEqDiff, Nat.reduceLT, Nat.reduceLeDiff, Nat.reduceAdd, Nat.reduceSub, Nat.reduceMul, Nat.reduceBEq, reduceCtorEq, if_false, if_true, L_reply_Reader_Feed, hs_o1, hs_o2, encReplyV]
    rcases ifb h with ⟨hy3, h⟩ | ⟨hy3, h⟩
    · refine UC_t hy3 ?_
      simp (disch := first | assumption | omega | (simp only [h_sl, h_al] <;> omega) | fail) only [WW, WH, ↓reduceIte, Nat.reduceEqDiff, Nat.reduceLT, Nat.reduceLeDiff, Nat.reduceAdd, Nat.reduceSub, Nat.reduceMul, Nat.reduceBEq, reduceCtorEq, if_false, if_true, L_reply_Reader_Feed, hs_o1, hs_o2, encReplyV]
      have hq := Option.some.inj h; subst hq
      refine hX _ _ _ _ _ (by simp) ?_ (WxH.refl _) (kr _ (hR _ rfl) _ (Fr.set (s := H.length) (Fr.app (Fr.set (s := q3) hfr (.inl (by simp)))) (.inr (by first | assumption | omega | (simp only [h_sl, h_al] <;> omega) | fail))) (((h_ne (by first | assumption | omega | (simp only [h_sl, h_al] <;> omega) | fail)).trans ((h_app (by first | assumption | omega | (simp only [h_sl, h_al] <;> omega) | fail)).trans ((h_ne (by first | assumption | omega | (simp only [h_sl, h_al] <;> omega) | fail)).trans (hs_o1)))).trans rfl) (((h_ne (by first | assumption | omega | (simp only [h_sl, h_al] <;> omega) | fail)).trans ((h_app (by first | assumption | omega | (simp only [h_sl, h_al] <;> omega) | fail)).trans (h_eq (by first | assumption | omega | (simp only [h_sl, h_al] <;> omega) | fail)))).trans rfl))
      exact WE.cons (Wx.nn) (WE.cons (Wx.int) (WE.nil))
    · refine UC_f hy3 ?_
      simp (disch := first | assumption | omega | (simp only [h_sl, h_al] <;> omega) | fail) only [WW, WH, ↓reduceIte, Nat.reduceEqDiff, Nat.reduceLT, Nat.reduceLeDiff, Nat.reduceAdd, Nat.reduceSub, Nat.reduceMul, Nat.reduceBEq, reduceCtorEq, if_false, if_true, L_reply_Reader_Feed, hs_o1, hs_o2, encReplyV]
      obtain ⟨⟨r15, r16, r17⟩, hy4, h⟩ := bnd' h
      dsimp only at h
      refine UK_e (as' := [(.ptr q1 0), (.agg [(.str r11.text), (.bool r11.long)])]) (h := reply_Reader_take_ok (r2 := (ReaderV.mk r14 s9.r s9.n s9.bad)) (l4 := r11) (q1 := q1) (q3 := q3) (F := F) (by exact (((h_ne (by first | assumption | omega | (simp only [h_sl, h_al] <;> omega) | fail)).trans ((h_app (by first | assumption | omega | (simp only [h_sl, h_al] <;> omega) | fail)).trans ((h_ne (by first | assumption | omega | (simp only [h_sl, h_al] <;> omega) | fail)).trans (hs_o1)))).trans rfl)) (by exact (((h_ne (by first | assumption | omega | (simp only [h_sl, h_al] <;> omega) | fail)).trans ((h_app (by first | assumption | omega | (simp only [h_sl, h_al] <;> omega) | fail)).trans (h_eq (by first | assumption | omega | (simp only [h_sl, h_al] <;> omega) | fail)))).trans rfl)) (by first | assumption | omega | (simp only [h_sl, h_al] <;> omega) | fail) hy4) (hw := WL.cons (Wx.ptr) (WL.cons (Wx.agg (W1L.same (W1L.same (W1L.nil)))) (WL.nil))) (hh := WxH.refl _) ?_
      simp (disch := first | assumption | omega | (simp only [h_sl, h_al] <;> omega) | fail) only [WW, WH, ↓reduceIte, Nat.reduceEqDiff, Nat.reduceLT, Nat.reduceLeDiff, Nat.reduceAdd, Nat.reduceSub, Nat.reduceMul, Nat.reduceBEq, reduceCtorEq, if_false, if_true, L_reply_Reader_Feed, hs_o1, hs_o2, encReplyV]
      rcases ifb h with ⟨hy5, h⟩ | ⟨hy5, h⟩
      · refine UC_t hy5 ?_
        simp (disch := first | assumption | omega | (simp only [h_sl, h_al] <;> omega) | fail) only [WW, WH, ↓reduceIte, Nat.reduceEqDiff, Nat.reduceLT, Nat.reduceLeDiff, Nat.reduceAdd, Nat.reduceSub, Nat.reduceMul, Nat.reduceBEq, reduceCtorEq, if_false, if_true, L_reply_Reader_Feed, hs_o1, hs_o2, encReplyV]
        obtain ⟨r18, hy6, h⟩ := bnd' h
        refine UK_e (as' := [(.ptr q3 0)]) (h := line_Splitter_Reset_ok (s2 := r14) (q1 := q3) (by exact (((h_ne (by first | assumption | omega | (simp only [h_sl, h_al] <;> omega) | fail)).trans ((h_ne (by first | assumption | omega | (simp only [h_sl, h_al] <;> omega) | fail)).trans ((h_ne (by first | assumption | omega | (simp only [h_sl, h_al] <;> omega) | fail)).trans ((h_ne (by first | assumption | omega | (simp only [h_sl, h_al] <;> omega) | fail)).trans ((h_ne (by first | assumption | omega | (simp only [h_sl, h_al] <;> omega) | fail)).trans ((h_app (by first | assumption | omega | (simp only [h_sl, h_al] <;> omega) | fail)).trans (h_eq (by first | assumption | omega | (simp only [h_sl, h_al] <;> omega) | fail)))))))).trans rfl)) hy6) (hw := WL.cons (Wx.ptr) (WL.nil)) (hh := WxH.refl _) ?_
        simp (disch := first | assumption | omega | (simp only [h_sl, h_al] <;> omega) | fail) only [WW, WH, ↓reduceIte, Nat.reduceEqDiff, Nat.reduceLT, Nat.reduceLeDiff, Nat.reduceAdd, Nat.reduceSub, Nat.reduceMul, Nat.reduceBEq, reduceCtorEq, if_false, if_true, L_reply_Reader_Feed, hs_o1, hs_o2, encReplyV]
        have hq := Option.some.inj h; subst hq
        refine hN _ rfl _ _ _ _ ?_ (WxH.set (q := q1) (cs' := [(.ptr q3 0), (.int .i64 0), (.sl .own 1 []), (.int .i64 0), (.bool true)]) (((h_ne (by first | assumption | omega | (simp only [h_sl, h_al] <;> omega) | fail)).trans (h_eq (by first | assumption | omega | (simp only [h_sl, h_al] <;> omega) | fail))).trans rfl) (WxC.cons (Wx.ptr) (WxC.cons (Wx.int) (WxC.cons (Wx.own ..) (WxC.cons (Wx.int) (WxC.cons (Wx.bool) (WxC.nil))))))) ⟨rfl, (Fr.set (s := q1) (Fr.set (s := q3) (Fr.set (s := q1) (Fr.set (s := q1) (Fr.set (s := q1) (Fr.set (s := q1) (Fr.set (s := H.length) (Fr.app (Fr.set (s := q3) hfr (.inl (by simp)))) (.inr (by first | assumption | omega | (simp only [h_sl, h_al] <;> omega) | fail))) (.inl (by simp))) (.inl (by simp))) (.inl (by simp))) (.inl (by simp))) (.inl (by simp))) (.inl (by simp))), ((h_eq (by first | assumption | omega | (simp only [h_sl, h_al] <;> omega) | fail)).trans rfl), (((h_ne (by first | assumption | omega | (simp only [h_sl, h_al] <;> omega) | fail)).trans (h_eq (by first | assumption | omega | (simp only [h_sl, h_al] <;> omega) | fail))).trans rfl)⟩
        exact WE.cons (Wx.ptr) (WE.cons (Wx.nn) (WE.cons (Wx.oo) (WE.cons (Wx.int) (WE.cons (Wx.oo) (WE.nil)))))
      · refine UC_f hy5 ?_
        simp (disch := first | assumption | omega | (simp only [h_sl, h_al] <;> omega) | fail) only [WW, WH, ↓reduceIte, Nat.reduceEqDiff, Nat.reduceLT, Nat.reduceLeDiff, Nat.reduceAdd, Nat.reduceSub, Nat.reduceMul, Nat.reduceBEq, reduceCtorEq, if_false, if_true, L_reply_Reader_Feed, hs_o1, hs_o2, encReplyV]
        rcases ifb h with ⟨hy7, h⟩ | ⟨hy7, h⟩
        · refine UC_t hy7 ?_
          obtain ⟨x19, hy8, h⟩ := bnd' h
          have hy9 : capp 32 (ml encReplyV out8) [(.agg [(.int .i64 r17.r.code), (.sl .n 1 (ml AV.str r17.r.lines))])] = some (ml encReplyV x19) := capp_m (f := encReplyV) hy8
          simp (disch := first | assumption | omega | (simp only [h_sl, h_al] <;> omega) | fail) only [WW, WH, ↓reduceIte, Nat.reduceEqDiff, Nat.reduceLT, Nat.reduceLeDiff, Nat.reduceAdd, Nat.reduceSub, Nat.reduceMul, Nat.reduceBEq, reduceCtorEq, if_false, if_true, L_reply_Reader_Feed, hy9, hs_o1, hs_o2, encReplyV]
          have hq := Option.some.inj h; subst hq
          refine hN _ rfl _ _ _ _ ?_ (WxH.set (q := q1) (cs' := [(.ptr q3 0), (.int .i64 0), (.sl .own 1 []), (.int .i64 0), (.bool r17.bad)]) ((h_eq (by first | assumption | omega | (simp only [h_sl, h_al] <;> omega) | fail)).trans rfl) (WxC.cons (Wx.ptr) (WxC.cons (Wx.int) (WxC.cons (Wx.own ..) (WxC.cons (Wx.int) (WxC.cons (Wx.bool) (WxC.nil))))))) ⟨rfl, (Fr.set (s := q1) (Fr.set (s := q1) (Fr.set (s := q1) (Fr.set (s := q1) (Fr.set (s := H.length) (Fr.app (Fr.set (s := q3) hfr (.inl (by simp)))) (.inr (by first | assumption | omega | (simp only [h_sl, h_al] <;> omega) | fail))) (.inl (by simp))) (.inl (by simp))) (.inl (by simp))) (.inl (by simp))), ((h_eq (by first | assumption | omega | (simp only [h_sl, h_al] <;> omega) | fail)).trans rfl), (((h_ne (by first | assumption | omega | (simp only [h_sl, h_al] <;> omega) | fail)).trans ((h_ne (by first | assumption | omega | (simp only [h_sl, h_al] <;> omega) | fail)).trans ((h_ne (by first | assumption | omega | (simp only [h_sl, h_al] <;> omega) | fail)).trans ((h_ne (by first | assumption | omega | (simp only [h_sl, h_al] <;> omega) | fail)).trans ((h_ne (by first | assumption | omega | (simp only [h_sl, h_al] <;> omega) | fail)).trans ((h_app (by first | assumption | omega | (simp only [h_sl, h_al] <;> omega) | fail)).trans (h_eq (by first | assumption | omega | (simp only [h_sl, h_al] <;> omega) | fail)))))))).trans rfl)⟩
          exact WE.cons (Wx.ptr) (WE.cons (Wx.nn) (WE.cons (Wx.oo) (WE.cons (Wx.int) (WE.cons (Wx.oo) (WE.nil)))))
        · refine UC_f hy7 ?_
          simp (disch := first | assumption | omega | (simp only [h_sl, h_al] <;> omega) | fail) only [WW, WH, ↓reduceIte, Nat.reduceEqDiff, Nat.reduceLT, Nat.reduceLeDiff, Nat.reduceAdd, Nat.reduceSub, Nat.reduceMul, Nat.reduceBEq, reduceCtorEq, if_false, if_true, L_reply_Reader_Feed, hs_o1, hs_o2, encReplyV]
          have hq := Option.some.inj h; subst hq
          refine hN _ rfl _ _ _ _ ?_ (WxH.refl _) ⟨rfl, (Fr.set (s := q1) (Fr.set (s := H.length) (Fr.app (Fr.set (s := q3) hfr (.inl (by simp)))) (.inr (by first | assumption | omega | (simp only [h_sl, h_al] <;> omega) | fail))) (.inl (by simp))), ((h_eq (by first | assumption | omega | (simp only [h_sl, h_al] <;> omega) | fail)).trans rfl), (((h_ne (by first | assumption | omega | (simp only [h_sl, h_al] <;> omega) | fail)).trans ((h_ne (by first | assumption | omega | (simp only [h_sl, h_al] <;> omega) | fail)).trans ((h_app (by first | assumption | omega | (simp only [h_sl, h_al] <;> omega) | fail)).trans (h_eq (by first | assumption | omega | (simp only [h_sl, h_al] <;> omega) | fail))))).trans rfl)⟩
          exact WE.cons (Wx.ptr) (WE.cons (Wx.nn) (WE.cons (Wx.oo) (WE.cons (Wx.int) (WE.cons (Wx.oo) (WE.nil)))))
  · refine UC_f hy1 ?_
    simp (disch := first | assumption | omega | (simp only [h_sl, h_al] <;> omega) | fail) only [WW, WH, ↓reduceIte, Nat.reduceEqDiff, Nat.reduceLT, Nat.reduceLeDiff, Nat.reduceAdd, Nat.reduceSub, Nat.reduceMul, Nat.reduceBEq, reduceCtorEq, if_false, if_true, L_reply_Reader_Feed, hs_o1, hs_o2, encReplyV]
    have hq := Option.some.inj h; subst hq
    refine hX _ _ _ _ _ (by simp) ?_ (WxH.refl _) (kb0 _ (hB _ rfl) _ hfr ((hs_o1).trans rfl) ((hs_o2).trans rfl))
    exact WE.cons (Wx.oo) (WE.nil)
set_option maxHeartbeats 2000000 in
theorem reply_Reader_Feed_ok {F : Nat} {r2 : ReaderV} {b4 : List UInt8} {q1 : Nat} {q3 : Nat} {H0 : AH} (hs_o1 : H0[q1]? = some [(.ptr q3 0), (.int .i64 r2.r.code), (.sl .own 1 (ml AV.str r2.r.lines)), (.int .i64 r2.n), (.bool r2.bad)]) (hs_o2 : H0[q3]? = some [(.int .i64 r2.splitter.most), (.sl .own 1 (ml b8 r2.splitter.b)), (.int .i64 r2.splitter.state), (.bool r2.splitter.long)]) (hi0 : q1 ≠ q3) {rz0 : List ReplyV} {rz1 : Int} {rz2 : ReaderV} (h : reply_Reader_Feed F r2 b4 = some (rz0, rz1, rz2)) :
    ACalls Tryd.prog 14 [(.ptr q1 0), (.sl .n 1 (ml b8 b4))] H0 fun v H' => v = (.tup [(.sl .n 2 (ml encReplyV rz0)), (.int .i64 rz1)]) ∧ H' = ((H0.set q1 [(.ptr q3 0), (.int .i64 rz2.r.code), (.sl .own 1 (ml AV.str rz2.r.lines)), (.int .i64 rz2.n), (.bool rz2.bad)]).set q3 [(.int .i64 rz2.splitter.most), (.sl .own 1 (ml b8 rz2.splitter.b)), (.int .i64 rz2.splitter.state), (.bool rz2.splitter.long)]) := by
  refine ACalls.goX k_reply_Reader_Feed (m := m_reply_Reader_Feed) rfl L_reply_Reader_Feed (by decide) (by simp) fun hcl K0 hK0 => ?_
  refine AX.of_U (m := m_reply_Reader_Feed) rfl (by decide) ?_
  have hl_o1 := h_lt hs_o1
  have hl_o2 := h_lt hs_o2
  have hfr := Fr.refl H0 [q1, q3]
  have hle := hfr.le
  rw [reply_Reader_Feed.eq_1] at h
  obtain ⟨H, hHH⟩ : ∃ H, H = H0 := ⟨_, rfl⟩
  have hfr : Fr H0 H0.length [q1, q3] H := hHH ▸ hfr
  have hs_o1 : H[q1]? = some [(.ptr q3 0), (.int .i64 r2.r.code), (.sl .own 1 (ml AV.str r2.r.lines)), (.int .i64 r2.n), (.bool r2.bad)] := hHH ▸ hs_o1
  have hs_o2 : H[q3]? = some [(.int .i64 r2.splitter.most), (.sl .own 1 (ml b8 r2.splitter.b)), (.int .i64 r2.splitter.state), (.bool r2.splitter.long)] := hHH ▸ hs_o2
  have hle := hfr.le
  have hL_o1 : q1 < H.length := h_lt hs_o1
  have hL_o2 : q3 < H.length := h_lt hs_o2
  suffices hU : U Tryd.prog L_reply_Reader_Feed 72 H0.length [.code m_reply_Reader_Feed] K0 .normal (argE 0 [(.ptr q1 0), (.sl .n 1 (ml b8 b4))]) H by rwa [hHH] at hU
  simp (disch := first | assumption | omega | (simp only [h_sl, h_al] <;> omega) | fail) only [WW, WH, ↓reduceIte, Nat.reduceEqDiff, Nat.reduceLT, Nat.reduceLeDiff, Nat.reduceAdd, Nat.reduceSub, Nat.reduceMul, Nat.reduceBEq, reduceCtorEq, if_false, if_true, L_reply_Reader_Feed, m_reply_Reader_Feed, c_reply_Reader_Feed, hs_o1, hs_o2, encReplyV]
  obtain ⟨o32, hy10, h⟩ := bnd' h
  refine UX_of (AX.weak ?_ (WxH.refl _) (reply_Reader_Feed_l1_ok  (q1 := q1) (q3 := q3) (b5 := b4) (t6 := ([] : List ReplyV)) (t7 := 0) (out8 := ([] : List ReplyV)) (s9 := r2) (s10 := r2.splitter)  (hfr) ((hs_o1).trans rfl) ((hs_o2).trans rfl) (by first | assumption | omega | (simp only [h_sl, h_al] <;> omega) | fail) (by first | assumption | omega | (simp only [h_sl, h_al] <;> omega) | fail) (by first | assumption | omega | (simp only [h_sl, h_al] <;> omega) | fail) (o := o32) hy10 ?_ ?_))
  · exact WE.cons (Wx.ptr) (WE.cons (Wx.nn) (WE.cons (Wx.own ..) (WE.cons (Wx.int) (WE.cons (Wx.own ..) (WE.nil)))))
  · rintro ⟨out26, s27, s28⟩ rfl H hfr hs_o1 hs_o2
    try dsimp only at h hs_o1 hs_o2
    have hle := hfr.le
    have hl_o1 := h_lt hs_o1
    have hl_o2 := h_lt hs_o2
    simp (disch := first | assumption | omega | (simp only [h_sl, h_al] <;> omega) | fail) only [WW, WH, ↓reduceIte, Nat.reduceEqDiff, Nat.reduceLT, Nat.reduceLeDiff, Nat.reduceAdd, Nat.reduceSub, Nat.reduceMul, Nat.reduceBEq, reduceCtorEq, if_false, if_true, L_reply_Reader_Feed, hs_o1, hs_o2, encReplyV]
    have hq := Option.some.inj h; have hq0 := (Prod.mk.inj hq).1; replace hq := (Prod.mk.inj hq).2; have hq1 := (Prod.mk.inj hq).1; replace hq := (Prod.mk.inj hq).2; subst hq0; subst hq1; subst hq
    refine hK0 _ _ _ (.inr rfl) ?_
    exact fn_end2 (by exact hfr) hcl (resv_tmp (a := (.sl .n 2 (ml encReplyV out26))) rfl rfl (resv_tmp (a := (.int .i64 3)) rfl rfl resv_nil)) (by simp [fin, AV.df, AV.sh, AV.sh1, b_df, b_sh, b_sh1, b_Cl]) (Wx.tupX (W2L.same (W2L.same (W2L.nil)))) (by exact ((hs_o1).trans rfl)) (by first | assumption | omega | (simp only [h_sl, h_al] <;> omega) | fail) (by simp [b_Cl]; try omega) (WxC.cons (Wx.ptr) (WxC.cons (Wx.int) (WxC.cons (Wx.oo) (WxC.cons (Wx.int) (WxC.cons (Wx.bool) (WxC.nil)))))) (by exact ((hs_o2).trans rfl)) (by first | assumption | omega | (simp only [h_sl, h_al] <;> omega) | fail) (by simp [b_Cl]; try omega) (WxC.cons (Wx.int) (WxC.cons (Wx.oo) (WxC.cons (Wx.int) (WxC.cons (Wx.bool) (WxC.nil))))) (by first | assumption | omega | (simp only [h_sl, h_al] <;> omega) | fail) (r' := (.tup [(.sl .n 2 (ml encReplyV out26)), (.int .i64 3)])) ⟨rfl, rfl⟩
  · rintro ⟨r29, r30, s31⟩ rfl H hfr hs_o1 hs_o2
    try dsimp only at h hs_o1 hs_o2
    have hle := hfr.le
    have hl_o1 := h_lt hs_o1
    have hl_o2 := h_lt hs_o2
    simp (disch := first | assumption | omega | (simp only [h_sl, h_al] <;> omega) | fail) only [WW, WH, ↓reduceIte, Nat.reduceEqDiff, Nat.reduceLT, Nat.reduceLeDiff, Nat.reduceAdd, Nat.reduceSub, Nat.reduceMul, Nat.reduceBEq, reduceCtorEq, if_false, if_true, L_reply_Reader_Feed, hs_o1, hs_o2, encReplyV]
    have hq := Option.some.inj h; have hq0 := (Prod.mk.inj hq).1; replace hq := (Prod.mk.inj hq).2; have hq1 := (Prod.mk.inj hq).1; replace hq := (Prod.mk.inj hq).2; subst hq0; subst hq1; subst hq
    refine hK0 _ _ _ (.inr rfl) ?_
    exact fn_end2 (by exact hfr) hcl (resv_tmp (a := (.sl .n 2 (ml encReplyV r29))) rfl rfl (resv_tmp (a := (.int .i64 r30)) rfl rfl resv_nil)) (by simp [fin, AV.df, AV.sh, AV.sh1, b_df, b_sh, b_sh1, b_Cl]) (Wx.tupX (W2L.same (W2L.same (W2L.nil)))) (by exact ((hs_o1).trans rfl)) (by first | assumption | omega | (simp only [h_sl, h_al] <;> omega) | fail) (by simp [b_Cl]; try omega) (WxC.cons (Wx.ptr) (WxC.cons (Wx.int) (WxC.cons (Wx.oo) (WxC.cons (Wx.int) (WxC.cons (Wx.bool) (WxC.nil)))))) (by exact ((hs_o2).trans rfl)) (by first | assumption | omega | (simp only [h_sl, h_al] <;> omega) | fail) (by simp [b_Cl]; try omega) (WxC.cons (Wx.int) (WxC.cons (Wx.oo) (WxC.cons (Wx.int) (WxC.cons (Wx.bool) (WxC.nil))))) (by first | assumption | omega | (simp only [h_sl, h_al] <;> omega) | fail) (r' := (.tup [(.sl .n 2 (ml encReplyV r29)), (.int .i64 r30)])) ⟨rfl, rfl⟩

/-! ### (*mailbag/line.Splitter).Held -/
def c_line_Splitter_Held_s : ACode := (.seq (.rg [⟨(some 2), (.asg (.c (.int .i64 0))), none⟩]) (.seq (.seq (.rg [⟨(some 3), (.mv (.t 0)), none⟩, ⟨(some 4), (.nck (.t 3)), none⟩, ⟨(some 5), (.fld (.t 4) 2), none⟩, ⟨(some 6), (.ld (.t 5) none), none⟩, ⟨(some 7), (.bin .eql (.t 6) (.c (.int .i64 2))), none⟩]) (.cond (.t 7) (.seq (.rg [⟨(some 8), (.mv (.t 0)), none⟩, ⟨(some 9), (.nck (.t 8)), none⟩, ⟨(some 10), (.fld (.t 9) 1), none⟩, ⟨(some 11), (.ld (.t 10) none), none⟩, ⟨(some 12), (.len (.t 11)), none⟩, ⟨(some 13), (.bin .add (.t 12) (.c (.int .i64 1))), none⟩, ⟨(some 2), (.asg (.t 13)), none⟩]) .ret) .skip)) (.seq (.rg [⟨(some 14), (.mv (.t 0)), none⟩, ⟨(some 15), (.nck (.t 14)), none⟩, ⟨(some 16), (.fld (.t 15) 1), none⟩, ⟨(some 17), (.ld (.t 16) none), none⟩, ⟨(some 18), (.len (.t 17)), none⟩, ⟨(some 2), (.asg (.t 18)), none⟩]) .ret)))
abbrev m_line_Splitter_Held_s := c_line_Splitter_Held_s
theorem k_line_Splitter_Held_s : FnOk Tryd.prog 28 19 [(.tmp 2)] c_line_Splitter_Held_s := ⟨Tryd.f28, _, rfl, by decide, rfl, by kernel_rfl, rfl, rfl⟩
abbrev L_line_Splitter_Held_s : List Nat := [0, 2, 7]
def line_Splitter_Held_s (s1 : SplitterV) : Option (Int) :=
  (if (decide (s1.state = 2)) then
    some (IntKind.wrap .i64 ((s1.b.length : Int) + 1))
  else
    some (s1.b.length : Int))
set_option maxHeartbeats 2000000 in
theorem line_Splitter_Held_s_ok {s1 : SplitterV}  {H0 : AH}  {rz0 : Int} (h : line_Splitter_Held_s s1 = some rz0) :
    ACalls Tryd.prog 28 [(.ep (.agg [(.int .i64 s1.most), (.sl .n 1 (ml b8 s1.b)), (.int .i64 s1.state), (.bool s1.long)]) 0)] H0 fun v H' => v = (.int .i64 rz0) ∧ H' = H0 := by
  refine ACalls.goX k_line_Splitter_Held_s (m := m_line_Splitter_Held_s) rfl L_line_Splitter_Held_s (by decide) (by simp) fun hcl K0 hK0 => ?_
  refine AX.of_U (m := m_line_Splitter_Held_s) rfl (by decide) ?_
  rw [line_Splitter_Held_s.eq_1] at h
  simp only [WW, ↓reduceIte, Nat.reduceEqDiff, Nat.reduceLT, Nat.reduceLeDiff, Nat.reduceAdd, Nat.reduceSub, Nat.reduceMul, Nat.reduceBEq, reduceCtorEq, if_false, if_true, L_line_Splitter_Held_s, m_line_Splitter_Held_s, c_line_Splitter_Held_s, encReplyV]
  rcases ifb h with ⟨hy1, h⟩ | ⟨hy1, h⟩
  · refine UC_t hy1 ?_
    simp only [WW, ↓reduceIte, Nat.reduceEqDiff, Nat.reduceLT, Nat.reduceLeDiff, Nat.reduceAdd, Nat.reduceSub, Nat.reduceMul, Nat.reduceBEq, reduceCtorEq, if_false, if_true, L_line_Splitter_Held_s, encReplyV]
    have hq := Option.some.inj h; subst hq
    refine hK0 _ _ _ (.inr rfl) ?_
    exact fn_endp hcl (resv_tmp (a := (.int .i64 (IntKind.wrap .i64 ((s1.b.length : Int) + 1)))) rfl rfl resv_nil) (by simp [fin, AV.df, AV.sh, AV.sh1, b_df, b_sh, b_sh1, b_Cl]) (Wx.int) (r' := (.int .i64 (IntKind.wrap .i64 ((s1.b.length : Int) + 1)))) ⟨rfl, rfl⟩
  · refine UC_f hy1 ?_
    simp only [WW, ↓reduceIte, Nat.reduceEqDiff, Nat.reduceLT, Nat.reduceLeDiff, Nat.reduceAdd, Nat.reduceSub, Nat.reduceMul, Nat.reduceBEq, reduceCtorEq, if_false, if_true, L_line_Splitter_Held_s, encReplyV]
    have hq := Option.some.inj h; subst hq
    refine hK0 _ _ _ (.inr rfl) ?_
    exact fn_endp hcl (resv_tmp (a := (.int .i64 (s1.b.length : Int))) rfl rfl resv_nil) (by simp [fin, AV.df, AV.sh, AV.sh1, b_df, b_sh, b_sh1, b_Cl]) (Wx.int) (r' := (.int .i64 (s1.b.length : Int))) ⟨rfl, rfl⟩

/-! ### mailbag/reply.Parse -/
def c_reply_Parse_p1 : ACode := (.rg [⟨(some 15), (.mv (.t 6)), none⟩, ⟨(some 16), (.bin .neq (.t 15) (.c (.int .i64 0))), none⟩, ⟨(some 17), (.mv (.t 16)), none⟩, ⟨(some 18), (.mv (.t 5)), (some (17, false))⟩, ⟨(some 19), (.len (.t 18)), (some (17, false))⟩, ⟨(some 20), (.bin .gtr (.t 19) (.c (.int .i64 1))), (some (17, false))⟩, ⟨(some 21), (.pick (.t 17) (.c (.bool true)) (.t 20)), none⟩, ⟨(some 22), (.mv (.t 21)), none⟩, ⟨(some 23), (.mv (.t 5)), (some (22, false))⟩, ⟨(some 24), (.len (.t 23)), (some (22, false))⟩, ⟨(some 25), (.bin .eql (.t 24) (.c (.int .i64 1))), (some (22, false))⟩, ⟨(some 26), (.mv (.t 25)), (some (22, false))⟩, ⟨(some 27), (.mv (.t 4)), (some (26, true))⟩, ⟨(some 28), (.nck (.t 27)), (some (26, true))⟩, ⟨(some 29), (.fld (.t 28) 1), (some (26, true))⟩, ⟨(some 30), (.fld (.t 29) 1), (some (26, true))⟩, ⟨(some 31), (.ld (.t 30) none), (some (26, true))⟩, ⟨(some 32), (.len (.t 31)), (some (26, true))⟩, ⟨(some 33), (.bin .gtr (.t 32) (.c (.int .i64 0))), (some (26, true))⟩, ⟨(some 34), (.mv (.t 33)), (some (26, true))⟩, ⟨(some 35), (.mv (.t 4)), (some (34, false))⟩, ⟨(some 36), (.nck (.t 35)), (some (34, false))⟩, ⟨(some 37), (.fld (.t 36) 0), (some (34, false))⟩, ⟨(some 38), (.ld (.t 37) none), (some (34, false))⟩, ⟨(some 39), (.call (.c (.fn 28 [])) [(.t 38)]), (some (34, false))⟩, ⟨(some 40), (.bin .gtr (.t 39) (.c (.int .i64 0))), (some (34, false))⟩, ⟨(some 41), (.pick (.t 34) (.c (.bool true)) (.t 40)), (some (26, true))⟩, ⟨(some 42), (.pick (.t 26) (.t 41) (.c (.bool false))), (some (22, false))⟩, ⟨(some 43), (.pick (.t 22) (.c (.bool true)) (.t 42)), none⟩, ⟨(some 14), (.asg (.t 43)), none⟩])
abbrev m_reply_Parse_p1 := c_reply_Parse_p1
def c_reply_Parse : ACode := (.seq (.rg [⟨(some 2), (.alloc [(.int .i64 0), (.sl .ex 1 [])]), none⟩, ⟨(some 3), (.asg (.c (.int .i64 0))), none⟩]) (.seq (.rg [⟨(some 7), (.call (.c (.fn 12 [])) []), none⟩, ⟨(some 4), (.asg (.t 7)), none⟩]) (.seq (.rg [⟨(some 9), (.mv (.t 4)), none⟩, ⟨(some 10), (.mv (.t 0)), none⟩, ⟨(some 11), (.call (.c (.fn 14 [])) [(.t 9), (.t 10)]), none⟩, ⟨(some 8), (.mv (.t 11)), none⟩, ⟨(some 12), (.ext (.t 8) 0), none⟩, ⟨(some 13), (.ext (.t 8) 1), none⟩, ⟨(some 5), (.asg (.t 12)), none⟩, ⟨(some 6), (.asg (.t 13)), none⟩]) (.seq (.blk 0 (.seq c_reply_Parse_p1 (.cond (.t 14) (.seq (.rg [⟨(some 44), (.build [(.int .i64 0), (.sl .ex 1 [])] []), none⟩, ⟨none, (.st (.t 2) (.t 44) 2), none⟩, ⟨(some 3), (.asg (.c (.int .i64 3))), none⟩]) .ret) (.seq (.rg [⟨(some 46), (.mv (.t 5)), none⟩, ⟨(some 47), (.len (.t 46)), none⟩, ⟨(some 48), (.bin .eql (.t 47) (.c (.int .i64 0))), none⟩, ⟨(some 45), (.asg (.t 48)), none⟩]) (.cond (.t 45) (.seq (.rg [⟨(some 49), (.build [(.int .i64 0), (.sl .ex 1 [])] []), none⟩, ⟨none, (.st (.t 2) (.t 49) 2), none⟩, ⟨(some 3), (.asg (.c (.int .i64 2))), none⟩]) .ret) .skip))))) (.seq (.rg [⟨(some 50), (.mv (.t 5)), none⟩, ⟨(some 51), (.ixa 2 (.t 50) (.c (.int .i64 0))), none⟩, ⟨(some 52), (.ld (.t 51) (some 2)), none⟩, ⟨none, (.st (.t 2) (.t 52) 2), none⟩, ⟨(some 3), (.asg (.c (.int .i64 0))), none⟩]) .ret)))))
def m_reply_Parse : ACode := (.seq (.rg [⟨(some 2), (.alloc [(.int .i64 0), (.sl .ex 1 [])]), none⟩, ⟨(some 3), (.asg (.c (.int .i64 0))), none⟩]) (.seq (.rg [⟨(some 7), (.call (.c (.fn 12 [])) []), none⟩, ⟨(some 4), (.asg (.t 7)), none⟩]) (.seq (.rg [⟨(some 9), (.mv (.t 4)), none⟩, ⟨(some 10), (.mv (.t 0)), none⟩, ⟨(some 11), (.call (.c (.fn 14 [])) [(.t 9), (.t 10)]), none⟩, ⟨(some 8), (.mv (.t 11)), none⟩, ⟨(some 12), (.ext (.t 8) 0), none⟩, ⟨(some 13), (.ext (.t 8) 1), none⟩, ⟨(some 5), (.asg (.t 12)), none⟩, ⟨(some 6), (.asg (.t 13)), none⟩]) (.seq (.blk 0 (.seq (.sem c_reply_Parse_p1) (.cond (.t 14) (.seq (.rg [⟨(some 44), (.build [(.int .i64 0), (.sl .ex 1 [])] []), none⟩, ⟨none, (.st (.t 2) (.t 44) 2), none⟩, ⟨(some 3), (.asg (.c (.int .i64 3))), none⟩]) .ret) (.seq (.rg [⟨(some 46), (.mv (.t 5)), none⟩, ⟨(some 47), (.len (.t 46)), none⟩, ⟨(some 48), (.bin .eql (.t 47) (.c (.int .i64 0))), none⟩, ⟨(some 45), (.asg (.t 48)), none⟩]) (.cond (.t 45) (.seq (.rg [⟨(some 49), (.build [(.int .i64 0), (.sl .ex 1 [])] []), none⟩, ⟨none, (.st (.t 2) (.t 49) 2), none⟩, ⟨(some 3), (.asg (.c (.int .i64 2))), none⟩]) .ret) .skip))))) (.seq (.rg [⟨(some 50), (.mv (.t 5)), none⟩, ⟨(some 51), (.ixa 2 (.t 50) (.c (.int .i64 0))), none⟩, ⟨(some 52), (.ld (.t 51) (some 2)), none⟩, ⟨none, (.st (.t 2) (.t 52) 2), none⟩, ⟨(some 3), (.asg (.c (.int .i64 0))), none⟩]) .ret)))))
theorem k_reply_Parse : FnOk Tryd.prog 9 53 [(.cell 2 25), (.tmp 3)] c_reply_Parse := ⟨Tryd.f9, _, rfl, by decide, rfl, by kernel_rfl, rfl, rfl⟩
abbrev L_reply_Parse : List Nat := [0, 2, 3, 4, 5, 6, 14, 45]
def reply_Parse_p1 (r8 : Int) (r7 : List ReplyV) (r9 : ReaderV) : Option (Bool) :=
  (if (!decide (r8 = 0)) then
    some true
  else
    (if (decide (1 < (r7.length : Int))) then
      some true
    else
      (if (decide ((r7.length : Int) = 1)) then
        (if (decide (0 < (r9.r.lines.length : Int))) then
          some true
        else
          (line_Splitter_Held_s r9.splitter).bind fun r13 => some (decide (0 < r13)))
      else
        some false)))
def reply_Parse (F : Nat) (b1 : List UInt8) : Option (ReplyV × Int) :=
  ((reply_New ).bind fun r2 =>
  match r2 with
  | none =>
    none
  | some t4 =>
    (reply_Reader_Feed F t4 b1).bind fun (r7, r8, r9) =>
    (reply_Parse_p1 r8 r7 r9).bind fun t15 =>
    (if t15 then
      some ((ReplyV.mk 0 ([] : List (List UInt8))), 3)
    else
      (if (decide ((r7.length : Int) = 0)) then
        some ((ReplyV.mk 0 ([] : List (List UInt8))), 2)
      else
        (idx r7 0).bind fun x16 => some (x16, 0))))
set_option maxHeartbeats 2000000 in
theorem reply_Parse_p1_ok {r8 : Int} {r7 : List ReplyV} {r9 : ReaderV} {q10 : Nat} {q11 : Nat} {q12 : Nat} {H0 H : AH} (hfr : Fr H0 H0.length [] H) (hs_o1 : H[q10]? = some [(.int .i64 0), (.sl .own 1 [])]) (hs_o2 : H[q11]? = some [(.ptr q12 0), (.int .i64 r9.r.code), (.sl .own 1 (ml AV.str r9.r.lines)), (.int .i64 r9.n), (.bool r9.bad)]) (hs_o3 : H[q12]? = some [(.int .i64 r9.splitter.most), (.sl .own 1 (ml b8 r9.splitter.b)), (.int .i64 r9.splitter.state), (.bool r9.splitter.long)]) (hi0 : H0.length ≤ q10) (hi1 : H0.length ≤ q11) (hi2 : q10 ≠ q11) (hi3 : H0.length ≤ q12) (hi4 : q10 ≠ q12) (hi5 : q11 ≠ q12) {K : Exit → Env → AH → Prop} {t14 : Bool}
    (h : reply_Parse_p1 r8 r7 r9 = some t14)
    (kn : ∀ H' : AH, Fr H0 H0.length [] H' → H'[q10]? = some [(.int .i64 0), (.sl .own 1 [])] → H'[q11]? = some [(.ptr q12 0), (.int .i64 r9.r.code), (.sl .own 1 (ml AV.str r9.r.lines)), (.int .i64 r9.n), (.bool r9.bad)] → H'[q12]? = some [(.int .i64 r9.splitter.most), (.sl .own 1 (ml b8 r9.splitter.b)), (.int .i64 r9.splitter.state), (.bool r9.splitter.long)] → K .normal [(2, (.ptr q10 0)), (5, (.sl .n 2 (ml encReplyV r7))), (14, (.bool t14))] H') :
    AX Tryd.prog L_reply_Parse 53 H0.length c_reply_Parse_p1 K [(2, (.ptr q10 0)), (4, (.ptr q11 0)), (5, (.sl .n 2 (ml encReplyV r7))), (6, (.int .i64 r8))] H := by
  refine AX.go (m := m_reply_Parse_p1) rfl (by decide) fun K' hK => ?_
  have hle := hfr.le
  have hl_o1 := h_lt hs_o1
  have hl_o2 := h_lt hs_o2
  have hl_o3 := h_lt hs_o3
  rw [reply_Parse_p1.eq_1] at h
  simp (disch := first | assumption | omega | (simp only [h_sl, h_al] <;> omega) | fail) only [WW, WH, ↓reduceIte, Nat.reduceEqDiff, Nat.reduceLT, Nat.reduceLeDiff, Nat.reduceAdd, Nat.reduceSub, Nat.reduceMul, Nat.reduceBEq, reduceCtorEq, if_false, if_true, L_reply_Parse, m_reply_Parse_p1, c_reply_Parse_p1, hs_o1, hs_o2, hs_o3, encReplyV]
  rcases ifb h with ⟨hy3, h⟩ | ⟨hy3, h⟩
  · refine UG_nf hy3 ?_
    simp (disch := first | assumption | omega | (simp only [h_sl, h_al] <;> omega) | fail) only [WW, WH, ↓reduceIte, Nat.reduceEqDiff, Nat.reduceLT, Nat.reduceLeDiff, Nat.reduceAdd, Nat.reduceSub, Nat.reduceMul, Nat.reduceBEq, reduceCtorEq, if_false, if_true, L_reply_Parse, hy3, hs_o1, hs_o2, hs_o3, encReplyV]
    have hq := Option.some.inj h; subst hq
    refine hK _ _ _ _ _ ?_ (WxH.refl _) (kn _ hfr ((hs_o1).trans rfl) ((hs_o2).trans rfl) ((hs_o3).trans rfl))
    exact WE.cons (Wx.ptr) (WE.cons (Wx.nn) (WE.cons (Wx.bool) (WE.nil)))
  · refine UG_go hy3 ?_
    simp (disch := first | assumption | omega | (simp only [h_sl, h_al] <;> omega) | fail) only [WW, WH, ↓reduceIte, Nat.reduceEqDiff, Nat.reduceLT, Nat.reduceLeDiff, Nat.reduceAdd, Nat.reduceSub, Nat.reduceMul, Nat.reduceBEq, reduceCtorEq, if_false, if_true, L_reply_Parse, hy3, hs_o1, hs_o2, hs_o3, encReplyV]
    rcases ifb h with ⟨hy4, h⟩ | ⟨hy4, h⟩
    · refine UG_nf hy4 ?_
      simp (disch := first | assumption | omega | (simp only [h_sl, h_al] <;> omega) | fail) only [WW, WH, ↓reduceIte, Nat.reduceEqDiff, Nat.reduceLT, Nat.reduceLeDiff, Nat.reduceAdd, Nat.reduceSub, Nat.reduceMul, Nat.reduceBEq, reduceCtorEq, if_false, if_true, L_reply_Parse, hy4, hs_o1, hs_o2, hs_o3, encReplyV]
      have hq := Option.some.inj h; subst hq
      refine hK _ _ _ _ _ ?_ (WxH.refl _) (kn _ hfr ((hs_o1).trans rfl) ((hs_o2).trans rfl) ((hs_o3).trans rfl))
      exact WE.cons (Wx.ptr) (WE.cons (Wx.nn) (WE.cons (Wx.bool) (WE.nil)))
    · refine UG_go hy4 ?_
      simp (disch := first | assumption | omega | (simp only [h_sl, h_al] <;> omega) | fail) only [WW, WH, ↓reduceIte, Nat.reduceEqDiff, Nat.reduceLT, Nat.reduceLeDiff, Nat.reduceAdd, Nat.reduceSub, Nat.reduceMul, Nat.reduceBEq, reduceCtorEq, if_false, if_true, L_reply_Parse, hy4, hs_o1, hs_o2, hs_o3, encReplyV]
      rcases ifb h with ⟨hy5, h⟩ | ⟨hy5, h⟩
      · refine UG_go hy5 ?_
        simp (disch := first | assumption | omega | (simp only [h_sl, h_al] <;> omega) | fail) only [WW, WH, ↓reduceIte, Nat.reduceEqDiff, Nat.reduceLT, Nat.reduceLeDiff, Nat.reduceAdd, Nat.reduceSub, Nat.reduceMul, Nat.reduceBEq, reduceCtorEq, if_false, if_true, L_reply_Parse, hy5, hs_o1, hs_o2, hs_o3, encReplyV]
        rcases ifb h with ⟨hy6, h⟩ | ⟨hy6, h⟩
        · refine UG_nf hy6 ?_
          simp (disch := first | assumption | omega | (simp only [h_sl, h_al] <;> omega) | fail) only [WW, WH, ↓reduceIte, Nat.reduceEqDiff, Nat.reduceLT, Nat.reduceLeDiff, Nat.reduceAdd, Nat.reduceSub, Nat.reduceMul, Nat.reduceBEq, reduceCtorEq, if_false, if_true, L_reply_Parse, hy6, hs_o1, hs_o2, hs_o3, encReplyV]
          have hq := Option.some.inj h; subst hq
          refine hK _ _ _ _ _ ?_ (WxH.refl _) (kn _ hfr ((hs_o1).trans rfl) ((hs_o2).trans rfl) ((hs_o3).trans rfl))
          exact WE.cons (Wx.ptr) (WE.cons (Wx.nn) (WE.cons (Wx.bool) (WE.nil)))
        · refine UG_go hy6 ?_
          simp (disch := first | assumption | omega | (simp only [h_sl, h_al] <;> omega) | fail) only [WW, WH, ↓reduceIte, Nat.reduceEqDiff, Nat.reduceLT, Nat.reduceLeDiff, Nat.reduceAdd, Nat.reduceSub, Nat.reduceMul, Nat.reduceBEq, reduceCtorEq, if_false, if_true, L_reply_Parse, hy6, hs_o1, hs_o2, hs_o3, encReplyV]
          obtain ⟨r13, hy7, h⟩ := bnd' h
          refine UK_e (as' := [(.ptr q12 0)]) (h := ACalls.ofE (line_Splitter_Held_s_ok (s1 := r9.splitter) (H0 := []) hy7) (PEL.cons (.one _ _ (PE1.ptrL (by exact ((hs_o3).trans rfl)) (PE1L.cons (PE1.int) (PE1L.cons (.sl _ _ _) (PE1L.cons (PE1.int) (PE1L.cons (PE1.bool) (PE1L.nil))))))) (PEL.nil)) (by rintro _ rfl; rfl)) (hw := WL.cons (Wx.ptr) (WL.nil)) (hh := WxH.refl _) ?_
          simp (disch := first | assumption | omega | (simp only [h_sl, h_al] <;> omega) | fail) only [WW, WH, ↓reduceIte, Nat.reduceEqDiff, Nat.reduceLT, Nat.reduceLeDiff, Nat.reduceAdd, Nat.reduceSub, Nat.reduceMul, Nat.reduceBEq, reduceCtorEq, if_false, if_true, L_reply_Parse, hs_o1, hs_o2, hs_o3, encReplyV]
          have hq := Option.some.inj h; subst hq
          refine hK _ _ _ _ _ ?_ (WxH.refl _) (kn _ hfr ((hs_o1).trans rfl) ((hs_o2).trans rfl) ((hs_o3).trans rfl))
          exact WE.cons (Wx.ptr) (WE.cons (Wx.nn) (WE.cons (Wx.bool) (WE.nil)))
      · refine UG_nt hy5 ?_
        simp (disch := first | assumption | omega | (simp only [h_sl, h_al] <;> omega) | fail) only [WW, WH, ↓reduceIte, Nat.reduceEqDiff, Nat.reduceLT, Nat.reduceLeDiff, Nat.reduceAdd, Nat.reduceSub, Nat.reduceMul, Nat.reduceBEq, reduceCtorEq, if_false, if_true, L_reply_Parse, hy5, hs_o1, hs_o2, hs_o3, encReplyV]
        have hq := Option.some.inj h; subst hq
        refine hK _ _ _ _ _ ?_ (WxH.refl _) (kn _ hfr ((hs_o1).trans rfl) ((hs_o2).trans rfl) ((hs_o3).trans rfl))
        exact WE.cons (Wx.ptr) (WE.cons (Wx.nn) (WE.cons (Wx.bool) (WE.nil)))
set_option maxHeartbeats 2000000 in
theorem reply_Parse_ok {F : Nat} {b1 : List UInt8}  {H0 : AH}  {rz0 : ReplyV} {rz1 : Int} (h : reply_Parse F b1 = some (rz0, rz1)) :
    ACalls Tryd.prog 9 [(.sl .n 1 (ml b8 b1))] H0 fun v H' => v = (.tup [(.agg [(.int .i64 rz0.code), (.sl .n 1 (ml AV.str rz0.lines))]), (.int .i64 rz1)]) ∧ H' = H0 := by
  refine ACalls.goX k_reply_Parse (m := m_reply_Parse) rfl L_reply_Parse (by decide) (by simp) fun hcl K0 hK0 => ?_
  refine AX.of_U (m := m_reply_Parse) rfl (by decide) ?_
  have hfr := Fr.refl H0 []
  have hle := hfr.le
  rw [reply_Parse.eq_1] at h
  obtain ⟨H, hHH⟩ : ∃ H, H = H0 := ⟨_, rfl⟩
  have hfr : Fr H0 H0.length [] H := hHH ▸ hfr
  have hle := hfr.le
  suffices hU : U Tryd.prog L_reply_Parse 53 H0.length [.code m_reply_Parse] K0 .normal (argE 0 [(.sl .n 1 (ml b8 b1))]) H by rwa [hHH] at hU
  simp (disch := first | assumption | omega | (simp only [h_sl, h_al] <;> omega) | fail) only [WW, WH, ↓reduceIte, Nat.reduceEqDiff, Nat.reduceLT, Nat.reduceLeDiff, Nat.reduceAdd, Nat.reduceSub, Nat.reduceMul, Nat.reduceBEq, reduceCtorEq, if_false, if_true, L_reply_Parse, m_reply_Parse, encReplyV]
  obtain ⟨r2, hy1, h⟩ := bnd' h
  obtain ⟨q3, hg_q3⟩ : ∃ q : Nat, H.length = q := ⟨_, rfl⟩
  try rw [hg_q3]
  rcases r2 with _ | t4
  · try dsimp only at h
    cases h
  · try dsimp only at h
    refine UK_x (as' := []) (h := reply_New_ok   hy1) (hw := WL.nil) (hh := WxH.refl _) ?_
    rintro _ H ⟨q5, q6, rfl, hgn0, hgn1, hnn1_0, hfrn, hs_o2, hs_o3⟩
    try simp only [h_sl, h_al] at hgn0 hgn1
    have hs_o1 : H[q3]? = some [(.int .i64 0), (.sl .ex 1 [])] := (hfrn.eq _ (h_lt (by exact ((h_new' (by first | assumption | omega | (simp only [h_sl, h_al] <;> omega) | fail)).trans rfl))) (by simp <;> (first | assumption | omega | (simp only [h_sl, h_al] <;> omega) | fail))).trans (by exact ((h_new' (by first | assumption | omega | (simp only [h_sl, h_al] <;> omega) | fail)).trans rfl))
    have hfr := Fr.trans (Fr.app hfr) hfrn (by simp)
    have hle := hfr.le
    have hl_o1 := h_lt hs_o1
    have hl_o2 := h_lt hs_o2
    have hl_o3 := h_lt hs_o3
    simp (disch := first | assumption | omega | (simp only [h_sl, h_al] <;> omega) | fail) only [WW, WH, ↓reduceIte, Nat.reduceEqDiff, Nat.reduceLT, Nat.reduceLeDiff, Nat.reduceAdd, Nat.reduceSub, Nat.reduceMul, Nat.reduceBEq, reduceCtorEq, if_false, if_true, L_reply_Parse, hs_o1, hs_o2, hs_o3, encReplyV]
    obtain ⟨⟨r7, r8, r9⟩, hy2, h⟩ := bnd' h
    dsimp only at h
    refine UK_e (as' := [(.ptr q5 0), (.sl .n 1 (ml b8 b1))]) (h := reply_Reader_Feed_ok (r2 := t4) (b4 := b1) (q1 := q5) (q3 := q6) (F := F) (by exact ((hs_o2).trans rfl)) (by exact ((hs_o3).trans rfl)) (by first | assumption | omega | (simp only [h_sl, h_al] <;> omega) | fail) hy2) (hw := WL.cons (Wx.ptr) (WL.cons (Wx.nn) (WL.nil))) (hh := WxH.refl _) ?_
    simp (disch := first | assumption | omega | (simp only [h_sl, h_al] <;> omega) | fail) only [WW, WH, ↓reduceIte, Nat.reduceEqDiff, Nat.reduceLT, Nat.reduceLeDiff, Nat.reduceAdd, Nat.reduceSub, Nat.reduceMul, Nat.reduceBEq, reduceCtorEq, if_false, if_true, L_reply_Parse, hs_o1, hs_o2, hs_o3, encReplyV]
    obtain ⟨t15, hy8, h⟩ := bnd' h
    refine UX_of (AX.weak ?_ (WxH.set (q := q3) (cs' := [(.int .i64 0), (.sl .own 1 [])]) (((h_ne (by first | assumption | omega | (simp only [h_sl, h_al] <;> omega) | fail)).trans ((h_ne (by first | assumption | omega | (simp only [h_sl, h_al] <;> omega) | fail)).trans (hs_o1))).trans rfl) (WxC.cons (Wx.int) (WxC.cons (Wx.own ..) (WxC.nil)))) (reply_Parse_p1_ok  (r8 := r8) (r7 := r7) (r9 := r9) (t14 := t15) (q10 := q3) (q11 := q5) (q12 := q6) ((Fr.set (s := q3) (Fr.set (s := q6) (Fr.set (s := q5) hfr (.inr (by first | assumption | omega | (simp only [h_sl, h_al] <;> omega) | fail))) (.inr (by first | assumption | omega | (simp only [h_sl, h_al] <;> omega) | fail))) (.inr (by first | assumption | omega | (simp only [h_sl, h_al] <;> omega) | fail)))) ((h_eq (by first | assumption | omega | (simp only [h_sl, h_al] <;> omega) | fail)).trans rfl) (((h_ne (by first | assumption | omega | (simp only [h_sl, h_al] <;> omega) | fail)).trans ((h_ne (by first | assumption | omega | (simp only [h_sl, h_al] <;> omega) | fail)).trans (h_eq (by first | assumption | omega | (simp only [h_sl, h_al] <;> omega) | fail)))).trans rfl) (((h_ne (by first | assumption | omega | (simp only [h_sl, h_al] <;> omega) | fail)).trans (h_eq (by first | assumption | omega | (simp only [h_sl, h_al] <;> omega) | fail))).trans rfl) (by first | assumption | omega | (simp only [h_sl, h_al] <;> omega) | fail) (by first | assumption | omega | (simp only [h_sl, h_al] <;> omega) | fail) (by first | assumption | omega | (simp only [h_sl, h_al] <;> omega) | fail) (by first | assumption | omega | (simp only [h_sl, h_al] <;> omega) | fail) (by first | assumption | omega | (simp only [h_sl, h_al] <;> omega) | fail) (by first | assumption | omega | (simp only [h_sl, h_al] <;> omega) | fail) hy8 ?_))
    · exact WE.cons (Wx.ptr) (WE.cons (Wx.ptr) (WE.cons (Wx.nn) (WE.cons (Wx.int) (WE.nil))))
    intro H hfr hs_o1 hs_o2 hs_o3
    have hle := hfr.le
    have hl_o1 := h_lt hs_o1
    have hl_o2 := h_lt hs_o2
    have hl_o3 := h_lt hs_o3
    simp (disch := first | assumption | omega | (simp only [h_sl, h_al] <;> omega) | fail) only [WW, WH, ↓reduceIte, Nat.reduceEqDiff, Nat.reduceLT, Nat.reduceLeDiff, Nat.reduceAdd, Nat.reduceSub, Nat.reduceMul, Nat.reduceBEq, reduceCtorEq, if_false, if_true, L_reply_Parse, hs_o1, hs_o2, hs_o3, encReplyV]
    rcases ifb h with ⟨hy9, h⟩ | ⟨hy9, h⟩
    · refine UC_t hy9 ?_
      simp (disch := first | assumption | omega | (simp only [h_sl, h_al] <;> omega) | fail) only [WW, WH, ↓reduceIte, Nat.reduceEqDiff, Nat.reduceLT, Nat.reduceLeDiff, Nat.reduceAdd, Nat.reduceSub, Nat.reduceMul, Nat.reduceBEq, reduceCtorEq, if_false, if_true, L_reply_Parse, hs_o1, hs_o2, hs_o3, encReplyV]
      have hq := Option.some.inj h; have hq0 := (Prod.mk.inj hq).1; replace hq := (Prod.mk.inj hq).2; subst hq0; subst hq
      refine hK0 _ _ _ (.inr rfl) ?_
      exact fn_end0 (by exact (Fr.set (s := q3) hfr (.inr (by first | assumption | omega | (simp only [h_sl, h_al] <;> omega) | fail)))) hcl (resv_cell (cs := [(.int .i64 0), (.sl .ex 1 [])]) (v := (.agg [(.int .i64 0), (.sl .ex 1 [])])) (by kernel_rfl) (n := (some 2)) (by kernel_rfl) rfl (by exact ((h_eq (by first | assumption | omega | (simp only [h_sl, h_al] <;> omega) | fail)).trans rfl)) (by simp [loadc_n, loadc_1, ld1, allFlat, AV.flat, b_flat, b_sh1, AV.sh1, Tg.sh]) (resv_tmp (a := (.int .i64 3)) rfl rfl resv_nil)) (by simp [fin, AV.df, AV.sh, AV.sh1, b_df, b_sh, b_sh1, b_Cl]) (Wx.tupX (W2L.agg (W1L.same (W1L.n (W1L.nil))) (W2L.same (W2L.nil)))) (r' := (.tup [(.agg [(.int .i64 ((ReplyV.mk 0 ([] : List (List UInt8))).code)), (.sl .n 1 (ml AV.str ((ReplyV.mk 0 ([] : List (List UInt8))).lines)))]), (.int .i64 3)])) ⟨rfl, rfl⟩
    · refine UC_f hy9 ?_
      simp (disch := first | assumption | omega | (simp only [h_sl, h_al] <;> omega) | fail) only [WW, WH, ↓reduceIte, Nat.reduceEqDiff, Nat.reduceLT, Nat.reduceLeDiff, Nat.reduceAdd, Nat.reduceSub, Nat.reduceMul, Nat.reduceBEq, reduceCtorEq, if_false, if_true, L_reply_Parse, hs_o1, hs_o2, hs_o3, encReplyV]
      rcases ifb h with ⟨hy10, h⟩ | ⟨hy10, h⟩
      · refine UC_t hy10 ?_
        simp (disch := first | assumption | omega | (simp only [h_sl, h_al] <;> omega) | fail) only [WW, WH, ↓reduceIte, Nat.reduceEqDiff, Nat.reduceLT, Nat.reduceLeDiff, Nat.reduceAdd, Nat.reduceSub, Nat.reduceMul, Nat.reduceBEq, reduceCtorEq, if_false, if_true, L_reply_Parse, hs_o1, hs_o2, hs_o3, encReplyV]
        have hq := Option.some.inj h; have hq0 := (Prod.mk.inj hq).1; replace hq := (Prod.mk.inj hq).2; subst hq0; subst hq
        refine hK0 _ _ _ (.inr rfl) ?_
        exact fn_end0 (by exact (Fr.set (s := q3) hfr (.inr (by first | assumption | omega | (simp only [h_sl, h_al] <;> omega) | fail)))) hcl (resv_cell (cs := [(.int .i64 0), (.sl .ex 1 [])]) (v := (.agg [(.int .i64 0), (.sl .ex 1 [])])) (by kernel_rfl) (n := (some 2)) (by kernel_rfl) rfl (by exact ((h_eq (by first | assumption | omega | (simp only [h_sl, h_al] <;> omega) | fail)).trans rfl)) (by simp [loadc_n, loadc_1, ld1, allFlat, AV.flat, b_flat, b_sh1, AV.sh1, Tg.sh]) (resv_tmp (a := (.int .i64 2)) rfl rfl resv_nil)) (by simp [fin, AV.df, AV.sh, AV.sh1, b_df, b_sh, b_sh1, b_Cl]) (Wx.tupX (W2L.agg (W1L.same (W1L.n (W1L.nil))) (W2L.same (W2L.nil)))) (r' := (.tup [(.agg [(.int .i64 ((ReplyV.mk 0 ([] : List (List UInt8))).code)), (.sl .n 1 (ml AV.str ((ReplyV.mk 0 ([] : List (List UInt8))).lines)))]), (.int .i64 2)])) ⟨rfl, rfl⟩
      · refine UC_f hy10 ?_
        obtain ⟨x16, hy11, h⟩ := bnd' h
        simp (disch := first | assumption | omega | (simp only [h_sl, h_al] <;> omega) | fail) only [WW, WH, ↓reduceIte, Nat.reduceEqDiff, Nat.reduceLT, Nat.reduceLeDiff, Nat.reduceAdd, Nat.reduceSub, Nat.reduceMul, Nat.reduceBEq, reduceCtorEq, if_false, if_true, L_reply_Parse, hy11, hs_o1, hs_o2, hs_o3, encReplyV]
        have hq := Option.some.inj h; have hq0 := (Prod.mk.inj hq).1; replace hq := (Prod.mk.inj hq).2; subst hq0; subst hq
        refine hK0 _ _ _ (.inr rfl) ?_
        exact fn_end0 (by exact (Fr.set (s := q3) hfr (.inr (by first | assumption | omega | (simp only [h_sl, h_al] <;> omega) | fail)))) hcl (resv_cell (cs := [(.int .i64 x16.code), (.sl .n 1 (ml AV.str x16.lines))]) (v := (.agg [(.int .i64 x16.code), (.sl .n 1 (ml AV.str x16.lines))])) (by kernel_rfl) (n := (some 2)) (by kernel_rfl) rfl (by exact ((h_eq (by first | assumption | omega | (simp only [h_sl, h_al] <;> omega) | fail)).trans rfl)) (by simp [loadc_n, loadc_1, ld1, allFlat, AV.flat, b_flat, b_sh1, AV.sh1, Tg.sh]) (resv_tmp (a := (.int .i64 0)) rfl rfl resv_nil)) (by simp [fin, AV.df, AV.sh, AV.sh1, b_df, b_sh, b_sh1, b_Cl]) (Wx.tupX (W2L.same (W2L.same (W2L.nil)))) (r' := (.tup [(.agg [(.int .i64 x16.code), (.sl .n 1 (ml AV.str x16.lines))]), (.int .i64 0)])) ⟨rfl, rfl⟩

/-! ### mailbag/reply.Right$1 -/
def c_reply_Right_1 : ACode := (.seq (.rg [⟨(some 2), (.asg (.c (.bool false))), none⟩]) (.seq (.rg [⟨(some 3), (.mv (.t 0)), none⟩, ⟨(some 4), (.call (.c (.fn 38 [])) [(.t 3)]), none⟩, ⟨(some 5), (.un .not (.t 4)), none⟩, ⟨(some 2), (.asg (.t 5)), none⟩]) .ret))
abbrev m_reply_Right_1 := c_reply_Right_1
theorem k_reply_Right_1 : FnOk Tryd.prog 37 6 [(.tmp 2)] c_reply_Right_1 := ⟨Tryd.f37, _, rfl, by decide, rfl, by kernel_rfl, rfl, rfl⟩
abbrev L_reply_Right_1 : List Nat := [0, 2]
def reply_Right_1 (F : Nat) (s1 : List UInt8) : Option (Bool) :=
  (reply_text F s1).bind fun r2 => some (!r2)
set_option maxHeartbeats 2000000 in
theorem reply_Right_1_ok {F : Nat} {s1 : List UInt8}  {H0 : AH}  {rz0 : Bool} (h : reply_Right_1 F s1 = some rz0) :
    ACalls Tryd.prog 37 [(.str s1)] H0 fun v H' => v = (.bool rz0) ∧ H' = H0 := by
  refine ACalls.goX k_reply_Right_1 (m := m_reply_Right_1) rfl L_reply_Right_1 (by decide) (by simp) fun hcl K0 hK0 => ?_
  refine AX.of_U (m := m_reply_Right_1) rfl (by decide) ?_
  rw [reply_Right_1.eq_1] at h
  simp only [WW, ↓reduceIte, Nat.reduceEqDiff, Nat.reduceLT, Nat.reduceLeDiff, Nat.reduceAdd, Nat.reduceSub, Nat.reduceMul, Nat.reduceBEq, reduceCtorEq, if_false, if_true, L_reply_Right_1, m_reply_Right_1, c_reply_Right_1, encReplyV]
  obtain ⟨r2, hy1, h⟩ := bnd' h
  refine UK_e (as' := [(.str s1)]) (h := reply_text_ok (s1 := s1) (F := F)  hy1) (hw := WL.cons (Wx.str) (WL.nil)) (hh := WxH.refl _) ?_
  simp only [WW, ↓reduceIte, Nat.reduceEqDiff, Nat.reduceLT, Nat.reduceLeDiff, Nat.reduceAdd, Nat.reduceSub, Nat.reduceMul, Nat.reduceBEq, reduceCtorEq, if_false, if_true, L_reply_Right_1, encReplyV]
  have hq := Option.some.inj h; subst hq
  refine hK0 _ _ _ (.inr rfl) ?_
  exact fn_endp hcl (resv_tmp (a := (.bool (!r2))) rfl rfl resv_nil) (by simp [fin, AV.df, AV.sh, AV.sh1, b_df, b_sh, b_sh1, b_Cl]) (Wx.bool) (r' := (.bool (!r2))) ⟨rfl, rfl⟩

/-! ### slices.IndexFunc[[]string,string] -/
def c_slices_IndexFunc_s_l1b : ACode := (.seq (.rg [⟨(some 9), (.bin .lss (.t 8) (.t 7)), none⟩]) (.seq (.cond (.t 9) .skip (.exit 0)) (.seq (.blk 1 (.seq (.rg [⟨(some 10), (.mv (.t 8)), none⟩, ⟨(some 5), (.asg (.t 10)), none⟩]) (.seq (.rg [⟨(some 11), (.mv (.t 1)), none⟩, ⟨(some 12), (.mv (.t 0)), none⟩, ⟨(some 13), (.mv (.t 5)), none⟩, ⟨(some 14), (.ixa 1 (.t 12) (.t 13)), none⟩, ⟨(some 15), (.ld (.t 14) none), none⟩, ⟨(some 16), (.call (.t 11) [(.t 15)]), none⟩]) (.cond (.t 16) (.seq (.rg [⟨(some 17), (.mv (.t 5)), none⟩, ⟨(some 4), (.asg (.t 17)), none⟩]) .ret) .skip)))) (.rg [⟨(some 18), (.bin .add (.t 8) (.c (.int .i64 1))), none⟩, ⟨(some 8), (.mv (.t 18)), none⟩]))))
def c_slices_IndexFunc_s_l1 : ACode := (.loop c_slices_IndexFunc_s_l1b)
abbrev m_slices_IndexFunc_s_l1b := c_slices_IndexFunc_s_l1b
def c_slices_IndexFunc_s : ACode := (.seq (.rg [⟨(some 4), (.asg (.c (.int .i64 0))), none⟩]) (.seq (.seq (.rg [⟨(some 6), (.mv (.t 0)), none⟩, ⟨(some 7), (.len (.t 6)), none⟩, ⟨(some 8), (.mv (.c (.int .i64 0))), none⟩]) (.blk 0 c_slices_IndexFunc_s_l1)) (.seq (.rg [⟨(some 4), (.asg (.c (.int .i64 (-1)))), none⟩]) .ret)))
abbrev m_slices_IndexFunc_s := c_slices_IndexFunc_s
theorem k_slices_IndexFunc_s : FnOk Tryd.prog 46 19 [(.tmp 4)] c_slices_IndexFunc_s := ⟨Tryd.f46, _, rfl, by decide, rfl, by kernel_rfl, rfl, rfl⟩
abbrev L_slices_IndexFunc_s : List Nat := [0, 1, 4, 5, 7, 8, 9, 16]
def slices_IndexFunc_s_l1 (F : Nat) (s1 : List (List UInt8)) : (Int × Int) → Option (St Int Unit (Int × Int))
  | (t2, t3) =>
    (if (decide (t3 < (s1.length : Int))) then
      (idx s1 t3).bind fun x4 =>
      (reply_Right_1 F x4).bind fun r5 =>
      (if r5 then
        some (.ret t3)
      else
        some (.nxt (t2, (IntKind.wrap .i64 (t3 + 1)))))
    else
      some (.brk ()))
def slices_IndexFunc_s (F : Nat) (s1 : List (List UInt8)) : Option (Int) :=
  ((iter (slices_IndexFunc_s_l1 F s1) F (0, 0)).bind fun o8 =>
  match o8 with
  | .inr () =>
    some (-1)
  | .inl r7 =>
    some r7)
set_option maxHeartbeats 2000000 in
theorem slices_IndexFunc_s_l1_ok {F : Nat} {t3 : Int} {s1 : List (List UInt8)} {t2 : Int} {H : AH}  {K : Exit → Env → AH → Prop} {o : (Int) ⊕ (Unit)}
    (h : iter (slices_IndexFunc_s_l1 F s1) F (t2, t3) = some o)
    (kb0 : ∀ o' : Unit, o = .inr o' → K (.exit 0) [] H)
    (kr : ∀ o' : Int, o = .inl o' → K .ret [(4, (.int .i64 o'))] H) :
    AX Tryd.prog L_slices_IndexFunc_s 19 H.length c_slices_IndexFunc_s_l1 K [(0, (.sl .n 1 (ml AV.str s1))), (1, (.fn 37 [])), (4, (.int .i64 t2)), (7, (.int .i64 (s1.length : Int))), (8, (.int .i64 t3))] H := by
  refine AX.iter (m := m_slices_IndexFunc_s_l1b) rfl (by decide) (fun s e H1 => match s with | (t2, t3) => e = [(0, (.sl .n 1 (ml AV.str s1))), (1, (.fn 37 [])), (4, (.int .i64 t2)), (7, (.int .i64 (s1.length : Int))), (8, (.int .i64 t3))] ∧ H1 = H) h ⟨rfl, rfl⟩ ?_
  rintro K' ⟨t2, t3⟩ st e H ⟨rfl, rfl⟩ h hN hB hR hX
  rw [slices_IndexFunc_s_l1.eq_1] at h
  simp only [WW, ↓reduceIte, Nat.reduceEqDiff, Nat.reduceLT, Nat.reduceLeDiff, Nat.reduceAdd, Nat.reduceSub, Nat.reduceMul, Nat.reduceBEq, reduceCtorEq, if_false, if_true, L_slices_IndexFunc_s, m_slices_IndexFunc_s_l1b, c_slices_IndexFunc_s_l1b, encReplyV]
  rcases ifb h with ⟨hy1, h⟩ | ⟨hy1, h⟩
  · refine UC_t hy1 ?_
    obtain ⟨x4, hy2, h⟩ := bnd' h
    simp only [WW, ↓reduceIte, Nat.reduceEqDiff, Nat.reduceLT, Nat.reduceLeDiff, Nat.reduceAdd, Nat.reduceSub, Nat.reduceMul, Nat.reduceBEq, reduceCtorEq, if_false, if_true, L_slices_IndexFunc_s, hy2, encReplyV]
    obtain ⟨r5, hy3, h⟩ := bnd' h
    refine UK_e (as' := [(.str x4)]) (h := reply_Right_1_ok (s1 := x4) (F := F)  hy3) (hw := WL.cons (Wx.str) (WL.nil)) (hh := WxH.refl _) ?_
    simp only [WW, ↓reduceIte, Nat.reduceEqDiff, Nat.reduceLT, Nat.reduceLeDiff, Nat.reduceAdd, Nat.reduceSub, Nat.reduceMul, Nat.reduceBEq, reduceCtorEq, if_false, if_true, L_slices_IndexFunc_s, encReplyV]
    rcases ifb h with ⟨hy4, h⟩ | ⟨hy4, h⟩
    · refine UC_t hy4 ?_
      simp only [WW, ↓reduceIte, Nat.reduceEqDiff, Nat.reduceLT, Nat.reduceLeDiff, Nat.reduceAdd, Nat.reduceSub, Nat.reduceMul, Nat.reduceBEq, reduceCtorEq, if_false, if_true, L_slices_IndexFunc_s, encReplyV]
      have hq := Option.some.inj h; subst hq
      refine hX _ _ _ _ _ (by simp) ?_ (WxH.refl _) (kr _ (hR _ rfl) )
      exact WE.cons (Wx.int) (WE.nil)
    · refine UC_f hy4 ?_
      simp only [WW, ↓reduceIte, Nat.reduceEqDiff, Nat.reduceLT, Nat.reduceLeDiff, Nat.reduceAdd, Nat.reduceSub, Nat.reduceMul, Nat.reduceBEq, reduceCtorEq, if_false, if_true, L_slices_IndexFunc_s, encReplyV]
      have hq := Option.some.inj h; subst hq
      refine hN _ rfl _ _ _ _ ?_ (WxH.refl _) ⟨rfl, rfl⟩
      exact WE.cons (Wx.nn) (WE.cons (Wx.fn) (WE.cons (Wx.int) (WE.cons (Wx.int) (WE.cons (Wx.int) (WE.nil)))))
  · refine UC_f hy1 ?_
    simp only [WW, ↓reduceIte, Nat.reduceEqDiff, Nat.reduceLT, Nat.reduceLeDiff, Nat.reduceAdd, Nat.reduceSub, Nat.reduceMul, Nat.reduceBEq, reduceCtorEq, if_false, if_true, L_slices_IndexFunc_s, encReplyV]
    have hq := Option.some.inj h; subst hq
    refine hX _ _ _ _ _ (by simp) ?_ (WxH.refl _) (kb0 _ (hB _ rfl) )
    exact WE.nil
set_option maxHeartbeats 2000000 in
theorem slices_IndexFunc_s_ok {F : Nat} {s1 : List (List UInt8)}  {H0 : AH}  {rz0 : Int} (h : slices_IndexFunc_s F s1 = some rz0) :
    ACalls Tryd.prog 46 [(.sl .n 1 (ml AV.str s1)), (.fn 37 [])] H0 fun v H' => v = (.int .i64 rz0) ∧ H' = H0 := by
  refine ACalls.goX k_slices_IndexFunc_s (m := m_slices_IndexFunc_s) rfl L_slices_IndexFunc_s (by decide) (by simp) fun hcl K0 hK0 => ?_
  refine AX.of_U (m := m_slices_IndexFunc_s) rfl (by decide) ?_
  rw [slices_IndexFunc_s.eq_1] at h
  simp only [WW, ↓reduceIte, Nat.reduceEqDiff, Nat.reduceLT, Nat.reduceLeDiff, Nat.reduceAdd, Nat.reduceSub, Nat.reduceMul, Nat.reduceBEq, reduceCtorEq, if_false, if_true, L_slices_IndexFunc_s, m_slices_IndexFunc_s, c_slices_IndexFunc_s, encReplyV]
  obtain ⟨o8, hy5, h⟩ := bnd' h
  refine UX_of (AX.weak ?_ (WxH.refl _) (slices_IndexFunc_s_l1_ok  (s1 := s1) (t2 := 0) (t3 := 0)   (o := o8) hy5 ?_ ?_))
  · exact WE.cons (Wx.nn) (WE.cons (Wx.fn) (WE.cons (Wx.int) (WE.cons (Wx.int) (WE.cons (Wx.int) (WE.nil)))))
  · rintro ⟨⟩ rfl  
    try dsimp only at h 
    simp only [WW, ↓reduceIte, Nat.reduceEqDiff, Nat.reduceLT, Nat.reduceLeDiff, Nat.reduceAdd, Nat.reduceSub, Nat.reduceMul, Nat.reduceBEq, reduceCtorEq, if_false, if_true, L_slices_IndexFunc_s, encReplyV]
    have hq := Option.some.inj h; subst hq
    refine hK0 _ _ _ (.inr rfl) ?_
    exact fn_endp hcl (resv_tmp (a := (.int .i64 (-1))) rfl rfl resv_nil) (by simp [fin, AV.df, AV.sh, AV.sh1, b_df, b_sh, b_sh1, b_Cl]) (Wx.int) (r' := (.int .i64 (-1))) ⟨rfl, rfl⟩
  · rintro r7 rfl  
    try dsimp only at h 
    simp only [WW, ↓reduceIte, Nat.reduceEqDiff, Nat.reduceLT, Nat.reduceLeDiff, Nat.reduceAdd, Nat.reduceSub, Nat.reduceMul, Nat.reduceBEq, reduceCtorEq, if_false, if_true, L_slices_IndexFunc_s, encReplyV]
    have hq := Option.some.inj h; subst hq
    refine hK0 _ _ _ (.inr rfl) ?_
    exact fn_endp hcl (resv_tmp (a := (.int .i64 r7)) rfl rfl resv_nil) (by simp [fin, AV.df, AV.sh, AV.sh1, b_df, b_sh, b_sh1, b_Cl]) (Wx.int) (r' := (.int .i64 r7)) ⟨rfl, rfl⟩

/-! ### slices.ContainsFunc[[]string,string] -/
def c_slices_ContainsFunc_s : ACode := (.seq (.rg [⟨(some 4), (.asg (.c (.bool false))), none⟩]) (.seq (.rg [⟨(some 5), (.mv (.t 0)), none⟩, ⟨(some 6), (.mv (.t 1)), none⟩, ⟨(some 7), (.call (.c (.fn 46 [])) [(.t 5), (.t 6)]), none⟩, ⟨(some 8), (.bin .geq (.t 7) (.c (.int .i64 0))), none⟩, ⟨(some 4), (.asg (.t 8)), none⟩]) .ret))
abbrev m_slices_ContainsFunc_s := c_slices_ContainsFunc_s
theorem k_slices_ContainsFunc_s : FnOk Tryd.prog 36 9 [(.tmp 4)] c_slices_ContainsFunc_s := ⟨Tryd.f36, _, rfl, by decide, rfl, by kernel_rfl, rfl, rfl⟩
abbrev L_slices_ContainsFunc_s : List Nat := [0, 1, 4]
def slices_ContainsFunc_s (F : Nat) (s1 : List (List UInt8)) : Option (Bool) :=
  (slices_IndexFunc_s F s1).bind fun r2 => some (decide (0 ≤ r2))
set_option maxHeartbeats 2000000 in
theorem slices_ContainsFunc_s_ok {F : Nat} {s1 : List (List UInt8)}  {H0 : AH}  {rz0 : Bool} (h : slices_ContainsFunc_s F s1 = some rz0) :
    ACalls Tryd.prog 36 [(.sl .n 1 (ml AV.str s1)), (.fn 37 [])] H0 fun v H' => v = (.bool rz0) ∧ H' = H0 := by
  refine ACalls.goX k_slices_ContainsFunc_s (m := m_slices_ContainsFunc_s) rfl L_slices_ContainsFunc_s (by decide) (by simp) fun hcl K0 hK0 => ?_
  refine AX.of_U (m := m_slices_ContainsFunc_s) rfl (by decide) ?_
  rw [slices_ContainsFunc_s.eq_1] at h
  simp only [WW, ↓reduceIte, Nat.reduceEqDiff, Nat.reduceLT, Nat.reduceLeDiff, Nat.reduceAdd, Nat.reduceSub, Nat.reduceMul, Nat.reduceBEq, reduceCtorEq, if_false, if_true, L_slices_ContainsFunc_s, m_slices_ContainsFunc_s, c_slices_ContainsFunc_s, encReplyV]
  obtain ⟨r2, hy1, h⟩ := bnd' h
  refine UK_e (as' := [(.sl .n 1 (ml AV.str s1)), (.fn 37 [])]) (h := slices_IndexFunc_s_ok (s1 := s1) (F := F)  hy1) (hw := WL.cons (Wx.nn) (WL.cons (Wx.fn) (WL.nil))) (hh := WxH.refl _) ?_
  simp only [WW, ↓reduceIte, Nat.reduceEqDiff, Nat.reduceLT, Nat.reduceLeDiff, Nat.reduceAdd, Nat.reduceSub, Nat.reduceMul, Nat.reduceBEq, reduceCtorEq, if_false, if_true, L_slices_ContainsFunc_s, encReplyV]
  have hq := Option.some.inj h; subst hq
  refine hK0 _ _ _ (.inr rfl) ?_
  exact fn_endp hcl (resv_tmp (a := (.bool (decide (0 ≤ r2)))) rfl rfl resv_nil) (by simp [fin, AV.df, AV.sh, AV.sh1, b_df, b_sh, b_sh1, b_Cl]) (Wx.bool) (r' := (.bool (decide (0 ≤ r2)))) ⟨rfl, rfl⟩

end Go.Proofs.ReplyS
