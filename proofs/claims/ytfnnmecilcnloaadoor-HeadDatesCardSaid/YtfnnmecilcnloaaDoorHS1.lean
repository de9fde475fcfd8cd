import Derived.Test.YtfnnmecilcnloaaDoorAmW
import Derived.Test.YtfnnmecilcnloaaDoorAmPE
import Derived.Test.YtfnnmecilcnloaaDoorAmCl
import Derived.Test.YtfnnmecilcnloaaDoorProg
import Derived.Test.YtfnnmecilcnloaaDoorHA0h
set_option linter.unusedSimpArgs false
set_option linter.unusedVariables false
set_option linter.unusedSectionVars false
set_option linter.defProp false
set_option maxRecDepth 100000
namespace Go.Proofs.HeadS
open Go Go.Am Go.Proofs
open Nat renaming reduceEqDiff → nA, reduceLT → nB, reduceLeDiff → nC, reduceAdd → nD, reduceSub → nE, reduceMul → nF, reduceBEq → nG
set_option maxHeartbeats 2000000

structure FieldV where
  name : List UInt8
  value : List UInt8
  deriving DecidableEq
def encL1b8 (x : List UInt8) : AV := .sl .n 1 (ml b8 x)

def encFieldV (x : FieldV) : AV := .agg [(.str x.name), (.str x.value)]

/-! ### bytes.Equal -/
def c_bytes_Equal : ACode := (.seq (.rg [⟨(some 4), (.asg (.c (.bool false))), none⟩]) (.seq (.rg [⟨(some 5), (.mv (.t 0)), none⟩, ⟨(some 6), (.cvt .bs (.t 5)), none⟩, ⟨(some 7), (.mv (.t 1)), none⟩, ⟨(some 8), (.cvt .bs (.t 7)), none⟩, ⟨(some 9), (.bin .eql (.t 6) (.t 8)), none⟩, ⟨(some 4), (.asg (.t 9)), none⟩]) .ret))
abbrev m_bytes_Equal := c_bytes_Equal
theorem k_bytes_Equal : FnOk Tryd.prog 112 10 [(.tmp 4)] c_bytes_Equal := ⟨Tryd.f112, _, rfl, by decide, rfl, by kernel_rfl, rfl, rfl⟩
abbrev L_bytes_Equal : List Nat := [0, 1, 4]
def bytes_Equal (a1 : List UInt8) (b2 : List UInt8) : Option (Bool) :=
  some (decide (a1 = b2))
theorem bytes_Equal_ok {a1 : List UInt8} {b2 : List UInt8}  {H0 : AH}  {rz0 : Bool} (h : bytes_Equal a1 b2 = some rz0) :
    ACalls Tryd.prog 112 [(.sl .n 1 (ml b8 a1)), (.sl .n 1 (ml b8 b2))] H0 fun v H' => v = (.bool rz0) ∧ H' = H0 := by
  refine ACalls.goX k_bytes_Equal (m := m_bytes_Equal) rfl L_bytes_Equal (by decide) (by simp) fun hcl K0 hK0 => ?_
  refine AX.of_U (m := m_bytes_Equal) rfl (by decide) ?_
  rw [bytes_Equal.eq_1] at h
  try simp only [WW, ↓reduceIte, nA, nB, nC, nD, nE, nF, nG, reduceCtorEq, L_bytes_Equal, m_bytes_Equal, c_bytes_Equal]
  have hq := Option.some.inj h; subst hq
  refine hK0 _ _ _ (.inr rfl) ?_
  exact fn_endp hcl (resv_tmp (a := (.bool (decide (a1 = b2)))) rfl rfl resv_nil) (by first | (simp [fin, b_df, b_sh, b_sh1, b_Cl]; done) | (simp [fin, AV.df, AV.sh, AV.sh1, b_df, b_sh, b_sh1, b_Cl]; done)) (Wx.bool) (r' := (.bool (decide (a1 = b2)))) ⟨rfl, rfl⟩

/-! ### bytes.HasSuffix -/
def c_bytes_HasSuffix_p1 : ACode := (.rg [⟨(some 5), (.mv (.t 0)), none⟩, ⟨(some 6), (.len (.t 5)), none⟩, ⟨(some 7), (.mv (.t 1)), none⟩, ⟨(some 8), (.len (.t 7)), none⟩, ⟨(some 9), (.bin .geq (.t 6) (.t 8)), none⟩, ⟨(some 10), (.mv (.t 9)), none⟩, ⟨(some 11), (.mv (.t 0)), (some (10, true))⟩, ⟨(some 12), (.mv (.t 0)), (some (10, true))⟩, ⟨(some 13), (.len (.t 12)), (some (10, true))⟩, ⟨(some 14), (.mv (.t 1)), (some (10, true))⟩, ⟨(some 15), (.len (.t 14)), (some (10, true))⟩, ⟨(some 16), (.bin .sub (.t 13) (.t 15)), (some (10, true))⟩, ⟨(some 17), (.slc 1 (.t 11) (some (.t 16)) none none), (some (10, true))⟩, ⟨(some 18), (.mv (.t 1)), (some (10, true))⟩, ⟨(some 19), (.call (.c (.fn 112 [])) [(.t 17), (.t 18)]), (some (10, true))⟩, ⟨(some 20), (.pick (.t 10) (.t 19) (.c (.bool false))), none⟩, ⟨(some 4), (.asg (.t 20)), none⟩])
abbrev m_bytes_HasSuffix_p1 := c_bytes_HasSuffix_p1
def c_bytes_HasSuffix : ACode := (.seq (.rg [⟨(some 4), (.asg (.c (.bool false))), none⟩]) (.seq c_bytes_HasSuffix_p1 .ret))
def m_bytes_HasSuffix : ACode := (.seq (.rg [⟨(some 4), (.asg (.c (.bool false))), none⟩]) (.seq (.sem c_bytes_HasSuffix_p1) .ret))
theorem k_bytes_HasSuffix : FnOk Tryd.prog 92 21 [(.tmp 4)] c_bytes_HasSuffix := ⟨Tryd.f92, _, rfl, by decide, rfl, by kernel_rfl, rfl, rfl⟩
abbrev L_bytes_HasSuffix : List Nat := [0, 1, 4]
def bytes_HasSuffix_p1 (suffix2 : List UInt8) (s1 : List UInt8) : Option (Bool) :=
  (if (decide ((suffix2.length : Int) ≤ (s1.length : Int))) then
    (sub s1 (IntKind.wrap .i64 ((s1.length : Int) - (suffix2.length : Int))) (s1.length : Int)).bind fun x3 => (bytes_Equal x3 suffix2).bind fun r4 => some r4
  else
    some false)
def bytes_HasSuffix (s1 : List UInt8) (suffix2 : List UInt8) : Option (Bool) :=
  (bytes_HasSuffix_p1 suffix2 s1).bind fun t6 =>
  some t6
theorem bytes_HasSuffix_p1_ok {suffix2 : List UInt8} {s1 : List UInt8} {H : AH}  {K : Exit → Env → AH → Prop} {t5 : Bool}
    (h : bytes_HasSuffix_p1 suffix2 s1 = some t5)
    (kn : K .normal [(4, (.bool t5))] H) :
    AX Tryd.prog L_bytes_HasSuffix 21 H.length c_bytes_HasSuffix_p1 K [(0, (.sl .n 1 (ml b8 s1))), (1, (.sl .n 1 (ml b8 suffix2))), (4, (.bool false))] H := by
  refine AX.go (m := m_bytes_HasSuffix_p1) rfl (by decide) fun K' hK => ?_
  rw [bytes_HasSuffix_p1.eq_1] at h
  try simp only [WW, ↓reduceIte, nA, nB, nC, nD, nE, nF, nG, reduceCtorEq, L_bytes_HasSuffix, m_bytes_HasSuffix_p1, c_bytes_HasSuffix_p1]
  rcases ifb h with ⟨hy1, h⟩ | ⟨hy1, h⟩
  · refine UG_go hy1 ?_
    obtain ⟨x3, hy2, h⟩ := bnd' h
    have hy3 := sub_m (f := b8) hy2
    try simp only [WW, ↓reduceIte, nA, nB, nC, nD, nE, nF, nG, reduceCtorEq, L_bytes_HasSuffix, hy1, hy2]
    obtain ⟨r4, hy4, h⟩ := bnd' h
    refine UK_e (as' := [(.sl .n 1 (ml b8 x3)), (.sl .n 1 (ml b8 suffix2))]) (h := bytes_Equal_ok (a1 := x3) (b2 := suffix2)  hy4) (hw := WL.cons (Wx.nn) (WL.cons (Wx.nn) (WL.nil))) (hh := WxH.refl _) ?_
    try simp only [WW, ↓reduceIte, nA, nB, nC, nD, nE, nF, nG, reduceCtorEq, L_bytes_HasSuffix]
    have hq := Option.some.inj h; subst hq
    refine hK _ _ _ _ _ ?_ (WxH.refl _) (kn )
    exact WE.cons (Wx.bool) (WE.nil)
  · refine UG_nt hy1 ?_
    try simp only [WW, ↓reduceIte, nA, nB, nC, nD, nE, nF, nG, reduceCtorEq, L_bytes_HasSuffix, hy1]
    have hq := Option.some.inj h; subst hq
    refine hK _ _ _ _ _ ?_ (WxH.refl _) (kn )
    exact WE.cons (Wx.bool) (WE.nil)
theorem bytes_HasSuffix_ok {s1 : List UInt8} {suffix2 : List UInt8}  {H0 : AH}  {rz0 : Bool} (h : bytes_HasSuffix s1 suffix2 = some rz0) :
    ACalls Tryd.prog 92 [(.sl .n 1 (ml b8 s1)), (.sl .n 1 (ml b8 suffix2))] H0 fun v H' => v = (.bool rz0) ∧ H' = H0 := by
  refine ACalls.goX k_bytes_HasSuffix (m := m_bytes_HasSuffix) rfl L_bytes_HasSuffix (by decide) (by simp) fun hcl K0 hK0 => ?_
  refine AX.of_U (m := m_bytes_HasSuffix) rfl (by decide) ?_
  rw [bytes_HasSuffix.eq_1] at h
  try simp only [WW, ↓reduceIte, nA, nB, nC, nD, nE, nF, nG, reduceCtorEq, L_bytes_HasSuffix, m_bytes_HasSuffix]
  obtain ⟨t6, hy5, h⟩ := bnd' h
  refine UX_of (AX.weak ?_ (WxH.refl _) (bytes_HasSuffix_p1_ok  (suffix2 := suffix2) (s1 := s1) (t5 := t6)   hy5 ?_))
  · exact WE.cons (Wx.nn) (WE.cons (Wx.nn) (WE.cons (Wx.bool) (WE.nil)))
  try simp only [WW, ↓reduceIte, nA, nB, nC, nD, nE, nF, nG, reduceCtorEq, L_bytes_HasSuffix]
  have hq := Option.some.inj h; subst hq
  refine hK0 _ _ _ (.inr rfl) ?_
  exact fn_endp hcl (resv_tmp (a := (.bool t6)) rfl rfl resv_nil) (by first | (simp [fin, b_df, b_sh, b_sh1, b_Cl]; done) | (simp [fin, AV.df, AV.sh, AV.sh1, b_df, b_sh, b_sh1, b_Cl]; done)) (Wx.bool) (r' := (.bool t6)) ⟨rfl, rfl⟩

/-! ### slices.Clone[[]byte,byte] -/
theorem k_slices_Clone : FnOk Tryd.prog 93 8 [(.tmp 2)] (cloneC 1 1) := ⟨Tryd.f93, _, rfl, by decide, rfl, by kernel_rfl, rfl, rfl⟩
def slices_Clone (s1 : List UInt8) : Option (List UInt8) := capp 1 [] s1
theorem slices_Clone_ok {s1 : List UInt8} {H0 : AH} {rz0 : List UInt8} (h : slices_Clone s1 = some rz0) : ACalls Tryd.prog 93 [(.sl .n 1 (ml b8 s1))] H0 fun v H' => v = (.sl .own 1 (ml b8 rz0)) ∧ H' = H0 := clone_calls k_slices_Clone (capp_m (f := b8) h)

/-! ### slices.Concat[[]byte,byte] -/
def c_slices_Concat_l1b : ACode := (.seq (.rg [⟨(some 12), (.bin .lss (.t 11) (.t 10)), none⟩]) (.seq (.cond (.t 12) .skip (.exit 0)) (.seq (.blk 1 (.seq (.rg [⟨(some 13), (.ixa 1 (.t 9) (.t 11)), none⟩, ⟨(some 14), (.ld (.t 13) none), none⟩, ⟨(some 5), (.asg (.t 14)), none⟩]) (.seq (.rg [⟨(some 15), (.mv (.t 3)), none⟩, ⟨(some 16), (.mv (.t 5)), none⟩, ⟨(some 17), (.len (.t 16)), none⟩, ⟨(some 18), (.bin .add (.t 15) (.t 17)), none⟩, ⟨(some 3), (.asg (.t 18)), none⟩]) (.seq (.rg [⟨(some 19), (.mv (.t 3)), none⟩, ⟨(some 20), (.bin .lss (.t 19) (.c (.int .i64 0))), none⟩]) (.cond (.t 20) (.rg [⟨(some 21), .bad, none⟩, ⟨none, .bad, none⟩]) .skip))))) (.rg [⟨(some 22), (.bin .add (.t 11) (.c (.int .i64 1))), none⟩, ⟨(some 11), (.mv (.t 22)), none⟩]))))
def c_slices_Concat_l1 : ACode := (.loop c_slices_Concat_l1b)
abbrev m_slices_Concat_l1b := c_slices_Concat_l1b
def c_slices_Concat_l2b : ACode := (.seq (.rg [⟨(some 28), (.bin .lss (.t 27) (.t 26)), none⟩]) (.seq (.cond (.t 28) .skip (.exit 2)) (.seq (.blk 3 (.seq (.rg [⟨(some 29), (.ixa 1 (.t 25) (.t 27)), none⟩, ⟨(some 30), (.ld (.t 29) none), none⟩, ⟨(some 8), (.asg (.t 30)), none⟩]) (.rg [⟨(some 31), (.mv (.t 6)), none⟩, ⟨(some 32), (.mv (.t 8)), none⟩, ⟨(some 33), (.app 1 1 (.t 31) (.t 32)), none⟩, ⟨(some 6), (.asg (.t 33)), none⟩]))) (.rg [⟨(some 34), (.bin .add (.t 27) (.c (.int .i64 1))), none⟩, ⟨(some 27), (.mv (.t 34)), none⟩]))))
def c_slices_Concat_l2 : ACode := (.loop c_slices_Concat_l2b)
abbrev m_slices_Concat_l2b := c_slices_Concat_l2b
def c_slices_Concat : ACode := (.seq (.rg [⟨(some 2), (.asg (.c (.sl .ex 1 []))), none⟩]) (.seq (.rg [⟨(some 3), (.asg (.c (.int .i64 0))), none⟩]) (.seq (.seq (.rg [⟨(some 9), (.mv (.t 0)), none⟩, ⟨(some 10), (.len (.t 9)), none⟩, ⟨(some 11), (.mv (.c (.int .i64 0))), none⟩]) (.blk 0 c_slices_Concat_l1)) (.seq (.rg [⟨(some 23), (.mv (.t 3)), none⟩, ⟨(some 24), (.call (.c (.fn 95 [])) [(.c (.sl .ex 1 [])), (.t 23)]), none⟩, ⟨(some 6), (.asg (.t 24)), none⟩]) (.seq (.seq (.rg [⟨(some 25), (.mv (.t 0)), none⟩, ⟨(some 26), (.len (.t 25)), none⟩, ⟨(some 27), (.mv (.c (.int .i64 0))), none⟩]) (.blk 2 c_slices_Concat_l2)) (.seq (.rg [⟨(some 35), (.mv (.t 6)), none⟩, ⟨(some 2), (.asg (.t 35)), none⟩]) .ret))))))
abbrev m_slices_Concat := c_slices_Concat
theorem k_slices_Concat : FnOk Tryd.prog 64 36 [(.tmp 2)] c_slices_Concat := ⟨Tryd.f64, _, rfl, by decide, rfl, by kernel_rfl, rfl, rfl⟩
abbrev L_slices_Concat : List Nat := [0, 2, 3, 5, 6, 8, 9, 10, 11, 12, 20, 25, 26, 27, 28]
def slices_Concat_l1 (slices1 : List (List UInt8)) : (Int × Int) → Option (St (List UInt8) Int (Int × Int))
  | (size2, t3) =>
    (if (decide (t3 < (slices1.length : Int))) then
      (idx slices1 t3).bind fun x4 =>
      (if (decide ((IntKind.wrap .i64 (size2 + (x4.length : Int))) < 0)) then
        none
      else
        some (.nxt ((IntKind.wrap .i64 (size2 + (x4.length : Int))), (IntKind.wrap .i64 (t3 + 1)))))
    else
      some (.brk size2))
def slices_Concat_l2 (slices1 : List (List UInt8)) : ((List UInt8) × Int) → Option (St (List UInt8) (List UInt8) ((List UInt8) × Int))
  | (newslice8, t9) =>
    (if (decide (t9 < (slices1.length : Int))) then
      (idx slices1 t9).bind fun x10 =>
      (capp 1 newslice8 x10).bind fun x11 => some (.nxt (x11, (IntKind.wrap .i64 (t9 + 1))))
    else
      some (.brk newslice8))
def slices_Concat (F : Nat) (slices1 : List (List UInt8)) : Option ((List UInt8)) :=
  ((iter (slices_Concat_l1 slices1) F (0, 0)).bind fun o15 =>
  match o15 with
  | .inr size6 =>
    (slices_Grow size6).bind fun r7 =>
    ((iter (slices_Concat_l2 slices1) F (r7, 0)).bind fun o14 =>
    match o14 with
    | .inr newslice13 =>
      some newslice13
    | .inl _ => none)
  | .inl _ => none)
theorem slices_Concat_l1_ok {F : Nat} {t3 : Int} {slices1 : List (List UInt8)} {size2 : Int} {H : AH}  {K : Exit → Env → AH → Prop} {o : ((List UInt8)) ⊕ (Int)}
    (h : iter (slices_Concat_l1 slices1) F (size2, t3) = some o)
    (kb0 : ∀ o' : Int, o = .inr o' → K (.exit 0) [(0, (.sl .n 1 (ml encL1b8 slices1))), (3, (.int .i64 o'))] H) :
    AX Tryd.prog L_slices_Concat 36 H.length c_slices_Concat_l1 K [(0, (.sl .n 1 (ml encL1b8 slices1))), (3, (.int .i64 size2)), (9, (.sl .n 1 (ml encL1b8 slices1))), (10, (.int .i64 (slices1.length : Int))), (11, (.int .i64 t3))] H := by
  refine AX.iter (m := m_slices_Concat_l1b) rfl (by decide) (fun s e H1 => match s with | (size2, t3) => e = [(0, (.sl .n 1 (ml encL1b8 slices1))), (3, (.int .i64 size2)), (9, (.sl .n 1 (ml encL1b8 slices1))), (10, (.int .i64 (slices1.length : Int))), (11, (.int .i64 t3))] ∧ H1 = H) h ⟨rfl, rfl⟩ ?_
  rintro K' ⟨size2, t3⟩ st e H ⟨rfl, rfl⟩ h hN hB hR hX
  rw [slices_Concat_l1.eq_1] at h
  try simp only [WW, ↓reduceIte, nA, nB, nC, nD, nE, nF, nG, reduceCtorEq, L_slices_Concat, m_slices_Concat_l1b, c_slices_Concat_l1b, encL1b8]
  rcases ifb h with ⟨hy1, h⟩ | ⟨hy1, h⟩
  · refine UC_t hy1 ?_
    obtain ⟨x4, hy2, h⟩ := bnd' h
    try simp only [WW, ↓reduceIte, nA, nB, nC, nD, nE, nF, nG, reduceCtorEq, L_slices_Concat, hy2, encL1b8]
    rcases ifb h with ⟨hy3, h⟩ | ⟨hy3, h⟩
    · refine UC_t hy3 ?_
      cases h
    · refine UC_f hy3 ?_
      try simp only [WW, ↓reduceIte, nA, nB, nC, nD, nE, nF, nG, reduceCtorEq, L_slices_Concat, encL1b8]
      have hq := Option.some.inj h; subst hq
      refine hN _ rfl _ _ _ _ ?_ (WxH.refl _) ⟨rfl, rfl⟩
      exact WE.cons (Wx.nn) (WE.cons (Wx.int) (WE.cons (Wx.nn) (WE.cons (Wx.int) (WE.cons (Wx.int) (WE.nil)))))
  · refine UC_f hy1 ?_
    try simp only [WW, ↓reduceIte, nA, nB, nC, nD, nE, nF, nG, reduceCtorEq, L_slices_Concat, encL1b8]
    have hq := Option.some.inj h; subst hq
    refine hX _ _ _ _ _ (by simp) ?_ (WxH.refl _) (kb0 _ (hB _ rfl) )
    exact WE.cons (Wx.nn) (WE.cons (Wx.int) (WE.nil))
theorem slices_Concat_l2_ok {F : Nat} {t9 : Int} {slices1 : List (List UInt8)} {newslice8 : List UInt8} {H : AH}  {K : Exit → Env → AH → Prop} {o : ((List UInt8)) ⊕ ((List UInt8))}
    (h : iter (slices_Concat_l2 slices1) F (newslice8, t9) = some o)
    (kb2 : ∀ o' : (List UInt8), o = .inr o' → K (.exit 2) [(6, (.sl .own 1 (ml b8 o')))] H) :
    AX Tryd.prog L_slices_Concat 36 H.length c_slices_Concat_l2 K [(6, (.sl .own 1 (ml b8 newslice8))), (25, (.sl .n 1 (ml encL1b8 slices1))), (26, (.int .i64 (slices1.length : Int))), (27, (.int .i64 t9))] H := by
  refine AX.iter (m := m_slices_Concat_l2b) rfl (by decide) (fun s e H1 => match s with | (newslice8, t9) => e = [(6, (.sl .own 1 (ml b8 newslice8))), (25, (.sl .n 1 (ml encL1b8 slices1))), (26, (.int .i64 (slices1.length : Int))), (27, (.int .i64 t9))] ∧ H1 = H) h ⟨rfl, rfl⟩ ?_
  rintro K' ⟨newslice8, t9⟩ st e H ⟨rfl, rfl⟩ h hN hB hR hX
  rw [slices_Concat_l2.eq_1] at h
  try simp only [WW, ↓reduceIte, nA, nB, nC, nD, nE, nF, nG, reduceCtorEq, L_slices_Concat, m_slices_Concat_l2b, c_slices_Concat_l2b, encL1b8]
  rcases ifb h with ⟨hy6, h⟩ | ⟨hy6, h⟩
  · refine UC_t hy6 ?_
    obtain ⟨x10, hy7, h⟩ := bnd' h
    obtain ⟨x11, hy8, h⟩ := bnd' h
    have hy9 : capp 1 (ml b8 newslice8) (ml b8 x10) = some (ml b8 x11) := capp_m (f := b8) hy8
    try simp only [WW, ↓reduceIte, nA, nB, nC, nD, nE, nF, nG, reduceCtorEq, L_slices_Concat, hy7, hy9, encL1b8]
    have hq := Option.some.inj h; subst hq
    refine hN _ rfl _ _ _ _ ?_ (WxH.refl _) ⟨rfl, rfl⟩
    exact WE.cons (Wx.oo) (WE.cons (Wx.nn) (WE.cons (Wx.int) (WE.cons (Wx.int) (WE.nil))))
  · refine UC_f hy6 ?_
    try simp only [WW, ↓reduceIte, nA, nB, nC, nD, nE, nF, nG, reduceCtorEq, L_slices_Concat, encL1b8]
    have hq := Option.some.inj h; subst hq
    refine hX _ _ _ _ _ (by simp) ?_ (WxH.refl _) (kb2 _ (hB _ rfl) )
    exact WE.cons (Wx.oo) (WE.nil)
theorem slices_Concat_ok {F : Nat} {slices1 : List (List UInt8)}  {H0 : AH}  {rz0 : List UInt8} (h : slices_Concat F slices1 = some rz0) :
    ACalls Tryd.prog 64 [(.sl .n 1 (ml encL1b8 slices1))] H0 fun v H' => v = (.sl .n 1 (ml b8 rz0)) ∧ H' = H0 := by
  refine ACalls.goX k_slices_Concat (m := m_slices_Concat) rfl L_slices_Concat (by decide) (by simp) fun hcl K0 hK0 => ?_
  refine AX.of_U (m := m_slices_Concat) rfl (by decide) ?_
  rw [slices_Concat.eq_1] at h
  try simp only [WW, ↓reduceIte, nA, nB, nC, nD, nE, nF, nG, reduceCtorEq, L_slices_Concat, m_slices_Concat, c_slices_Concat, encL1b8]
  obtain ⟨o15, hy4, h⟩ := bnd' h
  refine UX_of (AX.weak ?_ (WxH.refl _) (slices_Concat_l1_ok  (slices1 := slices1) (size2 := 0) (t3 := 0)   (o := o15) hy4 ?_))
  · exact WE.cons (Wx.nn) (WE.cons (Wx.int) (WE.cons (Wx.nn) (WE.cons (Wx.int) (WE.cons (Wx.int) (WE.nil)))))
  · rintro size6 rfl  
    try dsimp only at h 
    try simp only [WW, ↓reduceIte, nA, nB, nC, nD, nE, nF, nG, reduceCtorEq, L_slices_Concat, encL1b8]
    obtain ⟨r7, hy5, h⟩ := bnd' h
    refine UK_e (as' := [(.sl .ex 1 []), (.int .i64 size6)]) (h := slices_Grow_ok (i1 := size6)  hy5) (hw := WL.cons (Wx.ex) (WL.cons (Wx.int) (WL.nil))) (hh := WxH.refl _) ?_
    try simp only [WW, ↓reduceIte, nA, nB, nC, nD, nE, nF, nG, reduceCtorEq, L_slices_Concat, encL1b8]
    obtain ⟨o14, hy10, h⟩ := bnd' h
    refine UX_of (AX.weak ?_ (WxH.refl _) (slices_Concat_l2_ok  (slices1 := slices1) (newslice8 := r7) (t9 := 0)   (o := o14) hy10 ?_))
    · exact WE.cons (Wx.oo) (WE.cons (Wx.nn) (WE.cons (Wx.int) (WE.cons (Wx.int) (WE.nil))))
    · rintro newslice13 rfl  
      try dsimp only at h 
      try simp only [WW, ↓reduceIte, nA, nB, nC, nD, nE, nF, nG, reduceCtorEq, L_slices_Concat, encL1b8]
      have hq := Option.some.inj h; subst hq
      refine hK0 _ _ _ (.inr rfl) ?_
      exact fn_endp hcl (resv_tmp (a := (.sl .n 1 (ml b8 newslice13))) rfl rfl resv_nil) (by first | (simp [fin, b_df, b_sh, b_sh1, b_Cl]; done) | (simp [fin, AV.df, AV.sh, AV.sh1, b_df, b_sh, b_sh1, b_Cl]; done)) (Wx.nn) (r' := (.sl .n 1 (ml b8 newslice13))) ⟨rfl, rfl⟩

/-! ### mailbag/dot.Whole -/
def c_dot_Whole_p1 : ACode := (.rg [⟨(some 3), (.mv (.t 0)), none⟩, ⟨(some 4), (.len (.t 3)), none⟩, ⟨(some 5), (.bin .eql (.t 4) (.c (.int .i64 0))), none⟩, ⟨(some 6), (.mv (.t 5)), none⟩, ⟨(some 7), (.mv (.t 0)), (some (6, false))⟩, ⟨(some 8), (.mv (.c .un)), (some (6, false))⟩, ⟨(some 9), (.lit 8 [13, 10]), (some (6, false))⟩, ⟨(some 10), (.call (.c (.fn 92 [])) [(.t 7), (.t 9)]), (some (6, false))⟩, ⟨(some 11), (.pick (.t 6) (.c (.bool true)) (.t 10)), none⟩])
abbrev m_dot_Whole_p1 := c_dot_Whole_p1
def c_dot_Whole : ACode := (.seq (.rg [⟨(some 2), (.asg (.c (.sl .ex 1 []))), none⟩]) (.seq (.seq c_dot_Whole_p1 (.cond (.t 11) (.seq (.rg [⟨(some 12), (.mv (.t 0)), none⟩, ⟨(some 13), (.call (.c (.fn 93 [])) [(.t 12)]), none⟩, ⟨(some 2), (.asg (.t 13)), none⟩]) .ret) .skip)) (.seq (.rg [⟨(some 14), (.mv (.t 0)), none⟩, ⟨(some 16), (.lit 15 [13, 10]), none⟩, ⟨(some 17), (.bsl 1 [(.t 14), (.t 16)]), none⟩, ⟨(some 18), (.call (.c (.fn 64 [])) [(.t 17)]), none⟩, ⟨(some 2), (.asg (.t 18)), none⟩]) .ret)))
def m_dot_Whole : ACode := (.seq (.rg [⟨(some 2), (.asg (.c (.sl .ex 1 []))), none⟩]) (.seq (.seq (.sem c_dot_Whole_p1) (.cond (.t 11) (.seq (.rg [⟨(some 12), (.mv (.t 0)), none⟩, ⟨(some 13), (.call (.c (.fn 93 [])) [(.t 12)]), none⟩, ⟨(some 2), (.asg (.t 13)), none⟩]) .ret) .skip)) (.seq (.rg [⟨(some 14), (.mv (.t 0)), none⟩, ⟨(some 16), (.lit 15 [13, 10]), none⟩, ⟨(some 17), (.bsl 1 [(.t 14), (.t 16)]), none⟩, ⟨(some 18), (.call (.c (.fn 64 [])) [(.t 17)]), none⟩, ⟨(some 2), (.asg (.t 18)), none⟩]) .ret)))
theorem k_dot_Whole : FnOk Tryd.prog 60 19 [(.tmp 2)] c_dot_Whole := ⟨Tryd.f60, _, rfl, by decide, rfl, by kernel_rfl, rfl, rfl⟩
abbrev L_dot_Whole : List Nat := [0, 2, 11]
def dot_Whole_p1 (b1 : List UInt8) : Option (Bool) :=
  (if (decide ((b1.length : Int) = 0)) then
    some true
  else
    (bytes_HasSuffix b1 ([13, 10] : List UInt8)).bind fun r2 => some r2)
def dot_Whole (F : Nat) (b1 : List UInt8) : Option ((List UInt8)) :=
  (dot_Whole_p1 b1).bind fun t4 =>
  (if t4 then
    (slices_Clone b1).bind fun r5 => some r5
  else
    (slices_Concat F ([b1, ([13, 10] : List UInt8)] : List (List UInt8))).bind fun r6 => some r6)
theorem dot_Whole_p1_ok {b1 : List UInt8} {H : AH}  {K : Exit → Env → AH → Prop} {t3 : Bool}
    (h : dot_Whole_p1 b1 = some t3)
    (kn : K .normal [(0, (.sl .n 1 (ml b8 b1))), (11, (.bool t3))] H) :
    AX Tryd.prog L_dot_Whole 19 H.length c_dot_Whole_p1 K [(0, (.sl .n 1 (ml b8 b1)))] H := by
  refine AX.go (m := m_dot_Whole_p1) rfl (by decide) fun K' hK => ?_
  rw [dot_Whole_p1.eq_1] at h
  try simp only [WW, ↓reduceIte, nA, nB, nC, nD, nE, nF, nG, reduceCtorEq, L_dot_Whole, m_dot_Whole_p1, c_dot_Whole_p1, encL1b8]
  rcases ifb h with ⟨hy1, h⟩ | ⟨hy1, h⟩
  · refine UG_nf hy1 ?_
    try simp only [WW, ↓reduceIte, nA, nB, nC, nD, nE, nF, nG, reduceCtorEq, L_dot_Whole, hy1, encL1b8]
    have hq := Option.some.inj h; subst hq
    refine hK _ _ _ _ _ ?_ (WxH.refl _) (kn )
    exact WE.cons (Wx.nn) (WE.cons (Wx.bool) (WE.nil))
  · refine UG_go hy1 ?_
    try simp only [WW, ↓reduceIte, nA, nB, nC, nD, nE, nF, nG, reduceCtorEq, L_dot_Whole, hy1, encL1b8]
    obtain ⟨r2, hy2, h⟩ := bnd' h
    refine UK_e (as' := [(.sl .n 1 (ml b8 b1)), (.sl .n 1 (ml b8 ([13, 10] : List UInt8)))]) (h := bytes_HasSuffix_ok (s1 := b1) (suffix2 := ([13, 10] : List UInt8))  hy2) (hw := WL.cons (Wx.nn) (WL.cons (Wx.n) (WL.nil))) (hh := WxH.refl _) ?_
    try simp only [WW, ↓reduceIte, nA, nB, nC, nD, nE, nF, nG, reduceCtorEq, L_dot_Whole, encL1b8]
    have hq := Option.some.inj h; subst hq
    refine hK _ _ _ _ _ ?_ (WxH.refl _) (kn )
    exact WE.cons (Wx.nn) (WE.cons (Wx.bool) (WE.nil))
theorem dot_Whole_ok {F : Nat} {b1 : List UInt8}  {H0 : AH}  {rz0 : List UInt8} (h : dot_Whole F b1 = some rz0) :
    ACalls Tryd.prog 60 [(.sl .n 1 (ml b8 b1))] H0 fun v H' => v = (.sl .n 1 (ml b8 rz0)) ∧ H' = H0 := by
  refine ACalls.goX k_dot_Whole (m := m_dot_Whole) rfl L_dot_Whole (by decide) (by simp) fun hcl K0 hK0 => ?_
  refine AX.of_U (m := m_dot_Whole) rfl (by decide) ?_
  rw [dot_Whole.eq_1] at h
  try simp only [WW, ↓reduceIte, nA, nB, nC, nD, nE, nF, nG, reduceCtorEq, L_dot_Whole, m_dot_Whole, encL1b8]
  obtain ⟨t4, hy3, h⟩ := bnd' h
  refine UX_of (AX.weak ?_ (WxH.refl _) (dot_Whole_p1_ok  (b1 := b1) (t3 := t4)   hy3 ?_))
  · exact WE.cons (Wx.nn) (WE.nil)
  try simp only [WW, ↓reduceIte, nA, nB, nC, nD, nE, nF, nG, reduceCtorEq, L_dot_Whole, encL1b8]
  rcases ifb h with ⟨hy4, h⟩ | ⟨hy4, h⟩
  · refine UC_t hy4 ?_
    try simp only [WW, ↓reduceIte, nA, nB, nC, nD, nE, nF, nG, reduceCtorEq, L_dot_Whole, encL1b8]
    obtain ⟨r5, hy5, h⟩ := bnd' h
    refine UK_e (as' := [(.sl .n 1 (ml b8 b1))]) (h := slices_Clone_ok (s1 := b1)  hy5) (hw := WL.cons (Wx.nn) (WL.nil)) (hh := WxH.refl _) ?_
    try simp only [WW, ↓reduceIte, nA, nB, nC, nD, nE, nF, nG, reduceCtorEq, L_dot_Whole, encL1b8]
    have hq := Option.some.inj h; subst hq
    refine hK0 _ _ _ (.inr rfl) ?_
    exact fn_endp hcl (resv_tmp (a := (.sl .own 1 (ml b8 r5))) rfl rfl resv_nil) (by first | (simp [fin, b_df, b_sh, b_sh1, b_Cl]; done) | (simp [fin, AV.df, AV.sh, AV.sh1, b_df, b_sh, b_sh1, b_Cl]; done)) (Wx.n) (r' := (.sl .n 1 (ml b8 r5))) ⟨rfl, rfl⟩
  · refine UC_f hy4 ?_
    try simp only [WW, ↓reduceIte, nA, nB, nC, nD, nE, nF, nG, reduceCtorEq, L_dot_Whole, encL1b8]
    obtain ⟨r6, hy6, h⟩ := bnd' h
    refine UK_e (as' := [(.sl .n 1 [(.sl .n 1 (ml b8 b1)), (.sl .n 1 (ml b8 ([13, 10] : List UInt8)))])]) (h := slices_Concat_ok (slices1 := ([b1, ([13, 10] : List UInt8)] : List (List UInt8))) (F := F)  hy6) (hw := WL.cons (Wx.n) (WL.nil)) (hh := WxH.refl _) ?_
    try simp only [WW, ↓reduceIte, nA, nB, nC, nD, nE, nF, nG, reduceCtorEq, L_dot_Whole, encL1b8]
    have hq := Option.some.inj h; subst hq
    refine hK0 _ _ _ (.inr rfl) ?_
    exact fn_endp hcl (resv_tmp (a := (.sl .n 1 (ml b8 r6))) rfl rfl resv_nil) (by first | (simp [fin, b_df, b_sh, b_sh1, b_Cl]; done) | (simp [fin, AV.df, AV.sh, AV.sh1, b_df, b_sh, b_sh1, b_Cl]; done)) (Wx.nn) (r' := (.sl .n 1 (ml b8 r6))) ⟨rfl, rfl⟩

/-! ### mailbag/head.Name -/
def c_head_Name_p1 : ACode := (.rg [⟨(some 9), (.mv (.t 0)), none⟩, ⟨(some 10), (.mv (.t 3)), none⟩, ⟨(some 11), (.ixs (.t 9) (.t 10)), none⟩, ⟨(some 12), (.bin .lss (.t 11) (.c (b8 33))), none⟩, ⟨(some 13), (.mv (.t 12)), none⟩, ⟨(some 14), (.mv (.t 0)), (some (13, false))⟩, ⟨(some 15), (.mv (.t 3)), (some (13, false))⟩, ⟨(some 16), (.ixs (.t 14) (.t 15)), (some (13, false))⟩, ⟨(some 17), (.bin .gtr (.t 16) (.c (b8 126))), (some (13, false))⟩, ⟨(some 18), (.pick (.t 13) (.c (.bool true)) (.t 17)), none⟩, ⟨(some 19), (.mv (.t 18)), none⟩, ⟨(some 20), (.mv (.t 0)), (some (19, false))⟩, ⟨(some 21), (.mv (.t 3)), (some (19, false))⟩, ⟨(some 22), (.ixs (.t 20) (.t 21)), (some (19, false))⟩, ⟨(some 23), (.bin .eql (.t 22) (.c (b8 58))), (some (19, false))⟩, ⟨(some 24), (.pick (.t 19) (.c (.bool true)) (.t 23)), none⟩])
abbrev m_head_Name_p1 := c_head_Name_p1
def c_head_Name_l1b : ACode := (.seq (.rg [⟨(some 7), (.bin .lss (.t 6) (.t 5)), none⟩]) (.seq (.cond (.t 7) .skip (.exit 0)) (.seq (.blk 1 (.seq (.rg [⟨(some 8), (.mv (.t 6)), none⟩, ⟨(some 3), (.asg (.t 8)), none⟩]) (.seq c_head_Name_p1 (.cond (.t 24) (.seq (.rg [⟨(some 2), (.asg (.c (.bool false))), none⟩]) .ret) .skip)))) (.rg [⟨(some 25), (.bin .add (.t 6) (.c (.int .i64 1))), none⟩, ⟨(some 6), (.mv (.t 25)), none⟩]))))
def c_head_Name_l1 : ACode := (.loop c_head_Name_l1b)
def m_head_Name_l1b : ACode := (.seq (.rg [⟨(some 7), (.bin .lss (.t 6) (.t 5)), none⟩]) (.seq (.cond (.t 7) .skip (.exit 0)) (.seq (.blk 1 (.seq (.rg [⟨(some 8), (.mv (.t 6)), none⟩, ⟨(some 3), (.asg (.t 8)), none⟩]) (.seq (.sem c_head_Name_p1) (.cond (.t 24) (.seq (.rg [⟨(some 2), (.asg (.c (.bool false))), none⟩]) .ret) .skip)))) (.rg [⟨(some 25), (.bin .add (.t 6) (.c (.int .i64 1))), none⟩, ⟨(some 6), (.mv (.t 25)), none⟩]))))
def c_head_Name_p2 : ACode := (.rg [⟨(some 26), (.mv (.t 0)), none⟩, ⟨(some 27), (.bin .neq (.t 26) (.c (.str []))), none⟩, ⟨(some 28), (.mv (.t 27)), none⟩, ⟨(some 29), (.mv (.t 0)), (some (28, true))⟩, ⟨(some 30), (.lens (.t 29)), (some (28, true))⟩, ⟨(some 31), (.bin .leq (.t 30) (.c (.int .i64 76))), (some (28, true))⟩, ⟨(some 32), (.pick (.t 28) (.t 31) (.c (.bool false))), none⟩, ⟨(some 2), (.asg (.t 32)), none⟩])
abbrev m_head_Name_p2 := c_head_Name_p2
def c_head_Name : ACode := (.seq (.rg [⟨(some 2), (.asg (.c (.bool false))), none⟩]) (.seq (.seq (.rg [⟨(some 4), (.mv (.t 0)), none⟩, ⟨(some 5), (.lens (.t 4)), none⟩, ⟨(some 6), (.mv (.c (.int .i64 0))), none⟩]) (.blk 0 c_head_Name_l1)) (.seq c_head_Name_p2 .ret)))
def m_head_Name : ACode := (.seq (.rg [⟨(some 2), (.asg (.c (.bool false))), none⟩]) (.seq (.seq (.rg [⟨(some 4), (.mv (.t 0)), none⟩, ⟨(some 5), (.lens (.t 4)), none⟩, ⟨(some 6), (.mv (.c (.int .i64 0))), none⟩]) (.blk 0 c_head_Name_l1)) (.seq (.sem c_head_Name_p2) .ret)))
theorem k_head_Name : FnOk Tryd.prog 25 33 [(.tmp 2)] c_head_Name := ⟨Tryd.f25, _, rfl, by decide, rfl, by kernel_rfl, rfl, rfl⟩
abbrev L_head_Name : List Nat := [0, 2, 3, 5, 6, 7, 24]
def head_Name_p1 (s1 : List UInt8) (t2 : Int) : Option (Bool) :=
  (idx s1 t2).bind fun x3 =>
  (if (decide (x3 < 33)) then
    some true
  else
    (if (decide (126 < x3)) then
      some true
    else
      some (decide (x3 = 58))))
def head_Name_l1 (s1 : List UInt8) : Int → Option (St Bool Unit Int)
  | t2 =>
    (if (decide (t2 < (s1.length : Int))) then
      (head_Name_p1 s1 t2).bind fun t5 =>
      (if t5 then
        some (.ret false)
      else
        some (.nxt (IntKind.wrap .i64 (t2 + 1))))
    else
      some (.brk ()))
def head_Name (F : Nat) (s1 : List UInt8) : Option (Bool) :=
  ((iter (head_Name_l1 s1) F 0).bind fun o8 =>
  match o8 with
  | .inr () =>
    some ((!decide (s1 = ([] : List UInt8))) && (decide ((s1.length : Int) ≤ 76)))
  | .inl r7 =>
    some r7)
theorem head_Name_p1_ok {s1 : List UInt8} {t2 : Int} {H : AH}  {K : Exit → Env → AH → Prop} {t4 : Bool}
    (h : head_Name_p1 s1 t2 = some t4)
    (kn : K .normal [(0, (.str s1)), (5, (.int .i64 (s1.length : Int))), (6, (.int .i64 t2)), (24, (.bool t4))] H) :
    AX Tryd.prog L_head_Name 33 H.length c_head_Name_p1 K [(0, (.str s1)), (3, (.int .i64 t2)), (5, (.int .i64 (s1.length : Int))), (6, (.int .i64 t2))] H := by
  refine AX.go (m := m_head_Name_p1) rfl (by decide) fun K' hK => ?_
  rw [head_Name_p1.eq_1] at h
  obtain ⟨x3, hy2, h⟩ := bnd' h
  try simp only [WW, ↓reduceIte, nA, nB, nC, nD, nE, nF, nG, reduceCtorEq, L_head_Name, m_head_Name_p1, c_head_Name_p1, hy2, encFieldV, encL1b8]
  rcases ifb h with ⟨hy3, h⟩ | ⟨hy3, h⟩
  · refine UG_nf hy3 ?_
    try simp only [WW, ↓reduceIte, nA, nB, nC, nD, nE, nF, nG, reduceCtorEq, L_head_Name, hy3, encFieldV, encL1b8]
    have hq := Option.some.inj h; subst hq
    refine hK _ _ _ _ _ ?_ (WxH.refl _) (kn )
    exact WE.cons (Wx.str) (WE.cons (Wx.int) (WE.cons (Wx.int) (WE.cons (Wx.bool) (WE.nil))))
  · refine UG_go hy3 ?_
    try simp only [WW, ↓reduceIte, nA, nB, nC, nD, nE, nF, nG, reduceCtorEq, L_head_Name, hy3, hy2, encFieldV, encL1b8]
    rcases ifb h with ⟨hy4, h⟩ | ⟨hy4, h⟩
    · refine UG_nf hy4 ?_
      try simp only [WW, ↓reduceIte, nA, nB, nC, nD, nE, nF, nG, reduceCtorEq, L_head_Name, hy4, encFieldV, encL1b8]
      have hq := Option.some.inj h; subst hq
      refine hK _ _ _ _ _ ?_ (WxH.refl _) (kn )
      exact WE.cons (Wx.str) (WE.cons (Wx.int) (WE.cons (Wx.int) (WE.cons (Wx.bool) (WE.nil))))
    · refine UG_go hy4 ?_
      try simp only [WW, ↓reduceIte, nA, nB, nC, nD, nE, nF, nG, reduceCtorEq, L_head_Name, hy4, hy2, encFieldV, encL1b8]
      have hq := Option.some.inj h; subst hq
      refine hK _ _ _ _ _ ?_ (WxH.refl _) (kn )
      exact WE.cons (Wx.str) (WE.cons (Wx.int) (WE.cons (Wx.int) (WE.cons (Wx.bool) (WE.nil))))
theorem head_Name_l1_ok {F : Nat} {t2 : Int} {s1 : List UInt8} {H : AH}  {K : Exit → Env → AH → Prop} {o : (Bool) ⊕ (Unit)}
    (h : iter (head_Name_l1 s1) F t2 = some o)
    (kb0 : ∀ o' : Unit, o = .inr o' → K (.exit 0) [(0, (.str s1))] H)
    (kr : ∀ o' : Bool, o = .inl o' → K .ret [(2, (.bool o'))] H) :
    AX Tryd.prog L_head_Name 33 H.length c_head_Name_l1 K [(0, (.str s1)), (5, (.int .i64 (s1.length : Int))), (6, (.int .i64 t2))] H := by
  refine AX.iter (m := m_head_Name_l1b) rfl (by decide) (fun s e H1 => match s with | t2 => e = [(0, (.str s1)), (5, (.int .i64 (s1.length : Int))), (6, (.int .i64 t2))] ∧ H1 = H) h ⟨rfl, rfl⟩ ?_
  rintro K' t2 st e H ⟨rfl, rfl⟩ h hN hB hR hX
  rw [head_Name_l1.eq_1] at h
  try simp only [WW, ↓reduceIte, nA, nB, nC, nD, nE, nF, nG, reduceCtorEq, L_head_Name, m_head_Name_l1b, encFieldV, encL1b8]
  rcases ifb h with ⟨hy1, h⟩ | ⟨hy1, h⟩
  · refine UC_t hy1 ?_
    try simp only [WW, ↓reduceIte, nA, nB, nC, nD, nE, nF, nG, reduceCtorEq, L_head_Name, encFieldV, encL1b8]
    obtain ⟨t5, hy5, h⟩ := bnd' h
    refine UX_of (AX.weak ?_ (WxH.refl _) (head_Name_p1_ok  (s1 := s1) (t2 := t2) (t4 := t5)   hy5 ?_))
    · exact WE.cons (Wx.str) (WE.cons (Wx.int) (WE.cons (Wx.int) (WE.cons (Wx.int) (WE.nil))))
    try simp only [WW, ↓reduceIte, nA, nB, nC, nD, nE, nF, nG, reduceCtorEq, L_head_Name, encFieldV, encL1b8]
    rcases ifb h with ⟨hy6, h⟩ | ⟨hy6, h⟩
    · refine UC_t hy6 ?_
      try simp only [WW, ↓reduceIte, nA, nB, nC, nD, nE, nF, nG, reduceCtorEq, L_head_Name, encFieldV, encL1b8]
      have hq := Option.some.inj h; subst hq
      refine hX _ _ _ _ _ (by simp) ?_ (WxH.refl _) (kr _ (hR _ rfl) )
      exact WE.cons (Wx.bool) (WE.nil)
    · refine UC_f hy6 ?_
      try simp only [WW, ↓reduceIte, nA, nB, nC, nD, nE, nF, nG, reduceCtorEq, L_head_Name, encFieldV, encL1b8]
      have hq := Option.some.inj h; subst hq
      refine hN _ rfl _ _ _ _ ?_ (WxH.refl _) ⟨rfl, rfl⟩
      exact WE.cons (Wx.str) (WE.cons (Wx.int) (WE.cons (Wx.int) (WE.nil)))
  · refine UC_f hy1 ?_
    try simp only [WW, ↓reduceIte, nA, nB, nC, nD, nE, nF, nG, reduceCtorEq, L_head_Name, encFieldV, encL1b8]
    have hq := Option.some.inj h; subst hq
    refine hX _ _ _ _ _ (by simp) ?_ (WxH.refl _) (kb0 _ (hB _ rfl) )
    exact WE.cons (Wx.str) (WE.nil)
theorem head_Name_p2_ok {s1 : List UInt8} {H : AH}  {K : Exit → Env → AH → Prop}
    (kn : K .normal [(2, (.bool ((!decide (s1 = ([] : List UInt8))) && (decide ((s1.length : Int) ≤ 76)))))] H) :
    AX Tryd.prog L_head_Name 33 H.length c_head_Name_p2 K [(0, (.str s1))] H := by
  refine AX.go (m := m_head_Name_p2) rfl (by decide) fun K' hK => ?_
  try simp only [WW, ↓reduceIte, nA, nB, nC, nD, nE, nF, nG, reduceCtorEq, L_head_Name, m_head_Name_p2, c_head_Name_p2, encFieldV, encL1b8]
  rcases bcases ((!decide (s1 = ([] : List UInt8)))) with hy8 | hy8
  · refine UG_go hy8 ?_
    try simp only [WW, ↓reduceIte, nA, nB, nC, nD, nE, nF, nG, reduceCtorEq, L_head_Name, hy8, encFieldV, encL1b8]
    refine hK _ _ _ _ _ ?_ (WxH.refl _) (kn )
    exact WE.cons (Wx.boolE (by simp only [hy8, WB])) (WE.nil)
  · refine UG_nt hy8 ?_
    try simp only [WW, ↓reduceIte, nA, nB, nC, nD, nE, nF, nG, reduceCtorEq, L_head_Name, hy8, encFieldV, encL1b8]
    refine hK _ _ _ _ _ ?_ (WxH.refl _) (kn )
    exact WE.cons (Wx.boolE (by simp only [hy8, WB])) (WE.nil)
theorem head_Name_ok {F : Nat} {s1 : List UInt8}  {H0 : AH}  {rz0 : Bool} (h : head_Name F s1 = some rz0) :
    ACalls Tryd.prog 25 [(.str s1)] H0 fun v H' => v = (.bool rz0) ∧ H' = H0 := by
  refine ACalls.goX k_head_Name (m := m_head_Name) rfl L_head_Name (by decide) (by simp) fun hcl K0 hK0 => ?_
  refine AX.of_U (m := m_head_Name) rfl (by decide) ?_
  rw [head_Name.eq_1] at h
  try simp only [WW, ↓reduceIte, nA, nB, nC, nD, nE, nF, nG, reduceCtorEq, L_head_Name, m_head_Name, encFieldV, encL1b8]
  obtain ⟨o8, hy7, h⟩ := bnd' h
  refine UX_of (AX.weak ?_ (WxH.refl _) (head_Name_l1_ok  (s1 := s1) (t2 := 0)   (o := o8) hy7 ?_ ?_))
  · exact WE.cons (Wx.str) (WE.cons (Wx.int) (WE.cons (Wx.int) (WE.nil)))
  · rintro ⟨⟩ rfl  
    try dsimp only at h 
    try simp only [WW, ↓reduceIte, nA, nB, nC, nD, nE, nF, nG, reduceCtorEq, L_head_Name, encFieldV, encL1b8]
    refine UX_of (AX.weak ?_ (WxH.refl _) (head_Name_p2_ok (s1 := s1)  ?_))
    · exact WE.cons (Wx.str) (WE.nil)
    try simp only [WW, ↓reduceIte, nA, nB, nC, nD, nE, nF, nG, reduceCtorEq, L_head_Name, encFieldV, encL1b8]
    have hq := Option.some.inj h; subst hq
    refine hK0 _ _ _ (.inr rfl) ?_
    exact fn_endp hcl (resv_tmp (a := (.bool ((!decide (s1 = ([] : List UInt8))) && (decide ((s1.length : Int) ≤ 76))))) rfl rfl resv_nil) (by first | (simp [fin, b_df, b_sh, b_sh1, b_Cl]; done) | (simp [fin, AV.df, AV.sh, AV.sh1, b_df, b_sh, b_sh1, b_Cl]; done)) (Wx.bool) (r' := (.bool ((!decide (s1 = ([] : List UInt8))) && (decide ((s1.length : Int) ≤ 76))))) ⟨rfl, rfl⟩
  · rintro r7 rfl  
    try dsimp only at h 
    try simp only [WW, ↓reduceIte, nA, nB, nC, nD, nE, nF, nG, reduceCtorEq, L_head_Name, encFieldV, encL1b8]
    have hq := Option.some.inj h; subst hq
    refine hK0 _ _ _ (.inr rfl) ?_
    exact fn_endp hcl (resv_tmp (a := (.bool r7)) rfl rfl resv_nil) (by first | (simp [fin, b_df, b_sh, b_sh1, b_Cl]; done) | (simp [fin, AV.df, AV.sh, AV.sh1, b_df, b_sh, b_sh1, b_Cl]; done)) (Wx.bool) (r' := (.bool r7)) ⟨rfl, rfl⟩

/-! ### mailbag/head.Split -/
def c_head_Split_p1 : ACode := (.rg [⟨(some 33), (.mv (.t 4)), none⟩, ⟨(some 34), (.len (.t 33)), none⟩, ⟨(some 35), (.bin .gtr (.t 34) (.c (.int .i64 0))), none⟩, ⟨(some 36), (.mv (.t 35)), none⟩, ⟨(some 37), (.mv (.t 6)), (some (36, true))⟩, ⟨(some 38), (.bin .neq (.t 37) (.c (.str []))), (some (36, true))⟩, ⟨(some 39), (.pick (.t 36) (.t 38) (.c (.bool false))), none⟩, ⟨(some 40), (.mv (.t 39)), none⟩, ⟨(some 41), (.mv (.t 6)), (some (40, true))⟩, ⟨(some 42), (.ixs (.t 41) (.c (.int .i64 0))), (some (40, true))⟩, ⟨(some 43), (.bin .eql (.t 42) (.c (b8 32))), (some (40, true))⟩, ⟨(some 44), (.mv (.t 43)), (some (40, true))⟩, ⟨(some 45), (.mv (.t 6)), (some (44, false))⟩, ⟨(some 46), (.ixs (.t 45) (.c (.int .i64 0))), (some (44, false))⟩, ⟨(some 47), (.bin .eql (.t 46) (.c (b8 9))), (some (44, false))⟩, ⟨(some 48), (.pick (.t 44) (.c (.bool true)) (.t 47)), (some (40, true))⟩, ⟨(some 49), (.pick (.t 40) (.t 48) (.c (.bool false))), none⟩, ⟨(some 32), (.asg (.t 49)), none⟩])
abbrev m_head_Split_p1 := c_head_Split_p1
def c_head_Split_p2 : ACode := (.rg [⟨(some 63), (.mv (.t 11)), none⟩, ⟨(some 64), (.mv (.t 63)), none⟩, ⟨(some 65), (.mv (.t 9)), (some (64, true))⟩, ⟨(some 66), (.call (.c (.fn 25 [])) [(.t 65)]), (some (64, true))⟩, ⟨(some 67), (.pick (.t 64) (.t 66) (.c (.bool false))), none⟩, ⟨(some 62), (.asg (.t 67)), none⟩])
abbrev m_head_Split_p2 := c_head_Split_p2
def c_head_Split_p3 : ACode := (.rg [⟨(some 77), (.mv (.t 4)), none⟩, ⟨(some 78), (.mv (.t 7)), none⟩, ⟨(some 79), (.cvt .sb (.t 78)), none⟩, ⟨(some 2), (.asg (.t 77)), none⟩, ⟨(some 3), (.asg (.t 79)), none⟩])
abbrev m_head_Split_p3 := c_head_Split_p3
def c_head_Split_p4 : ACode := (.rg [⟨(some 29), (.mv (.t 4)), none⟩, ⟨(some 30), (.mv (.t 5)), none⟩, ⟨(some 31), (.cvt .sb (.t 30)), none⟩, ⟨(some 2), (.asg (.t 29)), none⟩, ⟨(some 3), (.asg (.t 31)), none⟩])
abbrev m_head_Split_p4 := c_head_Split_p4
def c_head_Split_l1b : ACode := (.seq (.seq (.rg [⟨(some 15), (.mv (.t 5)), none⟩, ⟨(some 16), (.bin .neq (.t 15) (.c (.str []))), none⟩]) (.cond (.t 16) .skip (.exit 0))) (.blk 1 (.seq (.rg [⟨(some 18), (.mv (.t 5)), none⟩, ⟨(some 19), (.call (.c (.fn 61 [])) [(.t 18), (.c (.str [13, 10]))]), none⟩, ⟨(some 17), (.mv (.t 19)), none⟩, ⟨(some 20), (.ext (.t 17) 0), none⟩, ⟨(some 21), (.ext (.t 17) 1), none⟩, ⟨(some 22), (.ext (.t 17) 2), none⟩, ⟨(some 6), (.asg (.t 20)), none⟩, ⟨(some 7), (.asg (.t 21)), none⟩, ⟨(some 8), (.asg (.t 22)), none⟩]) (.seq (.rg [⟨(some 24), (.mv (.t 6)), none⟩, ⟨(some 25), (.call (.c (.fn 61 [])) [(.t 24), (.c (.str [58]))]), none⟩, ⟨(some 23), (.mv (.t 25)), none⟩, ⟨(some 26), (.ext (.t 23) 0), none⟩, ⟨(some 27), (.ext (.t 23) 1), none⟩, ⟨(some 28), (.ext (.t 23) 2), none⟩, ⟨(some 9), (.asg (.t 26)), none⟩, ⟨(some 10), (.asg (.t 27)), none⟩, ⟨(some 11), (.asg (.t 28)), none⟩]) (.seq (.blk 2 (.seq c_head_Split_p1 (.cond (.t 32) (.rg [⟨(some 50), (.mv (.t 4)), none⟩, ⟨(some 51), (.mv (.t 4)), none⟩, ⟨(some 52), (.len (.t 51)), none⟩, ⟨(some 53), (.bin .sub (.t 52) (.c (.int .i64 1))), none⟩, ⟨(some 54), (.ixa 2 (.t 50) (.t 53)), none⟩, ⟨(some 55), (.fld (.t 54) 1), none⟩, ⟨(some 56), (.ld (.t 55) none), none⟩, ⟨(some 57), (.mv (.t 6)), none⟩, ⟨(some 58), (.bin .add (.c (.str [13, 10])) (.t 57)), none⟩, ⟨(some 59), (.bin .add (.t 56) (.t 58)), none⟩, ⟨(some 60), (.ixa 2 (.t 50) (.t 53)), none⟩, ⟨(some 61), (.fld (.t 60) 1), none⟩, ⟨none, (.st (.t 61) (.t 59) 1), none⟩]) (.seq c_head_Split_p2 (.cond (.t 62) (.rg [⟨(some 68), (.mv (.t 4)), none⟩, ⟨(some 69), (.mv (.t 9)), none⟩, ⟨(some 70), (.mv (.t 10)), none⟩, ⟨(some 71), (.build [(.str []), (.str [])] [(0, (1, (.t 69))), (1, (1, (.t 70)))]), none⟩, ⟨(some 72), (.bsl 2 [(.t 71)]), none⟩, ⟨(some 73), (.app 2 32 (.t 68) (.t 72)), none⟩, ⟨(some 4), (.asg (.t 73)), none⟩]) (.seq (.rg [⟨(some 75), (.mv (.t 6)), none⟩, ⟨(some 76), (.bin .eql (.t 75) (.c (.str []))), none⟩, ⟨(some 74), (.asg (.t 76)), none⟩]) (.cond (.t 74) (.seq c_head_Split_p3 .ret) (.seq c_head_Split_p4 .ret)))))))) (.rg [⟨(some 80), (.mv (.t 7)), none⟩, ⟨(some 5), (.asg (.t 80)), none⟩]))))))
def c_head_Split_l1 : ACode := (.loop c_head_Split_l1b)
def m_head_Split_l1b : ACode := (.seq (.seq (.rg [⟨(some 15), (.mv (.t 5)), none⟩, ⟨(some 16), (.bin .neq (.t 15) (.c (.str []))), none⟩]) (.cond (.t 16) .skip (.exit 0))) (.blk 1 (.seq (.rg [⟨(some 18), (.mv (.t 5)), none⟩, ⟨(some 19), (.call (.c (.fn 61 [])) [(.t 18), (.c (.str [13, 10]))]), none⟩, ⟨(some 17), (.mv (.t 19)), none⟩, ⟨(some 20), (.ext (.t 17) 0), none⟩, ⟨(some 21), (.ext (.t 17) 1), none⟩, ⟨(some 22), (.ext (.t 17) 2), none⟩, ⟨(some 6), (.asg (.t 20)), none⟩, ⟨(some 7), (.asg (.t 21)), none⟩, ⟨(some 8), (.asg (.t 22)), none⟩]) (.seq (.rg [⟨(some 24), (.mv (.t 6)), none⟩, ⟨(some 25), (.call (.c (.fn 61 [])) [(.t 24), (.c (.str [58]))]), none⟩, ⟨(some 23), (.mv (.t 25)), none⟩, ⟨(some 26), (.ext (.t 23) 0), none⟩, ⟨(some 27), (.ext (.t 23) 1), none⟩, ⟨(some 28), (.ext (.t 23) 2), none⟩, ⟨(some 9), (.asg (.t 26)), none⟩, ⟨(some 10), (.asg (.t 27)), none⟩, ⟨(some 11), (.asg (.t 28)), none⟩]) (.seq (.blk 2 (.seq (.sem c_head_Split_p1) (.cond (.t 32) (.rg [⟨(some 50), (.mv (.t 4)), none⟩, ⟨(some 51), (.mv (.t 4)), none⟩, ⟨(some 52), (.len (.t 51)), none⟩, ⟨(some 53), (.bin .sub (.t 52) (.c (.int .i64 1))), none⟩, ⟨(some 54), (.ixa 2 (.t 50) (.t 53)), none⟩, ⟨(some 55), (.fld (.t 54) 1), none⟩, ⟨(some 56), (.ld (.t 55) none), none⟩, ⟨(some 57), (.mv (.t 6)), none⟩, ⟨(some 58), (.bin .add (.c (.str [13, 10])) (.t 57)), none⟩, ⟨(some 59), (.bin .add (.t 56) (.t 58)), none⟩, ⟨(some 60), (.ixa 2 (.t 50) (.t 53)), none⟩, ⟨(some 61), (.fld (.t 60) 1), none⟩, ⟨none, (.st (.t 61) (.t 59) 1), none⟩]) (.seq (.sem c_head_Split_p2) (.cond (.t 62) (.rg [⟨(some 68), (.mv (.t 4)), none⟩, ⟨(some 69), (.mv (.t 9)), none⟩, ⟨(some 70), (.mv (.t 10)), none⟩, ⟨(some 71), (.build [(.str []), (.str [])] [(0, (1, (.t 69))), (1, (1, (.t 70)))]), none⟩, ⟨(some 72), (.bsl 2 [(.t 71)]), none⟩, ⟨(some 73), (.appo 2 32 (.t 68) (.t 72)), none⟩, ⟨(some 4), (.asg (.t 73)), none⟩]) (.seq (.rg [⟨(some 75), (.mv (.t 6)), none⟩, ⟨(some 76), (.bin .eql (.t 75) (.c (.str []))), none⟩, ⟨(some 74), (.asg (.t 76)), none⟩]) (.cond (.t 74) (.seq (.sem c_head_Split_p3) .ret) (.seq (.sem c_head_Split_p4) .ret)))))))) (.rg [⟨(some 80), (.mv (.t 7)), none⟩, ⟨(some 5), (.asg (.t 80)), none⟩]))))))
def c_head_Split_p5 : ACode := (.rg [⟨(some 81), (.mv (.t 4)), none⟩, ⟨(some 2), (.asg (.t 81)), none⟩, ⟨(some 3), (.asg (.c (.sl .ex 1 []))), none⟩])
abbrev m_head_Split_p5 := c_head_Split_p5
def c_head_Split : ACode := (.seq (.rg [⟨(some 2), (.asg (.c (.sl .ex 2 []))), none⟩, ⟨(some 3), (.asg (.c (.sl .ex 1 []))), none⟩]) (.seq (.rg [⟨(some 4), (.asg (.c (.sl .ex 2 []))), none⟩]) (.seq (.rg [⟨(some 12), (.mv (.t 0)), none⟩, ⟨(some 13), (.call (.c (.fn 60 [])) [(.t 12)]), none⟩, ⟨(some 14), (.cvt .bs (.t 13)), none⟩, ⟨(some 5), (.asg (.t 14)), none⟩]) (.seq (.blk 0 c_head_Split_l1) (.seq c_head_Split_p5 .ret)))))
def m_head_Split : ACode := (.seq (.rg [⟨(some 2), (.asg (.c (.sl .ex 2 []))), none⟩, ⟨(some 3), (.asg (.c (.sl .ex 1 []))), none⟩]) (.seq (.rg [⟨(some 4), (.aso 2 (.c (.sl .ex 2 []))), none⟩]) (.seq (.rg [⟨(some 12), (.mv (.t 0)), none⟩, ⟨(some 13), (.call (.c (.fn 60 [])) [(.t 12)]), none⟩, ⟨(some 14), (.cvt .bs (.t 13)), none⟩, ⟨(some 5), (.asg (.t 14)), none⟩]) (.seq (.blk 0 c_head_Split_l1) (.seq (.sem c_head_Split_p5) .ret)))))
theorem k_head_Split : FnOk Tryd.prog 18 82 [(.tmp 2), (.tmp 3)] c_head_Split := ⟨Tryd.f18, _, rfl, by decide, rfl, by kernel_rfl, rfl, rfl⟩
abbrev L_head_Split : List Nat := [0, 2, 3, 4, 5, 6, 7, 9, 10, 11, 16, 32, 62, 74]
def head_Split_p1 (s6 : List FieldV) (r7 : List UInt8) : Option (Bool) :=
  (if (decide (0 < (s6.length : Int))) then
    (if (!decide (r7 = ([] : List UInt8))) then
      (idx r7 0).bind fun x15 =>
      (if (decide (x15 = 32)) then
        some true
      else
        some (decide (x15 = 9)))
    else
      some false)
  else
    some false)
def head_Split_p2 (F : Nat) (r12 : Bool) (r10 : List UInt8) : Option (Bool) :=
  (if r12 then
    (head_Name F r10).bind fun r24 => some r24
  else
    some false)
def head_Split_l1 (F : Nat)  : ((List UInt8) × (List FieldV)) → Option (St ((List FieldV) × (List UInt8)) (List FieldV) ((List UInt8) × (List FieldV)))
  | (rest5, s6) =>
    (if (!decide (rest5 = ([] : List UInt8))) then
      (strings_Cut rest5 ([13, 10] : List UInt8)).bind fun (r7, r8, r9) =>
      (strings_Cut r7 ([58] : List UInt8)).bind fun (r10, r11, r12) =>
      (head_Split_p1 s6 r7).bind fun t17 =>
      (if t17 then
        (ixm s6.length (IntKind.wrap .i64 ((s6.length : Int) - 1))).bind fun j18 =>
        (s6[j18]?).bind fun x19 =>
        (cat ([13, 10] : List UInt8) r7).bind fun x20 =>
        (cat x19.value x20).bind fun x21 => some (.nxt (r8, (List.set s6 j18 (FieldV.mk x19.name x21))))
      else
        (head_Split_p2 F r12 r10).bind fun t26 =>
        (if t26 then
          (capp 32 s6 ([(FieldV.mk r10 r11)] : List FieldV)).bind fun x27 => some (.nxt (r8, x27))
        else
          (if (decide (r7 = ([] : List UInt8))) then
            some (.ret (s6, r8))
          else
            some (.ret (s6, rest5)))))
    else
      some (.brk s6))
def head_Split (F : Nat) (b1 : List UInt8) : Option ((List FieldV) × (List UInt8)) :=
  (dot_Whole F b1).bind fun r2 =>
  ((iter (head_Split_l1 F) F (r2, ([] : List FieldV))).bind fun o42 =>
  match o42 with
  | .inr s35 =>
    some (s35, ([] : List UInt8))
  | .inl (r38, r39) =>
    some (r38, r39))
theorem head_Split_p1_ok {s6 : List FieldV} {r7 : List UInt8} {q13 : Nat} {q14 : Nat} {rest5 : List UInt8} {r8 : List UInt8} {r10 : List UInt8} {r11 : List UInt8} {r12 : Bool} {H0 H : AH} (hfr : Fr H0 H0.length [] H) (hs_o1 : GF 2 H0.length q13 (ml encFieldV s6) q14 H) {K : Exit → Env → AH → Prop} {t16 : Bool}
    (h : head_Split_p1 s6 r7 = some t16)
    (kn : ∀ H' : AH, Fr H0 H0.length [] H' → GF 2 H0.length q13 (ml encFieldV s6) q14 H' → K .normal [(4, (.gsl q13 2 s6.length q14)), (5, (.str rest5)), (6, (.str r7)), (7, (.str r8)), (9, (.str r10)), (10, (.str r11)), (11, (.bool r12)), (32, (.bool t16))] H') :
    AX Tryd.prog L_head_Split 82 H0.length c_head_Split_p1 K [(4, (.gsl q13 2 s6.length q14)), (5, (.str rest5)), (6, (.str r7)), (7, (.str r8)), (9, (.str r10)), (10, (.str r11)), (11, (.bool r12))] H := by
  refine AX.go (m := m_head_Split_p1) rfl (by decide) fun K' hK => ?_
  have hle := hfr.le
  rw [head_Split_p1.eq_1] at h
  try simp (disch := first | assumption | omega | (simp only [h_sl, h_al] <;> omega) | fail) only [WW, WH, ↓reduceIte, nA, nB, nC, nD, nE, nF, nG, reduceCtorEq, L_head_Split, m_head_Split_p1, c_head_Split_p1, encFieldV, encL1b8]
  rcases ifb h with ⟨hy5, h⟩ | ⟨hy5, h⟩
  · refine UG_go hy5 ?_
    try simp (disch := first | assumption | omega | (simp only [h_sl, h_al] <;> omega) | fail) only [WW, WH, ↓reduceIte, nA, nB, nC, nD, nE, nF, nG, reduceCtorEq, L_head_Split, hy5, encFieldV, encL1b8]
    rcases ifb h with ⟨hy6, h⟩ | ⟨hy6, h⟩
    · refine UG_go hy6 ?_
      obtain ⟨x15, hy7, h⟩ := bnd' h
      try simp (disch := first | assumption | omega | (simp only [h_sl, h_al] <;> omega) | fail) only [WW, WH, ↓reduceIte, nA, nB, nC, nD, nE, nF, nG, reduceCtorEq, L_head_Split, hy6, hy7, encFieldV, encL1b8]
      rcases ifb h with ⟨hy8, h⟩ | ⟨hy8, h⟩
      · refine UG_nf hy8 ?_
        try simp (disch := first | assumption | omega | (simp only [h_sl, h_al] <;> omega) | fail) only [WW, WH, ↓reduceIte, nA, nB, nC, nD, nE, nF, nG, reduceCtorEq, L_head_Split, hy8, encFieldV, encL1b8]
        have hq := Option.some.inj h; subst hq
        refine hK _ _ _ _ _ ?_ (WxH.refl _) (kn _ hfr hs_o1)
        exact WE.cons (Wx.gslE (by simp)) (WE.cons (Wx.str) (WE.cons (Wx.str) (WE.cons (Wx.str) (WE.cons (Wx.str) (WE.cons (Wx.str) (WE.cons (Wx.bool) (WE.cons (Wx.bool) (WE.nil))))))))
      · refine UG_go hy8 ?_
        try simp (disch := first | assumption | omega | (simp only [h_sl, h_al] <;> omega) | fail) only [WW, WH, ↓reduceIte, nA, nB, nC, nD, nE, nF, nG, reduceCtorEq, L_head_Split, hy8, hy7, encFieldV, encL1b8]
        have hq := Option.some.inj h; subst hq
        refine hK _ _ _ _ _ ?_ (WxH.refl _) (kn _ hfr hs_o1)
        exact WE.cons (Wx.gslE (by simp)) (WE.cons (Wx.str) (WE.cons (Wx.str) (WE.cons (Wx.str) (WE.cons (Wx.str) (WE.cons (Wx.str) (WE.cons (Wx.bool) (WE.cons (Wx.bool) (WE.nil))))))))
    · refine UG_nt hy6 ?_
      try simp (disch := first | assumption | omega | (simp only [h_sl, h_al] <;> omega) | fail) only [WW, WH, ↓reduceIte, nA, nB, nC, nD, nE, nF, nG, reduceCtorEq, L_head_Split, hy6, encFieldV, encL1b8]
      have hq := Option.some.inj h; subst hq
      refine hK _ _ _ _ _ ?_ (WxH.refl _) (kn _ hfr hs_o1)
      exact WE.cons (Wx.gslE (by simp)) (WE.cons (Wx.str) (WE.cons (Wx.str) (WE.cons (Wx.str) (WE.cons (Wx.str) (WE.cons (Wx.str) (WE.cons (Wx.bool) (WE.cons (Wx.bool) (WE.nil))))))))
  · refine UG_nt hy5 ?_
    try simp (disch := first | assumption | omega | (simp only [h_sl, h_al] <;> omega) | fail) only [WW, WH, ↓reduceIte, nA, nB, nC, nD, nE, nF, nG, reduceCtorEq, L_head_Split, hy5, encFieldV, encL1b8]
    have hq := Option.some.inj h; subst hq
    refine hK _ _ _ _ _ ?_ (WxH.refl _) (kn _ hfr hs_o1)
    exact WE.cons (Wx.gslE (by simp)) (WE.cons (Wx.str) (WE.cons (Wx.str) (WE.cons (Wx.str) (WE.cons (Wx.str) (WE.cons (Wx.str) (WE.cons (Wx.bool) (WE.cons (Wx.bool) (WE.nil))))))))
theorem head_Split_p2_ok {F : Nat} {r12 : Bool} {r10 : List UInt8} {q22 : Nat} {s6 : List FieldV} {q23 : Nat} {rest5 : List UInt8} {r7 : List UInt8} {r8 : List UInt8} {r11 : List UInt8} {H0 H : AH} (hfr : Fr H0 H0.length [] H) (hs_o1 : GF 2 H0.length q22 (ml encFieldV s6) q23 H) {K : Exit → Env → AH → Prop} {t25 : Bool}
    (h : head_Split_p2 F r12 r10 = some t25)
    (kn : ∀ H' : AH, Fr H0 H0.length [] H' → GF 2 H0.length q22 (ml encFieldV s6) q23 H' → K .normal [(4, (.gsl q22 2 s6.length q23)), (5, (.str rest5)), (6, (.str r7)), (7, (.str r8)), (9, (.str r10)), (10, (.str r11)), (62, (.bool t25))] H') :
    AX Tryd.prog L_head_Split 82 H0.length c_head_Split_p2 K [(4, (.gsl q22 2 s6.length q23)), (5, (.str rest5)), (6, (.str r7)), (7, (.str r8)), (9, (.str r10)), (10, (.str r11)), (11, (.bool r12))] H := by
  refine AX.go (m := m_head_Split_p2) rfl (by decide) fun K' hK => ?_
  have hle := hfr.le
  rw [head_Split_p2.eq_1] at h
  try simp (disch := first | assumption | omega | (simp only [h_sl, h_al] <;> omega) | fail) only [WW, WH, ↓reduceIte, nA, nB, nC, nD, nE, nF, nG, reduceCtorEq, L_head_Split, m_head_Split_p2, c_head_Split_p2, encFieldV, encL1b8]
  rcases ifb h with ⟨hy21, h⟩ | ⟨hy21, h⟩
  · refine UG_go hy21 ?_
    try simp (disch := first | assumption | omega | (simp only [h_sl, h_al] <;> omega) | fail) only [WW, WH, ↓reduceIte, nA, nB, nC, nD, nE, nF, nG, reduceCtorEq, L_head_Split, hy21, encFieldV, encL1b8]
    obtain ⟨r24, hy22, h⟩ := bnd' h
    refine UK_e (as' := [(.str r10)]) (h := head_Name_ok (s1 := r10) (F := F)  hy22) (hw := WL.cons (Wx.str) (WL.nil)) (hh := WxH.refl _) ?_
    try simp (disch := first | assumption | omega | (simp only [h_sl, h_al] <;> omega) | fail) only [WW, WH, ↓reduceIte, nA, nB, nC, nD, nE, nF, nG, reduceCtorEq, L_head_Split, encFieldV, encL1b8]
    have hq := Option.some.inj h; subst hq
    refine hK _ _ _ _ _ ?_ (WxH.refl _) (kn _ hfr hs_o1)
    exact WE.cons (Wx.gslE (by simp)) (WE.cons (Wx.str) (WE.cons (Wx.str) (WE.cons (Wx.str) (WE.cons (Wx.str) (WE.cons (Wx.str) (WE.cons (Wx.bool) (WE.nil)))))))
  · refine UG_nt hy21 ?_
    try simp (disch := first | assumption | omega | (simp only [h_sl, h_al] <;> omega) | fail) only [WW, WH, ↓reduceIte, nA, nB, nC, nD, nE, nF, nG, reduceCtorEq, L_head_Split, hy21, encFieldV, encL1b8]
    have hq := Option.some.inj h; subst hq
    refine hK _ _ _ _ _ ?_ (WxH.refl _) (kn _ hfr hs_o1)
    exact WE.cons (Wx.gslE (by simp)) (WE.cons (Wx.str) (WE.cons (Wx.str) (WE.cons (Wx.str) (WE.cons (Wx.str) (WE.cons (Wx.str) (WE.cons (Wx.bool) (WE.nil)))))))
theorem head_Split_p3_ok {s6 : List FieldV} {r8 : List UInt8} {H0 H : AH} (hfr : Fr H0 H0.length [] H) {K : Exit → Env → AH → Prop}
    (kn : ∀ H' : AH, Fr H0 H0.length [] H' → K .normal [(2, (.sl .n 2 (ml encFieldV s6))), (3, (.sl .own 1 (ml b8 r8)))] H') :
    AX Tryd.prog L_head_Split 82 H0.length c_head_Split_p3 K [(4, (.sl .n 2 (ml encFieldV s6))), (7, (.str r8))] H := by
  refine AX.go (m := m_head_Split_p3) rfl (by decide) fun K' hK => ?_
  have hle := hfr.le
  try simp (disch := first | assumption | omega | (simp only [h_sl, h_al] <;> omega) | fail) only [WW, WH, ↓reduceIte, nA, nB, nC, nD, nE, nF, nG, reduceCtorEq, L_head_Split, m_head_Split_p3, c_head_Split_p3, encFieldV, encL1b8]
  refine hK _ _ _ _ _ ?_ (WxH.refl _) (kn _ hfr)
  exact WE.cons (Wx.nn) (WE.cons (Wx.oo) (WE.nil))
theorem head_Split_p4_ok {s6 : List FieldV} {rest5 : List UInt8} {H0 H : AH} (hfr : Fr H0 H0.length [] H) {K : Exit → Env → AH → Prop}
    (kn : ∀ H' : AH, Fr H0 H0.length [] H' → K .normal [(2, (.sl .n 2 (ml encFieldV s6))), (3, (.sl .own 1 (ml b8 rest5)))] H') :
    AX Tryd.prog L_head_Split 82 H0.length c_head_Split_p4 K [(4, (.sl .n 2 (ml encFieldV s6))), (5, (.str rest5))] H := by
  refine AX.go (m := m_head_Split_p4) rfl (by decide) fun K' hK => ?_
  have hle := hfr.le
  try simp (disch := first | assumption | omega | (simp only [h_sl, h_al] <;> omega) | fail) only [WW, WH, ↓reduceIte, nA, nB, nC, nD, nE, nF, nG, reduceCtorEq, L_head_Split, m_head_Split_p4, c_head_Split_p4, encFieldV, encL1b8]
  refine hK _ _ _ _ _ ?_ (WxH.refl _) (kn _ hfr)
  exact WE.cons (Wx.nn) (WE.cons (Wx.oo) (WE.nil))
theorem head_Split_l1_ok {F : Nat} {rest5 : List UInt8} {s6 : List FieldV} {q3 : Nat} {q4 : Nat} {H0 H : AH} (hfr : Fr H0 H0.length [] H) (hs_o1 : GF 2 H0.length q3 (ml encFieldV s6) q4 H) {K : Exit → Env → AH → Prop} {o : ((List FieldV) × (List UInt8)) ⊕ ((List FieldV))}
    (h : iter (head_Split_l1 F) F (rest5, s6) = some o)
    (kb0 : ∀ o' : (List FieldV), o = .inr o' → ∀ H' : AH, ∀ q31 q32 : Nat, Fr H0 H0.length [] H' → GF 2 H0.length q31 (ml encFieldV o') q32 H' → K (.exit 0) [(4, (.gsl q31 2 o'.length q32))] H')
    (kr : ∀ o' : (List FieldV) × (List UInt8), o = .inl o' → ∀ H' : AH, Fr H0 H0.length [] H' → K .ret [(2, (.sl .n 2 (ml encFieldV o'.1))), (3, (.sl .n 1 (ml b8 o'.2)))] H') :
    AX Tryd.prog L_head_Split 82 H0.length c_head_Split_l1 K [(4, (.gsl q3 2 s6.length q4)), (5, (.str rest5))] H := by
  refine AX.iter (m := m_head_Split_l1b) rfl (by decide) (fun s e H1 => match s with | (rest5, s6) => ∃ q3 q4 : Nat, e = [(4, (.gsl q3 2 s6.length q4)), (5, (.str rest5))] ∧ Fr H0 H0.length [] H1 ∧ GF 2 H0.length q3 (ml encFieldV s6) q4 H1) h ⟨q3, q4, rfl, hfr, hs_o1⟩ ?_
  skip
  rintro K' ⟨rest5, s6⟩ st e H ⟨q3, q4, rfl, hfr, hs_o1⟩ h hN hB hR hX
  have hle := hfr.le
  rw [head_Split_l1.eq_1] at h
  try simp (disch := first | assumption | omega | (simp only [h_sl, h_al] <;> omega) | fail) only [WW, WH, ↓reduceIte, nA, nB, nC, nD, nE, nF, nG, reduceCtorEq, L_head_Split, m_head_Split_l1b, encFieldV, encL1b8]
  rcases ifb h with ⟨hy2, h⟩ | ⟨hy2, h⟩
  · refine UC_t hy2 ?_
    try simp (disch := first | assumption | omega | (simp only [h_sl, h_al] <;> omega) | fail) only [WW, WH, ↓reduceIte, nA, nB, nC, nD, nE, nF, nG, reduceCtorEq, L_head_Split, encFieldV, encL1b8]
    obtain ⟨⟨r7, r8, r9⟩, hy3, h⟩ := bnd' h
    dsimp only at h
    refine UK_e (as' := [(.str rest5), (.str ([13, 10] : List UInt8))]) (h := strings_Cut_ok (s1 := rest5) (s2 := ([13, 10] : List UInt8))  hy3) (hw := WL.cons (Wx.str) (WL.cons (Wx.str) (WL.nil))) (hh := WxH.refl _) ?_
    try simp (disch := first | assumption | omega | (simp only [h_sl, h_al] <;> omega) | fail) only [WW, WH, ↓reduceIte, nA, nB, nC, nD, nE, nF, nG, reduceCtorEq, L_head_Split, encFieldV, encL1b8]
    obtain ⟨⟨r10, r11, r12⟩, hy4, h⟩ := bnd' h
    dsimp only at h
    refine UK_e (as' := [(.str r7), (.str ([58] : List UInt8))]) (h := strings_Cut_ok (s1 := r7) (s2 := ([58] : List UInt8))  hy4) (hw := WL.cons (Wx.str) (WL.cons (Wx.str) (WL.nil))) (hh := WxH.refl _) ?_
    try simp (disch := first | assumption | omega | (simp only [h_sl, h_al] <;> omega) | fail) only [WW, WH, ↓reduceIte, nA, nB, nC, nD, nE, nF, nG, reduceCtorEq, L_head_Split, encFieldV, encL1b8]
    obtain ⟨t17, hy9, h⟩ := bnd' h
    refine UX_of (AX.weak ?_ (WxH.refl _) (head_Split_p1_ok  (s6 := s6) (r7 := r7) (rest5 := rest5) (r8 := r8) (r10 := r10) (r11 := r11) (r12 := r12) (t16 := t17) (q13 := q3) (q14 := q4) (hfr) hs_o1 hy9 ?_))
    · exact WE.cons (Wx.gslE (by simp)) (WE.cons (Wx.str) (WE.cons (Wx.str) (WE.cons (Wx.str) (WE.cons (Wx.str) (WE.cons (Wx.str) (WE.cons (Wx.bool) (WE.nil)))))))
    intro H hfr hs_o1
    have hle := hfr.le
    try simp (disch := first | assumption | omega | (simp only [h_sl, h_al] <;> omega) | fail) only [WW, WH, ↓reduceIte, nA, nB, nC, nD, nE, nF, nG, reduceCtorEq, L_head_Split, encFieldV, encL1b8]
    rcases ifb h with ⟨hy10, h⟩ | ⟨hy10, h⟩
    · refine UC_t hy10 ?_
      obtain ⟨j18, hy11, h⟩ := bnd' h
      obtain ⟨x19, hy12, h⟩ := bnd' h
      have hy13 := GF.atM (f := encFieldV) (hs_o1) hy12
      have hy14 : (gcs 2 (ml encFieldV s6) q4)[j18 * 2 + 1]? = some (.str x19.value) := gcsM_get (f := encFieldV) (fun _ => ⟨rfl, rfl, rfl, rfl⟩) hy12 (by decide)
      obtain ⟨x20, hy15, h⟩ := bnd' h
      obtain ⟨x21, hy16, h⟩ := bnd' h
      have hy17 := GF.atM (f := encFieldV) (hs_o1) hy12
      have hy19 := GF.geM (f := encFieldV) (hs_o1) hy12
      have hy18 : over (gcs 2 (ml encFieldV s6) q4) (j18 * 2 + 1) [(.str x21)] = some (gcs 2 (ml encFieldV (List.set s6 j18 (FieldV.mk x19.name x21))) q4) := gcsM_over (f := encFieldV) (x' := (FieldV.mk x19.name x21)) (fun _ => ⟨rfl, rfl, rfl, rfl⟩) hy12 (by decide) rfl
      have hy20 := GF.setM (f := encFieldV) (x' := (FieldV.mk x19.name x21)) (hs_o1) hy12
      try simp (disch := first | assumption | omega | (simp only [h_sl, h_al] <;> omega) | fail) only [WW, WH, ↓reduceIte, nA, nB, nC, nD, nE, nF, nG, reduceCtorEq, L_head_Split, hy11, hy13, hy14, hy15, hy16, hy11, hy17, hy18, encFieldV, encL1b8]
      have hq := Option.some.inj h; subst hq
      refine hN _ rfl _ _ _ _ ?_ (WxH.refl _) ⟨q3, q4, rfl, (Fr.set (s := q3) hfr (.inr hy19)), hy20⟩
      exact WE.cons (Wx.gslE (by simp)) (WE.cons (Wx.str) (WE.nil))
    · refine UC_f hy10 ?_
      try simp (disch := first | assumption | omega | (simp only [h_sl, h_al] <;> omega) | fail) only [WW, WH, ↓reduceIte, nA, nB, nC, nD, nE, nF, nG, reduceCtorEq, L_head_Split, encFieldV, encL1b8]
      obtain ⟨t26, hy23, h⟩ := bnd' h
      refine UX_of (AX.weak ?_ (WxH.refl _) (head_Split_p2_ok (F := F) (r12 := r12) (r10 := r10) (s6 := s6) (rest5 := rest5) (r7 := r7) (r8 := r8) (r11 := r11) (t25 := t26) (q22 := q3) (q23 := q4) (hfr) hs_o1 hy23 ?_))
      · exact WE.cons (Wx.gslE (by simp)) (WE.cons (Wx.str) (WE.cons (Wx.str) (WE.cons (Wx.str) (WE.cons (Wx.str) (WE.cons (Wx.str) (WE.cons (Wx.bool) (WE.nil)))))))
      intro H hfr hs_o1
      have hle := hfr.le
      try simp (disch := first | assumption | omega | (simp only [h_sl, h_al] <;> omega) | fail) only [WW, WH, ↓reduceIte, nA, nB, nC, nD, nE, nF, nG, reduceCtorEq, L_head_Split, encFieldV, encL1b8]
      rcases ifb h with ⟨hy24, h⟩ | ⟨hy24, h⟩
      · refine UC_t hy24 ?_
        obtain ⟨x27, hy25, h⟩ := bnd' h
        try simp (disch := first | assumption | omega | (simp only [h_sl, h_al] <;> omega) | fail) only [WW, WH, ↓reduceIte, nA, nB, nC, nD, nE, nF, nG, reduceCtorEq, L_head_Split, encFieldV, encL1b8]
        refine UG_appo (f := encFieldV) (X := s6) (Y := ([(FieldV.mk r10 r11)] : List FieldV)) (n1 := H0.length) (fun _ => ⟨rfl, rfl, rfl, rfl⟩) (by decide) rfl rfl rfl (by simp) hy25 (hs_o1) (by first | assumption | omega | (simp only [h_sl, h_al] <;> omega) | fail) fun q28 q29 H hsg hsm hln hqq => ?_
        have hfr := Fr.grow hfr hsm hln
        have hs_o1 := hsg
        have hle := hfr.le
        try simp (disch := first | assumption | omega | (simp only [h_sl, h_al] <;> omega) | fail) only [WW, WH, ↓reduceIte, nA, nB, nC, nD, nE, nF, nG, reduceCtorEq, L_head_Split, encFieldV, encL1b8]
        have hq := Option.some.inj h; subst hq
        refine hN _ rfl _ _ _ _ ?_ (WxH.refl _) ⟨q28, q29, rfl, hfr, hs_o1⟩
        exact WE.cons (Wx.gslE (by simp)) (WE.cons (Wx.str) (WE.nil))
      · refine UC_f hy24 ?_
        try simp (disch := first | assumption | omega | (simp only [h_sl, h_al] <;> omega) | fail) only [WW, WH, ↓reduceIte, nA, nB, nC, nD, nE, nF, nG, reduceCtorEq, L_head_Split, encFieldV, encL1b8]
        rcases ifb h with ⟨hy26, h⟩ | ⟨hy26, h⟩
        · refine UC_t hy26 ?_
          try simp (disch := first | assumption | omega | (simp only [h_sl, h_al] <;> omega) | fail) only [WW, WH, ↓reduceIte, nA, nB, nC, nD, nE, nF, nG, reduceCtorEq, L_head_Split, encFieldV, encL1b8]
          refine UX_of ?_
          apply AX.layG (n1 := H0.length) (by decide) (EK.ml (f := encFieldV) (fun _ => ⟨rfl, rfl, rfl, rfl⟩) s6) (hs_o1)
          · repeat (first | exact FG.nil | apply FG.lay _ _ _ _ (len_ml _ _).symm | apply FG.same)
          intro H hsm hln
          have hfr := Fr.lay hfr hsm hln
          have hle := hfr.le
          refine UX_of (AX.weak ?_ (WxH.refl _) (head_Split_p3_ok (s6 := s6) (r8 := r8) (hfr) ?_))
          · exact WE.cons (Wx.nn) (WE.cons (Wx.str) (WE.nil))
          intro H hfr 
          have hle := hfr.le
          try simp (disch := first | assumption | omega | (simp only [h_sl, h_al] <;> omega) | fail) only [WW, WH, ↓reduceIte, nA, nB, nC, nD, nE, nF, nG, reduceCtorEq, L_head_Split, encFieldV, encL1b8]
          have hq := Option.some.inj h; subst hq
          refine hX _ _ _ _ _ (by simp) ?_ (WxH.refl _) (kr _ (hR _ rfl) _ hfr)
          exact WE.cons (Wx.nn) (WE.cons (Wx.n) (WE.nil))
        · refine UC_f hy26 ?_
          try simp (disch := first | assumption | omega | (simp only [h_sl, h_al] <;> omega) | fail) only [WW, WH, ↓reduceIte, nA, nB, nC, nD, nE, nF, nG, reduceCtorEq, L_head_Split, encFieldV, encL1b8]
          refine UX_of ?_
          apply AX.layG (n1 := H0.length) (by decide) (EK.ml (f := encFieldV) (fun _ => ⟨rfl, rfl, rfl, rfl⟩) s6) (hs_o1)
          · repeat (first | exact FG.nil | apply FG.lay _ _ _ _ (len_ml _ _).symm | apply FG.same)
          intro H hsm hln
          have hfr := Fr.lay hfr hsm hln
          have hle := hfr.le
          refine UX_of (AX.weak ?_ (WxH.refl _) (head_Split_p4_ok (s6 := s6) (rest5 := rest5) (hfr) ?_))
          · exact WE.cons (Wx.nn) (WE.cons (Wx.str) (WE.nil))
          intro H hfr 
          have hle := hfr.le
          try simp (disch := first | assumption | omega | (simp only [h_sl, h_al] <;> omega) | fail) only [WW, WH, ↓reduceIte, nA, nB, nC, nD, nE, nF, nG, reduceCtorEq, L_head_Split, encFieldV, encL1b8]
          have hq := Option.some.inj h; subst hq
          refine hX _ _ _ _ _ (by simp) ?_ (WxH.refl _) (kr _ (hR _ rfl) _ hfr)
          exact WE.cons (Wx.nn) (WE.cons (Wx.n) (WE.nil))
  · refine UC_f hy2 ?_
    try simp (disch := first | assumption | omega | (simp only [h_sl, h_al] <;> omega) | fail) only [WW, WH, ↓reduceIte, nA, nB, nC, nD, nE, nF, nG, reduceCtorEq, L_head_Split, encFieldV, encL1b8]
    have hq := Option.some.inj h; subst hq
    refine hX _ _ _ _ _ (by simp) ?_ (WxH.refl _) (kb0 _ (hB _ rfl) _ q3 q4 hfr hs_o1)
    exact WE.cons (Wx.gslE (by simp)) (WE.nil)
theorem head_Split_p5_ok {s35 : List FieldV} {H0 H : AH} (hfr : Fr H0 H0.length [] H) {K : Exit → Env → AH → Prop}
    (kn : ∀ H' : AH, Fr H0 H0.length [] H' → K .normal [(2, (.sl .n 2 (ml encFieldV s35))), (3, (.sl .ex 1 []))] H') :
    AX Tryd.prog L_head_Split 82 H0.length c_head_Split_p5 K [(4, (.sl .n 2 (ml encFieldV s35)))] H := by
  refine AX.go (m := m_head_Split_p5) rfl (by decide) fun K' hK => ?_
  have hle := hfr.le
  try simp (disch := first | assumption | omega | (simp only [h_sl, h_al] <;> omega) | fail) only [WW, WH, ↓reduceIte, nA, nB, nC, nD, nE, nF, nG, reduceCtorEq, L_head_Split, m_head_Split_p5, c_head_Split_p5, encFieldV, encL1b8]
  refine hK _ _ _ _ _ ?_ (WxH.refl _) (kn _ hfr)
  exact WE.cons (Wx.nn) (WE.cons (Wx.ex) (WE.nil))
theorem head_Split_ok {F : Nat} {b1 : List UInt8}  {H0 : AH}  {rz0 : List FieldV} {rz1 : List UInt8} (h : head_Split F b1 = some (rz0, rz1)) :
    ACalls Tryd.prog 18 [(.sl .n 1 (ml b8 b1))] H0 fun v H' => v = (.tup [(.sl .n 2 (ml encFieldV rz0)), (.sl .n 1 (ml b8 rz1))]) ∧ H' = H0 := by
  refine ACalls.goX k_head_Split (m := m_head_Split) rfl L_head_Split (by decide) (by simp) fun hcl K0 hK0 => ?_
  refine AX.of_U (m := m_head_Split) rfl (by decide) ?_
  have hfr := Fr.refl H0 []
  have hle := hfr.le
  rw [head_Split.eq_1] at h
  obtain ⟨H, hHH⟩ : ∃ H, H = H0 := ⟨_, rfl⟩
  have hfr : Fr H0 H0.length [] H := hHH ▸ hfr
  have hle := hfr.le
  suffices hU : U Tryd.prog L_head_Split 82 H0.length [.code m_head_Split] K0 .normal (argE 0 [(.sl .n 1 (ml b8 b1))]) H by rwa [hHH] at hU
  try simp (disch := first | assumption | omega | (simp only [h_sl, h_al] <;> omega) | fail) only [WW, WH, ↓reduceIte, nA, nB, nC, nD, nE, nF, nG, reduceCtorEq, L_head_Split, m_head_Split, encFieldV, encL1b8]
  obtain ⟨r2, hy1, h⟩ := bnd' h
  refine UK_e (as' := [(.sl .n 1 (ml b8 b1))]) (h := dot_Whole_ok (b1 := b1) (F := F)  hy1) (hw := WL.cons (Wx.nn) (WL.nil)) (hh := WxH.refl _) ?_
  try simp (disch := first | assumption | omega | (simp only [h_sl, h_al] <;> omega) | fail) only [WW, WH, ↓reduceIte, nA, nB, nC, nD, nE, nF, nG, reduceCtorEq, L_head_Split, encFieldV, encL1b8]
  obtain ⟨o42, hy27, h⟩ := bnd' h
  refine UX_of (AX.weak ?_ (WxH.refl _) (head_Split_l1_ok   (rest5 := r2) (s6 := ([] : List FieldV)) (q3 := 0) (q4 := 0) (hfr) GF.nil (o := o42) hy27 ?_ ?_))
  · exact WE.cons (Wx.gslE (by simp)) (WE.cons (Wx.str) (WE.nil))
  · rintro s35 rfl H q36 q37 hfr hs_o1
    try dsimp only at h hs_o1
    have hle := hfr.le
    try simp (disch := first | assumption | omega | (simp only [h_sl, h_al] <;> omega) | fail) only [WW, WH, ↓reduceIte, nA, nB, nC, nD, nE, nF, nG, reduceCtorEq, L_head_Split, encFieldV, encL1b8]
    refine UX_of ?_
    apply AX.layG (n1 := H0.length) (by decide) (EK.ml (f := encFieldV) (fun _ => ⟨rfl, rfl, rfl, rfl⟩) s35) (hs_o1)
    · repeat (first | exact FG.nil | apply FG.lay _ _ _ _ (len_ml _ _).symm | apply FG.same)
    intro H hsm hln
    have hfr := Fr.lay hfr hsm hln
    have hle := hfr.le
    refine UX_of (AX.weak ?_ (WxH.refl _) (head_Split_p5_ok (s35 := s35) (hfr) ?_))
    · exact WE.cons (Wx.nn) (WE.nil)
    intro H hfr 
    have hle := hfr.le
    try simp (disch := first | assumption | omega | (simp only [h_sl, h_al] <;> omega) | fail) only [WW, WH, ↓reduceIte, nA, nB, nC, nD, nE, nF, nG, reduceCtorEq, L_head_Split, encFieldV, encL1b8]
    have hq := Option.some.inj h; have hq0 := (Prod.mk.inj hq).1; replace hq := (Prod.mk.inj hq).2; subst hq0; subst hq
    refine hK0 _ _ _ (.inr rfl) ?_
    exact fn_end0 (by exact hfr) hcl (resv_tmp (a := (.sl .n 2 (ml encFieldV s35))) rfl rfl (resv_tmp (a := (.sl .ex 1 [])) rfl rfl resv_nil)) (by first | (simp [fin, b_df, b_sh, b_sh1, b_Cl]; done) | (simp [fin, AV.df, AV.sh, AV.sh1, b_df, b_sh, b_sh1, b_Cl]; done)) (Wx.tupX (W2L.same (W2L.n (W2L.nil)))) (r' := (.tup [(.sl .n 2 (ml encFieldV s35)), (.sl .n 1 (ml b8 ([] : List UInt8)))])) ⟨rfl, rfl⟩
  · rintro ⟨r38, r39⟩ rfl H hfr
    try dsimp only at h 
    have hle := hfr.le
    try simp (disch := first | assumption | omega | (simp only [h_sl, h_al] <;> omega) | fail) only [WW, WH, ↓reduceIte, nA, nB, nC, nD, nE, nF, nG, reduceCtorEq, L_head_Split, encFieldV, encL1b8]
    have hq := Option.some.inj h; have hq0 := (Prod.mk.inj hq).1; replace hq := (Prod.mk.inj hq).2; subst hq0; subst hq
    refine hK0 _ _ _ (.inr rfl) ?_
    exact fn_end0 (by exact hfr) hcl (resv_tmp (a := (.sl .n 2 (ml encFieldV r38))) rfl rfl (resv_tmp (a := (.sl .n 1 (ml b8 r39))) rfl rfl resv_nil)) (by first | (simp [fin, b_df, b_sh, b_sh1, b_Cl]; done) | (simp [fin, AV.df, AV.sh, AV.sh1, b_df, b_sh, b_sh1, b_Cl]; done)) (Wx.tupX (W2L.same (W2L.same (W2L.nil)))) (r' := (.tup [(.sl .n 2 (ml encFieldV r38)), (.sl .n 1 (ml b8 r39))])) ⟨rfl, rfl⟩

/-! ### mailbag/addr.Lower -/
def c_addr_Lower_p1 : ACode := (.rg [⟨(some 15), (.mv (.t 5)), none⟩, ⟨(some 16), (.bin .geq (.t 15) (.c (b8 65))), none⟩, ⟨(some 17), (.mv (.t 16)), none⟩, ⟨(some 18), (.mv (.t 5)), (some (17, true))⟩, ⟨(some 19), (.bin .leq (.t 18) (.c (b8 90))), (some (17, true))⟩, ⟨(some 20), (.pick (.t 17) (.t 19) (.c (.bool false))), none⟩])
abbrev m_addr_Lower_p1 := c_addr_Lower_p1
def c_addr_Lower_l1b : ACode := (.seq (.rg [⟨(some 11), (.bin .lss (.t 10) (.t 9)), none⟩]) (.seq (.cond (.t 11) .skip (.exit 0)) (.seq (.blk 1 (.seq (.rg [⟨(some 12), (.mv (.t 10)), none⟩, ⟨(some 13), (.ixa 1 (.t 8) (.t 10)), none⟩, ⟨(some 14), (.ld (.t 13) none), none⟩, ⟨(some 4), (.asg (.t 12)), none⟩, ⟨(some 5), (.asg (.t 14)), none⟩]) (.seq c_addr_Lower_p1 (.cond (.t 20) (.rg [⟨(some 21), (.mv (.t 3)), none⟩, ⟨(some 22), (.mv (.t 4)), none⟩, ⟨(some 23), (.ixa 1 (.t 21) (.t 22)), none⟩, ⟨(some 24), (.ld (.t 23) none), none⟩, ⟨(some 25), (.bin .or (.t 24) (.c (b8 32))), none⟩, ⟨(some 26), (.ixa 1 (.t 21) (.t 22)), none⟩, ⟨none, (.st (.t 26) (.t 25) 1), none⟩]) .skip)))) (.rg [⟨(some 27), (.bin .add (.t 10) (.c (.int .i64 1))), none⟩, ⟨(some 10), (.mv (.t 27)), none⟩]))))
def c_addr_Lower_l1 : ACode := (.loop c_addr_Lower_l1b)
def m_addr_Lower_l1b : ACode := (.seq (.rg [⟨(some 11), (.bin .lss (.t 10) (.t 9)), none⟩]) (.seq (.cond (.t 11) .skip (.exit 0)) (.seq (.blk 1 (.seq (.rg [⟨(some 12), (.mv (.t 10)), none⟩, ⟨(some 13), (.ixa 1 (.t 8) (.t 10)), none⟩, ⟨(some 14), (.ld (.t 13) none), none⟩, ⟨(some 4), (.asg (.t 12)), none⟩, ⟨(some 5), (.asg (.t 14)), none⟩]) (.seq (.sem c_addr_Lower_p1) (.cond (.t 20) (.rg [⟨(some 21), (.mv (.t 3)), none⟩, ⟨(some 22), (.mv (.t 4)), none⟩, ⟨(some 23), (.ixa 1 (.t 21) (.t 22)), none⟩, ⟨(some 24), (.ld (.t 23) none), none⟩, ⟨(some 25), (.bin .or (.t 24) (.c (b8 32))), none⟩, ⟨(some 26), (.ixa 1 (.t 21) (.t 22)), none⟩, ⟨none, (.st (.t 26) (.t 25) 1), none⟩]) .skip)))) (.rg [⟨(some 27), (.bin .add (.t 10) (.c (.int .i64 1))), none⟩, ⟨(some 10), (.mv (.t 27)), none⟩]))))
def c_addr_Lower : ACode := (.seq (.rg [⟨(some 2), (.asg (.c (.str []))), none⟩]) (.seq (.rg [⟨(some 6), (.mv (.t 0)), none⟩, ⟨(some 7), (.cvt .sb (.t 6)), none⟩, ⟨(some 3), (.asg (.t 7)), none⟩]) (.seq (.seq (.rg [⟨(some 8), (.mv (.t 3)), none⟩, ⟨(some 9), (.len (.t 8)), none⟩, ⟨(some 10), (.mv (.c (.int .i64 0))), none⟩]) (.blk 0 c_addr_Lower_l1)) (.seq (.rg [⟨(some 28), (.mv (.t 3)), none⟩, ⟨(some 29), (.cvt .bs (.t 28)), none⟩, ⟨(some 2), (.asg (.t 29)), none⟩]) .ret))))
def m_addr_Lower : ACode := (.seq (.rg [⟨(some 2), (.asg (.c (.str []))), none⟩]) (.seq (.rg [⟨(some 6), (.mv (.t 0)), none⟩, ⟨(some 7), (.cvto (.t 6)), none⟩, ⟨(some 3), (.asg (.t 7)), none⟩]) (.seq (.seq (.rg [⟨(some 8), (.mv (.t 3)), none⟩, ⟨(some 9), (.len (.t 8)), none⟩, ⟨(some 10), (.mv (.c (.int .i64 0))), none⟩]) (.blk 0 c_addr_Lower_l1)) (.seq (.rg [⟨(some 28), (.mv (.t 3)), none⟩, ⟨(some 29), (.cvt .bs (.t 28)), none⟩, ⟨(some 2), (.asg (.t 29)), none⟩]) .ret))))
theorem k_addr_Lower : FnOk Tryd.prog 41 30 [(.tmp 2)] c_addr_Lower := ⟨Tryd.f41, _, rfl, by decide, rfl, by kernel_rfl, rfl, rfl⟩
abbrev L_addr_Lower : List Nat := [0, 2, 3, 4, 5, 8, 9, 10, 11, 20]
def addr_Lower_l1 (s1 : List UInt8) : (Int × (List UInt8)) → Option (St (List UInt8) (List UInt8) (Int × (List UInt8)))
  | (t3, s4) =>
    (if (decide (t3 < (s1.length : Int))) then
      (ixm s1.length t3).bind fun j5 =>
      (s4[j5]?).bind fun x6 =>
      (if ((decide (65 ≤ x6)) && (decide (x6 ≤ 90))) then
        (setx s4 j5 (x6 ||| 32)).bind fun s8 => some (.nxt ((IntKind.wrap .i64 (t3 + 1)), s8))
      else
        some (.nxt ((IntKind.wrap .i64 (t3 + 1)), s4)))
    else
      some (.brk s4))
def addr_Lower (F : Nat) (s1 : List UInt8) : Option ((List UInt8)) :=
  ((iter (addr_Lower_l1 s1) F (0, s1)).bind fun o12 =>
  match o12 with
  | .inr s10 =>
    (sub s10 0 (s1.length : Int)).bind fun x11 => some x11
  | .inl _ => none)
theorem addr_Lower_p1_ok {q7 : Nat} {s1 : List UInt8} {t3 : Int} {x6 : UInt8} {s4 : List UInt8} {H0 H : AH} (hfr : Fr H0 H0.length [] H) (hs_o1 : H[q7]? = some (ml b8 s4)) (hi0 : H0.length ≤ q7) {K : Exit → Env → AH → Prop}
    (kn : ∀ H' : AH, Fr H0 H0.length [] H' → H'[q7]? = some (ml b8 s4) → K .normal [(3, (.msl q7 1 0 s1.length)), (4, (.int .i64 t3)), (8, (.msl q7 1 0 s1.length)), (9, (.int .i64 (s1.length : Int))), (10, (.int .i64 t3)), (20, (.bool ((decide (65 ≤ x6)) && (decide (x6 ≤ 90)))))] H') :
    AX Tryd.prog L_addr_Lower 30 H0.length c_addr_Lower_p1 K [(3, (.msl q7 1 0 s1.length)), (4, (.int .i64 t3)), (5, (b8 x6)), (8, (.msl q7 1 0 s1.length)), (9, (.int .i64 (s1.length : Int))), (10, (.int .i64 t3))] H := by
  refine AX.go (m := m_addr_Lower_p1) rfl (by decide) fun K' hK => ?_
  have hle := hfr.le
  have hl_o1 := h_lt hs_o1
  try simp (disch := first | assumption | omega | (simp only [h_sl, h_al] <;> omega) | fail) only [WW, WH, ↓reduceIte, nA, nB, nC, nD, nE, nF, nG, reduceCtorEq, L_addr_Lower, m_addr_Lower_p1, c_addr_Lower_p1, hs_o1, encFieldV, encL1b8]
  rcases bcases ((decide (65 ≤ x6))) with hy4 | hy4
  · refine UG_go hy4 ?_
    try simp (disch := first | assumption | omega | (simp only [h_sl, h_al] <;> omega) | fail) only [WW, WH, ↓reduceIte, nA, nB, nC, nD, nE, nF, nG, reduceCtorEq, L_addr_Lower, hy4, hs_o1, encFieldV, encL1b8]
    refine hK _ _ _ _ _ ?_ (WxH.refl _) (kn _ hfr ((hs_o1).trans rfl))
    exact WE.cons (Wx.msl) (WE.cons (Wx.int) (WE.cons (Wx.msl) (WE.cons (Wx.int) (WE.cons (Wx.int) (WE.cons (Wx.boolE (by simp only [hy4, WB])) (WE.nil))))))
  · refine UG_nt hy4 ?_
    try simp (disch := first | assumption | omega | (simp only [h_sl, h_al] <;> omega) | fail) only [WW, WH, ↓reduceIte, nA, nB, nC, nD, nE, nF, nG, reduceCtorEq, L_addr_Lower, hy4, hs_o1, encFieldV, encL1b8]
    refine hK _ _ _ _ _ ?_ (WxH.refl _) (kn _ hfr ((hs_o1).trans rfl))
    exact WE.cons (Wx.msl) (WE.cons (Wx.int) (WE.cons (Wx.msl) (WE.cons (Wx.int) (WE.cons (Wx.int) (WE.cons (Wx.boolE (by simp only [hy4, WB])) (WE.nil))))))
theorem addr_Lower_l1_ok {F : Nat} {t3 : Int} {s1 : List UInt8} {s4 : List UInt8} {q2 : Nat} {H0 H : AH} (hfr : Fr H0 H0.length [] H) (hs_o1 : H[q2]? = some (ml b8 s4)) (hi0 : H0.length ≤ q2) {K : Exit → Env → AH → Prop} {o : ((List UInt8)) ⊕ ((List UInt8))}
    (h : iter (addr_Lower_l1 s1) F (t3, s4) = some o)
    (kb0 : ∀ o' : (List UInt8), o = .inr o' → ∀ H' : AH, Fr H0 H0.length [] H' → H'[q2]? = some (ml b8 o') → K (.exit 0) [(3, (.msl q2 1 0 s1.length))] H') :
    AX Tryd.prog L_addr_Lower 30 H0.length c_addr_Lower_l1 K [(3, (.msl q2 1 0 s1.length)), (8, (.msl q2 1 0 s1.length)), (9, (.int .i64 (s1.length : Int))), (10, (.int .i64 t3))] H := by
  refine AX.iter (m := m_addr_Lower_l1b) rfl (by decide) (fun s e H1 => match s with | (t3, s4) => e = [(3, (.msl q2 1 0 s1.length)), (8, (.msl q2 1 0 s1.length)), (9, (.int .i64 (s1.length : Int))), (10, (.int .i64 t3))] ∧ Fr H0 H0.length [] H1 ∧ H1[q2]? = some (ml b8 s4)) h ⟨rfl, hfr, hs_o1⟩ ?_
  skip
  rintro K' ⟨t3, s4⟩ st e H ⟨rfl, hfr, hs_o1⟩ h hN hB hR hX
  have hle := hfr.le
  have hl_o1 := h_lt hs_o1
  rw [addr_Lower_l1.eq_1] at h
  try simp (disch := first | assumption | omega | (simp only [h_sl, h_al] <;> omega) | fail) only [WW, WH, ↓reduceIte, nA, nB, nC, nD, nE, nF, nG, reduceCtorEq, L_addr_Lower, m_addr_Lower_l1b, hs_o1, encFieldV, encL1b8]
  rcases ifb h with ⟨hy1, h⟩ | ⟨hy1, h⟩
  · refine UC_t hy1 ?_
    obtain ⟨j5, hy2, h⟩ := bnd' h
    obtain ⟨x6, hy3, h⟩ := bnd' h
    try simp (disch := first | assumption | omega | (simp only [h_sl, h_al] <;> omega) | fail) only [WW, WH, ↓reduceIte, nA, nB, nC, nD, nE, nF, nG, reduceCtorEq, L_addr_Lower, hy2, hy3, hs_o1, encFieldV, encL1b8]
    refine UX_of (AX.weak ?_ (WxH.refl _) (addr_Lower_p1_ok (q7 := q2) (s1 := s1) (t3 := t3) (x6 := x6) (s4 := s4) (hfr) ((hs_o1).trans rfl) (by first | assumption | omega | (simp only [h_sl, h_al] <;> omega) | fail) ?_))
    · exact WE.cons (Wx.msl) (WE.cons (Wx.int) (WE.cons (Wx.b8) (WE.cons (Wx.msl) (WE.cons (Wx.int) (WE.cons (Wx.int) (WE.nil))))))
    intro H hfr hs_o1
    have hle := hfr.le
    have hl_o1 := h_lt hs_o1
    try simp (disch := first | assumption | omega | (simp only [h_sl, h_al] <;> omega) | fail) only [WW, WH, ↓reduceIte, nA, nB, nC, nD, nE, nF, nG, reduceCtorEq, L_addr_Lower, hs_o1, encFieldV, encL1b8]
    rcases ifb h with ⟨hy5, h⟩ | ⟨hy5, h⟩
    · refine UC_t hy5 ?_
      obtain ⟨s8, hy6, h⟩ := bnd' h
      try simp (disch := first | assumption | omega | (simp only [h_sl, h_al] <;> omega) | fail) only [WW, WH, ↓reduceIte, nA, nB, nC, nD, nE, nF, nG, reduceCtorEq, L_addr_Lower, hy2, hy3, hy2, hy6, hs_o1, encFieldV, encL1b8]
      have hq := Option.some.inj h; subst hq
      refine hN _ rfl _ _ _ _ ?_ (WxH.refl _) ⟨rfl, (Fr.set (s := q2) hfr (.inr (by first | assumption | omega | (simp only [h_sl, h_al] <;> omega) | fail))), ((h_eq (by first | assumption | omega | (simp only [h_sl, h_al] <;> omega) | fail)).trans rfl)⟩
      exact WE.cons (Wx.msl) (WE.cons (Wx.msl) (WE.cons (Wx.int) (WE.cons (Wx.int) (WE.nil))))
    · refine UC_f hy5 ?_
      try simp (disch := first | assumption | omega | (simp only [h_sl, h_al] <;> omega) | fail) only [WW, WH, ↓reduceIte, nA, nB, nC, nD, nE, nF, nG, reduceCtorEq, L_addr_Lower, hs_o1, encFieldV, encL1b8]
      have hq := Option.some.inj h; subst hq
      refine hN _ rfl _ _ _ _ ?_ (WxH.refl _) ⟨rfl, hfr, ((hs_o1).trans rfl)⟩
      exact WE.cons (Wx.msl) (WE.cons (Wx.msl) (WE.cons (Wx.int) (WE.cons (Wx.int) (WE.nil))))
  · refine UC_f hy1 ?_
    try simp (disch := first | assumption | omega | (simp only [h_sl, h_al] <;> omega) | fail) only [WW, WH, ↓reduceIte, nA, nB, nC, nD, nE, nF, nG, reduceCtorEq, L_addr_Lower, hs_o1, encFieldV, encL1b8]
    have hq := Option.some.inj h; subst hq
    refine hX _ _ _ _ _ (by simp) ?_ (WxH.refl _) (kb0 _ (hB _ rfl) _ hfr ((hs_o1).trans rfl))
    exact WE.cons (Wx.msl) (WE.nil)
theorem addr_Lower_ok {F : Nat} {s1 : List UInt8}  {H0 : AH}  {rz0 : List UInt8} (h : addr_Lower F s1 = some rz0) :
    ACalls Tryd.prog 41 [(.str s1)] H0 fun v H' => v = (.str rz0) ∧ H' = H0 := by
  refine ACalls.goX k_addr_Lower (m := m_addr_Lower) rfl L_addr_Lower (by decide) (by simp) fun hcl K0 hK0 => ?_
  refine AX.of_U (m := m_addr_Lower) rfl (by decide) ?_
  have hfr := Fr.refl H0 []
  have hle := hfr.le
  rw [addr_Lower.eq_1] at h
  obtain ⟨H, hHH⟩ : ∃ H, H = H0 := ⟨_, rfl⟩
  have hfr : Fr H0 H0.length [] H := hHH ▸ hfr
  have hle := hfr.le
  suffices hU : U Tryd.prog L_addr_Lower 30 H0.length [.code m_addr_Lower] K0 .normal (argE 0 [(.str s1)]) H by rwa [hHH] at hU
  try simp (disch := first | assumption | omega | (simp only [h_sl, h_al] <;> omega) | fail) only [WW, WH, ↓reduceIte, nA, nB, nC, nD, nE, nF, nG, reduceCtorEq, L_addr_Lower, m_addr_Lower, encFieldV, encL1b8]
  obtain ⟨q2, hg_q2⟩ : ∃ q : Nat, H.length = q := ⟨_, rfl⟩
  try rw [hg_q2]
  obtain ⟨o12, hy7, h⟩ := bnd' h
  refine UX_of (AX.weak ?_ (WxH.refl _) (addr_Lower_l1_ok  (s1 := s1) (t3 := 0) (s4 := s1) (q2 := q2) ((Fr.app hfr)) ((h_new' (by first | assumption | omega | (simp only [h_sl, h_al] <;> omega) | fail)).trans rfl) (by first | assumption | omega | (simp only [h_sl, h_al] <;> omega) | fail) (o := o12) hy7 ?_))
  · exact WE.cons (Wx.msl) (WE.cons (Wx.msl) (WE.cons (Wx.int) (WE.cons (Wx.int) (WE.nil))))
  · rintro s10 rfl H hfr hs_o1
    try dsimp only at h hs_o1
    have hle := hfr.le
    have hl_o1 := h_lt hs_o1
    obtain ⟨x11, hy8, h⟩ := bnd' h
    try simp (disch := first | assumption | omega | (simp only [h_sl, h_al] <;> omega) | fail) only [WW, WH, ↓reduceIte, nA, nB, nC, nD, nE, nF, nG, reduceCtorEq, L_addr_Lower, hy8, hs_o1, encFieldV, encL1b8]
    have hq := Option.some.inj h; subst hq
    refine hK0 _ _ _ (.inr rfl) ?_
    exact fn_end0 (by exact hfr) hcl (resv_tmp (a := (.str x11)) rfl rfl resv_nil) (by first | (simp [fin, b_df, b_sh, b_sh1, b_Cl]; done) | (simp [fin, AV.df, AV.sh, AV.sh1, b_df, b_sh, b_sh1, b_Cl]; done)) (Wx.str) (r' := (.str x11)) ⟨rfl, rfl⟩

/-! ### mailbag/head.Get -/
def c_head_Get_l1b : ACode := (.seq (.rg [⟨(some 13), (.bin .lss (.t 12) (.t 11)), none⟩]) (.seq (.cond (.t 13) .skip (.exit 0)) (.seq (.blk 1 (.seq (.rg [⟨(some 14), (.ixa 2 (.t 10) (.t 12)), none⟩, ⟨(some 15), (.ld (.t 14) (some 2)), none⟩, ⟨(some 9), (.alloc [(.str []), (.str [])]), none⟩, ⟨none, (.st (.t 9) (.t 15) 2), none⟩]) (.seq (.seq (.rg [⟨(some 16), (.fld (.t 9) 0), none⟩, ⟨(some 17), (.ld (.t 16) none), none⟩, ⟨(some 18), (.call (.c (.fn 41 [])) [(.t 17)]), none⟩, ⟨(some 19), (.mv (.t 1)), none⟩, ⟨(some 20), (.call (.c (.fn 41 [])) [(.t 19)]), none⟩, ⟨(some 21), (.bin .neq (.t 18) (.t 20)), none⟩]) (.cond (.t 21) (.exit 1) .skip)) (.seq (.rg [⟨(some 22), (.mv (.t 7)), none⟩, ⟨(some 23), (.bin .add (.t 22) (.c (.int .i64 1))), none⟩, ⟨(some 7), (.asg (.t 23)), none⟩]) (.seq (.rg [⟨(some 24), (.mv (.t 7)), none⟩, ⟨(some 25), (.bin .eql (.t 24) (.c (.int .i64 1))), none⟩]) (.cond (.t 25) (.rg [⟨(some 26), (.fld (.t 9) 1), none⟩, ⟨(some 27), (.ld (.t 26) none), none⟩, ⟨(some 6), (.asg (.t 27)), none⟩]) .skip)))))) (.rg [⟨(some 28), (.bin .add (.t 12) (.c (.int .i64 1))), none⟩, ⟨(some 12), (.mv (.t 28)), none⟩]))))
def c_head_Get_l1 : ACode := (.loop c_head_Get_l1b)
abbrev m_head_Get_l1b := c_head_Get_l1b
def c_head_Get : ACode := (.seq (.rg [⟨(some 4), (.asg (.c (.str []))), none⟩, ⟨(some 5), (.asg (.c (.int .i64 0))), none⟩]) (.seq (.rg [⟨(some 6), (.asg (.c (.str []))), none⟩, ⟨(some 7), (.asg (.c (.int .i64 0))), none⟩]) (.seq (.seq (.rg [⟨(some 10), (.mv (.t 0)), none⟩, ⟨(some 11), (.len (.t 10)), none⟩, ⟨(some 12), (.mv (.c (.int .i64 0))), none⟩]) (.blk 0 c_head_Get_l1)) (.seq (.rg [⟨(some 29), (.mv (.t 6)), none⟩, ⟨(some 30), (.mv (.t 7)), none⟩, ⟨(some 4), (.asg (.t 29)), none⟩, ⟨(some 5), (.asg (.t 30)), none⟩]) .ret))))
abbrev m_head_Get := c_head_Get
theorem k_head_Get : FnOk Tryd.prog 19 31 [(.tmp 4), (.tmp 5)] c_head_Get := ⟨Tryd.f19, _, rfl, by decide, rfl, by kernel_rfl, rfl, rfl⟩
abbrev L_head_Get : List Nat := [0, 1, 4, 5, 6, 7, 9, 10, 11, 12, 13, 21, 25]
def head_Get_l1 (F : Nat) (l1 : List FieldV) (name2 : List UInt8) : ((List UInt8) × Int × Int) → Option (St ((List UInt8) × Int) ((List UInt8) × Int) ((List UInt8) × Int × Int))
  | (out3, nn4, t5) =>
    (if (decide (t5 < (l1.length : Int))) then
      (idx l1 t5).bind fun x6 =>
      (addr_Lower F x6.name).bind fun r7 =>
      (addr_Lower F name2).bind fun r8 =>
      (if (!decide (r7 = r8)) then
        some (.nxt (out3, nn4, (IntKind.wrap .i64 (t5 + 1))))
      else
        (if (decide ((IntKind.wrap .i64 (nn4 + 1)) = 1)) then
          some (.nxt (x6.value, (IntKind.wrap .i64 (nn4 + 1)), (IntKind.wrap .i64 (t5 + 1))))
        else
          some (.nxt (out3, (IntKind.wrap .i64 (nn4 + 1)), (IntKind.wrap .i64 (t5 + 1))))))
    else
      some (.brk (out3, nn4)))
def head_Get (F : Nat) (l1 : List FieldV) (name2 : List UInt8) : Option ((List UInt8) × Int) :=
  ((iter (head_Get_l1 F l1 name2) F (([] : List UInt8), 0, 0)).bind fun o13 =>
  match o13 with
  | .inr (out11, nn12) =>
    some (out11, nn12)
  | .inl _ => none)
theorem head_Get_l1_ok {F : Nat} {t5 : Int} {l1 : List FieldV} {name2 : List UInt8} {out3 : List UInt8} {nn4 : Int} {H0 H : AH} (hfr : Fr H0 H0.length [] H) {K : Exit → Env → AH → Prop} {o : ((List UInt8) × Int) ⊕ ((List UInt8) × Int)}
    (h : iter (head_Get_l1 F l1 name2) F (out3, nn4, t5) = some o)
    (kb0 : ∀ o' : (List UInt8) × Int, o = .inr o' → ∀ H' : AH, Fr H0 H0.length [] H' → K (.exit 0) [(6, (.str o'.1)), (7, (.int .i64 o'.2))] H') :
    AX Tryd.prog L_head_Get 31 H0.length c_head_Get_l1 K [(1, (.str name2)), (6, (.str out3)), (7, (.int .i64 nn4)), (10, (.sl .n 2 (ml encFieldV l1))), (11, (.int .i64 (l1.length : Int))), (12, (.int .i64 t5))] H := by
  refine AX.iter (m := m_head_Get_l1b) rfl (by decide) (fun s e H1 => match s with | (out3, nn4, t5) => e = [(1, (.str name2)), (6, (.str out3)), (7, (.int .i64 nn4)), (10, (.sl .n 2 (ml encFieldV l1))), (11, (.int .i64 (l1.length : Int))), (12, (.int .i64 t5))] ∧ Fr H0 H0.length [] H1) h ⟨rfl, hfr⟩ ?_
  skip
  rintro K' ⟨out3, nn4, t5⟩ st e H ⟨rfl, hfr⟩ h hN hB hR hX
  have hle := hfr.le
  rw [head_Get_l1.eq_1] at h
  try simp (disch := first | assumption | omega | (simp only [h_sl, h_al] <;> omega) | fail) only [WW, WH, ↓reduceIte, nA, nB, nC, nD, nE, nF, nG, reduceCtorEq, L_head_Get, m_head_Get_l1b, c_head_Get_l1b, encFieldV, encL1b8]
  rcases ifb h with ⟨hy1, h⟩ | ⟨hy1, h⟩
  · refine UC_t hy1 ?_
    obtain ⟨x6, hy2, h⟩ := bnd' h
    try simp (disch := first | assumption | omega | (simp only [h_sl, h_al] <;> omega) | fail) only [WW, WH, ↓reduceIte, nA, nB, nC, nD, nE, nF, nG, reduceCtorEq, L_head_Get, hy2, encFieldV, encL1b8]
    obtain ⟨r7, hy3, h⟩ := bnd' h
    refine UK_e (as' := [(.str x6.name)]) (h := addr_Lower_ok (s1 := x6.name) (F := F)  hy3) (hw := WL.cons (Wx.str) (WL.nil)) (hh := WxH.refl _) ?_
    try simp (disch := first | assumption | omega | (simp only [h_sl, h_al] <;> omega) | fail) only [WW, WH, ↓reduceIte, nA, nB, nC, nD, nE, nF, nG, reduceCtorEq, L_head_Get, encFieldV, encL1b8]
    obtain ⟨r8, hy4, h⟩ := bnd' h
    refine UK_e (as' := [(.str name2)]) (h := addr_Lower_ok (s1 := name2) (F := F)  hy4) (hw := WL.cons (Wx.str) (WL.nil)) (hh := WxH.refl _) ?_
    try simp (disch := first | assumption | omega | (simp only [h_sl, h_al] <;> omega) | fail) only [WW, WH, ↓reduceIte, nA, nB, nC, nD, nE, nF, nG, reduceCtorEq, L_head_Get, encFieldV, encL1b8]
    rcases ifb h with ⟨hy5, h⟩ | ⟨hy5, h⟩
    · refine UC_t hy5 ?_
      try simp (disch := first | assumption | omega | (simp only [h_sl, h_al] <;> omega) | fail) only [WW, WH, ↓reduceIte, nA, nB, nC, nD, nE, nF, nG, reduceCtorEq, L_head_Get, encFieldV, encL1b8]
      have hq := Option.some.inj h; subst hq
      refine hN _ rfl _ _ _ _ ?_ (WxH.refl _) ⟨rfl, (Fr.set (s := H.length) (Fr.app hfr) (.inr (by first | assumption | omega | (simp only [h_sl, h_al] <;> omega) | fail)))⟩
      exact WE.cons (Wx.str) (WE.cons (Wx.str) (WE.cons (Wx.int) (WE.cons (Wx.nn) (WE.cons (Wx.int) (WE.cons (Wx.int) (WE.nil))))))
    · refine UC_f hy5 ?_
      try simp (disch := first | assumption | omega | (simp only [h_sl, h_al] <;> omega) | fail) only [WW, WH, ↓reduceIte, nA, nB, nC, nD, nE, nF, nG, reduceCtorEq, L_head_Get, encFieldV, encL1b8]
      rcases ifb h with ⟨hy6, h⟩ | ⟨hy6, h⟩
      · refine UC_t hy6 ?_
        try simp (disch := first | assumption | omega | (simp only [h_sl, h_al] <;> omega) | fail) only [WW, WH, ↓reduceIte, nA, nB, nC, nD, nE, nF, nG, reduceCtorEq, L_head_Get, encFieldV, encL1b8]
        have hq := Option.some.inj h; subst hq
        refine hN _ rfl _ _ _ _ ?_ (WxH.refl _) ⟨rfl, (Fr.set (s := H.length) (Fr.app hfr) (.inr (by first | assumption | omega | (simp only [h_sl, h_al] <;> omega) | fail)))⟩
        exact WE.cons (Wx.str) (WE.cons (Wx.str) (WE.cons (Wx.int) (WE.cons (Wx.nn) (WE.cons (Wx.int) (WE.cons (Wx.int) (WE.nil))))))
      · refine UC_f hy6 ?_
        try simp (disch := first | assumption | omega | (simp only [h_sl, h_al] <;> omega) | fail) only [WW, WH, ↓reduceIte, nA, nB, nC, nD, nE, nF, nG, reduceCtorEq, L_head_Get, encFieldV, encL1b8]
        have hq := Option.some.inj h; subst hq
        refine hN _ rfl _ _ _ _ ?_ (WxH.refl _) ⟨rfl, (Fr.set (s := H.length) (Fr.app hfr) (.inr (by first | assumption | omega | (simp only [h_sl, h_al] <;> omega) | fail)))⟩
        exact WE.cons (Wx.str) (WE.cons (Wx.str) (WE.cons (Wx.int) (WE.cons (Wx.nn) (WE.cons (Wx.int) (WE.cons (Wx.int) (WE.nil))))))
  · refine UC_f hy1 ?_
    try simp (disch := first | assumption | omega | (simp only [h_sl, h_al] <;> omega) | fail) only [WW, WH, ↓reduceIte, nA, nB, nC, nD, nE, nF, nG, reduceCtorEq, L_head_Get, encFieldV, encL1b8]
    have hq := Option.some.inj h; subst hq
    refine hX _ _ _ _ _ (by simp) ?_ (WxH.refl _) (kb0 _ (hB _ rfl) _ hfr)
    exact WE.cons (Wx.str) (WE.cons (Wx.int) (WE.nil))
theorem head_Get_ok {F : Nat} {l1 : List FieldV} {name2 : List UInt8}  {H0 : AH}  {rz0 : List UInt8} {rz1 : Int} (h : head_Get F l1 name2 = some (rz0, rz1)) :
    ACalls Tryd.prog 19 [(.sl .n 2 (ml encFieldV l1)), (.str name2)] H0 fun v H' => v = (.tup [(.str rz0), (.int .i64 rz1)]) ∧ H' = H0 := by
  refine ACalls.goX k_head_Get (m := m_head_Get) rfl L_head_Get (by decide) (by simp) fun hcl K0 hK0 => ?_
  refine AX.of_U (m := m_head_Get) rfl (by decide) ?_
  have hfr := Fr.refl H0 []
  have hle := hfr.le
  rw [head_Get.eq_1] at h
  obtain ⟨H, hHH⟩ : ∃ H, H = H0 := ⟨_, rfl⟩
  have hfr : Fr H0 H0.length [] H := hHH ▸ hfr
  have hle := hfr.le
  suffices hU : U Tryd.prog L_head_Get 31 H0.length [.code m_head_Get] K0 .normal (argE 0 [(.sl .n 2 (ml encFieldV l1)), (.str name2)]) H by rwa [hHH] at hU
  try simp (disch := first | assumption | omega | (simp only [h_sl, h_al] <;> omega) | fail) only [WW, WH, ↓reduceIte, nA, nB, nC, nD, nE, nF, nG, reduceCtorEq, L_head_Get, m_head_Get, c_head_Get, encFieldV, encL1b8]
  obtain ⟨o13, hy7, h⟩ := bnd' h
  refine UX_of (AX.weak ?_ (WxH.refl _) (head_Get_l1_ok  (l1 := l1) (name2 := name2) (out3 := ([] : List UInt8)) (nn4 := 0) (t5 := 0)  (hfr) (o := o13) hy7 ?_))
  · exact WE.cons (Wx.str) (WE.cons (Wx.str) (WE.cons (Wx.int) (WE.cons (Wx.nn) (WE.cons (Wx.int) (WE.cons (Wx.int) (WE.nil))))))
  · rintro ⟨out11, nn12⟩ rfl H hfr
    try dsimp only at h 
    have hle := hfr.le
    try simp (disch := first | assumption | omega | (simp only [h_sl, h_al] <;> omega) | fail) only [WW, WH, ↓reduceIte, nA, nB, nC, nD, nE, nF, nG, reduceCtorEq, L_head_Get, encFieldV, encL1b8]
    have hq := Option.some.inj h; have hq0 := (Prod.mk.inj hq).1; replace hq := (Prod.mk.inj hq).2; subst hq0; subst hq
    refine hK0 _ _ _ (.inr rfl) ?_
    exact fn_end0 (by exact hfr) hcl (resv_tmp (a := (.str out11)) rfl rfl (resv_tmp (a := (.int .i64 nn12)) rfl rfl resv_nil)) (by first | (simp [fin, b_df, b_sh, b_sh1, b_Cl]; done) | (simp [fin, AV.df, AV.sh, AV.sh1, b_df, b_sh, b_sh1, b_Cl]; done)) (Wx.tupX (W2L.same (W2L.same (W2L.nil)))) (r' := (.tup [(.str out11), (.int .i64 nn12)])) ⟨rfl, rfl⟩

/-! ### mailbag/head.leap -/
def c_head_leap_p1 : ACode := (.rg [⟨(some 3), (.mv (.t 0)), none⟩, ⟨(some 4), (.bin .rem (.t 3) (.c (.int .i64 4))), none⟩, ⟨(some 5), (.bin .eql (.t 4) (.c (.int .i64 0))), none⟩, ⟨(some 6), (.mv (.t 5)), none⟩, ⟨(some 7), (.mv (.t 0)), (some (6, true))⟩, ⟨(some 8), (.bin .rem (.t 7) (.c (.int .i64 100))), (some (6, true))⟩, ⟨(some 9), (.bin .neq (.t 8) (.c (.int .i64 0))), (some (6, true))⟩, ⟨(some 10), (.mv (.t 9)), (some (6, true))⟩, ⟨(some 11), (.mv (.t 0)), (some (10, false))⟩, ⟨(some 12), (.bin .rem (.t 11) (.c (.int .i64 400))), (some (10, false))⟩, ⟨(some 13), (.bin .eql (.t 12) (.c (.int .i64 0))), (some (10, false))⟩, ⟨(some 14), (.pick (.t 10) (.c (.bool true)) (.t 13)), (some (6, true))⟩, ⟨(some 15), (.pick (.t 6) (.t 14) (.c (.bool false))), none⟩, ⟨(some 2), (.asg (.t 15)), none⟩])
abbrev m_head_leap_p1 := c_head_leap_p1
def c_head_leap : ACode := (.seq (.rg [⟨(some 2), (.asg (.c (.bool false))), none⟩]) (.seq c_head_leap_p1 .ret))
def m_head_leap : ACode := (.seq (.rg [⟨(some 2), (.asg (.c (.bool false))), none⟩]) (.seq (.sem c_head_leap_p1) .ret))
theorem k_head_leap : FnOk Tryd.prog 89 16 [(.tmp 2)] c_head_leap := ⟨Tryd.f89, _, rfl, by decide, rfl, by kernel_rfl, rfl, rfl⟩
abbrev L_head_leap : List Nat := [0, 2]
def head_leap (y1 : Int) : Option (Bool) :=
  some ((decide ((Int.tmod y1 4) = 0)) && ((!decide ((Int.tmod y1 100) = 0)) || (decide ((Int.tmod y1 400) = 0))))
theorem head_leap_p1_ok {y1 : Int} {H : AH}  {K : Exit → Env → AH → Prop}
    (kn : K .normal [(2, (.bool ((decide ((Int.tmod y1 4) = 0)) && ((!decide ((Int.tmod y1 100) = 0)) || (decide ((Int.tmod y1 400) = 0))))))] H) :
    AX Tryd.prog L_head_leap 16 H.length c_head_leap_p1 K [(0, (.int .i64 y1)), (2, (.bool false))] H := by
  refine AX.go (m := m_head_leap_p1) rfl (by decide) fun K' hK => ?_
  have hy4 : rm .i64 y1 4 = some (Int.tmod y1 4) := rfl
  try simp only [WW, ↓reduceIte, nA, nB, nC, nD, nE, nF, nG, reduceCtorEq, L_head_leap, m_head_leap_p1, c_head_leap_p1, hy4, encFieldV, encL1b8]
  rcases bcases ((decide ((Int.tmod y1 4) = 0))) with hy5 | hy5
  · refine UG_go hy5 ?_
    have hy6 : rm .i64 y1 100 = some (Int.tmod y1 100) := rfl
    try simp only [WW, ↓reduceIte, nA, nB, nC, nD, nE, nF, nG, reduceCtorEq, L_head_leap, hy5, hy6, encFieldV, encL1b8]
    rcases bcases ((!decide ((Int.tmod y1 100) = 0))) with hy7 | hy7
    · refine UG_nf hy7 ?_
      try simp only [WW, ↓reduceIte, nA, nB, nC, nD, nE, nF, nG, reduceCtorEq, L_head_leap, hy7, encFieldV, encL1b8]
      refine hK _ _ _ _ _ ?_ (WxH.refl _) (kn )
      exact WE.cons (Wx.boolE (by first | (simp only [hy5, hy7, WB]; done) | (try rw [hy5]; try rw [hy7]; try simp only [WB]))) (WE.nil)
    · refine UG_go hy7 ?_
      have hy8 : rm .i64 y1 400 = some (Int.tmod y1 400) := rfl
      try simp only [WW, ↓reduceIte, nA, nB, nC, nD, nE, nF, nG, reduceCtorEq, L_head_leap, hy7, hy8, encFieldV, encL1b8]
      refine hK _ _ _ _ _ ?_ (WxH.refl _) (kn )
      exact WE.cons (Wx.boolE (by first | (simp only [hy5, hy7, WB]; done) | (try rw [hy5]; try rw [hy7]; try simp only [WB]))) (WE.nil)
  · refine UG_nt hy5 ?_
    try simp only [WW, ↓reduceIte, nA, nB, nC, nD, nE, nF, nG, reduceCtorEq, L_head_leap, hy5, encFieldV, encL1b8]
    refine hK _ _ _ _ _ ?_ (WxH.refl _) (kn )
    exact WE.cons (Wx.boolE (by simp only [hy5, WB])) (WE.nil)
theorem head_leap_ok {y1 : Int}  {H0 : AH}  {rz0 : Bool} (h : head_leap y1 = some rz0) :
    ACalls Tryd.prog 89 [(.int .i64 y1)] H0 fun v H' => v = (.bool rz0) ∧ H' = H0 := by
  refine ACalls.goX k_head_leap (m := m_head_leap) rfl L_head_leap (by decide) (by simp) fun hcl K0 hK0 => ?_
  refine AX.of_U (m := m_head_leap) rfl (by decide) ?_
  rw [head_leap.eq_1] at h
  try simp only [WW, ↓reduceIte, nA, nB, nC, nD, nE, nF, nG, reduceCtorEq, L_head_leap, m_head_leap, encFieldV, encL1b8]
  refine UX_of (AX.weak ?_ (WxH.refl _) (head_leap_p1_ok (y1 := y1)  ?_))
  · exact WE.cons (Wx.int) (WE.cons (Wx.bool) (WE.nil))
  try simp only [WW, ↓reduceIte, nA, nB, nC, nD, nE, nF, nG, reduceCtorEq, L_head_leap, encFieldV, encL1b8]
  have hq := Option.some.inj h; subst hq
  refine hK0 _ _ _ (.inr rfl) ?_
  exact fn_endp hcl (resv_tmp (a := (.bool ((decide ((Int.tmod y1 4) = 0)) && ((!decide ((Int.tmod y1 100) = 0)) || (decide ((Int.tmod y1 400) = 0)))))) rfl rfl resv_nil) (by first | (simp [fin, b_df, b_sh, b_sh1, b_Cl]; done) | (simp [fin, AV.df, AV.sh, AV.sh1, b_df, b_sh, b_sh1, b_Cl]; done)) (Wx.bool) (r' := (.bool ((decide ((Int.tmod y1 4) = 0)) && ((!decide ((Int.tmod y1 100) = 0)) || (decide ((Int.tmod y1 400) = 0)))))) ⟨rfl, rfl⟩

/-! ### mailbag/head.days -/
def c_head_days_p1 : ACode := (.rg [⟨(some 7), (.mv (.t 1)), none⟩, ⟨(some 8), (.bin .eql (.t 7) (.c (.int .i64 1))), none⟩, ⟨(some 9), (.mv (.t 8)), none⟩, ⟨(some 10), (.mv (.t 0)), (some (9, true))⟩, ⟨(some 11), (.call (.c (.fn 89 [])) [(.t 10)]), (some (9, true))⟩, ⟨(some 12), (.pick (.t 9) (.t 11) (.c (.bool false))), none⟩])
abbrev m_head_days_p1 := c_head_days_p1
def c_head_days : ACode := (.seq (.rg [⟨(some 4), (.asg (.c (.int .i64 0))), none⟩]) (.seq (.rg [⟨(some 6), (.build [(.int .i64 31), (.int .i64 28), (.int .i64 31), (.int .i64 30), (.int .i64 31), (.int .i64 30), (.int .i64 31), (.int .i64 31), (.int .i64 30), (.int .i64 31), (.int .i64 30), (.int .i64 31)] []), none⟩, ⟨(some 5), (.alloc [(.int .i64 0), (.int .i64 0), (.int .i64 0), (.int .i64 0), (.int .i64 0), (.int .i64 0), (.int .i64 0), (.int .i64 0), (.int .i64 0), (.int .i64 0), (.int .i64 0), (.int .i64 0)]), none⟩, ⟨none, (.st (.t 5) (.t 6) 12), none⟩]) (.seq (.seq c_head_days_p1 (.cond (.t 12) (.seq (.rg [⟨(some 4), (.asg (.c (.int .i64 29))), none⟩]) .ret) .skip)) (.seq (.rg [⟨(some 13), (.mv (.t 1)), none⟩, ⟨(some 14), (.ixp 1 12 (.t 5) (.t 13)), none⟩, ⟨(some 15), (.ld (.t 14) none), none⟩, ⟨(some 4), (.asg (.t 15)), none⟩]) .ret))))
def m_head_days : ACode := (.seq (.rg [⟨(some 4), (.asg (.c (.int .i64 0))), none⟩]) (.seq (.rg [⟨(some 6), (.build [(.int .i64 31), (.int .i64 28), (.int .i64 31), (.int .i64 30), (.int .i64 31), (.int .i64 30), (.int .i64 31), (.int .i64 31), (.int .i64 30), (.int .i64 31), (.int .i64 30), (.int .i64 31)] []), none⟩, ⟨(some 5), (.alloc [(.int .i64 0), (.int .i64 0), (.int .i64 0), (.int .i64 0), (.int .i64 0), (.int .i64 0), (.int .i64 0), (.int .i64 0), (.int .i64 0), (.int .i64 0), (.int .i64 0), (.int .i64 0)]), none⟩, ⟨none, (.st (.t 5) (.t 6) 12), none⟩]) (.seq (.seq (.sem c_head_days_p1) (.cond (.t 12) (.seq (.rg [⟨(some 4), (.asg (.c (.int .i64 29))), none⟩]) .ret) .skip)) (.seq (.rg [⟨(some 13), (.mv (.t 1)), none⟩, ⟨(some 14), (.ixp 1 12 (.t 5) (.t 13)), none⟩, ⟨(some 15), (.ld (.t 14) none), none⟩, ⟨(some 4), (.asg (.t 15)), none⟩]) .ret))))
theorem k_head_days : FnOk Tryd.prog 90 16 [(.tmp 4)] c_head_days := ⟨Tryd.f90, _, rfl, by decide, rfl, by kernel_rfl, rfl, rfl⟩
abbrev L_head_days : List Nat := [0, 1, 4, 5, 12]
def tab_head_days_1 : List Int := [31, 28, 31, 30, 31, 30, 31, 31, 30, 31, 30, 31]
def head_days_p1 (m2 : Int) (y1 : Int) : Option (Bool) :=
  (if (decide (m2 = 1)) then
    (head_leap y1).bind fun r4 => some r4
  else
    some false)
def head_days (y1 : Int) (m2 : Int) : Option (Int) :=
  (head_days_p1 m2 y1).bind fun t6 =>
  (if t6 then
    some 29
  else
    (ixm 12 m2).bind fun j7 => (tab_head_days_1[j7]?).bind fun x8 => some x8)
theorem head_days_p1_ok {m2 : Int} {y1 : Int} {q3 : Nat} {H0 H : AH} (hfr : Fr H0 H0.length [] H) (hs_o1 : H[q3]? = some (ml (iint .i64) tab_head_days_1)) (hi0 : H0.length ≤ q3) {K : Exit → Env → AH → Prop} {t5 : Bool}
    (h : head_days_p1 m2 y1 = some t5)
    (kn : ∀ H' : AH, Fr H0 H0.length [] H' → H'[q3]? = some (ml (iint .i64) tab_head_days_1) → K .normal [(1, (.int .i64 m2)), (5, (.ptr q3 0)), (12, (.bool t5))] H') :
    AX Tryd.prog L_head_days 16 H0.length c_head_days_p1 K [(0, (.int .i64 y1)), (1, (.int .i64 m2)), (5, (.ptr q3 0))] H := by
  refine AX.go (m := m_head_days_p1) rfl (by decide) fun K' hK => ?_
  have hle := hfr.le
  have hl_o1 := h_lt hs_o1
  rw [head_days_p1.eq_1] at h
  try simp (disch := first | assumption | omega | (simp only [h_sl, h_al] <;> omega) | fail) only [WW, WH, ↓reduceIte, nA, nB, nC, nD, nE, nF, nG, reduceCtorEq, L_head_days, m_head_days_p1, c_head_days_p1, hs_o1, encFieldV, encL1b8]
  rcases ifb h with ⟨hy1, h⟩ | ⟨hy1, h⟩
  · refine UG_go hy1 ?_
    try simp (disch := first | assumption | omega | (simp only [h_sl, h_al] <;> omega) | fail) only [WW, WH, ↓reduceIte, nA, nB, nC, nD, nE, nF, nG, reduceCtorEq, L_head_days, hy1, hs_o1, encFieldV, encL1b8]
    obtain ⟨r4, hy2, h⟩ := bnd' h
    refine UK_e (as' := [(.int .i64 y1)]) (h := head_leap_ok (y1 := y1)  hy2) (hw := WL.cons (Wx.int) (WL.nil)) (hh := WxH.refl _) ?_
    try simp (disch := first | assumption | omega | (simp only [h_sl, h_al] <;> omega) | fail) only [WW, WH, ↓reduceIte, nA, nB, nC, nD, nE, nF, nG, reduceCtorEq, L_head_days, hs_o1, encFieldV, encL1b8]
    have hq := Option.some.inj h; subst hq
    refine hK _ _ _ _ _ ?_ (WxH.refl _) (kn _ hfr ((hs_o1).trans rfl))
    exact WE.cons (Wx.int) (WE.cons (Wx.ptr) (WE.cons (Wx.bool) (WE.nil)))
  · refine UG_nt hy1 ?_
    try simp (disch := first | assumption | omega | (simp only [h_sl, h_al] <;> omega) | fail) only [WW, WH, ↓reduceIte, nA, nB, nC, nD, nE, nF, nG, reduceCtorEq, L_head_days, hy1, hs_o1, encFieldV, encL1b8]
    have hq := Option.some.inj h; subst hq
    refine hK _ _ _ _ _ ?_ (WxH.refl _) (kn _ hfr ((hs_o1).trans rfl))
    exact WE.cons (Wx.int) (WE.cons (Wx.ptr) (WE.cons (Wx.bool) (WE.nil)))
theorem head_days_ok {y1 : Int} {m2 : Int}  {H0 : AH}  {rz0 : Int} (h : head_days y1 m2 = some rz0) :
    ACalls Tryd.prog 90 [(.int .i64 y1), (.int .i64 m2)] H0 fun v H' => v = (.int .i64 rz0) ∧ H' = H0 := by
  refine ACalls.goX k_head_days (m := m_head_days) rfl L_head_days (by decide) (by simp) fun hcl K0 hK0 => ?_
  refine AX.of_U (m := m_head_days) rfl (by decide) ?_
  have hfr := Fr.refl H0 []
  have hle := hfr.le
  rw [head_days.eq_1] at h
  obtain ⟨H, hHH⟩ : ∃ H, H = H0 := ⟨_, rfl⟩
  have hfr : Fr H0 H0.length [] H := hHH ▸ hfr
  have hle := hfr.le
  suffices hU : U Tryd.prog L_head_days 16 H0.length [.code m_head_days] K0 .normal (argE 0 [(.int .i64 y1), (.int .i64 m2)]) H by rwa [hHH] at hU
  try simp (disch := first | assumption | omega | (simp only [h_sl, h_al] <;> omega) | fail) only [WW, WH, ↓reduceIte, nA, nB, nC, nD, nE, nF, nG, reduceCtorEq, L_head_days, m_head_days, encFieldV, encL1b8]
  obtain ⟨q3, hg_q3⟩ : ∃ q : Nat, H.length = q := ⟨_, rfl⟩
  try rw [hg_q3]
  obtain ⟨t6, hy3, h⟩ := bnd' h
  refine UX_of (AX.weak ?_ (WxH.refl _) (head_days_p1_ok  (m2 := m2) (y1 := y1) (t5 := t6) (q3 := q3) ((Fr.set (s := q3) (Fr.app hfr) (.inr (by first | assumption | omega | (simp only [h_sl, h_al] <;> omega) | fail)))) ((h_eq (by first | assumption | omega | (simp only [h_sl, h_al] <;> omega) | fail)).trans rfl) (by first | assumption | omega | (simp only [h_sl, h_al] <;> omega) | fail) hy3 ?_))
  · exact WE.cons (Wx.int) (WE.cons (Wx.int) (WE.cons (Wx.ptr) (WE.nil)))
  intro H hfr hs_o1
  have hle := hfr.le
  have hl_o1 := h_lt hs_o1
  try simp (disch := first | assumption | omega | (simp only [h_sl, h_al] <;> omega) | fail) only [WW, WH, ↓reduceIte, nA, nB, nC, nD, nE, nF, nG, reduceCtorEq, L_head_days, hs_o1, encFieldV, encL1b8]
  rcases ifb h with ⟨hy4, h⟩ | ⟨hy4, h⟩
  · refine UC_t hy4 ?_
    try simp (disch := first | assumption | omega | (simp only [h_sl, h_al] <;> omega) | fail) only [WW, WH, ↓reduceIte, nA, nB, nC, nD, nE, nF, nG, reduceCtorEq, L_head_days, hs_o1, encFieldV, encL1b8]
    have hq := Option.some.inj h; subst hq
    refine hK0 _ _ _ (.inr rfl) ?_
    exact fn_end0 (by exact hfr) hcl (resv_tmp (a := (.int .i64 29)) rfl rfl resv_nil) (by first | (simp [fin, b_df, b_sh, b_sh1, b_Cl]; done) | (simp [fin, AV.df, AV.sh, AV.sh1, b_df, b_sh, b_sh1, b_Cl]; done)) (Wx.int) (r' := (.int .i64 29)) ⟨rfl, rfl⟩
  · refine UC_f hy4 ?_
    obtain ⟨j7, hy5, h⟩ := bnd' h
    obtain ⟨x8, hy6, h⟩ := bnd' h
    have hy7 := ml_get (f := (iint .i64)) hy6
    try simp (disch := first | assumption | omega | (simp only [h_sl, h_al] <;> omega) | fail) only [WW, WH, ↓reduceIte, nA, nB, nC, nD, nE, nF, nG, reduceCtorEq, L_head_days, hy5, hy7, hs_o1, encFieldV, encL1b8]
    have hq := Option.some.inj h; subst hq
    refine hK0 _ _ _ (.inr rfl) ?_
    exact fn_end0 (by exact hfr) hcl (resv_tmp (a := (.int .i64 x8)) rfl rfl resv_nil) (by first | (simp [fin, b_df, b_sh, b_sh1, b_Cl]; done) | (simp [fin, AV.df, AV.sh, AV.sh1, b_df, b_sh, b_sh1, b_Cl]; done)) (Wx.int) (r' := (.int .i64 x8)) ⟨rfl, rfl⟩

/-! ### mailbag/head.date -/
def c_head_date_p1 : ACode := (.cond (.t 7) (.rg [⟨(some 8), (.mv (.t 5)), none⟩, ⟨(some 9), (.bin .add (.t 8) (.c (.int .i64 1))), none⟩, ⟨(some 5), (.asg (.t 9)), none⟩]) .skip)
abbrev m_head_date_p1 := c_head_date_p1
def c_head_date_l1b : ACode := (.blk 1 (.seq (.rg [⟨(some 5), (.asg (.c (.int .i64 365))), none⟩]) (.seq (.seq (.rg [⟨(some 6), (.mv (.t 2)), none⟩, ⟨(some 7), (.call (.c (.fn 89 [])) [(.t 6)]), none⟩]) c_head_date_p1) (.seq (.seq (.rg [⟨(some 10), (.mv (.t 0)), none⟩, ⟨(some 11), (.mv (.t 5)), none⟩, ⟨(some 12), (.bin .lss (.t 10) (.t 11)), none⟩]) (.cond (.t 12) (.exit 0) .skip)) (.seq (.rg [⟨(some 13), (.mv (.t 0)), none⟩, ⟨(some 14), (.mv (.t 5)), none⟩, ⟨(some 15), (.bin .sub (.t 13) (.t 14)), none⟩, ⟨(some 0), (.asg (.t 15)), none⟩]) (.rg [⟨(some 16), (.mv (.t 2)), none⟩, ⟨(some 17), (.bin .add (.t 16) (.c (.int .i64 1))), none⟩, ⟨(some 2), (.asg (.t 17)), none⟩]))))))
def c_head_date_l1 : ACode := (.loop c_head_date_l1b)
def m_head_date_l1b : ACode := (.blk 1 (.seq (.rg [⟨(some 5), (.asg (.c (.int .i64 365))), none⟩]) (.seq (.seq (.rg [⟨(some 6), (.mv (.t 2)), none⟩, ⟨(some 7), (.call (.c (.fn 89 [])) [(.t 6)]), none⟩]) (.sem c_head_date_p1)) (.seq (.seq (.rg [⟨(some 10), (.mv (.t 0)), none⟩, ⟨(some 11), (.mv (.t 5)), none⟩, ⟨(some 12), (.bin .lss (.t 10) (.t 11)), none⟩]) (.cond (.t 12) (.exit 0) .skip)) (.seq (.rg [⟨(some 13), (.mv (.t 0)), none⟩, ⟨(some 14), (.mv (.t 5)), none⟩, ⟨(some 15), (.bin .sub (.t 13) (.t 14)), none⟩, ⟨(some 0), (.asg (.t 15)), none⟩]) (.rg [⟨(some 16), (.mv (.t 2)), none⟩, ⟨(some 17), (.bin .add (.t 16) (.c (.int .i64 1))), none⟩, ⟨(some 2), (.asg (.t 17)), none⟩]))))))
def c_head_date_l2b : ACode := (.seq (.seq (.rg [⟨(some 18), (.mv (.t 0)), none⟩, ⟨(some 19), (.mv (.t 2)), none⟩, ⟨(some 20), (.mv (.t 3)), none⟩, ⟨(some 21), (.call (.c (.fn 90 [])) [(.t 19), (.t 20)]), none⟩, ⟨(some 22), (.bin .geq (.t 18) (.t 21)), none⟩]) (.cond (.t 22) .skip (.exit 2))) (.blk 3 (.seq (.rg [⟨(some 23), (.mv (.t 0)), none⟩, ⟨(some 24), (.mv (.t 2)), none⟩, ⟨(some 25), (.mv (.t 3)), none⟩, ⟨(some 26), (.call (.c (.fn 90 [])) [(.t 24), (.t 25)]), none⟩, ⟨(some 27), (.bin .sub (.t 23) (.t 26)), none⟩, ⟨(some 0), (.asg (.t 27)), none⟩]) (.rg [⟨(some 28), (.mv (.t 3)), none⟩, ⟨(some 29), (.bin .add (.t 28) (.c (.int .i64 1))), none⟩, ⟨(some 3), (.asg (.t 29)), none⟩]))))
def c_head_date_l2 : ACode := (.loop c_head_date_l2b)
abbrev m_head_date_l2b := c_head_date_l2b
def c_head_date : ACode := (.seq (.rg [⟨(some 2), (.asg (.c (.int .i64 0))), none⟩, ⟨(some 3), (.asg (.c (.int .i64 0))), none⟩, ⟨(some 4), (.asg (.c (.int .i64 0))), none⟩]) (.seq (.rg [⟨(some 2), (.asg (.c (.int .i64 1970))), none⟩]) (.seq .skip (.seq (.blk 0 c_head_date_l1) (.seq (.blk 2 c_head_date_l2) (.seq (.rg [⟨(some 30), (.mv (.t 2)), none⟩, ⟨(some 31), (.mv (.t 3)), none⟩, ⟨(some 32), (.mv (.t 0)), none⟩, ⟨(some 33), (.bin .add (.t 32) (.c (.int .i64 1))), none⟩, ⟨(some 2), (.asg (.t 30)), none⟩, ⟨(some 3), (.asg (.t 31)), none⟩, ⟨(some 4), (.asg (.t 33)), none⟩]) .ret))))))
abbrev m_head_date := c_head_date
theorem k_head_date : FnOk Tryd.prog 54 34 [(.tmp 2), (.tmp 3), (.tmp 4)] c_head_date := ⟨Tryd.f54, _, rfl, by decide, rfl, by kernel_rfl, rfl, rfl⟩
abbrev L_head_date : List Nat := [0, 2, 3, 4, 5, 7, 12, 22]
def head_date_p1 (r4 : Bool) : Option (Int) :=
  (if r4 then
    some (IntKind.wrap .i64 (365 + 1))
  else
    some 365)
def head_date_l1  : (Int × Int) → Option (St (Int × Int × Int) (Int × Int) (Int × Int))
  | (nn2, y3) =>
    (head_leap y3).bind fun r4 =>
    (head_date_p1 r4).bind fun all6 =>
    (if (decide (nn2 < all6)) then
      some (.brk (nn2, y3))
    else
      some (.nxt ((IntKind.wrap .i64 (nn2 - all6)), (IntKind.wrap .i64 (y3 + 1)))))
def head_date_l2 (y10 : Int) : (Int × Int) → Option (St (Int × Int × Int) (Int × Int) (Int × Int))
  | (nn11, m12) =>
    (head_days y10 m12).bind fun r13 =>
    (if (decide (r13 ≤ nn11)) then
      (head_days y10 m12).bind fun r14 =>
      some (.nxt ((IntKind.wrap .i64 (nn11 - r14)), (IntKind.wrap .i64 (m12 + 1))))
    else
      some (.brk (nn11, m12)))
def head_date (F : Nat) (nn1 : Int) : Option (Int × Int × Int) :=
  ((iter head_date_l1 F (nn1, 1970)).bind fun o20 =>
  match o20 with
  | .inr (nn9, y10) =>
    ((iter (head_date_l2 y10) F (nn9, 0)).bind fun o19 =>
    match o19 with
    | .inr (nn17, m18) =>
      some (y10, m18, (IntKind.wrap .i64 (nn17 + 1)))
    | .inl _ => none)
  | .inl _ => none)
theorem head_date_p1_ok {r4 : Bool} {nn2 : Int} {y3 : Int} {H : AH}  {K : Exit → Env → AH → Prop} {all5 : Int}
    (h : head_date_p1 r4 = some all5)
    (kn : K .normal [(0, (.int .i64 nn2)), (2, (.int .i64 y3)), (3, (.int .i64 0)), (5, (.int .i64 all5))] H) :
    AX Tryd.prog L_head_date 34 H.length c_head_date_p1 K [(0, (.int .i64 nn2)), (2, (.int .i64 y3)), (3, (.int .i64 0)), (5, (.int .i64 365)), (7, (.bool r4))] H := by
  refine AX.go (m := m_head_date_p1) rfl (by decide) fun K' hK => ?_
  rw [head_date_p1.eq_1] at h
  try simp only [WW, ↓reduceIte, nA, nB, nC, nD, nE, nF, nG, reduceCtorEq, L_head_date, m_head_date_p1, c_head_date_p1, encFieldV, encL1b8]
  rcases ifb h with ⟨hy2, h⟩ | ⟨hy2, h⟩
  · refine UC_t hy2 ?_
    try simp only [WW, ↓reduceIte, nA, nB, nC, nD, nE, nF, nG, reduceCtorEq, L_head_date, encFieldV, encL1b8]
    have hq := Option.some.inj h; subst hq
    refine hK _ _ _ _ _ ?_ (WxH.refl _) (kn )
    exact WE.cons (Wx.int) (WE.cons (Wx.int) (WE.cons (Wx.int) (WE.cons (Wx.int) (WE.nil))))
  · refine UC_f hy2 ?_
    try simp only [WW, ↓reduceIte, nA, nB, nC, nD, nE, nF, nG, reduceCtorEq, L_head_date, encFieldV, encL1b8]
    have hq := Option.some.inj h; subst hq
    refine hK _ _ _ _ _ ?_ (WxH.refl _) (kn )
    exact WE.cons (Wx.int) (WE.cons (Wx.int) (WE.cons (Wx.int) (WE.cons (Wx.int) (WE.nil))))
theorem head_date_l1_ok {F : Nat} {y3 : Int} {nn2 : Int} {H : AH}  {K : Exit → Env → AH → Prop} {o : (Int × Int × Int) ⊕ (Int × Int)}
    (h : iter head_date_l1 F (nn2, y3) = some o)
    (kb0 : ∀ o' : Int × Int, o = .inr o' → K (.exit 0) [(0, (.int .i64 o'.1)), (2, (.int .i64 o'.2)), (3, (.int .i64 0))] H) :
    AX Tryd.prog L_head_date 34 H.length c_head_date_l1 K [(0, (.int .i64 nn2)), (2, (.int .i64 y3)), (3, (.int .i64 0))] H := by
  refine AX.iter (m := m_head_date_l1b) rfl (by decide) (fun s e H1 => match s with | (nn2, y3) => e = [(0, (.int .i64 nn2)), (2, (.int .i64 y3)), (3, (.int .i64 0))] ∧ H1 = H) h ⟨rfl, rfl⟩ ?_
  rintro K' ⟨nn2, y3⟩ st e H ⟨rfl, rfl⟩ h hN hB hR hX
  rw [head_date_l1.eq_1] at h
  try simp only [WW, ↓reduceIte, nA, nB, nC, nD, nE, nF, nG, reduceCtorEq, L_head_date, m_head_date_l1b, encFieldV, encL1b8]
  obtain ⟨r4, hy1, h⟩ := bnd' h
  refine UK_e (as' := [(.int .i64 y3)]) (h := head_leap_ok (y1 := y3)  hy1) (hw := WL.cons (Wx.int) (WL.nil)) (hh := WxH.refl _) ?_
  try simp only [WW, ↓reduceIte, nA, nB, nC, nD, nE, nF, nG, reduceCtorEq, L_head_date, encFieldV, encL1b8]
  obtain ⟨all6, hy3, h⟩ := bnd' h
  refine UX_of (AX.weak ?_ (WxH.refl _) (head_date_p1_ok  (r4 := r4) (nn2 := nn2) (y3 := y3) (all5 := all6)   hy3 ?_))
  · exact WE.cons (Wx.int) (WE.cons (Wx.int) (WE.cons (Wx.int) (WE.cons (Wx.int) (WE.cons (Wx.bool) (WE.nil)))))
  try simp only [WW, ↓reduceIte, nA, nB, nC, nD, nE, nF, nG, reduceCtorEq, L_head_date, encFieldV, encL1b8]
  rcases ifb h with ⟨hy4, h⟩ | ⟨hy4, h⟩
  · refine UC_t hy4 ?_
    try simp only [WW, ↓reduceIte, nA, nB, nC, nD, nE, nF, nG, reduceCtorEq, L_head_date, encFieldV, encL1b8]
    have hq := Option.some.inj h; subst hq
    refine hX _ _ _ _ _ (by simp) ?_ (WxH.refl _) (kb0 _ (hB _ rfl) )
    exact WE.cons (Wx.int) (WE.cons (Wx.int) (WE.cons (Wx.int) (WE.nil)))
  · refine UC_f hy4 ?_
    try simp only [WW, ↓reduceIte, nA, nB, nC, nD, nE, nF, nG, reduceCtorEq, L_head_date, encFieldV, encL1b8]
    have hq := Option.some.inj h; subst hq
    refine hN _ rfl _ _ _ _ ?_ (WxH.refl _) ⟨rfl, rfl⟩
    exact WE.cons (Wx.int) (WE.cons (Wx.int) (WE.cons (Wx.int) (WE.nil)))
theorem head_date_l2_ok {F : Nat} {y10 : Int} {m12 : Int} {nn11 : Int} {H : AH}  {K : Exit → Env → AH → Prop} {o : (Int × Int × Int) ⊕ (Int × Int)}
    (h : iter (head_date_l2 y10) F (nn11, m12) = some o)
    (kb2 : ∀ o' : Int × Int, o = .inr o' → K (.exit 2) [(0, (.int .i64 o'.1)), (2, (.int .i64 y10)), (3, (.int .i64 o'.2))] H) :
    AX Tryd.prog L_head_date 34 H.length c_head_date_l2 K [(0, (.int .i64 nn11)), (2, (.int .i64 y10)), (3, (.int .i64 m12))] H := by
  refine AX.iter (m := m_head_date_l2b) rfl (by decide) (fun s e H1 => match s with | (nn11, m12) => e = [(0, (.int .i64 nn11)), (2, (.int .i64 y10)), (3, (.int .i64 m12))] ∧ H1 = H) h ⟨rfl, rfl⟩ ?_
  rintro K' ⟨nn11, m12⟩ st e H ⟨rfl, rfl⟩ h hN hB hR hX
  rw [head_date_l2.eq_1] at h
  try simp only [WW, ↓reduceIte, nA, nB, nC, nD, nE, nF, nG, reduceCtorEq, L_head_date, m_head_date_l2b, c_head_date_l2b, encFieldV, encL1b8]
  obtain ⟨r13, hy6, h⟩ := bnd' h
  refine UK_e (as' := [(.int .i64 y10), (.int .i64 m12)]) (h := head_days_ok (y1 := y10) (m2 := m12)  hy6) (hw := WL.cons (Wx.int) (WL.cons (Wx.int) (WL.nil))) (hh := WxH.refl _) ?_
  try simp only [WW, ↓reduceIte, nA, nB, nC, nD, nE, nF, nG, reduceCtorEq, L_head_date, encFieldV, encL1b8]
  rcases ifb h with ⟨hy7, h⟩ | ⟨hy7, h⟩
  · refine UC_t hy7 ?_
    try simp only [WW, ↓reduceIte, nA, nB, nC, nD, nE, nF, nG, reduceCtorEq, L_head_date, encFieldV, encL1b8]
    obtain ⟨r14, hy8, h⟩ := bnd' h
    refine UK_e (as' := [(.int .i64 y10), (.int .i64 m12)]) (h := head_days_ok (y1 := y10) (m2 := m12)  hy8) (hw := WL.cons (Wx.int) (WL.cons (Wx.int) (WL.nil))) (hh := WxH.refl _) ?_
    try simp only [WW, ↓reduceIte, nA, nB, nC, nD, nE, nF, nG, reduceCtorEq, L_head_date, encFieldV, encL1b8]
    have hq := Option.some.inj h; subst hq
    refine hN _ rfl _ _ _ _ ?_ (WxH.refl _) ⟨rfl, rfl⟩
    exact WE.cons (Wx.int) (WE.cons (Wx.int) (WE.cons (Wx.int) (WE.nil)))
  · refine UC_f hy7 ?_
    try simp only [WW, ↓reduceIte, nA, nB, nC, nD, nE, nF, nG, reduceCtorEq, L_head_date, encFieldV, encL1b8]
    have hq := Option.some.inj h; subst hq
    refine hX _ _ _ _ _ (by simp) ?_ (WxH.refl _) (kb2 _ (hB _ rfl) )
    exact WE.cons (Wx.int) (WE.cons (Wx.int) (WE.cons (Wx.int) (WE.nil)))
theorem head_date_ok {F : Nat} {nn1 : Int}  {H0 : AH}  {rz0 : Int} {rz1 : Int} {rz2 : Int} (h : head_date F nn1 = some (rz0, rz1, rz2)) :
    ACalls Tryd.prog 54 [(.int .i64 nn1)] H0 fun v H' => v = (.tup [(.int .i64 rz0), (.int .i64 rz1), (.int .i64 rz2)]) ∧ H' = H0 := by
  refine ACalls.goX k_head_date (m := m_head_date) rfl L_head_date (by decide) (by simp) fun hcl K0 hK0 => ?_
  refine AX.of_U (m := m_head_date) rfl (by decide) ?_
  rw [head_date.eq_1] at h
  try simp only [WW, ↓reduceIte, nA, nB, nC, nD, nE, nF, nG, reduceCtorEq, L_head_date, m_head_date, c_head_date, encFieldV, encL1b8]
  obtain ⟨o20, hy5, h⟩ := bnd' h
  refine UX_of (AX.weak ?_ (WxH.refl _) (head_date_l1_ok   (nn2 := nn1) (y3 := 1970)   (o := o20) hy5 ?_))
  · exact WE.cons (Wx.int) (WE.cons (Wx.int) (WE.cons (Wx.int) (WE.nil)))
  · rintro ⟨nn9, y10⟩ rfl  
    try dsimp only at h 
    try simp only [WW, ↓reduceIte, nA, nB, nC, nD, nE, nF, nG, reduceCtorEq, L_head_date, encFieldV, encL1b8]
    obtain ⟨o19, hy9, h⟩ := bnd' h
    refine UX_of (AX.weak ?_ (WxH.refl _) (head_date_l2_ok  (y10 := y10) (nn11 := nn9) (m12 := 0)   (o := o19) hy9 ?_))
    · exact WE.cons (Wx.int) (WE.cons (Wx.int) (WE.cons (Wx.int) (WE.nil)))
    · rintro ⟨nn17, m18⟩ rfl  
      try dsimp only at h 
      try simp only [WW, ↓reduceIte, nA, nB, nC, nD, nE, nF, nG, reduceCtorEq, L_head_date, encFieldV, encL1b8]
      have hq := Option.some.inj h; have hq0 := (Prod.mk.inj hq).1; replace hq := (Prod.mk.inj hq).2; have hq1 := (Prod.mk.inj hq).1; replace hq := (Prod.mk.inj hq).2; subst hq0; subst hq1; subst hq
      refine hK0 _ _ _ (.inr rfl) ?_
      exact fn_endp hcl (resv_tmp (a := (.int .i64 y10)) rfl rfl (resv_tmp (a := (.int .i64 m18)) rfl rfl (resv_tmp (a := (.int .i64 (IntKind.wrap .i64 (nn17 + 1)))) rfl rfl resv_nil))) (by first | (simp [fin, b_df, b_sh, b_sh1, b_Cl]; done) | (simp [fin, AV.df, AV.sh, AV.sh1, b_df, b_sh, b_sh1, b_Cl]; done)) (Wx.tupX (W2L.same (W2L.same (W2L.same (W2L.nil))))) (r' := (.tup [(.int .i64 y10), (.int .i64 m18), (.int .i64 (IntKind.wrap .i64 (nn17 + 1)))])) ⟨rfl, rfl⟩

/-! ### mailbag/head.two -/
def c_head_two : ACode := (.seq (.rg [⟨(some 2), (.asg (.c (.str []))), none⟩]) (.seq (.rg [⟨(some 3), (.mv (.t 0)), none⟩, ⟨(some 4), (.bin .quo (.t 3) (.c (.int .i64 10))), none⟩, ⟨(some 5), (.call (.c (.fn 91 [])) [(.t 4)]), none⟩, ⟨(some 6), (.mv (.t 0)), none⟩, ⟨(some 7), (.bin .rem (.t 6) (.c (.int .i64 10))), none⟩, ⟨(some 8), (.call (.c (.fn 91 [])) [(.t 7)]), none⟩, ⟨(some 9), (.bin .add (.t 5) (.t 8)), none⟩, ⟨(some 2), (.asg (.t 9)), none⟩]) .ret))
abbrev m_head_two := c_head_two
theorem k_head_two : FnOk Tryd.prog 55 10 [(.tmp 2)] c_head_two := ⟨Tryd.f55, _, rfl, by decide, rfl, by kernel_rfl, rfl, rfl⟩
abbrev L_head_two : List Nat := [0, 2]
def head_two (nn1 : Int) : Option ((List UInt8)) :=
  (strconv_Itoa (IntKind.wrap .i64 (Int.tdiv nn1 10))).bind fun r2 =>
  (strconv_Itoa (Int.tmod nn1 10)).bind fun r3 => (cat r2 r3).bind fun x4 => some x4
theorem head_two_ok {nn1 : Int}  {H0 : AH}  {rz0 : List UInt8} (h : head_two nn1 = some rz0) :
    ACalls Tryd.prog 55 [(.int .i64 nn1)] H0 fun v H' => v = (.str rz0) ∧ H' = H0 := by
  refine ACalls.goX k_head_two (m := m_head_two) rfl L_head_two (by decide) (by simp) fun hcl K0 hK0 => ?_
  refine AX.of_U (m := m_head_two) rfl (by decide) ?_
  rw [head_two.eq_1] at h
  have hy1 : dv .i64 nn1 10 = some (IntKind.wrap .i64 (Int.tdiv nn1 10)) := rfl
  try simp only [WW, ↓reduceIte, nA, nB, nC, nD, nE, nF, nG, reduceCtorEq, L_head_two, m_head_two, c_head_two, hy1, encFieldV, encL1b8]
  obtain ⟨r2, hy2, h⟩ := bnd' h
  refine UK_e (as' := [(.int .i64 (IntKind.wrap .i64 (Int.tdiv nn1 10)))]) (h := strconv_Itoa_ok (i1 := (IntKind.wrap .i64 (Int.tdiv nn1 10)))  hy2) (hw := WL.cons (Wx.int) (WL.nil)) (hh := WxH.refl _) ?_
  try simp only [WW, ↓reduceIte, nA, nB, nC, nD, nE, nF, nG, reduceCtorEq, L_head_two, encFieldV, encL1b8]
  have hy3 : rm .i64 nn1 10 = some (Int.tmod nn1 10) := rfl
  try simp only [WW, ↓reduceIte, nA, nB, nC, nD, nE, nF, nG, reduceCtorEq, L_head_two, hy3, encFieldV, encL1b8]
  obtain ⟨r3, hy4, h⟩ := bnd' h
  refine UK_e (as' := [(.int .i64 (Int.tmod nn1 10))]) (h := strconv_Itoa_ok (i1 := (Int.tmod nn1 10))  hy4) (hw := WL.cons (Wx.int) (WL.nil)) (hh := WxH.refl _) ?_
  try simp only [WW, ↓reduceIte, nA, nB, nC, nD, nE, nF, nG, reduceCtorEq, L_head_two, encFieldV, encL1b8]
  obtain ⟨x4, hy5, h⟩ := bnd' h
  try simp only [WW, ↓reduceIte, nA, nB, nC, nD, nE, nF, nG, reduceCtorEq, L_head_two, hy5, encFieldV, encL1b8]
  have hq := Option.some.inj h; subst hq
  refine hK0 _ _ _ (.inr rfl) ?_
  exact fn_endp hcl (resv_tmp (a := (.str x4)) rfl rfl resv_nil) (by first | (simp [fin, b_df, b_sh, b_sh1, b_Cl]; done) | (simp [fin, AV.df, AV.sh, AV.sh1, b_df, b_sh, b_sh1, b_Cl]; done)) (Wx.str) (r' := (.str x4)) ⟨rfl, rfl⟩

/-! ### mailbag/head.four -/
def c_head_four : ACode := (.seq (.rg [⟨(some 2), (.asg (.c (.str []))), none⟩]) (.seq (.rg [⟨(some 3), (.mv (.t 0)), none⟩, ⟨(some 4), (.bin .quo (.t 3) (.c (.int .i64 100))), none⟩, ⟨(some 5), (.call (.c (.fn 55 [])) [(.t 4)]), none⟩, ⟨(some 6), (.mv (.t 0)), none⟩, ⟨(some 7), (.bin .rem (.t 6) (.c (.int .i64 100))), none⟩, ⟨(some 8), (.call (.c (.fn 55 [])) [(.t 7)]), none⟩, ⟨(some 9), (.bin .add (.t 5) (.t 8)), none⟩, ⟨(some 2), (.asg (.t 9)), none⟩]) .ret))
abbrev m_head_four := c_head_four
theorem k_head_four : FnOk Tryd.prog 56 10 [(.tmp 2)] c_head_four := ⟨Tryd.f56, _, rfl, by decide, rfl, by kernel_rfl, rfl, rfl⟩
abbrev L_head_four : List Nat := [0, 2]
def head_four (nn1 : Int) : Option ((List UInt8)) :=
  (head_two (IntKind.wrap .i64 (Int.tdiv nn1 100))).bind fun r2 =>
  (head_two (Int.tmod nn1 100)).bind fun r3 => (cat r2 r3).bind fun x4 => some x4
theorem head_four_ok {nn1 : Int}  {H0 : AH}  {rz0 : List UInt8} (h : head_four nn1 = some rz0) :
    ACalls Tryd.prog 56 [(.int .i64 nn1)] H0 fun v H' => v = (.str rz0) ∧ H' = H0 := by
  refine ACalls.goX k_head_four (m := m_head_four) rfl L_head_four (by decide) (by simp) fun hcl K0 hK0 => ?_
  refine AX.of_U (m := m_head_four) rfl (by decide) ?_
  rw [head_four.eq_1] at h
  have hy1 : dv .i64 nn1 100 = some (IntKind.wrap .i64 (Int.tdiv nn1 100)) := rfl
  try simp only [WW, ↓reduceIte, nA, nB, nC, nD, nE, nF, nG, reduceCtorEq, L_head_four, m_head_four, c_head_four, hy1, encFieldV, encL1b8]
  obtain ⟨r2, hy2, h⟩ := bnd' h
  refine UK_e (as' := [(.int .i64 (IntKind.wrap .i64 (Int.tdiv nn1 100)))]) (h := head_two_ok (nn1 := (IntKind.wrap .i64 (Int.tdiv nn1 100)))  hy2) (hw := WL.cons (Wx.int) (WL.nil)) (hh := WxH.refl _) ?_
  try simp only [WW, ↓reduceIte, nA, nB, nC, nD, nE, nF, nG, reduceCtorEq, L_head_four, encFieldV, encL1b8]
  have hy3 : rm .i64 nn1 100 = some (Int.tmod nn1 100) := rfl
  try simp only [WW, ↓reduceIte, nA, nB, nC, nD, nE, nF, nG, reduceCtorEq, L_head_four, hy3, encFieldV, encL1b8]
  obtain ⟨r3, hy4, h⟩ := bnd' h
  refine UK_e (as' := [(.int .i64 (Int.tmod nn1 100))]) (h := head_two_ok (nn1 := (Int.tmod nn1 100))  hy4) (hw := WL.cons (Wx.int) (WL.nil)) (hh := WxH.refl _) ?_
  try simp only [WW, ↓reduceIte, nA, nB, nC, nD, nE, nF, nG, reduceCtorEq, L_head_four, encFieldV, encL1b8]
  obtain ⟨x4, hy5, h⟩ := bnd' h
  try simp only [WW, ↓reduceIte, nA, nB, nC, nD, nE, nF, nG, reduceCtorEq, L_head_four, hy5, encFieldV, encL1b8]
  have hq := Option.some.inj h; subst hq
  refine hK0 _ _ _ (.inr rfl) ?_
  exact fn_endp hcl (resv_tmp (a := (.str x4)) rfl rfl resv_nil) (by first | (simp [fin, b_df, b_sh, b_sh1, b_Cl]; done) | (simp [fin, AV.df, AV.sh, AV.sh1, b_df, b_sh, b_sh1, b_Cl]; done)) (Wx.str) (r' := (.str x4)) ⟨rfl, rfl⟩

/-! ### mailbag/head.Date -/
def c_head_Date : ACode := (.seq (.rg [⟨(some 2), (.asg (.c (.str []))), none⟩]) (.seq (.rg [⟨(some 9), (.mv (.t 0)), none⟩, ⟨(some 10), (.mm true (.t 9) (.c (.int .i64 0))), none⟩, ⟨(some 11), (.mm false (.t 10) (.c (.int .i64 253402300799))), none⟩, ⟨(some 0), (.asg (.t 11)), none⟩]) (.seq (.rg [⟨(some 12), (.mv (.t 0)), none⟩, ⟨(some 13), (.bin .quo (.t 12) (.c (.int .i64 86400))), none⟩, ⟨(some 14), (.mv (.t 0)), none⟩, ⟨(some 15), (.bin .rem (.t 14) (.c (.int .i64 86400))), none⟩, ⟨(some 3), (.asg (.t 13)), none⟩, ⟨(some 4), (.asg (.t 15)), none⟩]) (.seq (.rg [⟨(some 17), (.mv (.t 3)), none⟩, ⟨(some 18), (.call (.c (.fn 54 [])) [(.t 17)]), none⟩, ⟨(some 16), (.mv (.t 18)), none⟩, ⟨(some 19), (.ext (.t 16) 0), none⟩, ⟨(some 20), (.ext (.t 16) 1), none⟩, ⟨(some 21), (.ext (.t 16) 2), none⟩, ⟨(some 5), (.asg (.t 19)), none⟩, ⟨(some 6), (.asg (.t 20)), none⟩, ⟨(some 7), (.asg (.t 21)), none⟩]) (.seq (.rg [⟨(some 22), (.mv (.t 3)), none⟩, ⟨(some 23), (.bin .rem (.t 22) (.c (.int .i64 7))), none⟩, ⟨(some 8), (.asg (.t 23)), none⟩]) (.seq (.rg (⟨(some 24), (.mv (.t 8)), none⟩ :: ⟨(some 25), (.bin .mul (.c (.int .i64 3)) (.t 24)), none⟩ :: ⟨(some 26), (.mv (.t 8)), none⟩ :: ⟨(some 27), (.bin .mul (.c (.int .i64 3)) (.t 26)), none⟩ :: ⟨(some 28), (.bin .add (.t 27) (.c (.int .i64 3))), none⟩ :: ⟨(some 29), (.sls (.c (.str [84, 104, 117, 70, 114, 105, 83, 97, 116, 83, 117, 110, 77, 111, 110, 84, 117, 101, 87, 101, 100])) (some (.t 25)) (some (.t 28))), none⟩ :: ⟨(some 30), (.bin .add (.t 29) (.c (.str [44, 32]))), none⟩ :: ⟨(some 31), (.mv (.t 7)), none⟩ :: ⟨(some 35), (.mv (.t 6)), none⟩ :: ⟨(some 36), (.bin .mul (.c (.int .i64 3)) (.t 35)), none⟩ :: ⟨(some 37), (.mv (.t 6)), none⟩ :: ⟨(some 38), (.bin .mul (.c (.int .i64 3)) (.t 37)), none⟩ :: ⟨(some 39), (.bin .add (.t 38) (.c (.int .i64 3))), none⟩ :: ⟨(some 40), (.sls (.c (.str (74 :: 97 :: 110 :: 70 :: 101 :: 98 :: 77 :: 97 :: 114 :: 65 :: 112 :: 114 :: 77 :: 97 :: 121 :: 74 :: 117 :: 110 :: 74 :: 117 :: 108 :: 65 :: 117 :: 103 :: 83 :: 101 :: 112 :: 79 :: 99 :: 116 :: 78 :: 111 :: 118 :: 68 :: 101 :: 99 :: []))) (some (.t 36)) (some (.t 39))), none⟩ :: ⟨(some 43), (.mv (.t 5)), none⟩ :: ⟨(some 47), (.mv (.t 4)), none⟩ :: ⟨(some 48), (.bin .quo (.t 47) (.c (.int .i64 3600))), none⟩ :: ⟨(some 52), (.mv (.t 4)), none⟩ :: ⟨(some 53), (.bin .quo (.t 52) (.c (.int .i64 60))), none⟩ :: ⟨(some 54), (.bin .rem (.t 53) (.c (.int .i64 60))), none⟩ :: ⟨(some 58), (.mv (.t 4)), none⟩ :: ⟨(some 59), (.bin .rem (.t 58) (.c (.int .i64 60))), none⟩ :: ⟨(some 32), (.call (.c (.fn 55 [])) [(.t 31)]), none⟩ :: ⟨(some 33), (.bin .add (.t 30) (.t 32)), none⟩ :: ⟨(some 34), (.bin .add (.t 33) (.c (.str [32]))), none⟩ :: ⟨(some 41), (.bin .add (.t 34) (.t 40)), none⟩ :: ⟨(some 42), (.bin .add (.t 41) (.c (.str [32]))), none⟩ :: ⟨(some 44), (.call (.c (.fn 56 [])) [(.t 43)]), none⟩ :: ⟨(some 45), (.bin .add (.t 42) (.t 44)), none⟩ :: ⟨(some 46), (.bin .add (.t 45) (.c (.str [32]))), none⟩ :: ⟨(some 49), (.call (.c (.fn 55 [])) [(.t 48)]), none⟩ :: ⟨(some 50), (.bin .add (.t 46) (.t 49)), none⟩ :: ⟨(some 51), (.bin .add (.t 50) (.c (.str [58]))), none⟩ :: ⟨(some 55), (.call (.c (.fn 55 [])) [(.t 54)]), none⟩ :: ⟨(some 56), (.bin .add (.t 51) (.t 55)), none⟩ :: ⟨(some 57), (.bin .add (.t 56) (.c (.str [58]))), none⟩ :: ⟨(some 60), (.call (.c (.fn 55 [])) [(.t 59)]), none⟩ :: ⟨(some 61), (.bin .add (.t 57) (.t 60)), none⟩ :: ⟨(some 62), (.bin .add (.t 61) (.c (.str [32, 43, 48, 48, 48, 48]))), none⟩ :: ⟨(some 2), (.asg (.t 62)), none⟩ :: [])) .ret))))))
abbrev m_head_Date := c_head_Date
theorem k_head_Date : FnOk Tryd.prog 15 63 [(.tmp 2)] c_head_Date := ⟨Tryd.f15, _, rfl, by decide, rfl, by kernel_rfl, rfl, rfl⟩
abbrev L_head_Date : List Nat := [0, 2, 3, 4, 5, 6, 7, 8]
def head_Date (F : Nat) (t1 : Int) : Option ((List UInt8)) :=
  (head_date F (IntKind.wrap .i64 (Int.tdiv (min (max t1 0) 253402300799) 86400))).bind fun (r2, r3, r4) =>
  (sub ([84, 104, 117, 70, 114, 105, 83, 97, 116, 83, 117, 110, 77, 111, 110, 84, 117, 101, 87, 101, 100] : List UInt8) (IntKind.wrap .i64 (3 * (Int.tmod (IntKind.wrap .i64 (Int.tdiv (min (max t1 0) 253402300799) 86400)) 7))) (IntKind.wrap .i64 ((IntKind.wrap .i64 (3 * (Int.tmod (IntKind.wrap .i64 (Int.tdiv (min (max t1 0) 253402300799) 86400)) 7))) + 3))).bind fun x5 =>
  (cat x5 ([44, 32] : List UInt8)).bind fun x6 =>
  (sub ((74 :: 97 :: 110 :: 70 :: 101 :: 98 :: 77 :: 97 :: 114 :: 65 :: 112 :: 114 :: 77 :: 97 :: 121 :: 74 :: 117 :: 110 :: 74 :: 117 :: 108 :: 65 :: 117 :: 103 :: 83 :: 101 :: 112 :: 79 :: 99 :: 116 :: 78 :: 111 :: 118 :: 68 :: 101 :: 99 :: []) : List UInt8) (IntKind.wrap .i64 (3 * r3)) (IntKind.wrap .i64 ((IntKind.wrap .i64 (3 * r3)) + 3))).bind fun x7 =>
  (head_two r4).bind fun r8 =>
  (cat x6 r8).bind fun x9 =>
  (cat x9 ([32] : List UInt8)).bind fun x10 =>
  (cat x10 x7).bind fun x11 =>
  (cat x11 ([32] : List UInt8)).bind fun x12 =>
  (head_four r2).bind fun r13 =>
  (cat x12 r13).bind fun x14 =>
  (cat x14 ([32] : List UInt8)).bind fun x15 =>
  (head_two (IntKind.wrap .i64 (Int.tdiv (Int.tmod (min (max t1 0) 253402300799) 86400) 3600))).bind fun r16 =>
  (cat x15 r16).bind fun x17 =>
  (cat x17 ([58] : List UInt8)).bind fun x18 =>
  (head_two (Int.tmod (IntKind.wrap .i64 (Int.tdiv (Int.tmod (min (max t1 0) 253402300799) 86400) 60)) 60)).bind fun r19 =>
  (cat x18 r19).bind fun x20 =>
  (cat x20 ([58] : List UInt8)).bind fun x21 =>
  (head_two (Int.tmod (Int.tmod (min (max t1 0) 253402300799) 86400) 60)).bind fun r22 =>
  (cat x21 r22).bind fun x23 =>
  (cat x23 ([32, 43, 48, 48, 48, 48] : List UInt8)).bind fun x24 => some x24
theorem head_Date_ok {F : Nat} {t1 : Int}  {H0 : AH}  {rz0 : List UInt8} (h : head_Date F t1 = some rz0) :
    ACalls Tryd.prog 15 [(.int .i64 t1)] H0 fun v H' => v = (.str rz0) ∧ H' = H0 := by
  refine ACalls.goX k_head_Date (m := m_head_Date) rfl L_head_Date (by decide) (by simp) fun hcl K0 hK0 => ?_
  refine AX.of_U (m := m_head_Date) rfl (by decide) ?_
  rw [head_Date.eq_1] at h
  have hy1 : dv .i64 (min (max t1 0) 253402300799) 86400 = some (IntKind.wrap .i64 (Int.tdiv (min (max t1 0) 253402300799) 86400)) := rfl
  have hy2 : rm .i64 (min (max t1 0) 253402300799) 86400 = some (Int.tmod (min (max t1 0) 253402300799) 86400) := rfl
  try simp only [WW, ↓reduceIte, nA, nB, nC, nD, nE, nF, nG, reduceCtorEq, L_head_Date, m_head_Date, c_head_Date, hy1, hy2, encFieldV, encL1b8]
  obtain ⟨⟨r2, r3, r4⟩, hy3, h⟩ := bnd' h
  dsimp only at h
  refine UK_e (as' := [(.int .i64 (IntKind.wrap .i64 (Int.tdiv (min (max t1 0) 253402300799) 86400)))]) (h := head_date_ok (nn1 := (IntKind.wrap .i64 (Int.tdiv (min (max t1 0) 253402300799) 86400))) (F := F)  hy3) (hw := WL.cons (Wx.int) (WL.nil)) (hh := WxH.refl _) ?_
  try simp only [WW, ↓reduceIte, nA, nB, nC, nD, nE, nF, nG, reduceCtorEq, L_head_Date, encFieldV, encL1b8]
  have hy4 : rm .i64 (IntKind.wrap .i64 (Int.tdiv (min (max t1 0) 253402300799) 86400)) 7 = some (Int.tmod (IntKind.wrap .i64 (Int.tdiv (min (max t1 0) 253402300799) 86400)) 7) := rfl
  obtain ⟨x5, hy5, h⟩ := bnd' h
  obtain ⟨x6, hy6, h⟩ := bnd' h
  obtain ⟨x7, hy7, h⟩ := bnd' h
  have hy8 : dv .i64 (Int.tmod (min (max t1 0) 253402300799) 86400) 3600 = some (IntKind.wrap .i64 (Int.tdiv (Int.tmod (min (max t1 0) 253402300799) 86400) 3600)) := rfl
  have hy9 : dv .i64 (Int.tmod (min (max t1 0) 253402300799) 86400) 60 = some (IntKind.wrap .i64 (Int.tdiv (Int.tmod (min (max t1 0) 253402300799) 86400) 60)) := rfl
  have hy10 : rm .i64 (IntKind.wrap .i64 (Int.tdiv (Int.tmod (min (max t1 0) 253402300799) 86400) 60)) 60 = some (Int.tmod (IntKind.wrap .i64 (Int.tdiv (Int.tmod (min (max t1 0) 253402300799) 86400) 60)) 60) := rfl
  have hy11 : rm .i64 (Int.tmod (min (max t1 0) 253402300799) 86400) 60 = some (Int.tmod (Int.tmod (min (max t1 0) 253402300799) 86400) 60) := rfl
  try simp only [WW, ↓reduceIte, nA, nB, nC, nD, nE, nF, nG, reduceCtorEq, L_head_Date, hy4, hy5, hy6, hy7, hy8, hy9, hy10, hy11, encFieldV, encL1b8]
  obtain ⟨r8, hy12, h⟩ := bnd' h
  refine UK_e (as' := [(.int .i64 r4)]) (h := head_two_ok (nn1 := r4)  hy12) (hw := WL.cons (Wx.int) (WL.nil)) (hh := WxH.refl _) ?_
  try simp only [WW, ↓reduceIte, nA, nB, nC, nD, nE, nF, nG, reduceCtorEq, L_head_Date, encFieldV, encL1b8]
  obtain ⟨x9, hy13, h⟩ := bnd' h
  obtain ⟨x10, hy14, h⟩ := bnd' h
  obtain ⟨x11, hy15, h⟩ := bnd' h
  obtain ⟨x12, hy16, h⟩ := bnd' h
  try simp only [WW, ↓reduceIte, nA, nB, nC, nD, nE, nF, nG, reduceCtorEq, L_head_Date, hy13, hy14, hy15, hy16, encFieldV, encL1b8]
  obtain ⟨r13, hy17, h⟩ := bnd' h
  refine UK_e (as' := [(.int .i64 r2)]) (h := head_four_ok (nn1 := r2)  hy17) (hw := WL.cons (Wx.int) (WL.nil)) (hh := WxH.refl _) ?_
  try simp only [WW, ↓reduceIte, nA, nB, nC, nD, nE, nF, nG, reduceCtorEq, L_head_Date, encFieldV, encL1b8]
  obtain ⟨x14, hy18, h⟩ := bnd' h
  obtain ⟨x15, hy19, h⟩ := bnd' h
  try simp only [WW, ↓reduceIte, nA, nB, nC, nD, nE, nF, nG, reduceCtorEq, L_head_Date, hy18, hy19, encFieldV, encL1b8]
  obtain ⟨r16, hy20, h⟩ := bnd' h
  refine UK_e (as' := [(.int .i64 (IntKind.wrap .i64 (Int.tdiv (Int.tmod (min (max t1 0) 253402300799) 86400) 3600)))]) (h := head_two_ok (nn1 := (IntKind.wrap .i64 (Int.tdiv (Int.tmod (min (max t1 0) 253402300799) 86400) 3600)))  hy20) (hw := WL.cons (Wx.int) (WL.nil)) (hh := WxH.refl _) ?_
  try simp only [WW, ↓reduceIte, nA, nB, nC, nD, nE, nF, nG, reduceCtorEq, L_head_Date, encFieldV, encL1b8]
  obtain ⟨x17, hy21, h⟩ := bnd' h
  obtain ⟨x18, hy22, h⟩ := bnd' h
  try simp only [WW, ↓reduceIte, nA, nB, nC, nD, nE, nF, nG, reduceCtorEq, L_head_Date, hy21, hy22, encFieldV, encL1b8]
  obtain ⟨r19, hy23, h⟩ := bnd' h
  refine UK_e (as' := [(.int .i64 (Int.tmod (IntKind.wrap .i64 (Int.tdiv (Int.tmod (min (max t1 0) 253402300799) 86400) 60)) 60))]) (h := head_two_ok (nn1 := (Int.tmod (IntKind.wrap .i64 (Int.tdiv (Int.tmod (min (max t1 0) 253402300799) 86400) 60)) 60))  hy23) (hw := WL.cons (Wx.int) (WL.nil)) (hh := WxH.refl _) ?_
  try simp only [WW, ↓reduceIte, nA, nB, nC, nD, nE, nF, nG, reduceCtorEq, L_head_Date, encFieldV, encL1b8]
  obtain ⟨x20, hy24, h⟩ := bnd' h
  obtain ⟨x21, hy25, h⟩ := bnd' h
  try simp only [WW, ↓reduceIte, nA, nB, nC, nD, nE, nF, nG, reduceCtorEq, L_head_Date, hy24, hy25, encFieldV, encL1b8]
  obtain ⟨r22, hy26, h⟩ := bnd' h
  refine UK_e (as' := [(.int .i64 (Int.tmod (Int.tmod (min (max t1 0) 253402300799) 86400) 60))]) (h := head_two_ok (nn1 := (Int.tmod (Int.tmod (min (max t1 0) 253402300799) 86400) 60))  hy26) (hw := WL.cons (Wx.int) (WL.nil)) (hh := WxH.refl _) ?_
  try simp only [WW, ↓reduceIte, nA, nB, nC, nD, nE, nF, nG, reduceCtorEq, L_head_Date, encFieldV, encL1b8]
  obtain ⟨x23, hy27, h⟩ := bnd' h
  obtain ⟨x24, hy28, h⟩ := bnd' h
  try simp only [WW, ↓reduceIte, nA, nB, nC, nD, nE, nF, nG, reduceCtorEq, L_head_Date, hy27, hy28, encFieldV, encL1b8]
  have hq := Option.some.inj h; subst hq
  refine hK0 _ _ _ (.inr rfl) ?_
  exact fn_endp hcl (resv_tmp (a := (.str x24)) rfl rfl resv_nil) (by first | (simp [fin, b_df, b_sh, b_sh1, b_Cl]; done) | (simp [fin, AV.df, AV.sh, AV.sh1, b_df, b_sh, b_sh1, b_Cl]; done)) (Wx.str) (r' := (.str x24)) ⟨rfl, rfl⟩

/-! ### mailbag/mailbaglaw18.known -/
def c_law18_known_p1 : ACode := (.rg (⟨(some 16), (.mv (.t 1)), none⟩ :: ⟨(some 17), (.len (.t 16)), none⟩ :: ⟨(some 18), (.bin .eql (.t 17) (.c (.int .i64 2))), none⟩ :: ⟨(some 19), (.mv (.t 18)), none⟩ :: ⟨(some 20), (.mv (.t 1)), (some (19, true))⟩ :: ⟨(some 21), (.ixa 2 (.t 20) (.c (.int .i64 0))), (some (19, true))⟩ :: ⟨(some 22), (.fld (.t 21) 1), (some (19, true))⟩ :: ⟨(some 23), (.ld (.t 22) none), (some (19, true))⟩ :: ⟨(some 24), (.bin .eql (.t 23) (.c (.str [32, 49, 13, 10, 32, 109, 111, 114, 101]))), (some (19, true))⟩ :: ⟨(some 25), (.pick (.t 19) (.t 24) (.c (.bool false))), none⟩ :: ⟨(some 26), (.mv (.t 25)), none⟩ :: ⟨(some 27), (.mv (.t 2)), (some (26, true))⟩ :: ⟨(some 28), (.cvt .bs (.t 27)), (some (26, true))⟩ :: ⟨(some 29), (.bin .eql (.t 28) (.c (.str [98, 111, 100, 121, 13, 10]))), (some (26, true))⟩ :: ⟨(some 30), (.pick (.t 26) (.t 29) (.c (.bool false))), none⟩ :: ⟨(some 31), (.mv (.t 30)), none⟩ :: ⟨(some 32), (.mv (.t 3)), (some (31, true))⟩ :: ⟨(some 33), (.bin .eql (.t 32) (.c (.str [50]))), (some (31, true))⟩ :: ⟨(some 34), (.pick (.t 31) (.t 33) (.c (.bool false))), none⟩ :: ⟨(some 35), (.mv (.t 34)), none⟩ :: ⟨(some 36), (.mv (.t 4)), (some (35, true))⟩ :: ⟨(some 37), (.bin .eql (.t 36) (.c (.int .i64 1))), (some (35, true))⟩ :: ⟨(some 38), (.pick (.t 35) (.t 37) (.c (.bool false))), none⟩ :: ⟨(some 39), (.mv (.t 38)), none⟩ :: ⟨(some 40), (.call (.c (.fn 15 [])) [(.c (.int .i64 951782400))]), (some (39, true))⟩ :: ⟨(some 41), (.bin .eql (.t 40) (.c (.str (84 :: 117 :: 101 :: 44 :: 32 :: 50 :: 57 :: 32 :: 70 :: 101 :: 98 :: 32 :: 50 :: 48 :: 48 :: 48 :: 32 :: 48 :: 48 :: 58 :: 48 :: 48 :: 58 :: 48 :: 48 :: 32 :: 43 :: 48 :: 48 :: 48 :: 48 :: [])))), (some (39, true))⟩ :: ⟨(some 42), (.pick (.t 39) (.t 41) (.c (.bool false))), none⟩ :: ⟨(some 43), (.mv (.t 42)), none⟩ :: ⟨(some 44), (.call (.c (.fn 25 [])) [(.c (.str [88, 45, 121]))]), (some (43, true))⟩ :: ⟨(some 45), (.pick (.t 43) (.t 44) (.c (.bool false))), none⟩ :: ⟨(some 46), (.mv (.t 45)), none⟩ :: ⟨(some 47), (.call (.c (.fn 25 [])) [(.c (.str [97, 32, 98]))]), (some (46, true))⟩ :: ⟨(some 48), (.un .not (.t 47)), (some (46, true))⟩ :: ⟨(some 49), (.pick (.t 46) (.t 48) (.c (.bool false))), none⟩ :: ⟨(some 0), (.asg (.t 49)), none⟩ :: []))
abbrev m_law18_known_p1 := c_law18_known_p1
def c_law18_known : ACode := (.seq (.rg [⟨(some 0), (.asg (.c (.bool false))), none⟩]) (.seq (.rg [⟨(some 7), (.lit 6 [65, 58, 32, 49, 13, 10, 32, 109, 111, 114, 101, 13, 10, 66, 58, 50, 13, 10, 13, 10, 98, 111, 100, 121]), none⟩, ⟨(some 8), (.call (.c (.fn 18 [])) [(.t 7)]), none⟩, ⟨(some 5), (.mv (.t 8)), none⟩, ⟨(some 9), (.ext (.t 5) 0), none⟩, ⟨(some 10), (.ext (.t 5) 1), none⟩, ⟨(some 1), (.asg (.t 9)), none⟩, ⟨(some 2), (.asg (.t 10)), none⟩]) (.seq (.rg [⟨(some 12), (.mv (.t 1)), none⟩, ⟨(some 13), (.call (.c (.fn 19 [])) [(.t 12), (.c (.str [98]))]), none⟩, ⟨(some 11), (.mv (.t 13)), none⟩, ⟨(some 14), (.ext (.t 11) 0), none⟩, ⟨(some 15), (.ext (.t 11) 1), none⟩, ⟨(some 3), (.asg (.t 14)), none⟩, ⟨(some 4), (.asg (.t 15)), none⟩]) (.seq c_law18_known_p1 .ret))))
def m_law18_known : ACode := (.seq (.rg [⟨(some 0), (.asg (.c (.bool false))), none⟩]) (.seq (.rg [⟨(some 7), (.lit 6 [65, 58, 32, 49, 13, 10, 32, 109, 111, 114, 101, 13, 10, 66, 58, 50, 13, 10, 13, 10, 98, 111, 100, 121]), none⟩, ⟨(some 8), (.call (.c (.fn 18 [])) [(.t 7)]), none⟩, ⟨(some 5), (.mv (.t 8)), none⟩, ⟨(some 9), (.ext (.t 5) 0), none⟩, ⟨(some 10), (.ext (.t 5) 1), none⟩, ⟨(some 1), (.asg (.t 9)), none⟩, ⟨(some 2), (.asg (.t 10)), none⟩]) (.seq (.rg [⟨(some 12), (.mv (.t 1)), none⟩, ⟨(some 13), (.call (.c (.fn 19 [])) [(.t 12), (.c (.str [98]))]), none⟩, ⟨(some 11), (.mv (.t 13)), none⟩, ⟨(some 14), (.ext (.t 11) 0), none⟩, ⟨(some 15), (.ext (.t 11) 1), none⟩, ⟨(some 3), (.asg (.t 14)), none⟩, ⟨(some 4), (.asg (.t 15)), none⟩]) (.seq (.sem c_law18_known_p1) .ret))))
theorem k_law18_known : FnOk Tryd.prog 14 50 [(.tmp 0)] c_law18_known := ⟨Tryd.f14, _, rfl, by decide, rfl, by kernel_rfl, rfl, rfl⟩
abbrev L_law18_known : List Nat := [0, 1, 2, 3, 4]
def law18_known_p1 (F : Nat) (r1 : List FieldV) (r2 : List UInt8) (r3 : List UInt8) (r4 : Int) : Option (Bool) :=
  (if (decide ((r1.length : Int) = 2)) then
    (idx r1 0).bind fun x5 =>
    (if (decide (x5.value = ([32, 49, 13, 10, 32, 109, 111, 114, 101] : List UInt8))) then
      (if (decide (r2 = ([98, 111, 100, 121, 13, 10] : List UInt8))) then
        (if (decide (r3 = ([50] : List UInt8))) then
          (if (decide (r4 = 1)) then
            (head_Date F 951782400).bind fun r6 =>
            (if (decide (r6 = ((84 :: 117 :: 101 :: 44 :: 32 :: 50 :: 57 :: 32 :: 70 :: 101 :: 98 :: 32 :: 50 :: 48 :: 48 :: 48 :: 32 :: 48 :: 48 :: 58 :: 48 :: 48 :: 58 :: 48 :: 48 :: 32 :: 43 :: 48 :: 48 :: 48 :: 48 :: []) : List UInt8))) then
              (head_Name F ([88, 45, 121] : List UInt8)).bind fun r7 =>
              (if r7 then
                (head_Name F ([97, 32, 98] : List UInt8)).bind fun r8 => some (!r8)
              else
                some false)
            else
              some false)
          else
            some false)
        else
          some false)
      else
        some false)
    else
      some false)
  else
    some false)
def law18_known (F : Nat)  : Option (Bool) :=
  (head_Split F ([65, 58, 32, 49, 13, 10, 32, 109, 111, 114, 101, 13, 10, 66, 58, 50, 13, 10, 13, 10, 98, 111, 100, 121] : List UInt8)).bind fun (r1, r2) =>
  (head_Get F r1 ([98] : List UInt8)).bind fun (r3, r4) => (law18_known_p1 F r1 r2 r3 r4).bind fun t10 =>
  some t10
theorem law18_known_p1_ok {F : Nat} {r1 : List FieldV} {r2 : List UInt8} {r3 : List UInt8} {r4 : Int} {H : AH}  {K : Exit → Env → AH → Prop} {t9 : Bool}
    (h : law18_known_p1 F r1 r2 r3 r4 = some t9)
    (kn : K .normal [(0, (.bool t9))] H) :
    AX Tryd.prog L_law18_known 50 H.length c_law18_known_p1 K [(0, (.bool false)), (1, (.sl .n 2 (ml encFieldV r1))), (2, (.sl .n 1 (ml b8 r2))), (3, (.str r3)), (4, (.int .i64 r4))] H := by
  refine AX.go (m := m_law18_known_p1) rfl (by decide) fun K' hK => ?_
  rw [law18_known_p1.eq_1] at h
  try simp only [WW, ↓reduceIte, nA, nB, nC, nD, nE, nF, nG, reduceCtorEq, L_law18_known, m_law18_known_p1, c_law18_known_p1, encFieldV, encL1b8]
  rcases ifb h with ⟨hy3, h⟩ | ⟨hy3, h⟩
  · refine UG_go hy3 ?_
    obtain ⟨x5, hy4, h⟩ := bnd' h
    try simp only [WW, ↓reduceIte, nA, nB, nC, nD, nE, nF, nG, reduceCtorEq, L_law18_known, hy3, hy4, encFieldV, encL1b8]
    rcases ifb h with ⟨hy5, h⟩ | ⟨hy5, h⟩
    · refine UG_go hy5 ?_
      try simp only [WW, ↓reduceIte, nA, nB, nC, nD, nE, nF, nG, reduceCtorEq, L_law18_known, hy5, encFieldV, encL1b8]
      rcases ifb h with ⟨hy6, h⟩ | ⟨hy6, h⟩
      · refine UG_go hy6 ?_
        try simp only [WW, ↓reduceIte, nA, nB, nC, nD, nE, nF, nG, reduceCtorEq, L_law18_known, hy6, encFieldV, encL1b8]
        rcases ifb h with ⟨hy7, h⟩ | ⟨hy7, h⟩
        · refine UG_go hy7 ?_
          try simp only [WW, ↓reduceIte, nA, nB, nC, nD, nE, nF, nG, reduceCtorEq, L_law18_known, hy7, encFieldV, encL1b8]
          rcases ifb h with ⟨hy8, h⟩ | ⟨hy8, h⟩
          · refine UG_go hy8 ?_
            try simp only [WW, ↓reduceIte, nA, nB, nC, nD, nE, nF, nG, reduceCtorEq, L_law18_known, hy8, encFieldV, encL1b8]
            obtain ⟨r6, hy9, h⟩ := bnd' h
            refine UK_e (as' := [(.int .i64 951782400)]) (h := head_Date_ok (t1 := 951782400) (F := F)  hy9) (hw := WL.cons (Wx.int) (WL.nil)) (hh := WxH.refl _) ?_
            try simp only [WW, ↓reduceIte, nA, nB, nC, nD, nE, nF, nG, reduceCtorEq, L_law18_known, encFieldV, encL1b8]
            rcases ifb h with ⟨hy10, h⟩ | ⟨hy10, h⟩
            · refine UG_go hy10 ?_
              try simp only [WW, ↓reduceIte, nA, nB, nC, nD, nE, nF, nG, reduceCtorEq, L_law18_known, hy10, encFieldV, encL1b8]
              obtain ⟨r7, hy11, h⟩ := bnd' h
              refine UK_e (as' := [(.str ([88, 45, 121] : List UInt8))]) (h := head_Name_ok (s1 := ([88, 45, 121] : List UInt8)) (F := F)  hy11) (hw := WL.cons (Wx.str) (WL.nil)) (hh := WxH.refl _) ?_
              try simp only [WW, ↓reduceIte, nA, nB, nC, nD, nE, nF, nG, reduceCtorEq, L_law18_known, encFieldV, encL1b8]
              rcases ifb h with ⟨hy12, h⟩ | ⟨hy12, h⟩
              · refine UG_go hy12 ?_
                try simp only [WW, ↓reduceIte, nA, nB, nC, nD, nE, nF, nG, reduceCtorEq, L_law18_known, hy12, encFieldV, encL1b8]
                obtain ⟨r8, hy13, h⟩ := bnd' h
                refine UK_e (as' := [(.str ([97, 32, 98] : List UInt8))]) (h := head_Name_ok (s1 := ([97, 32, 98] : List UInt8)) (F := F)  hy13) (hw := WL.cons (Wx.str) (WL.nil)) (hh := WxH.refl _) ?_
                try simp only [WW, ↓reduceIte, nA, nB, nC, nD, nE, nF, nG, reduceCtorEq, L_law18_known, encFieldV, encL1b8]
                have hq := Option.some.inj h; subst hq
                refine hK _ _ _ _ _ ?_ (WxH.refl _) (kn )
                exact WE.cons (Wx.bool) (WE.nil)
              · refine UG_nt hy12 ?_
                try simp only [WW, ↓reduceIte, nA, nB, nC, nD, nE, nF, nG, reduceCtorEq, L_law18_known, hy12, encFieldV, encL1b8]
                have hq := Option.some.inj h; subst hq
                refine hK _ _ _ _ _ ?_ (WxH.refl _) (kn )
                exact WE.cons (Wx.bool) (WE.nil)
            · refine UG_nt hy10 ?_
              try simp only [WW, ↓reduceIte, nA, nB, nC, nD, nE, nF, nG, reduceCtorEq, L_law18_known, hy10, encFieldV, encL1b8]
              have hq := Option.some.inj h; subst hq
              refine hK _ _ _ _ _ ?_ (WxH.refl _) (kn )
              exact WE.cons (Wx.bool) (WE.nil)
          · refine UG_nt hy8 ?_
            try simp only [WW, ↓reduceIte, nA, nB, nC, nD, nE, nF, nG, reduceCtorEq, L_law18_known, hy8, encFieldV, encL1b8]
            have hq := Option.some.inj h; subst hq
            refine hK _ _ _ _ _ ?_ (WxH.refl _) (kn )
            exact WE.cons (Wx.bool) (WE.nil)
        · refine UG_nt hy7 ?_
          try simp only [WW, ↓reduceIte, nA, nB, nC, nD, nE, nF, nG, reduceCtorEq, L_law18_known, hy7, encFieldV, encL1b8]
          have hq := Option.some.inj h; subst hq
          refine hK _ _ _ _ _ ?_ (WxH.refl _) (kn )
          exact WE.cons (Wx.bool) (WE.nil)
      · refine UG_nt hy6 ?_
        try simp only [WW, ↓reduceIte, nA, nB, nC, nD, nE, nF, nG, reduceCtorEq, L_law18_known, hy6, encFieldV, encL1b8]
        have hq := Option.some.inj h; subst hq
        refine hK _ _ _ _ _ ?_ (WxH.refl _) (kn )
        exact WE.cons (Wx.bool) (WE.nil)
    · refine UG_nt hy5 ?_
      try simp only [WW, ↓reduceIte, nA, nB, nC, nD, nE, nF, nG, reduceCtorEq, L_law18_known, hy5, encFieldV, encL1b8]
      have hq := Option.some.inj h; subst hq
      refine hK _ _ _ _ _ ?_ (WxH.refl _) (kn )
      exact WE.cons (Wx.bool) (WE.nil)
  · refine UG_nt hy3 ?_
    try simp only [WW, ↓reduceIte, nA, nB, nC, nD, nE, nF, nG, reduceCtorEq, L_law18_known, hy3, encFieldV, encL1b8]
    have hq := Option.some.inj h; subst hq
    refine hK _ _ _ _ _ ?_ (WxH.refl _) (kn )
    exact WE.cons (Wx.bool) (WE.nil)
theorem law18_known_ok {F : Nat}   {H0 : AH}  {rz0 : Bool} (h : law18_known F  = some rz0) :
    ACalls Tryd.prog 14 [] H0 fun v H' => v = (.bool rz0) ∧ H' = H0 := by
  refine ACalls.goX k_law18_known (m := m_law18_known) rfl L_law18_known (by decide) (by simp) fun hcl K0 hK0 => ?_
  refine AX.of_U (m := m_law18_known) rfl (by decide) ?_
  rw [law18_known.eq_1] at h
  try simp only [WW, ↓reduceIte, nA, nB, nC, nD, nE, nF, nG, reduceCtorEq, L_law18_known, m_law18_known, encFieldV, encL1b8]
  obtain ⟨⟨r1, r2⟩, hy1, h⟩ := bnd' h
  dsimp only at h
  refine UK_e (as' := [(.sl .n 1 (ml b8 ([65, 58, 32, 49, 13, 10, 32, 109, 111, 114, 101, 13, 10, 66, 58, 50, 13, 10, 13, 10, 98, 111, 100, 121] : List UInt8)))]) (h := head_Split_ok (b1 := ([65, 58, 32, 49, 13, 10, 32, 109, 111, 114, 101, 13, 10, 66, 58, 50, 13, 10, 13, 10, 98, 111, 100, 121] : List UInt8)) (F := F)  hy1) (hw := WL.cons (Wx.n) (WL.nil)) (hh := WxH.refl _) ?_
  try simp only [WW, ↓reduceIte, nA, nB, nC, nD, nE, nF, nG, reduceCtorEq, L_law18_known, encFieldV, encL1b8]
  obtain ⟨⟨r3, r4⟩, hy2, h⟩ := bnd' h
  dsimp only at h
  refine UK_e (as' := [(.sl .n 2 (ml encFieldV r1)), (.str ([98] : List UInt8))]) (h := head_Get_ok (l1 := r1) (name2 := ([98] : List UInt8)) (F := F)  hy2) (hw := WL.cons (Wx.nn) (WL.cons (Wx.str) (WL.nil))) (hh := WxH.refl _) ?_
  try simp only [WW, ↓reduceIte, nA, nB, nC, nD, nE, nF, nG, reduceCtorEq, L_law18_known, encFieldV, encL1b8]
  obtain ⟨t10, hy14, h⟩ := bnd' h
  refine UX_of (AX.weak ?_ (WxH.refl _) (law18_known_p1_ok (F := F) (r1 := r1) (r2 := r2) (r3 := r3) (r4 := r4) (t9 := t10)   hy14 ?_))
  · exact WE.cons (Wx.bool) (WE.cons (Wx.nn) (WE.cons (Wx.nn) (WE.cons (Wx.str) (WE.cons (Wx.int) (WE.nil)))))
  try simp only [WW, ↓reduceIte, nA, nB, nC, nD, nE, nF, nG, reduceCtorEq, L_law18_known, encFieldV, encL1b8]
  have hq := Option.some.inj h; subst hq
  refine hK0 _ _ _ (.inr rfl) ?_
  exact fn_endp hcl (resv_tmp (a := (.bool t10)) rfl rfl resv_nil) (by first | (simp [fin, b_df, b_sh, b_sh1, b_Cl]; done) | (simp [fin, AV.df, AV.sh, AV.sh1, b_df, b_sh, b_sh1, b_Cl]; done)) (Wx.bool) (r' := (.bool t10)) ⟨rfl, rfl⟩

end Go.Proofs.HeadS
