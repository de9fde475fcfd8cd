import Derived.Test.YtfnnmecilcnloaaDoorAS1
set_option linter.unusedSimpArgs false
set_option linter.unusedVariables false
set_option linter.unusedSectionVars false
set_option linter.defProp false
set_option maxRecDepth 100000
namespace Go.Proofs.AddrS
open Go Go.Am Go.Proofs
open Nat renaming reduceEqDiff → nA, reduceLT → nB, reduceLeDiff → nC, reduceAdd → nD, reduceSub → nE, reduceMul → nF, reduceBEq → nG
set_option maxHeartbeats 2000000

/-! ### mailbag/addr.every -/
def c_addr_every_sxx_l1b : ACode := (.seq (.rg [⟨(some 9), (.bin .lss (.t 8) (.t 7)), none⟩]) (.seq (.cond (.t 9) .skip (.exit 0)) (.seq (.blk 1 (.seq (.rg [⟨(some 10), (.mv (.t 8)), none⟩, ⟨(some 5), (.asg (.t 10)), none⟩]) (.seq (.rg [⟨(some 11), (.mv (.t 1)), none⟩, ⟨(some 12), (.mv (.t 0)), none⟩, ⟨(some 13), (.mv (.t 5)), none⟩, ⟨(some 14), (.ixs (.t 12) (.t 13)), none⟩, ⟨(some 15), (.call (.t 11) [(.t 14)]), none⟩, ⟨(some 16), (.un .not (.t 15)), none⟩]) (.cond (.t 16) (.seq (.rg [⟨(some 4), (.asg (.c (.bool false))), none⟩]) .ret) .skip)))) (.rg [⟨(some 17), (.bin .add (.t 8) (.c (.int .i64 1))), none⟩, ⟨(some 8), (.mv (.t 17)), none⟩]))))
def c_addr_every_sxx_l1 : ACode := (.loop c_addr_every_sxx_l1b)
abbrev m_addr_every_sxx_l1b := c_addr_every_sxx_l1b
def c_addr_every_sxx : ACode := (.seq (.rg [⟨(some 4), (.asg (.c (.bool false))), none⟩]) (.seq (.seq (.rg [⟨(some 6), (.mv (.t 0)), none⟩, ⟨(some 7), (.lens (.t 6)), none⟩, ⟨(some 8), (.mv (.c (.int .i64 0))), none⟩]) (.blk 0 c_addr_every_sxx_l1)) (.seq (.rg [⟨(some 4), (.asg (.c (.bool true))), none⟩]) .ret)))
abbrev m_addr_every_sxx := c_addr_every_sxx
theorem k_addr_every_sxx : FnOk Tryd.prog 82 18 [(.tmp 4)] c_addr_every_sxx := ⟨Tryd.f82, _, rfl, by decide, rfl, by kernel_rfl, rfl, rfl⟩
abbrev L_addr_every_sxx : List Nat := [0, 1, 4, 5, 7, 8, 9, 16]
def addr_every_sxx_l1 (s1 : List UInt8) : (Bool × Int) → Option (St Bool Unit (Bool × Int))
  | (t2, t3) =>
    (if (decide (t3 < (s1.length : Int))) then
      (idx s1 t3).bind fun x4 =>
      (addr_visible x4).bind fun r5 =>
      (if (!r5) then
        some (.ret false)
      else
        some (.nxt (t2, (IntKind.wrap .i64 (t3 + 1)))))
    else
      some (.brk ()))
def addr_every_sxx (F : Nat) (s1 : List UInt8) : Option (Bool) :=
  ((iter (addr_every_sxx_l1 s1) F (false, 0)).bind fun o8 =>
  match o8 with
  | .inr () =>
    some true
  | .inl r7 =>
    some r7)
theorem addr_every_sxx_l1_ok {F : Nat} {t3 : Int} {s1 : List UInt8} {t2 : Bool} {H : AH}  {K : Exit → Env → AH → Prop} {o : (Bool) ⊕ (Unit)}
    (h : iter (addr_every_sxx_l1 s1) F (t2, t3) = some o)
    (kb0 : ∀ o' : Unit, o = .inr o' → K (.exit 0) [] H)
    (kr : ∀ o' : Bool, o = .inl o' → K .ret [(4, (.bool o'))] H) :
    AX Tryd.prog L_addr_every_sxx 18 H.length c_addr_every_sxx_l1 K [(0, (.str s1)), (1, (.fn 83 [])), (4, (.bool t2)), (7, (.int .i64 (s1.length : Int))), (8, (.int .i64 t3))] H := by
  refine AX.iter (m := m_addr_every_sxx_l1b) rfl (by decide) (fun s e H1 => match s with | (t2, t3) => e = [(0, (.str s1)), (1, (.fn 83 [])), (4, (.bool t2)), (7, (.int .i64 (s1.length : Int))), (8, (.int .i64 t3))] ∧ H1 = H) h ⟨rfl, rfl⟩ ?_
  rintro K' ⟨t2, t3⟩ st e H ⟨rfl, rfl⟩ h hN hB hR hX
  rw [addr_every_sxx_l1.eq_1] at h
  try simp only [WW, ↓reduceIte, nA, nB, nC, nD, nE, nF, nG, reduceCtorEq, L_addr_every_sxx, m_addr_every_sxx_l1b, c_addr_every_sxx_l1b]
  rcases ifb h with ⟨hy1, h⟩ | ⟨hy1, h⟩
  · refine UC_t hy1 ?_
    obtain ⟨x4, hy2, h⟩ := bnd' h
    try simp only [WW, ↓reduceIte, nA, nB, nC, nD, nE, nF, nG, reduceCtorEq, L_addr_every_sxx, hy2]
    obtain ⟨r5, hy3, h⟩ := bnd' h
    refine UK_e (as' := [(b8 x4)]) (h := addr_visible_ok (c1 := x4)  hy3) (hw := WL.cons (Wx.b8) (WL.nil)) (hh := WxH.refl _) ?_
    try simp only [WW, ↓reduceIte, nA, nB, nC, nD, nE, nF, nG, reduceCtorEq, L_addr_every_sxx]
    rcases ifb h with ⟨hy4, h⟩ | ⟨hy4, h⟩
    · refine UC_t hy4 ?_
      try simp only [WW, ↓reduceIte, nA, nB, nC, nD, nE, nF, nG, reduceCtorEq, L_addr_every_sxx]
      have hq := Option.some.inj h; subst hq
      refine hX _ _ _ _ _ (by simp) ?_ (WxH.refl _) (kr _ (hR _ rfl) )
      exact WE.cons (Wx.bool) (WE.nil)
    · refine UC_f hy4 ?_
      try simp only [WW, ↓reduceIte, nA, nB, nC, nD, nE, nF, nG, reduceCtorEq, L_addr_every_sxx]
      have hq := Option.some.inj h; subst hq
      refine hN _ rfl _ _ _ _ ?_ (WxH.refl _) ⟨rfl, rfl⟩
      exact WE.cons (Wx.str) (WE.cons (Wx.fn) (WE.cons (Wx.bool) (WE.cons (Wx.int) (WE.cons (Wx.int) (WE.nil)))))
  · refine UC_f hy1 ?_
    try simp only [WW, ↓reduceIte, nA, nB, nC, nD, nE, nF, nG, reduceCtorEq, L_addr_every_sxx]
    have hq := Option.some.inj h; subst hq
    refine hX _ _ _ _ _ (by simp) ?_ (WxH.refl _) (kb0 _ (hB _ rfl) )
    exact WE.nil
theorem addr_every_sxx_ok {F : Nat} {s1 : List UInt8}  {H0 : AH}  {rz0 : Bool} (h : addr_every_sxx F s1 = some rz0) :
    ACalls Tryd.prog 82 [(.str s1), (.fn 83 [])] H0 fun v H' => v = (.bool rz0) ∧ H' = H0 := by
  refine ACalls.goX k_addr_every_sxx (m := m_addr_every_sxx) rfl L_addr_every_sxx (by decide) (by simp) fun hcl K0 hK0 => ?_
  refine AX.of_U (m := m_addr_every_sxx) rfl (by decide) ?_
  rw [addr_every_sxx.eq_1] at h
  try simp only [WW, ↓reduceIte, nA, nB, nC, nD, nE, nF, nG, reduceCtorEq, L_addr_every_sxx, m_addr_every_sxx, c_addr_every_sxx]
  obtain ⟨o8, hy5, h⟩ := bnd' h
  refine UX_of (AX.weak ?_ (WxH.refl _) (addr_every_sxx_l1_ok  (s1 := s1) (t2 := false) (t3 := 0)   (o := o8) hy5 ?_ ?_))
  · exact WE.cons (Wx.str) (WE.cons (Wx.fn) (WE.cons (Wx.bool) (WE.cons (Wx.int) (WE.cons (Wx.int) (WE.nil)))))
  · rintro ⟨⟩ rfl  
    try dsimp only at h 
    try simp only [WW, ↓reduceIte, nA, nB, nC, nD, nE, nF, nG, reduceCtorEq, L_addr_every_sxx]
    have hq := Option.some.inj h; subst hq
    refine hK0 _ _ _ (.inr rfl) ?_
    exact fn_endp hcl (resv_tmp (a := (.bool true)) rfl rfl resv_nil) (by first | (simp [fin, b_df, b_sh, b_sh1, b_Cl]; done) | (simp [fin, AV.df, AV.sh, AV.sh1, b_df, b_sh, b_sh1, b_Cl]; done)) (Wx.bool) (r' := (.bool true)) ⟨rfl, rfl⟩
  · rintro r7 rfl  
    try dsimp only at h 
    try simp only [WW, ↓reduceIte, nA, nB, nC, nD, nE, nF, nG, reduceCtorEq, L_addr_every_sxx]
    have hq := Option.some.inj h; subst hq
    refine hK0 _ _ _ (.inr rfl) ?_
    exact fn_endp hcl (resv_tmp (a := (.bool r7)) rfl rfl resv_nil) (by first | (simp [fin, b_df, b_sh, b_sh1, b_Cl]; done) | (simp [fin, AV.df, AV.sh, AV.sh1, b_df, b_sh, b_sh1, b_Cl]; done)) (Wx.bool) (r' := (.bool r7)) ⟨rfl, rfl⟩

/-! ### mailbag/addr.Local -/
def c_addr_Local_p1 : ACode := (.rg [⟨(some 3), (.mv (.t 0)), none⟩, ⟨(some 4), (.bin .neq (.t 3) (.c (.str []))), none⟩, ⟨(some 5), (.mv (.t 4)), none⟩, ⟨(some 6), (.mv (.t 0)), (some (5, true))⟩, ⟨(some 7), (.lens (.t 6)), (some (5, true))⟩, ⟨(some 8), (.bin .leq (.t 7) (.c (.int .i64 64))), (some (5, true))⟩, ⟨(some 9), (.pick (.t 5) (.t 8) (.c (.bool false))), none⟩, ⟨(some 10), (.mv (.t 9)), none⟩, ⟨(some 11), (.mv (.t 0)), (some (10, true))⟩, ⟨(some 12), (.call (.c (.fn 82 [])) [(.t 11), (.c (.fn 83 []))]), (some (10, true))⟩, ⟨(some 13), (.pick (.t 10) (.t 12) (.c (.bool false))), none⟩, ⟨(some 2), (.asg (.t 13)), none⟩])
abbrev m_addr_Local_p1 := c_addr_Local_p1
def c_addr_Local : ACode := (.seq (.rg [⟨(some 2), (.asg (.c (.bool false))), none⟩]) (.seq c_addr_Local_p1 .ret))
def m_addr_Local : ACode := (.seq (.rg [⟨(some 2), (.asg (.c (.bool false))), none⟩]) (.seq (.sem c_addr_Local_p1) .ret))
theorem k_addr_Local : FnOk Tryd.prog 39 14 [(.tmp 2)] c_addr_Local := ⟨Tryd.f39, _, rfl, by decide, rfl, by kernel_rfl, rfl, rfl⟩
abbrev L_addr_Local : List Nat := [0, 2]
def addr_Local_p1 (F : Nat) (s1 : List UInt8) : Option (Bool) :=
  (if (!decide (s1 = ([] : List UInt8))) then
    (if (decide ((s1.length : Int) ≤ 64)) then
      (addr_every_sxx F s1).bind fun r2 => some r2
    else
      some false)
  else
    some false)
def addr_Local (F : Nat) (s1 : List UInt8) : Option (Bool) :=
  (addr_Local_p1 F s1).bind fun t4 =>
  some t4
theorem addr_Local_p1_ok {F : Nat} {s1 : List UInt8} {H : AH}  {K : Exit → Env → AH → Prop} {t3 : Bool}
    (h : addr_Local_p1 F s1 = some t3)
    (kn : K .normal [(2, (.bool t3))] H) :
    AX Tryd.prog L_addr_Local 14 H.length c_addr_Local_p1 K [(0, (.str s1)), (2, (.bool false))] H := by
  refine AX.go (m := m_addr_Local_p1) rfl (by decide) fun K' hK => ?_
  rw [addr_Local_p1.eq_1] at h
  try simp only [WW, ↓reduceIte, nA, nB, nC, nD, nE, nF, nG, reduceCtorEq, L_addr_Local, m_addr_Local_p1, c_addr_Local_p1]
  rcases ifb h with ⟨hy1, h⟩ | ⟨hy1, h⟩
  · refine UG_go hy1 ?_
    try simp only [WW, ↓reduceIte, nA, nB, nC, nD, nE, nF, nG, reduceCtorEq, L_addr_Local, hy1]
    rcases ifb h with ⟨hy2, h⟩ | ⟨hy2, h⟩
    · refine UG_go hy2 ?_
      try simp only [WW, ↓reduceIte, nA, nB, nC, nD, nE, nF, nG, reduceCtorEq, L_addr_Local, hy2]
      obtain ⟨r2, hy3, h⟩ := bnd' h
      refine UK_e (as' := [(.str s1), (.fn 83 [])]) (h := addr_every_sxx_ok (s1 := s1) (F := F)  hy3) (hw := WL.cons (Wx.str) (WL.cons (Wx.fn) (WL.nil))) (hh := WxH.refl _) ?_
      try simp only [WW, ↓reduceIte, nA, nB, nC, nD, nE, nF, nG, reduceCtorEq, L_addr_Local]
      have hq := Option.some.inj h; subst hq
      refine hK _ _ _ _ _ ?_ (WxH.refl _) (kn )
      exact WE.cons (Wx.bool) (WE.nil)
    · refine UG_nt hy2 ?_
      try simp only [WW, ↓reduceIte, nA, nB, nC, nD, nE, nF, nG, reduceCtorEq, L_addr_Local, hy2]
      have hq := Option.some.inj h; subst hq
      refine hK _ _ _ _ _ ?_ (WxH.refl _) (kn )
      exact WE.cons (Wx.bool) (WE.nil)
  · refine UG_nt hy1 ?_
    try simp only [WW, ↓reduceIte, nA, nB, nC, nD, nE, nF, nG, reduceCtorEq, L_addr_Local, hy1]
    have hq := Option.some.inj h; subst hq
    refine hK _ _ _ _ _ ?_ (WxH.refl _) (kn )
    exact WE.cons (Wx.bool) (WE.nil)
theorem addr_Local_ok {F : Nat} {s1 : List UInt8}  {H0 : AH}  {rz0 : Bool} (h : addr_Local F s1 = some rz0) :
    ACalls Tryd.prog 39 [(.str s1)] H0 fun v H' => v = (.bool rz0) ∧ H' = H0 := by
  refine ACalls.goX k_addr_Local (m := m_addr_Local) rfl L_addr_Local (by decide) (by simp) fun hcl K0 hK0 => ?_
  refine AX.of_U (m := m_addr_Local) rfl (by decide) ?_
  rw [addr_Local.eq_1] at h
  try simp only [WW, ↓reduceIte, nA, nB, nC, nD, nE, nF, nG, reduceCtorEq, L_addr_Local, m_addr_Local]
  obtain ⟨t4, hy4, h⟩ := bnd' h
  refine UX_of (AX.weak ?_ (WxH.refl _) (addr_Local_p1_ok (F := F) (s1 := s1) (t3 := t4)   hy4 ?_))
  · exact WE.cons (Wx.str) (WE.cons (Wx.bool) (WE.nil))
  try simp only [WW, ↓reduceIte, nA, nB, nC, nD, nE, nF, nG, reduceCtorEq, L_addr_Local]
  have hq := Option.some.inj h; subst hq
  refine hK0 _ _ _ (.inr rfl) ?_
  exact fn_endp hcl (resv_tmp (a := (.bool t4)) rfl rfl resv_nil) (by first | (simp [fin, b_df, b_sh, b_sh1, b_Cl]; done) | (simp [fin, AV.df, AV.sh, AV.sh1, b_df, b_sh, b_sh1, b_Cl]; done)) (Wx.bool) (r' := (.bool t4)) ⟨rfl, rfl⟩

/-! ### mailbag/addr.Domain$1 -/
def c_addr_Domain_1 : ACode := (.seq (.rg [⟨(some 2), (.asg (.c (.bool false))), none⟩]) (.seq (.rg [⟨(some 3), (.mv (.t 0)), none⟩, ⟨(some 4), (.lens (.t 3)), none⟩, ⟨(some 5), (.bin .gtr (.t 4) (.c (.int .i64 63))), none⟩, ⟨(some 2), (.asg (.t 5)), none⟩]) .ret))
abbrev m_addr_Domain_1 := c_addr_Domain_1
theorem k_addr_Domain_1 : FnOk Tryd.prog 76 6 [(.tmp 2)] c_addr_Domain_1 := ⟨Tryd.f76, _, rfl, by decide, rfl, by kernel_rfl, rfl, rfl⟩
abbrev L_addr_Domain_1 : List Nat := [0, 2]
def addr_Domain_1 (x1 : List UInt8) : Option (Bool) :=
  some (decide (63 < (x1.length : Int)))
theorem addr_Domain_1_ok {x1 : List UInt8}  {H0 : AH}  {rz0 : Bool} (h : addr_Domain_1 x1 = some rz0) :
    ACalls Tryd.prog 76 [(.str x1)] H0 fun v H' => v = (.bool rz0) ∧ H' = H0 := by
  refine ACalls.goX k_addr_Domain_1 (m := m_addr_Domain_1) rfl L_addr_Domain_1 (by decide) (by simp) fun hcl K0 hK0 => ?_
  refine AX.of_U (m := m_addr_Domain_1) rfl (by decide) ?_
  rw [addr_Domain_1.eq_1] at h
  try simp only [WW, ↓reduceIte, nA, nB, nC, nD, nE, nF, nG, reduceCtorEq, L_addr_Domain_1, m_addr_Domain_1, c_addr_Domain_1]
  have hq := Option.some.inj h; subst hq
  refine hK0 _ _ _ (.inr rfl) ?_
  exact fn_endp hcl (resv_tmp (a := (.bool (decide (63 < (x1.length : Int))))) rfl rfl resv_nil) (by first | (simp [fin, b_df, b_sh, b_sh1, b_Cl]; done) | (simp [fin, AV.df, AV.sh, AV.sh1, b_df, b_sh, b_sh1, b_Cl]; done)) (Wx.bool) (r' := (.bool (decide (63 < (x1.length : Int))))) ⟨rfl, rfl⟩

/-! ### slices.IndexFunc[[]string,string] -/
def c_slices_IndexFunc_sxxx_l1b : ACode := (.seq (.rg [⟨(some 9), (.bin .lss (.t 8) (.t 7)), none⟩]) (.seq (.cond (.t 9) .skip (.exit 0)) (.seq (.blk 1 (.seq (.rg [⟨(some 10), (.mv (.t 8)), none⟩, ⟨(some 5), (.asg (.t 10)), none⟩]) (.seq (.rg [⟨(some 11), (.mv (.t 1)), none⟩, ⟨(some 12), (.mv (.t 0)), none⟩, ⟨(some 13), (.mv (.t 5)), none⟩, ⟨(some 14), (.ixa 1 (.t 12) (.t 13)), none⟩, ⟨(some 15), (.ld (.t 14) none), none⟩, ⟨(some 16), (.call (.t 11) [(.t 15)]), none⟩]) (.cond (.t 16) (.seq (.rg [⟨(some 17), (.mv (.t 5)), none⟩, ⟨(some 4), (.asg (.t 17)), none⟩]) .ret) .skip)))) (.rg [⟨(some 18), (.bin .add (.t 8) (.c (.int .i64 1))), none⟩, ⟨(some 8), (.mv (.t 18)), none⟩]))))
def c_slices_IndexFunc_sxxx_l1 : ACode := (.loop c_slices_IndexFunc_sxxx_l1b)
abbrev m_slices_IndexFunc_sxxx_l1b := c_slices_IndexFunc_sxxx_l1b
def c_slices_IndexFunc_sxxx : ACode := (.seq (.rg [⟨(some 4), (.asg (.c (.int .i64 0))), none⟩]) (.seq (.seq (.rg [⟨(some 6), (.mv (.t 0)), none⟩, ⟨(some 7), (.len (.t 6)), none⟩, ⟨(some 8), (.mv (.c (.int .i64 0))), none⟩]) (.blk 0 c_slices_IndexFunc_sxxx_l1)) (.seq (.rg [⟨(some 4), (.asg (.c (.int .i64 (-1)))), none⟩]) .ret)))
abbrev m_slices_IndexFunc_sxxx := c_slices_IndexFunc_sxxx
theorem k_slices_IndexFunc_sxxx : FnOk Tryd.prog 109 19 [(.tmp 4)] c_slices_IndexFunc_sxxx := ⟨Tryd.f109, _, rfl, by decide, rfl, by kernel_rfl, rfl, rfl⟩
abbrev L_slices_IndexFunc_sxxx : List Nat := [0, 1, 4, 5, 7, 8, 9, 16]
def slices_IndexFunc_sxxx_l1 (s1 : List (List UInt8)) : (Int × Int) → Option (St Int Unit (Int × Int))
  | (t2, t3) =>
    (if (decide (t3 < (s1.length : Int))) then
      (idx s1 t3).bind fun x4 =>
      (addr_Domain_1 x4).bind fun r5 =>
      (if r5 then
        some (.ret t3)
      else
        some (.nxt (t2, (IntKind.wrap .i64 (t3 + 1)))))
    else
      some (.brk ()))
def slices_IndexFunc_sxxx (F : Nat) (s1 : List (List UInt8)) : Option (Int) :=
  ((iter (slices_IndexFunc_sxxx_l1 s1) F (0, 0)).bind fun o8 =>
  match o8 with
  | .inr () =>
    some (-1)
  | .inl r7 =>
    some r7)
theorem slices_IndexFunc_sxxx_l1_ok {F : Nat} {t3 : Int} {s1 : List (List UInt8)} {t2 : Int} {H : AH}  {K : Exit → Env → AH → Prop} {o : (Int) ⊕ (Unit)}
    (h : iter (slices_IndexFunc_sxxx_l1 s1) F (t2, t3) = some o)
    (kb0 : ∀ o' : Unit, o = .inr o' → K (.exit 0) [] H)
    (kr : ∀ o' : Int, o = .inl o' → K .ret [(4, (.int .i64 o'))] H) :
    AX Tryd.prog L_slices_IndexFunc_sxxx 19 H.length c_slices_IndexFunc_sxxx_l1 K [(0, (.sl .n 1 (ml AV.str s1))), (1, (.fn 76 [])), (4, (.int .i64 t2)), (7, (.int .i64 (s1.length : Int))), (8, (.int .i64 t3))] H := by
  refine AX.iter (m := m_slices_IndexFunc_sxxx_l1b) rfl (by decide) (fun s e H1 => match s with | (t2, t3) => e = [(0, (.sl .n 1 (ml AV.str s1))), (1, (.fn 76 [])), (4, (.int .i64 t2)), (7, (.int .i64 (s1.length : Int))), (8, (.int .i64 t3))] ∧ H1 = H) h ⟨rfl, rfl⟩ ?_
  rintro K' ⟨t2, t3⟩ st e H ⟨rfl, rfl⟩ h hN hB hR hX
  rw [slices_IndexFunc_sxxx_l1.eq_1] at h
  try simp only [WW, ↓reduceIte, nA, nB, nC, nD, nE, nF, nG, reduceCtorEq, L_slices_IndexFunc_sxxx, m_slices_IndexFunc_sxxx_l1b, c_slices_IndexFunc_sxxx_l1b]
  rcases ifb h with ⟨hy1, h⟩ | ⟨hy1, h⟩
  · refine UC_t hy1 ?_
    obtain ⟨x4, hy2, h⟩ := bnd' h
    try simp only [WW, ↓reduceIte, nA, nB, nC, nD, nE, nF, nG, reduceCtorEq, L_slices_IndexFunc_sxxx, hy2]
    obtain ⟨r5, hy3, h⟩ := bnd' h
    refine UK_e (as' := [(.str x4)]) (h := addr_Domain_1_ok (x1 := x4)  hy3) (hw := WL.cons (Wx.str) (WL.nil)) (hh := WxH.refl _) ?_
    try simp only [WW, ↓reduceIte, nA, nB, nC, nD, nE, nF, nG, reduceCtorEq, L_slices_IndexFunc_sxxx]
    rcases ifb h with ⟨hy4, h⟩ | ⟨hy4, h⟩
    · refine UC_t hy4 ?_
      try simp only [WW, ↓reduceIte, nA, nB, nC, nD, nE, nF, nG, reduceCtorEq, L_slices_IndexFunc_sxxx]
      have hq := Option.some.inj h; subst hq
      refine hX _ _ _ _ _ (by simp) ?_ (WxH.refl _) (kr _ (hR _ rfl) )
      exact WE.cons (Wx.int) (WE.nil)
    · refine UC_f hy4 ?_
      try simp only [WW, ↓reduceIte, nA, nB, nC, nD, nE, nF, nG, reduceCtorEq, L_slices_IndexFunc_sxxx]
      have hq := Option.some.inj h; subst hq
      refine hN _ rfl _ _ _ _ ?_ (WxH.refl _) ⟨rfl, rfl⟩
      exact WE.cons (Wx.nn) (WE.cons (Wx.fn) (WE.cons (Wx.int) (WE.cons (Wx.int) (WE.cons (Wx.int) (WE.nil)))))
  · refine UC_f hy1 ?_
    try simp only [WW, ↓reduceIte, nA, nB, nC, nD, nE, nF, nG, reduceCtorEq, L_slices_IndexFunc_sxxx]
    have hq := Option.some.inj h; subst hq
    refine hX _ _ _ _ _ (by simp) ?_ (WxH.refl _) (kb0 _ (hB _ rfl) )
    exact WE.nil
theorem slices_IndexFunc_sxxx_ok {F : Nat} {s1 : List (List UInt8)}  {H0 : AH}  {rz0 : Int} (h : slices_IndexFunc_sxxx F s1 = some rz0) :
    ACalls Tryd.prog 109 [(.sl .n 1 (ml AV.str s1)), (.fn 76 [])] H0 fun v H' => v = (.int .i64 rz0) ∧ H' = H0 := by
  refine ACalls.goX k_slices_IndexFunc_sxxx (m := m_slices_IndexFunc_sxxx) rfl L_slices_IndexFunc_sxxx (by decide) (by simp) fun hcl K0 hK0 => ?_
  refine AX.of_U (m := m_slices_IndexFunc_sxxx) rfl (by decide) ?_
  rw [slices_IndexFunc_sxxx.eq_1] at h
  try simp only [WW, ↓reduceIte, nA, nB, nC, nD, nE, nF, nG, reduceCtorEq, L_slices_IndexFunc_sxxx, m_slices_IndexFunc_sxxx, c_slices_IndexFunc_sxxx]
  obtain ⟨o8, hy5, h⟩ := bnd' h
  refine UX_of (AX.weak ?_ (WxH.refl _) (slices_IndexFunc_sxxx_l1_ok  (s1 := s1) (t2 := 0) (t3 := 0)   (o := o8) hy5 ?_ ?_))
  · exact WE.cons (Wx.nn) (WE.cons (Wx.fn) (WE.cons (Wx.int) (WE.cons (Wx.int) (WE.cons (Wx.int) (WE.nil)))))
  · rintro ⟨⟩ rfl  
    try dsimp only at h 
    try simp only [WW, ↓reduceIte, nA, nB, nC, nD, nE, nF, nG, reduceCtorEq, L_slices_IndexFunc_sxxx]
    have hq := Option.some.inj h; subst hq
    refine hK0 _ _ _ (.inr rfl) ?_
    exact fn_endp hcl (resv_tmp (a := (.int .i64 (-1))) rfl rfl resv_nil) (by first | (simp [fin, b_df, b_sh, b_sh1, b_Cl]; done) | (simp [fin, AV.df, AV.sh, AV.sh1, b_df, b_sh, b_sh1, b_Cl]; done)) (Wx.int) (r' := (.int .i64 (-1))) ⟨rfl, rfl⟩
  · rintro r7 rfl  
    try dsimp only at h 
    try simp only [WW, ↓reduceIte, nA, nB, nC, nD, nE, nF, nG, reduceCtorEq, L_slices_IndexFunc_sxxx]
    have hq := Option.some.inj h; subst hq
    refine hK0 _ _ _ (.inr rfl) ?_
    exact fn_endp hcl (resv_tmp (a := (.int .i64 r7)) rfl rfl resv_nil) (by first | (simp [fin, b_df, b_sh, b_sh1, b_Cl]; done) | (simp [fin, AV.df, AV.sh, AV.sh1, b_df, b_sh, b_sh1, b_Cl]; done)) (Wx.int) (r' := (.int .i64 r7)) ⟨rfl, rfl⟩

/-! ### slices.ContainsFunc[[]string,string] -/
def c_slices_ContainsFunc_sxxx : ACode := (.seq (.rg [⟨(some 4), (.asg (.c (.bool false))), none⟩]) (.seq (.rg [⟨(some 5), (.mv (.t 0)), none⟩, ⟨(some 6), (.mv (.t 1)), none⟩, ⟨(some 7), (.call (.c (.fn 109 [])) [(.t 5), (.t 6)]), none⟩, ⟨(some 8), (.bin .geq (.t 7) (.c (.int .i64 0))), none⟩, ⟨(some 4), (.asg (.t 8)), none⟩]) .ret))
abbrev m_slices_ContainsFunc_sxxx := c_slices_ContainsFunc_sxxx
theorem k_slices_ContainsFunc_sxxx : FnOk Tryd.prog 78 9 [(.tmp 4)] c_slices_ContainsFunc_sxxx := ⟨Tryd.f78, _, rfl, by decide, rfl, by kernel_rfl, rfl, rfl⟩
abbrev L_slices_ContainsFunc_sxxx : List Nat := [0, 1, 4]
def slices_ContainsFunc_sxxx (F : Nat) (s1 : List (List UInt8)) : Option (Bool) :=
  (slices_IndexFunc_sxxx F s1).bind fun r2 => some (decide (0 ≤ r2))
theorem slices_ContainsFunc_sxxx_ok {F : Nat} {s1 : List (List UInt8)}  {H0 : AH}  {rz0 : Bool} (h : slices_ContainsFunc_sxxx F s1 = some rz0) :
    ACalls Tryd.prog 78 [(.sl .n 1 (ml AV.str s1)), (.fn 76 [])] H0 fun v H' => v = (.bool rz0) ∧ H' = H0 := by
  refine ACalls.goX k_slices_ContainsFunc_sxxx (m := m_slices_ContainsFunc_sxxx) rfl L_slices_ContainsFunc_sxxx (by decide) (by simp) fun hcl K0 hK0 => ?_
  refine AX.of_U (m := m_slices_ContainsFunc_sxxx) rfl (by decide) ?_
  rw [slices_ContainsFunc_sxxx.eq_1] at h
  try simp only [WW, ↓reduceIte, nA, nB, nC, nD, nE, nF, nG, reduceCtorEq, L_slices_ContainsFunc_sxxx, m_slices_ContainsFunc_sxxx, c_slices_ContainsFunc_sxxx]
  obtain ⟨r2, hy1, h⟩ := bnd' h
  refine UK_e (as' := [(.sl .n 1 (ml AV.str s1)), (.fn 76 [])]) (h := slices_IndexFunc_sxxx_ok (s1 := s1) (F := F)  hy1) (hw := WL.cons (Wx.nn) (WL.cons (Wx.fn) (WL.nil))) (hh := WxH.refl _) ?_
  try simp only [WW, ↓reduceIte, nA, nB, nC, nD, nE, nF, nG, reduceCtorEq, L_slices_ContainsFunc_sxxx]
  have hq := Option.some.inj h; subst hq
  refine hK0 _ _ _ (.inr rfl) ?_
  exact fn_endp hcl (resv_tmp (a := (.bool (decide (0 ≤ r2)))) rfl rfl resv_nil) (by first | (simp [fin, b_df, b_sh, b_sh1, b_Cl]; done) | (simp [fin, AV.df, AV.sh, AV.sh1, b_df, b_sh, b_sh1, b_Cl]; done)) (Wx.bool) (r' := (.bool (decide (0 ≤ r2)))) ⟨rfl, rfl⟩

/-! ### mailbag/addr.Domain -/
def c_addr_Domain_p1 : ACode := (.rg [⟨(some 4), (.mv (.t 0)), none⟩, ⟨(some 5), (.lens (.t 4)), none⟩, ⟨(some 6), (.bin .leq (.t 5) (.c (.int .i64 255))), none⟩, ⟨(some 7), (.mv (.t 6)), none⟩, ⟨(some 8), (.mv (.t 0)), (some (7, true))⟩, ⟨(some 9), (.call (.c (.fn 77 [])) [(.t 8)]), (some (7, true))⟩, ⟨(some 10), (.pick (.t 7) (.t 9) (.c (.bool false))), none⟩, ⟨(some 11), (.mv (.t 10)), none⟩, ⟨(some 12), (.mv (.t 0)), (some (11, true))⟩, ⟨(some 13), (.call (.c (.fn 79 [])) [(.t 12), (.c (.str [46]))]), (some (11, true))⟩, ⟨(some 14), (.mv (.t 3)), (some (11, true))⟩, ⟨(some 15), (.call (.c (.fn 78 [])) [(.t 13), (.t 14)]), (some (11, true))⟩, ⟨(some 16), (.un .not (.t 15)), (some (11, true))⟩, ⟨(some 17), (.pick (.t 11) (.t 16) (.c (.bool false))), none⟩, ⟨(some 2), (.asg (.t 17)), none⟩])
abbrev m_addr_Domain_p1 := c_addr_Domain_p1
def c_addr_Domain : ACode := (.seq (.rg [⟨(some 2), (.asg (.c (.bool false))), none⟩]) (.seq (.rg [⟨(some 3), (.asg (.c (.fn 76 []))), none⟩]) (.seq c_addr_Domain_p1 .ret)))
def m_addr_Domain : ACode := (.seq (.rg [⟨(some 2), (.asg (.c (.bool false))), none⟩]) (.seq (.rg [⟨(some 3), (.asg (.c (.fn 76 []))), none⟩]) (.seq (.sem c_addr_Domain_p1) .ret)))
theorem k_addr_Domain : FnOk Tryd.prog 37 18 [(.tmp 2)] c_addr_Domain := ⟨Tryd.f37, _, rfl, by decide, rfl, by kernel_rfl, rfl, rfl⟩
abbrev L_addr_Domain : List Nat := [0, 2, 3]
def addr_Domain_p1 (F : Nat) (s1 : List UInt8) : Option (Bool) :=
  (if (decide ((s1.length : Int) ≤ 255)) then
    (addr_shaped F s1).bind fun r2 =>
    (if r2 then
      (strings_Split s1 ([46] : List UInt8)).bind fun r3 => (slices_ContainsFunc_sxxx F r3).bind fun r4 => some (!r4)
    else
      some false)
  else
    some false)
def addr_Domain (F : Nat) (s1 : List UInt8) : Option (Bool) :=
  (addr_Domain_p1 F s1).bind fun t6 =>
  some t6
theorem addr_Domain_p1_ok {F : Nat} {s1 : List UInt8} {H : AH}  {K : Exit → Env → AH → Prop} {t5 : Bool}
    (h : addr_Domain_p1 F s1 = some t5)
    (kn : K .normal [(2, (.bool t5))] H) :
    AX Tryd.prog L_addr_Domain 18 H.length c_addr_Domain_p1 K [(0, (.str s1)), (2, (.bool false)), (3, (.fn 76 []))] H := by
  refine AX.go (m := m_addr_Domain_p1) rfl (by decide) fun K' hK => ?_
  rw [addr_Domain_p1.eq_1] at h
  try simp only [WW, ↓reduceIte, nA, nB, nC, nD, nE, nF, nG, reduceCtorEq, L_addr_Domain, m_addr_Domain_p1, c_addr_Domain_p1]
  rcases ifb h with ⟨hy1, h⟩ | ⟨hy1, h⟩
  · refine UG_go hy1 ?_
    try simp only [WW, ↓reduceIte, nA, nB, nC, nD, nE, nF, nG, reduceCtorEq, L_addr_Domain, hy1]
    obtain ⟨r2, hy2, h⟩ := bnd' h
    refine UK_e (as' := [(.str s1)]) (h := addr_shaped_ok (s1 := s1) (F := F)  hy2) (hw := WL.cons (Wx.str) (WL.nil)) (hh := WxH.refl _) ?_
    try simp only [WW, ↓reduceIte, nA, nB, nC, nD, nE, nF, nG, reduceCtorEq, L_addr_Domain]
    rcases ifb h with ⟨hy3, h⟩ | ⟨hy3, h⟩
    · refine UG_go hy3 ?_
      try simp only [WW, ↓reduceIte, nA, nB, nC, nD, nE, nF, nG, reduceCtorEq, L_addr_Domain, hy3]
      obtain ⟨r3, hy4, h⟩ := bnd' h
      refine UK_e (as' := [(.str s1), (.str ([46] : List UInt8))]) (h := strings_Split_ok (s1 := s1) (s2 := ([46] : List UInt8))  hy4) (hw := WL.cons (Wx.str) (WL.cons (Wx.str) (WL.nil))) (hh := WxH.refl _) ?_
      try simp only [WW, ↓reduceIte, nA, nB, nC, nD, nE, nF, nG, reduceCtorEq, L_addr_Domain]
      obtain ⟨r4, hy5, h⟩ := bnd' h
      refine UK_e (as' := [(.sl .n 1 (ml AV.str r3)), (.fn 76 [])]) (h := slices_ContainsFunc_sxxx_ok (s1 := r3) (F := F)  hy5) (hw := WL.cons (Wx.nn) (WL.cons (Wx.fn) (WL.nil))) (hh := WxH.refl _) ?_
      try simp only [WW, ↓reduceIte, nA, nB, nC, nD, nE, nF, nG, reduceCtorEq, L_addr_Domain]
      have hq := Option.some.inj h; subst hq
      refine hK _ _ _ _ _ ?_ (WxH.refl _) (kn )
      exact WE.cons (Wx.bool) (WE.nil)
    · refine UG_nt hy3 ?_
      try simp only [WW, ↓reduceIte, nA, nB, nC, nD, nE, nF, nG, reduceCtorEq, L_addr_Domain, hy3]
      have hq := Option.some.inj h; subst hq
      refine hK _ _ _ _ _ ?_ (WxH.refl _) (kn )
      exact WE.cons (Wx.bool) (WE.nil)
  · refine UG_nt hy1 ?_
    try simp only [WW, ↓reduceIte, nA, nB, nC, nD, nE, nF, nG, reduceCtorEq, L_addr_Domain, hy1]
    have hq := Option.some.inj h; subst hq
    refine hK _ _ _ _ _ ?_ (WxH.refl _) (kn )
    exact WE.cons (Wx.bool) (WE.nil)
theorem addr_Domain_ok {F : Nat} {s1 : List UInt8}  {H0 : AH}  {rz0 : Bool} (h : addr_Domain F s1 = some rz0) :
    ACalls Tryd.prog 37 [(.str s1)] H0 fun v H' => v = (.bool rz0) ∧ H' = H0 := by
  refine ACalls.goX k_addr_Domain (m := m_addr_Domain) rfl L_addr_Domain (by decide) (by simp) fun hcl K0 hK0 => ?_
  refine AX.of_U (m := m_addr_Domain) rfl (by decide) ?_
  rw [addr_Domain.eq_1] at h
  try simp only [WW, ↓reduceIte, nA, nB, nC, nD, nE, nF, nG, reduceCtorEq, L_addr_Domain, m_addr_Domain]
  obtain ⟨t6, hy6, h⟩ := bnd' h
  refine UX_of (AX.weak ?_ (WxH.refl _) (addr_Domain_p1_ok (F := F) (s1 := s1) (t5 := t6)   hy6 ?_))
  · exact WE.cons (Wx.str) (WE.cons (Wx.bool) (WE.cons (Wx.fn) (WE.nil)))
  try simp only [WW, ↓reduceIte, nA, nB, nC, nD, nE, nF, nG, reduceCtorEq, L_addr_Domain]
  have hq := Option.some.inj h; subst hq
  refine hK0 _ _ _ (.inr rfl) ?_
  exact fn_endp hcl (resv_tmp (a := (.bool t6)) rfl rfl resv_nil) (by first | (simp [fin, b_df, b_sh, b_sh1, b_Cl]; done) | (simp [fin, AV.df, AV.sh, AV.sh1, b_df, b_sh, b_sh1, b_Cl]; done)) (Wx.bool) (r' := (.bool t6)) ⟨rfl, rfl⟩

/-! ### mailbag/addr.told -/
def c_addr_told_p1 : ACode := (.rg [⟨(some 17), (.mv (.t 3)), none⟩, ⟨(some 18), (.mv (.t 5)), none⟩, ⟨(some 19), (.ixs (.t 17) (.t 18)), none⟩, ⟨(some 20), (.bin .eql (.t 19) (.c (b8 34))), none⟩, ⟨(some 21), (.mv (.t 20)), none⟩, ⟨(some 22), (.mv (.t 3)), (some (21, false))⟩, ⟨(some 23), (.mv (.t 5)), (some (21, false))⟩, ⟨(some 24), (.ixs (.t 22) (.t 23)), (some (21, false))⟩, ⟨(some 25), (.bin .eql (.t 24) (.c (b8 92))), (some (21, false))⟩, ⟨(some 26), (.pick (.t 21) (.c (.bool true)) (.t 25)), none⟩])
abbrev m_addr_told_p1 := c_addr_told_p1
def c_addr_told_l1b : ACode := (.seq (.rg [⟨(some 15), (.bin .lss (.t 14) (.t 13)), none⟩]) (.seq (.cond (.t 15) .skip (.exit 0)) (.seq (.blk 1 (.seq (.rg [⟨(some 16), (.mv (.t 14)), none⟩, ⟨(some 5), (.asg (.t 16)), none⟩]) (.seq (.seq c_addr_told_p1 (.cond (.t 26) (.rg [⟨(some 27), (.mv (.t 4)), none⟩, ⟨(some 28), (.bsl 1 [(.c (b8 92))]), none⟩, ⟨(some 29), (.app 1 1 (.t 27) (.t 28)), none⟩, ⟨(some 4), (.asg (.t 29)), none⟩]) .skip)) (.rg [⟨(some 30), (.mv (.t 4)), none⟩, ⟨(some 31), (.mv (.t 3)), none⟩, ⟨(some 32), (.mv (.t 5)), none⟩, ⟨(some 33), (.ixs (.t 31) (.t 32)), none⟩, ⟨(some 34), (.bsl 1 [(.t 33)]), none⟩, ⟨(some 35), (.app 1 1 (.t 30) (.t 34)), none⟩, ⟨(some 4), (.asg (.t 35)), none⟩])))) (.rg [⟨(some 36), (.bin .add (.t 14) (.c (.int .i64 1))), none⟩, ⟨(some 14), (.mv (.t 36)), none⟩]))))
def c_addr_told_l1 : ACode := (.loop c_addr_told_l1b)
def m_addr_told_l1b : ACode := (.seq (.rg [⟨(some 15), (.bin .lss (.t 14) (.t 13)), none⟩]) (.seq (.cond (.t 15) .skip (.exit 0)) (.seq (.blk 1 (.seq (.rg [⟨(some 16), (.mv (.t 14)), none⟩, ⟨(some 5), (.asg (.t 16)), none⟩]) (.seq (.seq (.sem c_addr_told_p1) (.cond (.t 26) (.rg [⟨(some 27), (.mv (.t 4)), none⟩, ⟨(some 28), (.bsl 1 [(.c (b8 92))]), none⟩, ⟨(some 29), (.app 1 1 (.t 27) (.t 28)), none⟩, ⟨(some 4), (.asg (.t 29)), none⟩]) .skip)) (.rg [⟨(some 30), (.mv (.t 4)), none⟩, ⟨(some 31), (.mv (.t 3)), none⟩, ⟨(some 32), (.mv (.t 5)), none⟩, ⟨(some 33), (.ixs (.t 31) (.t 32)), none⟩, ⟨(some 34), (.bsl 1 [(.t 33)]), none⟩, ⟨(some 35), (.app 1 1 (.t 30) (.t 34)), none⟩, ⟨(some 4), (.asg (.t 35)), none⟩])))) (.rg [⟨(some 36), (.bin .add (.t 14) (.c (.int .i64 1))), none⟩, ⟨(some 14), (.mv (.t 36)), none⟩]))))
def c_addr_told : ACode := (.seq (.rg [⟨(some 1), (.box (.t 0)), none⟩, ⟨(some 2), (.asg (.c (.str []))), none⟩]) (.seq (.rg [⟨(some 6), (.fld (.t 1) 0), none⟩, ⟨(some 7), (.ld (.t 6) none), none⟩, ⟨(some 3), (.asg (.t 7)), none⟩]) (.seq (.seq (.rg [⟨(some 8), (.mv (.t 3)), none⟩, ⟨(some 9), (.call (.c (.fn 99 [])) [(.t 8)]), none⟩, ⟨(some 10), (.un .not (.t 9)), none⟩]) (.cond (.t 10) (.seq (.rg [⟨(some 11), (.bsl 1 [(.c (b8 34))]), none⟩, ⟨(some 4), (.asg (.t 11)), none⟩]) (.seq (.seq (.rg [⟨(some 12), (.mv (.t 3)), none⟩, ⟨(some 13), (.lens (.t 12)), none⟩, ⟨(some 14), (.mv (.c (.int .i64 0))), none⟩]) (.blk 0 c_addr_told_l1)) (.rg [⟨(some 37), (.mv (.t 4)), none⟩, ⟨(some 38), (.bsl 1 [(.c (b8 34))]), none⟩, ⟨(some 39), (.app 1 1 (.t 37) (.t 38)), none⟩, ⟨(some 40), (.cvt .bs (.t 39)), none⟩, ⟨(some 3), (.asg (.t 40)), none⟩]))) .skip)) (.seq (.rg [⟨(some 41), (.mv (.t 3)), none⟩, ⟨(some 42), (.bin .add (.c (.str [60])) (.t 41)), none⟩, ⟨(some 43), (.bin .add (.t 42) (.c (.str [64]))), none⟩, ⟨(some 44), (.fld (.t 1) 1), none⟩, ⟨(some 45), (.ld (.t 44) none), none⟩, ⟨(some 46), (.bin .add (.t 43) (.t 45)), none⟩, ⟨(some 47), (.bin .add (.t 46) (.c (.str [62]))), none⟩, ⟨(some 2), (.asg (.t 47)), none⟩]) .ret))))
abbrev m_addr_told := c_addr_told
theorem k_addr_told : FnOk Tryd.prog 86 48 [(.tmp 2)] c_addr_told := ⟨Tryd.f86, _, rfl, by decide, rfl, by kernel_rfl, rfl, rfl⟩
abbrev L_addr_told : List Nat := [0, 1, 2, 3, 4, 5, 10, 13, 14, 15, 26]
def addr_told_p1 (a1 : AddressV) (t5 : Int) : Option (Bool) :=
  (idx a1.local0 t5).bind fun x7 =>
  (if (decide (x7 = 34)) then
    some true
  else
    some (decide (x7 = 92)))
def addr_told_l1 (a1 : AddressV) : ((List UInt8) × Int) → Option (St (List UInt8) (List UInt8) ((List UInt8) × Int))
  | (b4, t5) =>
    (if (decide (t5 < (a1.local0.length : Int))) then
      (addr_told_p1 a1 t5).bind fun t9 =>
      (if t9 then
        (capp 1 b4 ([92] : List UInt8)).bind fun x10 =>
        (idx a1.local0 t5).bind fun x11 =>
        (capp 1 x10 ([x11] : List UInt8)).bind fun x12 => some (.nxt (x12, (IntKind.wrap .i64 (t5 + 1))))
      else
        (idx a1.local0 t5).bind fun x13 =>
        (capp 1 b4 ([x13] : List UInt8)).bind fun x14 => some (.nxt (x14, (IntKind.wrap .i64 (t5 + 1)))))
    else
      some (.brk b4))
def addr_told (F : Nat) (a1 : AddressV) : Option ((List UInt8)) :=
  (addr_plain F a1.local0).bind fun r2 =>
  (if (!r2) then
    ((iter (addr_told_l1 a1) F (([34] : List UInt8), 0)).bind fun o22 =>
    match o22 with
    | .inr b16 =>
      (capp 1 b16 ([34] : List UInt8)).bind fun x17 =>
      (cat ([60] : List UInt8) x17).bind fun x18 =>
      (cat x18 ([64] : List UInt8)).bind fun x19 =>
      (cat x19 a1.domain).bind fun x20 => (cat x20 ([62] : List UInt8)).bind fun x21 => some x21
    | .inl _ => none)
  else
    (cat ([60] : List UInt8) a1.local0).bind fun x23 =>
    (cat x23 ([64] : List UInt8)).bind fun x24 =>
    (cat x24 a1.domain).bind fun x25 => (cat x25 ([62] : List UInt8)).bind fun x26 => some x26)
theorem addr_told_p1_ok {a1 : AddressV} {t5 : Int} {q6 : Nat} {b4 : List UInt8} {H0 H : AH} (hfr : Fr H0 H0.length [] H) (hs_o1 : H[q6]? = some [(.str a1.local0), (.str a1.domain)]) (hi0 : H0.length ≤ q6) {K : Exit → Env → AH → Prop} {t8 : Bool}
    (h : addr_told_p1 a1 t5 = some t8)
    (kn : ∀ H' : AH, Fr H0 H0.length [] H' → H'[q6]? = some [(.str a1.local0), (.str a1.domain)] → K .normal [(1, (.ptr q6 0)), (3, (.str a1.local0)), (4, (.sl .own 1 (ml b8 b4))), (5, (.int .i64 t5)), (13, (.int .i64 (a1.local0.length : Int))), (14, (.int .i64 t5)), (26, (.bool t8))] H') :
    AX Tryd.prog L_addr_told 48 H0.length c_addr_told_p1 K [(1, (.ptr q6 0)), (3, (.str a1.local0)), (4, (.sl .own 1 (ml b8 b4))), (5, (.int .i64 t5)), (13, (.int .i64 (a1.local0.length : Int))), (14, (.int .i64 t5))] H := by
  refine AX.go (m := m_addr_told_p1) rfl (by decide) fun K' hK => ?_
  have hle := hfr.le
  have hl_o1 := h_lt hs_o1
  rw [addr_told_p1.eq_1] at h
  obtain ⟨x7, hy4, h⟩ := bnd' h
  try simp (disch := first | assumption | omega | (simp only [h_sl, h_al] <;> omega) | fail) only [WW, WH, ↓reduceIte, nA, nB, nC, nD, nE, nF, nG, reduceCtorEq, L_addr_told, m_addr_told_p1, c_addr_told_p1, hy4, hs_o1]
  rcases ifb h with ⟨hy5, h⟩ | ⟨hy5, h⟩
  · refine UG_nf hy5 ?_
    try simp (disch := first | assumption | omega | (simp only [h_sl, h_al] <;> omega) | fail) only [WW, WH, ↓reduceIte, nA, nB, nC, nD, nE, nF, nG, reduceCtorEq, L_addr_told, hy5, hs_o1]
    have hq := Option.some.inj h; subst hq
    refine hK _ _ _ _ _ ?_ (WxH.refl _) (kn _ hfr ((hs_o1).trans rfl))
    exact WE.cons (Wx.ptr) (WE.cons (Wx.str) (WE.cons (Wx.oo) (WE.cons (Wx.int) (WE.cons (Wx.int) (WE.cons (Wx.int) (WE.cons (Wx.bool) (WE.nil)))))))
  · refine UG_go hy5 ?_
    try simp (disch := first | assumption | omega | (simp only [h_sl, h_al] <;> omega) | fail) only [WW, WH, ↓reduceIte, nA, nB, nC, nD, nE, nF, nG, reduceCtorEq, L_addr_told, hy5, hy4, hs_o1]
    have hq := Option.some.inj h; subst hq
    refine hK _ _ _ _ _ ?_ (WxH.refl _) (kn _ hfr ((hs_o1).trans rfl))
    exact WE.cons (Wx.ptr) (WE.cons (Wx.str) (WE.cons (Wx.oo) (WE.cons (Wx.int) (WE.cons (Wx.int) (WE.cons (Wx.int) (WE.cons (Wx.bool) (WE.nil)))))))
theorem addr_told_l1_ok {F : Nat} {t5 : Int} {a1 : AddressV} {b4 : List UInt8} {q3 : Nat} {H0 H : AH} (hfr : Fr H0 H0.length [] H) (hs_o1 : H[q3]? = some [(.str a1.local0), (.str a1.domain)]) (hi0 : H0.length ≤ q3) {K : Exit → Env → AH → Prop} {o : ((List UInt8)) ⊕ ((List UInt8))}
    (h : iter (addr_told_l1 a1) F (b4, t5) = some o)
    (kb0 : ∀ o' : (List UInt8), o = .inr o' → ∀ H' : AH, Fr H0 H0.length [] H' → H'[q3]? = some [(.str a1.local0), (.str a1.domain)] → K (.exit 0) [(1, (.ptr q3 0)), (4, (.sl .own 1 (ml b8 o')))] H') :
    AX Tryd.prog L_addr_told 48 H0.length c_addr_told_l1 K [(1, (.ptr q3 0)), (3, (.str a1.local0)), (4, (.sl .own 1 (ml b8 b4))), (13, (.int .i64 (a1.local0.length : Int))), (14, (.int .i64 t5))] H := by
  refine AX.iter (m := m_addr_told_l1b) rfl (by decide) (fun s e H1 => match s with | (b4, t5) => e = [(1, (.ptr q3 0)), (3, (.str a1.local0)), (4, (.sl .own 1 (ml b8 b4))), (13, (.int .i64 (a1.local0.length : Int))), (14, (.int .i64 t5))] ∧ Fr H0 H0.length [] H1 ∧ H1[q3]? = some [(.str a1.local0), (.str a1.domain)]) h ⟨rfl, hfr, hs_o1⟩ ?_
  skip
  rintro K' ⟨b4, t5⟩ st e H ⟨rfl, hfr, hs_o1⟩ h hN hB hR hX
  have hle := hfr.le
  have hl_o1 := h_lt hs_o1
  rw [addr_told_l1.eq_1] at h
  try simp (disch := first | assumption | omega | (simp only [h_sl, h_al] <;> omega) | fail) only [WW, WH, ↓reduceIte, nA, nB, nC, nD, nE, nF, nG, reduceCtorEq, L_addr_told, m_addr_told_l1b, hs_o1]
  rcases ifb h with ⟨hy3, h⟩ | ⟨hy3, h⟩
  · refine UC_t hy3 ?_
    try simp (disch := first | assumption | omega | (simp only [h_sl, h_al] <;> omega) | fail) only [WW, WH, ↓reduceIte, nA, nB, nC, nD, nE, nF, nG, reduceCtorEq, L_addr_told, hs_o1]
    obtain ⟨t9, hy6, h⟩ := bnd' h
    refine UX_of (AX.weak ?_ (WxH.refl _) (addr_told_p1_ok  (a1 := a1) (t5 := t5) (b4 := b4) (t8 := t9) (q6 := q3) (hfr) ((hs_o1).trans rfl) (by first | assumption | omega | (simp only [h_sl, h_al] <;> omega) | fail) hy6 ?_))
    · exact WE.cons (Wx.ptr) (WE.cons (Wx.str) (WE.cons (Wx.oo) (WE.cons (Wx.int) (WE.cons (Wx.int) (WE.cons (Wx.int) (WE.nil))))))
    intro H hfr hs_o1
    have hle := hfr.le
    have hl_o1 := h_lt hs_o1
    try simp (disch := first | assumption | omega | (simp only [h_sl, h_al] <;> omega) | fail) only [WW, WH, ↓reduceIte, nA, nB, nC, nD, nE, nF, nG, reduceCtorEq, L_addr_told, hs_o1]
    rcases ifb h with ⟨hy7, h⟩ | ⟨hy7, h⟩
    · refine UC_t hy7 ?_
      obtain ⟨x10, hy8, h⟩ := bnd' h
      have hy9 : capp 1 (ml b8 b4) [(b8 92)] = some (ml b8 x10) := capp_m (f := b8) hy8
      obtain ⟨x11, hy10, h⟩ := bnd' h
      obtain ⟨x12, hy11, h⟩ := bnd' h
      have hy12 : capp 1 (ml b8 x10) [(b8 x11)] = some (ml b8 x12) := capp_m (f := b8) hy11
      try simp (disch := first | assumption | omega | (simp only [h_sl, h_al] <;> omega) | fail) only [WW, WH, ↓reduceIte, nA, nB, nC, nD, nE, nF, nG, reduceCtorEq, L_addr_told, hy9, hy10, hy12, hs_o1]
      have hq := Option.some.inj h; subst hq
      refine hN _ rfl _ _ _ _ ?_ (WxH.refl _) ⟨rfl, hfr, ((hs_o1).trans rfl)⟩
      exact WE.cons (Wx.ptr) (WE.cons (Wx.str) (WE.cons (Wx.oo) (WE.cons (Wx.int) (WE.cons (Wx.int) (WE.nil)))))
    · refine UC_f hy7 ?_
      obtain ⟨x13, hy13, h⟩ := bnd' h
      obtain ⟨x14, hy14, h⟩ := bnd' h
      have hy15 : capp 1 (ml b8 b4) [(b8 x13)] = some (ml b8 x14) := capp_m (f := b8) hy14
      try simp (disch := first | assumption | omega | (simp only [h_sl, h_al] <;> omega) | fail) only [WW, WH, ↓reduceIte, nA, nB, nC, nD, nE, nF, nG, reduceCtorEq, L_addr_told, hy13, hy15, hs_o1]
      have hq := Option.some.inj h; subst hq
      refine hN _ rfl _ _ _ _ ?_ (WxH.refl _) ⟨rfl, hfr, ((hs_o1).trans rfl)⟩
      exact WE.cons (Wx.ptr) (WE.cons (Wx.str) (WE.cons (Wx.oo) (WE.cons (Wx.int) (WE.cons (Wx.int) (WE.nil)))))
  · refine UC_f hy3 ?_
    try simp (disch := first | assumption | omega | (simp only [h_sl, h_al] <;> omega) | fail) only [WW, WH, ↓reduceIte, nA, nB, nC, nD, nE, nF, nG, reduceCtorEq, L_addr_told, hs_o1]
    have hq := Option.some.inj h; subst hq
    refine hX _ _ _ _ _ (by simp) ?_ (WxH.refl _) (kb0 _ (hB _ rfl) _ hfr ((hs_o1).trans rfl))
    exact WE.cons (Wx.ptr) (WE.cons (Wx.oo) (WE.nil))
theorem addr_told_ok {F : Nat} {a1 : AddressV}  {H0 : AH}  {rz0 : List UInt8} (h : addr_told F a1 = some rz0) :
    ACalls Tryd.prog 86 [(.agg [(.str a1.local0), (.str a1.domain)])] H0 fun v H' => v = (.str rz0) ∧ H' = H0 := by
  refine ACalls.goX k_addr_told (m := m_addr_told) rfl L_addr_told (by decide) (by simp) fun hcl K0 hK0 => ?_
  refine AX.of_U (m := m_addr_told) rfl (by decide) ?_
  have hfr := Fr.refl H0 []
  have hle := hfr.le
  rw [addr_told.eq_1] at h
  obtain ⟨H, hHH⟩ : ∃ H, H = H0 := ⟨_, rfl⟩
  have hfr : Fr H0 H0.length [] H := hHH ▸ hfr
  have hle := hfr.le
  suffices hU : U Tryd.prog L_addr_told 48 H0.length [.code m_addr_told] K0 .normal (argE 0 [(.agg [(.str a1.local0), (.str a1.domain)])]) H by rwa [hHH] at hU
  try simp (disch := first | assumption | omega | (simp only [h_sl, h_al] <;> omega) | fail) only [WW, WH, ↓reduceIte, nA, nB, nC, nD, nE, nF, nG, reduceCtorEq, L_addr_told, m_addr_told, c_addr_told]
  obtain ⟨r2, hy1, h⟩ := bnd' h
  refine UK_e (as' := [(.str a1.local0)]) (h := addr_plain_ok (s1 := a1.local0) (F := F)  hy1) (hw := WL.cons (Wx.str) (WL.nil)) (hh := WxH.refl _) ?_
  try simp (disch := first | assumption | omega | (simp only [h_sl, h_al] <;> omega) | fail) only [WW, WH, ↓reduceIte, nA, nB, nC, nD, nE, nF, nG, reduceCtorEq, L_addr_told]
  rcases ifb h with ⟨hy2, h⟩ | ⟨hy2, h⟩
  · refine UC_t hy2 ?_
    try simp (disch := first | assumption | omega | (simp only [h_sl, h_al] <;> omega) | fail) only [WW, WH, ↓reduceIte, nA, nB, nC, nD, nE, nF, nG, reduceCtorEq, L_addr_told]
    obtain ⟨q3, hg_q3⟩ : ∃ q : Nat, H.length = q := ⟨_, rfl⟩
    try rw [hg_q3]
    obtain ⟨o22, hy16, h⟩ := bnd' h
    refine UX_of (AX.weak ?_ (WxH.refl _) (addr_told_l1_ok  (a1 := a1) (b4 := ([34] : List UInt8)) (t5 := 0) (q3 := q3) ((Fr.app hfr)) ((h_new' (by first | assumption | omega | (simp only [h_sl, h_al] <;> omega) | fail)).trans rfl) (by first | assumption | omega | (simp only [h_sl, h_al] <;> omega) | fail) (o := o22) hy16 ?_))
    · exact WE.cons (Wx.ptr) (WE.cons (Wx.str) (WE.cons (Wx.own ..) (WE.cons (Wx.int) (WE.cons (Wx.int) (WE.nil)))))
    · rintro b16 rfl H hfr hs_o1
      try dsimp only at h hs_o1
      have hle := hfr.le
      have hl_o1 := h_lt hs_o1
      obtain ⟨x17, hy17, h⟩ := bnd' h
      have hy18 : capp 1 (ml b8 b16) [(b8 34)] = some (ml b8 x17) := capp_m (f := b8) hy17
      obtain ⟨x18, hy19, h⟩ := bnd' h
      obtain ⟨x19, hy20, h⟩ := bnd' h
      obtain ⟨x20, hy21, h⟩ := bnd' h
      obtain ⟨x21, hy22, h⟩ := bnd' h
      try simp (disch := first | assumption | omega | (simp only [h_sl, h_al] <;> omega) | fail) only [WW, WH, ↓reduceIte, nA, nB, nC, nD, nE, nF, nG, reduceCtorEq, L_addr_told, hy18, hy19, hy20, hy21, hy22, hs_o1]
      have hq := Option.some.inj h; subst hq
      refine hK0 _ _ _ (.inr rfl) ?_
      exact fn_end0 (by exact hfr) hcl (resv_tmp (a := (.str x21)) rfl rfl resv_nil) (by first | (simp [fin, b_df, b_sh, b_sh1, b_Cl]; done) | (simp [fin, AV.df, AV.sh, AV.sh1, b_df, b_sh, b_sh1, b_Cl]; done)) (Wx.str) (r' := (.str x21)) ⟨rfl, rfl⟩
  · refine UC_f hy2 ?_
    obtain ⟨x23, hy23, h⟩ := bnd' h
    obtain ⟨x24, hy24, h⟩ := bnd' h
    obtain ⟨x25, hy25, h⟩ := bnd' h
    obtain ⟨x26, hy26, h⟩ := bnd' h
    try simp (disch := first | assumption | omega | (simp only [h_sl, h_al] <;> omega) | fail) only [WW, WH, ↓reduceIte, nA, nB, nC, nD, nE, nF, nG, reduceCtorEq, L_addr_told, hy23, hy24, hy25, hy26]
    have hq := Option.some.inj h; subst hq
    refine hK0 _ _ _ (.inr rfl) ?_
    exact fn_end0 (by exact (Fr.app hfr)) hcl (resv_tmp (a := (.str x26)) rfl rfl resv_nil) (by first | (simp [fin, b_df, b_sh, b_sh1, b_Cl]; done) | (simp [fin, AV.df, AV.sh, AV.sh1, b_df, b_sh, b_sh1, b_Cl]; done)) (Wx.str) (r' := (.str x26)) ⟨rfl, rfl⟩

/-! ### mailbag/addr.Right -/
def c_addr_Right_p1 : ACode := (.rg [⟨(some 3), (.ld (.t 1) (some 2)), none⟩, ⟨(some 4), (.call (.c (.fn 85 [])) [(.t 3)]), none⟩, ⟨(some 5), (.mv (.t 4)), none⟩, ⟨(some 6), (.fld (.t 1) 0), (some (5, false))⟩, ⟨(some 7), (.ld (.t 6) none), (some (5, false))⟩, ⟨(some 8), (.call (.c (.fn 39 [])) [(.t 7)]), (some (5, false))⟩, ⟨(some 9), (.mv (.t 8)), (some (5, false))⟩, ⟨(some 10), (.fld (.t 1) 1), (some (9, true))⟩, ⟨(some 11), (.ld (.t 10) none), (some (9, true))⟩, ⟨(some 12), (.call (.c (.fn 37 [])) [(.t 11)]), (some (9, true))⟩, ⟨(some 13), (.pick (.t 9) (.t 12) (.c (.bool false))), (some (5, false))⟩, ⟨(some 14), (.mv (.t 13)), (some (5, false))⟩, ⟨(some 15), (.ld (.t 1) (some 2)), (some (14, true))⟩, ⟨(some 16), (.call (.c (.fn 86 [])) [(.t 15)]), (some (14, true))⟩, ⟨(some 17), (.lens (.t 16)), (some (14, true))⟩, ⟨(some 18), (.bin .leq (.t 17) (.c (.int .i64 256))), (some (14, true))⟩, ⟨(some 19), (.pick (.t 14) (.t 18) (.c (.bool false))), (some (5, false))⟩, ⟨(some 20), (.pick (.t 5) (.c (.bool true)) (.t 19)), none⟩, ⟨(some 2), (.asg (.t 20)), none⟩])
abbrev m_addr_Right_p1 := c_addr_Right_p1
def c_addr_Right : ACode := (.seq (.rg [⟨(some 1), (.box (.t 0)), none⟩, ⟨(some 2), (.asg (.c (.bool false))), none⟩]) (.seq c_addr_Right_p1 .ret))
def m_addr_Right : ACode := (.seq (.rg [⟨(some 1), (.box (.t 0)), none⟩, ⟨(some 2), (.asg (.c (.bool false))), none⟩]) (.seq (.sem c_addr_Right_p1) .ret))
theorem k_addr_Right : FnOk Tryd.prog 49 21 [(.tmp 2)] c_addr_Right := ⟨Tryd.f49, _, rfl, by decide, rfl, by kernel_rfl, rfl, rfl⟩
abbrev L_addr_Right : List Nat := [0, 1, 2]
def addr_Right_p1 (F : Nat) (a1 : AddressV) : Option (Bool) :=
  (addr_null a1).bind fun r3 =>
  (if r3 then
    some true
  else
    (addr_Local F a1.local0).bind fun r4 =>
    (if r4 then
      (addr_Domain F a1.domain).bind fun r5 =>
      (if r5 then
        (addr_told F a1).bind fun r6 => some (decide ((r6.length : Int) ≤ 256))
      else
        some false)
    else
      some false))
def addr_Right (F : Nat) (a1 : AddressV) : Option (Bool) :=
  (addr_Right_p1 F a1).bind fun t8 =>
  some t8
theorem addr_Right_p1_ok {F : Nat} {a1 : AddressV} {q2 : Nat} {H0 H : AH} (hfr : Fr H0 H0.length [] H) (hs_o1 : H[q2]? = some [(.str a1.local0), (.str a1.domain)]) (hi0 : H0.length ≤ q2) {K : Exit → Env → AH → Prop} {t7 : Bool}
    (h : addr_Right_p1 F a1 = some t7)
    (kn : ∀ H' : AH, Fr H0 H0.length [] H' → H'[q2]? = some [(.str a1.local0), (.str a1.domain)] → K .normal [(2, (.bool t7))] H') :
    AX Tryd.prog L_addr_Right 21 H0.length c_addr_Right_p1 K [(1, (.ptr q2 0)), (2, (.bool false))] H := by
  refine AX.go (m := m_addr_Right_p1) rfl (by decide) fun K' hK => ?_
  have hle := hfr.le
  have hl_o1 := h_lt hs_o1
  rw [addr_Right_p1.eq_1] at h
  try simp (disch := first | assumption | omega | (simp only [h_sl, h_al] <;> omega) | fail) only [WW, WH, ↓reduceIte, nA, nB, nC, nD, nE, nF, nG, reduceCtorEq, L_addr_Right, m_addr_Right_p1, c_addr_Right_p1, hs_o1]
  obtain ⟨r3, hy1, h⟩ := bnd' h
  refine UK_e (as' := [(.agg [(.str a1.local0), (.str a1.domain)])]) (h := addr_null_ok (a1 := a1)  hy1) (hw := WL.cons (Wx.agg (W1L.same (W1L.same (W1L.nil)))) (WL.nil)) (hh := WxH.refl _) ?_
  try simp (disch := first | assumption | omega | (simp only [h_sl, h_al] <;> omega) | fail) only [WW, WH, ↓reduceIte, nA, nB, nC, nD, nE, nF, nG, reduceCtorEq, L_addr_Right, hs_o1]
  rcases ifb h with ⟨hy2, h⟩ | ⟨hy2, h⟩
  · refine UG_nf hy2 ?_
    try simp (disch := first | assumption | omega | (simp only [h_sl, h_al] <;> omega) | fail) only [WW, WH, ↓reduceIte, nA, nB, nC, nD, nE, nF, nG, reduceCtorEq, L_addr_Right, hy2, hs_o1]
    have hq := Option.some.inj h; subst hq
    refine hK _ _ _ _ _ ?_ (WxH.refl _) (kn _ hfr ((hs_o1).trans rfl))
    exact WE.cons (Wx.bool) (WE.nil)
  · refine UG_go hy2 ?_
    try simp (disch := first | assumption | omega | (simp only [h_sl, h_al] <;> omega) | fail) only [WW, WH, ↓reduceIte, nA, nB, nC, nD, nE, nF, nG, reduceCtorEq, L_addr_Right, hy2, hs_o1]
    obtain ⟨r4, hy3, h⟩ := bnd' h
    refine UK_e (as' := [(.str a1.local0)]) (h := addr_Local_ok (s1 := a1.local0) (F := F)  hy3) (hw := WL.cons (Wx.str) (WL.nil)) (hh := WxH.refl _) ?_
    try simp (disch := first | assumption | omega | (simp only [h_sl, h_al] <;> omega) | fail) only [WW, WH, ↓reduceIte, nA, nB, nC, nD, nE, nF, nG, reduceCtorEq, L_addr_Right, hs_o1]
    rcases ifb h with ⟨hy4, h⟩ | ⟨hy4, h⟩
    · refine UG_go hy4 ?_
      try simp (disch := first | assumption | omega | (simp only [h_sl, h_al] <;> omega) | fail) only [WW, WH, ↓reduceIte, nA, nB, nC, nD, nE, nF, nG, reduceCtorEq, L_addr_Right, hy4, hs_o1]
      obtain ⟨r5, hy5, h⟩ := bnd' h
      refine UK_e (as' := [(.str a1.domain)]) (h := addr_Domain_ok (s1 := a1.domain) (F := F)  hy5) (hw := WL.cons (Wx.str) (WL.nil)) (hh := WxH.refl _) ?_
      try simp (disch := first | assumption | omega | (simp only [h_sl, h_al] <;> omega) | fail) only [WW, WH, ↓reduceIte, nA, nB, nC, nD, nE, nF, nG, reduceCtorEq, L_addr_Right, hs_o1]
      rcases ifb h with ⟨hy6, h⟩ | ⟨hy6, h⟩
      · refine UG_go hy6 ?_
        try simp (disch := first | assumption | omega | (simp only [h_sl, h_al] <;> omega) | fail) only [WW, WH, ↓reduceIte, nA, nB, nC, nD, nE, nF, nG, reduceCtorEq, L_addr_Right, hy6, hs_o1]
        obtain ⟨r6, hy7, h⟩ := bnd' h
        refine UK_e (as' := [(.agg [(.str a1.local0), (.str a1.domain)])]) (h := addr_told_ok (a1 := a1) (F := F)  hy7) (hw := WL.cons (Wx.agg (W1L.same (W1L.same (W1L.nil)))) (WL.nil)) (hh := WxH.refl _) ?_
        try simp (disch := first | assumption | omega | (simp only [h_sl, h_al] <;> omega) | fail) only [WW, WH, ↓reduceIte, nA, nB, nC, nD, nE, nF, nG, reduceCtorEq, L_addr_Right, hs_o1]
        have hq := Option.some.inj h; subst hq
        refine hK _ _ _ _ _ ?_ (WxH.refl _) (kn _ hfr ((hs_o1).trans rfl))
        exact WE.cons (Wx.bool) (WE.nil)
      · refine UG_nt hy6 ?_
        try simp (disch := first | assumption | omega | (simp only [h_sl, h_al] <;> omega) | fail) only [WW, WH, ↓reduceIte, nA, nB, nC, nD, nE, nF, nG, reduceCtorEq, L_addr_Right, hy6, hs_o1]
        have hq := Option.some.inj h; subst hq
        refine hK _ _ _ _ _ ?_ (WxH.refl _) (kn _ hfr ((hs_o1).trans rfl))
        exact WE.cons (Wx.bool) (WE.nil)
    · refine UG_nt hy4 ?_
      try simp (disch := first | assumption | omega | (simp only [h_sl, h_al] <;> omega) | fail) only [WW, WH, ↓reduceIte, nA, nB, nC, nD, nE, nF, nG, reduceCtorEq, L_addr_Right, hy4, hs_o1]
      have hq := Option.some.inj h; subst hq
      refine hK _ _ _ _ _ ?_ (WxH.refl _) (kn _ hfr ((hs_o1).trans rfl))
      exact WE.cons (Wx.bool) (WE.nil)
theorem addr_Right_ok {F : Nat} {a1 : AddressV}  {H0 : AH}  {rz0 : Bool} (h : addr_Right F a1 = some rz0) :
    ACalls Tryd.prog 49 [(.agg [(.str a1.local0), (.str a1.domain)])] H0 fun v H' => v = (.bool rz0) ∧ H' = H0 := by
  refine ACalls.goX k_addr_Right (m := m_addr_Right) rfl L_addr_Right (by decide) (by simp) fun hcl K0 hK0 => ?_
  refine AX.of_U (m := m_addr_Right) rfl (by decide) ?_
  have hfr := Fr.refl H0 []
  have hle := hfr.le
  rw [addr_Right.eq_1] at h
  obtain ⟨H, hHH⟩ : ∃ H, H = H0 := ⟨_, rfl⟩
  have hfr : Fr H0 H0.length [] H := hHH ▸ hfr
  have hle := hfr.le
  suffices hU : U Tryd.prog L_addr_Right 21 H0.length [.code m_addr_Right] K0 .normal (argE 0 [(.agg [(.str a1.local0), (.str a1.domain)])]) H by rwa [hHH] at hU
  try simp (disch := first | assumption | omega | (simp only [h_sl, h_al] <;> omega) | fail) only [WW, WH, ↓reduceIte, nA, nB, nC, nD, nE, nF, nG, reduceCtorEq, L_addr_Right, m_addr_Right]
  obtain ⟨q2, hg_q2⟩ : ∃ q : Nat, H.length = q := ⟨_, rfl⟩
  try rw [hg_q2]
  obtain ⟨t8, hy8, h⟩ := bnd' h
  refine UX_of (AX.weak ?_ (WxH.refl _) (addr_Right_p1_ok (F := F) (a1 := a1) (t7 := t8) (q2 := q2) ((Fr.app hfr)) ((h_new' (by first | assumption | omega | (simp only [h_sl, h_al] <;> omega) | fail)).trans rfl) (by first | assumption | omega | (simp only [h_sl, h_al] <;> omega) | fail) hy8 ?_))
  · exact WE.cons (Wx.ptr) (WE.cons (Wx.bool) (WE.nil))
  intro H hfr hs_o1
  have hle := hfr.le
  have hl_o1 := h_lt hs_o1
  try simp (disch := first | assumption | omega | (simp only [h_sl, h_al] <;> omega) | fail) only [WW, WH, ↓reduceIte, nA, nB, nC, nD, nE, nF, nG, reduceCtorEq, L_addr_Right, hs_o1]
  have hq := Option.some.inj h; subst hq
  refine hK0 _ _ _ (.inr rfl) ?_
  exact fn_end0 (by exact hfr) hcl (resv_tmp (a := (.bool t8)) rfl rfl resv_nil) (by first | (simp [fin, b_df, b_sh, b_sh1, b_Cl]; done) | (simp [fin, AV.df, AV.sh, AV.sh1, b_df, b_sh, b_sh1, b_Cl]; done)) (Wx.bool) (r' := (.bool t8)) ⟨rfl, rfl⟩

/-! ### mailbag/addr.Path -/
def c_addr_Path_p1 : ACode := (.cond (.t 14) (.seq (.rg [⟨(some 15), (.mv (.t 5)), none⟩, ⟨(some 16), (.call (.c (.fn 69 [])) [(.t 15)]), none⟩]) (.seq (.rg [⟨(some 17), (.mv (.t 5)), none⟩, ⟨(some 18), (.call (.c (.fn 70 [])) [(.t 17)]), none⟩, ⟨(some 19), (.fld (.t 6) 0), none⟩, ⟨none, (.st (.t 19) (.t 18) 1), none⟩]) (.seq (.rg [⟨(some 20), (.mv (.t 5)), none⟩, ⟨(some 21), (.call (.c (.fn 67 [])) [(.t 20), (.c (b8 64))]), none⟩]) (.seq (.rg [⟨(some 22), (.mv (.t 5)), none⟩, ⟨(some 23), (.call (.c (.fn 71 [])) [(.t 22)]), none⟩, ⟨(some 24), (.fld (.t 6) 1), none⟩, ⟨none, (.st (.t 24) (.t 23) 1), none⟩]) (.rg [⟨(some 25), (.mv (.t 5)), none⟩, ⟨(some 26), (.call (.c (.fn 67 [])) [(.t 25), (.c (b8 62))]), none⟩]))))) .skip)
abbrev m_addr_Path_p1 := c_addr_Path_p1
def c_addr_Path_p2 : ACode := (.rg [⟨(some 38), (.lde (.t 6) (some 2)), none⟩, ⟨(some 39), (.mv (.t 0)), none⟩, ⟨(some 40), (.mv (.t 5)), none⟩, ⟨(some 41), (.nck (.t 40)), none⟩, ⟨(some 42), (.fld (.t 41) 1), none⟩, ⟨(some 43), (.lde (.t 42) none), none⟩, ⟨(some 44), (.sls (.t 39) (some (.t 43)) none), none⟩, ⟨none, (.st (.t 2) (.t 38) 2), none⟩, ⟨(some 3), (.asg (.t 44)), none⟩, ⟨(some 4), (.asg (.c (.int .i64 0))), none⟩])
abbrev m_addr_Path_p2 := c_addr_Path_p2
def c_addr_Path : ACode := (.seq (.rg [⟨(some 2), (.alloc [(.str []), (.str [])]), none⟩, ⟨(some 3), (.asg (.c (.str []))), none⟩, ⟨(some 4), (.asg (.c (.int .i64 0))), none⟩]) (.seq (.rg [⟨(some 7), (.mv (.t 0)), none⟩, ⟨(some 8), (.build [(.str []), (.int .i64 0), (.bool false)] [(0, (1, (.t 7)))]), none⟩, ⟨(some 9), (.box (.t 8)), none⟩, ⟨(some 5), (.asg (.t 9)), none⟩]) (.seq (.rg [⟨(some 10), (.mv (.t 5)), none⟩, ⟨(some 11), (.call (.c (.fn 67 [])) [(.t 10), (.c (b8 60))]), none⟩]) (.seq (.rg [⟨(some 6), (.alloc [(.str []), (.str [])]), none⟩]) (.seq (.seq (.rg [⟨(some 12), (.mv (.t 5)), none⟩, ⟨(some 13), (.call (.c (.fn 68 [])) [(.t 12), (.c (b8 62))]), none⟩, ⟨(some 14), (.un .not (.t 13)), none⟩]) c_addr_Path_p1) (.seq (.blk 0 (.seq (.rg [⟨(some 28), (.mv (.t 5)), none⟩, ⟨(some 29), (.nck (.t 28)), none⟩, ⟨(some 30), (.fld (.t 29) 2), none⟩, ⟨(some 31), (.ld (.t 30) none), none⟩, ⟨(some 27), (.asg (.t 31)), none⟩]) (.cond (.t 27) (.seq (.rg [⟨(some 32), (.build [(.str []), (.str [])] []), none⟩, ⟨none, (.st (.t 2) (.t 32) 2), none⟩, ⟨(some 3), (.asg (.c (.str []))), none⟩, ⟨(some 4), (.asg (.c (.int .i64 3))), none⟩]) .ret) (.seq (.rg [⟨(some 34), (.ld (.t 6) (some 2)), none⟩, ⟨(some 35), (.call (.c (.fn 49 [])) [(.t 34)]), none⟩, ⟨(some 36), (.un .not (.t 35)), none⟩, ⟨(some 33), (.asg (.t 36)), none⟩]) (.cond (.t 33) (.seq (.rg [⟨(some 37), (.build [(.str []), (.str [])] []), none⟩, ⟨none, (.st (.t 2) (.t 37) 2), none⟩, ⟨(some 3), (.asg (.c (.str []))), none⟩, ⟨(some 4), (.asg (.c (.int .i64 5))), none⟩]) .ret) .skip))))) (.seq c_addr_Path_p2 .ret)))))))
def m_addr_Path : ACode := (.seq (.rg [⟨(some 2), (.alloc [(.str []), (.str [])]), none⟩, ⟨(some 3), (.asg (.c (.str []))), none⟩, ⟨(some 4), (.asg (.c (.int .i64 0))), none⟩]) (.seq (.rg [⟨(some 7), (.mv (.t 0)), none⟩, ⟨(some 8), (.build [(.str []), (.int .i64 0), (.bool false)] [(0, (1, (.t 7)))]), none⟩, ⟨(some 9), (.box (.t 8)), none⟩, ⟨(some 5), (.asg (.t 9)), none⟩]) (.seq (.rg [⟨(some 10), (.mv (.t 5)), none⟩, ⟨(some 11), (.call (.c (.fn 67 [])) [(.t 10), (.c (b8 60))]), none⟩]) (.seq (.rg [⟨(some 6), (.alloc [(.str []), (.str [])]), none⟩]) (.seq (.seq (.rg [⟨(some 12), (.mv (.t 5)), none⟩, ⟨(some 13), (.call (.c (.fn 68 [])) [(.t 12), (.c (b8 62))]), none⟩, ⟨(some 14), (.un .not (.t 13)), none⟩]) (.sem c_addr_Path_p1)) (.seq (.blk 0 (.seq (.rg [⟨(some 28), (.mv (.t 5)), none⟩, ⟨(some 29), (.nck (.t 28)), none⟩, ⟨(some 30), (.fld (.t 29) 2), none⟩, ⟨(some 31), (.ld (.t 30) none), none⟩, ⟨(some 27), (.asg (.t 31)), none⟩]) (.cond (.t 27) (.seq (.rg [⟨(some 32), (.build [(.str []), (.str [])] []), none⟩, ⟨none, (.st (.t 2) (.t 32) 2), none⟩, ⟨(some 3), (.asg (.c (.str []))), none⟩, ⟨(some 4), (.asg (.c (.int .i64 3))), none⟩]) .ret) (.seq (.rg [⟨(some 34), (.ld (.t 6) (some 2)), none⟩, ⟨(some 35), (.call (.c (.fn 49 [])) [(.t 34)]), none⟩, ⟨(some 36), (.un .not (.t 35)), none⟩, ⟨(some 33), (.asg (.t 36)), none⟩]) (.cond (.t 33) (.seq (.rg [⟨(some 37), (.build [(.str []), (.str [])] []), none⟩, ⟨none, (.st (.t 2) (.t 37) 2), none⟩, ⟨(some 3), (.asg (.c (.str []))), none⟩, ⟨(some 4), (.asg (.c (.int .i64 5))), none⟩]) .ret) .skip))))) (.seq (.sem c_addr_Path_p2) .ret)))))))
theorem k_addr_Path : FnOk Tryd.prog 33 45 [(.cell 2 52), (.tmp 3), (.tmp 4)] c_addr_Path := ⟨Tryd.f33, _, rfl, by decide, rfl, by kernel_rfl, rfl, rfl⟩
abbrev L_addr_Path : List Nat := [0, 2, 3, 4, 5, 6, 14, 27, 33]
def addr_Path_p1 (F : Nat) (r3 : Bool) (r4 : ScannerV) : Option (ScannerV × AddressV) :=
  (if (!r3) then
    (addr_scanner_route F r4).bind fun r8 =>
    (addr_scanner_local F r8).bind fun (r9, r10) =>
    (addr_scanner_want r10 64).bind fun r11 =>
    (addr_scanner_domain F r11).bind fun (r12, r13) =>
    (addr_scanner_want r13 62).bind fun r14 => some (r14, (AddressV.mk r9 r12))
  else
    some (r4, (AddressV.mk ([] : List UInt8) ([] : List UInt8))))
def addr_Path_p2 (s1 : List UInt8) (s17 : ScannerV) (s18 : AddressV) : Option ((List UInt8) × Int × AddressV) :=
  (sub s1 s17.at0 (s1.length : Int)).bind fun x21 => some (x21, 0, s18)
def addr_Path (F : Nat) (s1 : List UInt8) : Option (AddressV × (List UInt8) × Int) :=
  (addr_scanner_want (ScannerV.mk s1 0 false) 60).bind fun r2 =>
  (addr_scanner_takes r2 62).bind fun (r3, r4) =>
  (addr_Path_p1 F r3 r4).bind fun (s17, s18) =>
  (if s17.bad then
    some ((AddressV.mk ([] : List UInt8) ([] : List UInt8)), ([] : List UInt8), 3)
  else
    (addr_Right F s18).bind fun r19 =>
    (if (!r19) then
      some ((AddressV.mk ([] : List UInt8) ([] : List UInt8)), ([] : List UInt8), 5)
    else
      (addr_Path_p2 s1 s17 s18).bind fun (t25, t26, s27) =>
      some (s27, t25, t26)))
theorem addr_Path_p1_ok {F : Nat} {r3 : Bool} {r4 : ScannerV} {s1 : List UInt8} {q5 : Nat} {q6 : Nat} {q7 : Nat} {H0 H : AH} (hfr : Fr H0 H0.length [] H) (hs_o1 : H[q5]? = some [(.str ([] : List UInt8)), (.str ([] : List UInt8))]) (hs_o2 : H[q6]? = some [(.str r4.s), (.int .i64 r4.at0), (.bool r4.bad)]) (hs_o3 : H[q7]? = some [(.str ([] : List UInt8)), (.str ([] : List UInt8))]) (hi0 : H0.length ≤ q5) (hi1 : H0.length ≤ q6) (hi2 : q5 ≠ q6) (hi3 : H0.length ≤ q7) (hi4 : q5 ≠ q7) (hi5 : q6 ≠ q7) {K : Exit → Env → AH → Prop} {s15 : ScannerV} {s16 : AddressV}
    (h : addr_Path_p1 F r3 r4 = some (s15, s16))
    (kn : ∀ H' : AH, Fr H0 H0.length [] H' → H'[q5]? = some [(.str ([] : List UInt8)), (.str ([] : List UInt8))] → H'[q6]? = some [(.str s15.s), (.int .i64 s15.at0), (.bool s15.bad)] → H'[q7]? = some [(.str s16.local0), (.str s16.domain)] → K .normal [(0, (.str s1)), (2, (.ptr q5 0)), (5, (.ptr q6 0)), (6, (.ptr q7 0))] H') :
    AX Tryd.prog L_addr_Path 45 H0.length c_addr_Path_p1 K [(0, (.str s1)), (2, (.ptr q5 0)), (5, (.ptr q6 0)), (6, (.ptr q7 0)), (14, (.bool (!r3)))] H := by
  refine AX.go (m := m_addr_Path_p1) rfl (by decide) fun K' hK => ?_
  have hle := hfr.le
  have hl_o1 := h_lt hs_o1
  have hl_o2 := h_lt hs_o2
  have hl_o3 := h_lt hs_o3
  rw [addr_Path_p1.eq_1] at h
  try simp (disch := first | assumption | omega | (simp only [h_sl, h_al] <;> omega) | fail) only [WW, WH, ↓reduceIte, nA, nB, nC, nD, nE, nF, nG, reduceCtorEq, L_addr_Path, m_addr_Path_p1, c_addr_Path_p1, hs_o1, hs_o2, hs_o3]
  rcases ifb h with ⟨hy3, h⟩ | ⟨hy3, h⟩
  · refine UC_t hy3 ?_
    try simp (disch := first | assumption | omega | (simp only [h_sl, h_al] <;> omega) | fail) only [WW, WH, ↓reduceIte, nA, nB, nC, nD, nE, nF, nG, reduceCtorEq, L_addr_Path, hs_o1, hs_o2, hs_o3]
    obtain ⟨r8, hy4, h⟩ := bnd' h
    refine UK_e (as' := [(.ptr q6 0)]) (h := addr_scanner_route_ok (x2 := r4) (q1 := q6) (F := F) (by exact ((hs_o2).trans rfl)) hy4) (hw := WL.cons (Wx.ptr) (WL.nil)) (hh := WxH.refl _) ?_
    try simp (disch := first | assumption | omega | (simp only [h_sl, h_al] <;> omega) | fail) only [WW, WH, ↓reduceIte, nA, nB, nC, nD, nE, nF, nG, reduceCtorEq, L_addr_Path, hs_o1, hs_o2, hs_o3]
    obtain ⟨⟨r9, r10⟩, hy5, h⟩ := bnd' h
    dsimp only at h
    refine UK_e (as' := [(.ptr q6 0)]) (h := addr_scanner_local_ok (x2 := r8) (q1 := q6) (F := F) (by exact ((h_eq (by first | assumption | omega | (simp only [h_sl, h_al] <;> omega) | fail)).trans rfl)) hy5) (hw := WL.cons (Wx.ptr) (WL.nil)) (hh := WxH.refl _) ?_
    try simp (disch := first | assumption | omega | (simp only [h_sl, h_al] <;> omega) | fail) only [WW, WH, ↓reduceIte, nA, nB, nC, nD, nE, nF, nG, reduceCtorEq, L_addr_Path, hs_o1, hs_o2, hs_o3]
    obtain ⟨r11, hy6, h⟩ := bnd' h
    refine UK_e (as' := [(.ptr q6 0), (b8 64)]) (h := addr_scanner_want_ok (x2 := r10) (c3 := 64) (q1 := q6) (by exact (((h_ne (by first | assumption | omega | (simp only [h_sl, h_al] <;> omega) | fail)).trans (h_eq (by first | assumption | omega | (simp only [h_sl, h_al] <;> omega) | fail))).trans rfl)) hy6) (hw := WL.cons (Wx.ptr) (WL.cons (Wx.b8) (WL.nil))) (hh := WxH.refl _) ?_
    try simp (disch := first | assumption | omega | (simp only [h_sl, h_al] <;> omega) | fail) only [WW, WH, ↓reduceIte, nA, nB, nC, nD, nE, nF, nG, reduceCtorEq, L_addr_Path, hs_o1, hs_o2, hs_o3]
    obtain ⟨⟨r12, r13⟩, hy7, h⟩ := bnd' h
    dsimp only at h
    refine UK_e (as' := [(.ptr q6 0)]) (h := addr_scanner_domain_ok (x2 := r11) (q1 := q6) (F := F) (by exact ((h_eq (by first | assumption | omega | (simp only [h_sl, h_al] <;> omega) | fail)).trans rfl)) hy7) (hw := WL.cons (Wx.ptr) (WL.nil)) (hh := WxH.refl _) ?_
    try simp (disch := first | assumption | omega | (simp only [h_sl, h_al] <;> omega) | fail) only [WW, WH, ↓reduceIte, nA, nB, nC, nD, nE, nF, nG, reduceCtorEq, L_addr_Path, hs_o1, hs_o2, hs_o3]
    obtain ⟨r14, hy8, h⟩ := bnd' h
    refine UK_e (as' := [(.ptr q6 0), (b8 62)]) (h := addr_scanner_want_ok (x2 := r13) (c3 := 62) (q1 := q6) (by exact (((h_ne (by first | assumption | omega | (simp only [h_sl, h_al] <;> omega) | fail)).trans (h_eq (by first | assumption | omega | (simp only [h_sl, h_al] <;> omega) | fail))).trans rfl)) hy8) (hw := WL.cons (Wx.ptr) (WL.cons (Wx.b8) (WL.nil))) (hh := WxH.refl _) ?_
    try simp (disch := first | assumption | omega | (simp only [h_sl, h_al] <;> omega) | fail) only [WW, WH, ↓reduceIte, nA, nB, nC, nD, nE, nF, nG, reduceCtorEq, L_addr_Path, hs_o1, hs_o2, hs_o3]
    have hq := Option.some.inj h; have hq0 := (Prod.mk.inj hq).1; replace hq := (Prod.mk.inj hq).2; subst hq0; subst hq
    refine hK _ _ _ _ _ ?_ (WxH.refl _) (kn _ (Fr.set (s := q6) (Fr.set (s := q7) (Fr.set (s := q6) (Fr.set (s := q6) (Fr.set (s := q7) (Fr.set (s := q6) (Fr.set (s := q6) hfr (.inr (by first | assumption | omega | (simp only [h_sl, h_al] <;> omega) | fail))) (.inr (by first | assumption | omega | (simp only [h_sl, h_al] <;> omega) | fail))) (.inr (by first | assumption | omega | (simp only [h_sl, h_al] <;> omega) | fail))) (.inr (by first | assumption | omega | (simp only [h_sl, h_al] <;> omega) | fail))) (.inr (by first | assumption | omega | (simp only [h_sl, h_al] <;> omega) | fail))) (.inr (by first | assumption | omega | (simp only [h_sl, h_al] <;> omega) | fail))) (.inr (by first | assumption | omega | (simp only [h_sl, h_al] <;> omega) | fail))) (((h_ne (by first | assumption | omega | (simp only [h_sl, h_al] <;> omega) | fail)).trans ((h_ne (by first | assumption | omega | (simp only [h_sl, h_al] <;> omega) | fail)).trans ((h_ne (by first | assumption | omega | (simp only [h_sl, h_al] <;> omega) | fail)).trans ((h_ne (by first | assumption | omega | (simp only [h_sl, h_al] <;> omega) | fail)).trans ((h_ne (by first | assumption | omega | (simp only [h_sl, h_al] <;> omega) | fail)).trans ((h_ne (by first | assumption | omega | (simp only [h_sl, h_al] <;> omega) | fail)).trans ((h_ne (by first | assumption | omega | (simp only [h_sl, h_al] <;> omega) | fail)).trans (hs_o1)))))))).trans rfl) ((h_eq (by first | assumption | omega | (simp only [h_sl, h_al] <;> omega) | fail)).trans rfl) (((h_ne (by first | assumption | omega | (simp only [h_sl, h_al] <;> omega) | fail)).trans (h_eq (by first | assumption | omega | (simp only [h_sl, h_al] <;> omega) | fail))).trans rfl))
    exact WE.cons (Wx.str) (WE.cons (Wx.ptr) (WE.cons (Wx.ptr) (WE.cons (Wx.ptr) (WE.nil))))
  · refine UC_f hy3 ?_
    try simp (disch := first | assumption | omega | (simp only [h_sl, h_al] <;> omega) | fail) only [WW, WH, ↓reduceIte, nA, nB, nC, nD, nE, nF, nG, reduceCtorEq, L_addr_Path, hs_o1, hs_o2, hs_o3]
    have hq := Option.some.inj h; have hq0 := (Prod.mk.inj hq).1; replace hq := (Prod.mk.inj hq).2; subst hq0; subst hq
    refine hK _ _ _ _ _ ?_ (WxH.refl _) (kn _ hfr ((hs_o1).trans rfl) ((hs_o2).trans rfl) ((hs_o3).trans rfl))
    exact WE.cons (Wx.str) (WE.cons (Wx.ptr) (WE.cons (Wx.ptr) (WE.cons (Wx.ptr) (WE.nil))))
theorem addr_Path_p2_ok {s1 : List UInt8} {s17 : ScannerV} {s18 : AddressV} {q20 : Nat} {H0 H : AH} (hfr : Fr H0 H0.length [] H) (hs_o1 : H[q20]? = some [(.str ([] : List UInt8)), (.str ([] : List UInt8))]) (hi0 : H0.length ≤ q20) {K : Exit → Env → AH → Prop} {t22 : List UInt8} {t23 : Int} {s24 : AddressV}
    (h : addr_Path_p2 s1 s17 s18 = some (t22, t23, s24))
    (kn : ∀ H' : AH, Fr H0 H0.length [] H' → H'[q20]? = some [(.str s24.local0), (.str s24.domain)] → K .normal [(2, (.ptr q20 0)), (3, (.str t22)), (4, (.int .i64 t23))] H') :
    AX Tryd.prog L_addr_Path 45 H0.length c_addr_Path_p2 K [(0, (.str s1)), (2, (.ptr q20 0)), (5, (.ep (.agg [(.str s17.s), (.int .i64 s17.at0), (.bool s17.bad)]) 0)), (6, (.ep (.agg [(.str s18.local0), (.str s18.domain)]) 0))] H := by
  refine AX.go (m := m_addr_Path_p2) rfl (by decide) fun K' hK => ?_
  have hle := hfr.le
  have hl_o1 := h_lt hs_o1
  rw [addr_Path_p2.eq_1] at h
  obtain ⟨x21, hy13, h⟩ := bnd' h
  try simp (disch := first | assumption | omega | (simp only [h_sl, h_al] <;> omega) | fail) only [WW, WH, ↓reduceIte, nA, nB, nC, nD, nE, nF, nG, reduceCtorEq, L_addr_Path, m_addr_Path_p2, c_addr_Path_p2, hy13, hs_o1]
  have hq := Option.some.inj h; have hq0 := (Prod.mk.inj hq).1; replace hq := (Prod.mk.inj hq).2; have hq1 := (Prod.mk.inj hq).1; replace hq := (Prod.mk.inj hq).2; subst hq0; subst hq1; subst hq
  refine hK _ _ _ _ _ ?_ (WxH.refl _) (kn _ (Fr.set (s := q20) hfr (.inr (by first | assumption | omega | (simp only [h_sl, h_al] <;> omega) | fail))) ((h_eq (by first | assumption | omega | (simp only [h_sl, h_al] <;> omega) | fail)).trans rfl))
  exact WE.cons (Wx.ptr) (WE.cons (Wx.str) (WE.cons (Wx.int) (WE.nil)))
theorem addr_Path_ok {F : Nat} {s1 : List UInt8}  {H0 : AH}  {rz0 : AddressV} {rz1 : List UInt8} {rz2 : Int} (h : addr_Path F s1 = some (rz0, rz1, rz2)) :
    ACalls Tryd.prog 33 [(.str s1)] H0 fun v H' => v = (.tup [(.agg [(.str rz0.local0), (.str rz0.domain)]), (.str rz1), (.int .i64 rz2)]) ∧ H' = H0 := by
  refine ACalls.goX k_addr_Path (m := m_addr_Path) rfl L_addr_Path (by decide) (by simp) fun hcl K0 hK0 => ?_
  refine AX.of_U (m := m_addr_Path) rfl (by decide) ?_
  have hfr := Fr.refl H0 []
  have hle := hfr.le
  rw [addr_Path.eq_1] at h
  obtain ⟨H, hHH⟩ : ∃ H, H = H0 := ⟨_, rfl⟩
  have hfr : Fr H0 H0.length [] H := hHH ▸ hfr
  have hle := hfr.le
  suffices hU : U Tryd.prog L_addr_Path 45 H0.length [.code m_addr_Path] K0 .normal (argE 0 [(.str s1)]) H by rwa [hHH] at hU
  try simp (disch := first | assumption | omega | (simp only [h_sl, h_al] <;> omega) | fail) only [WW, WH, ↓reduceIte, nA, nB, nC, nD, nE, nF, nG, reduceCtorEq, L_addr_Path, m_addr_Path]
  obtain ⟨r2, hy1, h⟩ := bnd' h
  refine UK_e (as' := [(.ptr (H.length + 1) 0), (b8 60)]) (h := addr_scanner_want_ok (x2 := (ScannerV.mk s1 0 false)) (c3 := 60) (q1 := (H.length + 1)) (by exact ((h_new' (by first | assumption | omega | (simp only [h_sl, h_al] <;> omega) | fail)).trans rfl)) hy1) (hw := WL.cons (Wx.ptr) (WL.cons (Wx.b8) (WL.nil))) (hh := WxH.refl _) ?_
  try simp (disch := first | assumption | omega | (simp only [h_sl, h_al] <;> omega) | fail) only [WW, WH, ↓reduceIte, nA, nB, nC, nD, nE, nF, nG, reduceCtorEq, L_addr_Path]
  obtain ⟨⟨r3, r4⟩, hy2, h⟩ := bnd' h
  dsimp only at h
  refine UK_e (as' := [(.ptr (H.length + 1) 0), (b8 62)]) (h := addr_scanner_takes_ok (x2 := r2) (c3 := 62) (q1 := (H.length + 1)) (by exact (((h_app (by first | assumption | omega | (simp only [h_sl, h_al] <;> omega) | fail)).trans (h_eq (by first | assumption | omega | (simp only [h_sl, h_al] <;> omega) | fail))).trans rfl)) hy2) (hw := WL.cons (Wx.ptr) (WL.cons (Wx.b8) (WL.nil))) (hh := WxH.refl _) ?_
  try simp (disch := first | assumption | omega | (simp only [h_sl, h_al] <;> omega) | fail) only [WW, WH, ↓reduceIte, nA, nB, nC, nD, nE, nF, nG, reduceCtorEq, L_addr_Path]
  obtain ⟨q6, hg_q6⟩ : ∃ q : Nat, (H.length + 1) = q := ⟨_, rfl⟩
  try rw [hg_q6]
  obtain ⟨q7, hg_q7⟩ : ∃ q : Nat, (H.length + 2) = q := ⟨_, rfl⟩
  try rw [hg_q7]
  obtain ⟨q5, hg_q5⟩ : ∃ q : Nat, H.length = q := ⟨_, rfl⟩
  try rw [hg_q5]
  try rw [show q5 + 1 = q6 from by omega]
  try rw [show q6 + 1 = q7 from by omega]
  obtain ⟨⟨s17, s18⟩, hy9, h⟩ := bnd' h
  dsimp only at h
  refine UX_of (AX.weak ?_ (WxH.refl _) (addr_Path_p1_ok (F := F) (r3 := r3) (r4 := r4) (s1 := s1) (s15 := s17) (s16 := s18) (q5 := q5) (q6 := q6) (q7 := q7) ((Fr.set (s := q6) (Fr.app (Fr.set (s := q6) (Fr.app (Fr.app hfr)) (.inr (by first | assumption | omega | (simp only [h_sl, h_al] <;> omega) | fail)))) (.inr (by first | assumption | omega | (simp only [h_sl, h_al] <;> omega) | fail)))) (((h_ne (by first | assumption | omega | (simp only [h_sl, h_al] <;> omega) | fail)).trans ((h_app (by first | assumption | omega | (simp only [h_sl, h_al] <;> omega) | fail)).trans ((h_ne (by first | assumption | omega | (simp only [h_sl, h_al] <;> omega) | fail)).trans ((h_app (by first | assumption | omega | (simp only [h_sl, h_al] <;> omega) | fail)).trans (h_new' (by first | assumption | omega | (simp only [h_sl, h_al] <;> omega) | fail)))))).trans rfl) ((h_eq (by first | assumption | omega | (simp only [h_sl, h_al] <;> omega) | fail)).trans rfl) (((h_ne (by first | assumption | omega | (simp only [h_sl, h_al] <;> omega) | fail)).trans (h_new' (by first | assumption | omega | (simp only [h_sl, h_al] <;> omega) | fail))).trans rfl) (by first | assumption | omega | (simp only [h_sl, h_al] <;> omega) | fail) (by first | assumption | omega | (simp only [h_sl, h_al] <;> omega) | fail) (by first | assumption | omega | (simp only [h_sl, h_al] <;> omega) | fail) (by first | assumption | omega | (simp only [h_sl, h_al] <;> omega) | fail) (by first | assumption | omega | (simp only [h_sl, h_al] <;> omega) | fail) (by first | assumption | omega | (simp only [h_sl, h_al] <;> omega) | fail) hy9 ?_))
  · exact WE.cons (Wx.str) (WE.cons (Wx.ptr) (WE.cons (Wx.ptr) (WE.cons (Wx.ptr) (WE.cons (Wx.bool) (WE.nil)))))
  intro H hfr hs_o1 hs_o2 hs_o3
  have hle := hfr.le
  have hl_o1 := h_lt hs_o1
  have hl_o2 := h_lt hs_o2
  have hl_o3 := h_lt hs_o3
  try simp (disch := first | assumption | omega | (simp only [h_sl, h_al] <;> omega) | fail) only [WW, WH, ↓reduceIte, nA, nB, nC, nD, nE, nF, nG, reduceCtorEq, L_addr_Path, hs_o1, hs_o2, hs_o3]
  rcases ifb h with ⟨hy10, h⟩ | ⟨hy10, h⟩
  · refine UC_t hy10 ?_
    try simp (disch := first | assumption | omega | (simp only [h_sl, h_al] <;> omega) | fail) only [WW, WH, ↓reduceIte, nA, nB, nC, nD, nE, nF, nG, reduceCtorEq, L_addr_Path, hs_o1, hs_o2, hs_o3]
    have hq := Option.some.inj h; have hq0 := (Prod.mk.inj hq).1; replace hq := (Prod.mk.inj hq).2; have hq1 := (Prod.mk.inj hq).1; replace hq := (Prod.mk.inj hq).2; subst hq0; subst hq1; subst hq
    refine hK0 _ _ _ (.inr rfl) ?_
    exact fn_end0 (by exact (Fr.set (s := q5) hfr (.inr (by first | assumption | omega | (simp only [h_sl, h_al] <;> omega) | fail)))) hcl (resv_cell (cs := [(.str ([] : List UInt8)), (.str ([] : List UInt8))]) (v := (.agg [(.str ([] : List UInt8)), (.str ([] : List UInt8))])) (by kernel_rfl) (n := (some 2)) (by kernel_rfl) rfl (by exact ((h_eq (by first | assumption | omega | (simp only [h_sl, h_al] <;> omega) | fail)).trans rfl)) (by simp [loadc_n, loadc_1, ld1, allFlat, AV.flat, b_flat, b_sh1, AV.sh1, Tg.sh]) (resv_tmp (a := (.str ([] : List UInt8))) rfl rfl (resv_tmp (a := (.int .i64 3)) rfl rfl resv_nil))) (by first | (simp [fin, b_df, b_sh, b_sh1, b_Cl]; done) | (simp [fin, AV.df, AV.sh, AV.sh1, b_df, b_sh, b_sh1, b_Cl]; done)) (Wx.tupX (W2L.same (W2L.same (W2L.same (W2L.nil))))) (r' := (.tup [(.agg [(.str ((AddressV.mk ([] : List UInt8) ([] : List UInt8)).local0)), (.str ((AddressV.mk ([] : List UInt8) ([] : List UInt8)).domain))]), (.str ([] : List UInt8)), (.int .i64 3)])) ⟨rfl, rfl⟩
  · refine UC_f hy10 ?_
    try simp (disch := first | assumption | omega | (simp only [h_sl, h_al] <;> omega) | fail) only [WW, WH, ↓reduceIte, nA, nB, nC, nD, nE, nF, nG, reduceCtorEq, L_addr_Path, hs_o1, hs_o2, hs_o3]
    obtain ⟨r19, hy11, h⟩ := bnd' h
    refine UK_e (as' := [(.agg [(.str s18.local0), (.str s18.domain)])]) (h := addr_Right_ok (a1 := s18) (F := F)  hy11) (hw := WL.cons (Wx.agg (W1L.same (W1L.same (W1L.nil)))) (WL.nil)) (hh := WxH.refl _) ?_
    try simp (disch := first | assumption | omega | (simp only [h_sl, h_al] <;> omega) | fail) only [WW, WH, ↓reduceIte, nA, nB, nC, nD, nE, nF, nG, reduceCtorEq, L_addr_Path, hs_o1, hs_o2, hs_o3]
    rcases ifb h with ⟨hy12, h⟩ | ⟨hy12, h⟩
    · refine UC_t hy12 ?_
      try simp (disch := first | assumption | omega | (simp only [h_sl, h_al] <;> omega) | fail) only [WW, WH, ↓reduceIte, nA, nB, nC, nD, nE, nF, nG, reduceCtorEq, L_addr_Path, hs_o1, hs_o2, hs_o3]
      have hq := Option.some.inj h; have hq0 := (Prod.mk.inj hq).1; replace hq := (Prod.mk.inj hq).2; have hq1 := (Prod.mk.inj hq).1; replace hq := (Prod.mk.inj hq).2; subst hq0; subst hq1; subst hq
      refine hK0 _ _ _ (.inr rfl) ?_
      exact fn_end0 (by exact (Fr.set (s := q5) hfr (.inr (by first | assumption | omega | (simp only [h_sl, h_al] <;> omega) | fail)))) hcl (resv_cell (cs := [(.str ([] : List UInt8)), (.str ([] : List UInt8))]) (v := (.agg [(.str ([] : List UInt8)), (.str ([] : List UInt8))])) (by kernel_rfl) (n := (some 2)) (by kernel_rfl) rfl (by exact ((h_eq (by first | assumption | omega | (simp only [h_sl, h_al] <;> omega) | fail)).trans rfl)) (by simp [loadc_n, loadc_1, ld1, allFlat, AV.flat, b_flat, b_sh1, AV.sh1, Tg.sh]) (resv_tmp (a := (.str ([] : List UInt8))) rfl rfl (resv_tmp (a := (.int .i64 5)) rfl rfl resv_nil))) (by first | (simp [fin, b_df, b_sh, b_sh1, b_Cl]; done) | (simp [fin, AV.df, AV.sh, AV.sh1, b_df, b_sh, b_sh1, b_Cl]; done)) (Wx.tupX (W2L.same (W2L.same (W2L.same (W2L.nil))))) (r' := (.tup [(.agg [(.str ((AddressV.mk ([] : List UInt8) ([] : List UInt8)).local0)), (.str ((AddressV.mk ([] : List UInt8) ([] : List UInt8)).domain))]), (.str ([] : List UInt8)), (.int .i64 5)])) ⟨rfl, rfl⟩
    · refine UC_f hy12 ?_
      try simp (disch := first | assumption | omega | (simp only [h_sl, h_al] <;> omega) | fail) only [WW, WH, ↓reduceIte, nA, nB, nC, nD, nE, nF, nG, reduceCtorEq, L_addr_Path, hs_o1, hs_o2, hs_o3]
      refine UX_of ?_
      apply AX.freeze (s := q7) (cs := [(.str s18.local0), (.str s18.domain)]) (by exact ((hs_o3).trans rfl)) (W1L.same (W1L.same (W1L.nil))) (by simp) rfl
      · repeat (first | exact FZ.nil | apply FZ.ep | apply FZ.same)
      apply AX.freeze (s := q6) (cs := [(.str s17.s), (.int .i64 s17.at0), (.bool s17.bad)]) (by exact (((h_ne (by first | assumption | omega | (simp only [h_sl, h_al] <;> omega) | fail)).trans (hs_o2)).trans rfl)) (W1L.same (W1L.same (W1L.same (W1L.nil)))) (by simp) rfl
      · repeat (first | exact FZ.nil | apply FZ.ep | apply FZ.same)
      obtain ⟨⟨t25, t26, s27⟩, hy14, h⟩ := bnd' h
      dsimp only at h
      refine UX_of (AX.weak ?_ (WxH.refl _) (addr_Path_p2_ok  (s1 := s1) (s17 := s17) (s18 := s18) (t22 := t25) (t23 := t26) (s24 := s27) (q20 := q5) ((Fr.set (s := q6) (Fr.set (s := q7) hfr (.inr (by first | assumption | omega | (simp only [h_sl, h_al] <;> omega) | fail))) (.inr (by first | assumption | omega | (simp only [h_sl, h_al] <;> omega) | fail)))) (((h_ne (by first | assumption | omega | (simp only [h_sl, h_al] <;> omega) | fail)).trans ((h_ne (by first | assumption | omega | (simp only [h_sl, h_al] <;> omega) | fail)).trans (hs_o1))).trans rfl) (by first | assumption | omega | (simp only [h_sl, h_al] <;> omega) | fail) hy14 ?_))
      · exact WE.cons (Wx.str) (WE.cons (Wx.ptr) (WE.cons (Wx.ep) (WE.cons (Wx.ep) (WE.nil))))
      intro H hfr hs_o1
      have hle := hfr.le
      have hl_o1 := h_lt hs_o1
      try simp (disch := first | assumption | omega | (simp only [h_sl, h_al] <;> omega) | fail) only [WW, WH, ↓reduceIte, nA, nB, nC, nD, nE, nF, nG, reduceCtorEq, L_addr_Path, hs_o1]
      have hq := Option.some.inj h; have hq0 := (Prod.mk.inj hq).1; replace hq := (Prod.mk.inj hq).2; have hq1 := (Prod.mk.inj hq).1; replace hq := (Prod.mk.inj hq).2; subst hq0; subst hq1; subst hq
      refine hK0 _ _ _ (.inr rfl) ?_
      exact fn_end0 (by exact hfr) hcl (resv_cell (cs := [(.str s27.local0), (.str s27.domain)]) (v := (.agg [(.str s27.local0), (.str s27.domain)])) (by kernel_rfl) (n := (some 2)) (by kernel_rfl) rfl (by exact ((hs_o1).trans rfl)) (by simp [loadc_n, loadc_1, ld1, allFlat, AV.flat, b_flat, b_sh1, AV.sh1, Tg.sh]) (resv_tmp (a := (.str t25)) rfl rfl (resv_tmp (a := (.int .i64 t26)) rfl rfl resv_nil))) (by first | (simp [fin, b_df, b_sh, b_sh1, b_Cl]; done) | (simp [fin, AV.df, AV.sh, AV.sh1, b_df, b_sh, b_sh1, b_Cl]; done)) (Wx.tupX (W2L.same (W2L.same (W2L.same (W2L.nil))))) (r' := (.tup [(.agg [(.str s27.local0), (.str s27.domain)]), (.str t25), (.int .i64 t26)])) ⟨rfl, rfl⟩

/-! ### mailbag/addr.Parse -/
def c_addr_Parse_p1 : ACode := (.rg [⟨(some 13), (.mv (.t 6)), none⟩, ⟨(some 14), (.bin .eql (.t 13) (.c (.int .i64 0))), none⟩, ⟨(some 15), (.mv (.t 14)), none⟩, ⟨(some 16), (.mv (.t 5)), (some (15, true))⟩, ⟨(some 17), (.bin .neq (.t 16) (.c (.str []))), (some (15, true))⟩, ⟨(some 18), (.pick (.t 15) (.t 17) (.c (.bool false))), none⟩])
abbrev m_addr_Parse_p1 := c_addr_Parse_p1
def c_addr_Parse : ACode := (.seq (.rg [⟨(some 2), (.alloc [(.str []), (.str [])]), none⟩, ⟨(some 3), (.asg (.c (.int .i64 0))), none⟩]) (.seq (.rg [⟨(some 8), (.mv (.t 0)), none⟩, ⟨(some 9), (.call (.c (.fn 33 [])) [(.t 8)]), none⟩, ⟨(some 7), (.mv (.t 9)), none⟩, ⟨(some 10), (.ext (.t 7) 0), none⟩, ⟨(some 11), (.ext (.t 7) 1), none⟩, ⟨(some 12), (.ext (.t 7) 2), none⟩, ⟨(some 4), (.alloc [(.str []), (.str [])]), none⟩, ⟨none, (.st (.t 4) (.t 10) 2), none⟩, ⟨(some 5), (.asg (.t 11)), none⟩, ⟨(some 6), (.asg (.t 12)), none⟩]) (.seq (.seq c_addr_Parse_p1 (.cond (.t 18) (.seq (.rg [⟨(some 19), (.build [(.str []), (.str [])] []), none⟩, ⟨none, (.st (.t 2) (.t 19) 2), none⟩, ⟨(some 3), (.asg (.c (.int .i64 3))), none⟩]) .ret) .skip)) (.seq (.rg [⟨(some 20), (.ld (.t 4) (some 2)), none⟩, ⟨(some 21), (.mv (.t 6)), none⟩, ⟨none, (.st (.t 2) (.t 20) 2), none⟩, ⟨(some 3), (.asg (.t 21)), none⟩]) .ret))))
def m_addr_Parse : ACode := (.seq (.rg [⟨(some 2), (.alloc [(.str []), (.str [])]), none⟩, ⟨(some 3), (.asg (.c (.int .i64 0))), none⟩]) (.seq (.rg [⟨(some 8), (.mv (.t 0)), none⟩, ⟨(some 9), (.call (.c (.fn 33 [])) [(.t 8)]), none⟩, ⟨(some 7), (.mv (.t 9)), none⟩, ⟨(some 10), (.ext (.t 7) 0), none⟩, ⟨(some 11), (.ext (.t 7) 1), none⟩, ⟨(some 12), (.ext (.t 7) 2), none⟩, ⟨(some 4), (.alloc [(.str []), (.str [])]), none⟩, ⟨none, (.st (.t 4) (.t 10) 2), none⟩, ⟨(some 5), (.asg (.t 11)), none⟩, ⟨(some 6), (.asg (.t 12)), none⟩]) (.seq (.seq (.sem c_addr_Parse_p1) (.cond (.t 18) (.seq (.rg [⟨(some 19), (.build [(.str []), (.str [])] []), none⟩, ⟨none, (.st (.t 2) (.t 19) 2), none⟩, ⟨(some 3), (.asg (.c (.int .i64 3))), none⟩]) .ret) .skip)) (.seq (.rg [⟨(some 20), (.ld (.t 4) (some 2)), none⟩, ⟨(some 21), (.mv (.t 6)), none⟩, ⟨none, (.st (.t 2) (.t 20) 2), none⟩, ⟨(some 3), (.asg (.t 21)), none⟩]) .ret))))
theorem k_addr_Parse : FnOk Tryd.prog 35 22 [(.cell 2 52), (.tmp 3)] c_addr_Parse := ⟨Tryd.f35, _, rfl, by decide, rfl, by kernel_rfl, rfl, rfl⟩
abbrev L_addr_Parse : List Nat := [0, 2, 3, 4, 5, 6, 18]
def addr_Parse (F : Nat) (s1 : List UInt8) : Option (AddressV × Int) :=
  (addr_Path F s1).bind fun (r2, r3, r4) =>
  (if ((decide (r4 = 0)) && (!decide (r3 = ([] : List UInt8)))) then
    some ((AddressV.mk ([] : List UInt8) ([] : List UInt8)), 3)
  else
    some (r2, r4))
theorem addr_Parse_p1_ok {q5 : Nat} {q6 : Nat} {r3 : List UInt8} {r4 : Int} {r2 : AddressV} {H0 H : AH} (hfr : Fr H0 H0.length [] H) (hs_o1 : H[q5]? = some [(.str ([] : List UInt8)), (.str ([] : List UInt8))]) (hs_o2 : H[q6]? = some [(.str r2.local0), (.str r2.domain)]) (hi0 : H0.length ≤ q5) (hi1 : H0.length ≤ q6) (hi2 : q5 ≠ q6) {K : Exit → Env → AH → Prop}
    (kn : ∀ H' : AH, Fr H0 H0.length [] H' → H'[q5]? = some [(.str ([] : List UInt8)), (.str ([] : List UInt8))] → H'[q6]? = some [(.str r2.local0), (.str r2.domain)] → K .normal [(2, (.ptr q5 0)), (4, (.ptr q6 0)), (6, (.int .i64 r4)), (18, (.bool ((decide (r4 = 0)) && (!decide (r3 = ([] : List UInt8))))))] H') :
    AX Tryd.prog L_addr_Parse 22 H0.length c_addr_Parse_p1 K [(2, (.ptr q5 0)), (4, (.ptr q6 0)), (5, (.str r3)), (6, (.int .i64 r4))] H := by
  refine AX.go (m := m_addr_Parse_p1) rfl (by decide) fun K' hK => ?_
  have hle := hfr.le
  have hl_o1 := h_lt hs_o1
  have hl_o2 := h_lt hs_o2
  try simp (disch := first | assumption | omega | (simp only [h_sl, h_al] <;> omega) | fail) only [WW, WH, ↓reduceIte, nA, nB, nC, nD, nE, nF, nG, reduceCtorEq, L_addr_Parse, m_addr_Parse_p1, c_addr_Parse_p1, hs_o1, hs_o2]
  rcases bcases ((decide (r4 = 0))) with hy2 | hy2
  · refine UG_go hy2 ?_
    try simp (disch := first | assumption | omega | (simp only [h_sl, h_al] <;> omega) | fail) only [WW, WH, ↓reduceIte, nA, nB, nC, nD, nE, nF, nG, reduceCtorEq, L_addr_Parse, hy2, hs_o1, hs_o2]
    refine hK _ _ _ _ _ ?_ (WxH.refl _) (kn _ hfr ((hs_o1).trans rfl) ((hs_o2).trans rfl))
    exact WE.cons (Wx.ptr) (WE.cons (Wx.ptr) (WE.cons (Wx.int) (WE.cons (Wx.boolE (by simp only [hy2, WB])) (WE.nil))))
  · refine UG_nt hy2 ?_
    try simp (disch := first | assumption | omega | (simp only [h_sl, h_al] <;> omega) | fail) only [WW, WH, ↓reduceIte, nA, nB, nC, nD, nE, nF, nG, reduceCtorEq, L_addr_Parse, hy2, hs_o1, hs_o2]
    refine hK _ _ _ _ _ ?_ (WxH.refl _) (kn _ hfr ((hs_o1).trans rfl) ((hs_o2).trans rfl))
    exact WE.cons (Wx.ptr) (WE.cons (Wx.ptr) (WE.cons (Wx.int) (WE.cons (Wx.boolE (by simp only [hy2, WB])) (WE.nil))))
theorem addr_Parse_ok {F : Nat} {s1 : List UInt8}  {H0 : AH}  {rz0 : AddressV} {rz1 : Int} (h : addr_Parse F s1 = some (rz0, rz1)) :
    ACalls Tryd.prog 35 [(.str s1)] H0 fun v H' => v = (.tup [(.agg [(.str rz0.local0), (.str rz0.domain)]), (.int .i64 rz1)]) ∧ H' = H0 := by
  refine ACalls.goX k_addr_Parse (m := m_addr_Parse) rfl L_addr_Parse (by decide) (by simp) fun hcl K0 hK0 => ?_
  refine AX.of_U (m := m_addr_Parse) rfl (by decide) ?_
  have hfr := Fr.refl H0 []
  have hle := hfr.le
  rw [addr_Parse.eq_1] at h
  obtain ⟨H, hHH⟩ : ∃ H, H = H0 := ⟨_, rfl⟩
  have hfr : Fr H0 H0.length [] H := hHH ▸ hfr
  have hle := hfr.le
  suffices hU : U Tryd.prog L_addr_Parse 22 H0.length [.code m_addr_Parse] K0 .normal (argE 0 [(.str s1)]) H by rwa [hHH] at hU
  try simp (disch := first | assumption | omega | (simp only [h_sl, h_al] <;> omega) | fail) only [WW, WH, ↓reduceIte, nA, nB, nC, nD, nE, nF, nG, reduceCtorEq, L_addr_Parse, m_addr_Parse]
  obtain ⟨⟨r2, r3, r4⟩, hy1, h⟩ := bnd' h
  dsimp only at h
  refine UK_e (as' := [(.str s1)]) (h := addr_Path_ok (s1 := s1) (F := F)  hy1) (hw := WL.cons (Wx.str) (WL.nil)) (hh := WxH.refl _) ?_
  try simp (disch := first | assumption | omega | (simp only [h_sl, h_al] <;> omega) | fail) only [WW, WH, ↓reduceIte, nA, nB, nC, nD, nE, nF, nG, reduceCtorEq, L_addr_Parse]
  obtain ⟨q6, hg_q6⟩ : ∃ q : Nat, (H.length + 1) = q := ⟨_, rfl⟩
  try rw [hg_q6]
  obtain ⟨q5, hg_q5⟩ : ∃ q : Nat, H.length = q := ⟨_, rfl⟩
  try rw [hg_q5]
  try rw [show q5 + 1 = q6 from by omega]
  refine UX_of (AX.weak ?_ (WxH.refl _) (addr_Parse_p1_ok (q5 := q5) (q6 := q6) (r3 := r3) (r4 := r4) (r2 := r2) ((Fr.set (s := q6) (Fr.app (Fr.app hfr)) (.inr (by first | assumption | omega | (simp only [h_sl, h_al] <;> omega) | fail)))) (((h_ne (by first | assumption | omega | (simp only [h_sl, h_al] <;> omega) | fail)).trans ((h_app (by first | assumption | omega | (simp only [h_sl, h_al] <;> omega) | fail)).trans (h_new' (by first | assumption | omega | (simp only [h_sl, h_al] <;> omega) | fail)))).trans rfl) ((h_eq (by first | assumption | omega | (simp only [h_sl, h_al] <;> omega) | fail)).trans rfl) (by first | assumption | omega | (simp only [h_sl, h_al] <;> omega) | fail) (by first | assumption | omega | (simp only [h_sl, h_al] <;> omega) | fail) (by first | assumption | omega | (simp only [h_sl, h_al] <;> omega) | fail) ?_))
  · exact WE.cons (Wx.ptr) (WE.cons (Wx.ptr) (WE.cons (Wx.str) (WE.cons (Wx.int) (WE.nil))))
  intro H hfr hs_o1 hs_o2
  have hle := hfr.le
  have hl_o1 := h_lt hs_o1
  have hl_o2 := h_lt hs_o2
  try simp (disch := first | assumption | omega | (simp only [h_sl, h_al] <;> omega) | fail) only [WW, WH, ↓reduceIte, nA, nB, nC, nD, nE, nF, nG, reduceCtorEq, L_addr_Parse, hs_o1, hs_o2]
  rcases ifb h with ⟨hy3, h⟩ | ⟨hy3, h⟩
  · refine UC_t hy3 ?_
    try simp (disch := first | assumption | omega | (simp only [h_sl, h_al] <;> omega) | fail) only [WW, WH, ↓reduceIte, nA, nB, nC, nD, nE, nF, nG, reduceCtorEq, L_addr_Parse, hs_o1, hs_o2]
    have hq := Option.some.inj h; have hq0 := (Prod.mk.inj hq).1; replace hq := (Prod.mk.inj hq).2; subst hq0; subst hq
    refine hK0 _ _ _ (.inr rfl) ?_
    exact fn_end0 (by exact (Fr.set (s := q5) hfr (.inr (by first | assumption | omega | (simp only [h_sl, h_al] <;> omega) | fail)))) hcl (resv_cell (cs := [(.str ([] : List UInt8)), (.str ([] : List UInt8))]) (v := (.agg [(.str ([] : List UInt8)), (.str ([] : List UInt8))])) (by kernel_rfl) (n := (some 2)) (by kernel_rfl) rfl (by exact ((h_eq (by first | assumption | omega | (simp only [h_sl, h_al] <;> omega) | fail)).trans rfl)) (by simp [loadc_n, loadc_1, ld1, allFlat, AV.flat, b_flat, b_sh1, AV.sh1, Tg.sh]) (resv_tmp (a := (.int .i64 3)) rfl rfl resv_nil)) (by first | (simp [fin, b_df, b_sh, b_sh1, b_Cl]; done) | (simp [fin, AV.df, AV.sh, AV.sh1, b_df, b_sh, b_sh1, b_Cl]; done)) (Wx.tupX (W2L.same (W2L.same (W2L.nil)))) (r' := (.tup [(.agg [(.str ((AddressV.mk ([] : List UInt8) ([] : List UInt8)).local0)), (.str ((AddressV.mk ([] : List UInt8) ([] : List UInt8)).domain))]), (.int .i64 3)])) ⟨rfl, rfl⟩
  · refine UC_f hy3 ?_
    try simp (disch := first | assumption | omega | (simp only [h_sl, h_al] <;> omega) | fail) only [WW, WH, ↓reduceIte, nA, nB, nC, nD, nE, nF, nG, reduceCtorEq, L_addr_Parse, hs_o1, hs_o2]
    have hq := Option.some.inj h; have hq0 := (Prod.mk.inj hq).1; replace hq := (Prod.mk.inj hq).2; subst hq0; subst hq
    refine hK0 _ _ _ (.inr rfl) ?_
    exact fn_end0 (by exact (Fr.set (s := q5) hfr (.inr (by first | assumption | omega | (simp only [h_sl, h_al] <;> omega) | fail)))) hcl (resv_cell (cs := [(.str r2.local0), (.str r2.domain)]) (v := (.agg [(.str r2.local0), (.str r2.domain)])) (by kernel_rfl) (n := (some 2)) (by kernel_rfl) rfl (by exact ((h_eq (by first | assumption | omega | (simp only [h_sl, h_al] <;> omega) | fail)).trans rfl)) (by simp [loadc_n, loadc_1, ld1, allFlat, AV.flat, b_flat, b_sh1, AV.sh1, Tg.sh]) (resv_tmp (a := (.int .i64 r4)) rfl rfl resv_nil)) (by first | (simp [fin, b_df, b_sh, b_sh1, b_Cl]; done) | (simp [fin, AV.df, AV.sh, AV.sh1, b_df, b_sh, b_sh1, b_Cl]; done)) (Wx.tupX (W2L.same (W2L.same (W2L.nil)))) (r' := (.tup [(.agg [(.str r2.local0), (.str r2.domain)]), (.int .i64 r4)])) ⟨rfl, rfl⟩

/-! ### mailbag/addr.Print -/
def c_addr_Print : ACode := (.seq (.rg [⟨(some 1), (.box (.t 0)), none⟩, ⟨(some 2), (.asg (.c (.str []))), none⟩]) (.seq (.blk 0 (.seq (.rg [⟨(some 4), (.ld (.t 1) (some 2)), none⟩, ⟨(some 5), (.call (.c (.fn 85 [])) [(.t 4)]), none⟩, ⟨(some 3), (.asg (.t 5)), none⟩]) (.cond (.t 3) (.seq (.rg [⟨(some 2), (.asg (.c (.str [60, 62]))), none⟩]) .ret) (.seq (.rg [⟨(some 7), (.ld (.t 1) (some 2)), none⟩, ⟨(some 8), (.call (.c (.fn 49 [])) [(.t 7)]), none⟩, ⟨(some 9), (.un .not (.t 8)), none⟩, ⟨(some 6), (.asg (.t 9)), none⟩]) (.cond (.t 6) (.seq (.rg [⟨(some 2), (.asg (.c (.str []))), none⟩]) .ret) .skip))))) (.seq (.rg [⟨(some 10), (.ld (.t 1) (some 2)), none⟩, ⟨(some 11), (.call (.c (.fn 86 [])) [(.t 10)]), none⟩, ⟨(some 2), (.asg (.t 11)), none⟩]) .ret)))
abbrev m_addr_Print := c_addr_Print
theorem k_addr_Print : FnOk Tryd.prog 45 12 [(.tmp 2)] c_addr_Print := ⟨Tryd.f45, _, rfl, by decide, rfl, by kernel_rfl, rfl, rfl⟩
abbrev L_addr_Print : List Nat := [0, 1, 2, 3, 6]
def addr_Print (F : Nat) (a1 : AddressV) : Option ((List UInt8)) :=
  (addr_null a1).bind fun r2 =>
  (if r2 then
    some ([60, 62] : List UInt8)
  else
    (addr_Right F a1).bind fun r3 =>
    (if (!r3) then
      some ([] : List UInt8)
    else
      (addr_told F a1).bind fun r4 => some r4))
theorem addr_Print_ok {F : Nat} {a1 : AddressV}  {H0 : AH}  {rz0 : List UInt8} (h : addr_Print F a1 = some rz0) :
    ACalls Tryd.prog 45 [(.agg [(.str a1.local0), (.str a1.domain)])] H0 fun v H' => v = (.str rz0) ∧ H' = H0 := by
  refine ACalls.goX k_addr_Print (m := m_addr_Print) rfl L_addr_Print (by decide) (by simp) fun hcl K0 hK0 => ?_
  refine AX.of_U (m := m_addr_Print) rfl (by decide) ?_
  have hfr := Fr.refl H0 []
  have hle := hfr.le
  rw [addr_Print.eq_1] at h
  obtain ⟨H, hHH⟩ : ∃ H, H = H0 := ⟨_, rfl⟩
  have hfr : Fr H0 H0.length [] H := hHH ▸ hfr
  have hle := hfr.le
  suffices hU : U Tryd.prog L_addr_Print 12 H0.length [.code m_addr_Print] K0 .normal (argE 0 [(.agg [(.str a1.local0), (.str a1.domain)])]) H by rwa [hHH] at hU
  try simp (disch := first | assumption | omega | (simp only [h_sl, h_al] <;> omega) | fail) only [WW, WH, ↓reduceIte, nA, nB, nC, nD, nE, nF, nG, reduceCtorEq, L_addr_Print, m_addr_Print, c_addr_Print]
  obtain ⟨r2, hy1, h⟩ := bnd' h
  refine UK_e (as' := [(.agg [(.str a1.local0), (.str a1.domain)])]) (h := addr_null_ok (a1 := a1)  hy1) (hw := WL.cons (Wx.agg (W1L.same (W1L.same (W1L.nil)))) (WL.nil)) (hh := WxH.refl _) ?_
  try simp (disch := first | assumption | omega | (simp only [h_sl, h_al] <;> omega) | fail) only [WW, WH, ↓reduceIte, nA, nB, nC, nD, nE, nF, nG, reduceCtorEq, L_addr_Print]
  rcases ifb h with ⟨hy2, h⟩ | ⟨hy2, h⟩
  · refine UC_t hy2 ?_
    try simp (disch := first | assumption | omega | (simp only [h_sl, h_al] <;> omega) | fail) only [WW, WH, ↓reduceIte, nA, nB, nC, nD, nE, nF, nG, reduceCtorEq, L_addr_Print]
    have hq := Option.some.inj h; subst hq
    refine hK0 _ _ _ (.inr rfl) ?_
    exact fn_end0 (by exact (Fr.app hfr)) hcl (resv_tmp (a := (.str ([60, 62] : List UInt8))) rfl rfl resv_nil) (by first | (simp [fin, b_df, b_sh, b_sh1, b_Cl]; done) | (simp [fin, AV.df, AV.sh, AV.sh1, b_df, b_sh, b_sh1, b_Cl]; done)) (Wx.str) (r' := (.str ([60, 62] : List UInt8))) ⟨rfl, rfl⟩
  · refine UC_f hy2 ?_
    try simp (disch := first | assumption | omega | (simp only [h_sl, h_al] <;> omega) | fail) only [WW, WH, ↓reduceIte, nA, nB, nC, nD, nE, nF, nG, reduceCtorEq, L_addr_Print]
    obtain ⟨r3, hy3, h⟩ := bnd' h
    refine UK_e (as' := [(.agg [(.str a1.local0), (.str a1.domain)])]) (h := addr_Right_ok (a1 := a1) (F := F)  hy3) (hw := WL.cons (Wx.agg (W1L.same (W1L.same (W1L.nil)))) (WL.nil)) (hh := WxH.refl _) ?_
    try simp (disch := first | assumption | omega | (simp only [h_sl, h_al] <;> omega) | fail) only [WW, WH, ↓reduceIte, nA, nB, nC, nD, nE, nF, nG, reduceCtorEq, L_addr_Print]
    rcases ifb h with ⟨hy4, h⟩ | ⟨hy4, h⟩
    · refine UC_t hy4 ?_
      try simp (disch := first | assumption | omega | (simp only [h_sl, h_al] <;> omega) | fail) only [WW, WH, ↓reduceIte, nA, nB, nC, nD, nE, nF, nG, reduceCtorEq, L_addr_Print]
      have hq := Option.some.inj h; subst hq
      refine hK0 _ _ _ (.inr rfl) ?_
      exact fn_end0 (by exact (Fr.app hfr)) hcl (resv_tmp (a := (.str ([] : List UInt8))) rfl rfl resv_nil) (by first | (simp [fin, b_df, b_sh, b_sh1, b_Cl]; done) | (simp [fin, AV.df, AV.sh, AV.sh1, b_df, b_sh, b_sh1, b_Cl]; done)) (Wx.str) (r' := (.str ([] : List UInt8))) ⟨rfl, rfl⟩
    · refine UC_f hy4 ?_
      try simp (disch := first | assumption | omega | (simp only [h_sl, h_al] <;> omega) | fail) only [WW, WH, ↓reduceIte, nA, nB, nC, nD, nE, nF, nG, reduceCtorEq, L_addr_Print]
      obtain ⟨r4, hy5, h⟩ := bnd' h
      refine UK_e (as' := [(.agg [(.str a1.local0), (.str a1.domain)])]) (h := addr_told_ok (a1 := a1) (F := F)  hy5) (hw := WL.cons (Wx.agg (W1L.same (W1L.same (W1L.nil)))) (WL.nil)) (hh := WxH.refl _) ?_
      try simp (disch := first | assumption | omega | (simp only [h_sl, h_al] <;> omega) | fail) only [WW, WH, ↓reduceIte, nA, nB, nC, nD, nE, nF, nG, reduceCtorEq, L_addr_Print]
      have hq := Option.some.inj h; subst hq
      refine hK0 _ _ _ (.inr rfl) ?_
      exact fn_end0 (by exact (Fr.app hfr)) hcl (resv_tmp (a := (.str r4)) rfl rfl resv_nil) (by first | (simp [fin, b_df, b_sh, b_sh1, b_Cl]; done) | (simp [fin, AV.df, AV.sh, AV.sh1, b_df, b_sh, b_sh1, b_Cl]; done)) (Wx.str) (r' := (.str r4)) ⟨rfl, rfl⟩

/-! ### mailbag/addr.Lower -/
def c_addr_Lower_p1 : ACode := (.rg [⟨(some 15), (.mv (.t 5)), none⟩, ⟨(some 16), (.bin .geq (.t 15) (.c (b8 65))), none⟩, ⟨(some 17), (.mv (.t 16)), none⟩, ⟨(some 18), (.mv (.t 5)), (some (17, true))⟩, ⟨(some 19), (.bin .leq (.t 18) (.c (b8 90))), (some (17, true))⟩, ⟨(some 20), (.pick (.t 17) (.t 19) (.c (.bool false))), none⟩])
abbrev m_addr_Lower_p1 := c_addr_Lower_p1
def c_addr_Lower_l1b : ACode := (.seq (.rg [⟨(some 11), (.bin .lss (.t 10) (.t 9)), none⟩]) (.seq (.cond (.t 11) .skip (.exit 0)) (.seq (.blk 1 (.seq (.rg [⟨(some 12), (.mv (.t 10)), none⟩, ⟨(some 13), (.ixa 1 (.t 8) (.t 10)), none⟩, ⟨(some 14), (.ld (.t 13) none), none⟩, ⟨(some 4), (.asg (.t 12)), none⟩, ⟨(some 5), (.asg (.t 14)), none⟩]) (.seq c_addr_Lower_p1 (.cond (.t 20) (.rg [⟨(some 21), (.mv (.t 3)), none⟩, ⟨(some 22), (.mv (.t 4)), none⟩, ⟨(some 23), (.ixa 1 (.t 21) (.t 22)), none⟩, ⟨(some 24), (.ld (.t 23) none), none⟩, ⟨(some 25), (.bin .or (.t 24) (.c (b8 32))), none⟩, ⟨(some 26), (.ixa 1 (.t 21) (.t 22)), none⟩, ⟨none, (.st (.t 26) (.t 25) 1), none⟩]) .skip)))) (.rg [⟨(some 27), (.bin .add (.t 10) (.c (.int .i64 1))), none⟩, ⟨(some 10), (.mv (.t 27)), none⟩]))))
def c_addr_Lower_l1 : ACode := (.loop c_addr_Lower_l1b)
def m_addr_Lower_l1b : ACode := (.seq (.rg [⟨(some 11), (.bin .lss (.t 10) (.t 9)), none⟩]) (.seq (.cond (.t 11) .skip (.exit 0)) (.seq (.blk 1 (.seq (.rg [⟨(some 12), (.mv (.t 10)), none⟩, ⟨(some 13), (.ixa 1 (.t 8) (.t 10)), none⟩, ⟨(some 14), (.ld (.t 13) none), none⟩, ⟨(some 4), (.asg (.t 12)), none⟩, ⟨(some 5), (.asg (.t 14)), none⟩]) (.seq (.sem c_addr_Lower_p1) (.cond (.t 20) (.rg [⟨(some 21), (.mv (.t 3)), none⟩, ⟨(some 22), (.mv (.t 4)), none⟩, ⟨(some 23), (.ixa 1 (.t 21) (.t 22)), none⟩, ⟨(some 24), (.ld (.t 23) none), none⟩, ⟨(some 25), (.bin .or (.t 24) (.c (b8 32))), none⟩, ⟨(some 26), (.ixa 1 (.t 21) (.t 22)), none⟩, ⟨none, (.st (.t 26) (.t 25) 1), none⟩]) .skip)))) (.rg [⟨(some 27), (.bin .add (.t 10) (.c (.int .i64 1))), none⟩, ⟨(some 10), (.mv (.t 27)), none⟩]))))
def c_addr_Lower : ACode := (.seq (.rg [⟨(some 2), (.asg (.c (.str []))), none⟩]) (.seq (.rg [⟨(some 6), (.mv (.t 0)), none⟩, ⟨(some 7), (.cvt .sb (.t 6)), none⟩, ⟨(some 3), (.asg (.t 7)), none⟩]) (.seq (.seq (.rg [⟨(some 8), (.mv (.t 3)), none⟩, ⟨(some 9), (.len (.t 8)), none⟩, ⟨(some 10), (.mv (.c (.int .i64 0))), none⟩]) (.blk 0 c_addr_Lower_l1)) (.seq (.rg [⟨(some 28), (.mv (.t 3)), none⟩, ⟨(some 29), (.cvt .bs (.t 28)), none⟩, ⟨(some 2), (.asg (.t 29)), none⟩]) .ret))))
def m_addr_Lower : ACode := (.seq (.rg [⟨(some 2), (.asg (.c (.str []))), none⟩]) (.seq (.rg [⟨(some 6), (.mv (.t 0)), none⟩, ⟨(some 7), (.cvto (.t 6)), none⟩, ⟨(some 3), (.asg (.t 7)), none⟩]) (.seq (.seq (.rg [⟨(some 8), (.mv (.t 3)), none⟩, ⟨(some 9), (.len (.t 8)), none⟩, ⟨(some 10), (.mv (.c (.int .i64 0))), none⟩]) (.blk 0 c_addr_Lower_l1)) (.seq (.rg [⟨(some 28), (.mv (.t 3)), none⟩, ⟨(some 29), (.cvt .bs (.t 28)), none⟩, ⟨(some 2), (.asg (.t 29)), none⟩]) .ret))))
theorem k_addr_Lower : FnOk Tryd.prog 41 30 [(.tmp 2)] c_addr_Lower := ⟨Tryd.f41, _, rfl, by decide, rfl, by kernel_rfl, rfl, rfl⟩
abbrev L_addr_Lower : List Nat := [0, 2, 3, 4, 5, 8, 9, 10, 11, 20]
def addr_Lower_l1 (s1 : List UInt8) : (Int × (List UInt8)) → Option (St (List UInt8) (List UInt8) (Int × (List UInt8)))
  | (t3, s4) =>
    (if (decide (t3 < (s1.length : Int))) then
      (ixm s1.length t3).bind fun j5 =>
      (s4[j5]?).bind fun x6 =>
      (if ((decide (65 ≤ x6)) && (decide (x6 ≤ 90))) then
        (setx s4 j5 (x6 ||| 32)).bind fun s8 => some (.nxt ((IntKind.wrap .i64 (t3 + 1)), s8))
      else
        some (.nxt ((IntKind.wrap .i64 (t3 + 1)), s4)))
    else
      some (.brk s4))
def addr_Lower (F : Nat) (s1 : List UInt8) : Option ((List UInt8)) :=
  ((iter (addr_Lower_l1 s1) F (0, s1)).bind fun o12 =>
  match o12 with
  | .inr s10 =>
    (sub s10 0 (s1.length : Int)).bind fun x11 => some x11
  | .inl _ => none)
theorem addr_Lower_p1_ok {q7 : Nat} {s1 : List UInt8} {t3 : Int} {x6 : UInt8} {s4 : List UInt8} {H0 H : AH} (hfr : Fr H0 H0.length [] H) (hs_o1 : H[q7]? = some (ml b8 s4)) (hi0 : H0.length ≤ q7) {K : Exit → Env → AH → Prop}
    (kn : ∀ H' : AH, Fr H0 H0.length [] H' → H'[q7]? = some (ml b8 s4) → K .normal [(3, (.msl q7 1 0 s1.length)), (4, (.int .i64 t3)), (8, (.msl q7 1 0 s1.length)), (9, (.int .i64 (s1.length : Int))), (10, (.int .i64 t3)), (20, (.bool ((decide (65 ≤ x6)) && (decide (x6 ≤ 90)))))] H') :
    AX Tryd.prog L_addr_Lower 30 H0.length c_addr_Lower_p1 K [(3, (.msl q7 1 0 s1.length)), (4, (.int .i64 t3)), (5, (b8 x6)), (8, (.msl q7 1 0 s1.length)), (9, (.int .i64 (s1.length : Int))), (10, (.int .i64 t3))] H := by
  refine AX.go (m := m_addr_Lower_p1) rfl (by decide) fun K' hK => ?_
  have hle := hfr.le
  have hl_o1 := h_lt hs_o1
  try simp (disch := first | assumption | omega | (simp only [h_sl, h_al] <;> omega) | fail) only [WW, WH, ↓reduceIte, nA, nB, nC, nD, nE, nF, nG, reduceCtorEq, L_addr_Lower, m_addr_Lower_p1, c_addr_Lower_p1, hs_o1]
  rcases bcases ((decide (65 ≤ x6))) with hy4 | hy4
  · refine UG_go hy4 ?_
    try simp (disch := first | assumption | omega | (simp only [h_sl, h_al] <;> omega) | fail) only [WW, WH, ↓reduceIte, nA, nB, nC, nD, nE, nF, nG, reduceCtorEq, L_addr_Lower, hy4, hs_o1]
    refine hK _ _ _ _ _ ?_ (WxH.refl _) (kn _ hfr ((hs_o1).trans rfl))
    exact WE.cons (Wx.msl) (WE.cons (Wx.int) (WE.cons (Wx.msl) (WE.cons (Wx.int) (WE.cons (Wx.int) (WE.cons (Wx.boolE (by simp only [hy4, WB])) (WE.nil))))))
  · refine UG_nt hy4 ?_
    try simp (disch := first | assumption | omega | (simp only [h_sl, h_al] <;> omega) | fail) only [WW, WH, ↓reduceIte, nA, nB, nC, nD, nE, nF, nG, reduceCtorEq, L_addr_Lower, hy4, hs_o1]
    refine hK _ _ _ _ _ ?_ (WxH.refl _) (kn _ hfr ((hs_o1).trans rfl))
    exact WE.cons (Wx.msl) (WE.cons (Wx.int) (WE.cons (Wx.msl) (WE.cons (Wx.int) (WE.cons (Wx.int) (WE.cons (Wx.boolE (by simp only [hy4, WB])) (WE.nil))))))
theorem addr_Lower_l1_ok {F : Nat} {t3 : Int} {s1 : List UInt8} {s4 : List UInt8} {q2 : Nat} {H0 H : AH} (hfr : Fr H0 H0.length [] H) (hs_o1 : H[q2]? = some (ml b8 s4)) (hi0 : H0.length ≤ q2) {K : Exit → Env → AH → Prop} {o : ((List UInt8)) ⊕ ((List UInt8))}
    (h : iter (addr_Lower_l1 s1) F (t3, s4) = some o)
    (kb0 : ∀ o' : (List UInt8), o = .inr o' → ∀ H' : AH, Fr H0 H0.length [] H' → H'[q2]? = some (ml b8 o') → K (.exit 0) [(3, (.msl q2 1 0 s1.length))] H') :
    AX Tryd.prog L_addr_Lower 30 H0.length c_addr_Lower_l1 K [(3, (.msl q2 1 0 s1.length)), (8, (.msl q2 1 0 s1.length)), (9, (.int .i64 (s1.length : Int))), (10, (.int .i64 t3))] H := by
  refine AX.iter (m := m_addr_Lower_l1b) rfl (by decide) (fun s e H1 => match s with | (t3, s4) => e = [(3, (.msl q2 1 0 s1.length)), (8, (.msl q2 1 0 s1.length)), (9, (.int .i64 (s1.length : Int))), (10, (.int .i64 t3))] ∧ Fr H0 H0.length [] H1 ∧ H1[q2]? = some (ml b8 s4)) h ⟨rfl, hfr, hs_o1⟩ ?_
  skip
  rintro K' ⟨t3, s4⟩ st e H ⟨rfl, hfr, hs_o1⟩ h hN hB hR hX
  have hle := hfr.le
  have hl_o1 := h_lt hs_o1
  rw [addr_Lower_l1.eq_1] at h
  try simp (disch := first | assumption | omega | (simp only [h_sl, h_al] <;> omega) | fail) only [WW, WH, ↓reduceIte, nA, nB, nC, nD, nE, nF, nG, reduceCtorEq, L_addr_Lower, m_addr_Lower_l1b, hs_o1]
  rcases ifb h with ⟨hy1, h⟩ | ⟨hy1, h⟩
  · refine UC_t hy1 ?_
    obtain ⟨j5, hy2, h⟩ := bnd' h
    obtain ⟨x6, hy3, h⟩ := bnd' h
    try simp (disch := first | assumption | omega | (simp only [h_sl, h_al] <;> omega) | fail) only [WW, WH, ↓reduceIte, nA, nB, nC, nD, nE, nF, nG, reduceCtorEq, L_addr_Lower, hy2, hy3, hs_o1]
    refine UX_of (AX.weak ?_ (WxH.refl _) (addr_Lower_p1_ok (q7 := q2) (s1 := s1) (t3 := t3) (x6 := x6) (s4 := s4) (hfr) ((hs_o1).trans rfl) (by first | assumption | omega | (simp only [h_sl, h_al] <;> omega) | fail) ?_))
    · exact WE.cons (Wx.msl) (WE.cons (Wx.int) (WE.cons (Wx.b8) (WE.cons (Wx.msl) (WE.cons (Wx.int) (WE.cons (Wx.int) (WE.nil))))))
    intro H hfr hs_o1
    have hle := hfr.le
    have hl_o1 := h_lt hs_o1
    try simp (disch := first | assumption | omega | (simp only [h_sl, h_al] <;> omega) | fail) only [WW, WH, ↓reduceIte, nA, nB, nC, nD, nE, nF, nG, reduceCtorEq, L_addr_Lower, hs_o1]
    rcases ifb h with ⟨hy5, h⟩ | ⟨hy5, h⟩
    · refine UC_t hy5 ?_
      obtain ⟨s8, hy6, h⟩ := bnd' h
      try simp (disch := first | assumption | omega | (simp only [h_sl, h_al] <;> omega) | fail) only [WW, WH, ↓reduceIte, nA, nB, nC, nD, nE, nF, nG, reduceCtorEq, L_addr_Lower, hy2, hy3, hy2, hy6, hs_o1]
      have hq := Option.some.inj h; subst hq
      refine hN _ rfl _ _ _ _ ?_ (WxH.refl _) ⟨rfl, (Fr.set (s := q2) hfr (.inr (by first | assumption | omega | (simp only [h_sl, h_al] <;> omega) | fail))), ((h_eq (by first | assumption | omega | (simp only [h_sl, h_al] <;> omega) | fail)).trans rfl)⟩
      exact WE.cons (Wx.msl) (WE.cons (Wx.msl) (WE.cons (Wx.int) (WE.cons (Wx.int) (WE.nil))))
    · refine UC_f hy5 ?_
      try simp (disch := first | assumption | omega | (simp only [h_sl, h_al] <;> omega) | fail) only [WW, WH, ↓reduceIte, nA, nB, nC, nD, nE, nF, nG, reduceCtorEq, L_addr_Lower, hs_o1]
      have hq := Option.some.inj h; subst hq
      refine hN _ rfl _ _ _ _ ?_ (WxH.refl _) ⟨rfl, hfr, ((hs_o1).trans rfl)⟩
      exact WE.cons (Wx.msl) (WE.cons (Wx.msl) (WE.cons (Wx.int) (WE.cons (Wx.int) (WE.nil))))
  · refine UC_f hy1 ?_
    try simp (disch := first | assumption | omega | (simp only [h_sl, h_al] <;> omega) | fail) only [WW, WH, ↓reduceIte, nA, nB, nC, nD, nE, nF, nG, reduceCtorEq, L_addr_Lower, hs_o1]
    have hq := Option.some.inj h; subst hq
    refine hX _ _ _ _ _ (by simp) ?_ (WxH.refl _) (kb0 _ (hB _ rfl) _ hfr ((hs_o1).trans rfl))
    exact WE.cons (Wx.msl) (WE.nil)
theorem addr_Lower_ok {F : Nat} {s1 : List UInt8}  {H0 : AH}  {rz0 : List UInt8} (h : addr_Lower F s1 = some rz0) :
    ACalls Tryd.prog 41 [(.str s1)] H0 fun v H' => v = (.str rz0) ∧ H' = H0 := by
  refine ACalls.goX k_addr_Lower (m := m_addr_Lower) rfl L_addr_Lower (by decide) (by simp) fun hcl K0 hK0 => ?_
  refine AX.of_U (m := m_addr_Lower) rfl (by decide) ?_
  have hfr := Fr.refl H0 []
  have hle := hfr.le
  rw [addr_Lower.eq_1] at h
  obtain ⟨H, hHH⟩ : ∃ H, H = H0 := ⟨_, rfl⟩
  have hfr : Fr H0 H0.length [] H := hHH ▸ hfr
  have hle := hfr.le
  suffices hU : U Tryd.prog L_addr_Lower 30 H0.length [.code m_addr_Lower] K0 .normal (argE 0 [(.str s1)]) H by rwa [hHH] at hU
  try simp (disch := first | assumption | omega | (simp only [h_sl, h_al] <;> omega) | fail) only [WW, WH, ↓reduceIte, nA, nB, nC, nD, nE, nF, nG, reduceCtorEq, L_addr_Lower, m_addr_Lower]
  obtain ⟨q2, hg_q2⟩ : ∃ q : Nat, H.length = q := ⟨_, rfl⟩
  try rw [hg_q2]
  obtain ⟨o12, hy7, h⟩ := bnd' h
  refine UX_of (AX.weak ?_ (WxH.refl _) (addr_Lower_l1_ok  (s1 := s1) (t3 := 0) (s4 := s1) (q2 := q2) ((Fr.app hfr)) ((h_new' (by first | assumption | omega | (simp only [h_sl, h_al] <;> omega) | fail)).trans rfl) (by first | assumption | omega | (simp only [h_sl, h_al] <;> omega) | fail) (o := o12) hy7 ?_))
  · exact WE.cons (Wx.msl) (WE.cons (Wx.msl) (WE.cons (Wx.int) (WE.cons (Wx.int) (WE.nil))))
  · rintro s10 rfl H hfr hs_o1
    try dsimp only at h hs_o1
    have hle := hfr.le
    have hl_o1 := h_lt hs_o1
    obtain ⟨x11, hy8, h⟩ := bnd' h
    try simp (disch := first | assumption | omega | (simp only [h_sl, h_al] <;> omega) | fail) only [WW, WH, ↓reduceIte, nA, nB, nC, nD, nE, nF, nG, reduceCtorEq, L_addr_Lower, hy8, hs_o1]
    have hq := Option.some.inj h; subst hq
    refine hK0 _ _ _ (.inr rfl) ?_
    exact fn_end0 (by exact hfr) hcl (resv_tmp (a := (.str x11)) rfl rfl resv_nil) (by first | (simp [fin, b_df, b_sh, b_sh1, b_Cl]; done) | (simp [fin, AV.df, AV.sh, AV.sh1, b_df, b_sh, b_sh1, b_Cl]; done)) (Wx.str) (r' := (.str x11)) ⟨rfl, rfl⟩

/-! ### mailbag/addr.Same -/
def c_addr_Same_p1 : ACode := (.rg [⟨(some 5), (.fld (.t 2) 0), none⟩, ⟨(some 6), (.lde (.t 5) none), none⟩, ⟨(some 7), (.fld (.t 3) 0), none⟩, ⟨(some 8), (.lde (.t 7) none), none⟩, ⟨(some 9), (.bin .eql (.t 6) (.t 8)), none⟩, ⟨(some 10), (.mv (.t 9)), none⟩, ⟨(some 11), (.fld (.t 2) 1), (some (10, true))⟩, ⟨(some 12), (.lde (.t 11) none), (some (10, true))⟩, ⟨(some 14), (.fld (.t 3) 1), (some (10, true))⟩, ⟨(some 15), (.lde (.t 14) none), (some (10, true))⟩, ⟨(some 13), (.call (.c (.fn 41 [])) [(.t 12)]), (some (10, true))⟩, ⟨(some 16), (.call (.c (.fn 41 [])) [(.t 15)]), (some (10, true))⟩, ⟨(some 17), (.bin .eql (.t 13) (.t 16)), (some (10, true))⟩, ⟨(some 18), (.pick (.t 10) (.t 17) (.c (.bool false))), none⟩, ⟨(some 4), (.asg (.t 18)), none⟩])
abbrev m_addr_Same_p1 := c_addr_Same_p1
def c_addr_Same : ACode := (.seq (.rg [⟨(some 2), (.box (.t 0)), none⟩, ⟨(some 3), (.box (.t 1)), none⟩, ⟨(some 4), (.asg (.c (.bool false))), none⟩]) (.seq c_addr_Same_p1 .ret))
def m_addr_Same : ACode := (.seq (.rg [⟨(some 2), (.box (.t 0)), none⟩, ⟨(some 3), (.box (.t 1)), none⟩, ⟨(some 4), (.asg (.c (.bool false))), none⟩]) (.seq (.sem c_addr_Same_p1) .ret))
theorem k_addr_Same : FnOk Tryd.prog 47 19 [(.tmp 4)] c_addr_Same := ⟨Tryd.f47, _, rfl, by decide, rfl, by kernel_rfl, rfl, rfl⟩
abbrev L_addr_Same : List Nat := [0, 1, 2, 3, 4]
def addr_Same_p1 (F : Nat) (a1 : AddressV) (b2 : AddressV) : Option (Bool) :=
  (if (decide (a1.local0 = b2.local0)) then
    (addr_Lower F a1.domain).bind fun r3 =>
    (addr_Lower F b2.domain).bind fun r4 => some (decide (r3 = r4))
  else
    some false)
def addr_Same (F : Nat) (a1 : AddressV) (b2 : AddressV) : Option (Bool) :=
  (addr_Same_p1 F a1 b2).bind fun t6 =>
  some t6
theorem addr_Same_p1_ok {F : Nat} {a1 : AddressV} {b2 : AddressV} {H0 H : AH} (hfr : Fr H0 H0.length [] H) {K : Exit → Env → AH → Prop} {t5 : Bool}
    (h : addr_Same_p1 F a1 b2 = some t5)
    (kn : ∀ H' : AH, Fr H0 H0.length [] H' → K .normal [(4, (.bool t5))] H') :
    AX Tryd.prog L_addr_Same 19 H0.length c_addr_Same_p1 K [(2, (.ep (.agg [(.str a1.local0), (.str a1.domain)]) 0)), (3, (.ep (.agg [(.str b2.local0), (.str b2.domain)]) 0)), (4, (.bool false))] H := by
  refine AX.go (m := m_addr_Same_p1) rfl (by decide) fun K' hK => ?_
  have hle := hfr.le
  rw [addr_Same_p1.eq_1] at h
  try simp (disch := first | assumption | omega | (simp only [h_sl, h_al] <;> omega) | fail) only [WW, WH, ↓reduceIte, nA, nB, nC, nD, nE, nF, nG, reduceCtorEq, L_addr_Same, m_addr_Same_p1, c_addr_Same_p1]
  rcases ifb h with ⟨hy1, h⟩ | ⟨hy1, h⟩
  · refine UG_go hy1 ?_
    try simp (disch := first | assumption | omega | (simp only [h_sl, h_al] <;> omega) | fail) only [WW, WH, ↓reduceIte, nA, nB, nC, nD, nE, nF, nG, reduceCtorEq, L_addr_Same, hy1]
    obtain ⟨r3, hy2, h⟩ := bnd' h
    refine UK_e (as' := [(.str a1.domain)]) (h := addr_Lower_ok (s1 := a1.domain) (F := F)  hy2) (hw := WL.cons (Wx.str) (WL.nil)) (hh := WxH.refl _) ?_
    try simp (disch := first | assumption | omega | (simp only [h_sl, h_al] <;> omega) | fail) only [WW, WH, ↓reduceIte, nA, nB, nC, nD, nE, nF, nG, reduceCtorEq, L_addr_Same]
    obtain ⟨r4, hy3, h⟩ := bnd' h
    refine UK_e (as' := [(.str b2.domain)]) (h := addr_Lower_ok (s1 := b2.domain) (F := F)  hy3) (hw := WL.cons (Wx.str) (WL.nil)) (hh := WxH.refl _) ?_
    try simp (disch := first | assumption | omega | (simp only [h_sl, h_al] <;> omega) | fail) only [WW, WH, ↓reduceIte, nA, nB, nC, nD, nE, nF, nG, reduceCtorEq, L_addr_Same]
    have hq := Option.some.inj h; subst hq
    refine hK _ _ _ _ _ ?_ (WxH.refl _) (kn _ hfr)
    exact WE.cons (Wx.bool) (WE.nil)
  · refine UG_nt hy1 ?_
    try simp (disch := first | assumption | omega | (simp only [h_sl, h_al] <;> omega) | fail) only [WW, WH, ↓reduceIte, nA, nB, nC, nD, nE, nF, nG, reduceCtorEq, L_addr_Same, hy1]
    have hq := Option.some.inj h; subst hq
    refine hK _ _ _ _ _ ?_ (WxH.refl _) (kn _ hfr)
    exact WE.cons (Wx.bool) (WE.nil)
theorem addr_Same_ok {F : Nat} {a1 : AddressV} {b2 : AddressV}  {H0 : AH}  {rz0 : Bool} (h : addr_Same F a1 b2 = some rz0) :
    ACalls Tryd.prog 47 [(.agg [(.str a1.local0), (.str a1.domain)]), (.agg [(.str b2.local0), (.str b2.domain)])] H0 fun v H' => v = (.bool rz0) ∧ H' = H0 := by
  refine ACalls.goX k_addr_Same (m := m_addr_Same) rfl L_addr_Same (by decide) (by simp) fun hcl K0 hK0 => ?_
  refine AX.of_U (m := m_addr_Same) rfl (by decide) ?_
  have hfr := Fr.refl H0 []
  have hle := hfr.le
  rw [addr_Same.eq_1] at h
  obtain ⟨H, hHH⟩ : ∃ H, H = H0 := ⟨_, rfl⟩
  have hfr : Fr H0 H0.length [] H := hHH ▸ hfr
  have hle := hfr.le
  suffices hU : U Tryd.prog L_addr_Same 19 H0.length [.code m_addr_Same] K0 .normal (argE 0 [(.agg [(.str a1.local0), (.str a1.domain)]), (.agg [(.str b2.local0), (.str b2.domain)])]) H by rwa [hHH] at hU
  try simp (disch := first | assumption | omega | (simp only [h_sl, h_al] <;> omega) | fail) only [WW, WH, ↓reduceIte, nA, nB, nC, nD, nE, nF, nG, reduceCtorEq, L_addr_Same, m_addr_Same]
  refine UX_of ?_
  apply AX.freeze (s := H.length) (cs := [(.str a1.local0), (.str a1.domain)]) (by exact (((h_app (by first | assumption | omega | (simp only [h_sl, h_al] <;> omega) | fail)).trans (h_new' (by first | assumption | omega | (simp only [h_sl, h_al] <;> omega) | fail))).trans rfl)) (W1L.same (W1L.same (W1L.nil))) (by simp) rfl
  · repeat (first | exact FZ.nil | apply FZ.ep | apply FZ.same)
  apply AX.freeze (s := (H.length + 1)) (cs := [(.str b2.local0), (.str b2.domain)]) (by exact (((h_ne (by first | assumption | omega | (simp only [h_sl, h_al] <;> omega) | fail)).trans (h_new' (by first | assumption | omega | (simp only [h_sl, h_al] <;> omega) | fail))).trans rfl)) (W1L.same (W1L.same (W1L.nil))) (by simp) rfl
  · repeat (first | exact FZ.nil | apply FZ.ep | apply FZ.same)
  obtain ⟨t6, hy4, h⟩ := bnd' h
  refine UX_of (AX.weak ?_ (WxH.refl _) (addr_Same_p1_ok (F := F) (a1 := a1) (b2 := b2) (t5 := t6)  ((Fr.set (s := (H.length + 1)) (Fr.set (s := H.length) (Fr.app (Fr.app hfr)) (.inr (by first | assumption | omega | (simp only [h_sl, h_al] <;> omega) | fail))) (.inr (by first | assumption | omega | (simp only [h_sl, h_al] <;> omega) | fail)))) hy4 ?_))
  · exact WE.cons (Wx.ep) (WE.cons (Wx.ep) (WE.cons (Wx.bool) (WE.nil)))
  intro H hfr
  have hle := hfr.le
  try simp (disch := first | assumption | omega | (simp only [h_sl, h_al] <;> omega) | fail) only [WW, WH, ↓reduceIte, nA, nB, nC, nD, nE, nF, nG, reduceCtorEq, L_addr_Same]
  have hq := Option.some.inj h; subst hq
  refine hK0 _ _ _ (.inr rfl) ?_
  exact fn_end0 (by exact hfr) hcl (resv_tmp (a := (.bool t6)) rfl rfl resv_nil) (by first | (simp [fin, b_df, b_sh, b_sh1, b_Cl]; done) | (simp [fin, AV.df, AV.sh, AV.sh1, b_df, b_sh, b_sh1, b_Cl]; done)) (Wx.bool) (r' := (.bool t6)) ⟨rfl, rfl⟩

/-! ### mailbag/mailbaglaw14.known -/
def c_law14_known_p1 : ACode := (.rg [⟨(some 15), (.mv (.t 3)), none⟩, ⟨(some 16), (.mv (.t 5)), none⟩, ⟨(some 17), (.bin .add (.t 15) (.t 16)), none⟩, ⟨(some 18), (.bin .eql (.t 17) (.c (.int .i64 0))), none⟩, ⟨(some 19), (.mv (.t 18)), none⟩, ⟨(some 20), (.mv (.t 2)), (some (19, true))⟩, ⟨(some 21), (.bin .eql (.t 20) (.c (.str [32, 107]))), (some (19, true))⟩, ⟨(some 22), (.pick (.t 19) (.t 21) (.c (.bool false))), none⟩, ⟨(some 23), (.mv (.t 22)), none⟩, ⟨(some 24), (.ld (.t 1) (some 2)), (some (23, true))⟩, ⟨(some 25), (.build [(.str []), (.str [])] [(0, (1, (.c (.str [97, 32, 98])))), (1, (1, (.c (.str [72, 111, 115, 116, 46, 101, 120, 97, 109, 112, 108, 101]))))]), (some (23, true))⟩, ⟨(some 26), (.seq [.s, .s] false (.t 24) (.t 25)), (some (23, true))⟩, ⟨(some 27), (.pick (.t 23) (.t 26) (.c (.bool false))), none⟩, ⟨(some 28), (.mv (.t 27)), none⟩, ⟨(some 29), (.ld (.t 1) (some 2)), (some (28, true))⟩, ⟨(some 30), (.call (.c (.fn 45 [])) [(.t 29)]), (some (28, true))⟩, ⟨(some 31), (.bin .eql (.t 30) (.c (.str [60, 34, 97, 32, 98, 34, 64, 72, 111, 115, 116, 46, 101, 120, 97, 109, 112, 108, 101, 62]))), (some (28, true))⟩, ⟨(some 32), (.pick (.t 28) (.t 31) (.c (.bool false))), none⟩, ⟨(some 33), (.mv (.t 32)), none⟩, ⟨(some 34), (.ld (.t 4) (some 2)), (some (33, true))⟩, ⟨(some 35), (.build [(.str []), (.str [])] [(0, (1, (.c (.str [97, 46, 98])))), (1, (1, (.c (.str [67]))))]), (some (33, true))⟩, ⟨(some 36), (.call (.c (.fn 47 [])) [(.t 34), (.t 35)]), (some (33, true))⟩, ⟨(some 37), (.pick (.t 33) (.t 36) (.c (.bool false))), none⟩, ⟨(some 38), (.mv (.t 37)), none⟩, ⟨(some 39), (.call (.c (.fn 37 [])) [(.c (.str [91, 49, 46, 50, 46, 51, 46, 52, 93]))]), (some (38, true))⟩, ⟨(some 40), (.pick (.t 38) (.t 39) (.c (.bool false))), none⟩, ⟨(some 41), (.mv (.t 40)), none⟩, ⟨(some 42), (.call (.c (.fn 37 [])) [(.c (.str [45, 97]))]), (some (41, true))⟩, ⟨(some 43), (.un .not (.t 42)), (some (41, true))⟩, ⟨(some 44), (.pick (.t 41) (.t 43) (.c (.bool false))), none⟩, ⟨(some 0), (.asg (.t 44)), none⟩])
abbrev m_law14_known_p1 := c_law14_known_p1
def c_law14_known : ACode := (.seq (.rg [⟨(some 0), (.asg (.c (.bool false))), none⟩]) (.seq (.rg [⟨(some 7), (.call (.c (.fn 33 [])) [(.c (.str [60, 64, 120, 46, 121, 44, 64, 122, 58, 34, 97, 32, 98, 34, 64, 72, 111, 115, 116, 46, 101, 120, 97, 109, 112, 108, 101, 62, 32, 107]))]), none⟩, ⟨(some 6), (.mv (.t 7)), none⟩, ⟨(some 8), (.ext (.t 6) 0), none⟩, ⟨(some 9), (.ext (.t 6) 1), none⟩, ⟨(some 10), (.ext (.t 6) 2), none⟩, ⟨(some 1), (.alloc [(.str []), (.str [])]), none⟩, ⟨none, (.st (.t 1) (.t 8) 2), none⟩, ⟨(some 2), (.asg (.t 9)), none⟩, ⟨(some 3), (.asg (.t 10)), none⟩]) (.seq (.rg [⟨(some 12), (.call (.c (.fn 35 [])) [(.c (.str [60, 97, 46, 98, 64, 99, 62]))]), none⟩, ⟨(some 11), (.mv (.t 12)), none⟩, ⟨(some 13), (.ext (.t 11) 0), none⟩, ⟨(some 14), (.ext (.t 11) 1), none⟩, ⟨(some 4), (.alloc [(.str []), (.str [])]), none⟩, ⟨none, (.st (.t 4) (.t 13) 2), none⟩, ⟨(some 5), (.asg (.t 14)), none⟩]) (.seq c_law14_known_p1 .ret))))
def m_law14_known : ACode := (.seq (.rg [⟨(some 0), (.asg (.c (.bool false))), none⟩]) (.seq (.rg [⟨(some 7), (.call (.c (.fn 33 [])) [(.c (.str [60, 64, 120, 46, 121, 44, 64, 122, 58, 34, 97, 32, 98, 34, 64, 72, 111, 115, 116, 46, 101, 120, 97, 109, 112, 108, 101, 62, 32, 107]))]), none⟩, ⟨(some 6), (.mv (.t 7)), none⟩, ⟨(some 8), (.ext (.t 6) 0), none⟩, ⟨(some 9), (.ext (.t 6) 1), none⟩, ⟨(some 10), (.ext (.t 6) 2), none⟩, ⟨(some 1), (.alloc [(.str []), (.str [])]), none⟩, ⟨none, (.st (.t 1) (.t 8) 2), none⟩, ⟨(some 2), (.asg (.t 9)), none⟩, ⟨(some 3), (.asg (.t 10)), none⟩]) (.seq (.rg [⟨(some 12), (.call (.c (.fn 35 [])) [(.c (.str [60, 97, 46, 98, 64, 99, 62]))]), none⟩, ⟨(some 11), (.mv (.t 12)), none⟩, ⟨(some 13), (.ext (.t 11) 0), none⟩, ⟨(some 14), (.ext (.t 11) 1), none⟩, ⟨(some 4), (.alloc [(.str []), (.str [])]), none⟩, ⟨none, (.st (.t 4) (.t 13) 2), none⟩, ⟨(some 5), (.asg (.t 14)), none⟩]) (.seq (.sem c_law14_known_p1) .ret))))
theorem k_law14_known : FnOk Tryd.prog 32 45 [(.tmp 0)] c_law14_known := ⟨Tryd.f32, _, rfl, by decide, rfl, by kernel_rfl, rfl, rfl⟩
abbrev L_law14_known : List Nat := [0, 1, 2, 3, 4, 5]
def law14_known_p1 (F : Nat) (r3 : Int) (r5 : Int) (r2 : List UInt8) (r1 : AddressV) (r4 : AddressV) : Option (Bool) :=
  (if (decide ((IntKind.wrap .i64 (r3 + r5)) = 0)) then
    (if (decide (r2 = ([32, 107] : List UInt8))) then
      (if (decide (r1.local0 = ([97, 32, 98] : List UInt8)) && decide (r1.domain = ([72, 111, 115, 116, 46, 101, 120, 97, 109, 112, 108, 101] : List UInt8))) then
        (addr_Print F r1).bind fun r8 =>
        (if (decide (r8 = ([60, 34, 97, 32, 98, 34, 64, 72, 111, 115, 116, 46, 101, 120, 97, 109, 112, 108, 101, 62] : List UInt8))) then
          (addr_Same F r4 (AddressV.mk ([97, 46, 98] : List UInt8) ([67] : List UInt8))).bind fun r9 =>
          (if r9 then
            (addr_Domain F ([91, 49, 46, 50, 46, 51, 46, 52, 93] : List UInt8)).bind fun r10 =>
            (if r10 then
              (addr_Domain F ([45, 97] : List UInt8)).bind fun r11 => some (!r11)
            else
              some false)
          else
            some false)
        else
          some false)
      else
        some false)
    else
      some false)
  else
    some false)
def law14_known (F : Nat)  : Option (Bool) :=
  (addr_Path F ([60, 64, 120, 46, 121, 44, 64, 122, 58, 34, 97, 32, 98, 34, 64, 72, 111, 115, 116, 46, 101, 120, 97, 109, 112, 108, 101, 62, 32, 107] : List UInt8)).bind fun (r1, r2, r3) =>
  (addr_Parse F ([60, 97, 46, 98, 64, 99, 62] : List UInt8)).bind fun (r4, r5) => (law14_known_p1 F r3 r5 r2 r1 r4).bind fun t13 =>
  some t13
theorem law14_known_p1_ok {F : Nat} {r3 : Int} {r5 : Int} {r2 : List UInt8} {r1 : AddressV} {r4 : AddressV} {q6 : Nat} {q7 : Nat} {H0 H : AH} (hfr : Fr H0 H0.length [] H) (hs_o1 : H[q6]? = some [(.str r1.local0), (.str r1.domain)]) (hs_o2 : H[q7]? = some [(.str r4.local0), (.str r4.domain)]) (hi0 : H0.length ≤ q6) (hi1 : H0.length ≤ q7) (hi2 : q6 ≠ q7) {K : Exit → Env → AH → Prop} {t12 : Bool}
    (h : law14_known_p1 F r3 r5 r2 r1 r4 = some t12)
    (kn : ∀ H' : AH, Fr H0 H0.length [] H' → H'[q6]? = some [(.str r1.local0), (.str r1.domain)] → H'[q7]? = some [(.str r4.local0), (.str r4.domain)] → K .normal [(0, (.bool t12))] H') :
    AX Tryd.prog L_law14_known 45 H0.length c_law14_known_p1 K [(0, (.bool false)), (1, (.ptr q6 0)), (2, (.str r2)), (3, (.int .i64 r3)), (4, (.ptr q7 0)), (5, (.int .i64 r5))] H := by
  refine AX.go (m := m_law14_known_p1) rfl (by decide) fun K' hK => ?_
  have hle := hfr.le
  have hl_o1 := h_lt hs_o1
  have hl_o2 := h_lt hs_o2
  rw [law14_known_p1.eq_1] at h
  try simp (disch := first | assumption | omega | (simp only [h_sl, h_al] <;> omega) | fail) only [WW, WH, ↓reduceIte, nA, nB, nC, nD, nE, nF, nG, reduceCtorEq, L_law14_known, m_law14_known_p1, c_law14_known_p1, hs_o1, hs_o2]
  rcases ifb h with ⟨hy3, h⟩ | ⟨hy3, h⟩
  · refine UG_go hy3 ?_
    try simp (disch := first | assumption | omega | (simp only [h_sl, h_al] <;> omega) | fail) only [WW, WH, ↓reduceIte, nA, nB, nC, nD, nE, nF, nG, reduceCtorEq, L_law14_known, hy3, hs_o1, hs_o2]
    rcases ifb h with ⟨hy4, h⟩ | ⟨hy4, h⟩
    · refine UG_go hy4 ?_
      try simp (disch := first | assumption | omega | (simp only [h_sl, h_al] <;> omega) | fail) only [WW, WH, ↓reduceIte, nA, nB, nC, nD, nE, nF, nG, reduceCtorEq, L_law14_known, hy4, hs_o1, hs_o2]
      rcases ifb h with ⟨hy5, h⟩ | ⟨hy5, h⟩
      · refine UG_go hy5 ?_
        try simp (disch := first | assumption | omega | (simp only [h_sl, h_al] <;> omega) | fail) only [WW, WH, ↓reduceIte, nA, nB, nC, nD, nE, nF, nG, reduceCtorEq, L_law14_known, hy5, hs_o1, hs_o2]
        obtain ⟨r8, hy6, h⟩ := bnd' h
        refine UK_e (as' := [(.agg [(.str r1.local0), (.str r1.domain)])]) (h := addr_Print_ok (a1 := r1) (F := F)  hy6) (hw := WL.cons (Wx.agg (W1L.same (W1L.same (W1L.nil)))) (WL.nil)) (hh := WxH.refl _) ?_
        try simp (disch := first | assumption | omega | (simp only [h_sl, h_al] <;> omega) | fail) only [WW, WH, ↓reduceIte, nA, nB, nC, nD, nE, nF, nG, reduceCtorEq, L_law14_known, hs_o1, hs_o2]
        rcases ifb h with ⟨hy7, h⟩ | ⟨hy7, h⟩
        · refine UG_go hy7 ?_
          try simp (disch := first | assumption | omega | (simp only [h_sl, h_al] <;> omega) | fail) only [WW, WH, ↓reduceIte, nA, nB, nC, nD, nE, nF, nG, reduceCtorEq, L_law14_known, hy7, hs_o1, hs_o2]
          obtain ⟨r9, hy8, h⟩ := bnd' h
          refine UK_e (as' := [(.agg [(.str r4.local0), (.str r4.domain)]), (.agg [(.str ([97, 46, 98] : List UInt8)), (.str ([67] : List UInt8))])]) (h := addr_Same_ok (a1 := r4) (b2 := (AddressV.mk ([97, 46, 98] : List UInt8) ([67] : List UInt8))) (F := F)  hy8) (hw := WL.cons (Wx.agg (W1L.same (W1L.same (W1L.nil)))) (WL.cons (Wx.agg (W1L.same (W1L.same (W1L.nil)))) (WL.nil))) (hh := WxH.refl _) ?_
          try simp (disch := first | assumption | omega | (simp only [h_sl, h_al] <;> omega) | fail) only [WW, WH, ↓reduceIte, nA, nB, nC, nD, nE, nF, nG, reduceCtorEq, L_law14_known, hs_o1, hs_o2]
          rcases ifb h with ⟨hy9, h⟩ | ⟨hy9, h⟩
          · refine UG_go hy9 ?_
            try simp (disch := first | assumption | omega | (simp only [h_sl, h_al] <;> omega) | fail) only [WW, WH, ↓reduceIte, nA, nB, nC, nD, nE, nF, nG, reduceCtorEq, L_law14_known, hy9, hs_o1, hs_o2]
            obtain ⟨r10, hy10, h⟩ := bnd' h
            refine UK_e (as' := [(.str ([91, 49, 46, 50, 46, 51, 46, 52, 93] : List UInt8))]) (h := addr_Domain_ok (s1 := ([91, 49, 46, 50, 46, 51, 46, 52, 93] : List UInt8)) (F := F)  hy10) (hw := WL.cons (Wx.str) (WL.nil)) (hh := WxH.refl _) ?_
            try simp (disch := first | assumption | omega | (simp only [h_sl, h_al] <;> omega) | fail) only [WW, WH, ↓reduceIte, nA, nB, nC, nD, nE, nF, nG, reduceCtorEq, L_law14_known, hs_o1, hs_o2]
            rcases ifb h with ⟨hy11, h⟩ | ⟨hy11, h⟩
            · refine UG_go hy11 ?_
              try simp (disch := first | assumption | omega | (simp only [h_sl, h_al] <;> omega) | fail) only [WW, WH, ↓reduceIte, nA, nB, nC, nD, nE, nF, nG, reduceCtorEq, L_law14_known, hy11, hs_o1, hs_o2]
              obtain ⟨r11, hy12, h⟩ := bnd' h
              refine UK_e (as' := [(.str ([45, 97] : List UInt8))]) (h := addr_Domain_ok (s1 := ([45, 97] : List UInt8)) (F := F)  hy12) (hw := WL.cons (Wx.str) (WL.nil)) (hh := WxH.refl _) ?_
              try simp (disch := first | assumption | omega | (simp only [h_sl, h_al] <;> omega) | fail) only [WW, WH, ↓reduceIte, nA, nB, nC, nD, nE, nF, nG, reduceCtorEq, L_law14_known, hs_o1, hs_o2]
              have hq := Option.some.inj h; subst hq
              refine hK _ _ _ _ _ ?_ (WxH.refl _) (kn _ hfr ((hs_o1).trans rfl) ((hs_o2).trans rfl))
              exact WE.cons (Wx.bool) (WE.nil)
            · refine UG_nt hy11 ?_
              try simp (disch := first | assumption | omega | (simp only [h_sl, h_al] <;> omega) | fail) only [WW, WH, ↓reduceIte, nA, nB, nC, nD, nE, nF, nG, reduceCtorEq, L_law14_known, hy11, hs_o1, hs_o2]
              have hq := Option.some.inj h; subst hq
              refine hK _ _ _ _ _ ?_ (WxH.refl _) (kn _ hfr ((hs_o1).trans rfl) ((hs_o2).trans rfl))
              exact WE.cons (Wx.bool) (WE.nil)
          · refine UG_nt hy9 ?_
            try simp (disch := first | assumption | omega | (simp only [h_sl, h_al] <;> omega) | fail) only [WW, WH, ↓reduceIte, nA, nB, nC, nD, nE, nF, nG, reduceCtorEq, L_law14_known, hy9, hs_o1, hs_o2]
            have hq := Option.some.inj h; subst hq
            refine hK _ _ _ _ _ ?_ (WxH.refl _) (kn _ hfr ((hs_o1).trans rfl) ((hs_o2).trans rfl))
            exact WE.cons (Wx.bool) (WE.nil)
        · refine UG_nt hy7 ?_
          try simp (disch := first | assumption | omega | (simp only [h_sl, h_al] <;> omega) | fail) only [WW, WH, ↓reduceIte, nA, nB, nC, nD, nE, nF, nG, reduceCtorEq, L_law14_known, hy7, hs_o1, hs_o2]
          have hq := Option.some.inj h; subst hq
          refine hK _ _ _ _ _ ?_ (WxH.refl _) (kn _ hfr ((hs_o1).trans rfl) ((hs_o2).trans rfl))
          exact WE.cons (Wx.bool) (WE.nil)
      · refine UG_nt hy5 ?_
        try simp (disch := first | assumption | omega | (simp only [h_sl, h_al] <;> omega) | fail) only [WW, WH, ↓reduceIte, nA, nB, nC, nD, nE, nF, nG, reduceCtorEq, L_law14_known, hy5, hs_o1, hs_o2]
        have hq := Option.some.inj h; subst hq
        refine hK _ _ _ _ _ ?_ (WxH.refl _) (kn _ hfr ((hs_o1).trans rfl) ((hs_o2).trans rfl))
        exact WE.cons (Wx.bool) (WE.nil)
    · refine UG_nt hy4 ?_
      try simp (disch := first | assumption | omega | (simp only [h_sl, h_al] <;> omega) | fail) only [WW, WH, ↓reduceIte, nA, nB, nC, nD, nE, nF, nG, reduceCtorEq, L_law14_known, hy4, hs_o1, hs_o2]
      have hq := Option.some.inj h; subst hq
      refine hK _ _ _ _ _ ?_ (WxH.refl _) (kn _ hfr ((hs_o1).trans rfl) ((hs_o2).trans rfl))
      exact WE.cons (Wx.bool) (WE.nil)
  · refine UG_nt hy3 ?_
    try simp (disch := first | assumption | omega | (simp only [h_sl, h_al] <;> omega) | fail) only [WW, WH, ↓reduceIte, nA, nB, nC, nD, nE, nF, nG, reduceCtorEq, L_law14_known, hy3, hs_o1, hs_o2]
    have hq := Option.some.inj h; subst hq
    refine hK _ _ _ _ _ ?_ (WxH.refl _) (kn _ hfr ((hs_o1).trans rfl) ((hs_o2).trans rfl))
    exact WE.cons (Wx.bool) (WE.nil)
theorem law14_known_ok {F : Nat}   {H0 : AH}  {rz0 : Bool} (h : law14_known F  = some rz0) :
    ACalls Tryd.prog 32 [] H0 fun v H' => v = (.bool rz0) ∧ H' = H0 := by
  refine ACalls.goX k_law14_known (m := m_law14_known) rfl L_law14_known (by decide) (by simp) fun hcl K0 hK0 => ?_
  refine AX.of_U (m := m_law14_known) rfl (by decide) ?_
  have hfr := Fr.refl H0 []
  have hle := hfr.le
  rw [law14_known.eq_1] at h
  obtain ⟨H, hHH⟩ : ∃ H, H = H0 := ⟨_, rfl⟩
  have hfr : Fr H0 H0.length [] H := hHH ▸ hfr
  have hle := hfr.le
  suffices hU : U Tryd.prog L_law14_known 45 H0.length [.code m_law14_known] K0 .normal (argE 0 []) H by rwa [hHH] at hU
  try simp (disch := first | assumption | omega | (simp only [h_sl, h_al] <;> omega) | fail) only [WW, WH, ↓reduceIte, nA, nB, nC, nD, nE, nF, nG, reduceCtorEq, L_law14_known, m_law14_known]
  obtain ⟨⟨r1, r2, r3⟩, hy1, h⟩ := bnd' h
  dsimp only at h
  refine UK_e (as' := [(.str ([60, 64, 120, 46, 121, 44, 64, 122, 58, 34, 97, 32, 98, 34, 64, 72, 111, 115, 116, 46, 101, 120, 97, 109, 112, 108, 101, 62, 32, 107] : List UInt8))]) (h := addr_Path_ok (s1 := ([60, 64, 120, 46, 121, 44, 64, 122, 58, 34, 97, 32, 98, 34, 64, 72, 111, 115, 116, 46, 101, 120, 97, 109, 112, 108, 101, 62, 32, 107] : List UInt8)) (F := F)  hy1) (hw := WL.cons (Wx.str) (WL.nil)) (hh := WxH.refl _) ?_
  try simp (disch := first | assumption | omega | (simp only [h_sl, h_al] <;> omega) | fail) only [WW, WH, ↓reduceIte, nA, nB, nC, nD, nE, nF, nG, reduceCtorEq, L_law14_known]
  obtain ⟨⟨r4, r5⟩, hy2, h⟩ := bnd' h
  dsimp only at h
  refine UK_e (as' := [(.str ([60, 97, 46, 98, 64, 99, 62] : List UInt8))]) (h := addr_Parse_ok (s1 := ([60, 97, 46, 98, 64, 99, 62] : List UInt8)) (F := F)  hy2) (hw := WL.cons (Wx.str) (WL.nil)) (hh := WxH.refl _) ?_
  try simp (disch := first | assumption | omega | (simp only [h_sl, h_al] <;> omega) | fail) only [WW, WH, ↓reduceIte, nA, nB, nC, nD, nE, nF, nG, reduceCtorEq, L_law14_known]
  obtain ⟨q7, hg_q7⟩ : ∃ q : Nat, (H.length + 1) = q := ⟨_, rfl⟩
  try rw [hg_q7]
  obtain ⟨q6, hg_q6⟩ : ∃ q : Nat, H.length = q := ⟨_, rfl⟩
  try rw [hg_q6]
  try rw [show q6 + 1 = q7 from by omega]
  obtain ⟨t13, hy13, h⟩ := bnd' h
  refine UX_of (AX.weak ?_ (WxH.refl _) (law14_known_p1_ok (F := F) (r3 := r3) (r5 := r5) (r2 := r2) (r1 := r1) (r4 := r4) (t12 := t13) (q6 := q6) (q7 := q7) ((Fr.set (s := q7) (Fr.app (Fr.set (s := q6) (Fr.app hfr) (.inr (by first | assumption | omega | (simp only [h_sl, h_al] <;> omega) | fail)))) (.inr (by first | assumption | omega | (simp only [h_sl, h_al] <;> omega) | fail)))) (((h_ne (by first | assumption | omega | (simp only [h_sl, h_al] <;> omega) | fail)).trans ((h_app (by first | assumption | omega | (simp only [h_sl, h_al] <;> omega) | fail)).trans (h_eq (by first | assumption | omega | (simp only [h_sl, h_al] <;> omega) | fail)))).trans rfl) ((h_eq (by first | assumption | omega | (simp only [h_sl, h_al] <;> omega) | fail)).trans rfl) (by first | assumption | omega | (simp only [h_sl, h_al] <;> omega) | fail) (by first | assumption | omega | (simp only [h_sl, h_al] <;> omega) | fail) (by first | assumption | omega | (simp only [h_sl, h_al] <;> omega) | fail) hy13 ?_))
  · exact WE.cons (Wx.bool) (WE.cons (Wx.ptr) (WE.cons (Wx.str) (WE.cons (Wx.int) (WE.cons (Wx.ptr) (WE.cons (Wx.int) (WE.nil))))))
  intro H hfr hs_o1 hs_o2
  have hle := hfr.le
  have hl_o1 := h_lt hs_o1
  have hl_o2 := h_lt hs_o2
  try simp (disch := first | assumption | omega | (simp only [h_sl, h_al] <;> omega) | fail) only [WW, WH, ↓reduceIte, nA, nB, nC, nD, nE, nF, nG, reduceCtorEq, L_law14_known, hs_o1, hs_o2]
  have hq := Option.some.inj h; subst hq
  refine hK0 _ _ _ (.inr rfl) ?_
  exact fn_end0 (by exact hfr) hcl (resv_tmp (a := (.bool t13)) rfl rfl resv_nil) (by first | (simp [fin, b_df, b_sh, b_sh1, b_Cl]; done) | (simp [fin, AV.df, AV.sh, AV.sh1, b_df, b_sh, b_sh1, b_Cl]; done)) (Wx.bool) (r' := (.bool t13)) ⟨rfl, rfl⟩

/-! ### mailbag/mailbagref14.letter -/
def c_ref14_letter_p1 : ACode := (.rg [⟨(some 3), (.mv (.t 0)), none⟩, ⟨(some 4), (.bin .geq (.t 3) (.c (b8 65))), none⟩, ⟨(some 5), (.mv (.t 4)), none⟩, ⟨(some 6), (.mv (.t 0)), (some (5, true))⟩, ⟨(some 7), (.bin .leq (.t 6) (.c (b8 90))), (some (5, true))⟩, ⟨(some 8), (.pick (.t 5) (.t 7) (.c (.bool false))), none⟩, ⟨(some 9), (.mv (.t 8)), none⟩, ⟨(some 10), (.mv (.t 0)), (some (9, false))⟩, ⟨(some 11), (.bin .geq (.t 10) (.c (b8 97))), (some (9, false))⟩, ⟨(some 12), (.mv (.t 11)), (some (9, false))⟩, ⟨(some 13), (.mv (.t 0)), (some (12, true))⟩, ⟨(some 14), (.bin .leq (.t 13) (.c (b8 122))), (some (12, true))⟩, ⟨(some 15), (.pick (.t 12) (.t 14) (.c (.bool false))), (some (9, false))⟩, ⟨(some 16), (.pick (.t 9) (.c (.bool true)) (.t 15)), none⟩, ⟨(some 2), (.asg (.t 16)), none⟩])
abbrev m_ref14_letter_p1 := c_ref14_letter_p1
def c_ref14_letter : ACode := (.seq (.rg [⟨(some 2), (.asg (.c (.bool false))), none⟩]) (.seq c_ref14_letter_p1 .ret))
def m_ref14_letter : ACode := (.seq (.rg [⟨(some 2), (.asg (.c (.bool false))), none⟩]) (.seq (.sem c_ref14_letter_p1) .ret))
theorem k_ref14_letter : FnOk Tryd.prog 103 17 [(.tmp 2)] c_ref14_letter := ⟨Tryd.f103, _, rfl, by decide, rfl, by kernel_rfl, rfl, rfl⟩
abbrev L_ref14_letter : List Nat := [0, 2]
def ref14_letter (c1 : UInt8) : Option (Bool) :=
  some (((decide (65 ≤ c1)) && (decide (c1 ≤ 90))) || ((decide (97 ≤ c1)) && (decide (c1 ≤ 122))))
theorem ref14_letter_p1_ok {c1 : UInt8} {H : AH}  {K : Exit → Env → AH → Prop}
    (kn : K .normal [(2, (.bool (((decide (65 ≤ c1)) && (decide (c1 ≤ 90))) || ((decide (97 ≤ c1)) && (decide (c1 ≤ 122))))))] H) :
    AX Tryd.prog L_ref14_letter 17 H.length c_ref14_letter_p1 K [(0, (b8 c1)), (2, (.bool false))] H := by
  refine AX.go (m := m_ref14_letter_p1) rfl (by decide) fun K' hK => ?_
  try simp only [WW, ↓reduceIte, nA, nB, nC, nD, nE, nF, nG, reduceCtorEq, L_ref14_letter, m_ref14_letter_p1, c_ref14_letter_p1]
  rcases bcases ((decide (65 ≤ c1))) with hy1 | hy1
  · refine UG_go hy1 ?_
    try simp only [WW, ↓reduceIte, nA, nB, nC, nD, nE, nF, nG, reduceCtorEq, L_ref14_letter, hy1]
    rcases bcases ((decide (c1 ≤ 90))) with hy2 | hy2
    · refine UG_nf hy2 ?_
      try simp only [WW, ↓reduceIte, nA, nB, nC, nD, nE, nF, nG, reduceCtorEq, L_ref14_letter, hy2]
      refine hK _ _ _ _ _ ?_ (WxH.refl _) (kn )
      exact WE.cons (Wx.boolE (by first | (simp only [hy1, hy2, WB]; done) | (try rw [hy1]; try rw [hy2]; try simp only [WB]))) (WE.nil)
    · refine UG_go hy2 ?_
      try simp only [WW, ↓reduceIte, nA, nB, nC, nD, nE, nF, nG, reduceCtorEq, L_ref14_letter, hy2]
      rcases bcases ((decide (97 ≤ c1))) with hy3 | hy3
      · refine UG_go hy3 ?_
        try simp only [WW, ↓reduceIte, nA, nB, nC, nD, nE, nF, nG, reduceCtorEq, L_ref14_letter, hy3]
        refine hK _ _ _ _ _ ?_ (WxH.refl _) (kn )
        exact WE.cons (Wx.boolE (by first | (simp only [hy1, hy2, hy3, WB]; done) | (try rw [hy1]; try rw [hy2]; try rw [hy3]; try simp only [WB]))) (WE.nil)
      · refine UG_nt hy3 ?_
        try simp only [WW, ↓reduceIte, nA, nB, nC, nD, nE, nF, nG, reduceCtorEq, L_ref14_letter, hy3]
        refine hK _ _ _ _ _ ?_ (WxH.refl _) (kn )
        exact WE.cons (Wx.boolE (by first | (simp only [hy1, hy2, hy3, WB]; done) | (try rw [hy1]; try rw [hy2]; try rw [hy3]; try simp only [WB]))) (WE.nil)
  · refine UG_nt hy1 ?_
    try simp only [WW, ↓reduceIte, nA, nB, nC, nD, nE, nF, nG, reduceCtorEq, L_ref14_letter, hy1]
    rcases bcases ((decide (97 ≤ c1))) with hy4 | hy4
    · refine UG_go hy4 ?_
      try simp only [WW, ↓reduceIte, nA, nB, nC, nD, nE, nF, nG, reduceCtorEq, L_ref14_letter, hy4]
      refine hK _ _ _ _ _ ?_ (WxH.refl _) (kn )
      exact WE.cons (Wx.boolE (by first | (simp only [hy1, hy4, WB]; done) | (try rw [hy1]; try rw [hy4]; try simp only [WB]))) (WE.nil)
    · refine UG_nt hy4 ?_
      try simp only [WW, ↓reduceIte, nA, nB, nC, nD, nE, nF, nG, reduceCtorEq, L_ref14_letter, hy4]
      refine hK _ _ _ _ _ ?_ (WxH.refl _) (kn )
      exact WE.cons (Wx.boolE (by first | (simp only [hy1, hy4, WB]; done) | (try rw [hy1]; try rw [hy4]; try simp only [WB]))) (WE.nil)
theorem ref14_letter_ok {c1 : UInt8}  {H0 : AH}  {rz0 : Bool} (h : ref14_letter c1 = some rz0) :
    ACalls Tryd.prog 103 [(b8 c1)] H0 fun v H' => v = (.bool rz0) ∧ H' = H0 := by
  refine ACalls.goX k_ref14_letter (m := m_ref14_letter) rfl L_ref14_letter (by decide) (by simp) fun hcl K0 hK0 => ?_
  refine AX.of_U (m := m_ref14_letter) rfl (by decide) ?_
  rw [ref14_letter.eq_1] at h
  try simp only [WW, ↓reduceIte, nA, nB, nC, nD, nE, nF, nG, reduceCtorEq, L_ref14_letter, m_ref14_letter]
  refine UX_of (AX.weak ?_ (WxH.refl _) (ref14_letter_p1_ok (c1 := c1)  ?_))
  · exact WE.cons (Wx.b8) (WE.cons (Wx.bool) (WE.nil))
  try simp only [WW, ↓reduceIte, nA, nB, nC, nD, nE, nF, nG, reduceCtorEq, L_ref14_letter]
  have hq := Option.some.inj h; subst hq
  refine hK0 _ _ _ (.inr rfl) ?_
  exact fn_endp hcl (resv_tmp (a := (.bool (((decide (65 ≤ c1)) && (decide (c1 ≤ 90))) || ((decide (97 ≤ c1)) && (decide (c1 ≤ 122)))))) rfl rfl resv_nil) (by first | (simp [fin, b_df, b_sh, b_sh1, b_Cl]; done) | (simp [fin, AV.df, AV.sh, AV.sh1, b_df, b_sh, b_sh1, b_Cl]; done)) (Wx.bool) (r' := (.bool (((decide (65 ≤ c1)) && (decide (c1 ≤ 90))) || ((decide (97 ≤ c1)) && (decide (c1 ≤ 122)))))) ⟨rfl, rfl⟩

/-! ### mailbag/mailbagref14.digit -/
def c_ref14_digit_p1 : ACode := (.rg [⟨(some 3), (.mv (.t 0)), none⟩, ⟨(some 4), (.bin .geq (.t 3) (.c (b8 48))), none⟩, ⟨(some 5), (.mv (.t 4)), none⟩, ⟨(some 6), (.mv (.t 0)), (some (5, true))⟩, ⟨(some 7), (.bin .leq (.t 6) (.c (b8 57))), (some (5, true))⟩, ⟨(some 8), (.pick (.t 5) (.t 7) (.c (.bool false))), none⟩, ⟨(some 2), (.asg (.t 8)), none⟩])
abbrev m_ref14_digit_p1 := c_ref14_digit_p1
def c_ref14_digit : ACode := (.seq (.rg [⟨(some 2), (.asg (.c (.bool false))), none⟩]) (.seq c_ref14_digit_p1 .ret))
def m_ref14_digit : ACode := (.seq (.rg [⟨(some 2), (.asg (.c (.bool false))), none⟩]) (.seq (.sem c_ref14_digit_p1) .ret))
theorem k_ref14_digit : FnOk Tryd.prog 104 9 [(.tmp 2)] c_ref14_digit := ⟨Tryd.f104, _, rfl, by decide, rfl, by kernel_rfl, rfl, rfl⟩
abbrev L_ref14_digit : List Nat := [0, 2]
def ref14_digit (c1 : UInt8) : Option (Bool) :=
  some ((decide (48 ≤ c1)) && (decide (c1 ≤ 57)))
theorem ref14_digit_p1_ok {c1 : UInt8} {H : AH}  {K : Exit → Env → AH → Prop}
    (kn : K .normal [(2, (.bool ((decide (48 ≤ c1)) && (decide (c1 ≤ 57)))))] H) :
    AX Tryd.prog L_ref14_digit 9 H.length c_ref14_digit_p1 K [(0, (b8 c1)), (2, (.bool false))] H := by
  refine AX.go (m := m_ref14_digit_p1) rfl (by decide) fun K' hK => ?_
  try simp only [WW, ↓reduceIte, nA, nB, nC, nD, nE, nF, nG, reduceCtorEq, L_ref14_digit, m_ref14_digit_p1, c_ref14_digit_p1]
  rcases bcases ((decide (48 ≤ c1))) with hy1 | hy1
  · refine UG_go hy1 ?_
    try simp only [WW, ↓reduceIte, nA, nB, nC, nD, nE, nF, nG, reduceCtorEq, L_ref14_digit, hy1]
    refine hK _ _ _ _ _ ?_ (WxH.refl _) (kn )
    exact WE.cons (Wx.boolE (by simp only [hy1, WB])) (WE.nil)
  · refine UG_nt hy1 ?_
    try simp only [WW, ↓reduceIte, nA, nB, nC, nD, nE, nF, nG, reduceCtorEq, L_ref14_digit, hy1]
    refine hK _ _ _ _ _ ?_ (WxH.refl _) (kn )
    exact WE.cons (Wx.boolE (by simp only [hy1, WB])) (WE.nil)
theorem ref14_digit_ok {c1 : UInt8}  {H0 : AH}  {rz0 : Bool} (h : ref14_digit c1 = some rz0) :
    ACalls Tryd.prog 104 [(b8 c1)] H0 fun v H' => v = (.bool rz0) ∧ H' = H0 := by
  refine ACalls.goX k_ref14_digit (m := m_ref14_digit) rfl L_ref14_digit (by decide) (by simp) fun hcl K0 hK0 => ?_
  refine AX.of_U (m := m_ref14_digit) rfl (by decide) ?_
  rw [ref14_digit.eq_1] at h
  try simp only [WW, ↓reduceIte, nA, nB, nC, nD, nE, nF, nG, reduceCtorEq, L_ref14_digit, m_ref14_digit]
  refine UX_of (AX.weak ?_ (WxH.refl _) (ref14_digit_p1_ok (c1 := c1)  ?_))
  · exact WE.cons (Wx.b8) (WE.cons (Wx.bool) (WE.nil))
  try simp only [WW, ↓reduceIte, nA, nB, nC, nD, nE, nF, nG, reduceCtorEq, L_ref14_digit]
  have hq := Option.some.inj h; subst hq
  refine hK0 _ _ _ (.inr rfl) ?_
  exact fn_endp hcl (resv_tmp (a := (.bool ((decide (48 ≤ c1)) && (decide (c1 ≤ 57))))) rfl rfl resv_nil) (by first | (simp [fin, b_df, b_sh, b_sh1, b_Cl]; done) | (simp [fin, AV.df, AV.sh, AV.sh1, b_df, b_sh, b_sh1, b_Cl]; done)) (Wx.bool) (r' := (.bool ((decide (48 ≤ c1)) && (decide (c1 ≤ 57))))) ⟨rfl, rfl⟩

/-! ### mailbag/mailbagref14.octet -/
def c_ref14_octet_p1 : ACode := (.rg [⟨(some 5), (.mv (.t 0)), none⟩, ⟨(some 6), (.bin .eql (.t 5) (.c (.str []))), none⟩, ⟨(some 7), (.mv (.t 6)), none⟩, ⟨(some 8), (.mv (.t 0)), (some (7, false))⟩, ⟨(some 9), (.lens (.t 8)), (some (7, false))⟩, ⟨(some 10), (.bin .gtr (.t 9) (.c (.int .i64 3))), (some (7, false))⟩, ⟨(some 11), (.pick (.t 7) (.c (.bool true)) (.t 10)), none⟩, ⟨(some 12), (.mv (.t 11)), none⟩, ⟨(some 13), (.mv (.t 0)), (some (12, false))⟩, ⟨(some 14), (.ixs (.t 13) (.c (.int .i64 0))), (some (12, false))⟩, ⟨(some 15), (.bin .eql (.t 14) (.c (b8 48))), (some (12, false))⟩, ⟨(some 16), (.mv (.t 15)), (some (12, false))⟩, ⟨(some 17), (.mv (.t 0)), (some (16, true))⟩, ⟨(some 18), (.lens (.t 17)), (some (16, true))⟩, ⟨(some 19), (.bin .gtr (.t 18) (.c (.int .i64 1))), (some (16, true))⟩, ⟨(some 20), (.pick (.t 16) (.t 19) (.c (.bool false))), (some (12, false))⟩, ⟨(some 21), (.pick (.t 12) (.c (.bool true)) (.t 20)), none⟩])
abbrev m_ref14_octet_p1 := c_ref14_octet_p1
def c_ref14_octet_l1b : ACode := (.seq (.seq (.rg [⟨(some 22), (.mv (.t 4)), none⟩, ⟨(some 23), (.mv (.t 0)), none⟩, ⟨(some 24), (.lens (.t 23)), none⟩, ⟨(some 25), (.bin .lss (.t 22) (.t 24)), none⟩]) (.cond (.t 25) .skip (.exit 0))) (.seq (.blk 1 (.seq (.seq (.rg [⟨(some 28), (.mv (.t 0)), none⟩, ⟨(some 29), (.mv (.t 4)), none⟩, ⟨(some 30), (.ixs (.t 28) (.t 29)), none⟩, ⟨(some 31), (.call (.c (.fn 104 [])) [(.t 30)]), none⟩, ⟨(some 32), (.un .not (.t 31)), none⟩]) (.cond (.t 32) (.seq (.rg [⟨(some 2), (.asg (.c (.bool false))), none⟩]) .ret) .skip)) (.rg [⟨(some 33), (.mv (.t 3)), none⟩, ⟨(some 34), (.bin .mul (.c (.int .i64 10)) (.t 33)), none⟩, ⟨(some 35), (.mv (.t 0)), none⟩, ⟨(some 36), (.mv (.t 4)), none⟩, ⟨(some 37), (.ixs (.t 35) (.t 36)), none⟩, ⟨(some 38), (.bin .sub (.t 37) (.c (b8 48))), none⟩, ⟨(some 39), (.cvt (.int .i64) (.t 38)), none⟩, ⟨(some 40), (.bin .add (.t 34) (.t 39)), none⟩, ⟨(some 3), (.asg (.t 40)), none⟩]))) (.rg [⟨(some 26), (.mv (.t 4)), none⟩, ⟨(some 27), (.bin .add (.t 26) (.c (.int .i64 1))), none⟩, ⟨(some 4), (.asg (.t 27)), none⟩])))
def c_ref14_octet_l1 : ACode := (.loop c_ref14_octet_l1b)
abbrev m_ref14_octet_l1b := c_ref14_octet_l1b
def c_ref14_octet : ACode := (.seq (.rg [⟨(some 2), (.asg (.c (.bool false))), none⟩]) (.seq (.seq c_ref14_octet_p1 (.cond (.t 21) (.seq (.rg [⟨(some 2), (.asg (.c (.bool false))), none⟩]) .ret) .skip)) (.seq (.rg [⟨(some 3), (.asg (.c (.int .i64 0))), none⟩]) (.seq (.seq (.rg [⟨(some 4), (.asg (.c (.int .i64 0))), none⟩]) (.blk 0 c_ref14_octet_l1)) (.seq (.rg [⟨(some 41), (.mv (.t 3)), none⟩, ⟨(some 42), (.bin .leq (.t 41) (.c (.int .i64 255))), none⟩, ⟨(some 2), (.asg (.t 42)), none⟩]) .ret)))))
def m_ref14_octet : ACode := (.seq (.rg [⟨(some 2), (.asg (.c (.bool false))), none⟩]) (.seq (.seq (.sem c_ref14_octet_p1) (.cond (.t 21) (.seq (.rg [⟨(some 2), (.asg (.c (.bool false))), none⟩]) .ret) .skip)) (.seq (.rg [⟨(some 3), (.asg (.c (.int .i64 0))), none⟩]) (.seq (.seq (.rg [⟨(some 4), (.asg (.c (.int .i64 0))), none⟩]) (.blk 0 c_ref14_octet_l1)) (.seq (.rg [⟨(some 41), (.mv (.t 3)), none⟩, ⟨(some 42), (.bin .leq (.t 41) (.c (.int .i64 255))), none⟩, ⟨(some 2), (.asg (.t 42)), none⟩]) .ret)))))
theorem k_ref14_octet : FnOk Tryd.prog 80 43 [(.tmp 2)] c_ref14_octet := ⟨Tryd.f80, _, rfl, by decide, rfl, by kernel_rfl, rfl, rfl⟩
abbrev L_ref14_octet : List Nat := [0, 2, 3, 4, 21, 25, 32]
def ref14_octet_p1 (s1 : List UInt8) : Option (Bool) :=
  (if (decide (s1 = ([] : List UInt8))) then
    some true
  else
    (if (decide (3 < (s1.length : Int))) then
      some true
    else
      (idx s1 0).bind fun x2 =>
      (if (decide (x2 = 48)) then
        some (decide (1 < (s1.length : Int)))
      else
        some false)))
def ref14_octet_l1 (s1 : List UInt8) : (Int × Int) → Option (St Bool Int (Int × Int))
  | (nn5, i6) =>
    (if (decide (i6 < (s1.length : Int))) then
      (idx s1 i6).bind fun x7 =>
      (ref14_digit x7).bind fun r8 =>
      (if (!r8) then
        some (.ret false)
      else
        some (.nxt ((IntKind.wrap .i64 ((IntKind.wrap .i64 (10 * nn5)) + (IntKind.wrap .i64 ((x7 - 48).toNat : Int)))), (IntKind.wrap .i64 (i6 + 1)))))
    else
      some (.brk nn5))
def ref14_octet (F : Nat) (s1 : List UInt8) : Option (Bool) :=
  (ref14_octet_p1 s1).bind fun t4 =>
  (if t4 then
    some false
  else
    ((iter (ref14_octet_l1 s1) F (0, 0)).bind fun o13 =>
    match o13 with
    | .inr nn11 =>
      some (decide (nn11 ≤ 255))
    | .inl r12 =>
      some r12))
theorem ref14_octet_p1_ok {s1 : List UInt8} {H : AH}  {K : Exit → Env → AH → Prop} {t3 : Bool}
    (h : ref14_octet_p1 s1 = some t3)
    (kn : K .normal [(0, (.str s1)), (21, (.bool t3))] H) :
    AX Tryd.prog L_ref14_octet 43 H.length c_ref14_octet_p1 K [(0, (.str s1))] H := by
  refine AX.go (m := m_ref14_octet_p1) rfl (by decide) fun K' hK => ?_
  rw [ref14_octet_p1.eq_1] at h
  try simp only [WW, ↓reduceIte, nA, nB, nC, nD, nE, nF, nG, reduceCtorEq, L_ref14_octet, m_ref14_octet_p1, c_ref14_octet_p1]
  rcases ifb h with ⟨hy1, h⟩ | ⟨hy1, h⟩
  · refine UG_nf hy1 ?_
    try simp only [WW, ↓reduceIte, nA, nB, nC, nD, nE, nF, nG, reduceCtorEq, L_ref14_octet, hy1]
    have hq := Option.some.inj h; subst hq
    refine hK _ _ _ _ _ ?_ (WxH.refl _) (kn )
    exact WE.cons (Wx.str) (WE.cons (Wx.bool) (WE.nil))
  · refine UG_go hy1 ?_
    try simp only [WW, ↓reduceIte, nA, nB, nC, nD, nE, nF, nG, reduceCtorEq, L_ref14_octet, hy1]
    rcases ifb h with ⟨hy2, h⟩ | ⟨hy2, h⟩
    · refine UG_nf hy2 ?_
      try simp only [WW, ↓reduceIte, nA, nB, nC, nD, nE, nF, nG, reduceCtorEq, L_ref14_octet, hy2]
      have hq := Option.some.inj h; subst hq
      refine hK _ _ _ _ _ ?_ (WxH.refl _) (kn )
      exact WE.cons (Wx.str) (WE.cons (Wx.bool) (WE.nil))
    · refine UG_go hy2 ?_
      obtain ⟨x2, hy3, h⟩ := bnd' h
      try simp only [WW, ↓reduceIte, nA, nB, nC, nD, nE, nF, nG, reduceCtorEq, L_ref14_octet, hy2, hy3]
      rcases ifb h with ⟨hy4, h⟩ | ⟨hy4, h⟩
      · refine UG_go hy4 ?_
        try simp only [WW, ↓reduceIte, nA, nB, nC, nD, nE, nF, nG, reduceCtorEq, L_ref14_octet, hy4]
        have hq := Option.some.inj h; subst hq
        refine hK _ _ _ _ _ ?_ (WxH.refl _) (kn )
        exact WE.cons (Wx.str) (WE.cons (Wx.bool) (WE.nil))
      · refine UG_nt hy4 ?_
        try simp only [WW, ↓reduceIte, nA, nB, nC, nD, nE, nF, nG, reduceCtorEq, L_ref14_octet, hy4]
        have hq := Option.some.inj h; subst hq
        refine hK _ _ _ _ _ ?_ (WxH.refl _) (kn )
        exact WE.cons (Wx.str) (WE.cons (Wx.bool) (WE.nil))
theorem ref14_octet_l1_ok {F : Nat} {i6 : Int} {s1 : List UInt8} {nn5 : Int} {H : AH}  {K : Exit → Env → AH → Prop} {o : (Bool) ⊕ (Int)}
    (h : iter (ref14_octet_l1 s1) F (nn5, i6) = some o)
    (kb0 : ∀ o' : Int, o = .inr o' → K (.exit 0) [(3, (.int .i64 o'))] H)
    (kr : ∀ o' : Bool, o = .inl o' → K .ret [(2, (.bool o'))] H) :
    AX Tryd.prog L_ref14_octet 43 H.length c_ref14_octet_l1 K [(0, (.str s1)), (3, (.int .i64 nn5)), (4, (.int .i64 i6))] H := by
  refine AX.iter (m := m_ref14_octet_l1b) rfl (by decide) (fun s e H1 => match s with | (nn5, i6) => e = [(0, (.str s1)), (3, (.int .i64 nn5)), (4, (.int .i64 i6))] ∧ H1 = H) h ⟨rfl, rfl⟩ ?_
  rintro K' ⟨nn5, i6⟩ st e H ⟨rfl, rfl⟩ h hN hB hR hX
  rw [ref14_octet_l1.eq_1] at h
  try simp only [WW, ↓reduceIte, nA, nB, nC, nD, nE, nF, nG, reduceCtorEq, L_ref14_octet, m_ref14_octet_l1b, c_ref14_octet_l1b]
  rcases ifb h with ⟨hy7, h⟩ | ⟨hy7, h⟩
  · refine UC_t hy7 ?_
    obtain ⟨x7, hy8, h⟩ := bnd' h
    try simp only [WW, ↓reduceIte, nA, nB, nC, nD, nE, nF, nG, reduceCtorEq, L_ref14_octet, hy8]
    obtain ⟨r8, hy9, h⟩ := bnd' h
    refine UK_e (as' := [(b8 x7)]) (h := ref14_digit_ok (c1 := x7)  hy9) (hw := WL.cons (Wx.b8) (WL.nil)) (hh := WxH.refl _) ?_
    try simp only [WW, ↓reduceIte, nA, nB, nC, nD, nE, nF, nG, reduceCtorEq, L_ref14_octet]
    rcases ifb h with ⟨hy10, h⟩ | ⟨hy10, h⟩
    · refine UC_t hy10 ?_
      try simp only [WW, ↓reduceIte, nA, nB, nC, nD, nE, nF, nG, reduceCtorEq, L_ref14_octet]
      have hq := Option.some.inj h; subst hq
      refine hX _ _ _ _ _ (by simp) ?_ (WxH.refl _) (kr _ (hR _ rfl) )
      exact WE.cons (Wx.bool) (WE.nil)
    · refine UC_f hy10 ?_
      try simp only [WW, ↓reduceIte, nA, nB, nC, nD, nE, nF, nG, reduceCtorEq, L_ref14_octet, hy8]
      have hq := Option.some.inj h; subst hq
      refine hN _ rfl _ _ _ _ ?_ (WxH.refl _) ⟨rfl, rfl⟩
      exact WE.cons (Wx.str) (WE.cons (Wx.int) (WE.cons (Wx.int) (WE.nil)))
  · refine UC_f hy7 ?_
    try simp only [WW, ↓reduceIte, nA, nB, nC, nD, nE, nF, nG, reduceCtorEq, L_ref14_octet]
    have hq := Option.some.inj h; subst hq
    refine hX _ _ _ _ _ (by simp) ?_ (WxH.refl _) (kb0 _ (hB _ rfl) )
    exact WE.cons (Wx.int) (WE.nil)
theorem ref14_octet_ok {F : Nat} {s1 : List UInt8}  {H0 : AH}  {rz0 : Bool} (h : ref14_octet F s1 = some rz0) :
    ACalls Tryd.prog 80 [(.str s1)] H0 fun v H' => v = (.bool rz0) ∧ H' = H0 := by
  refine ACalls.goX k_ref14_octet (m := m_ref14_octet) rfl L_ref14_octet (by decide) (by simp) fun hcl K0 hK0 => ?_
  refine AX.of_U (m := m_ref14_octet) rfl (by decide) ?_
  rw [ref14_octet.eq_1] at h
  try simp only [WW, ↓reduceIte, nA, nB, nC, nD, nE, nF, nG, reduceCtorEq, L_ref14_octet, m_ref14_octet]
  obtain ⟨t4, hy5, h⟩ := bnd' h
  refine UX_of (AX.weak ?_ (WxH.refl _) (ref14_octet_p1_ok  (s1 := s1) (t3 := t4)   hy5 ?_))
  · exact WE.cons (Wx.str) (WE.nil)
  try simp only [WW, ↓reduceIte, nA, nB, nC, nD, nE, nF, nG, reduceCtorEq, L_ref14_octet]
  rcases ifb h with ⟨hy6, h⟩ | ⟨hy6, h⟩
  · refine UC_t hy6 ?_
    try simp only [WW, ↓reduceIte, nA, nB, nC, nD, nE, nF, nG, reduceCtorEq, L_ref14_octet]
    have hq := Option.some.inj h; subst hq
    refine hK0 _ _ _ (.inr rfl) ?_
    exact fn_endp hcl (resv_tmp (a := (.bool false)) rfl rfl resv_nil) (by first | (simp [fin, b_df, b_sh, b_sh1, b_Cl]; done) | (simp [fin, AV.df, AV.sh, AV.sh1, b_df, b_sh, b_sh1, b_Cl]; done)) (Wx.bool) (r' := (.bool false)) ⟨rfl, rfl⟩
  · refine UC_f hy6 ?_
    try simp only [WW, ↓reduceIte, nA, nB, nC, nD, nE, nF, nG, reduceCtorEq, L_ref14_octet]
    obtain ⟨o13, hy11, h⟩ := bnd' h
    refine UX_of (AX.weak ?_ (WxH.refl _) (ref14_octet_l1_ok  (s1 := s1) (nn5 := 0) (i6 := 0)   (o := o13) hy11 ?_ ?_))
    · exact WE.cons (Wx.str) (WE.cons (Wx.int) (WE.cons (Wx.int) (WE.nil)))
    · rintro nn11 rfl  
      try dsimp only at h 
      try simp only [WW, ↓reduceIte, nA, nB, nC, nD, nE, nF, nG, reduceCtorEq, L_ref14_octet]
      have hq := Option.some.inj h; subst hq
      refine hK0 _ _ _ (.inr rfl) ?_
      exact fn_endp hcl (resv_tmp (a := (.bool (decide (nn11 ≤ 255)))) rfl rfl resv_nil) (by first | (simp [fin, b_df, b_sh, b_sh1, b_Cl]; done) | (simp [fin, AV.df, AV.sh, AV.sh1, b_df, b_sh, b_sh1, b_Cl]; done)) (Wx.bool) (r' := (.bool (decide (nn11 ≤ 255)))) ⟨rfl, rfl⟩
    · rintro r12 rfl  
      try dsimp only at h 
      try simp only [WW, ↓reduceIte, nA, nB, nC, nD, nE, nF, nG, reduceCtorEq, L_ref14_octet]
      have hq := Option.some.inj h; subst hq
      refine hK0 _ _ _ (.inr rfl) ?_
      exact fn_endp hcl (resv_tmp (a := (.bool r12)) rfl rfl resv_nil) (by first | (simp [fin, b_df, b_sh, b_sh1, b_Cl]; done) | (simp [fin, AV.df, AV.sh, AV.sh1, b_df, b_sh, b_sh1, b_Cl]; done)) (Wx.bool) (r' := (.bool r12)) ⟨rfl, rfl⟩

/-! ### mailbag/mailbagref14.label -/
def c_ref14_label_p1 : ACode := (.rg [⟨(some 4), (.mv (.t 0)), none⟩, ⟨(some 5), (.bin .eql (.t 4) (.c (.str []))), none⟩, ⟨(some 6), (.mv (.t 5)), none⟩, ⟨(some 7), (.mv (.t 0)), (some (6, false))⟩, ⟨(some 8), (.lens (.t 7)), (some (6, false))⟩, ⟨(some 9), (.bin .gtr (.t 8) (.c (.int .i64 63))), (some (6, false))⟩, ⟨(some 10), (.pick (.t 6) (.c (.bool true)) (.t 9)), none⟩, ⟨(some 11), (.mv (.t 10)), none⟩, ⟨(some 12), (.mv (.t 0)), (some (11, false))⟩, ⟨(some 13), (.ixs (.t 12) (.c (.int .i64 0))), (some (11, false))⟩, ⟨(some 14), (.bin .eql (.t 13) (.c (b8 45))), (some (11, false))⟩, ⟨(some 15), (.pick (.t 11) (.c (.bool true)) (.t 14)), none⟩, ⟨(some 16), (.mv (.t 15)), none⟩, ⟨(some 17), (.mv (.t 0)), (some (16, false))⟩, ⟨(some 18), (.mv (.t 0)), (some (16, false))⟩, ⟨(some 19), (.lens (.t 18)), (some (16, false))⟩, ⟨(some 20), (.bin .sub (.t 19) (.c (.int .i64 1))), (some (16, false))⟩, ⟨(some 21), (.ixs (.t 17) (.t 20)), (some (16, false))⟩, ⟨(some 22), (.bin .eql (.t 21) (.c (b8 45))), (some (16, false))⟩, ⟨(some 23), (.pick (.t 16) (.c (.bool true)) (.t 22)), none⟩])
abbrev m_ref14_label_p1 := c_ref14_label_p1
def c_ref14_label_p2 : ACode := (.rg [⟨(some 30), (.mv (.t 0)), none⟩, ⟨(some 31), (.mv (.t 3)), none⟩, ⟨(some 32), (.ixs (.t 30) (.t 31)), none⟩, ⟨(some 33), (.call (.c (.fn 103 [])) [(.t 32)]), none⟩, ⟨(some 34), (.un .not (.t 33)), none⟩, ⟨(some 35), (.mv (.t 34)), none⟩, ⟨(some 36), (.mv (.t 0)), (some (35, true))⟩, ⟨(some 37), (.mv (.t 3)), (some (35, true))⟩, ⟨(some 38), (.ixs (.t 36) (.t 37)), (some (35, true))⟩, ⟨(some 39), (.call (.c (.fn 104 [])) [(.t 38)]), (some (35, true))⟩, ⟨(some 40), (.un .not (.t 39)), (some (35, true))⟩, ⟨(some 41), (.pick (.t 35) (.t 40) (.c (.bool false))), none⟩, ⟨(some 42), (.mv (.t 41)), none⟩, ⟨(some 43), (.mv (.t 0)), (some (42, true))⟩, ⟨(some 44), (.mv (.t 3)), (some (42, true))⟩, ⟨(some 45), (.ixs (.t 43) (.t 44)), (some (42, true))⟩, ⟨(some 46), (.bin .neq (.t 45) (.c (b8 45))), (some (42, true))⟩, ⟨(some 47), (.pick (.t 42) (.t 46) (.c (.bool false))), none⟩])
abbrev m_ref14_label_p2 := c_ref14_label_p2
def c_ref14_label_l1b : ACode := (.seq (.seq (.rg [⟨(some 24), (.mv (.t 3)), none⟩, ⟨(some 25), (.mv (.t 0)), none⟩, ⟨(some 26), (.lens (.t 25)), none⟩, ⟨(some 27), (.bin .lss (.t 24) (.t 26)), none⟩]) (.cond (.t 27) .skip (.exit 0))) (.seq (.blk 1 (.seq c_ref14_label_p2 (.cond (.t 47) (.seq (.rg [⟨(some 2), (.asg (.c (.bool false))), none⟩]) .ret) .skip))) (.rg [⟨(some 28), (.mv (.t 3)), none⟩, ⟨(some 29), (.bin .add (.t 28) (.c (.int .i64 1))), none⟩, ⟨(some 3), (.asg (.t 29)), none⟩])))
def c_ref14_label_l1 : ACode := (.loop c_ref14_label_l1b)
def m_ref14_label_l1b : ACode := (.seq (.seq (.rg [⟨(some 24), (.mv (.t 3)), none⟩, ⟨(some 25), (.mv (.t 0)), none⟩, ⟨(some 26), (.lens (.t 25)), none⟩, ⟨(some 27), (.bin .lss (.t 24) (.t 26)), none⟩]) (.cond (.t 27) .skip (.exit 0))) (.seq (.blk 1 (.seq (.sem c_ref14_label_p2) (.cond (.t 47) (.seq (.rg [⟨(some 2), (.asg (.c (.bool false))), none⟩]) .ret) .skip))) (.rg [⟨(some 28), (.mv (.t 3)), none⟩, ⟨(some 29), (.bin .add (.t 28) (.c (.int .i64 1))), none⟩, ⟨(some 3), (.asg (.t 29)), none⟩])))
def c_ref14_label : ACode := (.seq (.rg [⟨(some 2), (.asg (.c (.bool false))), none⟩]) (.seq (.seq c_ref14_label_p1 (.cond (.t 23) (.seq (.rg [⟨(some 2), (.asg (.c (.bool false))), none⟩]) .ret) .skip)) (.seq (.seq (.rg [⟨(some 3), (.asg (.c (.int .i64 0))), none⟩]) (.blk 0 c_ref14_label_l1)) (.seq (.rg [⟨(some 2), (.asg (.c (.bool true))), none⟩]) .ret))))
def m_ref14_label : ACode := (.seq (.rg [⟨(some 2), (.asg (.c (.bool false))), none⟩]) (.seq (.seq (.sem c_ref14_label_p1) (.cond (.t 23) (.seq (.rg [⟨(some 2), (.asg (.c (.bool false))), none⟩]) .ret) .skip)) (.seq (.seq (.rg [⟨(some 3), (.asg (.c (.int .i64 0))), none⟩]) (.blk 0 c_ref14_label_l1)) (.seq (.rg [⟨(some 2), (.asg (.c (.bool true))), none⟩]) .ret))))
theorem k_ref14_label : FnOk Tryd.prog 81 48 [(.tmp 2)] c_ref14_label := ⟨Tryd.f81, _, rfl, by decide, rfl, by kernel_rfl, rfl, rfl⟩
abbrev L_ref14_label : List Nat := [0, 2, 3, 23, 27, 47]
def ref14_label_p1 (s1 : List UInt8) : Option (Bool) :=
  (if (decide (s1 = ([] : List UInt8))) then
    some true
  else
    (if (decide (63 < (s1.length : Int))) then
      some true
    else
      (idx s1 0).bind fun x2 =>
      (if (decide (x2 = 45)) then
        some true
      else
        (idx s1 (IntKind.wrap .i64 ((s1.length : Int) - 1))).bind fun x3 => some (decide (x3 = 45)))))
def ref14_label_p2 (s1 : List UInt8) (i6 : Int) : Option (Bool) :=
  (idx s1 i6).bind fun x7 =>
  (ref14_letter x7).bind fun r8 =>
  (if (!r8) then
    (ref14_digit x7).bind fun r9 => (if (!r9) then
      some (!decide (x7 = 45))
    else
      some false)
  else
    some false)
def ref14_label_l1 (s1 : List UInt8) : Int → Option (St Bool Unit Int)
  | i6 =>
    (if (decide (i6 < (s1.length : Int))) then
      (ref14_label_p2 s1 i6).bind fun t11 =>
      (if t11 then
        some (.ret false)
      else
        some (.nxt (IntKind.wrap .i64 (i6 + 1))))
    else
      some (.brk ()))
def ref14_label (F : Nat) (s1 : List UInt8) : Option (Bool) :=
  (ref14_label_p1 s1).bind fun t5 =>
  (if t5 then
    some false
  else
    ((iter (ref14_label_l1 s1) F 0).bind fun o14 =>
    match o14 with
    | .inr () =>
      some true
    | .inl r13 =>
      some r13))
theorem ref14_label_p1_ok {s1 : List UInt8} {H : AH}  {K : Exit → Env → AH → Prop} {t4 : Bool}
    (h : ref14_label_p1 s1 = some t4)
    (kn : K .normal [(0, (.str s1)), (23, (.bool t4))] H) :
    AX Tryd.prog L_ref14_label 48 H.length c_ref14_label_p1 K [(0, (.str s1))] H := by
  refine AX.go (m := m_ref14_label_p1) rfl (by decide) fun K' hK => ?_
  rw [ref14_label_p1.eq_1] at h
  try simp only [WW, ↓reduceIte, nA, nB, nC, nD, nE, nF, nG, reduceCtorEq, L_ref14_label, m_ref14_label_p1, c_ref14_label_p1]
  rcases ifb h with ⟨hy1, h⟩ | ⟨hy1, h⟩
  · refine UG_nf hy1 ?_
    try simp only [WW, ↓reduceIte, nA, nB, nC, nD, nE, nF, nG, reduceCtorEq, L_ref14_label, hy1]
    have hq := Option.some.inj h; subst hq
    refine hK _ _ _ _ _ ?_ (WxH.refl _) (kn )
    exact WE.cons (Wx.str) (WE.cons (Wx.bool) (WE.nil))
  · refine UG_go hy1 ?_
    try simp only [WW, ↓reduceIte, nA, nB, nC, nD, nE, nF, nG, reduceCtorEq, L_ref14_label, hy1]
    rcases ifb h with ⟨hy2, h⟩ | ⟨hy2, h⟩
    · refine UG_nf hy2 ?_
      try simp only [WW, ↓reduceIte, nA, nB, nC, nD, nE, nF, nG, reduceCtorEq, L_ref14_label, hy2]
      have hq := Option.some.inj h; subst hq
      refine hK _ _ _ _ _ ?_ (WxH.refl _) (kn )
      exact WE.cons (Wx.str) (WE.cons (Wx.bool) (WE.nil))
    · refine UG_go hy2 ?_
      obtain ⟨x2, hy3, h⟩ := bnd' h
      try simp only [WW, ↓reduceIte, nA, nB, nC, nD, nE, nF, nG, reduceCtorEq, L_ref14_label, hy2, hy3]
      rcases ifb h with ⟨hy4, h⟩ | ⟨hy4, h⟩
      · refine UG_nf hy4 ?_
        try simp only [WW, ↓reduceIte, nA, nB, nC, nD, nE, nF, nG, reduceCtorEq, L_ref14_label, hy4]
        have hq := Option.some.inj h; subst hq
        refine hK _ _ _ _ _ ?_ (WxH.refl _) (kn )
        exact WE.cons (Wx.str) (WE.cons (Wx.bool) (WE.nil))
      · refine UG_go hy4 ?_
        obtain ⟨x3, hy5, h⟩ := bnd' h
        try simp only [WW, ↓reduceIte, nA, nB, nC, nD, nE, nF, nG, reduceCtorEq, L_ref14_label, hy4, hy5]
        have hq := Option.some.inj h; subst hq
        refine hK _ _ _ _ _ ?_ (WxH.refl _) (kn )
        exact WE.cons (Wx.str) (WE.cons (Wx.bool) (WE.nil))
theorem ref14_label_p2_ok {s1 : List UInt8} {i6 : Int} {H : AH}  {K : Exit → Env → AH → Prop} {t10 : Bool}
    (h : ref14_label_p2 s1 i6 = some t10)
    (kn : K .normal [(0, (.str s1)), (3, (.int .i64 i6)), (47, (.bool t10))] H) :
    AX Tryd.prog L_ref14_label 48 H.length c_ref14_label_p2 K [(0, (.str s1)), (3, (.int .i64 i6))] H := by
  refine AX.go (m := m_ref14_label_p2) rfl (by decide) fun K' hK => ?_
  rw [ref14_label_p2.eq_1] at h
  obtain ⟨x7, hy9, h⟩ := bnd' h
  try simp only [WW, ↓reduceIte, nA, nB, nC, nD, nE, nF, nG, reduceCtorEq, L_ref14_label, m_ref14_label_p2, c_ref14_label_p2, hy9]
  obtain ⟨r8, hy10, h⟩ := bnd' h
  refine UK_e (as' := [(b8 x7)]) (h := ref14_letter_ok (c1 := x7)  hy10) (hw := WL.cons (Wx.b8) (WL.nil)) (hh := WxH.refl _) ?_
  try simp only [WW, ↓reduceIte, nA, nB, nC, nD, nE, nF, nG, reduceCtorEq, L_ref14_label]
  rcases ifb h with ⟨hy11, h⟩ | ⟨hy11, h⟩
  · refine UG_go hy11 ?_
    try simp only [WW, ↓reduceIte, nA, nB, nC, nD, nE, nF, nG, reduceCtorEq, L_ref14_label, hy11, hy9]
    obtain ⟨r9, hy12, h⟩ := bnd' h
    refine UK_e (as' := [(b8 x7)]) (h := ref14_digit_ok (c1 := x7)  hy12) (hw := WL.cons (Wx.b8) (WL.nil)) (hh := WxH.refl _) ?_
    try simp only [WW, ↓reduceIte, nA, nB, nC, nD, nE, nF, nG, reduceCtorEq, L_ref14_label]
    rcases ifb h with ⟨hy13, h⟩ | ⟨hy13, h⟩
    · refine UG_go hy13 ?_
      try simp only [WW, ↓reduceIte, nA, nB, nC, nD, nE, nF, nG, reduceCtorEq, L_ref14_label, hy13, hy9]
      have hq := Option.some.inj h; subst hq
      refine hK _ _ _ _ _ ?_ (WxH.refl _) (kn )
      exact WE.cons (Wx.str) (WE.cons (Wx.int) (WE.cons (Wx.bool) (WE.nil)))
    · refine UG_nt hy13 ?_
      try simp only [WW, ↓reduceIte, nA, nB, nC, nD, nE, nF, nG, reduceCtorEq, L_ref14_label, hy13]
      have hq := Option.some.inj h; subst hq
      refine hK _ _ _ _ _ ?_ (WxH.refl _) (kn )
      exact WE.cons (Wx.str) (WE.cons (Wx.int) (WE.cons (Wx.bool) (WE.nil)))
  · refine UG_nt hy11 ?_
    try simp only [WW, ↓reduceIte, nA, nB, nC, nD, nE, nF, nG, reduceCtorEq, L_ref14_label, hy11]
    have hq := Option.some.inj h; subst hq
    refine hK _ _ _ _ _ ?_ (WxH.refl _) (kn )
    exact WE.cons (Wx.str) (WE.cons (Wx.int) (WE.cons (Wx.bool) (WE.nil)))
theorem ref14_label_l1_ok {F : Nat} {i6 : Int} {s1 : List UInt8} {H : AH}  {K : Exit → Env → AH → Prop} {o : (Bool) ⊕ (Unit)}
    (h : iter (ref14_label_l1 s1) F i6 = some o)
    (kb0 : ∀ o' : Unit, o = .inr o' → K (.exit 0) [] H)
    (kr : ∀ o' : Bool, o = .inl o' → K .ret [(2, (.bool o'))] H) :
    AX Tryd.prog L_ref14_label 48 H.length c_ref14_label_l1 K [(0, (.str s1)), (3, (.int .i64 i6))] H := by
  refine AX.iter (m := m_ref14_label_l1b) rfl (by decide) (fun s e H1 => match s with | i6 => e = [(0, (.str s1)), (3, (.int .i64 i6))] ∧ H1 = H) h ⟨rfl, rfl⟩ ?_
  rintro K' i6 st e H ⟨rfl, rfl⟩ h hN hB hR hX
  rw [ref14_label_l1.eq_1] at h
  try simp only [WW, ↓reduceIte, nA, nB, nC, nD, nE, nF, nG, reduceCtorEq, L_ref14_label, m_ref14_label_l1b]
  rcases ifb h with ⟨hy8, h⟩ | ⟨hy8, h⟩
  · refine UC_t hy8 ?_
    try simp only [WW, ↓reduceIte, nA, nB, nC, nD, nE, nF, nG, reduceCtorEq, L_ref14_label]
    obtain ⟨t11, hy14, h⟩ := bnd' h
    refine UX_of (AX.weak ?_ (WxH.refl _) (ref14_label_p2_ok  (s1 := s1) (i6 := i6) (t10 := t11)   hy14 ?_))
    · exact WE.cons (Wx.str) (WE.cons (Wx.int) (WE.nil))
    try simp only [WW, ↓reduceIte, nA, nB, nC, nD, nE, nF, nG, reduceCtorEq, L_ref14_label]
    rcases ifb h with ⟨hy15, h⟩ | ⟨hy15, h⟩
    · refine UC_t hy15 ?_
      try simp only [WW, ↓reduceIte, nA, nB, nC, nD, nE, nF, nG, reduceCtorEq, L_ref14_label]
      have hq := Option.some.inj h; subst hq
      refine hX _ _ _ _ _ (by simp) ?_ (WxH.refl _) (kr _ (hR _ rfl) )
      exact WE.cons (Wx.bool) (WE.nil)
    · refine UC_f hy15 ?_
      try simp only [WW, ↓reduceIte, nA, nB, nC, nD, nE, nF, nG, reduceCtorEq, L_ref14_label]
      have hq := Option.some.inj h; subst hq
      refine hN _ rfl _ _ _ _ ?_ (WxH.refl _) ⟨rfl, rfl⟩
      exact WE.cons (Wx.str) (WE.cons (Wx.int) (WE.nil))
  · refine UC_f hy8 ?_
    try simp only [WW, ↓reduceIte, nA, nB, nC, nD, nE, nF, nG, reduceCtorEq, L_ref14_label]
    have hq := Option.some.inj h; subst hq
    refine hX _ _ _ _ _ (by simp) ?_ (WxH.refl _) (kb0 _ (hB _ rfl) )
    exact WE.nil
theorem ref14_label_ok {F : Nat} {s1 : List UInt8}  {H0 : AH}  {rz0 : Bool} (h : ref14_label F s1 = some rz0) :
    ACalls Tryd.prog 81 [(.str s1)] H0 fun v H' => v = (.bool rz0) ∧ H' = H0 := by
  refine ACalls.goX k_ref14_label (m := m_ref14_label) rfl L_ref14_label (by decide) (by simp) fun hcl K0 hK0 => ?_
  refine AX.of_U (m := m_ref14_label) rfl (by decide) ?_
  rw [ref14_label.eq_1] at h
  try simp only [WW, ↓reduceIte, nA, nB, nC, nD, nE, nF, nG, reduceCtorEq, L_ref14_label, m_ref14_label]
  obtain ⟨t5, hy6, h⟩ := bnd' h
  refine UX_of (AX.weak ?_ (WxH.refl _) (ref14_label_p1_ok  (s1 := s1) (t4 := t5)   hy6 ?_))
  · exact WE.cons (Wx.str) (WE.nil)
  try simp only [WW, ↓reduceIte, nA, nB, nC, nD, nE, nF, nG, reduceCtorEq, L_ref14_label]
  rcases ifb h with ⟨hy7, h⟩ | ⟨hy7, h⟩
  · refine UC_t hy7 ?_
    try simp only [WW, ↓reduceIte, nA, nB, nC, nD, nE, nF, nG, reduceCtorEq, L_ref14_label]
    have hq := Option.some.inj h; subst hq
    refine hK0 _ _ _ (.inr rfl) ?_
    exact fn_endp hcl (resv_tmp (a := (.bool false)) rfl rfl resv_nil) (by first | (simp [fin, b_df, b_sh, b_sh1, b_Cl]; done) | (simp [fin, AV.df, AV.sh, AV.sh1, b_df, b_sh, b_sh1, b_Cl]; done)) (Wx.bool) (r' := (.bool false)) ⟨rfl, rfl⟩
  · refine UC_f hy7 ?_
    try simp only [WW, ↓reduceIte, nA, nB, nC, nD, nE, nF, nG, reduceCtorEq, L_ref14_label]
    obtain ⟨o14, hy16, h⟩ := bnd' h
    refine UX_of (AX.weak ?_ (WxH.refl _) (ref14_label_l1_ok  (s1 := s1) (i6 := 0)   (o := o14) hy16 ?_ ?_))
    · exact WE.cons (Wx.str) (WE.cons (Wx.int) (WE.nil))
    · rintro ⟨⟩ rfl  
      try dsimp only at h 
      try simp only [WW, ↓reduceIte, nA, nB, nC, nD, nE, nF, nG, reduceCtorEq, L_ref14_label]
      have hq := Option.some.inj h; subst hq
      refine hK0 _ _ _ (.inr rfl) ?_
      exact fn_endp hcl (resv_tmp (a := (.bool true)) rfl rfl resv_nil) (by first | (simp [fin, b_df, b_sh, b_sh1, b_Cl]; done) | (simp [fin, AV.df, AV.sh, AV.sh1, b_df, b_sh, b_sh1, b_Cl]; done)) (Wx.bool) (r' := (.bool true)) ⟨rfl, rfl⟩
    · rintro r13 rfl  
      try dsimp only at h 
      try simp only [WW, ↓reduceIte, nA, nB, nC, nD, nE, nF, nG, reduceCtorEq, L_ref14_label]
      have hq := Option.some.inj h; subst hq
      refine hK0 _ _ _ (.inr rfl) ?_
      exact fn_endp hcl (resv_tmp (a := (.bool r13)) rfl rfl resv_nil) (by first | (simp [fin, b_df, b_sh, b_sh1, b_Cl]; done) | (simp [fin, AV.df, AV.sh, AV.sh1, b_df, b_sh, b_sh1, b_Cl]; done)) (Wx.bool) (r' := (.bool r13)) ⟨rfl, rfl⟩

end Go.Proofs.AddrS
