import Derived.Test.YtfnnmecilcnloaaDoorAS3
set_option linter.unusedSimpArgs false
set_option linter.unusedVariables false
set_option linter.unusedSectionVars false
set_option linter.defProp false
set_option maxRecDepth 100000
namespace Go.Proofs.AddrS
open Go Go.Am Go.Proofs
open Nat renaming reduceEqDiff → nA, reduceLT → nB, reduceLeDiff → nC, reduceAdd → nD, reduceSub → nE, reduceMul → nF, reduceBEq → nG
set_option maxHeartbeats 2000000

/-! ### mailbag/mailbagref14.domain -/
def c_ref14_domain_p1 : ACode := (.rg [⟨(some 4), (.mv (.t 3)), none⟩, ⟨(some 5), (.mv (.t 0)), none⟩, ⟨(some 6), (.lens (.t 5)), none⟩, ⟨(some 7), (.bin .lss (.t 4) (.t 6)), none⟩, ⟨(some 8), (.mv (.t 7)), none⟩, ⟨(some 9), (.mv (.t 0)), (some (8, true))⟩, ⟨(some 10), (.mv (.t 3)), (some (8, true))⟩, ⟨(some 11), (.ixs (.t 9) (.t 10)), (some (8, true))⟩, ⟨(some 12), (.call (.c (.fn 103 [])) [(.t 11)]), (some (8, true))⟩, ⟨(some 13), (.mv (.t 12)), (some (8, true))⟩, ⟨(some 14), (.mv (.t 0)), (some (13, false))⟩, ⟨(some 15), (.mv (.t 3)), (some (13, false))⟩, ⟨(some 16), (.ixs (.t 14) (.t 15)), (some (13, false))⟩, ⟨(some 17), (.call (.c (.fn 104 [])) [(.t 16)]), (some (13, false))⟩, ⟨(some 18), (.pick (.t 13) (.c (.bool true)) (.t 17)), (some (8, true))⟩, ⟨(some 19), (.mv (.t 18)), (some (8, true))⟩, ⟨(some 20), (.mv (.t 0)), (some (19, false))⟩, ⟨(some 21), (.mv (.t 3)), (some (19, false))⟩, ⟨(some 22), (.ixs (.t 20) (.t 21)), (some (19, false))⟩, ⟨(some 23), (.bin .eql (.t 22) (.c (b8 45))), (some (19, false))⟩, ⟨(some 24), (.pick (.t 19) (.c (.bool true)) (.t 23)), (some (8, true))⟩, ⟨(some 25), (.mv (.t 24)), (some (8, true))⟩, ⟨(some 26), (.mv (.t 0)), (some (25, false))⟩, ⟨(some 27), (.mv (.t 3)), (some (25, false))⟩, ⟨(some 28), (.ixs (.t 26) (.t 27)), (some (25, false))⟩, ⟨(some 29), (.bin .eql (.t 28) (.c (b8 46))), (some (25, false))⟩, ⟨(some 30), (.pick (.t 25) (.c (.bool true)) (.t 29)), (some (8, true))⟩, ⟨(some 31), (.mv (.t 30)), (some (8, true))⟩, ⟨(some 32), (.mv (.t 0)), (some (31, false))⟩, ⟨(some 33), (.mv (.t 3)), (some (31, false))⟩, ⟨(some 34), (.ixs (.t 32) (.t 33)), (some (31, false))⟩, ⟨(some 35), (.bin .eql (.t 34) (.c (b8 91))), (some (31, false))⟩, ⟨(some 36), (.pick (.t 31) (.c (.bool true)) (.t 35)), (some (8, true))⟩, ⟨(some 37), (.mv (.t 36)), (some (8, true))⟩, ⟨(some 38), (.mv (.t 0)), (some (37, false))⟩, ⟨(some 39), (.mv (.t 3)), (some (37, false))⟩, ⟨(some 40), (.ixs (.t 38) (.t 39)), (some (37, false))⟩, ⟨(some 41), (.bin .eql (.t 40) (.c (b8 93))), (some (37, false))⟩, ⟨(some 42), (.pick (.t 37) (.c (.bool true)) (.t 41)), (some (8, true))⟩, ⟨(some 43), (.pick (.t 8) (.t 42) (.c (.bool false))), none⟩])
abbrev m_ref14_domain_p1 := c_ref14_domain_p1
def c_ref14_domain_l1b : ACode := (.seq (.seq c_ref14_domain_p1 (.cond (.t 43) .skip (.exit 0))) (.blk 1 (.rg [⟨(some 44), (.mv (.t 3)), none⟩, ⟨(some 45), (.bin .add (.t 44) (.c (.int .i64 1))), none⟩, ⟨(some 3), (.asg (.t 45)), none⟩])))
def c_ref14_domain_l1 : ACode := (.loop c_ref14_domain_l1b)
def m_ref14_domain_l1b : ACode := (.seq (.seq (.sem c_ref14_domain_p1) (.cond (.t 43) .skip (.exit 0))) (.blk 1 (.rg [⟨(some 44), (.mv (.t 3)), none⟩, ⟨(some 45), (.bin .add (.t 44) (.c (.int .i64 1))), none⟩, ⟨(some 3), (.asg (.t 45)), none⟩])))
def c_ref14_domain : ACode := (.seq (.rg [⟨(some 2), (.asg (.c (.int .i64 0))), none⟩]) (.seq (.rg [⟨(some 3), (.asg (.c (.int .i64 0))), none⟩]) (.seq (.blk 0 c_ref14_domain_l1) (.seq (.rg [⟨(some 46), (.mv (.t 3)), none⟩, ⟨(some 2), (.asg (.t 46)), none⟩]) .ret))))
abbrev m_ref14_domain := c_ref14_domain
theorem k_ref14_domain : FnOk Tryd.prog 74 47 [(.tmp 2)] c_ref14_domain := ⟨Tryd.f74, _, rfl, by decide, rfl, by kernel_rfl, rfl, rfl⟩
abbrev L_ref14_domain : List Nat := [0, 2, 3, 43]
def ref14_domain_p1 (nn2 : Int) (s1 : List UInt8) : Option (Bool) :=
  (if (decide (nn2 < (s1.length : Int))) then
    (idx s1 nn2).bind fun x3 =>
    (ref14_letter x3).bind fun r4 =>
    (if r4 then
      some true
    else
      (ref14_digit x3).bind fun r5 =>
      (if r5 then
        some true
      else
        (if (decide (x3 = 45)) then
          some true
        else
          (if (decide (x3 = 46)) then
            some true
          else
            (if (decide (x3 = 91)) then
              some true
            else
              some (decide (x3 = 93)))))))
  else
    some false)
def ref14_domain_l1 (s1 : List UInt8) : Int → Option (St Int Int Int)
  | nn2 =>
    (ref14_domain_p1 nn2 s1).bind fun t7 =>
    (if t7 then
      some (.nxt (IntKind.wrap .i64 (nn2 + 1)))
    else
      some (.brk nn2))
def ref14_domain (F : Nat) (s1 : List UInt8) : Option (Int) :=
  ((iter (ref14_domain_l1 s1) F 0).bind fun o10 =>
  match o10 with
  | .inr nn9 =>
    some nn9
  | .inl _ => none)
theorem ref14_domain_p1_ok {nn2 : Int} {s1 : List UInt8} {H : AH}  {K : Exit → Env → AH → Prop} {t6 : Bool}
    (h : ref14_domain_p1 nn2 s1 = some t6)
    (kn : K .normal [(0, (.str s1)), (3, (.int .i64 nn2)), (43, (.bool t6))] H) :
    AX Tryd.prog L_ref14_domain 47 H.length c_ref14_domain_p1 K [(0, (.str s1)), (3, (.int .i64 nn2))] H := by
  refine AX.go (m := m_ref14_domain_p1) rfl (by decide) fun K' hK => ?_
  rw [ref14_domain_p1.eq_1] at h
  try simp only [WW, ↓reduceIte, nA, nB, nC, nD, nE, nF, nG, reduceCtorEq, L_ref14_domain, m_ref14_domain_p1, c_ref14_domain_p1]
  rcases ifb h with ⟨hy1, h⟩ | ⟨hy1, h⟩
  · refine UG_go hy1 ?_
    obtain ⟨x3, hy2, h⟩ := bnd' h
    try simp only [WW, ↓reduceIte, nA, nB, nC, nD, nE, nF, nG, reduceCtorEq, L_ref14_domain, hy1, hy2]
    obtain ⟨r4, hy3, h⟩ := bnd' h
    refine UK_e (as' := [(b8 x3)]) (h := ref14_letter_ok (c1 := x3)  hy3) (hw := WL.cons (Wx.b8) (WL.nil)) (hh := WxH.refl _) ?_
    try simp only [WW, ↓reduceIte, nA, nB, nC, nD, nE, nF, nG, reduceCtorEq, L_ref14_domain]
    rcases ifb h with ⟨hy4, h⟩ | ⟨hy4, h⟩
    · refine UG_nf hy4 ?_
      try simp only [WW, ↓reduceIte, nA, nB, nC, nD, nE, nF, nG, reduceCtorEq, L_ref14_domain, hy4]
      have hq := Option.some.inj h; subst hq
      refine hK _ _ _ _ _ ?_ (WxH.refl _) (kn )
      exact WE.cons (Wx.str) (WE.cons (Wx.int) (WE.cons (Wx.bool) (WE.nil)))
    · refine UG_go hy4 ?_
      try simp only [WW, ↓reduceIte, nA, nB, nC, nD, nE, nF, nG, reduceCtorEq, L_ref14_domain, hy4, hy2]
      obtain ⟨r5, hy5, h⟩ := bnd' h
      refine UK_e (as' := [(b8 x3)]) (h := ref14_digit_ok (c1 := x3)  hy5) (hw := WL.cons (Wx.b8) (WL.nil)) (hh := WxH.refl _) ?_
      try simp only [WW, ↓reduceIte, nA, nB, nC, nD, nE, nF, nG, reduceCtorEq, L_ref14_domain]
      rcases ifb h with ⟨hy6, h⟩ | ⟨hy6, h⟩
      · refine UG_nf hy6 ?_
        try simp only [WW, ↓reduceIte, nA, nB, nC, nD, nE, nF, nG, reduceCtorEq, L_ref14_domain, hy6]
        have hq := Option.some.inj h; subst hq
        refine hK _ _ _ _ _ ?_ (WxH.refl _) (kn )
        exact WE.cons (Wx.str) (WE.cons (Wx.int) (WE.cons (Wx.bool) (WE.nil)))
      · refine UG_go hy6 ?_
        try simp only [WW, ↓reduceIte, nA, nB, nC, nD, nE, nF, nG, reduceCtorEq, L_ref14_domain, hy6, hy2]
        rcases ifb h with ⟨hy7, h⟩ | ⟨hy7, h⟩
        · refine UG_nf hy7 ?_
          try simp only [WW, ↓reduceIte, nA, nB, nC, nD, nE, nF, nG, reduceCtorEq, L_ref14_domain, hy7]
          have hq := Option.some.inj h; subst hq
          refine hK _ _ _ _ _ ?_ (WxH.refl _) (kn )
          exact WE.cons (Wx.str) (WE.cons (Wx.int) (WE.cons (Wx.bool) (WE.nil)))
        · refine UG_go hy7 ?_
          try simp only [WW, ↓reduceIte, nA, nB, nC, nD, nE, nF, nG, reduceCtorEq, L_ref14_domain, hy7, hy2]
          rcases ifb h with ⟨hy8, h⟩ | ⟨hy8, h⟩
          · refine UG_nf hy8 ?_
            try simp only [WW, ↓reduceIte, nA, nB, nC, nD, nE, nF, nG, reduceCtorEq, L_ref14_domain, hy8]
            have hq := Option.some.inj h; subst hq
            refine hK _ _ _ _ _ ?_ (WxH.refl _) (kn )
            exact WE.cons (Wx.str) (WE.cons (Wx.int) (WE.cons (Wx.bool) (WE.nil)))
          · refine UG_go hy8 ?_
            try simp only [WW, ↓reduceIte, nA, nB, nC, nD, nE, nF, nG, reduceCtorEq, L_ref14_domain, hy8, hy2]
            rcases ifb h with ⟨hy9, h⟩ | ⟨hy9, h⟩
            · refine UG_nf hy9 ?_
              try simp only [WW, ↓reduceIte, nA, nB, nC, nD, nE, nF, nG, reduceCtorEq, L_ref14_domain, hy9]
              have hq := Option.some.inj h; subst hq
              refine hK _ _ _ _ _ ?_ (WxH.refl _) (kn )
              exact WE.cons (Wx.str) (WE.cons (Wx.int) (WE.cons (Wx.bool) (WE.nil)))
            · refine UG_go hy9 ?_
              try simp only [WW, ↓reduceIte, nA, nB, nC, nD, nE, nF, nG, reduceCtorEq, L_ref14_domain, hy9, hy2]
              have hq := Option.some.inj h; subst hq
              refine hK _ _ _ _ _ ?_ (WxH.refl _) (kn )
              exact WE.cons (Wx.str) (WE.cons (Wx.int) (WE.cons (Wx.bool) (WE.nil)))
  · refine UG_nt hy1 ?_
    try simp only [WW, ↓reduceIte, nA, nB, nC, nD, nE, nF, nG, reduceCtorEq, L_ref14_domain, hy1]
    have hq := Option.some.inj h; subst hq
    refine hK _ _ _ _ _ ?_ (WxH.refl _) (kn )
    exact WE.cons (Wx.str) (WE.cons (Wx.int) (WE.cons (Wx.bool) (WE.nil)))
theorem ref14_domain_l1_ok {F : Nat} {nn2 : Int} {s1 : List UInt8} {H : AH}  {K : Exit → Env → AH → Prop} {o : (Int) ⊕ (Int)}
    (h : iter (ref14_domain_l1 s1) F nn2 = some o)
    (kb0 : ∀ o' : Int, o = .inr o' → K (.exit 0) [(3, (.int .i64 o'))] H) :
    AX Tryd.prog L_ref14_domain 47 H.length c_ref14_domain_l1 K [(0, (.str s1)), (3, (.int .i64 nn2))] H := by
  refine AX.iter (m := m_ref14_domain_l1b) rfl (by decide) (fun s e H1 => match s with | nn2 => e = [(0, (.str s1)), (3, (.int .i64 nn2))] ∧ H1 = H) h ⟨rfl, rfl⟩ ?_
  rintro K' nn2 st e H ⟨rfl, rfl⟩ h hN hB hR hX
  rw [ref14_domain_l1.eq_1] at h
  try simp only [WW, ↓reduceIte, nA, nB, nC, nD, nE, nF, nG, reduceCtorEq, L_ref14_domain, m_ref14_domain_l1b]
  obtain ⟨t7, hy10, h⟩ := bnd' h
  refine UX_of (AX.weak ?_ (WxH.refl _) (ref14_domain_p1_ok  (nn2 := nn2) (s1 := s1) (t6 := t7)   hy10 ?_))
  · exact WE.cons (Wx.str) (WE.cons (Wx.int) (WE.nil))
  try simp only [WW, ↓reduceIte, nA, nB, nC, nD, nE, nF, nG, reduceCtorEq, L_ref14_domain]
  rcases ifb h with ⟨hy11, h⟩ | ⟨hy11, h⟩
  · refine UC_t hy11 ?_
    try simp only [WW, ↓reduceIte, nA, nB, nC, nD, nE, nF, nG, reduceCtorEq, L_ref14_domain]
    have hq := Option.some.inj h; subst hq
    refine hN _ rfl _ _ _ _ ?_ (WxH.refl _) ⟨rfl, rfl⟩
    exact WE.cons (Wx.str) (WE.cons (Wx.int) (WE.nil))
  · refine UC_f hy11 ?_
    try simp only [WW, ↓reduceIte, nA, nB, nC, nD, nE, nF, nG, reduceCtorEq, L_ref14_domain]
    have hq := Option.some.inj h; subst hq
    refine hX _ _ _ _ _ (by simp) ?_ (WxH.refl _) (kb0 _ (hB _ rfl) )
    exact WE.cons (Wx.int) (WE.nil)
theorem ref14_domain_ok {F : Nat} {s1 : List UInt8}  {H0 : AH}  {rz0 : Int} (h : ref14_domain F s1 = some rz0) :
    ACalls Tryd.prog 74 [(.str s1)] H0 fun v H' => v = (.int .i64 rz0) ∧ H' = H0 := by
  refine ACalls.goX k_ref14_domain (m := m_ref14_domain) rfl L_ref14_domain (by decide) (by simp) fun hcl K0 hK0 => ?_
  refine AX.of_U (m := m_ref14_domain) rfl (by decide) ?_
  rw [ref14_domain.eq_1] at h
  try simp only [WW, ↓reduceIte, nA, nB, nC, nD, nE, nF, nG, reduceCtorEq, L_ref14_domain, m_ref14_domain, c_ref14_domain]
  obtain ⟨o10, hy12, h⟩ := bnd' h
  refine UX_of (AX.weak ?_ (WxH.refl _) (ref14_domain_l1_ok  (s1 := s1) (nn2 := 0)   (o := o10) hy12 ?_))
  · exact WE.cons (Wx.str) (WE.cons (Wx.int) (WE.nil))
  · rintro nn9 rfl  
    try dsimp only at h 
    try simp only [WW, ↓reduceIte, nA, nB, nC, nD, nE, nF, nG, reduceCtorEq, L_ref14_domain]
    have hq := Option.some.inj h; subst hq
    refine hK0 _ _ _ (.inr rfl) ?_
    exact fn_endp hcl (resv_tmp (a := (.int .i64 nn9)) rfl rfl resv_nil) (by first | (simp [fin, b_df, b_sh, b_sh1, b_Cl]; done) | (simp [fin, AV.df, AV.sh, AV.sh1, b_df, b_sh, b_sh1, b_Cl]; done)) (Wx.int) (r' := (.int .i64 nn9)) ⟨rfl, rfl⟩

/-! ### mailbag/mailbagref14.shape -/
def c_ref14_shape_p1 : ACode := (.rg [⟨(some 9), (.mv (.t 0)), none⟩, ⟨(some 10), (.bin .eql (.t 9) (.c (.str []))), none⟩, ⟨(some 11), (.mv (.t 10)), none⟩, ⟨(some 12), (.mv (.t 0)), (some (11, false))⟩, ⟨(some 13), (.ixs (.t 12) (.c (.int .i64 0))), (some (11, false))⟩, ⟨(some 14), (.bin .eql (.t 13) (.c (b8 91))), (some (11, false))⟩, ⟨(some 15), (.pick (.t 11) (.c (.bool true)) (.t 14)), none⟩])
abbrev m_ref14_shape_p1 := c_ref14_shape_p1
def c_ref14_shape_p2 : ACode := (.rg [⟨(some 22), (.mv (.t 4)), none⟩, ⟨(some 23), (.mv (.t 0)), none⟩, ⟨(some 24), (.lens (.t 23)), none⟩, ⟨(some 25), (.bin .lss (.t 22) (.t 24)), none⟩, ⟨(some 26), (.mv (.t 25)), none⟩, ⟨(some 27), (.mv (.t 0)), (some (26, true))⟩, ⟨(some 28), (.mv (.t 4)), (some (26, true))⟩, ⟨(some 29), (.ixs (.t 27) (.t 28)), (some (26, true))⟩, ⟨(some 30), (.bin .neq (.t 29) (.c (b8 46))), (some (26, true))⟩, ⟨(some 31), (.pick (.t 26) (.t 30) (.c (.bool false))), none⟩])
abbrev m_ref14_shape_p2 := c_ref14_shape_p2
def c_ref14_shape_p3 : ACode := (.rg [⟨(some 36), (.mv (.t 5)), none⟩, ⟨(some 37), (.bin .eql (.t 36) (.c (.str []))), none⟩, ⟨(some 38), (.mv (.t 37)), none⟩, ⟨(some 39), (.mv (.t 5)), (some (38, false))⟩, ⟨(some 40), (.ixs (.t 39) (.c (.int .i64 0))), (some (38, false))⟩, ⟨(some 41), (.bin .eql (.t 40) (.c (b8 45))), (some (38, false))⟩, ⟨(some 42), (.pick (.t 38) (.c (.bool true)) (.t 41)), none⟩, ⟨(some 43), (.mv (.t 42)), none⟩, ⟨(some 44), (.mv (.t 5)), (some (43, false))⟩, ⟨(some 45), (.mv (.t 5)), (some (43, false))⟩, ⟨(some 46), (.lens (.t 45)), (some (43, false))⟩, ⟨(some 47), (.bin .sub (.t 46) (.c (.int .i64 1))), (some (43, false))⟩, ⟨(some 48), (.ixs (.t 44) (.t 47)), (some (43, false))⟩, ⟨(some 49), (.bin .eql (.t 48) (.c (b8 45))), (some (43, false))⟩, ⟨(some 50), (.pick (.t 43) (.c (.bool true)) (.t 49)), none⟩])
abbrev m_ref14_shape_p3 := c_ref14_shape_p3
def c_ref14_shape_p4 : ACode := (.rg [⟨(some 57), (.mv (.t 5)), none⟩, ⟨(some 58), (.mv (.t 6)), none⟩, ⟨(some 59), (.ixs (.t 57) (.t 58)), none⟩, ⟨(some 60), (.call (.c (.fn 103 [])) [(.t 59)]), none⟩, ⟨(some 61), (.un .not (.t 60)), none⟩, ⟨(some 62), (.mv (.t 61)), none⟩, ⟨(some 63), (.mv (.t 5)), (some (62, true))⟩, ⟨(some 64), (.mv (.t 6)), (some (62, true))⟩, ⟨(some 65), (.ixs (.t 63) (.t 64)), (some (62, true))⟩, ⟨(some 66), (.call (.c (.fn 104 [])) [(.t 65)]), (some (62, true))⟩, ⟨(some 67), (.un .not (.t 66)), (some (62, true))⟩, ⟨(some 68), (.pick (.t 62) (.t 67) (.c (.bool false))), none⟩, ⟨(some 69), (.mv (.t 68)), none⟩, ⟨(some 70), (.mv (.t 5)), (some (69, true))⟩, ⟨(some 71), (.mv (.t 6)), (some (69, true))⟩, ⟨(some 72), (.ixs (.t 70) (.t 71)), (some (69, true))⟩, ⟨(some 73), (.bin .neq (.t 72) (.c (b8 45))), (some (69, true))⟩, ⟨(some 74), (.pick (.t 69) (.t 73) (.c (.bool false))), none⟩])
abbrev m_ref14_shape_p4 := c_ref14_shape_p4
def c_ref14_shape_l1b : ACode := (.seq (.seq (.rg [⟨(some 51), (.mv (.t 6)), none⟩, ⟨(some 52), (.mv (.t 5)), none⟩, ⟨(some 53), (.lens (.t 52)), none⟩, ⟨(some 54), (.bin .lss (.t 51) (.t 53)), none⟩]) (.cond (.t 54) .skip (.exit 2))) (.seq (.blk 3 (.seq c_ref14_shape_p4 (.cond (.t 74) (.seq (.rg [⟨(some 2), (.asg (.c (.bool false))), none⟩]) .ret) .skip))) (.rg [⟨(some 55), (.mv (.t 6)), none⟩, ⟨(some 56), (.bin .add (.t 55) (.c (.int .i64 1))), none⟩, ⟨(some 6), (.asg (.t 56)), none⟩])))
def c_ref14_shape_l1 : ACode := (.loop c_ref14_shape_l1b)
def m_ref14_shape_l1b : ACode := (.seq (.seq (.rg [⟨(some 51), (.mv (.t 6)), none⟩, ⟨(some 52), (.mv (.t 5)), none⟩, ⟨(some 53), (.lens (.t 52)), none⟩, ⟨(some 54), (.bin .lss (.t 51) (.t 53)), none⟩]) (.cond (.t 54) .skip (.exit 2))) (.seq (.blk 3 (.seq (.sem c_ref14_shape_p4) (.cond (.t 74) (.seq (.rg [⟨(some 2), (.asg (.c (.bool false))), none⟩]) .ret) .skip))) (.rg [⟨(some 55), (.mv (.t 6)), none⟩, ⟨(some 56), (.bin .add (.t 55) (.c (.int .i64 1))), none⟩, ⟨(some 6), (.asg (.t 56)), none⟩])))
def c_ref14_shape_l2b : ACode := (.seq (.seq (.rg [⟨(some 16), (.mv (.t 4)), none⟩, ⟨(some 17), (.mv (.t 0)), none⟩, ⟨(some 18), (.lens (.t 17)), none⟩, ⟨(some 19), (.bin .leq (.t 16) (.t 18)), none⟩]) (.cond (.t 19) .skip (.exit 0))) (.seq (.blk 1 (.seq (.seq c_ref14_shape_p2 (.cond (.t 31) (.exit 1) .skip)) (.seq (.rg [⟨(some 32), (.mv (.t 0)), none⟩, ⟨(some 33), (.mv (.t 3)), none⟩, ⟨(some 34), (.mv (.t 4)), none⟩, ⟨(some 35), (.sls (.t 32) (some (.t 33)) (some (.t 34))), none⟩, ⟨(some 5), (.asg (.t 35)), none⟩]) (.seq (.seq c_ref14_shape_p3 (.cond (.t 50) (.seq (.rg [⟨(some 2), (.asg (.c (.bool false))), none⟩]) .ret) .skip)) (.seq (.seq (.rg [⟨(some 6), (.asg (.c (.int .i64 0))), none⟩]) (.blk 2 c_ref14_shape_l1)) (.rg [⟨(some 75), (.mv (.t 4)), none⟩, ⟨(some 76), (.bin .add (.t 75) (.c (.int .i64 1))), none⟩, ⟨(some 3), (.asg (.t 76)), none⟩])))))) (.rg [⟨(some 20), (.mv (.t 4)), none⟩, ⟨(some 21), (.bin .add (.t 20) (.c (.int .i64 1))), none⟩, ⟨(some 4), (.asg (.t 21)), none⟩])))
def c_ref14_shape_l2 : ACode := (.loop c_ref14_shape_l2b)
def m_ref14_shape_l2b : ACode := (.seq (.seq (.rg [⟨(some 16), (.mv (.t 4)), none⟩, ⟨(some 17), (.mv (.t 0)), none⟩, ⟨(some 18), (.lens (.t 17)), none⟩, ⟨(some 19), (.bin .leq (.t 16) (.t 18)), none⟩]) (.cond (.t 19) .skip (.exit 0))) (.seq (.blk 1 (.seq (.seq (.sem c_ref14_shape_p2) (.cond (.t 31) (.exit 1) .skip)) (.seq (.rg [⟨(some 32), (.mv (.t 0)), none⟩, ⟨(some 33), (.mv (.t 3)), none⟩, ⟨(some 34), (.mv (.t 4)), none⟩, ⟨(some 35), (.sls (.t 32) (some (.t 33)) (some (.t 34))), none⟩, ⟨(some 5), (.asg (.t 35)), none⟩]) (.seq (.seq (.sem c_ref14_shape_p3) (.cond (.t 50) (.seq (.rg [⟨(some 2), (.asg (.c (.bool false))), none⟩]) .ret) .skip)) (.seq (.seq (.rg [⟨(some 6), (.asg (.c (.int .i64 0))), none⟩]) (.blk 2 c_ref14_shape_l1)) (.rg [⟨(some 75), (.mv (.t 4)), none⟩, ⟨(some 76), (.bin .add (.t 75) (.c (.int .i64 1))), none⟩, ⟨(some 3), (.asg (.t 76)), none⟩])))))) (.rg [⟨(some 20), (.mv (.t 4)), none⟩, ⟨(some 21), (.bin .add (.t 20) (.c (.int .i64 1))), none⟩, ⟨(some 4), (.asg (.t 21)), none⟩])))
def c_ref14_shape : ACode := (.seq (.rg [⟨(some 2), (.asg (.c (.bool false))), none⟩]) (.seq (.seq (.rg [⟨(some 7), (.mv (.t 0)), none⟩, ⟨(some 8), (.call (.c (.fn 38 [])) [(.t 7)]), none⟩]) (.cond (.t 8) (.seq (.rg [⟨(some 2), (.asg (.c (.bool true))), none⟩]) .ret) .skip)) (.seq (.seq c_ref14_shape_p1 (.cond (.t 15) (.seq (.rg [⟨(some 2), (.asg (.c (.bool false))), none⟩]) .ret) .skip)) (.seq (.rg [⟨(some 3), (.asg (.c (.int .i64 0))), none⟩]) (.seq (.seq (.rg [⟨(some 4), (.asg (.c (.int .i64 0))), none⟩]) (.blk 0 c_ref14_shape_l2)) (.seq (.rg [⟨(some 2), (.asg (.c (.bool true))), none⟩]) .ret))))))
def m_ref14_shape : ACode := (.seq (.rg [⟨(some 2), (.asg (.c (.bool false))), none⟩]) (.seq (.seq (.rg [⟨(some 7), (.mv (.t 0)), none⟩, ⟨(some 8), (.call (.c (.fn 38 [])) [(.t 7)]), none⟩]) (.cond (.t 8) (.seq (.rg [⟨(some 2), (.asg (.c (.bool true))), none⟩]) .ret) .skip)) (.seq (.seq (.sem c_ref14_shape_p1) (.cond (.t 15) (.seq (.rg [⟨(some 2), (.asg (.c (.bool false))), none⟩]) .ret) .skip)) (.seq (.rg [⟨(some 3), (.asg (.c (.int .i64 0))), none⟩]) (.seq (.seq (.rg [⟨(some 4), (.asg (.c (.int .i64 0))), none⟩]) (.blk 0 c_ref14_shape_l2)) (.seq (.rg [⟨(some 2), (.asg (.c (.bool true))), none⟩]) .ret))))))
theorem k_ref14_shape : FnOk Tryd.prog 75 77 [(.tmp 2)] c_ref14_shape := ⟨Tryd.f75, _, rfl, by decide, rfl, by kernel_rfl, rfl, rfl⟩
abbrev L_ref14_shape : List Nat := [0, 2, 3, 4, 5, 6, 8, 15, 19, 31, 50, 54, 74]
def ref14_shape_p1 (s1 : List UInt8) : Option (Bool) :=
  (if (decide (s1 = ([] : List UInt8))) then
    some true
  else
    (idx s1 0).bind fun x3 => some (decide (x3 = 91)))
def ref14_shape_p2 (i7 : Int) (s1 : List UInt8) : Option (Bool) :=
  (if (decide (i7 < (s1.length : Int))) then
    (idx s1 i7).bind fun x8 => some (!decide (x8 = 46))
  else
    some false)
def ref14_shape_p3 (x11 : List UInt8) : Option (Bool) :=
  (if (decide (x11 = ([] : List UInt8))) then
    some true
  else
    (idx x11 0).bind fun x12 =>
    (if (decide (x12 = 45)) then
      some true
    else
      (idx x11 (IntKind.wrap .i64 ((x11.length : Int) - 1))).bind fun x13 => some (decide (x13 = 45))))
def ref14_shape_p4 (x11 : List UInt8) (kk16 : Int) : Option (Bool) :=
  (idx x11 kk16).bind fun x17 =>
  (ref14_letter x17).bind fun r18 =>
  (if (!r18) then
    (ref14_digit x17).bind fun r19 =>
    (if (!r19) then
      some (!decide (x17 = 45))
    else
      some false)
  else
    some false)
def ref14_shape_l1 (x11 : List UInt8) : Int → Option (St Bool Unit Int)
  | kk16 =>
    (if (decide (kk16 < (x11.length : Int))) then
      (ref14_shape_p4 x11 kk16).bind fun t21 =>
      (if t21 then
        some (.ret false)
      else
        some (.nxt (IntKind.wrap .i64 (kk16 + 1))))
    else
      some (.brk ()))
def ref14_shape_l2 (F : Nat) (s1 : List UInt8) : (Int × Int) → Option (St Bool Unit (Int × Int))
  | (at6, i7) =>
    (if (decide (i7 ≤ (s1.length : Int))) then
      (ref14_shape_p2 i7 s1).bind fun t10 =>
      (if t10 then
        some (.nxt (at6, (IntKind.wrap .i64 (i7 + 1))))
      else
        (sub s1 at6 i7).bind fun x11 =>
        (ref14_shape_p3 x11).bind fun t15 =>
        (if t15 then
          some (.ret false)
        else
          ((iter (ref14_shape_l1 x11) F 0).bind fun o24 =>
          match o24 with
          | .inr () =>
            some (.nxt ((IntKind.wrap .i64 (i7 + 1)), (IntKind.wrap .i64 (i7 + 1))))
          | .inl r23 =>
            some (.ret r23))))
    else
      some (.brk ()))
def ref14_shape (F : Nat) (s1 : List UInt8) : Option (Bool) :=
  (ref14_Domain F s1).bind fun r2 =>
  (if r2 then
    some true
  else
    (ref14_shape_p1 s1).bind fun t5 =>
    (if t5 then
      some false
    else
      ((iter (ref14_shape_l2 F s1) F (0, 0)).bind fun o27 =>
      match o27 with
      | .inr () =>
        some true
      | .inl r26 =>
        some r26)))
theorem ref14_shape_p1_ok {s1 : List UInt8} {H : AH}  {K : Exit → Env → AH → Prop} {t4 : Bool}
    (h : ref14_shape_p1 s1 = some t4)
    (kn : K .normal [(0, (.str s1)), (15, (.bool t4))] H) :
    AX Tryd.prog L_ref14_shape 77 H.length c_ref14_shape_p1 K [(0, (.str s1))] H := by
  refine AX.go (m := m_ref14_shape_p1) rfl (by decide) fun K' hK => ?_
  rw [ref14_shape_p1.eq_1] at h
  try simp only [WW, ↓reduceIte, nA, nB, nC, nD, nE, nF, nG, reduceCtorEq, L_ref14_shape, m_ref14_shape_p1, c_ref14_shape_p1]
  rcases ifb h with ⟨hy3, h⟩ | ⟨hy3, h⟩
  · refine UG_nf hy3 ?_
    try simp only [WW, ↓reduceIte, nA, nB, nC, nD, nE, nF, nG, reduceCtorEq, L_ref14_shape, hy3]
    have hq := Option.some.inj h; subst hq
    refine hK _ _ _ _ _ ?_ (WxH.refl _) (kn )
    exact WE.cons (Wx.str) (WE.cons (Wx.bool) (WE.nil))
  · refine UG_go hy3 ?_
    obtain ⟨x3, hy4, h⟩ := bnd' h
    try simp only [WW, ↓reduceIte, nA, nB, nC, nD, nE, nF, nG, reduceCtorEq, L_ref14_shape, hy3, hy4]
    have hq := Option.some.inj h; subst hq
    refine hK _ _ _ _ _ ?_ (WxH.refl _) (kn )
    exact WE.cons (Wx.str) (WE.cons (Wx.bool) (WE.nil))
theorem ref14_shape_p2_ok {i7 : Int} {s1 : List UInt8} {at6 : Int} {H : AH}  {K : Exit → Env → AH → Prop} {t9 : Bool}
    (h : ref14_shape_p2 i7 s1 = some t9)
    (kn : K .normal [(0, (.str s1)), (3, (.int .i64 at6)), (4, (.int .i64 i7)), (31, (.bool t9))] H) :
    AX Tryd.prog L_ref14_shape 77 H.length c_ref14_shape_p2 K [(0, (.str s1)), (3, (.int .i64 at6)), (4, (.int .i64 i7))] H := by
  refine AX.go (m := m_ref14_shape_p2) rfl (by decide) fun K' hK => ?_
  rw [ref14_shape_p2.eq_1] at h
  try simp only [WW, ↓reduceIte, nA, nB, nC, nD, nE, nF, nG, reduceCtorEq, L_ref14_shape, m_ref14_shape_p2, c_ref14_shape_p2]
  rcases ifb h with ⟨hy8, h⟩ | ⟨hy8, h⟩
  · refine UG_go hy8 ?_
    obtain ⟨x8, hy9, h⟩ := bnd' h
    try simp only [WW, ↓reduceIte, nA, nB, nC, nD, nE, nF, nG, reduceCtorEq, L_ref14_shape, hy8, hy9]
    have hq := Option.some.inj h; subst hq
    refine hK _ _ _ _ _ ?_ (WxH.refl _) (kn )
    exact WE.cons (Wx.str) (WE.cons (Wx.int) (WE.cons (Wx.int) (WE.cons (Wx.bool) (WE.nil))))
  · refine UG_nt hy8 ?_
    try simp only [WW, ↓reduceIte, nA, nB, nC, nD, nE, nF, nG, reduceCtorEq, L_ref14_shape, hy8]
    have hq := Option.some.inj h; subst hq
    refine hK _ _ _ _ _ ?_ (WxH.refl _) (kn )
    exact WE.cons (Wx.str) (WE.cons (Wx.int) (WE.cons (Wx.int) (WE.cons (Wx.bool) (WE.nil))))
theorem ref14_shape_p3_ok {x11 : List UInt8} {s1 : List UInt8} {i7 : Int} {H : AH}  {K : Exit → Env → AH → Prop} {t14 : Bool}
    (h : ref14_shape_p3 x11 = some t14)
    (kn : K .normal [(0, (.str s1)), (4, (.int .i64 i7)), (5, (.str x11)), (50, (.bool t14))] H) :
    AX Tryd.prog L_ref14_shape 77 H.length c_ref14_shape_p3 K [(0, (.str s1)), (4, (.int .i64 i7)), (5, (.str x11))] H := by
  refine AX.go (m := m_ref14_shape_p3) rfl (by decide) fun K' hK => ?_
  rw [ref14_shape_p3.eq_1] at h
  try simp only [WW, ↓reduceIte, nA, nB, nC, nD, nE, nF, nG, reduceCtorEq, L_ref14_shape, m_ref14_shape_p3, c_ref14_shape_p3]
  rcases ifb h with ⟨hy13, h⟩ | ⟨hy13, h⟩
  · refine UG_nf hy13 ?_
    try simp only [WW, ↓reduceIte, nA, nB, nC, nD, nE, nF, nG, reduceCtorEq, L_ref14_shape, hy13]
    have hq := Option.some.inj h; subst hq
    refine hK _ _ _ _ _ ?_ (WxH.refl _) (kn )
    exact WE.cons (Wx.str) (WE.cons (Wx.int) (WE.cons (Wx.str) (WE.cons (Wx.bool) (WE.nil))))
  · refine UG_go hy13 ?_
    obtain ⟨x12, hy14, h⟩ := bnd' h
    try simp only [WW, ↓reduceIte, nA, nB, nC, nD, nE, nF, nG, reduceCtorEq, L_ref14_shape, hy13, hy14]
    rcases ifb h with ⟨hy15, h⟩ | ⟨hy15, h⟩
    · refine UG_nf hy15 ?_
      try simp only [WW, ↓reduceIte, nA, nB, nC, nD, nE, nF, nG, reduceCtorEq, L_ref14_shape, hy15]
      have hq := Option.some.inj h; subst hq
      refine hK _ _ _ _ _ ?_ (WxH.refl _) (kn )
      exact WE.cons (Wx.str) (WE.cons (Wx.int) (WE.cons (Wx.str) (WE.cons (Wx.bool) (WE.nil))))
    · refine UG_go hy15 ?_
      obtain ⟨x13, hy16, h⟩ := bnd' h
      try simp only [WW, ↓reduceIte, nA, nB, nC, nD, nE, nF, nG, reduceCtorEq, L_ref14_shape, hy15, hy16]
      have hq := Option.some.inj h; subst hq
      refine hK _ _ _ _ _ ?_ (WxH.refl _) (kn )
      exact WE.cons (Wx.str) (WE.cons (Wx.int) (WE.cons (Wx.str) (WE.cons (Wx.bool) (WE.nil))))
theorem ref14_shape_p4_ok {x11 : List UInt8} {kk16 : Int} {s1 : List UInt8} {i7 : Int} {H : AH}  {K : Exit → Env → AH → Prop} {t20 : Bool}
    (h : ref14_shape_p4 x11 kk16 = some t20)
    (kn : K .normal [(0, (.str s1)), (4, (.int .i64 i7)), (5, (.str x11)), (6, (.int .i64 kk16)), (74, (.bool t20))] H) :
    AX Tryd.prog L_ref14_shape 77 H.length c_ref14_shape_p4 K [(0, (.str s1)), (4, (.int .i64 i7)), (5, (.str x11)), (6, (.int .i64 kk16))] H := by
  refine AX.go (m := m_ref14_shape_p4) rfl (by decide) fun K' hK => ?_
  rw [ref14_shape_p4.eq_1] at h
  obtain ⟨x17, hy20, h⟩ := bnd' h
  try simp only [WW, ↓reduceIte, nA, nB, nC, nD, nE, nF, nG, reduceCtorEq, L_ref14_shape, m_ref14_shape_p4, c_ref14_shape_p4, hy20]
  obtain ⟨r18, hy21, h⟩ := bnd' h
  refine UK_e (as' := [(b8 x17)]) (h := ref14_letter_ok (c1 := x17)  hy21) (hw := WL.cons (Wx.b8) (WL.nil)) (hh := WxH.refl _) ?_
  try simp only [WW, ↓reduceIte, nA, nB, nC, nD, nE, nF, nG, reduceCtorEq, L_ref14_shape]
  rcases ifb h with ⟨hy22, h⟩ | ⟨hy22, h⟩
  · refine UG_go hy22 ?_
    try simp only [WW, ↓reduceIte, nA, nB, nC, nD, nE, nF, nG, reduceCtorEq, L_ref14_shape, hy22, hy20]
    obtain ⟨r19, hy23, h⟩ := bnd' h
    refine UK_e (as' := [(b8 x17)]) (h := ref14_digit_ok (c1 := x17)  hy23) (hw := WL.cons (Wx.b8) (WL.nil)) (hh := WxH.refl _) ?_
    try simp only [WW, ↓reduceIte, nA, nB, nC, nD, nE, nF, nG, reduceCtorEq, L_ref14_shape]
    rcases ifb h with ⟨hy24, h⟩ | ⟨hy24, h⟩
    · refine UG_go hy24 ?_
      try simp only [WW, ↓reduceIte, nA, nB, nC, nD, nE, nF, nG, reduceCtorEq, L_ref14_shape, hy24, hy20]
      have hq := Option.some.inj h; subst hq
      refine hK _ _ _ _ _ ?_ (WxH.refl _) (kn )
      exact WE.cons (Wx.str) (WE.cons (Wx.int) (WE.cons (Wx.str) (WE.cons (Wx.int) (WE.cons (Wx.bool) (WE.nil)))))
    · refine UG_nt hy24 ?_
      try simp only [WW, ↓reduceIte, nA, nB, nC, nD, nE, nF, nG, reduceCtorEq, L_ref14_shape, hy24]
      have hq := Option.some.inj h; subst hq
      refine hK _ _ _ _ _ ?_ (WxH.refl _) (kn )
      exact WE.cons (Wx.str) (WE.cons (Wx.int) (WE.cons (Wx.str) (WE.cons (Wx.int) (WE.cons (Wx.bool) (WE.nil)))))
  · refine UG_nt hy22 ?_
    try simp only [WW, ↓reduceIte, nA, nB, nC, nD, nE, nF, nG, reduceCtorEq, L_ref14_shape, hy22]
    have hq := Option.some.inj h; subst hq
    refine hK _ _ _ _ _ ?_ (WxH.refl _) (kn )
    exact WE.cons (Wx.str) (WE.cons (Wx.int) (WE.cons (Wx.str) (WE.cons (Wx.int) (WE.cons (Wx.bool) (WE.nil)))))
theorem ref14_shape_l1_ok {F : Nat} {kk16 : Int} {x11 : List UInt8} {s1 : List UInt8} {i7 : Int} {H : AH}  {K : Exit → Env → AH → Prop} {o : (Bool) ⊕ (Unit)}
    (h : iter (ref14_shape_l1 x11) F kk16 = some o)
    (kb2 : ∀ o' : Unit, o = .inr o' → K (.exit 2) [(0, (.str s1)), (4, (.int .i64 i7))] H)
    (kr : ∀ o' : Bool, o = .inl o' → K .ret [(2, (.bool o'))] H) :
    AX Tryd.prog L_ref14_shape 77 H.length c_ref14_shape_l1 K [(0, (.str s1)), (4, (.int .i64 i7)), (5, (.str x11)), (6, (.int .i64 kk16))] H := by
  refine AX.iter (m := m_ref14_shape_l1b) rfl (by decide) (fun s e H1 => match s with | kk16 => e = [(0, (.str s1)), (4, (.int .i64 i7)), (5, (.str x11)), (6, (.int .i64 kk16))] ∧ H1 = H) h ⟨rfl, rfl⟩ ?_
  rintro K' kk16 st e H ⟨rfl, rfl⟩ h hN hB hR hX
  rw [ref14_shape_l1.eq_1] at h
  try simp only [WW, ↓reduceIte, nA, nB, nC, nD, nE, nF, nG, reduceCtorEq, L_ref14_shape, m_ref14_shape_l1b]
  rcases ifb h with ⟨hy19, h⟩ | ⟨hy19, h⟩
  · refine UC_t hy19 ?_
    try simp only [WW, ↓reduceIte, nA, nB, nC, nD, nE, nF, nG, reduceCtorEq, L_ref14_shape]
    obtain ⟨t21, hy25, h⟩ := bnd' h
    refine UX_of (AX.weak ?_ (WxH.refl _) (ref14_shape_p4_ok  (x11 := x11) (kk16 := kk16) (s1 := s1) (i7 := i7) (t20 := t21)   hy25 ?_))
    · exact WE.cons (Wx.str) (WE.cons (Wx.int) (WE.cons (Wx.str) (WE.cons (Wx.int) (WE.nil))))
    try simp only [WW, ↓reduceIte, nA, nB, nC, nD, nE, nF, nG, reduceCtorEq, L_ref14_shape]
    rcases ifb h with ⟨hy26, h⟩ | ⟨hy26, h⟩
    · refine UC_t hy26 ?_
      try simp only [WW, ↓reduceIte, nA, nB, nC, nD, nE, nF, nG, reduceCtorEq, L_ref14_shape]
      have hq := Option.some.inj h; subst hq
      refine hX _ _ _ _ _ (by simp) ?_ (WxH.refl _) (kr _ (hR _ rfl) )
      exact WE.cons (Wx.bool) (WE.nil)
    · refine UC_f hy26 ?_
      try simp only [WW, ↓reduceIte, nA, nB, nC, nD, nE, nF, nG, reduceCtorEq, L_ref14_shape]
      have hq := Option.some.inj h; subst hq
      refine hN _ rfl _ _ _ _ ?_ (WxH.refl _) ⟨rfl, rfl⟩
      exact WE.cons (Wx.str) (WE.cons (Wx.int) (WE.cons (Wx.str) (WE.cons (Wx.int) (WE.nil))))
  · refine UC_f hy19 ?_
    try simp only [WW, ↓reduceIte, nA, nB, nC, nD, nE, nF, nG, reduceCtorEq, L_ref14_shape]
    have hq := Option.some.inj h; subst hq
    refine hX _ _ _ _ _ (by simp) ?_ (WxH.refl _) (kb2 _ (hB _ rfl) )
    exact WE.cons (Wx.str) (WE.cons (Wx.int) (WE.nil))
theorem ref14_shape_l2_ok {F : Nat} {i7 : Int} {s1 : List UInt8} {at6 : Int} {H : AH}  {K : Exit → Env → AH → Prop} {o : (Bool) ⊕ (Unit)}
    (h : iter (ref14_shape_l2 F s1) F (at6, i7) = some o)
    (kb0 : ∀ o' : Unit, o = .inr o' → K (.exit 0) [] H)
    (kr : ∀ o' : Bool, o = .inl o' → K .ret [(2, (.bool o'))] H) :
    AX Tryd.prog L_ref14_shape 77 H.length c_ref14_shape_l2 K [(0, (.str s1)), (3, (.int .i64 at6)), (4, (.int .i64 i7))] H := by
  refine AX.iter (m := m_ref14_shape_l2b) rfl (by decide) (fun s e H1 => match s with | (at6, i7) => e = [(0, (.str s1)), (3, (.int .i64 at6)), (4, (.int .i64 i7))] ∧ H1 = H) h ⟨rfl, rfl⟩ ?_
  rintro K' ⟨at6, i7⟩ st e H ⟨rfl, rfl⟩ h hN hB hR hX
  rw [ref14_shape_l2.eq_1] at h
  try simp only [WW, ↓reduceIte, nA, nB, nC, nD, nE, nF, nG, reduceCtorEq, L_ref14_shape, m_ref14_shape_l2b]
  rcases ifb h with ⟨hy7, h⟩ | ⟨hy7, h⟩
  · refine UC_t hy7 ?_
    try simp only [WW, ↓reduceIte, nA, nB, nC, nD, nE, nF, nG, reduceCtorEq, L_ref14_shape]
    obtain ⟨t10, hy10, h⟩ := bnd' h
    refine UX_of (AX.weak ?_ (WxH.refl _) (ref14_shape_p2_ok  (i7 := i7) (s1 := s1) (at6 := at6) (t9 := t10)   hy10 ?_))
    · exact WE.cons (Wx.str) (WE.cons (Wx.int) (WE.cons (Wx.int) (WE.nil)))
    try simp only [WW, ↓reduceIte, nA, nB, nC, nD, nE, nF, nG, reduceCtorEq, L_ref14_shape]
    rcases ifb h with ⟨hy11, h⟩ | ⟨hy11, h⟩
    · refine UC_t hy11 ?_
      try simp only [WW, ↓reduceIte, nA, nB, nC, nD, nE, nF, nG, reduceCtorEq, L_ref14_shape]
      have hq := Option.some.inj h; subst hq
      refine hN _ rfl _ _ _ _ ?_ (WxH.refl _) ⟨rfl, rfl⟩
      exact WE.cons (Wx.str) (WE.cons (Wx.int) (WE.cons (Wx.int) (WE.nil)))
    · refine UC_f hy11 ?_
      obtain ⟨x11, hy12, h⟩ := bnd' h
      try simp only [WW, ↓reduceIte, nA, nB, nC, nD, nE, nF, nG, reduceCtorEq, L_ref14_shape, hy12]
      obtain ⟨t15, hy17, h⟩ := bnd' h
      refine UX_of (AX.weak ?_ (WxH.refl _) (ref14_shape_p3_ok  (x11 := x11) (s1 := s1) (i7 := i7) (t14 := t15)   hy17 ?_))
      · exact WE.cons (Wx.str) (WE.cons (Wx.int) (WE.cons (Wx.str) (WE.nil)))
      try simp only [WW, ↓reduceIte, nA, nB, nC, nD, nE, nF, nG, reduceCtorEq, L_ref14_shape]
      rcases ifb h with ⟨hy18, h⟩ | ⟨hy18, h⟩
      · refine UC_t hy18 ?_
        try simp only [WW, ↓reduceIte, nA, nB, nC, nD, nE, nF, nG, reduceCtorEq, L_ref14_shape]
        have hq := Option.some.inj h; subst hq
        refine hX _ _ _ _ _ (by simp) ?_ (WxH.refl _) (kr _ (hR _ rfl) )
        exact WE.cons (Wx.bool) (WE.nil)
      · refine UC_f hy18 ?_
        try simp only [WW, ↓reduceIte, nA, nB, nC, nD, nE, nF, nG, reduceCtorEq, L_ref14_shape]
        obtain ⟨o24, hy27, h⟩ := bnd' h
        refine UX_of (AX.weak ?_ (WxH.refl _) (ref14_shape_l1_ok  (x11 := x11) (s1 := s1) (i7 := i7) (kk16 := 0)   (o := o24) hy27 ?_ ?_))
        · exact WE.cons (Wx.str) (WE.cons (Wx.int) (WE.cons (Wx.str) (WE.cons (Wx.int) (WE.nil))))
        · rintro ⟨⟩ rfl  
          try dsimp only at h 
          try simp only [WW, ↓reduceIte, nA, nB, nC, nD, nE, nF, nG, reduceCtorEq, L_ref14_shape]
          have hq := Option.some.inj h; subst hq
          refine hN _ rfl _ _ _ _ ?_ (WxH.refl _) ⟨rfl, rfl⟩
          exact WE.cons (Wx.str) (WE.cons (Wx.int) (WE.cons (Wx.int) (WE.nil)))
        · rintro r23 rfl  
          try dsimp only at h 
          try simp only [WW, ↓reduceIte, nA, nB, nC, nD, nE, nF, nG, reduceCtorEq, L_ref14_shape]
          have hq := Option.some.inj h; subst hq
          refine hX _ _ _ _ _ (by simp) ?_ (WxH.refl _) (kr _ (hR _ rfl) )
          exact WE.cons (Wx.bool) (WE.nil)
  · refine UC_f hy7 ?_
    try simp only [WW, ↓reduceIte, nA, nB, nC, nD, nE, nF, nG, reduceCtorEq, L_ref14_shape]
    have hq := Option.some.inj h; subst hq
    refine hX _ _ _ _ _ (by simp) ?_ (WxH.refl _) (kb0 _ (hB _ rfl) )
    exact WE.nil
theorem ref14_shape_ok {F : Nat} {s1 : List UInt8}  {H0 : AH}  {rz0 : Bool} (h : ref14_shape F s1 = some rz0) :
    ACalls Tryd.prog 75 [(.str s1)] H0 fun v H' => v = (.bool rz0) ∧ H' = H0 := by
  refine ACalls.goX k_ref14_shape (m := m_ref14_shape) rfl L_ref14_shape (by decide) (by simp) fun hcl K0 hK0 => ?_
  refine AX.of_U (m := m_ref14_shape) rfl (by decide) ?_
  rw [ref14_shape.eq_1] at h
  try simp only [WW, ↓reduceIte, nA, nB, nC, nD, nE, nF, nG, reduceCtorEq, L_ref14_shape, m_ref14_shape]
  obtain ⟨r2, hy1, h⟩ := bnd' h
  refine UK_e (as' := [(.str s1)]) (h := ref14_Domain_ok (s1 := s1) (F := F)  hy1) (hw := WL.cons (Wx.str) (WL.nil)) (hh := WxH.refl _) ?_
  try simp only [WW, ↓reduceIte, nA, nB, nC, nD, nE, nF, nG, reduceCtorEq, L_ref14_shape]
  rcases ifb h with ⟨hy2, h⟩ | ⟨hy2, h⟩
  · refine UC_t hy2 ?_
    try simp only [WW, ↓reduceIte, nA, nB, nC, nD, nE, nF, nG, reduceCtorEq, L_ref14_shape]
    have hq := Option.some.inj h; subst hq
    refine hK0 _ _ _ (.inr rfl) ?_
    exact fn_endp hcl (resv_tmp (a := (.bool true)) rfl rfl resv_nil) (by first | (simp [fin, b_df, b_sh, b_sh1, b_Cl]; done) | (simp [fin, AV.df, AV.sh, AV.sh1, b_df, b_sh, b_sh1, b_Cl]; done)) (Wx.bool) (r' := (.bool true)) ⟨rfl, rfl⟩
  · refine UC_f hy2 ?_
    try simp only [WW, ↓reduceIte, nA, nB, nC, nD, nE, nF, nG, reduceCtorEq, L_ref14_shape]
    obtain ⟨t5, hy5, h⟩ := bnd' h
    refine UX_of (AX.weak ?_ (WxH.refl _) (ref14_shape_p1_ok  (s1 := s1) (t4 := t5)   hy5 ?_))
    · exact WE.cons (Wx.str) (WE.nil)
    try simp only [WW, ↓reduceIte, nA, nB, nC, nD, nE, nF, nG, reduceCtorEq, L_ref14_shape]
    rcases ifb h with ⟨hy6, h⟩ | ⟨hy6, h⟩
    · refine UC_t hy6 ?_
      try simp only [WW, ↓reduceIte, nA, nB, nC, nD, nE, nF, nG, reduceCtorEq, L_ref14_shape]
      have hq := Option.some.inj h; subst hq
      refine hK0 _ _ _ (.inr rfl) ?_
      exact fn_endp hcl (resv_tmp (a := (.bool false)) rfl rfl resv_nil) (by first | (simp [fin, b_df, b_sh, b_sh1, b_Cl]; done) | (simp [fin, AV.df, AV.sh, AV.sh1, b_df, b_sh, b_sh1, b_Cl]; done)) (Wx.bool) (r' := (.bool false)) ⟨rfl, rfl⟩
    · refine UC_f hy6 ?_
      try simp only [WW, ↓reduceIte, nA, nB, nC, nD, nE, nF, nG, reduceCtorEq, L_ref14_shape]
      obtain ⟨o27, hy28, h⟩ := bnd' h
      refine UX_of (AX.weak ?_ (WxH.refl _) (ref14_shape_l2_ok  (s1 := s1) (at6 := 0) (i7 := 0)   (o := o27) hy28 ?_ ?_))
      · exact WE.cons (Wx.str) (WE.cons (Wx.int) (WE.cons (Wx.int) (WE.nil)))
      · rintro ⟨⟩ rfl  
        try dsimp only at h 
        try simp only [WW, ↓reduceIte, nA, nB, nC, nD, nE, nF, nG, reduceCtorEq, L_ref14_shape]
        have hq := Option.some.inj h; subst hq
        refine hK0 _ _ _ (.inr rfl) ?_
        exact fn_endp hcl (resv_tmp (a := (.bool true)) rfl rfl resv_nil) (by first | (simp [fin, b_df, b_sh, b_sh1, b_Cl]; done) | (simp [fin, AV.df, AV.sh, AV.sh1, b_df, b_sh, b_sh1, b_Cl]; done)) (Wx.bool) (r' := (.bool true)) ⟨rfl, rfl⟩
      · rintro r26 rfl  
        try dsimp only at h 
        try simp only [WW, ↓reduceIte, nA, nB, nC, nD, nE, nF, nG, reduceCtorEq, L_ref14_shape]
        have hq := Option.some.inj h; subst hq
        refine hK0 _ _ _ (.inr rfl) ?_
        exact fn_endp hcl (resv_tmp (a := (.bool r26)) rfl rfl resv_nil) (by first | (simp [fin, b_df, b_sh, b_sh1, b_Cl]; done) | (simp [fin, AV.df, AV.sh, AV.sh1, b_df, b_sh, b_sh1, b_Cl]; done)) (Wx.bool) (r' := (.bool r26)) ⟨rfl, rfl⟩

/-! ### mailbag/mailbagref14.route -/
def c_ref14_route_p1 : ACode := (.rg [⟨(some 5), (.mv (.t 0)), none⟩, ⟨(some 6), (.bin .eql (.t 5) (.c (.str []))), none⟩, ⟨(some 7), (.mv (.t 6)), none⟩, ⟨(some 8), (.mv (.t 0)), (some (7, false))⟩, ⟨(some 9), (.ixs (.t 8) (.c (.int .i64 0))), (some (7, false))⟩, ⟨(some 10), (.bin .neq (.t 9) (.c (b8 64))), (some (7, false))⟩, ⟨(some 11), (.pick (.t 7) (.c (.bool true)) (.t 10)), none⟩])
abbrev m_ref14_route_p1 := c_ref14_route_p1
def c_ref14_route_p2 : ACode := (.rg [⟨(some 12), (.mv (.t 3)), none⟩, ⟨(some 13), (.mv (.t 0)), none⟩, ⟨(some 14), (.lens (.t 13)), none⟩, ⟨(some 15), (.bin .lss (.t 12) (.t 14)), none⟩, ⟨(some 16), (.mv (.t 15)), none⟩, ⟨(some 17), (.mv (.t 0)), (some (16, true))⟩, ⟨(some 18), (.mv (.t 3)), (some (16, true))⟩, ⟨(some 19), (.ixs (.t 17) (.t 18)), (some (16, true))⟩, ⟨(some 20), (.bin .eql (.t 19) (.c (b8 64))), (some (16, true))⟩, ⟨(some 21), (.pick (.t 16) (.t 20) (.c (.bool false))), none⟩])
abbrev m_ref14_route_p2 := c_ref14_route_p2
def c_ref14_route_p3 : ACode := (.rg [⟨(some 41), (.mv (.t 3)), none⟩, ⟨(some 42), (.mv (.t 0)), none⟩, ⟨(some 43), (.lens (.t 42)), none⟩, ⟨(some 44), (.bin .lss (.t 41) (.t 43)), none⟩, ⟨(some 45), (.mv (.t 44)), none⟩, ⟨(some 46), (.mv (.t 0)), (some (45, true))⟩, ⟨(some 47), (.mv (.t 3)), (some (45, true))⟩, ⟨(some 48), (.ixs (.t 46) (.t 47)), (some (45, true))⟩, ⟨(some 49), (.bin .eql (.t 48) (.c (b8 58))), (some (45, true))⟩, ⟨(some 50), (.pick (.t 45) (.t 49) (.c (.bool false))), none⟩])
abbrev m_ref14_route_p3 := c_ref14_route_p3
def c_ref14_route_p4 : ACode := (.rg [⟨(some 53), (.mv (.t 3)), none⟩, ⟨(some 54), (.mv (.t 0)), none⟩, ⟨(some 55), (.lens (.t 54)), none⟩, ⟨(some 56), (.bin .geq (.t 53) (.t 55)), none⟩, ⟨(some 57), (.mv (.t 56)), none⟩, ⟨(some 58), (.mv (.t 0)), (some (57, false))⟩, ⟨(some 59), (.mv (.t 3)), (some (57, false))⟩, ⟨(some 60), (.ixs (.t 58) (.t 59)), (some (57, false))⟩, ⟨(some 61), (.bin .neq (.t 60) (.c (b8 44))), (some (57, false))⟩, ⟨(some 62), (.pick (.t 57) (.c (.bool true)) (.t 61)), none⟩])
abbrev m_ref14_route_p4 := c_ref14_route_p4
def c_ref14_route_l1b : ACode := (.seq (.seq c_ref14_route_p2 (.cond (.t 21) .skip (.exit 0))) (.blk 1 (.seq (.rg [⟨(some 22), (.mv (.t 0)), none⟩, ⟨(some 23), (.mv (.t 3)), none⟩, ⟨(some 24), (.bin .add (.t 23) (.c (.int .i64 1))), none⟩, ⟨(some 25), (.sls (.t 22) (some (.t 24)) none), none⟩, ⟨(some 26), (.call (.c (.fn 74 [])) [(.t 25)]), none⟩, ⟨(some 4), (.asg (.t 26)), none⟩]) (.seq (.seq (.rg [⟨(some 27), (.mv (.t 0)), none⟩, ⟨(some 28), (.mv (.t 3)), none⟩, ⟨(some 29), (.bin .add (.t 28) (.c (.int .i64 1))), none⟩, ⟨(some 30), (.mv (.t 3)), none⟩, ⟨(some 31), (.bin .add (.t 30) (.c (.int .i64 1))), none⟩, ⟨(some 32), (.mv (.t 4)), none⟩, ⟨(some 33), (.bin .add (.t 31) (.t 32)), none⟩, ⟨(some 34), (.sls (.t 27) (some (.t 29)) (some (.t 33))), none⟩, ⟨(some 35), (.call (.c (.fn 75 [])) [(.t 34)]), none⟩, ⟨(some 36), (.un .not (.t 35)), none⟩]) (.cond (.t 36) (.seq (.rg [⟨(some 2), (.asg (.c (.int .i64 (-1)))), none⟩]) .ret) .skip)) (.seq (.rg [⟨(some 37), (.mv (.t 3)), none⟩, ⟨(some 38), (.bin .add (.t 37) (.c (.int .i64 1))), none⟩, ⟨(some 39), (.mv (.t 4)), none⟩, ⟨(some 40), (.bin .add (.t 38) (.t 39)), none⟩, ⟨(some 3), (.asg (.t 40)), none⟩]) (.seq (.seq c_ref14_route_p3 (.cond (.t 50) (.seq (.rg [⟨(some 51), (.mv (.t 3)), none⟩, ⟨(some 52), (.bin .add (.t 51) (.c (.int .i64 1))), none⟩, ⟨(some 2), (.asg (.t 52)), none⟩]) .ret) .skip)) (.seq (.seq c_ref14_route_p4 (.cond (.t 62) (.seq (.rg [⟨(some 2), (.asg (.c (.int .i64 (-1)))), none⟩]) .ret) .skip)) (.rg [⟨(some 63), (.mv (.t 3)), none⟩, ⟨(some 64), (.bin .add (.t 63) (.c (.int .i64 1))), none⟩, ⟨(some 3), (.asg (.t 64)), none⟩]))))))))
def c_ref14_route_l1 : ACode := (.loop c_ref14_route_l1b)
def m_ref14_route_l1b : ACode := (.seq (.seq (.sem c_ref14_route_p2) (.cond (.t 21) .skip (.exit 0))) (.blk 1 (.seq (.rg [⟨(some 22), (.mv (.t 0)), none⟩, ⟨(some 23), (.mv (.t 3)), none⟩, ⟨(some 24), (.bin .add (.t 23) (.c (.int .i64 1))), none⟩, ⟨(some 25), (.sls (.t 22) (some (.t 24)) none), none⟩, ⟨(some 26), (.call (.c (.fn 74 [])) [(.t 25)]), none⟩, ⟨(some 4), (.asg (.t 26)), none⟩]) (.seq (.seq (.rg [⟨(some 27), (.mv (.t 0)), none⟩, ⟨(some 28), (.mv (.t 3)), none⟩, ⟨(some 29), (.bin .add (.t 28) (.c (.int .i64 1))), none⟩, ⟨(some 30), (.mv (.t 3)), none⟩, ⟨(some 31), (.bin .add (.t 30) (.c (.int .i64 1))), none⟩, ⟨(some 32), (.mv (.t 4)), none⟩, ⟨(some 33), (.bin .add (.t 31) (.t 32)), none⟩, ⟨(some 34), (.sls (.t 27) (some (.t 29)) (some (.t 33))), none⟩, ⟨(some 35), (.call (.c (.fn 75 [])) [(.t 34)]), none⟩, ⟨(some 36), (.un .not (.t 35)), none⟩]) (.cond (.t 36) (.seq (.rg [⟨(some 2), (.asg (.c (.int .i64 (-1)))), none⟩]) .ret) .skip)) (.seq (.rg [⟨(some 37), (.mv (.t 3)), none⟩, ⟨(some 38), (.bin .add (.t 37) (.c (.int .i64 1))), none⟩, ⟨(some 39), (.mv (.t 4)), none⟩, ⟨(some 40), (.bin .add (.t 38) (.t 39)), none⟩, ⟨(some 3), (.asg (.t 40)), none⟩]) (.seq (.seq (.sem c_ref14_route_p3) (.cond (.t 50) (.seq (.rg [⟨(some 51), (.mv (.t 3)), none⟩, ⟨(some 52), (.bin .add (.t 51) (.c (.int .i64 1))), none⟩, ⟨(some 2), (.asg (.t 52)), none⟩]) .ret) .skip)) (.seq (.seq (.sem c_ref14_route_p4) (.cond (.t 62) (.seq (.rg [⟨(some 2), (.asg (.c (.int .i64 (-1)))), none⟩]) .ret) .skip)) (.rg [⟨(some 63), (.mv (.t 3)), none⟩, ⟨(some 64), (.bin .add (.t 63) (.c (.int .i64 1))), none⟩, ⟨(some 3), (.asg (.t 64)), none⟩]))))))))
def c_ref14_route : ACode := (.seq (.rg [⟨(some 2), (.asg (.c (.int .i64 0))), none⟩]) (.seq (.seq c_ref14_route_p1 (.cond (.t 11) (.seq (.rg [⟨(some 2), (.asg (.c (.int .i64 0))), none⟩]) .ret) .skip)) (.seq (.rg [⟨(some 3), (.asg (.c (.int .i64 0))), none⟩]) (.seq (.blk 0 c_ref14_route_l1) (.seq (.rg [⟨(some 2), (.asg (.c (.int .i64 (-1)))), none⟩]) .ret)))))
def m_ref14_route : ACode := (.seq (.rg [⟨(some 2), (.asg (.c (.int .i64 0))), none⟩]) (.seq (.seq (.sem c_ref14_route_p1) (.cond (.t 11) (.seq (.rg [⟨(some 2), (.asg (.c (.int .i64 0))), none⟩]) .ret) .skip)) (.seq (.rg [⟨(some 3), (.asg (.c (.int .i64 0))), none⟩]) (.seq (.blk 0 c_ref14_route_l1) (.seq (.rg [⟨(some 2), (.asg (.c (.int .i64 (-1)))), none⟩]) .ret)))))
theorem k_ref14_route : FnOk Tryd.prog 72 65 [(.tmp 2)] c_ref14_route := ⟨Tryd.f72, _, rfl, by decide, rfl, by kernel_rfl, rfl, rfl⟩
abbrev L_ref14_route : List Nat := [0, 2, 3, 4, 11, 21, 36, 50, 62]
def ref14_route_p1 (s1 : List UInt8) : Option (Bool) :=
  (if (decide (s1 = ([] : List UInt8))) then
    some true
  else
    (idx s1 0).bind fun x2 => some (!decide (x2 = 64)))
def ref14_route_p2 (i5 : Int) (s1 : List UInt8) : Option (Bool) :=
  (if (decide (i5 < (s1.length : Int))) then
    (idx s1 i5).bind fun x6 => some (decide (x6 = 64))
  else
    some false)
def ref14_route_p3 (i5 : Int) (r10 : Int) (s1 : List UInt8) : Option (Bool) :=
  (if (decide ((IntKind.wrap .i64 ((IntKind.wrap .i64 (i5 + 1)) + r10)) < (s1.length : Int))) then
    (idx s1 (IntKind.wrap .i64 ((IntKind.wrap .i64 (i5 + 1)) + r10))).bind fun x13 => some (decide (x13 = 58))
  else
    some false)
def ref14_route_p4 (s1 : List UInt8) (i5 : Int) (r10 : Int) : Option (Bool) :=
  (if (decide ((s1.length : Int) ≤ (IntKind.wrap .i64 ((IntKind.wrap .i64 (i5 + 1)) + r10)))) then
    some true
  else
    (idx s1 (IntKind.wrap .i64 ((IntKind.wrap .i64 (i5 + 1)) + r10))).bind fun x16 => some (!decide (x16 = 44)))
def ref14_route_l1 (F : Nat) (s1 : List UInt8) : Int → Option (St Int Unit Int)
  | i5 =>
    (ref14_route_p2 i5 s1).bind fun t8 =>
    (if t8 then
      (sub s1 (IntKind.wrap .i64 (i5 + 1)) (s1.length : Int)).bind fun x9 =>
      (ref14_domain F x9).bind fun r10 =>
      (sub s1 (IntKind.wrap .i64 (i5 + 1)) (IntKind.wrap .i64 ((IntKind.wrap .i64 (i5 + 1)) + r10))).bind fun x11 =>
      (ref14_shape F x11).bind fun r12 =>
      (if (!r12) then
        some (.ret (-1))
      else
        (ref14_route_p3 i5 r10 s1).bind fun t15 =>
        (if t15 then
          some (.ret (IntKind.wrap .i64 ((IntKind.wrap .i64 ((IntKind.wrap .i64 (i5 + 1)) + r10)) + 1)))
        else
          (ref14_route_p4 s1 i5 r10).bind fun t18 =>
          (if t18 then
            some (.ret (-1))
          else
            some (.nxt (IntKind.wrap .i64 ((IntKind.wrap .i64 ((IntKind.wrap .i64 (i5 + 1)) + r10)) + 1))))))
    else
      some (.brk ()))
def ref14_route (F : Nat) (s1 : List UInt8) : Option (Int) :=
  (ref14_route_p1 s1).bind fun t4 =>
  (if t4 then
    some 0
  else
    ((iter (ref14_route_l1 F s1) F 0).bind fun o21 =>
    match o21 with
    | .inr () =>
      some (-1)
    | .inl r20 =>
      some r20))
theorem ref14_route_p1_ok {s1 : List UInt8} {H : AH}  {K : Exit → Env → AH → Prop} {t3 : Bool}
    (h : ref14_route_p1 s1 = some t3)
    (kn : K .normal [(0, (.str s1)), (11, (.bool t3))] H) :
    AX Tryd.prog L_ref14_route 65 H.length c_ref14_route_p1 K [(0, (.str s1))] H := by
  refine AX.go (m := m_ref14_route_p1) rfl (by decide) fun K' hK => ?_
  rw [ref14_route_p1.eq_1] at h
  try simp only [WW, ↓reduceIte, nA, nB, nC, nD, nE, nF, nG, reduceCtorEq, L_ref14_route, m_ref14_route_p1, c_ref14_route_p1]
  rcases ifb h with ⟨hy1, h⟩ | ⟨hy1, h⟩
  · refine UG_nf hy1 ?_
    try simp only [WW, ↓reduceIte, nA, nB, nC, nD, nE, nF, nG, reduceCtorEq, L_ref14_route, hy1]
    have hq := Option.some.inj h; subst hq
    refine hK _ _ _ _ _ ?_ (WxH.refl _) (kn )
    exact WE.cons (Wx.str) (WE.cons (Wx.bool) (WE.nil))
  · refine UG_go hy1 ?_
    obtain ⟨x2, hy2, h⟩ := bnd' h
    try simp only [WW, ↓reduceIte, nA, nB, nC, nD, nE, nF, nG, reduceCtorEq, L_ref14_route, hy1, hy2]
    have hq := Option.some.inj h; subst hq
    refine hK _ _ _ _ _ ?_ (WxH.refl _) (kn )
    exact WE.cons (Wx.str) (WE.cons (Wx.bool) (WE.nil))
theorem ref14_route_p2_ok {i5 : Int} {s1 : List UInt8} {H : AH}  {K : Exit → Env → AH → Prop} {t7 : Bool}
    (h : ref14_route_p2 i5 s1 = some t7)
    (kn : K .normal [(0, (.str s1)), (3, (.int .i64 i5)), (21, (.bool t7))] H) :
    AX Tryd.prog L_ref14_route 65 H.length c_ref14_route_p2 K [(0, (.str s1)), (3, (.int .i64 i5))] H := by
  refine AX.go (m := m_ref14_route_p2) rfl (by decide) fun K' hK => ?_
  rw [ref14_route_p2.eq_1] at h
  try simp only [WW, ↓reduceIte, nA, nB, nC, nD, nE, nF, nG, reduceCtorEq, L_ref14_route, m_ref14_route_p2, c_ref14_route_p2]
  rcases ifb h with ⟨hy5, h⟩ | ⟨hy5, h⟩
  · refine UG_go hy5 ?_
    obtain ⟨x6, hy6, h⟩ := bnd' h
    try simp only [WW, ↓reduceIte, nA, nB, nC, nD, nE, nF, nG, reduceCtorEq, L_ref14_route, hy5, hy6]
    have hq := Option.some.inj h; subst hq
    refine hK _ _ _ _ _ ?_ (WxH.refl _) (kn )
    exact WE.cons (Wx.str) (WE.cons (Wx.int) (WE.cons (Wx.bool) (WE.nil)))
  · refine UG_nt hy5 ?_
    try simp only [WW, ↓reduceIte, nA, nB, nC, nD, nE, nF, nG, reduceCtorEq, L_ref14_route, hy5]
    have hq := Option.some.inj h; subst hq
    refine hK _ _ _ _ _ ?_ (WxH.refl _) (kn )
    exact WE.cons (Wx.str) (WE.cons (Wx.int) (WE.cons (Wx.bool) (WE.nil)))
theorem ref14_route_p3_ok {i5 : Int} {r10 : Int} {s1 : List UInt8} {H : AH}  {K : Exit → Env → AH → Prop} {t14 : Bool}
    (h : ref14_route_p3 i5 r10 s1 = some t14)
    (kn : K .normal [(0, (.str s1)), (3, (.int .i64 (IntKind.wrap .i64 ((IntKind.wrap .i64 (i5 + 1)) + r10)))), (50, (.bool t14))] H) :
    AX Tryd.prog L_ref14_route 65 H.length c_ref14_route_p3 K [(0, (.str s1)), (3, (.int .i64 (IntKind.wrap .i64 ((IntKind.wrap .i64 (i5 + 1)) + r10))))] H := by
  refine AX.go (m := m_ref14_route_p3) rfl (by decide) fun K' hK => ?_
  rw [ref14_route_p3.eq_1] at h
  try simp only [WW, ↓reduceIte, nA, nB, nC, nD, nE, nF, nG, reduceCtorEq, L_ref14_route, m_ref14_route_p3, c_ref14_route_p3]
  rcases ifb h with ⟨hy14, h⟩ | ⟨hy14, h⟩
  · refine UG_go hy14 ?_
    obtain ⟨x13, hy15, h⟩ := bnd' h
    try simp only [WW, ↓reduceIte, nA, nB, nC, nD, nE, nF, nG, reduceCtorEq, L_ref14_route, hy14, hy15]
    have hq := Option.some.inj h; subst hq
    refine hK _ _ _ _ _ ?_ (WxH.refl _) (kn )
    exact WE.cons (Wx.str) (WE.cons (Wx.int) (WE.cons (Wx.bool) (WE.nil)))
  · refine UG_nt hy14 ?_
    try simp only [WW, ↓reduceIte, nA, nB, nC, nD, nE, nF, nG, reduceCtorEq, L_ref14_route, hy14]
    have hq := Option.some.inj h; subst hq
    refine hK _ _ _ _ _ ?_ (WxH.refl _) (kn )
    exact WE.cons (Wx.str) (WE.cons (Wx.int) (WE.cons (Wx.bool) (WE.nil)))
theorem ref14_route_p4_ok {s1 : List UInt8} {i5 : Int} {r10 : Int} {H : AH}  {K : Exit → Env → AH → Prop} {t17 : Bool}
    (h : ref14_route_p4 s1 i5 r10 = some t17)
    (kn : K .normal [(0, (.str s1)), (3, (.int .i64 (IntKind.wrap .i64 ((IntKind.wrap .i64 (i5 + 1)) + r10)))), (62, (.bool t17))] H) :
    AX Tryd.prog L_ref14_route 65 H.length c_ref14_route_p4 K [(0, (.str s1)), (3, (.int .i64 (IntKind.wrap .i64 ((IntKind.wrap .i64 (i5 + 1)) + r10))))] H := by
  refine AX.go (m := m_ref14_route_p4) rfl (by decide) fun K' hK => ?_
  rw [ref14_route_p4.eq_1] at h
  try simp only [WW, ↓reduceIte, nA, nB, nC, nD, nE, nF, nG, reduceCtorEq, L_ref14_route, m_ref14_route_p4, c_ref14_route_p4]
  rcases ifb h with ⟨hy18, h⟩ | ⟨hy18, h⟩
  · refine UG_nf hy18 ?_
    try simp only [WW, ↓reduceIte, nA, nB, nC, nD, nE, nF, nG, reduceCtorEq, L_ref14_route, hy18]
    have hq := Option.some.inj h; subst hq
    refine hK _ _ _ _ _ ?_ (WxH.refl _) (kn )
    exact WE.cons (Wx.str) (WE.cons (Wx.int) (WE.cons (Wx.bool) (WE.nil)))
  · refine UG_go hy18 ?_
    obtain ⟨x16, hy19, h⟩ := bnd' h
    try simp only [WW, ↓reduceIte, nA, nB, nC, nD, nE, nF, nG, reduceCtorEq, L_ref14_route, hy18, hy19]
    have hq := Option.some.inj h; subst hq
    refine hK _ _ _ _ _ ?_ (WxH.refl _) (kn )
    exact WE.cons (Wx.str) (WE.cons (Wx.int) (WE.cons (Wx.bool) (WE.nil)))
theorem ref14_route_l1_ok {F : Nat} {i5 : Int} {s1 : List UInt8} {H : AH}  {K : Exit → Env → AH → Prop} {o : (Int) ⊕ (Unit)}
    (h : iter (ref14_route_l1 F s1) F i5 = some o)
    (kb0 : ∀ o' : Unit, o = .inr o' → K (.exit 0) [] H)
    (kr : ∀ o' : Int, o = .inl o' → K .ret [(2, (.int .i64 o'))] H) :
    AX Tryd.prog L_ref14_route 65 H.length c_ref14_route_l1 K [(0, (.str s1)), (3, (.int .i64 i5))] H := by
  refine AX.iter (m := m_ref14_route_l1b) rfl (by decide) (fun s e H1 => match s with | i5 => e = [(0, (.str s1)), (3, (.int .i64 i5))] ∧ H1 = H) h ⟨rfl, rfl⟩ ?_
  rintro K' i5 st e H ⟨rfl, rfl⟩ h hN hB hR hX
  rw [ref14_route_l1.eq_1] at h
  try simp only [WW, ↓reduceIte, nA, nB, nC, nD, nE, nF, nG, reduceCtorEq, L_ref14_route, m_ref14_route_l1b]
  obtain ⟨t8, hy7, h⟩ := bnd' h
  refine UX_of (AX.weak ?_ (WxH.refl _) (ref14_route_p2_ok  (i5 := i5) (s1 := s1) (t7 := t8)   hy7 ?_))
  · exact WE.cons (Wx.str) (WE.cons (Wx.int) (WE.nil))
  try simp only [WW, ↓reduceIte, nA, nB, nC, nD, nE, nF, nG, reduceCtorEq, L_ref14_route]
  rcases ifb h with ⟨hy8, h⟩ | ⟨hy8, h⟩
  · refine UC_t hy8 ?_
    obtain ⟨x9, hy9, h⟩ := bnd' h
    try simp only [WW, ↓reduceIte, nA, nB, nC, nD, nE, nF, nG, reduceCtorEq, L_ref14_route, hy9]
    obtain ⟨r10, hy10, h⟩ := bnd' h
    refine UK_e (as' := [(.str x9)]) (h := ref14_domain_ok (s1 := x9) (F := F)  hy10) (hw := WL.cons (Wx.str) (WL.nil)) (hh := WxH.refl _) ?_
    obtain ⟨x11, hy11, h⟩ := bnd' h
    try simp only [WW, ↓reduceIte, nA, nB, nC, nD, nE, nF, nG, reduceCtorEq, L_ref14_route, hy11]
    obtain ⟨r12, hy12, h⟩ := bnd' h
    refine UK_e (as' := [(.str x11)]) (h := ref14_shape_ok (s1 := x11) (F := F)  hy12) (hw := WL.cons (Wx.str) (WL.nil)) (hh := WxH.refl _) ?_
    try simp only [WW, ↓reduceIte, nA, nB, nC, nD, nE, nF, nG, reduceCtorEq, L_ref14_route]
    rcases ifb h with ⟨hy13, h⟩ | ⟨hy13, h⟩
    · refine UC_t hy13 ?_
      try simp only [WW, ↓reduceIte, nA, nB, nC, nD, nE, nF, nG, reduceCtorEq, L_ref14_route]
      have hq := Option.some.inj h; subst hq
      refine hX _ _ _ _ _ (by simp) ?_ (WxH.refl _) (kr _ (hR _ rfl) )
      exact WE.cons (Wx.int) (WE.nil)
    · refine UC_f hy13 ?_
      try simp only [WW, ↓reduceIte, nA, nB, nC, nD, nE, nF, nG, reduceCtorEq, L_ref14_route]
      obtain ⟨t15, hy16, h⟩ := bnd' h
      refine UX_of (AX.weak ?_ (WxH.refl _) (ref14_route_p3_ok  (i5 := i5) (r10 := r10) (s1 := s1) (t14 := t15)   hy16 ?_))
      · exact WE.cons (Wx.str) (WE.cons (Wx.int) (WE.nil))
      try simp only [WW, ↓reduceIte, nA, nB, nC, nD, nE, nF, nG, reduceCtorEq, L_ref14_route]
      rcases ifb h with ⟨hy17, h⟩ | ⟨hy17, h⟩
      · refine UC_t hy17 ?_
        try simp only [WW, ↓reduceIte, nA, nB, nC, nD, nE, nF, nG, reduceCtorEq, L_ref14_route]
        have hq := Option.some.inj h; subst hq
        refine hX _ _ _ _ _ (by simp) ?_ (WxH.refl _) (kr _ (hR _ rfl) )
        exact WE.cons (Wx.int) (WE.nil)
      · refine UC_f hy17 ?_
        try simp only [WW, ↓reduceIte, nA, nB, nC, nD, nE, nF, nG, reduceCtorEq, L_ref14_route]
        obtain ⟨t18, hy20, h⟩ := bnd' h
        refine UX_of (AX.weak ?_ (WxH.refl _) (ref14_route_p4_ok  (s1 := s1) (i5 := i5) (r10 := r10) (t17 := t18)   hy20 ?_))
        · exact WE.cons (Wx.str) (WE.cons (Wx.int) (WE.nil))
        try simp only [WW, ↓reduceIte, nA, nB, nC, nD, nE, nF, nG, reduceCtorEq, L_ref14_route]
        rcases ifb h with ⟨hy21, h⟩ | ⟨hy21, h⟩
        · refine UC_t hy21 ?_
          try simp only [WW, ↓reduceIte, nA, nB, nC, nD, nE, nF, nG, reduceCtorEq, L_ref14_route]
          have hq := Option.some.inj h; subst hq
          refine hX _ _ _ _ _ (by simp) ?_ (WxH.refl _) (kr _ (hR _ rfl) )
          exact WE.cons (Wx.int) (WE.nil)
        · refine UC_f hy21 ?_
          try simp only [WW, ↓reduceIte, nA, nB, nC, nD, nE, nF, nG, reduceCtorEq, L_ref14_route]
          have hq := Option.some.inj h; subst hq
          refine hN _ rfl _ _ _ _ ?_ (WxH.refl _) ⟨rfl, rfl⟩
          exact WE.cons (Wx.str) (WE.cons (Wx.int) (WE.nil))
  · refine UC_f hy8 ?_
    try simp only [WW, ↓reduceIte, nA, nB, nC, nD, nE, nF, nG, reduceCtorEq, L_ref14_route]
    have hq := Option.some.inj h; subst hq
    refine hX _ _ _ _ _ (by simp) ?_ (WxH.refl _) (kb0 _ (hB _ rfl) )
    exact WE.nil
theorem ref14_route_ok {F : Nat} {s1 : List UInt8}  {H0 : AH}  {rz0 : Int} (h : ref14_route F s1 = some rz0) :
    ACalls Tryd.prog 72 [(.str s1)] H0 fun v H' => v = (.int .i64 rz0) ∧ H' = H0 := by
  refine ACalls.goX k_ref14_route (m := m_ref14_route) rfl L_ref14_route (by decide) (by simp) fun hcl K0 hK0 => ?_
  refine AX.of_U (m := m_ref14_route) rfl (by decide) ?_
  rw [ref14_route.eq_1] at h
  try simp only [WW, ↓reduceIte, nA, nB, nC, nD, nE, nF, nG, reduceCtorEq, L_ref14_route, m_ref14_route]
  obtain ⟨t4, hy3, h⟩ := bnd' h
  refine UX_of (AX.weak ?_ (WxH.refl _) (ref14_route_p1_ok  (s1 := s1) (t3 := t4)   hy3 ?_))
  · exact WE.cons (Wx.str) (WE.nil)
  try simp only [WW, ↓reduceIte, nA, nB, nC, nD, nE, nF, nG, reduceCtorEq, L_ref14_route]
  rcases ifb h with ⟨hy4, h⟩ | ⟨hy4, h⟩
  · refine UC_t hy4 ?_
    try simp only [WW, ↓reduceIte, nA, nB, nC, nD, nE, nF, nG, reduceCtorEq, L_ref14_route]
    have hq := Option.some.inj h; subst hq
    refine hK0 _ _ _ (.inr rfl) ?_
    exact fn_endp hcl (resv_tmp (a := (.int .i64 0)) rfl rfl resv_nil) (by first | (simp [fin, b_df, b_sh, b_sh1, b_Cl]; done) | (simp [fin, AV.df, AV.sh, AV.sh1, b_df, b_sh, b_sh1, b_Cl]; done)) (Wx.int) (r' := (.int .i64 0)) ⟨rfl, rfl⟩
  · refine UC_f hy4 ?_
    try simp only [WW, ↓reduceIte, nA, nB, nC, nD, nE, nF, nG, reduceCtorEq, L_ref14_route]
    obtain ⟨o21, hy22, h⟩ := bnd' h
    refine UX_of (AX.weak ?_ (WxH.refl _) (ref14_route_l1_ok  (s1 := s1) (i5 := 0)   (o := o21) hy22 ?_ ?_))
    · exact WE.cons (Wx.str) (WE.cons (Wx.int) (WE.nil))
    · rintro ⟨⟩ rfl  
      try dsimp only at h 
      try simp only [WW, ↓reduceIte, nA, nB, nC, nD, nE, nF, nG, reduceCtorEq, L_ref14_route]
      have hq := Option.some.inj h; subst hq
      refine hK0 _ _ _ (.inr rfl) ?_
      exact fn_endp hcl (resv_tmp (a := (.int .i64 (-1))) rfl rfl resv_nil) (by first | (simp [fin, b_df, b_sh, b_sh1, b_Cl]; done) | (simp [fin, AV.df, AV.sh, AV.sh1, b_df, b_sh, b_sh1, b_Cl]; done)) (Wx.int) (r' := (.int .i64 (-1))) ⟨rfl, rfl⟩
    · rintro r20 rfl  
      try dsimp only at h 
      try simp only [WW, ↓reduceIte, nA, nB, nC, nD, nE, nF, nG, reduceCtorEq, L_ref14_route]
      have hq := Option.some.inj h; subst hq
      refine hK0 _ _ _ (.inr rfl) ?_
      exact fn_endp hcl (resv_tmp (a := (.int .i64 r20)) rfl rfl resv_nil) (by first | (simp [fin, b_df, b_sh, b_sh1, b_Cl]; done) | (simp [fin, AV.df, AV.sh, AV.sh1, b_df, b_sh, b_sh1, b_Cl]; done)) (Wx.int) (r' := (.int .i64 r20)) ⟨rfl, rfl⟩

/-! ### mailbag/mailbagref14.local -/
def c_ref14_local_p1 : ACode := (.rg [⟨(some 7), (.mv (.t 0)), none⟩, ⟨(some 8), (.bin .neq (.t 7) (.c (.str []))), none⟩, ⟨(some 9), (.mv (.t 8)), none⟩, ⟨(some 10), (.mv (.t 0)), (some (9, true))⟩, ⟨(some 11), (.ixs (.t 10) (.c (.int .i64 0))), (some (9, true))⟩, ⟨(some 12), (.bin .eql (.t 11) (.c (b8 34))), (some (9, true))⟩, ⟨(some 13), (.pick (.t 9) (.t 12) (.c (.bool false))), none⟩])
abbrev m_ref14_local_p1 := c_ref14_local_p1
def c_ref14_local_p2 : ACode := (.rg [⟨(some 14), (.mv (.t 5)), none⟩, ⟨(some 15), (.mv (.t 0)), none⟩, ⟨(some 16), (.lens (.t 15)), none⟩, ⟨(some 17), (.bin .lss (.t 14) (.t 16)), none⟩, ⟨(some 18), (.mv (.t 17)), none⟩, ⟨(some 19), (.mv (.t 0)), (some (18, true))⟩, ⟨(some 20), (.mv (.t 5)), (some (18, true))⟩, ⟨(some 21), (.ixs (.t 19) (.t 20)), (some (18, true))⟩, ⟨(some 22), (.bin .neq (.t 21) (.c (b8 34))), (some (18, true))⟩, ⟨(some 23), (.pick (.t 18) (.t 22) (.c (.bool false))), none⟩])
abbrev m_ref14_local_p2 := c_ref14_local_p2
def c_ref14_local_p3 : ACode := (.cond (.t 27) (.rg [⟨(some 28), (.mv (.t 5)), none⟩, ⟨(some 29), (.bin .add (.t 28) (.c (.int .i64 1))), none⟩, ⟨(some 5), (.asg (.t 29)), none⟩]) .skip)
abbrev m_ref14_local_p3 := c_ref14_local_p3
def c_ref14_local_p4 : ACode := (.rg [⟨(some 30), (.mv (.t 5)), none⟩, ⟨(some 31), (.mv (.t 0)), none⟩, ⟨(some 32), (.lens (.t 31)), none⟩, ⟨(some 33), (.bin .geq (.t 30) (.t 32)), none⟩, ⟨(some 34), (.mv (.t 33)), none⟩, ⟨(some 35), (.mv (.t 0)), (some (34, false))⟩, ⟨(some 36), (.mv (.t 5)), (some (34, false))⟩, ⟨(some 37), (.ixs (.t 35) (.t 36)), (some (34, false))⟩, ⟨(some 38), (.bin .lss (.t 37) (.c (b8 32))), (some (34, false))⟩, ⟨(some 39), (.pick (.t 34) (.c (.bool true)) (.t 38)), none⟩, ⟨(some 40), (.mv (.t 39)), none⟩, ⟨(some 41), (.mv (.t 0)), (some (40, false))⟩, ⟨(some 42), (.mv (.t 5)), (some (40, false))⟩, ⟨(some 43), (.ixs (.t 41) (.t 42)), (some (40, false))⟩, ⟨(some 44), (.bin .gtr (.t 43) (.c (b8 126))), (some (40, false))⟩, ⟨(some 45), (.pick (.t 40) (.c (.bool true)) (.t 44)), none⟩])
abbrev m_ref14_local_p4 := c_ref14_local_p4
def c_ref14_local_l1b : ACode := (.seq (.seq c_ref14_local_p2 (.cond (.t 23) .skip (.exit 0))) (.blk 1 (.seq (.seq (.rg [⟨(some 24), (.mv (.t 0)), none⟩, ⟨(some 25), (.mv (.t 5)), none⟩, ⟨(some 26), (.ixs (.t 24) (.t 25)), none⟩, ⟨(some 27), (.bin .eql (.t 26) (.c (b8 92))), none⟩]) c_ref14_local_p3) (.seq (.seq c_ref14_local_p4 (.cond (.t 45) (.seq (.rg [⟨(some 2), (.asg (.c (.str []))), none⟩, ⟨(some 3), (.asg (.c (.int .i64 (-1)))), none⟩]) .ret) .skip)) (.seq (.rg [⟨(some 46), (.mv (.t 4)), none⟩, ⟨(some 47), (.mv (.t 0)), none⟩, ⟨(some 48), (.mv (.t 5)), none⟩, ⟨(some 49), (.ixs (.t 47) (.t 48)), none⟩, ⟨(some 50), (.bsl 1 [(.t 49)]), none⟩, ⟨(some 51), (.app 1 1 (.t 46) (.t 50)), none⟩, ⟨(some 4), (.asg (.t 51)), none⟩]) (.rg [⟨(some 52), (.mv (.t 5)), none⟩, ⟨(some 53), (.bin .add (.t 52) (.c (.int .i64 1))), none⟩, ⟨(some 5), (.asg (.t 53)), none⟩]))))))
def c_ref14_local_l1 : ACode := (.loop c_ref14_local_l1b)
def m_ref14_local_l1b : ACode := (.seq (.seq (.sem c_ref14_local_p2) (.cond (.t 23) .skip (.exit 0))) (.blk 1 (.seq (.seq (.rg [⟨(some 24), (.mv (.t 0)), none⟩, ⟨(some 25), (.mv (.t 5)), none⟩, ⟨(some 26), (.ixs (.t 24) (.t 25)), none⟩, ⟨(some 27), (.bin .eql (.t 26) (.c (b8 92))), none⟩]) (.sem c_ref14_local_p3)) (.seq (.seq (.sem c_ref14_local_p4) (.cond (.t 45) (.seq (.rg [⟨(some 2), (.asg (.c (.str []))), none⟩, ⟨(some 3), (.asg (.c (.int .i64 (-1)))), none⟩]) .ret) .skip)) (.seq (.rg [⟨(some 46), (.mv (.t 4)), none⟩, ⟨(some 47), (.mv (.t 0)), none⟩, ⟨(some 48), (.mv (.t 5)), none⟩, ⟨(some 49), (.ixs (.t 47) (.t 48)), none⟩, ⟨(some 50), (.bsl 1 [(.t 49)]), none⟩, ⟨(some 51), (.app 1 1 (.t 46) (.t 50)), none⟩, ⟨(some 4), (.asg (.t 51)), none⟩]) (.rg [⟨(some 52), (.mv (.t 5)), none⟩, ⟨(some 53), (.bin .add (.t 52) (.c (.int .i64 1))), none⟩, ⟨(some 5), (.asg (.t 53)), none⟩]))))))
def c_ref14_local_p5 : ACode := (.rg [⟨(some 54), (.mv (.t 5)), none⟩, ⟨(some 55), (.mv (.t 0)), none⟩, ⟨(some 56), (.lens (.t 55)), none⟩, ⟨(some 57), (.bin .geq (.t 54) (.t 56)), none⟩, ⟨(some 58), (.mv (.t 57)), none⟩, ⟨(some 59), (.mv (.t 4)), (some (58, false))⟩, ⟨(some 60), (.len (.t 59)), (some (58, false))⟩, ⟨(some 61), (.bin .eql (.t 60) (.c (.int .i64 0))), (some (58, false))⟩, ⟨(some 62), (.pick (.t 58) (.c (.bool true)) (.t 61)), none⟩])
abbrev m_ref14_local_p5 := c_ref14_local_p5
def c_ref14_local_p6 : ACode := (.rg [⟨(some 67), (.mv (.t 6)), none⟩, ⟨(some 68), (.mv (.t 0)), none⟩, ⟨(some 69), (.lens (.t 68)), none⟩, ⟨(some 70), (.bin .lss (.t 67) (.t 69)), none⟩, ⟨(some 71), (.mv (.t 70)), none⟩, ⟨(some 72), (.mv (.t 0)), (some (71, true))⟩, ⟨(some 73), (.mv (.t 6)), (some (71, true))⟩, ⟨(some 74), (.ixs (.t 72) (.t 73)), (some (71, true))⟩, ⟨(some 75), (.call (.c (.fn 101 [])) [(.t 74)]), (some (71, true))⟩, ⟨(some 76), (.mv (.t 75)), (some (71, true))⟩, ⟨(some 77), (.mv (.t 0)), (some (76, false))⟩, ⟨(some 78), (.mv (.t 6)), (some (76, false))⟩, ⟨(some 79), (.ixs (.t 77) (.t 78)), (some (76, false))⟩, ⟨(some 80), (.bin .eql (.t 79) (.c (b8 46))), (some (76, false))⟩, ⟨(some 81), (.pick (.t 76) (.c (.bool true)) (.t 80)), (some (71, true))⟩, ⟨(some 82), (.pick (.t 71) (.t 81) (.c (.bool false))), none⟩])
abbrev m_ref14_local_p6 := c_ref14_local_p6
def c_ref14_local_l2b : ACode := (.seq (.seq c_ref14_local_p6 (.cond (.t 82) .skip (.exit 2))) (.blk 3 (.rg [⟨(some 83), (.mv (.t 6)), none⟩, ⟨(some 84), (.bin .add (.t 83) (.c (.int .i64 1))), none⟩, ⟨(some 6), (.asg (.t 84)), none⟩])))
def c_ref14_local_l2 : ACode := (.loop c_ref14_local_l2b)
def m_ref14_local_l2b : ACode := (.seq (.seq (.sem c_ref14_local_p6) (.cond (.t 82) .skip (.exit 2))) (.blk 3 (.rg [⟨(some 83), (.mv (.t 6)), none⟩, ⟨(some 84), (.bin .add (.t 83) (.c (.int .i64 1))), none⟩, ⟨(some 6), (.asg (.t 84)), none⟩])))
def c_ref14_local : ACode := (.seq (.rg [⟨(some 2), (.asg (.c (.str []))), none⟩, ⟨(some 3), (.asg (.c (.int .i64 0))), none⟩]) (.seq (.seq c_ref14_local_p1 (.cond (.t 13) (.seq (.rg [⟨(some 4), (.asg (.c (.sl .ex 1 []))), none⟩]) (.seq (.rg [⟨(some 5), (.asg (.c (.int .i64 1))), none⟩]) (.seq (.blk 0 c_ref14_local_l1) (.seq (.seq c_ref14_local_p5 (.cond (.t 62) (.seq (.rg [⟨(some 2), (.asg (.c (.str []))), none⟩, ⟨(some 3), (.asg (.c (.int .i64 (-1)))), none⟩]) .ret) .skip)) (.seq (.rg [⟨(some 63), (.mv (.t 4)), none⟩, ⟨(some 64), (.cvt .bs (.t 63)), none⟩, ⟨(some 65), (.mv (.t 5)), none⟩, ⟨(some 66), (.bin .add (.t 65) (.c (.int .i64 1))), none⟩, ⟨(some 2), (.asg (.t 64)), none⟩, ⟨(some 3), (.asg (.t 66)), none⟩]) .ret))))) .skip)) (.seq (.rg [⟨(some 6), (.asg (.c (.int .i64 0))), none⟩]) (.seq (.blk 2 c_ref14_local_l2) (.seq (.seq (.rg [⟨(some 85), (.mv (.t 0)), none⟩, ⟨(some 86), (.mv (.t 6)), none⟩, ⟨(some 87), (.sls (.t 85) none (some (.t 86))), none⟩, ⟨(some 88), (.call (.c (.fn 102 [])) [(.t 87)]), none⟩, ⟨(some 89), (.un .not (.t 88)), none⟩]) (.cond (.t 89) (.seq (.rg [⟨(some 2), (.asg (.c (.str []))), none⟩, ⟨(some 3), (.asg (.c (.int .i64 (-1)))), none⟩]) .ret) .skip)) (.seq (.rg [⟨(some 90), (.mv (.t 0)), none⟩, ⟨(some 91), (.mv (.t 6)), none⟩, ⟨(some 92), (.sls (.t 90) none (some (.t 91))), none⟩, ⟨(some 93), (.mv (.t 6)), none⟩, ⟨(some 2), (.asg (.t 92)), none⟩, ⟨(some 3), (.asg (.t 93)), none⟩]) .ret))))))
def m_ref14_local : ACode := (.seq (.rg [⟨(some 2), (.asg (.c (.str []))), none⟩, ⟨(some 3), (.asg (.c (.int .i64 0))), none⟩]) (.seq (.seq (.sem c_ref14_local_p1) (.cond (.t 13) (.seq (.rg [⟨(some 4), (.asg (.c (.sl .ex 1 []))), none⟩]) (.seq (.rg [⟨(some 5), (.asg (.c (.int .i64 1))), none⟩]) (.seq (.blk 0 c_ref14_local_l1) (.seq (.seq (.sem c_ref14_local_p5) (.cond (.t 62) (.seq (.rg [⟨(some 2), (.asg (.c (.str []))), none⟩, ⟨(some 3), (.asg (.c (.int .i64 (-1)))), none⟩]) .ret) .skip)) (.seq (.rg [⟨(some 63), (.mv (.t 4)), none⟩, ⟨(some 64), (.cvt .bs (.t 63)), none⟩, ⟨(some 65), (.mv (.t 5)), none⟩, ⟨(some 66), (.bin .add (.t 65) (.c (.int .i64 1))), none⟩, ⟨(some 2), (.asg (.t 64)), none⟩, ⟨(some 3), (.asg (.t 66)), none⟩]) .ret))))) .skip)) (.seq (.rg [⟨(some 6), (.asg (.c (.int .i64 0))), none⟩]) (.seq (.blk 2 c_ref14_local_l2) (.seq (.seq (.rg [⟨(some 85), (.mv (.t 0)), none⟩, ⟨(some 86), (.mv (.t 6)), none⟩, ⟨(some 87), (.sls (.t 85) none (some (.t 86))), none⟩, ⟨(some 88), (.call (.c (.fn 102 [])) [(.t 87)]), none⟩, ⟨(some 89), (.un .not (.t 88)), none⟩]) (.cond (.t 89) (.seq (.rg [⟨(some 2), (.asg (.c (.str []))), none⟩, ⟨(some 3), (.asg (.c (.int .i64 (-1)))), none⟩]) .ret) .skip)) (.seq (.rg [⟨(some 90), (.mv (.t 0)), none⟩, ⟨(some 91), (.mv (.t 6)), none⟩, ⟨(some 92), (.sls (.t 90) none (some (.t 91))), none⟩, ⟨(some 93), (.mv (.t 6)), none⟩, ⟨(some 2), (.asg (.t 92)), none⟩, ⟨(some 3), (.asg (.t 93)), none⟩]) .ret))))))
theorem k_ref14_local : FnOk Tryd.prog 73 94 [(.tmp 2), (.tmp 3)] c_ref14_local := ⟨Tryd.f73, _, rfl, by decide, rfl, by kernel_rfl, rfl, rfl⟩
abbrev L_ref14_local : List Nat := [0, 2, 3, 4, 5, 6, 13, 23, 27, 45, 62, 82, 89]
def ref14_local_p1 (s1 : List UInt8) : Option (Bool) :=
  (if (!decide (s1 = ([] : List UInt8))) then
    (idx s1 0).bind fun x2 => some (decide (x2 = 34))
  else
    some false)
def ref14_local_p2 (i6 : Int) (s1 : List UInt8) : Option (Bool) :=
  (if (decide (i6 < (s1.length : Int))) then
    (idx s1 i6).bind fun x7 => some (!decide (x7 = 34))
  else
    some false)
def ref14_local_p3 (x10 : UInt8) (i6 : Int) : Option (Int) :=
  (if (decide (x10 = 92)) then
    some (IntKind.wrap .i64 (i6 + 1))
  else
    some i6)
def ref14_local_p4 (s1 : List UInt8) (i12 : Int) : Option (Bool) :=
  (if (decide ((s1.length : Int) ≤ i12)) then
    some true
  else
    (idx s1 i12).bind fun x13 =>
    (if (decide (x13 < 32)) then
      some true
    else
      some (decide (126 < x13))))
def ref14_local_l1 (s1 : List UInt8) : ((List UInt8) × Int) → Option (St ((List UInt8) × Int) ((List UInt8) × Int) ((List UInt8) × Int))
  | (b5, i6) =>
    (ref14_local_p2 i6 s1).bind fun t9 =>
    (if t9 then
      (idx s1 i6).bind fun x10 =>
      (ref14_local_p3 x10 i6).bind fun i12 =>
      (ref14_local_p4 s1 i12).bind fun t15 =>
      (if t15 then
        some (.ret (([] : List UInt8), (-1)))
      else
        (idx s1 i12).bind fun x16 =>
        (capp 1 b5 ([x16] : List UInt8)).bind fun x17 => some (.nxt (x17, (IntKind.wrap .i64 (i12 + 1)))))
    else
      some (.brk (b5, i6)))
def ref14_local_p6 (F : Nat) (nn27 : Int) (s1 : List UInt8) : Option (Bool) :=
  (if (decide (nn27 < (s1.length : Int))) then
    (idx s1 nn27).bind fun x28 =>
    (ref14_atext F x28).bind fun r29 => (if r29 then
      some true
    else
      some (decide (x28 = 46)))
  else
    some false)
def ref14_local_l2 (F : Nat) (s1 : List UInt8) : Int → Option (St ((List UInt8) × Int) Int Int)
  | nn27 =>
    (ref14_local_p6 F nn27 s1).bind fun t31 =>
    (if t31 then
      some (.nxt (IntKind.wrap .i64 (nn27 + 1)))
    else
      some (.brk nn27))
def ref14_local (F : Nat) (s1 : List UInt8) : Option ((List UInt8) × Int) :=
  (ref14_local_p1 s1).bind fun t4 =>
  (if t4 then
    ((iter (ref14_local_l1 s1) F (([] : List UInt8), 1)).bind fun o26 =>
    match o26 with
    | .inr (b22, i23) =>
      (if ((decide ((s1.length : Int) ≤ i23)) || (decide ((b22.length : Int) = 0))) then
        some (([] : List UInt8), (-1))
      else
        some (b22, (IntKind.wrap .i64 (i23 + 1))))
    | .inl (r24, r25) =>
      some (r24, r25))
  else
    ((iter (ref14_local_l2 F s1) F 0).bind fun o36 =>
    match o36 with
    | .inr nn33 =>
      (sub s1 0 nn33).bind fun x34 =>
      (ref14_plain F x34).bind fun r35 =>
      (if (!r35) then
        some (([] : List UInt8), (-1))
      else
        some (x34, nn33))
    | .inl _ => none))
theorem ref14_local_p1_ok {s1 : List UInt8} {H : AH}  {K : Exit → Env → AH → Prop} {t3 : Bool}
    (h : ref14_local_p1 s1 = some t3)
    (kn : K .normal [(0, (.str s1)), (13, (.bool t3))] H) :
    AX Tryd.prog L_ref14_local 94 H.length c_ref14_local_p1 K [(0, (.str s1))] H := by
  refine AX.go (m := m_ref14_local_p1) rfl (by decide) fun K' hK => ?_
  rw [ref14_local_p1.eq_1] at h
  try simp only [WW, ↓reduceIte, nA, nB, nC, nD, nE, nF, nG, reduceCtorEq, L_ref14_local, m_ref14_local_p1, c_ref14_local_p1]
  rcases ifb h with ⟨hy1, h⟩ | ⟨hy1, h⟩
  · refine UG_go hy1 ?_
    obtain ⟨x2, hy2, h⟩ := bnd' h
    try simp only [WW, ↓reduceIte, nA, nB, nC, nD, nE, nF, nG, reduceCtorEq, L_ref14_local, hy1, hy2]
    have hq := Option.some.inj h; subst hq
    refine hK _ _ _ _ _ ?_ (WxH.refl _) (kn )
    exact WE.cons (Wx.str) (WE.cons (Wx.bool) (WE.nil))
  · refine UG_nt hy1 ?_
    try simp only [WW, ↓reduceIte, nA, nB, nC, nD, nE, nF, nG, reduceCtorEq, L_ref14_local, hy1]
    have hq := Option.some.inj h; subst hq
    refine hK _ _ _ _ _ ?_ (WxH.refl _) (kn )
    exact WE.cons (Wx.str) (WE.cons (Wx.bool) (WE.nil))
theorem ref14_local_p2_ok {i6 : Int} {s1 : List UInt8} {b5 : List UInt8} {H : AH}  {K : Exit → Env → AH → Prop} {t8 : Bool}
    (h : ref14_local_p2 i6 s1 = some t8)
    (kn : K .normal [(0, (.str s1)), (4, (.sl .own 1 (ml b8 b5))), (5, (.int .i64 i6)), (23, (.bool t8))] H) :
    AX Tryd.prog L_ref14_local 94 H.length c_ref14_local_p2 K [(0, (.str s1)), (4, (.sl .own 1 (ml b8 b5))), (5, (.int .i64 i6))] H := by
  refine AX.go (m := m_ref14_local_p2) rfl (by decide) fun K' hK => ?_
  rw [ref14_local_p2.eq_1] at h
  try simp only [WW, ↓reduceIte, nA, nB, nC, nD, nE, nF, nG, reduceCtorEq, L_ref14_local, m_ref14_local_p2, c_ref14_local_p2]
  rcases ifb h with ⟨hy5, h⟩ | ⟨hy5, h⟩
  · refine UG_go hy5 ?_
    obtain ⟨x7, hy6, h⟩ := bnd' h
    try simp only [WW, ↓reduceIte, nA, nB, nC, nD, nE, nF, nG, reduceCtorEq, L_ref14_local, hy5, hy6]
    have hq := Option.some.inj h; subst hq
    refine hK _ _ _ _ _ ?_ (WxH.refl _) (kn )
    exact WE.cons (Wx.str) (WE.cons (Wx.oo) (WE.cons (Wx.int) (WE.cons (Wx.bool) (WE.nil))))
  · refine UG_nt hy5 ?_
    try simp only [WW, ↓reduceIte, nA, nB, nC, nD, nE, nF, nG, reduceCtorEq, L_ref14_local, hy5]
    have hq := Option.some.inj h; subst hq
    refine hK _ _ _ _ _ ?_ (WxH.refl _) (kn )
    exact WE.cons (Wx.str) (WE.cons (Wx.oo) (WE.cons (Wx.int) (WE.cons (Wx.bool) (WE.nil))))
theorem ref14_local_p3_ok {x10 : UInt8} {i6 : Int} {s1 : List UInt8} {b5 : List UInt8} {H : AH}  {K : Exit → Env → AH → Prop} {i11 : Int}
    (h : ref14_local_p3 x10 i6 = some i11)
    (kn : K .normal [(0, (.str s1)), (4, (.sl .own 1 (ml b8 b5))), (5, (.int .i64 i11))] H) :
    AX Tryd.prog L_ref14_local 94 H.length c_ref14_local_p3 K [(0, (.str s1)), (4, (.sl .own 1 (ml b8 b5))), (5, (.int .i64 i6)), (27, (.bool (decide (x10 = 92))))] H := by
  refine AX.go (m := m_ref14_local_p3) rfl (by decide) fun K' hK => ?_
  rw [ref14_local_p3.eq_1] at h
  try simp only [WW, ↓reduceIte, nA, nB, nC, nD, nE, nF, nG, reduceCtorEq, L_ref14_local, m_ref14_local_p3, c_ref14_local_p3]
  rcases ifb h with ⟨hy10, h⟩ | ⟨hy10, h⟩
  · refine UC_t hy10 ?_
    try simp only [WW, ↓reduceIte, nA, nB, nC, nD, nE, nF, nG, reduceCtorEq, L_ref14_local]
    have hq := Option.some.inj h; subst hq
    refine hK _ _ _ _ _ ?_ (WxH.refl _) (kn )
    exact WE.cons (Wx.str) (WE.cons (Wx.oo) (WE.cons (Wx.int) (WE.nil)))
  · refine UC_f hy10 ?_
    try simp only [WW, ↓reduceIte, nA, nB, nC, nD, nE, nF, nG, reduceCtorEq, L_ref14_local]
    have hq := Option.some.inj h; subst hq
    refine hK _ _ _ _ _ ?_ (WxH.refl _) (kn )
    exact WE.cons (Wx.str) (WE.cons (Wx.oo) (WE.cons (Wx.int) (WE.nil)))
theorem ref14_local_p4_ok {s1 : List UInt8} {i12 : Int} {b5 : List UInt8} {H : AH}  {K : Exit → Env → AH → Prop} {t14 : Bool}
    (h : ref14_local_p4 s1 i12 = some t14)
    (kn : K .normal [(0, (.str s1)), (4, (.sl .own 1 (ml b8 b5))), (5, (.int .i64 i12)), (45, (.bool t14))] H) :
    AX Tryd.prog L_ref14_local 94 H.length c_ref14_local_p4 K [(0, (.str s1)), (4, (.sl .own 1 (ml b8 b5))), (5, (.int .i64 i12))] H := by
  refine AX.go (m := m_ref14_local_p4) rfl (by decide) fun K' hK => ?_
  rw [ref14_local_p4.eq_1] at h
  try simp only [WW, ↓reduceIte, nA, nB, nC, nD, nE, nF, nG, reduceCtorEq, L_ref14_local, m_ref14_local_p4, c_ref14_local_p4]
  rcases ifb h with ⟨hy12, h⟩ | ⟨hy12, h⟩
  · refine UG_nf hy12 ?_
    try simp only [WW, ↓reduceIte, nA, nB, nC, nD, nE, nF, nG, reduceCtorEq, L_ref14_local, hy12]
    have hq := Option.some.inj h; subst hq
    refine hK _ _ _ _ _ ?_ (WxH.refl _) (kn )
    exact WE.cons (Wx.str) (WE.cons (Wx.oo) (WE.cons (Wx.int) (WE.cons (Wx.bool) (WE.nil))))
  · refine UG_go hy12 ?_
    obtain ⟨x13, hy13, h⟩ := bnd' h
    try simp only [WW, ↓reduceIte, nA, nB, nC, nD, nE, nF, nG, reduceCtorEq, L_ref14_local, hy12, hy13]
    rcases ifb h with ⟨hy14, h⟩ | ⟨hy14, h⟩
    · refine UG_nf hy14 ?_
      try simp only [WW, ↓reduceIte, nA, nB, nC, nD, nE, nF, nG, reduceCtorEq, L_ref14_local, hy14]
      have hq := Option.some.inj h; subst hq
      refine hK _ _ _ _ _ ?_ (WxH.refl _) (kn )
      exact WE.cons (Wx.str) (WE.cons (Wx.oo) (WE.cons (Wx.int) (WE.cons (Wx.bool) (WE.nil))))
    · refine UG_go hy14 ?_
      try simp only [WW, ↓reduceIte, nA, nB, nC, nD, nE, nF, nG, reduceCtorEq, L_ref14_local, hy14, hy13]
      have hq := Option.some.inj h; subst hq
      refine hK _ _ _ _ _ ?_ (WxH.refl _) (kn )
      exact WE.cons (Wx.str) (WE.cons (Wx.oo) (WE.cons (Wx.int) (WE.cons (Wx.bool) (WE.nil))))
theorem ref14_local_l1_ok {F : Nat} {i6 : Int} {s1 : List UInt8} {b5 : List UInt8} {H : AH}  {K : Exit → Env → AH → Prop} {o : ((List UInt8) × Int) ⊕ ((List UInt8) × Int)}
    (h : iter (ref14_local_l1 s1) F (b5, i6) = some o)
    (kb0 : ∀ o' : (List UInt8) × Int, o = .inr o' → K (.exit 0) [(0, (.str s1)), (4, (.sl .own 1 (ml b8 o'.1))), (5, (.int .i64 o'.2))] H)
    (kr : ∀ o' : (List UInt8) × Int, o = .inl o' → K .ret [(2, (.str o'.1)), (3, (.int .i64 o'.2))] H) :
    AX Tryd.prog L_ref14_local 94 H.length c_ref14_local_l1 K [(0, (.str s1)), (4, (.sl .own 1 (ml b8 b5))), (5, (.int .i64 i6))] H := by
  refine AX.iter (m := m_ref14_local_l1b) rfl (by decide) (fun s e H1 => match s with | (b5, i6) => e = [(0, (.str s1)), (4, (.sl .own 1 (ml b8 b5))), (5, (.int .i64 i6))] ∧ H1 = H) h ⟨rfl, rfl⟩ ?_
  rintro K' ⟨b5, i6⟩ st e H ⟨rfl, rfl⟩ h hN hB hR hX
  rw [ref14_local_l1.eq_1] at h
  try simp only [WW, ↓reduceIte, nA, nB, nC, nD, nE, nF, nG, reduceCtorEq, L_ref14_local, m_ref14_local_l1b]
  obtain ⟨t9, hy7, h⟩ := bnd' h
  refine UX_of (AX.weak ?_ (WxH.refl _) (ref14_local_p2_ok  (i6 := i6) (s1 := s1) (b5 := b5) (t8 := t9)   hy7 ?_))
  · exact WE.cons (Wx.str) (WE.cons (Wx.oo) (WE.cons (Wx.int) (WE.nil)))
  try simp only [WW, ↓reduceIte, nA, nB, nC, nD, nE, nF, nG, reduceCtorEq, L_ref14_local]
  rcases ifb h with ⟨hy8, h⟩ | ⟨hy8, h⟩
  · refine UC_t hy8 ?_
    obtain ⟨x10, hy9, h⟩ := bnd' h
    try simp only [WW, ↓reduceIte, nA, nB, nC, nD, nE, nF, nG, reduceCtorEq, L_ref14_local, hy9]
    obtain ⟨i12, hy11, h⟩ := bnd' h
    refine UX_of (AX.weak ?_ (WxH.refl _) (ref14_local_p3_ok  (x10 := x10) (i6 := i6) (s1 := s1) (b5 := b5) (i11 := i12)   hy11 ?_))
    · exact WE.cons (Wx.str) (WE.cons (Wx.oo) (WE.cons (Wx.int) (WE.cons (Wx.bool) (WE.nil))))
    try simp only [WW, ↓reduceIte, nA, nB, nC, nD, nE, nF, nG, reduceCtorEq, L_ref14_local]
    obtain ⟨t15, hy15, h⟩ := bnd' h
    refine UX_of (AX.weak ?_ (WxH.refl _) (ref14_local_p4_ok  (s1 := s1) (i12 := i12) (b5 := b5) (t14 := t15)   hy15 ?_))
    · exact WE.cons (Wx.str) (WE.cons (Wx.oo) (WE.cons (Wx.int) (WE.nil)))
    try simp only [WW, ↓reduceIte, nA, nB, nC, nD, nE, nF, nG, reduceCtorEq, L_ref14_local]
    rcases ifb h with ⟨hy16, h⟩ | ⟨hy16, h⟩
    · refine UC_t hy16 ?_
      try simp only [WW, ↓reduceIte, nA, nB, nC, nD, nE, nF, nG, reduceCtorEq, L_ref14_local]
      have hq := Option.some.inj h; subst hq
      refine hX _ _ _ _ _ (by simp) ?_ (WxH.refl _) (kr _ (hR _ rfl) )
      exact WE.cons (Wx.str) (WE.cons (Wx.int) (WE.nil))
    · refine UC_f hy16 ?_
      obtain ⟨x16, hy17, h⟩ := bnd' h
      obtain ⟨x17, hy18, h⟩ := bnd' h
      have hy19 : capp 1 (ml b8 b5) [(b8 x16)] = some (ml b8 x17) := capp_m (f := b8) hy18
      try simp only [WW, ↓reduceIte, nA, nB, nC, nD, nE, nF, nG, reduceCtorEq, L_ref14_local, hy17, hy19]
      have hq := Option.some.inj h; subst hq
      refine hN _ rfl _ _ _ _ ?_ (WxH.refl _) ⟨rfl, rfl⟩
      exact WE.cons (Wx.str) (WE.cons (Wx.oo) (WE.cons (Wx.int) (WE.nil)))
  · refine UC_f hy8 ?_
    try simp only [WW, ↓reduceIte, nA, nB, nC, nD, nE, nF, nG, reduceCtorEq, L_ref14_local]
    have hq := Option.some.inj h; subst hq
    refine hX _ _ _ _ _ (by simp) ?_ (WxH.refl _) (kb0 _ (hB _ rfl) )
    exact WE.cons (Wx.str) (WE.cons (Wx.oo) (WE.cons (Wx.int) (WE.nil)))
theorem ref14_local_p5_ok {s1 : List UInt8} {b22 : List UInt8} {i23 : Int} {H : AH}  {K : Exit → Env → AH → Prop}
    (kn : K .normal [(4, (.sl .own 1 (ml b8 b22))), (5, (.int .i64 i23)), (62, (.bool ((decide ((s1.length : Int) ≤ i23)) || (decide ((b22.length : Int) = 0)))))] H) :
    AX Tryd.prog L_ref14_local 94 H.length c_ref14_local_p5 K [(0, (.str s1)), (4, (.sl .own 1 (ml b8 b22))), (5, (.int .i64 i23))] H := by
  refine AX.go (m := m_ref14_local_p5) rfl (by decide) fun K' hK => ?_
  try simp only [WW, ↓reduceIte, nA, nB, nC, nD, nE, nF, nG, reduceCtorEq, L_ref14_local, m_ref14_local_p5, c_ref14_local_p5]
  rcases bcases ((decide ((s1.length : Int) ≤ i23))) with hy21 | hy21
  · refine UG_nf hy21 ?_
    try simp only [WW, ↓reduceIte, nA, nB, nC, nD, nE, nF, nG, reduceCtorEq, L_ref14_local, hy21]
    refine hK _ _ _ _ _ ?_ (WxH.refl _) (kn )
    exact WE.cons (Wx.oo) (WE.cons (Wx.int) (WE.cons (Wx.boolE (by simp only [hy21, WB])) (WE.nil)))
  · refine UG_go hy21 ?_
    try simp only [WW, ↓reduceIte, nA, nB, nC, nD, nE, nF, nG, reduceCtorEq, L_ref14_local, hy21]
    refine hK _ _ _ _ _ ?_ (WxH.refl _) (kn )
    exact WE.cons (Wx.oo) (WE.cons (Wx.int) (WE.cons (Wx.boolE (by simp only [hy21, WB])) (WE.nil)))
theorem ref14_local_p6_ok {F : Nat} {nn27 : Int} {s1 : List UInt8} {H : AH}  {K : Exit → Env → AH → Prop} {t30 : Bool}
    (h : ref14_local_p6 F nn27 s1 = some t30)
    (kn : K .normal [(0, (.str s1)), (6, (.int .i64 nn27)), (82, (.bool t30))] H) :
    AX Tryd.prog L_ref14_local 94 H.length c_ref14_local_p6 K [(0, (.str s1)), (6, (.int .i64 nn27))] H := by
  refine AX.go (m := m_ref14_local_p6) rfl (by decide) fun K' hK => ?_
  rw [ref14_local_p6.eq_1] at h
  try simp only [WW, ↓reduceIte, nA, nB, nC, nD, nE, nF, nG, reduceCtorEq, L_ref14_local, m_ref14_local_p6, c_ref14_local_p6]
  rcases ifb h with ⟨hy23, h⟩ | ⟨hy23, h⟩
  · refine UG_go hy23 ?_
    obtain ⟨x28, hy24, h⟩ := bnd' h
    try simp only [WW, ↓reduceIte, nA, nB, nC, nD, nE, nF, nG, reduceCtorEq, L_ref14_local, hy23, hy24]
    obtain ⟨r29, hy25, h⟩ := bnd' h
    refine UK_e (as' := [(b8 x28)]) (h := ref14_atext_ok (c1 := x28) (F := F)  hy25) (hw := WL.cons (Wx.b8) (WL.nil)) (hh := WxH.refl _) ?_
    try simp only [WW, ↓reduceIte, nA, nB, nC, nD, nE, nF, nG, reduceCtorEq, L_ref14_local]
    rcases ifb h with ⟨hy26, h⟩ | ⟨hy26, h⟩
    · refine UG_nf hy26 ?_
      try simp only [WW, ↓reduceIte, nA, nB, nC, nD, nE, nF, nG, reduceCtorEq, L_ref14_local, hy26]
      have hq := Option.some.inj h; subst hq
      refine hK _ _ _ _ _ ?_ (WxH.refl _) (kn )
      exact WE.cons (Wx.str) (WE.cons (Wx.int) (WE.cons (Wx.bool) (WE.nil)))
    · refine UG_go hy26 ?_
      try simp only [WW, ↓reduceIte, nA, nB, nC, nD, nE, nF, nG, reduceCtorEq, L_ref14_local, hy26, hy24]
      have hq := Option.some.inj h; subst hq
      refine hK _ _ _ _ _ ?_ (WxH.refl _) (kn )
      exact WE.cons (Wx.str) (WE.cons (Wx.int) (WE.cons (Wx.bool) (WE.nil)))
  · refine UG_nt hy23 ?_
    try simp only [WW, ↓reduceIte, nA, nB, nC, nD, nE, nF, nG, reduceCtorEq, L_ref14_local, hy23]
    have hq := Option.some.inj h; subst hq
    refine hK _ _ _ _ _ ?_ (WxH.refl _) (kn )
    exact WE.cons (Wx.str) (WE.cons (Wx.int) (WE.cons (Wx.bool) (WE.nil)))
theorem ref14_local_l2_ok {F : Nat} {nn27 : Int} {s1 : List UInt8} {H : AH}  {K : Exit → Env → AH → Prop} {o : ((List UInt8) × Int) ⊕ (Int)}
    (h : iter (ref14_local_l2 F s1) F nn27 = some o)
    (kb2 : ∀ o' : Int, o = .inr o' → K (.exit 2) [(0, (.str s1)), (6, (.int .i64 o'))] H) :
    AX Tryd.prog L_ref14_local 94 H.length c_ref14_local_l2 K [(0, (.str s1)), (6, (.int .i64 nn27))] H := by
  refine AX.iter (m := m_ref14_local_l2b) rfl (by decide) (fun s e H1 => match s with | nn27 => e = [(0, (.str s1)), (6, (.int .i64 nn27))] ∧ H1 = H) h ⟨rfl, rfl⟩ ?_
  rintro K' nn27 st e H ⟨rfl, rfl⟩ h hN hB hR hX
  rw [ref14_local_l2.eq_1] at h
  try simp only [WW, ↓reduceIte, nA, nB, nC, nD, nE, nF, nG, reduceCtorEq, L_ref14_local, m_ref14_local_l2b]
  obtain ⟨t31, hy27, h⟩ := bnd' h
  refine UX_of (AX.weak ?_ (WxH.refl _) (ref14_local_p6_ok (F := F) (nn27 := nn27) (s1 := s1) (t30 := t31)   hy27 ?_))
  · exact WE.cons (Wx.str) (WE.cons (Wx.int) (WE.nil))
  try simp only [WW, ↓reduceIte, nA, nB, nC, nD, nE, nF, nG, reduceCtorEq, L_ref14_local]
  rcases ifb h with ⟨hy28, h⟩ | ⟨hy28, h⟩
  · refine UC_t hy28 ?_
    try simp only [WW, ↓reduceIte, nA, nB, nC, nD, nE, nF, nG, reduceCtorEq, L_ref14_local]
    have hq := Option.some.inj h; subst hq
    refine hN _ rfl _ _ _ _ ?_ (WxH.refl _) ⟨rfl, rfl⟩
    exact WE.cons (Wx.str) (WE.cons (Wx.int) (WE.nil))
  · refine UC_f hy28 ?_
    try simp only [WW, ↓reduceIte, nA, nB, nC, nD, nE, nF, nG, reduceCtorEq, L_ref14_local]
    have hq := Option.some.inj h; subst hq
    refine hX _ _ _ _ _ (by simp) ?_ (WxH.refl _) (kb2 _ (hB _ rfl) )
    exact WE.cons (Wx.str) (WE.cons (Wx.int) (WE.nil))
theorem ref14_local_ok {F : Nat} {s1 : List UInt8}  {H0 : AH}  {rz0 : List UInt8} {rz1 : Int} (h : ref14_local F s1 = some (rz0, rz1)) :
    ACalls Tryd.prog 73 [(.str s1)] H0 fun v H' => v = (.tup [(.str rz0), (.int .i64 rz1)]) ∧ H' = H0 := by
  refine ACalls.goX k_ref14_local (m := m_ref14_local) rfl L_ref14_local (by decide) (by simp) fun hcl K0 hK0 => ?_
  refine AX.of_U (m := m_ref14_local) rfl (by decide) ?_
  rw [ref14_local.eq_1] at h
  try simp only [WW, ↓reduceIte, nA, nB, nC, nD, nE, nF, nG, reduceCtorEq, L_ref14_local, m_ref14_local]
  obtain ⟨t4, hy3, h⟩ := bnd' h
  refine UX_of (AX.weak ?_ (WxH.refl _) (ref14_local_p1_ok  (s1 := s1) (t3 := t4)   hy3 ?_))
  · exact WE.cons (Wx.str) (WE.nil)
  try simp only [WW, ↓reduceIte, nA, nB, nC, nD, nE, nF, nG, reduceCtorEq, L_ref14_local]
  rcases ifb h with ⟨hy4, h⟩ | ⟨hy4, h⟩
  · refine UC_t hy4 ?_
    try simp only [WW, ↓reduceIte, nA, nB, nC, nD, nE, nF, nG, reduceCtorEq, L_ref14_local]
    obtain ⟨o26, hy20, h⟩ := bnd' h
    refine UX_of (AX.weak ?_ (WxH.refl _) (ref14_local_l1_ok  (s1 := s1) (b5 := ([] : List UInt8)) (i6 := 1)   (o := o26) hy20 ?_ ?_))
    · exact WE.cons (Wx.str) (WE.cons (Wx.own ..) (WE.cons (Wx.int) (WE.nil)))
    · rintro ⟨b22, i23⟩ rfl  
      try dsimp only at h 
      try simp only [WW, ↓reduceIte, nA, nB, nC, nD, nE, nF, nG, reduceCtorEq, L_ref14_local]
      refine UX_of (AX.weak ?_ (WxH.refl _) (ref14_local_p5_ok (s1 := s1) (b22 := b22) (i23 := i23)  ?_))
      · exact WE.cons (Wx.str) (WE.cons (Wx.oo) (WE.cons (Wx.int) (WE.nil)))
      try simp only [WW, ↓reduceIte, nA, nB, nC, nD, nE, nF, nG, reduceCtorEq, L_ref14_local]
      rcases ifb h with ⟨hy22, h⟩ | ⟨hy22, h⟩
      · refine UC_t hy22 ?_
        try simp only [WW, ↓reduceIte, nA, nB, nC, nD, nE, nF, nG, reduceCtorEq, L_ref14_local]
        have hq := Option.some.inj h; have hq0 := (Prod.mk.inj hq).1; replace hq := (Prod.mk.inj hq).2; subst hq0; subst hq
        refine hK0 _ _ _ (.inr rfl) ?_
        exact fn_endp hcl (resv_tmp (a := (.str ([] : List UInt8))) rfl rfl (resv_tmp (a := (.int .i64 (-1))) rfl rfl resv_nil)) (by first | (simp [fin, b_df, b_sh, b_sh1, b_Cl]; done) | (simp [fin, AV.df, AV.sh, AV.sh1, b_df, b_sh, b_sh1, b_Cl]; done)) (Wx.tupX (W2L.same (W2L.same (W2L.nil)))) (r' := (.tup [(.str ([] : List UInt8)), (.int .i64 (-1))])) ⟨rfl, rfl⟩
      · refine UC_f hy22 ?_
        try simp only [WW, ↓reduceIte, nA, nB, nC, nD, nE, nF, nG, reduceCtorEq, L_ref14_local]
        have hq := Option.some.inj h; have hq0 := (Prod.mk.inj hq).1; replace hq := (Prod.mk.inj hq).2; subst hq0; subst hq
        refine hK0 _ _ _ (.inr rfl) ?_
        exact fn_endp hcl (resv_tmp (a := (.str b22)) rfl rfl (resv_tmp (a := (.int .i64 (IntKind.wrap .i64 (i23 + 1)))) rfl rfl resv_nil)) (by first | (simp [fin, b_df, b_sh, b_sh1, b_Cl]; done) | (simp [fin, AV.df, AV.sh, AV.sh1, b_df, b_sh, b_sh1, b_Cl]; done)) (Wx.tupX (W2L.same (W2L.same (W2L.nil)))) (r' := (.tup [(.str b22), (.int .i64 (IntKind.wrap .i64 (i23 + 1)))])) ⟨rfl, rfl⟩
    · rintro ⟨r24, r25⟩ rfl  
      try dsimp only at h 
      try simp only [WW, ↓reduceIte, nA, nB, nC, nD, nE, nF, nG, reduceCtorEq, L_ref14_local]
      have hq := Option.some.inj h; have hq0 := (Prod.mk.inj hq).1; replace hq := (Prod.mk.inj hq).2; subst hq0; subst hq
      refine hK0 _ _ _ (.inr rfl) ?_
      exact fn_endp hcl (resv_tmp (a := (.str r24)) rfl rfl (resv_tmp (a := (.int .i64 r25)) rfl rfl resv_nil)) (by first | (simp [fin, b_df, b_sh, b_sh1, b_Cl]; done) | (simp [fin, AV.df, AV.sh, AV.sh1, b_df, b_sh, b_sh1, b_Cl]; done)) (Wx.tupX (W2L.same (W2L.same (W2L.nil)))) (r' := (.tup [(.str r24), (.int .i64 r25)])) ⟨rfl, rfl⟩
  · refine UC_f hy4 ?_
    try simp only [WW, ↓reduceIte, nA, nB, nC, nD, nE, nF, nG, reduceCtorEq, L_ref14_local]
    obtain ⟨o36, hy29, h⟩ := bnd' h
    refine UX_of (AX.weak ?_ (WxH.refl _) (ref14_local_l2_ok  (s1 := s1) (nn27 := 0)   (o := o36) hy29 ?_))
    · exact WE.cons (Wx.str) (WE.cons (Wx.int) (WE.nil))
    · rintro nn33 rfl  
      try dsimp only at h 
      obtain ⟨x34, hy30, h⟩ := bnd' h
      try simp only [WW, ↓reduceIte, nA, nB, nC, nD, nE, nF, nG, reduceCtorEq, L_ref14_local, hy30]
      obtain ⟨r35, hy31, h⟩ := bnd' h
      refine UK_e (as' := [(.str x34)]) (h := ref14_plain_ok (s1 := x34) (F := F)  hy31) (hw := WL.cons (Wx.str) (WL.nil)) (hh := WxH.refl _) ?_
      try simp only [WW, ↓reduceIte, nA, nB, nC, nD, nE, nF, nG, reduceCtorEq, L_ref14_local]
      rcases ifb h with ⟨hy32, h⟩ | ⟨hy32, h⟩
      · refine UC_t hy32 ?_
        try simp only [WW, ↓reduceIte, nA, nB, nC, nD, nE, nF, nG, reduceCtorEq, L_ref14_local]
        have hq := Option.some.inj h; have hq0 := (Prod.mk.inj hq).1; replace hq := (Prod.mk.inj hq).2; subst hq0; subst hq
        refine hK0 _ _ _ (.inr rfl) ?_
        exact fn_endp hcl (resv_tmp (a := (.str ([] : List UInt8))) rfl rfl (resv_tmp (a := (.int .i64 (-1))) rfl rfl resv_nil)) (by first | (simp [fin, b_df, b_sh, b_sh1, b_Cl]; done) | (simp [fin, AV.df, AV.sh, AV.sh1, b_df, b_sh, b_sh1, b_Cl]; done)) (Wx.tupX (W2L.same (W2L.same (W2L.nil)))) (r' := (.tup [(.str ([] : List UInt8)), (.int .i64 (-1))])) ⟨rfl, rfl⟩
      · refine UC_f hy32 ?_
        try simp only [WW, ↓reduceIte, nA, nB, nC, nD, nE, nF, nG, reduceCtorEq, L_ref14_local, hy30]
        have hq := Option.some.inj h; have hq0 := (Prod.mk.inj hq).1; replace hq := (Prod.mk.inj hq).2; subst hq0; subst hq
        refine hK0 _ _ _ (.inr rfl) ?_
        exact fn_endp hcl (resv_tmp (a := (.str x34)) rfl rfl (resv_tmp (a := (.int .i64 nn33)) rfl rfl resv_nil)) (by first | (simp [fin, b_df, b_sh, b_sh1, b_Cl]; done) | (simp [fin, AV.df, AV.sh, AV.sh1, b_df, b_sh, b_sh1, b_Cl]; done)) (Wx.tupX (W2L.same (W2L.same (W2L.nil)))) (r' := (.tup [(.str x34), (.int .i64 nn33)])) ⟨rfl, rfl⟩

/-! ### mailbag/mailbagref14.Path -/
def c_ref14_Path_p1 : ACode := (.rg [⟨(some 11), (.mv (.t 0)), none⟩, ⟨(some 12), (.bin .eql (.t 11) (.c (.str []))), none⟩, ⟨(some 13), (.mv (.t 12)), none⟩, ⟨(some 14), (.mv (.t 0)), (some (13, false))⟩, ⟨(some 15), (.ixs (.t 14) (.c (.int .i64 0))), (some (13, false))⟩, ⟨(some 16), (.bin .neq (.t 15) (.c (b8 60))), (some (13, false))⟩, ⟨(some 17), (.pick (.t 13) (.c (.bool true)) (.t 16)), none⟩])
abbrev m_ref14_Path_p1 := c_ref14_Path_p1
def c_ref14_Path_p2 : ACode := (.rg [⟨(some 19), (.mv (.t 0)), none⟩, ⟨(some 20), (.lens (.t 19)), none⟩, ⟨(some 21), (.bin .gtr (.t 20) (.c (.int .i64 1))), none⟩, ⟨(some 22), (.mv (.t 21)), none⟩, ⟨(some 23), (.mv (.t 0)), (some (22, true))⟩, ⟨(some 24), (.ixs (.t 23) (.c (.int .i64 1))), (some (22, true))⟩, ⟨(some 25), (.bin .eql (.t 24) (.c (b8 62))), (some (22, true))⟩, ⟨(some 26), (.pick (.t 22) (.t 25) (.c (.bool false))), none⟩])
abbrev m_ref14_Path_p2 := c_ref14_Path_p2
def c_ref14_Path_p3 : ACode := (.rg [⟨(some 45), (.mv (.t 8)), none⟩, ⟨(some 46), (.bin .lss (.t 45) (.c (.int .i64 0))), none⟩, ⟨(some 47), (.mv (.t 46)), none⟩, ⟨(some 48), (.mv (.t 8)), (some (47, false))⟩, ⟨(some 49), (.mv (.t 6)), (some (47, false))⟩, ⟨(some 50), (.lens (.t 49)), (some (47, false))⟩, ⟨(some 51), (.bin .geq (.t 48) (.t 50)), (some (47, false))⟩, ⟨(some 52), (.pick (.t 47) (.c (.bool true)) (.t 51)), none⟩, ⟨(some 53), (.mv (.t 52)), none⟩, ⟨(some 54), (.mv (.t 6)), (some (53, false))⟩, ⟨(some 55), (.mv (.t 8)), (some (53, false))⟩, ⟨(some 56), (.ixs (.t 54) (.t 55)), (some (53, false))⟩, ⟨(some 57), (.bin .neq (.t 56) (.c (b8 64))), (some (53, false))⟩, ⟨(some 58), (.pick (.t 53) (.c (.bool true)) (.t 57)), none⟩])
abbrev m_ref14_Path_p3 := c_ref14_Path_p3
def c_ref14_Path_p4 : ACode := (.rg [⟨(some 66), (.mv (.t 6)), none⟩, ⟨(some 67), (.mv (.t 9)), none⟩, ⟨(some 68), (.sls (.t 66) none (some (.t 67))), none⟩, ⟨(some 69), (.call (.c (.fn 75 [])) [(.t 68)]), none⟩, ⟨(some 70), (.un .not (.t 69)), none⟩, ⟨(some 71), (.mv (.t 70)), none⟩, ⟨(some 72), (.mv (.t 9)), (some (71, false))⟩, ⟨(some 73), (.mv (.t 6)), (some (71, false))⟩, ⟨(some 74), (.lens (.t 73)), (some (71, false))⟩, ⟨(some 75), (.bin .geq (.t 72) (.t 74)), (some (71, false))⟩, ⟨(some 76), (.pick (.t 71) (.c (.bool true)) (.t 75)), none⟩, ⟨(some 77), (.mv (.t 76)), none⟩, ⟨(some 78), (.mv (.t 6)), (some (77, false))⟩, ⟨(some 79), (.mv (.t 9)), (some (77, false))⟩, ⟨(some 80), (.ixs (.t 78) (.t 79)), (some (77, false))⟩, ⟨(some 81), (.bin .neq (.t 80) (.c (b8 62))), (some (77, false))⟩, ⟨(some 82), (.pick (.t 77) (.c (.bool true)) (.t 81)), none⟩])
abbrev m_ref14_Path_p4 := c_ref14_Path_p4
def c_ref14_Path_p5 : ACode := (.rg [⟨(some 93), (.lde (.t 10) (some 2)), none⟩, ⟨(some 94), (.mv (.t 6)), none⟩, ⟨(some 95), (.mv (.t 9)), none⟩, ⟨(some 96), (.bin .add (.t 95) (.c (.int .i64 1))), none⟩, ⟨(some 97), (.sls (.t 94) (some (.t 96)) none), none⟩, ⟨none, (.st (.t 2) (.t 93) 2), none⟩, ⟨(some 3), (.asg (.t 97)), none⟩, ⟨(some 4), (.asg (.c (.int .i64 0))), none⟩])
abbrev m_ref14_Path_p5 := c_ref14_Path_p5
def c_ref14_Path : ACode := (.seq (.rg [⟨(some 2), (.alloc [(.str []), (.str [])]), none⟩, ⟨(some 3), (.asg (.c (.str []))), none⟩, ⟨(some 4), (.asg (.c (.int .i64 0))), none⟩]) (.seq (.seq c_ref14_Path_p1 (.cond (.t 17) (.seq (.rg [⟨(some 18), (.build [(.str []), (.str [])] []), none⟩, ⟨none, (.st (.t 2) (.t 18) 2), none⟩, ⟨(some 3), (.asg (.c (.str []))), none⟩, ⟨(some 4), (.asg (.c (.int .i64 3))), none⟩]) .ret) .skip)) (.seq (.seq c_ref14_Path_p2 (.cond (.t 26) (.seq (.rg [⟨(some 27), (.build [(.str []), (.str [])] []), none⟩, ⟨(some 28), (.mv (.t 0)), none⟩, ⟨(some 29), (.sls (.t 28) (some (.c (.int .i64 2))) none), none⟩, ⟨none, (.st (.t 2) (.t 27) 2), none⟩, ⟨(some 3), (.asg (.t 29)), none⟩, ⟨(some 4), (.asg (.c (.int .i64 0))), none⟩]) .ret) .skip)) (.seq (.rg [⟨(some 30), (.mv (.t 0)), none⟩, ⟨(some 31), (.sls (.t 30) (some (.c (.int .i64 1))) none), none⟩, ⟨(some 32), (.call (.c (.fn 72 [])) [(.t 31)]), none⟩, ⟨(some 5), (.asg (.t 32)), none⟩]) (.seq (.seq (.rg [⟨(some 33), (.mv (.t 5)), none⟩, ⟨(some 34), (.bin .lss (.t 33) (.c (.int .i64 0))), none⟩]) (.cond (.t 34) (.seq (.rg [⟨(some 35), (.build [(.str []), (.str [])] []), none⟩, ⟨none, (.st (.t 2) (.t 35) 2), none⟩, ⟨(some 3), (.asg (.c (.str []))), none⟩, ⟨(some 4), (.asg (.c (.int .i64 3))), none⟩]) .ret) .skip)) (.seq (.rg [⟨(some 36), (.mv (.t 0)), none⟩, ⟨(some 37), (.mv (.t 5)), none⟩, ⟨(some 38), (.bin .add (.c (.int .i64 1)) (.t 37)), none⟩, ⟨(some 39), (.sls (.t 36) (some (.t 38)) none), none⟩, ⟨(some 6), (.asg (.t 39)), none⟩]) (.seq (.rg [⟨(some 41), (.mv (.t 6)), none⟩, ⟨(some 42), (.call (.c (.fn 73 [])) [(.t 41)]), none⟩, ⟨(some 40), (.mv (.t 42)), none⟩, ⟨(some 43), (.ext (.t 40) 0), none⟩, ⟨(some 44), (.ext (.t 40) 1), none⟩, ⟨(some 7), (.asg (.t 43)), none⟩, ⟨(some 8), (.asg (.t 44)), none⟩]) (.seq (.seq c_ref14_Path_p3 (.cond (.t 58) (.seq (.rg [⟨(some 59), (.build [(.str []), (.str [])] []), none⟩, ⟨none, (.st (.t 2) (.t 59) 2), none⟩, ⟨(some 3), (.asg (.c (.str []))), none⟩, ⟨(some 4), (.asg (.c (.int .i64 3))), none⟩]) .ret) .skip)) (.seq (.rg [⟨(some 60), (.mv (.t 6)), none⟩, ⟨(some 61), (.mv (.t 8)), none⟩, ⟨(some 62), (.bin .add (.t 61) (.c (.int .i64 1))), none⟩, ⟨(some 63), (.sls (.t 60) (some (.t 62)) none), none⟩, ⟨(some 6), (.asg (.t 63)), none⟩]) (.seq (.rg [⟨(some 64), (.mv (.t 6)), none⟩, ⟨(some 65), (.call (.c (.fn 74 [])) [(.t 64)]), none⟩, ⟨(some 9), (.asg (.t 65)), none⟩]) (.seq (.seq c_ref14_Path_p4 (.cond (.t 82) (.seq (.rg [⟨(some 83), (.build [(.str []), (.str [])] []), none⟩, ⟨none, (.st (.t 2) (.t 83) 2), none⟩, ⟨(some 3), (.asg (.c (.str []))), none⟩, ⟨(some 4), (.asg (.c (.int .i64 3))), none⟩]) .ret) .skip)) (.seq (.rg [⟨(some 84), (.mv (.t 7)), none⟩, ⟨(some 85), (.mv (.t 6)), none⟩, ⟨(some 86), (.mv (.t 9)), none⟩, ⟨(some 87), (.sls (.t 85) none (some (.t 86))), none⟩, ⟨(some 88), (.build [(.str []), (.str [])] [(0, (1, (.t 84))), (1, (1, (.t 87)))]), none⟩, ⟨(some 10), (.alloc [(.str []), (.str [])]), none⟩, ⟨none, (.st (.t 10) (.t 88) 2), none⟩]) (.seq (.seq (.rg [⟨(some 89), (.ld (.t 10) (some 2)), none⟩, ⟨(some 90), (.call (.c (.fn 44 [])) [(.t 89)]), none⟩, ⟨(some 91), (.un .not (.t 90)), none⟩]) (.cond (.t 91) (.seq (.rg [⟨(some 92), (.build [(.str []), (.str [])] []), none⟩, ⟨none, (.st (.t 2) (.t 92) 2), none⟩, ⟨(some 3), (.asg (.c (.str []))), none⟩, ⟨(some 4), (.asg (.c (.int .i64 5))), none⟩]) .ret) .skip)) (.seq c_ref14_Path_p5 .ret))))))))))))))
def m_ref14_Path : ACode := (.seq (.rg [⟨(some 2), (.alloc [(.str []), (.str [])]), none⟩, ⟨(some 3), (.asg (.c (.str []))), none⟩, ⟨(some 4), (.asg (.c (.int .i64 0))), none⟩]) (.seq (.seq (.sem c_ref14_Path_p1) (.cond (.t 17) (.seq (.rg [⟨(some 18), (.build [(.str []), (.str [])] []), none⟩, ⟨none, (.st (.t 2) (.t 18) 2), none⟩, ⟨(some 3), (.asg (.c (.str []))), none⟩, ⟨(some 4), (.asg (.c (.int .i64 3))), none⟩]) .ret) .skip)) (.seq (.seq (.sem c_ref14_Path_p2) (.cond (.t 26) (.seq (.rg [⟨(some 27), (.build [(.str []), (.str [])] []), none⟩, ⟨(some 28), (.mv (.t 0)), none⟩, ⟨(some 29), (.sls (.t 28) (some (.c (.int .i64 2))) none), none⟩, ⟨none, (.st (.t 2) (.t 27) 2), none⟩, ⟨(some 3), (.asg (.t 29)), none⟩, ⟨(some 4), (.asg (.c (.int .i64 0))), none⟩]) .ret) .skip)) (.seq (.rg [⟨(some 30), (.mv (.t 0)), none⟩, ⟨(some 31), (.sls (.t 30) (some (.c (.int .i64 1))) none), none⟩, ⟨(some 32), (.call (.c (.fn 72 [])) [(.t 31)]), none⟩, ⟨(some 5), (.asg (.t 32)), none⟩]) (.seq (.seq (.rg [⟨(some 33), (.mv (.t 5)), none⟩, ⟨(some 34), (.bin .lss (.t 33) (.c (.int .i64 0))), none⟩]) (.cond (.t 34) (.seq (.rg [⟨(some 35), (.build [(.str []), (.str [])] []), none⟩, ⟨none, (.st (.t 2) (.t 35) 2), none⟩, ⟨(some 3), (.asg (.c (.str []))), none⟩, ⟨(some 4), (.asg (.c (.int .i64 3))), none⟩]) .ret) .skip)) (.seq (.rg [⟨(some 36), (.mv (.t 0)), none⟩, ⟨(some 37), (.mv (.t 5)), none⟩, ⟨(some 38), (.bin .add (.c (.int .i64 1)) (.t 37)), none⟩, ⟨(some 39), (.sls (.t 36) (some (.t 38)) none), none⟩, ⟨(some 6), (.asg (.t 39)), none⟩]) (.seq (.rg [⟨(some 41), (.mv (.t 6)), none⟩, ⟨(some 42), (.call (.c (.fn 73 [])) [(.t 41)]), none⟩, ⟨(some 40), (.mv (.t 42)), none⟩, ⟨(some 43), (.ext (.t 40) 0), none⟩, ⟨(some 44), (.ext (.t 40) 1), none⟩, ⟨(some 7), (.asg (.t 43)), none⟩, ⟨(some 8), (.asg (.t 44)), none⟩]) (.seq (.seq (.sem c_ref14_Path_p3) (.cond (.t 58) (.seq (.rg [⟨(some 59), (.build [(.str []), (.str [])] []), none⟩, ⟨none, (.st (.t 2) (.t 59) 2), none⟩, ⟨(some 3), (.asg (.c (.str []))), none⟩, ⟨(some 4), (.asg (.c (.int .i64 3))), none⟩]) .ret) .skip)) (.seq (.rg [⟨(some 60), (.mv (.t 6)), none⟩, ⟨(some 61), (.mv (.t 8)), none⟩, ⟨(some 62), (.bin .add (.t 61) (.c (.int .i64 1))), none⟩, ⟨(some 63), (.sls (.t 60) (some (.t 62)) none), none⟩, ⟨(some 6), (.asg (.t 63)), none⟩]) (.seq (.rg [⟨(some 64), (.mv (.t 6)), none⟩, ⟨(some 65), (.call (.c (.fn 74 [])) [(.t 64)]), none⟩, ⟨(some 9), (.asg (.t 65)), none⟩]) (.seq (.seq (.sem c_ref14_Path_p4) (.cond (.t 82) (.seq (.rg [⟨(some 83), (.build [(.str []), (.str [])] []), none⟩, ⟨none, (.st (.t 2) (.t 83) 2), none⟩, ⟨(some 3), (.asg (.c (.str []))), none⟩, ⟨(some 4), (.asg (.c (.int .i64 3))), none⟩]) .ret) .skip)) (.seq (.rg [⟨(some 84), (.mv (.t 7)), none⟩, ⟨(some 85), (.mv (.t 6)), none⟩, ⟨(some 86), (.mv (.t 9)), none⟩, ⟨(some 87), (.sls (.t 85) none (some (.t 86))), none⟩, ⟨(some 88), (.build [(.str []), (.str [])] [(0, (1, (.t 84))), (1, (1, (.t 87)))]), none⟩, ⟨(some 10), (.alloc [(.str []), (.str [])]), none⟩, ⟨none, (.st (.t 10) (.t 88) 2), none⟩]) (.seq (.seq (.rg [⟨(some 89), (.ld (.t 10) (some 2)), none⟩, ⟨(some 90), (.call (.c (.fn 44 [])) [(.t 89)]), none⟩, ⟨(some 91), (.un .not (.t 90)), none⟩]) (.cond (.t 91) (.seq (.rg [⟨(some 92), (.build [(.str []), (.str [])] []), none⟩, ⟨none, (.st (.t 2) (.t 92) 2), none⟩, ⟨(some 3), (.asg (.c (.str []))), none⟩, ⟨(some 4), (.asg (.c (.int .i64 5))), none⟩]) .ret) .skip)) (.seq (.sem c_ref14_Path_p5) .ret))))))))))))))
theorem k_ref14_Path : FnOk Tryd.prog 34 98 [(.cell 2 52), (.tmp 3), (.tmp 4)] c_ref14_Path := ⟨Tryd.f34, _, rfl, by decide, rfl, by kernel_rfl, rfl, rfl⟩
abbrev L_ref14_Path : List Nat := [0, 2, 3, 4, 5, 6, 7, 8, 9, 10, 17, 26, 34, 58, 82, 91]
def ref14_Path_p1 (s1 : List UInt8) : Option (Bool) :=
  (if (decide (s1 = ([] : List UInt8))) then
    some true
  else
    (idx s1 0).bind fun x3 => some (!decide (x3 = 60)))
def ref14_Path_p2 (s1 : List UInt8) : Option (Bool) :=
  (if (decide (1 < (s1.length : Int))) then
    (idx s1 1).bind fun x7 => some (decide (x7 = 62))
  else
    some false)
def ref14_Path_p3 (r15 : Int) (x13 : List UInt8) : Option (Bool) :=
  (if (decide (r15 < 0)) then
    some true
  else
    (if (decide ((x13.length : Int) ≤ r15)) then
      some true
    else
      (idx x13 r15).bind fun x17 => some (!decide (x17 = 64))))
def ref14_Path_p4 (F : Nat) (x20 : List UInt8) (r21 : Int) : Option (Bool) :=
  (sub x20 0 r21).bind fun x23 =>
  (ref14_shape F x23).bind fun r24 =>
  (if (!r24) then
    some true
  else
    (if (decide ((x20.length : Int) ≤ r21)) then
      some true
    else
      (idx x20 r21).bind fun x25 => some (!decide (x25 = 62))))
def ref14_Path_p5 (x20 : List UInt8) (r21 : Int) (r14 : List UInt8) (x28 : List UInt8) : Option ((List UInt8) × Int × AddressV) :=
  (sub x20 (IntKind.wrap .i64 (r21 + 1)) (x20.length : Int)).bind fun x31 => some (x31, 0, (AddressV.mk r14 x28))
def ref14_Path (F : Nat) (s1 : List UInt8) : Option (AddressV × (List UInt8) × Int) :=
  (ref14_Path_p1 s1).bind fun t5 =>
  (if t5 then
    some ((AddressV.mk ([] : List UInt8) ([] : List UInt8)), ([] : List UInt8), 3)
  else
    (ref14_Path_p2 s1).bind fun t9 =>
    (if t9 then
      (sub s1 2 (s1.length : Int)).bind fun x10 =>
      some ((AddressV.mk ([] : List UInt8) ([] : List UInt8)), x10, 0)
    else
      (sub s1 1 (s1.length : Int)).bind fun x11 =>
      (ref14_route F x11).bind fun r12 =>
      (if (decide (r12 < 0)) then
        some ((AddressV.mk ([] : List UInt8) ([] : List UInt8)), ([] : List UInt8), 3)
      else
        (sub s1 (IntKind.wrap .i64 (1 + r12)) (s1.length : Int)).bind fun x13 =>
        (ref14_local F x13).bind fun (r14, r15) =>
        (ref14_Path_p3 r15 x13).bind fun t19 =>
        (if t19 then
          some ((AddressV.mk ([] : List UInt8) ([] : List UInt8)), ([] : List UInt8), 3)
        else
          (sub x13 (IntKind.wrap .i64 (r15 + 1)) (x13.length : Int)).bind fun x20 =>
          (ref14_domain F x20).bind fun r21 =>
          (ref14_Path_p4 F x20 r21).bind fun t27 =>
          (if t27 then
            some ((AddressV.mk ([] : List UInt8) ([] : List UInt8)), ([] : List UInt8), 3)
          else
            (sub x20 0 r21).bind fun x28 =>
            (ref14_Right F (AddressV.mk r14 x28)).bind fun r29 =>
            (if (!r29) then
              some ((AddressV.mk ([] : List UInt8) ([] : List UInt8)), ([] : List UInt8), 5)
            else
              (ref14_Path_p5 x20 r21 r14 x28).bind fun (t35, t36, s37) =>
              some (s37, t35, t36)))))))
theorem ref14_Path_p1_ok {s1 : List UInt8} {q2 : Nat} {H0 H : AH} (hfr : Fr H0 H0.length [] H) (hs_o1 : H[q2]? = some [(.str ([] : List UInt8)), (.str ([] : List UInt8))]) (hi0 : H0.length ≤ q2) {K : Exit → Env → AH → Prop} {t4 : Bool}
    (h : ref14_Path_p1 s1 = some t4)
    (kn : ∀ H' : AH, Fr H0 H0.length [] H' → H'[q2]? = some [(.str ([] : List UInt8)), (.str ([] : List UInt8))] → K .normal [(0, (.str s1)), (2, (.ptr q2 0)), (17, (.bool t4))] H') :
    AX Tryd.prog L_ref14_Path 98 H0.length c_ref14_Path_p1 K [(0, (.str s1)), (2, (.ptr q2 0))] H := by
  refine AX.go (m := m_ref14_Path_p1) rfl (by decide) fun K' hK => ?_
  have hle := hfr.le
  have hl_o1 := h_lt hs_o1
  rw [ref14_Path_p1.eq_1] at h
  try simp (disch := first | assumption | omega | (simp only [h_sl, h_al] <;> omega) | fail) only [WW, WH, ↓reduceIte, nA, nB, nC, nD, nE, nF, nG, reduceCtorEq, L_ref14_Path, m_ref14_Path_p1, c_ref14_Path_p1, hs_o1]
  rcases ifb h with ⟨hy1, h⟩ | ⟨hy1, h⟩
  · refine UG_nf hy1 ?_
    try simp (disch := first | assumption | omega | (simp only [h_sl, h_al] <;> omega) | fail) only [WW, WH, ↓reduceIte, nA, nB, nC, nD, nE, nF, nG, reduceCtorEq, L_ref14_Path, hy1, hs_o1]
    have hq := Option.some.inj h; subst hq
    refine hK _ _ _ _ _ ?_ (WxH.refl _) (kn _ hfr ((hs_o1).trans rfl))
    exact WE.cons (Wx.str) (WE.cons (Wx.ptr) (WE.cons (Wx.bool) (WE.nil)))
  · refine UG_go hy1 ?_
    obtain ⟨x3, hy2, h⟩ := bnd' h
    try simp (disch := first | assumption | omega | (simp only [h_sl, h_al] <;> omega) | fail) only [WW, WH, ↓reduceIte, nA, nB, nC, nD, nE, nF, nG, reduceCtorEq, L_ref14_Path, hy1, hy2, hs_o1]
    have hq := Option.some.inj h; subst hq
    refine hK _ _ _ _ _ ?_ (WxH.refl _) (kn _ hfr ((hs_o1).trans rfl))
    exact WE.cons (Wx.str) (WE.cons (Wx.ptr) (WE.cons (Wx.bool) (WE.nil)))
theorem ref14_Path_p2_ok {s1 : List UInt8} {q6 : Nat} {H0 H : AH} (hfr : Fr H0 H0.length [] H) (hs_o1 : H[q6]? = some [(.str ([] : List UInt8)), (.str ([] : List UInt8))]) (hi0 : H0.length ≤ q6) {K : Exit → Env → AH → Prop} {t8 : Bool}
    (h : ref14_Path_p2 s1 = some t8)
    (kn : ∀ H' : AH, Fr H0 H0.length [] H' → H'[q6]? = some [(.str ([] : List UInt8)), (.str ([] : List UInt8))] → K .normal [(0, (.str s1)), (2, (.ptr q6 0)), (26, (.bool t8))] H') :
    AX Tryd.prog L_ref14_Path 98 H0.length c_ref14_Path_p2 K [(0, (.str s1)), (2, (.ptr q6 0))] H := by
  refine AX.go (m := m_ref14_Path_p2) rfl (by decide) fun K' hK => ?_
  have hle := hfr.le
  have hl_o1 := h_lt hs_o1
  rw [ref14_Path_p2.eq_1] at h
  try simp (disch := first | assumption | omega | (simp only [h_sl, h_al] <;> omega) | fail) only [WW, WH, ↓reduceIte, nA, nB, nC, nD, nE, nF, nG, reduceCtorEq, L_ref14_Path, m_ref14_Path_p2, c_ref14_Path_p2, hs_o1]
  rcases ifb h with ⟨hy5, h⟩ | ⟨hy5, h⟩
  · refine UG_go hy5 ?_
    obtain ⟨x7, hy6, h⟩ := bnd' h
    try simp (disch := first | assumption | omega | (simp only [h_sl, h_al] <;> omega) | fail) only [WW, WH, ↓reduceIte, nA, nB, nC, nD, nE, nF, nG, reduceCtorEq, L_ref14_Path, hy5, hy6, hs_o1]
    have hq := Option.some.inj h; subst hq
    refine hK _ _ _ _ _ ?_ (WxH.refl _) (kn _ hfr ((hs_o1).trans rfl))
    exact WE.cons (Wx.str) (WE.cons (Wx.ptr) (WE.cons (Wx.bool) (WE.nil)))
  · refine UG_nt hy5 ?_
    try simp (disch := first | assumption | omega | (simp only [h_sl, h_al] <;> omega) | fail) only [WW, WH, ↓reduceIte, nA, nB, nC, nD, nE, nF, nG, reduceCtorEq, L_ref14_Path, hy5, hs_o1]
    have hq := Option.some.inj h; subst hq
    refine hK _ _ _ _ _ ?_ (WxH.refl _) (kn _ hfr ((hs_o1).trans rfl))
    exact WE.cons (Wx.str) (WE.cons (Wx.ptr) (WE.cons (Wx.bool) (WE.nil)))
theorem ref14_Path_p3_ok {r15 : Int} {x13 : List UInt8} {q16 : Nat} {r14 : List UInt8} {H0 H : AH} (hfr : Fr H0 H0.length [] H) (hs_o1 : H[q16]? = some [(.str ([] : List UInt8)), (.str ([] : List UInt8))]) (hi0 : H0.length ≤ q16) {K : Exit → Env → AH → Prop} {t18 : Bool}
    (h : ref14_Path_p3 r15 x13 = some t18)
    (kn : ∀ H' : AH, Fr H0 H0.length [] H' → H'[q16]? = some [(.str ([] : List UInt8)), (.str ([] : List UInt8))] → K .normal [(2, (.ptr q16 0)), (6, (.str x13)), (7, (.str r14)), (8, (.int .i64 r15)), (58, (.bool t18))] H') :
    AX Tryd.prog L_ref14_Path 98 H0.length c_ref14_Path_p3 K [(2, (.ptr q16 0)), (6, (.str x13)), (7, (.str r14)), (8, (.int .i64 r15))] H := by
  refine AX.go (m := m_ref14_Path_p3) rfl (by decide) fun K' hK => ?_
  have hle := hfr.le
  have hl_o1 := h_lt hs_o1
  rw [ref14_Path_p3.eq_1] at h
  try simp (disch := first | assumption | omega | (simp only [h_sl, h_al] <;> omega) | fail) only [WW, WH, ↓reduceIte, nA, nB, nC, nD, nE, nF, nG, reduceCtorEq, L_ref14_Path, m_ref14_Path_p3, c_ref14_Path_p3, hs_o1]
  rcases ifb h with ⟨hy15, h⟩ | ⟨hy15, h⟩
  · refine UG_nf hy15 ?_
    try simp (disch := first | assumption | omega | (simp only [h_sl, h_al] <;> omega) | fail) only [WW, WH, ↓reduceIte, nA, nB, nC, nD, nE, nF, nG, reduceCtorEq, L_ref14_Path, hy15, hs_o1]
    have hq := Option.some.inj h; subst hq
    refine hK _ _ _ _ _ ?_ (WxH.refl _) (kn _ hfr ((hs_o1).trans rfl))
    exact WE.cons (Wx.ptr) (WE.cons (Wx.str) (WE.cons (Wx.str) (WE.cons (Wx.int) (WE.cons (Wx.bool) (WE.nil)))))
  · refine UG_go hy15 ?_
    try simp (disch := first | assumption | omega | (simp only [h_sl, h_al] <;> omega) | fail) only [WW, WH, ↓reduceIte, nA, nB, nC, nD, nE, nF, nG, reduceCtorEq, L_ref14_Path, hy15, hs_o1]
    rcases ifb h with ⟨hy16, h⟩ | ⟨hy16, h⟩
    · refine UG_nf hy16 ?_
      try simp (disch := first | assumption | omega | (simp only [h_sl, h_al] <;> omega) | fail) only [WW, WH, ↓reduceIte, nA, nB, nC, nD, nE, nF, nG, reduceCtorEq, L_ref14_Path, hy16, hs_o1]
      have hq := Option.some.inj h; subst hq
      refine hK _ _ _ _ _ ?_ (WxH.refl _) (kn _ hfr ((hs_o1).trans rfl))
      exact WE.cons (Wx.ptr) (WE.cons (Wx.str) (WE.cons (Wx.str) (WE.cons (Wx.int) (WE.cons (Wx.bool) (WE.nil)))))
    · refine UG_go hy16 ?_
      obtain ⟨x17, hy17, h⟩ := bnd' h
      try simp (disch := first | assumption | omega | (simp only [h_sl, h_al] <;> omega) | fail) only [WW, WH, ↓reduceIte, nA, nB, nC, nD, nE, nF, nG, reduceCtorEq, L_ref14_Path, hy16, hy17, hs_o1]
      have hq := Option.some.inj h; subst hq
      refine hK _ _ _ _ _ ?_ (WxH.refl _) (kn _ hfr ((hs_o1).trans rfl))
      exact WE.cons (Wx.ptr) (WE.cons (Wx.str) (WE.cons (Wx.str) (WE.cons (Wx.int) (WE.cons (Wx.bool) (WE.nil)))))
theorem ref14_Path_p4_ok {F : Nat} {x20 : List UInt8} {r21 : Int} {q22 : Nat} {r14 : List UInt8} {H0 H : AH} (hfr : Fr H0 H0.length [] H) (hs_o1 : H[q22]? = some [(.str ([] : List UInt8)), (.str ([] : List UInt8))]) (hi0 : H0.length ≤ q22) {K : Exit → Env → AH → Prop} {t26 : Bool}
    (h : ref14_Path_p4 F x20 r21 = some t26)
    (kn : ∀ H' : AH, Fr H0 H0.length [] H' → H'[q22]? = some [(.str ([] : List UInt8)), (.str ([] : List UInt8))] → K .normal [(2, (.ptr q22 0)), (6, (.str x20)), (7, (.str r14)), (9, (.int .i64 r21)), (82, (.bool t26))] H') :
    AX Tryd.prog L_ref14_Path 98 H0.length c_ref14_Path_p4 K [(2, (.ptr q22 0)), (6, (.str x20)), (7, (.str r14)), (9, (.int .i64 r21))] H := by
  refine AX.go (m := m_ref14_Path_p4) rfl (by decide) fun K' hK => ?_
  have hle := hfr.le
  have hl_o1 := h_lt hs_o1
  rw [ref14_Path_p4.eq_1] at h
  obtain ⟨x23, hy22, h⟩ := bnd' h
  try simp (disch := first | assumption | omega | (simp only [h_sl, h_al] <;> omega) | fail) only [WW, WH, ↓reduceIte, nA, nB, nC, nD, nE, nF, nG, reduceCtorEq, L_ref14_Path, m_ref14_Path_p4, c_ref14_Path_p4, hy22, hs_o1]
  obtain ⟨r24, hy23, h⟩ := bnd' h
  refine UK_e (as' := [(.str x23)]) (h := ref14_shape_ok (s1 := x23) (F := F)  hy23) (hw := WL.cons (Wx.str) (WL.nil)) (hh := WxH.refl _) ?_
  try simp (disch := first | assumption | omega | (simp only [h_sl, h_al] <;> omega) | fail) only [WW, WH, ↓reduceIte, nA, nB, nC, nD, nE, nF, nG, reduceCtorEq, L_ref14_Path, hs_o1]
  rcases ifb h with ⟨hy24, h⟩ | ⟨hy24, h⟩
  · refine UG_nf hy24 ?_
    try simp (disch := first | assumption | omega | (simp only [h_sl, h_al] <;> omega) | fail) only [WW, WH, ↓reduceIte, nA, nB, nC, nD, nE, nF, nG, reduceCtorEq, L_ref14_Path, hy24, hs_o1]
    have hq := Option.some.inj h; subst hq
    refine hK _ _ _ _ _ ?_ (WxH.refl _) (kn _ hfr ((hs_o1).trans rfl))
    exact WE.cons (Wx.ptr) (WE.cons (Wx.str) (WE.cons (Wx.str) (WE.cons (Wx.int) (WE.cons (Wx.bool) (WE.nil)))))
  · refine UG_go hy24 ?_
    try simp (disch := first | assumption | omega | (simp only [h_sl, h_al] <;> omega) | fail) only [WW, WH, ↓reduceIte, nA, nB, nC, nD, nE, nF, nG, reduceCtorEq, L_ref14_Path, hy24, hs_o1]
    rcases ifb h with ⟨hy25, h⟩ | ⟨hy25, h⟩
    · refine UG_nf hy25 ?_
      try simp (disch := first | assumption | omega | (simp only [h_sl, h_al] <;> omega) | fail) only [WW, WH, ↓reduceIte, nA, nB, nC, nD, nE, nF, nG, reduceCtorEq, L_ref14_Path, hy25, hs_o1]
      have hq := Option.some.inj h; subst hq
      refine hK _ _ _ _ _ ?_ (WxH.refl _) (kn _ hfr ((hs_o1).trans rfl))
      exact WE.cons (Wx.ptr) (WE.cons (Wx.str) (WE.cons (Wx.str) (WE.cons (Wx.int) (WE.cons (Wx.bool) (WE.nil)))))
    · refine UG_go hy25 ?_
      obtain ⟨x25, hy26, h⟩ := bnd' h
      try simp (disch := first | assumption | omega | (simp only [h_sl, h_al] <;> omega) | fail) only [WW, WH, ↓reduceIte, nA, nB, nC, nD, nE, nF, nG, reduceCtorEq, L_ref14_Path, hy25, hy26, hs_o1]
      have hq := Option.some.inj h; subst hq
      refine hK _ _ _ _ _ ?_ (WxH.refl _) (kn _ hfr ((hs_o1).trans rfl))
      exact WE.cons (Wx.ptr) (WE.cons (Wx.str) (WE.cons (Wx.str) (WE.cons (Wx.int) (WE.cons (Wx.bool) (WE.nil)))))
theorem ref14_Path_p5_ok {x20 : List UInt8} {r21 : Int} {r14 : List UInt8} {x28 : List UInt8} {q30 : Nat} {H0 H : AH} (hfr : Fr H0 H0.length [] H) (hs_o1 : H[q30]? = some [(.str ([] : List UInt8)), (.str ([] : List UInt8))]) (hi0 : H0.length ≤ q30) {K : Exit → Env → AH → Prop} {t32 : List UInt8} {t33 : Int} {s34 : AddressV}
    (h : ref14_Path_p5 x20 r21 r14 x28 = some (t32, t33, s34))
    (kn : ∀ H' : AH, Fr H0 H0.length [] H' → H'[q30]? = some [(.str s34.local0), (.str s34.domain)] → K .normal [(2, (.ptr q30 0)), (3, (.str t32)), (4, (.int .i64 t33))] H') :
    AX Tryd.prog L_ref14_Path 98 H0.length c_ref14_Path_p5 K [(2, (.ptr q30 0)), (6, (.str x20)), (9, (.int .i64 r21)), (10, (.ep (.agg [(.str r14), (.str x28)]) 0))] H := by
  refine AX.go (m := m_ref14_Path_p5) rfl (by decide) fun K' hK => ?_
  have hle := hfr.le
  have hl_o1 := h_lt hs_o1
  rw [ref14_Path_p5.eq_1] at h
  obtain ⟨x31, hy32, h⟩ := bnd' h
  try simp (disch := first | assumption | omega | (simp only [h_sl, h_al] <;> omega) | fail) only [WW, WH, ↓reduceIte, nA, nB, nC, nD, nE, nF, nG, reduceCtorEq, L_ref14_Path, m_ref14_Path_p5, c_ref14_Path_p5, hy32, hs_o1]
  have hq := Option.some.inj h; have hq0 := (Prod.mk.inj hq).1; replace hq := (Prod.mk.inj hq).2; have hq1 := (Prod.mk.inj hq).1; replace hq := (Prod.mk.inj hq).2; subst hq0; subst hq1; subst hq
  refine hK _ _ _ _ _ ?_ (WxH.refl _) (kn _ (Fr.set (s := q30) hfr (.inr (by first | assumption | omega | (simp only [h_sl, h_al] <;> omega) | fail))) ((h_eq (by first | assumption | omega | (simp only [h_sl, h_al] <;> omega) | fail)).trans rfl))
  exact WE.cons (Wx.ptr) (WE.cons (Wx.str) (WE.cons (Wx.int) (WE.nil)))
theorem ref14_Path_ok {F : Nat} {s1 : List UInt8}  {H0 : AH}  {rz0 : AddressV} {rz1 : List UInt8} {rz2 : Int} (h : ref14_Path F s1 = some (rz0, rz1, rz2)) :
    ACalls Tryd.prog 34 [(.str s1)] H0 fun v H' => v = (.tup [(.agg [(.str rz0.local0), (.str rz0.domain)]), (.str rz1), (.int .i64 rz2)]) ∧ H' = H0 := by
  refine ACalls.goX k_ref14_Path (m := m_ref14_Path) rfl L_ref14_Path (by decide) (by simp) fun hcl K0 hK0 => ?_
  refine AX.of_U (m := m_ref14_Path) rfl (by decide) ?_
  have hfr := Fr.refl H0 []
  have hle := hfr.le
  rw [ref14_Path.eq_1] at h
  obtain ⟨H, hHH⟩ : ∃ H, H = H0 := ⟨_, rfl⟩
  have hfr : Fr H0 H0.length [] H := hHH ▸ hfr
  have hle := hfr.le
  suffices hU : U Tryd.prog L_ref14_Path 98 H0.length [.code m_ref14_Path] K0 .normal (argE 0 [(.str s1)]) H by rwa [hHH] at hU
  try simp (disch := first | assumption | omega | (simp only [h_sl, h_al] <;> omega) | fail) only [WW, WH, ↓reduceIte, nA, nB, nC, nD, nE, nF, nG, reduceCtorEq, L_ref14_Path, m_ref14_Path]
  obtain ⟨q2, hg_q2⟩ : ∃ q : Nat, H.length = q := ⟨_, rfl⟩
  try rw [hg_q2]
  obtain ⟨t5, hy3, h⟩ := bnd' h
  refine UX_of (AX.weak ?_ (WxH.refl _) (ref14_Path_p1_ok  (s1 := s1) (t4 := t5) (q2 := q2) ((Fr.app hfr)) ((h_new' (by first | assumption | omega | (simp only [h_sl, h_al] <;> omega) | fail)).trans rfl) (by first | assumption | omega | (simp only [h_sl, h_al] <;> omega) | fail) hy3 ?_))
  · exact WE.cons (Wx.str) (WE.cons (Wx.ptr) (WE.nil))
  intro H hfr hs_o1
  have hle := hfr.le
  have hl_o1 := h_lt hs_o1
  try simp (disch := first | assumption | omega | (simp only [h_sl, h_al] <;> omega) | fail) only [WW, WH, ↓reduceIte, nA, nB, nC, nD, nE, nF, nG, reduceCtorEq, L_ref14_Path, hs_o1]
  rcases ifb h with ⟨hy4, h⟩ | ⟨hy4, h⟩
  · refine UC_t hy4 ?_
    try simp (disch := first | assumption | omega | (simp only [h_sl, h_al] <;> omega) | fail) only [WW, WH, ↓reduceIte, nA, nB, nC, nD, nE, nF, nG, reduceCtorEq, L_ref14_Path, hs_o1]
    have hq := Option.some.inj h; have hq0 := (Prod.mk.inj hq).1; replace hq := (Prod.mk.inj hq).2; have hq1 := (Prod.mk.inj hq).1; replace hq := (Prod.mk.inj hq).2; subst hq0; subst hq1; subst hq
    refine hK0 _ _ _ (.inr rfl) ?_
    exact fn_end0 (by exact (Fr.set (s := q2) hfr (.inr (by first | assumption | omega | (simp only [h_sl, h_al] <;> omega) | fail)))) hcl (resv_cell (cs := [(.str ([] : List UInt8)), (.str ([] : List UInt8))]) (v := (.agg [(.str ([] : List UInt8)), (.str ([] : List UInt8))])) (by kernel_rfl) (n := (some 2)) (by kernel_rfl) rfl (by exact ((h_eq (by first | assumption | omega | (simp only [h_sl, h_al] <;> omega) | fail)).trans rfl)) (by simp [loadc_n, loadc_1, ld1, allFlat, AV.flat, b_flat, b_sh1, AV.sh1, Tg.sh]) (resv_tmp (a := (.str ([] : List UInt8))) rfl rfl (resv_tmp (a := (.int .i64 3)) rfl rfl resv_nil))) (by first | (simp [fin, b_df, b_sh, b_sh1, b_Cl]; done) | (simp [fin, AV.df, AV.sh, AV.sh1, b_df, b_sh, b_sh1, b_Cl]; done)) (Wx.tupX (W2L.same (W2L.same (W2L.same (W2L.nil))))) (r' := (.tup [(.agg [(.str ((AddressV.mk ([] : List UInt8) ([] : List UInt8)).local0)), (.str ((AddressV.mk ([] : List UInt8) ([] : List UInt8)).domain))]), (.str ([] : List UInt8)), (.int .i64 3)])) ⟨rfl, rfl⟩
  · refine UC_f hy4 ?_
    try simp (disch := first | assumption | omega | (simp only [h_sl, h_al] <;> omega) | fail) only [WW, WH, ↓reduceIte, nA, nB, nC, nD, nE, nF, nG, reduceCtorEq, L_ref14_Path, hs_o1]
    obtain ⟨t9, hy7, h⟩ := bnd' h
    refine UX_of (AX.weak ?_ (WxH.refl _) (ref14_Path_p2_ok  (s1 := s1) (t8 := t9) (q6 := q2) (hfr) ((hs_o1).trans rfl) (by first | assumption | omega | (simp only [h_sl, h_al] <;> omega) | fail) hy7 ?_))
    · exact WE.cons (Wx.str) (WE.cons (Wx.ptr) (WE.nil))
    intro H hfr hs_o1
    have hle := hfr.le
    have hl_o1 := h_lt hs_o1
    try simp (disch := first | assumption | omega | (simp only [h_sl, h_al] <;> omega) | fail) only [WW, WH, ↓reduceIte, nA, nB, nC, nD, nE, nF, nG, reduceCtorEq, L_ref14_Path, hs_o1]
    rcases ifb h with ⟨hy8, h⟩ | ⟨hy8, h⟩
    · refine UC_t hy8 ?_
      obtain ⟨x10, hy9, h⟩ := bnd' h
      try simp (disch := first | assumption | omega | (simp only [h_sl, h_al] <;> omega) | fail) only [WW, WH, ↓reduceIte, nA, nB, nC, nD, nE, nF, nG, reduceCtorEq, L_ref14_Path, hy9, hs_o1]
      have hq := Option.some.inj h; have hq0 := (Prod.mk.inj hq).1; replace hq := (Prod.mk.inj hq).2; have hq1 := (Prod.mk.inj hq).1; replace hq := (Prod.mk.inj hq).2; subst hq0; subst hq1; subst hq
      refine hK0 _ _ _ (.inr rfl) ?_
      exact fn_end0 (by exact (Fr.set (s := q2) hfr (.inr (by first | assumption | omega | (simp only [h_sl, h_al] <;> omega) | fail)))) hcl (resv_cell (cs := [(.str ([] : List UInt8)), (.str ([] : List UInt8))]) (v := (.agg [(.str ([] : List UInt8)), (.str ([] : List UInt8))])) (by kernel_rfl) (n := (some 2)) (by kernel_rfl) rfl (by exact ((h_eq (by first | assumption | omega | (simp only [h_sl, h_al] <;> omega) | fail)).trans rfl)) (by simp [loadc_n, loadc_1, ld1, allFlat, AV.flat, b_flat, b_sh1, AV.sh1, Tg.sh]) (resv_tmp (a := (.str x10)) rfl rfl (resv_tmp (a := (.int .i64 0)) rfl rfl resv_nil))) (by first | (simp [fin, b_df, b_sh, b_sh1, b_Cl]; done) | (simp [fin, AV.df, AV.sh, AV.sh1, b_df, b_sh, b_sh1, b_Cl]; done)) (Wx.tupX (W2L.same (W2L.same (W2L.same (W2L.nil))))) (r' := (.tup [(.agg [(.str ((AddressV.mk ([] : List UInt8) ([] : List UInt8)).local0)), (.str ((AddressV.mk ([] : List UInt8) ([] : List UInt8)).domain))]), (.str x10), (.int .i64 0)])) ⟨rfl, rfl⟩
    · refine UC_f hy8 ?_
      obtain ⟨x11, hy10, h⟩ := bnd' h
      try simp (disch := first | assumption | omega | (simp only [h_sl, h_al] <;> omega) | fail) only [WW, WH, ↓reduceIte, nA, nB, nC, nD, nE, nF, nG, reduceCtorEq, L_ref14_Path, hy10, hs_o1]
      obtain ⟨r12, hy11, h⟩ := bnd' h
      refine UK_e (as' := [(.str x11)]) (h := ref14_route_ok (s1 := x11) (F := F)  hy11) (hw := WL.cons (Wx.str) (WL.nil)) (hh := WxH.refl _) ?_
      try simp (disch := first | assumption | omega | (simp only [h_sl, h_al] <;> omega) | fail) only [WW, WH, ↓reduceIte, nA, nB, nC, nD, nE, nF, nG, reduceCtorEq, L_ref14_Path, hs_o1]
      rcases ifb h with ⟨hy12, h⟩ | ⟨hy12, h⟩
      · refine UC_t hy12 ?_
        try simp (disch := first | assumption | omega | (simp only [h_sl, h_al] <;> omega) | fail) only [WW, WH, ↓reduceIte, nA, nB, nC, nD, nE, nF, nG, reduceCtorEq, L_ref14_Path, hs_o1]
        have hq := Option.some.inj h; have hq0 := (Prod.mk.inj hq).1; replace hq := (Prod.mk.inj hq).2; have hq1 := (Prod.mk.inj hq).1; replace hq := (Prod.mk.inj hq).2; subst hq0; subst hq1; subst hq
        refine hK0 _ _ _ (.inr rfl) ?_
        exact fn_end0 (by exact (Fr.set (s := q2) hfr (.inr (by first | assumption | omega | (simp only [h_sl, h_al] <;> omega) | fail)))) hcl (resv_cell (cs := [(.str ([] : List UInt8)), (.str ([] : List UInt8))]) (v := (.agg [(.str ([] : List UInt8)), (.str ([] : List UInt8))])) (by kernel_rfl) (n := (some 2)) (by kernel_rfl) rfl (by exact ((h_eq (by first | assumption | omega | (simp only [h_sl, h_al] <;> omega) | fail)).trans rfl)) (by simp [loadc_n, loadc_1, ld1, allFlat, AV.flat, b_flat, b_sh1, AV.sh1, Tg.sh]) (resv_tmp (a := (.str ([] : List UInt8))) rfl rfl (resv_tmp (a := (.int .i64 3)) rfl rfl resv_nil))) (by first | (simp [fin, b_df, b_sh, b_sh1, b_Cl]; done) | (simp [fin, AV.df, AV.sh, AV.sh1, b_df, b_sh, b_sh1, b_Cl]; done)) (Wx.tupX (W2L.same (W2L.same (W2L.same (W2L.nil))))) (r' := (.tup [(.agg [(.str ((AddressV.mk ([] : List UInt8) ([] : List UInt8)).local0)), (.str ((AddressV.mk ([] : List UInt8) ([] : List UInt8)).domain))]), (.str ([] : List UInt8)), (.int .i64 3)])) ⟨rfl, rfl⟩
      · refine UC_f hy12 ?_
        obtain ⟨x13, hy13, h⟩ := bnd' h
        try simp (disch := first | assumption | omega | (simp only [h_sl, h_al] <;> omega) | fail) only [WW, WH, ↓reduceIte, nA, nB, nC, nD, nE, nF, nG, reduceCtorEq, L_ref14_Path, hy13, hs_o1]
        obtain ⟨⟨r14, r15⟩, hy14, h⟩ := bnd' h
        dsimp only at h
        refine UK_e (as' := [(.str x13)]) (h := ref14_local_ok (s1 := x13) (F := F)  hy14) (hw := WL.cons (Wx.str) (WL.nil)) (hh := WxH.refl _) ?_
        try simp (disch := first | assumption | omega | (simp only [h_sl, h_al] <;> omega) | fail) only [WW, WH, ↓reduceIte, nA, nB, nC, nD, nE, nF, nG, reduceCtorEq, L_ref14_Path, hs_o1]
        obtain ⟨t19, hy18, h⟩ := bnd' h
        refine UX_of (AX.weak ?_ (WxH.refl _) (ref14_Path_p3_ok  (r15 := r15) (x13 := x13) (r14 := r14) (t18 := t19) (q16 := q2) (hfr) ((hs_o1).trans rfl) (by first | assumption | omega | (simp only [h_sl, h_al] <;> omega) | fail) hy18 ?_))
        · exact WE.cons (Wx.ptr) (WE.cons (Wx.str) (WE.cons (Wx.str) (WE.cons (Wx.int) (WE.nil))))
        intro H hfr hs_o1
        have hle := hfr.le
        have hl_o1 := h_lt hs_o1
        try simp (disch := first | assumption | omega | (simp only [h_sl, h_al] <;> omega) | fail) only [WW, WH, ↓reduceIte, nA, nB, nC, nD, nE, nF, nG, reduceCtorEq, L_ref14_Path, hs_o1]
        rcases ifb h with ⟨hy19, h⟩ | ⟨hy19, h⟩
        · refine UC_t hy19 ?_
          try simp (disch := first | assumption | omega | (simp only [h_sl, h_al] <;> omega) | fail) only [WW, WH, ↓reduceIte, nA, nB, nC, nD, nE, nF, nG, reduceCtorEq, L_ref14_Path, hs_o1]
          have hq := Option.some.inj h; have hq0 := (Prod.mk.inj hq).1; replace hq := (Prod.mk.inj hq).2; have hq1 := (Prod.mk.inj hq).1; replace hq := (Prod.mk.inj hq).2; subst hq0; subst hq1; subst hq
          refine hK0 _ _ _ (.inr rfl) ?_
          exact fn_end0 (by exact (Fr.set (s := q2) hfr (.inr (by first | assumption | omega | (simp only [h_sl, h_al] <;> omega) | fail)))) hcl (resv_cell (cs := [(.str ([] : List UInt8)), (.str ([] : List UInt8))]) (v := (.agg [(.str ([] : List UInt8)), (.str ([] : List UInt8))])) (by kernel_rfl) (n := (some 2)) (by kernel_rfl) rfl (by exact ((h_eq (by first | assumption | omega | (simp only [h_sl, h_al] <;> omega) | fail)).trans rfl)) (by simp [loadc_n, loadc_1, ld1, allFlat, AV.flat, b_flat, b_sh1, AV.sh1, Tg.sh]) (resv_tmp (a := (.str ([] : List UInt8))) rfl rfl (resv_tmp (a := (.int .i64 3)) rfl rfl resv_nil))) (by first | (simp [fin, b_df, b_sh, b_sh1, b_Cl]; done) | (simp [fin, AV.df, AV.sh, AV.sh1, b_df, b_sh, b_sh1, b_Cl]; done)) (Wx.tupX (W2L.same (W2L.same (W2L.same (W2L.nil))))) (r' := (.tup [(.agg [(.str ((AddressV.mk ([] : List UInt8) ([] : List UInt8)).local0)), (.str ((AddressV.mk ([] : List UInt8) ([] : List UInt8)).domain))]), (.str ([] : List UInt8)), (.int .i64 3)])) ⟨rfl, rfl⟩
        · refine UC_f hy19 ?_
          obtain ⟨x20, hy20, h⟩ := bnd' h
          try simp (disch := first | assumption | omega | (simp only [h_sl, h_al] <;> omega) | fail) only [WW, WH, ↓reduceIte, nA, nB, nC, nD, nE, nF, nG, reduceCtorEq, L_ref14_Path, hy20, hs_o1]
          obtain ⟨r21, hy21, h⟩ := bnd' h
          refine UK_e (as' := [(.str x20)]) (h := ref14_domain_ok (s1 := x20) (F := F)  hy21) (hw := WL.cons (Wx.str) (WL.nil)) (hh := WxH.refl _) ?_
          try simp (disch := first | assumption | omega | (simp only [h_sl, h_al] <;> omega) | fail) only [WW, WH, ↓reduceIte, nA, nB, nC, nD, nE, nF, nG, reduceCtorEq, L_ref14_Path, hs_o1]
          obtain ⟨t27, hy27, h⟩ := bnd' h
          refine UX_of (AX.weak ?_ (WxH.refl _) (ref14_Path_p4_ok (F := F) (x20 := x20) (r21 := r21) (r14 := r14) (t26 := t27) (q22 := q2) (hfr) ((hs_o1).trans rfl) (by first | assumption | omega | (simp only [h_sl, h_al] <;> omega) | fail) hy27 ?_))
          · exact WE.cons (Wx.ptr) (WE.cons (Wx.str) (WE.cons (Wx.str) (WE.cons (Wx.int) (WE.nil))))
          intro H hfr hs_o1
          have hle := hfr.le
          have hl_o1 := h_lt hs_o1
          try simp (disch := first | assumption | omega | (simp only [h_sl, h_al] <;> omega) | fail) only [WW, WH, ↓reduceIte, nA, nB, nC, nD, nE, nF, nG, reduceCtorEq, L_ref14_Path, hs_o1]
          rcases ifb h with ⟨hy28, h⟩ | ⟨hy28, h⟩
          · refine UC_t hy28 ?_
            try simp (disch := first | assumption | omega | (simp only [h_sl, h_al] <;> omega) | fail) only [WW, WH, ↓reduceIte, nA, nB, nC, nD, nE, nF, nG, reduceCtorEq, L_ref14_Path, hs_o1]
            have hq := Option.some.inj h; have hq0 := (Prod.mk.inj hq).1; replace hq := (Prod.mk.inj hq).2; have hq1 := (Prod.mk.inj hq).1; replace hq := (Prod.mk.inj hq).2; subst hq0; subst hq1; subst hq
            refine hK0 _ _ _ (.inr rfl) ?_
            exact fn_end0 (by exact (Fr.set (s := q2) hfr (.inr (by first | assumption | omega | (simp only [h_sl, h_al] <;> omega) | fail)))) hcl (resv_cell (cs := [(.str ([] : List UInt8)), (.str ([] : List UInt8))]) (v := (.agg [(.str ([] : List UInt8)), (.str ([] : List UInt8))])) (by kernel_rfl) (n := (some 2)) (by kernel_rfl) rfl (by exact ((h_eq (by first | assumption | omega | (simp only [h_sl, h_al] <;> omega) | fail)).trans rfl)) (by simp [loadc_n, loadc_1, ld1, allFlat, AV.flat, b_flat, b_sh1, AV.sh1, Tg.sh]) (resv_tmp (a := (.str ([] : List UInt8))) rfl rfl (resv_tmp (a := (.int .i64 3)) rfl rfl resv_nil))) (by first | (simp [fin, b_df, b_sh, b_sh1, b_Cl]; done) | (simp [fin, AV.df, AV.sh, AV.sh1, b_df, b_sh, b_sh1, b_Cl]; done)) (Wx.tupX (W2L.same (W2L.same (W2L.same (W2L.nil))))) (r' := (.tup [(.agg [(.str ((AddressV.mk ([] : List UInt8) ([] : List UInt8)).local0)), (.str ((AddressV.mk ([] : List UInt8) ([] : List UInt8)).domain))]), (.str ([] : List UInt8)), (.int .i64 3)])) ⟨rfl, rfl⟩
          · refine UC_f hy28 ?_
            obtain ⟨x28, hy29, h⟩ := bnd' h
            try simp (disch := first | assumption | omega | (simp only [h_sl, h_al] <;> omega) | fail) only [WW, WH, ↓reduceIte, nA, nB, nC, nD, nE, nF, nG, reduceCtorEq, L_ref14_Path, hy29, hs_o1]
            obtain ⟨r29, hy30, h⟩ := bnd' h
            refine UK_e (as' := [(.agg [(.str r14), (.str x28)])]) (h := ref14_Right_ok (a1 := (AddressV.mk r14 x28)) (F := F)  hy30) (hw := WL.cons (Wx.agg (W1L.same (W1L.same (W1L.nil)))) (WL.nil)) (hh := WxH.refl _) ?_
            try simp (disch := first | assumption | omega | (simp only [h_sl, h_al] <;> omega) | fail) only [WW, WH, ↓reduceIte, nA, nB, nC, nD, nE, nF, nG, reduceCtorEq, L_ref14_Path, hs_o1]
            rcases ifb h with ⟨hy31, h⟩ | ⟨hy31, h⟩
            · refine UC_t hy31 ?_
              try simp (disch := first | assumption | omega | (simp only [h_sl, h_al] <;> omega) | fail) only [WW, WH, ↓reduceIte, nA, nB, nC, nD, nE, nF, nG, reduceCtorEq, L_ref14_Path, hs_o1]
              have hq := Option.some.inj h; have hq0 := (Prod.mk.inj hq).1; replace hq := (Prod.mk.inj hq).2; have hq1 := (Prod.mk.inj hq).1; replace hq := (Prod.mk.inj hq).2; subst hq0; subst hq1; subst hq
              refine hK0 _ _ _ (.inr rfl) ?_
              exact fn_end0 (by exact (Fr.set (s := q2) (Fr.set (s := H.length) (Fr.app hfr) (.inr (by first | assumption | omega | (simp only [h_sl, h_al] <;> omega) | fail))) (.inr (by first | assumption | omega | (simp only [h_sl, h_al] <;> omega) | fail)))) hcl (resv_cell (cs := [(.str ([] : List UInt8)), (.str ([] : List UInt8))]) (v := (.agg [(.str ([] : List UInt8)), (.str ([] : List UInt8))])) (by kernel_rfl) (n := (some 2)) (by kernel_rfl) rfl (by exact ((h_eq (by first | assumption | omega | (simp only [h_sl, h_al] <;> omega) | fail)).trans rfl)) (by simp [loadc_n, loadc_1, ld1, allFlat, AV.flat, b_flat, b_sh1, AV.sh1, Tg.sh]) (resv_tmp (a := (.str ([] : List UInt8))) rfl rfl (resv_tmp (a := (.int .i64 5)) rfl rfl resv_nil))) (by first | (simp [fin, b_df, b_sh, b_sh1, b_Cl]; done) | (simp [fin, AV.df, AV.sh, AV.sh1, b_df, b_sh, b_sh1, b_Cl]; done)) (Wx.tupX (W2L.same (W2L.same (W2L.same (W2L.nil))))) (r' := (.tup [(.agg [(.str ((AddressV.mk ([] : List UInt8) ([] : List UInt8)).local0)), (.str ((AddressV.mk ([] : List UInt8) ([] : List UInt8)).domain))]), (.str ([] : List UInt8)), (.int .i64 5)])) ⟨rfl, rfl⟩
            · refine UC_f hy31 ?_
              try simp (disch := first | assumption | omega | (simp only [h_sl, h_al] <;> omega) | fail) only [WW, WH, ↓reduceIte, nA, nB, nC, nD, nE, nF, nG, reduceCtorEq, L_ref14_Path, hs_o1]
              refine UX_of ?_
              apply AX.freeze (s := H.length) (cs := [(.str r14), (.str x28)]) (by exact ((h_eq (by first | assumption | omega | (simp only [h_sl, h_al] <;> omega) | fail)).trans rfl)) (W1L.same (W1L.same (W1L.nil))) (by simp) rfl
              · repeat (first | exact FZ.nil | apply FZ.ep | apply FZ.same)
              obtain ⟨⟨t35, t36, s37⟩, hy33, h⟩ := bnd' h
              dsimp only at h
              refine UX_of (AX.weak ?_ (WxH.refl _) (ref14_Path_p5_ok  (x20 := x20) (r21 := r21) (r14 := r14) (x28 := x28) (t32 := t35) (t33 := t36) (s34 := s37) (q30 := q2) ((Fr.set (s := H.length) (Fr.set (s := H.length) (Fr.app hfr) (.inr (by first | assumption | omega | (simp only [h_sl, h_al] <;> omega) | fail))) (.inr (by first | assumption | omega | (simp only [h_sl, h_al] <;> omega) | fail)))) (((h_ne (by first | assumption | omega | (simp only [h_sl, h_al] <;> omega) | fail)).trans ((h_ne (by first | assumption | omega | (simp only [h_sl, h_al] <;> omega) | fail)).trans ((h_app (by first | assumption | omega | (simp only [h_sl, h_al] <;> omega) | fail)).trans (hs_o1)))).trans rfl) (by first | assumption | omega | (simp only [h_sl, h_al] <;> omega) | fail) hy33 ?_))
              · exact WE.cons (Wx.ptr) (WE.cons (Wx.str) (WE.cons (Wx.int) (WE.cons (Wx.ep) (WE.nil))))
              intro H hfr hs_o1
              have hle := hfr.le
              have hl_o1 := h_lt hs_o1
              try simp (disch := first | assumption | omega | (simp only [h_sl, h_al] <;> omega) | fail) only [WW, WH, ↓reduceIte, nA, nB, nC, nD, nE, nF, nG, reduceCtorEq, L_ref14_Path, hs_o1]
              have hq := Option.some.inj h; have hq0 := (Prod.mk.inj hq).1; replace hq := (Prod.mk.inj hq).2; have hq1 := (Prod.mk.inj hq).1; replace hq := (Prod.mk.inj hq).2; subst hq0; subst hq1; subst hq
              refine hK0 _ _ _ (.inr rfl) ?_
              exact fn_end0 (by exact hfr) hcl (resv_cell (cs := [(.str s37.local0), (.str s37.domain)]) (v := (.agg [(.str s37.local0), (.str s37.domain)])) (by kernel_rfl) (n := (some 2)) (by kernel_rfl) rfl (by exact ((hs_o1).trans rfl)) (by simp [loadc_n, loadc_1, ld1, allFlat, AV.flat, b_flat, b_sh1, AV.sh1, Tg.sh]) (resv_tmp (a := (.str t35)) rfl rfl (resv_tmp (a := (.int .i64 t36)) rfl rfl resv_nil))) (by first | (simp [fin, b_df, b_sh, b_sh1, b_Cl]; done) | (simp [fin, AV.df, AV.sh, AV.sh1, b_df, b_sh, b_sh1, b_Cl]; done)) (Wx.tupX (W2L.same (W2L.same (W2L.same (W2L.nil))))) (r' := (.tup [(.agg [(.str s37.local0), (.str s37.domain)]), (.str t35), (.int .i64 t36)])) ⟨rfl, rfl⟩

/-! ### mailbag/mailbagref14.Parse -/
def c_ref14_Parse_p1 : ACode := (.rg [⟨(some 13), (.mv (.t 6)), none⟩, ⟨(some 14), (.bin .eql (.t 13) (.c (.int .i64 0))), none⟩, ⟨(some 15), (.mv (.t 14)), none⟩, ⟨(some 16), (.mv (.t 5)), (some (15, true))⟩, ⟨(some 17), (.bin .neq (.t 16) (.c (.str []))), (some (15, true))⟩, ⟨(some 18), (.pick (.t 15) (.t 17) (.c (.bool false))), none⟩])
abbrev m_ref14_Parse_p1 := c_ref14_Parse_p1
def c_ref14_Parse : ACode := (.seq (.rg [⟨(some 2), (.alloc [(.str []), (.str [])]), none⟩, ⟨(some 3), (.asg (.c (.int .i64 0))), none⟩]) (.seq (.rg [⟨(some 8), (.mv (.t 0)), none⟩, ⟨(some 9), (.call (.c (.fn 34 [])) [(.t 8)]), none⟩, ⟨(some 7), (.mv (.t 9)), none⟩, ⟨(some 10), (.ext (.t 7) 0), none⟩, ⟨(some 11), (.ext (.t 7) 1), none⟩, ⟨(some 12), (.ext (.t 7) 2), none⟩, ⟨(some 4), (.alloc [(.str []), (.str [])]), none⟩, ⟨none, (.st (.t 4) (.t 10) 2), none⟩, ⟨(some 5), (.asg (.t 11)), none⟩, ⟨(some 6), (.asg (.t 12)), none⟩]) (.seq (.seq c_ref14_Parse_p1 (.cond (.t 18) (.seq (.rg [⟨(some 19), (.build [(.str []), (.str [])] []), none⟩, ⟨none, (.st (.t 2) (.t 19) 2), none⟩, ⟨(some 3), (.asg (.c (.int .i64 3))), none⟩]) .ret) .skip)) (.seq (.rg [⟨(some 20), (.ld (.t 4) (some 2)), none⟩, ⟨(some 21), (.mv (.t 6)), none⟩, ⟨none, (.st (.t 2) (.t 20) 2), none⟩, ⟨(some 3), (.asg (.t 21)), none⟩]) .ret))))
def m_ref14_Parse : ACode := (.seq (.rg [⟨(some 2), (.alloc [(.str []), (.str [])]), none⟩, ⟨(some 3), (.asg (.c (.int .i64 0))), none⟩]) (.seq (.rg [⟨(some 8), (.mv (.t 0)), none⟩, ⟨(some 9), (.call (.c (.fn 34 [])) [(.t 8)]), none⟩, ⟨(some 7), (.mv (.t 9)), none⟩, ⟨(some 10), (.ext (.t 7) 0), none⟩, ⟨(some 11), (.ext (.t 7) 1), none⟩, ⟨(some 12), (.ext (.t 7) 2), none⟩, ⟨(some 4), (.alloc [(.str []), (.str [])]), none⟩, ⟨none, (.st (.t 4) (.t 10) 2), none⟩, ⟨(some 5), (.asg (.t 11)), none⟩, ⟨(some 6), (.asg (.t 12)), none⟩]) (.seq (.seq (.sem c_ref14_Parse_p1) (.cond (.t 18) (.seq (.rg [⟨(some 19), (.build [(.str []), (.str [])] []), none⟩, ⟨none, (.st (.t 2) (.t 19) 2), none⟩, ⟨(some 3), (.asg (.c (.int .i64 3))), none⟩]) .ret) .skip)) (.seq (.rg [⟨(some 20), (.ld (.t 4) (some 2)), none⟩, ⟨(some 21), (.mv (.t 6)), none⟩, ⟨none, (.st (.t 2) (.t 20) 2), none⟩, ⟨(some 3), (.asg (.t 21)), none⟩]) .ret))))
theorem k_ref14_Parse : FnOk Tryd.prog 36 22 [(.cell 2 52), (.tmp 3)] c_ref14_Parse := ⟨Tryd.f36, _, rfl, by decide, rfl, by kernel_rfl, rfl, rfl⟩
abbrev L_ref14_Parse : List Nat := [0, 2, 3, 4, 5, 6, 18]
def ref14_Parse (F : Nat) (s1 : List UInt8) : Option (AddressV × Int) :=
  (ref14_Path F s1).bind fun (r2, r3, r4) =>
  (if ((decide (r4 = 0)) && (!decide (r3 = ([] : List UInt8)))) then
    some ((AddressV.mk ([] : List UInt8) ([] : List UInt8)), 3)
  else
    some (r2, r4))
theorem ref14_Parse_p1_ok {q5 : Nat} {q6 : Nat} {r3 : List UInt8} {r4 : Int} {r2 : AddressV} {H0 H : AH} (hfr : Fr H0 H0.length [] H) (hs_o1 : H[q5]? = some [(.str ([] : List UInt8)), (.str ([] : List UInt8))]) (hs_o2 : H[q6]? = some [(.str r2.local0), (.str r2.domain)]) (hi0 : H0.length ≤ q5) (hi1 : H0.length ≤ q6) (hi2 : q5 ≠ q6) {K : Exit → Env → AH → Prop}
    (kn : ∀ H' : AH, Fr H0 H0.length [] H' → H'[q5]? = some [(.str ([] : List UInt8)), (.str ([] : List UInt8))] → H'[q6]? = some [(.str r2.local0), (.str r2.domain)] → K .normal [(2, (.ptr q5 0)), (4, (.ptr q6 0)), (6, (.int .i64 r4)), (18, (.bool ((decide (r4 = 0)) && (!decide (r3 = ([] : List UInt8))))))] H') :
    AX Tryd.prog L_ref14_Parse 22 H0.length c_ref14_Parse_p1 K [(2, (.ptr q5 0)), (4, (.ptr q6 0)), (5, (.str r3)), (6, (.int .i64 r4))] H := by
  refine AX.go (m := m_ref14_Parse_p1) rfl (by decide) fun K' hK => ?_
  have hle := hfr.le
  have hl_o1 := h_lt hs_o1
  have hl_o2 := h_lt hs_o2
  try simp (disch := first | assumption | omega | (simp only [h_sl, h_al] <;> omega) | fail) only [WW, WH, ↓reduceIte, nA, nB, nC, nD, nE, nF, nG, reduceCtorEq, L_ref14_Parse, m_ref14_Parse_p1, c_ref14_Parse_p1, hs_o1, hs_o2]
  rcases bcases ((decide (r4 = 0))) with hy2 | hy2
  · refine UG_go hy2 ?_
    try simp (disch := first | assumption | omega | (simp only [h_sl, h_al] <;> omega) | fail) only [WW, WH, ↓reduceIte, nA, nB, nC, nD, nE, nF, nG, reduceCtorEq, L_ref14_Parse, hy2, hs_o1, hs_o2]
    refine hK _ _ _ _ _ ?_ (WxH.refl _) (kn _ hfr ((hs_o1).trans rfl) ((hs_o2).trans rfl))
    exact WE.cons (Wx.ptr) (WE.cons (Wx.ptr) (WE.cons (Wx.int) (WE.cons (Wx.boolE (by simp only [hy2, WB])) (WE.nil))))
  · refine UG_nt hy2 ?_
    try simp (disch := first | assumption | omega | (simp only [h_sl, h_al] <;> omega) | fail) only [WW, WH, ↓reduceIte, nA, nB, nC, nD, nE, nF, nG, reduceCtorEq, L_ref14_Parse, hy2, hs_o1, hs_o2]
    refine hK _ _ _ _ _ ?_ (WxH.refl _) (kn _ hfr ((hs_o1).trans rfl) ((hs_o2).trans rfl))
    exact WE.cons (Wx.ptr) (WE.cons (Wx.ptr) (WE.cons (Wx.int) (WE.cons (Wx.boolE (by simp only [hy2, WB])) (WE.nil))))
theorem ref14_Parse_ok {F : Nat} {s1 : List UInt8}  {H0 : AH}  {rz0 : AddressV} {rz1 : Int} (h : ref14_Parse F s1 = some (rz0, rz1)) :
    ACalls Tryd.prog 36 [(.str s1)] H0 fun v H' => v = (.tup [(.agg [(.str rz0.local0), (.str rz0.domain)]), (.int .i64 rz1)]) ∧ H' = H0 := by
  refine ACalls.goX k_ref14_Parse (m := m_ref14_Parse) rfl L_ref14_Parse (by decide) (by simp) fun hcl K0 hK0 => ?_
  refine AX.of_U (m := m_ref14_Parse) rfl (by decide) ?_
  have hfr := Fr.refl H0 []
  have hle := hfr.le
  rw [ref14_Parse.eq_1] at h
  obtain ⟨H, hHH⟩ : ∃ H, H = H0 := ⟨_, rfl⟩
  have hfr : Fr H0 H0.length [] H := hHH ▸ hfr
  have hle := hfr.le
  suffices hU : U Tryd.prog L_ref14_Parse 22 H0.length [.code m_ref14_Parse] K0 .normal (argE 0 [(.str s1)]) H by rwa [hHH] at hU
  try simp (disch := first | assumption | omega | (simp only [h_sl, h_al] <;> omega) | fail) only [WW, WH, ↓reduceIte, nA, nB, nC, nD, nE, nF, nG, reduceCtorEq, L_ref14_Parse, m_ref14_Parse]
  obtain ⟨⟨r2, r3, r4⟩, hy1, h⟩ := bnd' h
  dsimp only at h
  refine UK_e (as' := [(.str s1)]) (h := ref14_Path_ok (s1 := s1) (F := F)  hy1) (hw := WL.cons (Wx.str) (WL.nil)) (hh := WxH.refl _) ?_
  try simp (disch := first | assumption | omega | (simp only [h_sl, h_al] <;> omega) | fail) only [WW, WH, ↓reduceIte, nA, nB, nC, nD, nE, nF, nG, reduceCtorEq, L_ref14_Parse]
  obtain ⟨q6, hg_q6⟩ : ∃ q : Nat, (H.length + 1) = q := ⟨_, rfl⟩
  try rw [hg_q6]
  obtain ⟨q5, hg_q5⟩ : ∃ q : Nat, H.length = q := ⟨_, rfl⟩
  try rw [hg_q5]
  try rw [show q5 + 1 = q6 from by omega]
  refine UX_of (AX.weak ?_ (WxH.refl _) (ref14_Parse_p1_ok (q5 := q5) (q6 := q6) (r3 := r3) (r4 := r4) (r2 := r2) ((Fr.set (s := q6) (Fr.app (Fr.app hfr)) (.inr (by first | assumption | omega | (simp only [h_sl, h_al] <;> omega) | fail)))) (((h_ne (by first | assumption | omega | (simp only [h_sl, h_al] <;> omega) | fail)).trans ((h_app (by first | assumption | omega | (simp only [h_sl, h_al] <;> omega) | fail)).trans (h_new' (by first | assumption | omega | (simp only [h_sl, h_al] <;> omega) | fail)))).trans rfl) ((h_eq (by first | assumption | omega | (simp only [h_sl, h_al] <;> omega) | fail)).trans rfl) (by first | assumption | omega | (simp only [h_sl, h_al] <;> omega) | fail) (by first | assumption | omega | (simp only [h_sl, h_al] <;> omega) | fail) (by first | assumption | omega | (simp only [h_sl, h_al] <;> omega) | fail) ?_))
  · exact WE.cons (Wx.ptr) (WE.cons (Wx.ptr) (WE.cons (Wx.str) (WE.cons (Wx.int) (WE.nil))))
  intro H hfr hs_o1 hs_o2
  have hle := hfr.le
  have hl_o1 := h_lt hs_o1
  have hl_o2 := h_lt hs_o2
  try simp (disch := first | assumption | omega | (simp only [h_sl, h_al] <;> omega) | fail) only [WW, WH, ↓reduceIte, nA, nB, nC, nD, nE, nF, nG, reduceCtorEq, L_ref14_Parse, hs_o1, hs_o2]
  rcases ifb h with ⟨hy3, h⟩ | ⟨hy3, h⟩
  · refine UC_t hy3 ?_
    try simp (disch := first | assumption | omega | (simp only [h_sl, h_al] <;> omega) | fail) only [WW, WH, ↓reduceIte, nA, nB, nC, nD, nE, nF, nG, reduceCtorEq, L_ref14_Parse, hs_o1, hs_o2]
    have hq := Option.some.inj h; have hq0 := (Prod.mk.inj hq).1; replace hq := (Prod.mk.inj hq).2; subst hq0; subst hq
    refine hK0 _ _ _ (.inr rfl) ?_
    exact fn_end0 (by exact (Fr.set (s := q5) hfr (.inr (by first | assumption | omega | (simp only [h_sl, h_al] <;> omega) | fail)))) hcl (resv_cell (cs := [(.str ([] : List UInt8)), (.str ([] : List UInt8))]) (v := (.agg [(.str ([] : List UInt8)), (.str ([] : List UInt8))])) (by kernel_rfl) (n := (some 2)) (by kernel_rfl) rfl (by exact ((h_eq (by first | assumption | omega | (simp only [h_sl, h_al] <;> omega) | fail)).trans rfl)) (by simp [loadc_n, loadc_1, ld1, allFlat, AV.flat, b_flat, b_sh1, AV.sh1, Tg.sh]) (resv_tmp (a := (.int .i64 3)) rfl rfl resv_nil)) (by first | (simp [fin, b_df, b_sh, b_sh1, b_Cl]; done) | (simp [fin, AV.df, AV.sh, AV.sh1, b_df, b_sh, b_sh1, b_Cl]; done)) (Wx.tupX (W2L.same (W2L.same (W2L.nil)))) (r' := (.tup [(.agg [(.str ((AddressV.mk ([] : List UInt8) ([] : List UInt8)).local0)), (.str ((AddressV.mk ([] : List UInt8) ([] : List UInt8)).domain))]), (.int .i64 3)])) ⟨rfl, rfl⟩
  · refine UC_f hy3 ?_
    try simp (disch := first | assumption | omega | (simp only [h_sl, h_al] <;> omega) | fail) only [WW, WH, ↓reduceIte, nA, nB, nC, nD, nE, nF, nG, reduceCtorEq, L_ref14_Parse, hs_o1, hs_o2]
    have hq := Option.some.inj h; have hq0 := (Prod.mk.inj hq).1; replace hq := (Prod.mk.inj hq).2; subst hq0; subst hq
    refine hK0 _ _ _ (.inr rfl) ?_
    exact fn_end0 (by exact (Fr.set (s := q5) hfr (.inr (by first | assumption | omega | (simp only [h_sl, h_al] <;> omega) | fail)))) hcl (resv_cell (cs := [(.str r2.local0), (.str r2.domain)]) (v := (.agg [(.str r2.local0), (.str r2.domain)])) (by kernel_rfl) (n := (some 2)) (by kernel_rfl) rfl (by exact ((h_eq (by first | assumption | omega | (simp only [h_sl, h_al] <;> omega) | fail)).trans rfl)) (by simp [loadc_n, loadc_1, ld1, allFlat, AV.flat, b_flat, b_sh1, AV.sh1, Tg.sh]) (resv_tmp (a := (.int .i64 r4)) rfl rfl resv_nil)) (by first | (simp [fin, b_df, b_sh, b_sh1, b_Cl]; done) | (simp [fin, AV.df, AV.sh, AV.sh1, b_df, b_sh, b_sh1, b_Cl]; done)) (Wx.tupX (W2L.same (W2L.same (W2L.nil)))) (r' := (.tup [(.agg [(.str r2.local0), (.str r2.domain)]), (.int .i64 r4)])) ⟨rfl, rfl⟩

/-! ### mailbag/mailbagref14.Lower -/
def c_ref14_Lower_p1 : ACode := (.rg [⟨(some 13), (.mv (.t 3)), none⟩, ⟨(some 14), (.mv (.t 4)), none⟩, ⟨(some 15), (.ixa 1 (.t 13) (.t 14)), none⟩, ⟨(some 16), (.ld (.t 15) none), none⟩, ⟨(some 17), (.bin .geq (.t 16) (.c (b8 65))), none⟩, ⟨(some 18), (.mv (.t 17)), none⟩, ⟨(some 19), (.mv (.t 3)), (some (18, true))⟩, ⟨(some 20), (.mv (.t 4)), (some (18, true))⟩, ⟨(some 21), (.ixa 1 (.t 19) (.t 20)), (some (18, true))⟩, ⟨(some 22), (.ld (.t 21) none), (some (18, true))⟩, ⟨(some 23), (.bin .leq (.t 22) (.c (b8 90))), (some (18, true))⟩, ⟨(some 24), (.pick (.t 18) (.t 23) (.c (.bool false))), none⟩])
abbrev m_ref14_Lower_p1 := c_ref14_Lower_p1
def c_ref14_Lower_l1b : ACode := (.seq (.seq (.rg [⟨(some 7), (.mv (.t 4)), none⟩, ⟨(some 8), (.mv (.t 3)), none⟩, ⟨(some 9), (.len (.t 8)), none⟩, ⟨(some 10), (.bin .lss (.t 7) (.t 9)), none⟩]) (.cond (.t 10) .skip (.exit 0))) (.seq (.blk 1 (.seq c_ref14_Lower_p1 (.cond (.t 24) (.rg [⟨(some 25), (.mv (.t 3)), none⟩, ⟨(some 26), (.mv (.t 4)), none⟩, ⟨(some 27), (.mv (.t 3)), none⟩, ⟨(some 28), (.mv (.t 4)), none⟩, ⟨(some 29), (.ixa 1 (.t 27) (.t 28)), none⟩, ⟨(some 30), (.ld (.t 29) none), none⟩, ⟨(some 31), (.bin .add (.t 30) (.c (b8 32))), none⟩, ⟨(some 32), (.ixa 1 (.t 25) (.t 26)), none⟩, ⟨none, (.st (.t 32) (.t 31) 1), none⟩]) .skip))) (.rg [⟨(some 11), (.mv (.t 4)), none⟩, ⟨(some 12), (.bin .add (.t 11) (.c (.int .i64 1))), none⟩, ⟨(some 4), (.asg (.t 12)), none⟩])))
def c_ref14_Lower_l1 : ACode := (.loop c_ref14_Lower_l1b)
def m_ref14_Lower_l1b : ACode := (.seq (.seq (.rg [⟨(some 7), (.mv (.t 4)), none⟩, ⟨(some 8), (.mv (.t 3)), none⟩, ⟨(some 9), (.len (.t 8)), none⟩, ⟨(some 10), (.bin .lss (.t 7) (.t 9)), none⟩]) (.cond (.t 10) .skip (.exit 0))) (.seq (.blk 1 (.seq (.sem c_ref14_Lower_p1) (.cond (.t 24) (.rg [⟨(some 25), (.mv (.t 3)), none⟩, ⟨(some 26), (.mv (.t 4)), none⟩, ⟨(some 27), (.mv (.t 3)), none⟩, ⟨(some 28), (.mv (.t 4)), none⟩, ⟨(some 29), (.ixa 1 (.t 27) (.t 28)), none⟩, ⟨(some 30), (.ld (.t 29) none), none⟩, ⟨(some 31), (.bin .add (.t 30) (.c (b8 32))), none⟩, ⟨(some 32), (.ixa 1 (.t 25) (.t 26)), none⟩, ⟨none, (.st (.t 32) (.t 31) 1), none⟩]) .skip))) (.rg [⟨(some 11), (.mv (.t 4)), none⟩, ⟨(some 12), (.bin .add (.t 11) (.c (.int .i64 1))), none⟩, ⟨(some 4), (.asg (.t 12)), none⟩])))
def c_ref14_Lower : ACode := (.seq (.rg [⟨(some 2), (.asg (.c (.str []))), none⟩]) (.seq (.rg [⟨(some 5), (.mv (.t 0)), none⟩, ⟨(some 6), (.cvt .sb (.t 5)), none⟩, ⟨(some 3), (.asg (.t 6)), none⟩]) (.seq (.seq (.rg [⟨(some 4), (.asg (.c (.int .i64 0))), none⟩]) (.blk 0 c_ref14_Lower_l1)) (.seq (.rg [⟨(some 33), (.mv (.t 3)), none⟩, ⟨(some 34), (.cvt .bs (.t 33)), none⟩, ⟨(some 2), (.asg (.t 34)), none⟩]) .ret))))
def m_ref14_Lower : ACode := (.seq (.rg [⟨(some 2), (.asg (.c (.str []))), none⟩]) (.seq (.rg [⟨(some 5), (.mv (.t 0)), none⟩, ⟨(some 6), (.cvto (.t 5)), none⟩, ⟨(some 3), (.asg (.t 6)), none⟩]) (.seq (.seq (.rg [⟨(some 4), (.asg (.c (.int .i64 0))), none⟩]) (.blk 0 c_ref14_Lower_l1)) (.seq (.rg [⟨(some 33), (.mv (.t 3)), none⟩, ⟨(some 34), (.cvt .bs (.t 33)), none⟩, ⟨(some 2), (.asg (.t 34)), none⟩]) .ret))))
theorem k_ref14_Lower : FnOk Tryd.prog 42 35 [(.tmp 2)] c_ref14_Lower := ⟨Tryd.f42, _, rfl, by decide, rfl, by kernel_rfl, rfl, rfl⟩
abbrev L_ref14_Lower : List Nat := [0, 2, 3, 4, 10, 24]
def ref14_Lower_p1 (s1 : List UInt8) (i3 : Int) (s4 : List UInt8) : Option (Bool) :=
  (ixm s1.length i3).bind fun j6 =>
  (s4[j6]?).bind fun x7 =>
  (if (decide (65 ≤ x7)) then
    some (decide (x7 ≤ 90))
  else
    some false)
def ref14_Lower_l1 (s1 : List UInt8) : (Int × (List UInt8)) → Option (St (List UInt8) (List UInt8) (Int × (List UInt8)))
  | (i3, s4) =>
    (if (decide (i3 < (s1.length : Int))) then
      (ref14_Lower_p1 s1 i3 s4).bind fun t9 =>
      (if t9 then
        (ixm s1.length i3).bind fun j10 =>
        (s4[j10]?).bind fun x11 =>
        (setx s4 j10 (x11 + 32)).bind fun s12 => some (.nxt ((IntKind.wrap .i64 (i3 + 1)), s12))
      else
        some (.nxt ((IntKind.wrap .i64 (i3 + 1)), s4)))
    else
      some (.brk s4))
def ref14_Lower (F : Nat) (s1 : List UInt8) : Option ((List UInt8)) :=
  ((iter (ref14_Lower_l1 s1) F (0, s1)).bind fun o16 =>
  match o16 with
  | .inr s14 =>
    (sub s14 0 (s1.length : Int)).bind fun x15 => some x15
  | .inl _ => none)
theorem ref14_Lower_p1_ok {s1 : List UInt8} {i3 : Int} {s4 : List UInt8} {q5 : Nat} {H0 H : AH} (hfr : Fr H0 H0.length [] H) (hs_o1 : H[q5]? = some (ml b8 s4)) (hi0 : H0.length ≤ q5) {K : Exit → Env → AH → Prop} {t8 : Bool}
    (h : ref14_Lower_p1 s1 i3 s4 = some t8)
    (kn : ∀ H' : AH, Fr H0 H0.length [] H' → H'[q5]? = some (ml b8 s4) → K .normal [(3, (.msl q5 1 0 s1.length)), (4, (.int .i64 i3)), (24, (.bool t8))] H') :
    AX Tryd.prog L_ref14_Lower 35 H0.length c_ref14_Lower_p1 K [(3, (.msl q5 1 0 s1.length)), (4, (.int .i64 i3))] H := by
  refine AX.go (m := m_ref14_Lower_p1) rfl (by decide) fun K' hK => ?_
  have hle := hfr.le
  have hl_o1 := h_lt hs_o1
  rw [ref14_Lower_p1.eq_1] at h
  obtain ⟨j6, hy2, h⟩ := bnd' h
  obtain ⟨x7, hy3, h⟩ := bnd' h
  try simp (disch := first | assumption | omega | (simp only [h_sl, h_al] <;> omega) | fail) only [WW, WH, ↓reduceIte, nA, nB, nC, nD, nE, nF, nG, reduceCtorEq, L_ref14_Lower, m_ref14_Lower_p1, c_ref14_Lower_p1, hy2, hy3, hs_o1]
  rcases ifb h with ⟨hy4, h⟩ | ⟨hy4, h⟩
  · refine UG_go hy4 ?_
    try simp (disch := first | assumption | omega | (simp only [h_sl, h_al] <;> omega) | fail) only [WW, WH, ↓reduceIte, nA, nB, nC, nD, nE, nF, nG, reduceCtorEq, L_ref14_Lower, hy4, hy2, hy3, hs_o1]
    have hq := Option.some.inj h; subst hq
    refine hK _ _ _ _ _ ?_ (WxH.refl _) (kn _ hfr ((hs_o1).trans rfl))
    exact WE.cons (Wx.msl) (WE.cons (Wx.int) (WE.cons (Wx.bool) (WE.nil)))
  · refine UG_nt hy4 ?_
    try simp (disch := first | assumption | omega | (simp only [h_sl, h_al] <;> omega) | fail) only [WW, WH, ↓reduceIte, nA, nB, nC, nD, nE, nF, nG, reduceCtorEq, L_ref14_Lower, hy4, hs_o1]
    have hq := Option.some.inj h; subst hq
    refine hK _ _ _ _ _ ?_ (WxH.refl _) (kn _ hfr ((hs_o1).trans rfl))
    exact WE.cons (Wx.msl) (WE.cons (Wx.int) (WE.cons (Wx.bool) (WE.nil)))
theorem ref14_Lower_l1_ok {F : Nat} {i3 : Int} {s1 : List UInt8} {s4 : List UInt8} {q2 : Nat} {H0 H : AH} (hfr : Fr H0 H0.length [] H) (hs_o1 : H[q2]? = some (ml b8 s4)) (hi0 : H0.length ≤ q2) {K : Exit → Env → AH → Prop} {o : ((List UInt8)) ⊕ ((List UInt8))}
    (h : iter (ref14_Lower_l1 s1) F (i3, s4) = some o)
    (kb0 : ∀ o' : (List UInt8), o = .inr o' → ∀ H' : AH, Fr H0 H0.length [] H' → H'[q2]? = some (ml b8 o') → K (.exit 0) [(3, (.msl q2 1 0 s1.length))] H') :
    AX Tryd.prog L_ref14_Lower 35 H0.length c_ref14_Lower_l1 K [(3, (.msl q2 1 0 s1.length)), (4, (.int .i64 i3))] H := by
  refine AX.iter (m := m_ref14_Lower_l1b) rfl (by decide) (fun s e H1 => match s with | (i3, s4) => e = [(3, (.msl q2 1 0 s1.length)), (4, (.int .i64 i3))] ∧ Fr H0 H0.length [] H1 ∧ H1[q2]? = some (ml b8 s4)) h ⟨rfl, hfr, hs_o1⟩ ?_
  skip
  rintro K' ⟨i3, s4⟩ st e H ⟨rfl, hfr, hs_o1⟩ h hN hB hR hX
  have hle := hfr.le
  have hl_o1 := h_lt hs_o1
  rw [ref14_Lower_l1.eq_1] at h
  try simp (disch := first | assumption | omega | (simp only [h_sl, h_al] <;> omega) | fail) only [WW, WH, ↓reduceIte, nA, nB, nC, nD, nE, nF, nG, reduceCtorEq, L_ref14_Lower, m_ref14_Lower_l1b, hs_o1]
  rcases ifb h with ⟨hy1, h⟩ | ⟨hy1, h⟩
  · refine UC_t hy1 ?_
    try simp (disch := first | assumption | omega | (simp only [h_sl, h_al] <;> omega) | fail) only [WW, WH, ↓reduceIte, nA, nB, nC, nD, nE, nF, nG, reduceCtorEq, L_ref14_Lower, hs_o1]
    obtain ⟨t9, hy5, h⟩ := bnd' h
    refine UX_of (AX.weak ?_ (WxH.refl _) (ref14_Lower_p1_ok  (s1 := s1) (i3 := i3) (s4 := s4) (t8 := t9) (q5 := q2) (hfr) ((hs_o1).trans rfl) (by first | assumption | omega | (simp only [h_sl, h_al] <;> omega) | fail) hy5 ?_))
    · exact WE.cons (Wx.msl) (WE.cons (Wx.int) (WE.nil))
    intro H hfr hs_o1
    have hle := hfr.le
    have hl_o1 := h_lt hs_o1
    try simp (disch := first | assumption | omega | (simp only [h_sl, h_al] <;> omega) | fail) only [WW, WH, ↓reduceIte, nA, nB, nC, nD, nE, nF, nG, reduceCtorEq, L_ref14_Lower, hs_o1]
    rcases ifb h with ⟨hy6, h⟩ | ⟨hy6, h⟩
    · refine UC_t hy6 ?_
      obtain ⟨j10, hy7, h⟩ := bnd' h
      obtain ⟨x11, hy8, h⟩ := bnd' h
      obtain ⟨s12, hy9, h⟩ := bnd' h
      try simp (disch := first | assumption | omega | (simp only [h_sl, h_al] <;> omega) | fail) only [WW, WH, ↓reduceIte, nA, nB, nC, nD, nE, nF, nG, reduceCtorEq, L_ref14_Lower, hy7, hy8, hy7, hy9, hs_o1]
      have hq := Option.some.inj h; subst hq
      refine hN _ rfl _ _ _ _ ?_ (WxH.refl _) ⟨rfl, (Fr.set (s := q2) hfr (.inr (by first | assumption | omega | (simp only [h_sl, h_al] <;> omega) | fail))), ((h_eq (by first | assumption | omega | (simp only [h_sl, h_al] <;> omega) | fail)).trans rfl)⟩
      exact WE.cons (Wx.msl) (WE.cons (Wx.int) (WE.nil))
    · refine UC_f hy6 ?_
      try simp (disch := first | assumption | omega | (simp only [h_sl, h_al] <;> omega) | fail) only [WW, WH, ↓reduceIte, nA, nB, nC, nD, nE, nF, nG, reduceCtorEq, L_ref14_Lower, hs_o1]
      have hq := Option.some.inj h; subst hq
      refine hN _ rfl _ _ _ _ ?_ (WxH.refl _) ⟨rfl, hfr, ((hs_o1).trans rfl)⟩
      exact WE.cons (Wx.msl) (WE.cons (Wx.int) (WE.nil))
  · refine UC_f hy1 ?_
    try simp (disch := first | assumption | omega | (simp only [h_sl, h_al] <;> omega) | fail) only [WW, WH, ↓reduceIte, nA, nB, nC, nD, nE, nF, nG, reduceCtorEq, L_ref14_Lower, hs_o1]
    have hq := Option.some.inj h; subst hq
    refine hX _ _ _ _ _ (by simp) ?_ (WxH.refl _) (kb0 _ (hB _ rfl) _ hfr ((hs_o1).trans rfl))
    exact WE.cons (Wx.msl) (WE.nil)
theorem ref14_Lower_ok {F : Nat} {s1 : List UInt8}  {H0 : AH}  {rz0 : List UInt8} (h : ref14_Lower F s1 = some rz0) :
    ACalls Tryd.prog 42 [(.str s1)] H0 fun v H' => v = (.str rz0) ∧ H' = H0 := by
  refine ACalls.goX k_ref14_Lower (m := m_ref14_Lower) rfl L_ref14_Lower (by decide) (by simp) fun hcl K0 hK0 => ?_
  refine AX.of_U (m := m_ref14_Lower) rfl (by decide) ?_
  have hfr := Fr.refl H0 []
  have hle := hfr.le
  rw [ref14_Lower.eq_1] at h
  obtain ⟨H, hHH⟩ : ∃ H, H = H0 := ⟨_, rfl⟩
  have hfr : Fr H0 H0.length [] H := hHH ▸ hfr
  have hle := hfr.le
  suffices hU : U Tryd.prog L_ref14_Lower 35 H0.length [.code m_ref14_Lower] K0 .normal (argE 0 [(.str s1)]) H by rwa [hHH] at hU
  try simp (disch := first | assumption | omega | (simp only [h_sl, h_al] <;> omega) | fail) only [WW, WH, ↓reduceIte, nA, nB, nC, nD, nE, nF, nG, reduceCtorEq, L_ref14_Lower, m_ref14_Lower]
  obtain ⟨q2, hg_q2⟩ : ∃ q : Nat, H.length = q := ⟨_, rfl⟩
  try rw [hg_q2]
  obtain ⟨o16, hy10, h⟩ := bnd' h
  refine UX_of (AX.weak ?_ (WxH.refl _) (ref14_Lower_l1_ok  (s1 := s1) (i3 := 0) (s4 := s1) (q2 := q2) ((Fr.app hfr)) ((h_new' (by first | assumption | omega | (simp only [h_sl, h_al] <;> omega) | fail)).trans rfl) (by first | assumption | omega | (simp only [h_sl, h_al] <;> omega) | fail) (o := o16) hy10 ?_))
  · exact WE.cons (Wx.msl) (WE.cons (Wx.int) (WE.nil))
  · rintro s14 rfl H hfr hs_o1
    try dsimp only at h hs_o1
    have hle := hfr.le
    have hl_o1 := h_lt hs_o1
    obtain ⟨x15, hy11, h⟩ := bnd' h
    try simp (disch := first | assumption | omega | (simp only [h_sl, h_al] <;> omega) | fail) only [WW, WH, ↓reduceIte, nA, nB, nC, nD, nE, nF, nG, reduceCtorEq, L_ref14_Lower, hy11, hs_o1]
    have hq := Option.some.inj h; subst hq
    refine hK0 _ _ _ (.inr rfl) ?_
    exact fn_end0 (by exact hfr) hcl (resv_tmp (a := (.str x15)) rfl rfl resv_nil) (by first | (simp [fin, b_df, b_sh, b_sh1, b_Cl]; done) | (simp [fin, AV.df, AV.sh, AV.sh1, b_df, b_sh, b_sh1, b_Cl]; done)) (Wx.str) (r' := (.str x15)) ⟨rfl, rfl⟩

end Go.Proofs.AddrS
