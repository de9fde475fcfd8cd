import Derived.Test.YtfnnmecilcnloaaDoorASAddrTextsA
set_option linter.unusedSimpArgs false
set_option linter.unusedVariables false
set_option linter.unusedSectionVars false
set_option linter.defProp false
set_option maxRecDepth 100000
namespace Go.Proofs.AddrS
open Go Go.Am Go.Proofs
open Nat renaming reduceEqDiff → nA, reduceLT → nB, reduceLeDiff → nC, reduceAdd → nD, reduceSub → nE, reduceMul → nF, reduceBEq → nG
set_option maxHeartbeats 2000000

/-! ### mailbag/mailbaglaw14.AddrTexts -/
def c_law14_AddrTexts_p1 : ACode := (.rg [⟨(some 40), (.ld (.t 3) (some 2)), none⟩, ⟨(some 41), (.ld (.t 6) (some 2)), none⟩, ⟨(some 42), (.seq [.s, .s] false (.t 40) (.t 41)), none⟩, ⟨(some 43), (.mv (.t 42)), none⟩, ⟨(some 44), (.mv (.t 4)), (some (43, true))⟩, ⟨(some 45), (.mv (.t 7)), (some (43, true))⟩, ⟨(some 46), (.bin .eql (.t 44) (.t 45)), (some (43, true))⟩, ⟨(some 47), (.pick (.t 43) (.t 46) (.c (.bool false))), none⟩, ⟨(some 48), (.mv (.t 47)), none⟩, ⟨(some 49), (.mv (.t 5)), (some (48, true))⟩, ⟨(some 50), (.mv (.t 8)), (some (48, true))⟩, ⟨(some 51), (.bin .eql (.t 49) (.t 50)), (some (48, true))⟩, ⟨(some 52), (.pick (.t 48) (.t 51) (.c (.bool false))), none⟩, ⟨(some 53), (.mv (.t 52)), none⟩, ⟨(some 54), (.ld (.t 9) (some 2)), (some (53, true))⟩, ⟨(some 55), (.ld (.t 11) (some 2)), (some (53, true))⟩, ⟨(some 56), (.seq [.s, .s] false (.t 54) (.t 55)), (some (53, true))⟩, ⟨(some 57), (.pick (.t 53) (.t 56) (.c (.bool false))), none⟩, ⟨(some 58), (.mv (.t 57)), none⟩, ⟨(some 59), (.mv (.t 10)), (some (58, true))⟩, ⟨(some 60), (.mv (.t 12)), (some (58, true))⟩, ⟨(some 61), (.bin .eql (.t 59) (.t 60)), (some (58, true))⟩, ⟨(some 62), (.pick (.t 58) (.t 61) (.c (.bool false))), none⟩, ⟨(some 63), (.mv (.t 62)), none⟩, ⟨(some 64), (.mv (.t 0)), (some (63, true))⟩, ⟨(some 65), (.call (.c (.fn 37 [])) [(.t 64)]), (some (63, true))⟩, ⟨(some 66), (.mv (.t 0)), (some (63, true))⟩, ⟨(some 67), (.call (.c (.fn 38 [])) [(.t 66)]), (some (63, true))⟩, ⟨(some 68), (.bq false (.t 65) (.t 67)), (some (63, true))⟩, ⟨(some 69), (.pick (.t 63) (.t 68) (.c (.bool false))), none⟩, ⟨(some 70), (.mv (.t 69)), none⟩, ⟨(some 71), (.mv (.t 0)), (some (70, true))⟩, ⟨(some 72), (.call (.c (.fn 39 [])) [(.t 71)]), (some (70, true))⟩, ⟨(some 73), (.mv (.t 0)), (some (70, true))⟩, ⟨(some 74), (.call (.c (.fn 40 [])) [(.t 73)]), (some (70, true))⟩, ⟨(some 75), (.bq false (.t 72) (.t 74)), (some (70, true))⟩, ⟨(some 76), (.pick (.t 70) (.t 75) (.c (.bool false))), none⟩, ⟨(some 77), (.mv (.t 76)), none⟩, ⟨(some 78), (.mv (.t 0)), (some (77, true))⟩, ⟨(some 79), (.call (.c (.fn 41 [])) [(.t 78)]), (some (77, true))⟩, ⟨(some 80), (.mv (.t 0)), (some (77, true))⟩, ⟨(some 81), (.call (.c (.fn 42 [])) [(.t 80)]), (some (77, true))⟩, ⟨(some 82), (.bin .eql (.t 79) (.t 81)), (some (77, true))⟩, ⟨(some 83), (.pick (.t 77) (.t 82) (.c (.bool false))), none⟩, ⟨(some 2), (.asg (.t 83)), none⟩])
abbrev m_law14_AddrTexts_p1 := c_law14_AddrTexts_p1
def c_law14_AddrTexts : ACode := (.seq (.rg [⟨(some 2), (.asg (.c (.bool false))), none⟩]) (.seq (.seq (.rg [⟨(some 13), (.call (.c (.fn 32 [])) []), none⟩, ⟨(some 14), (.un .not (.t 13)), none⟩]) (.cond (.t 14) (.seq (.rg [⟨(some 2), (.asg (.c (.bool false))), none⟩]) .ret) .skip)) (.seq (.seq (.rg [⟨(some 15), (.mv (.t 0)), none⟩, ⟨(some 16), (.lens (.t 15)), none⟩, ⟨(some 17), (.bin .gtr (.t 16) (.c (.int .i64 2000))), none⟩]) (.cond (.t 17) (.seq (.rg [⟨(some 2), (.asg (.c (.bool true))), none⟩]) .ret) .skip)) (.seq (.rg [⟨(some 19), (.mv (.t 0)), none⟩, ⟨(some 20), (.call (.c (.fn 33 [])) [(.t 19)]), none⟩, ⟨(some 18), (.mv (.t 20)), none⟩, ⟨(some 21), (.ext (.t 18) 0), none⟩, ⟨(some 22), (.ext (.t 18) 1), none⟩, ⟨(some 23), (.ext (.t 18) 2), none⟩, ⟨(some 3), (.alloc [(.str []), (.str [])]), none⟩, ⟨none, (.st (.t 3) (.t 21) 2), none⟩, ⟨(some 4), (.asg (.t 22)), none⟩, ⟨(some 5), (.asg (.t 23)), none⟩]) (.seq (.rg [⟨(some 25), (.mv (.t 0)), none⟩, ⟨(some 26), (.call (.c (.fn 34 [])) [(.t 25)]), none⟩, ⟨(some 24), (.mv (.t 26)), none⟩, ⟨(some 27), (.ext (.t 24) 0), none⟩, ⟨(some 28), (.ext (.t 24) 1), none⟩, ⟨(some 29), (.ext (.t 24) 2), none⟩, ⟨(some 6), (.alloc [(.str []), (.str [])]), none⟩, ⟨none, (.st (.t 6) (.t 27) 2), none⟩, ⟨(some 7), (.asg (.t 28)), none⟩, ⟨(some 8), (.asg (.t 29)), none⟩]) (.seq (.rg [⟨(some 31), (.mv (.t 0)), none⟩, ⟨(some 32), (.call (.c (.fn 35 [])) [(.t 31)]), none⟩, ⟨(some 30), (.mv (.t 32)), none⟩, ⟨(some 33), (.ext (.t 30) 0), none⟩, ⟨(some 34), (.ext (.t 30) 1), none⟩, ⟨(some 9), (.alloc [(.str []), (.str [])]), none⟩, ⟨none, (.st (.t 9) (.t 33) 2), none⟩, ⟨(some 10), (.asg (.t 34)), none⟩]) (.seq (.rg [⟨(some 36), (.mv (.t 0)), none⟩, ⟨(some 37), (.call (.c (.fn 36 [])) [(.t 36)]), none⟩, ⟨(some 35), (.mv (.t 37)), none⟩, ⟨(some 38), (.ext (.t 35) 0), none⟩, ⟨(some 39), (.ext (.t 35) 1), none⟩, ⟨(some 11), (.alloc [(.str []), (.str [])]), none⟩, ⟨none, (.st (.t 11) (.t 38) 2), none⟩, ⟨(some 12), (.asg (.t 39)), none⟩]) (.seq c_law14_AddrTexts_p1 .ret))))))))
def m_law14_AddrTexts : ACode := (.seq (.rg [⟨(some 2), (.asg (.c (.bool false))), none⟩]) (.seq (.seq (.rg [⟨(some 13), (.call (.c (.fn 32 [])) []), none⟩, ⟨(some 14), (.un .not (.t 13)), none⟩]) (.cond (.t 14) (.seq (.rg [⟨(some 2), (.asg (.c (.bool false))), none⟩]) .ret) .skip)) (.seq (.seq (.rg [⟨(some 15), (.mv (.t 0)), none⟩, ⟨(some 16), (.lens (.t 15)), none⟩, ⟨(some 17), (.bin .gtr (.t 16) (.c (.int .i64 2000))), none⟩]) (.cond (.t 17) (.seq (.rg [⟨(some 2), (.asg (.c (.bool true))), none⟩]) .ret) .skip)) (.seq (.rg [⟨(some 19), (.mv (.t 0)), none⟩, ⟨(some 20), (.call (.c (.fn 33 [])) [(.t 19)]), none⟩, ⟨(some 18), (.mv (.t 20)), none⟩, ⟨(some 21), (.ext (.t 18) 0), none⟩, ⟨(some 22), (.ext (.t 18) 1), none⟩, ⟨(some 23), (.ext (.t 18) 2), none⟩, ⟨(some 3), (.alloc [(.str []), (.str [])]), none⟩, ⟨none, (.st (.t 3) (.t 21) 2), none⟩, ⟨(some 4), (.asg (.t 22)), none⟩, ⟨(some 5), (.asg (.t 23)), none⟩]) (.seq (.rg [⟨(some 25), (.mv (.t 0)), none⟩, ⟨(some 26), (.call (.c (.fn 34 [])) [(.t 25)]), none⟩, ⟨(some 24), (.mv (.t 26)), none⟩, ⟨(some 27), (.ext (.t 24) 0), none⟩, ⟨(some 28), (.ext (.t 24) 1), none⟩, ⟨(some 29), (.ext (.t 24) 2), none⟩, ⟨(some 6), (.alloc [(.str []), (.str [])]), none⟩, ⟨none, (.st (.t 6) (.t 27) 2), none⟩, ⟨(some 7), (.asg (.t 28)), none⟩, ⟨(some 8), (.asg (.t 29)), none⟩]) (.seq (.rg [⟨(some 31), (.mv (.t 0)), none⟩, ⟨(some 32), (.call (.c (.fn 35 [])) [(.t 31)]), none⟩, ⟨(some 30), (.mv (.t 32)), none⟩, ⟨(some 33), (.ext (.t 30) 0), none⟩, ⟨(some 34), (.ext (.t 30) 1), none⟩, ⟨(some 9), (.alloc [(.str []), (.str [])]), none⟩, ⟨none, (.st (.t 9) (.t 33) 2), none⟩, ⟨(some 10), (.asg (.t 34)), none⟩]) (.seq (.rg [⟨(some 36), (.mv (.t 0)), none⟩, ⟨(some 37), (.call (.c (.fn 36 [])) [(.t 36)]), none⟩, ⟨(some 35), (.mv (.t 37)), none⟩, ⟨(some 38), (.ext (.t 35) 0), none⟩, ⟨(some 39), (.ext (.t 35) 1), none⟩, ⟨(some 11), (.alloc [(.str []), (.str [])]), none⟩, ⟨none, (.st (.t 11) (.t 38) 2), none⟩, ⟨(some 12), (.asg (.t 39)), none⟩]) (.seq (.sem c_law14_AddrTexts_p1) .ret))))))))
theorem k_law14_AddrTexts : FnOk Tryd.prog 7 84 [(.tmp 2)] c_law14_AddrTexts := ⟨Tryd.f7, _, rfl, by decide, rfl, by kernel_rfl, rfl, rfl⟩
abbrev L_law14_AddrTexts : List Nat := [0, 2, 3, 4, 5, 6, 7, 8, 9, 10, 11, 12, 14, 17]
def law14_AddrTexts_p1 (F : Nat) (r3 : AddressV) (r6 : AddressV) (r4 : List UInt8) (r7 : List UInt8) (r5 : Int) (r8 : Int) (r9 : AddressV) (r11 : AddressV) (r10 : Int) (r12 : Int) (s1 : List UInt8) : Option (Bool) :=
  (if (decide (r3.local0 = r6.local0) && decide (r3.domain = r6.domain)) then
    (if (decide (r4 = r7)) then
      (if (decide (r5 = r8)) then
        (if (decide (r9.local0 = r11.local0) && decide (r9.domain = r11.domain)) then
          (if (decide (r10 = r12)) then
            (addr_Domain F s1).bind fun r17 =>
            (ref14_Domain F s1).bind fun r18 =>
            (if (r17 == r18) then
              (addr_Local F s1).bind fun r19 =>
              (ref14_Local F s1).bind fun r20 =>
              (if (r19 == r20) then
                (addr_Lower F s1).bind fun r21 => (ref14_Lower F s1).bind fun r22 => some (decide (r21 = r22))
              else
                some false)
            else
              some false)
          else
            some false)
        else
          some false)
      else
        some false)
    else
      some false)
  else
    some false)
def law14_AddrTexts (F : Nat) (s1 : List UInt8) : Option (Bool) :=
  (law14_known F ).bind fun r2 =>
  (if (!r2) then
    some false
  else
    (if (decide (2000 < (s1.length : Int))) then
      some true
    else
      (addr_Path F s1).bind fun (r3, r4, r5) =>
      (ref14_Path F s1).bind fun (r6, r7, r8) =>
      (addr_Parse F s1).bind fun (r9, r10) =>
      (ref14_Parse F s1).bind fun (r11, r12) =>
      (law14_AddrTexts_p1 F r3 r6 r4 r7 r5 r8 r9 r11 r10 r12 s1).bind fun t24 =>
      some t24))
theorem law14_AddrTexts_p1_ok {F : Nat} {r3 : AddressV} {r6 : AddressV} {r4 : List UInt8} {r7 : List UInt8} {r5 : Int} {r8 : Int} {r9 : AddressV} {r11 : AddressV} {r10 : Int} {r12 : Int} {s1 : List UInt8} {q13 : Nat} {q14 : Nat} {q15 : Nat} {q16 : Nat} {H0 H : AH} (hfr : Fr H0 H0.length [] H) (hs_o1 : H[q13]? = some [(.str r3.local0), (.str r3.domain)]) (hs_o2 : H[q14]? = some [(.str r6.local0), (.str r6.domain)]) (hs_o3 : H[q15]? = some [(.str r9.local0), (.str r9.domain)]) (hs_o4 : H[q16]? = some [(.str r11.local0), (.str r11.domain)]) (hi0 : H0.length ≤ q13) (hi1 : H0.length ≤ q14) (hi2 : q13 ≠ q14) (hi3 : H0.length ≤ q15) (hi4 : q13 ≠ q15) (hi5 : q14 ≠ q15) (hi6 : H0.length ≤ q16) (hi7 : q13 ≠ q16) (hi8 : q14 ≠ q16) (hi9 : q15 ≠ q16) {K : Exit → Env → AH → Prop} {t23 : Bool}
    (h : law14_AddrTexts_p1 F r3 r6 r4 r7 r5 r8 r9 r11 r10 r12 s1 = some t23)
    (kn : ∀ H' : AH, Fr H0 H0.length [] H' → H'[q13]? = some [(.str r3.local0), (.str r3.domain)] → H'[q14]? = some [(.str r6.local0), (.str r6.domain)] → H'[q15]? = some [(.str r9.local0), (.str r9.domain)] → H'[q16]? = some [(.str r11.local0), (.str r11.domain)] → K .normal [(2, (.bool t23))] H') :
    AX Tryd.prog L_law14_AddrTexts 84 H0.length c_law14_AddrTexts_p1 K [(0, (.str s1)), (2, (.bool false)), (3, (.ptr q13 0)), (4, (.str r4)), (5, (.int .i64 r5)), (6, (.ptr q14 0)), (7, (.str r7)), (8, (.int .i64 r8)), (9, (.ptr q15 0)), (10, (.int .i64 r10)), (11, (.ptr q16 0)), (12, (.int .i64 r12))] H := by
  refine AX.go (m := m_law14_AddrTexts_p1) rfl (by decide) fun K' hK => ?_
  have hle := hfr.le
  have hl_o1 := h_lt hs_o1
  have hl_o2 := h_lt hs_o2
  have hl_o3 := h_lt hs_o3
  have hl_o4 := h_lt hs_o4
  rw [law14_AddrTexts_p1.eq_1] at h
  try simp (disch := first | assumption | omega | (simp only [h_sl, h_al] <;> omega) | fail) only [WW, WH, ↓reduceIte, nA, nB, nC, nD, nE, nF, nG, reduceCtorEq, L_law14_AddrTexts, m_law14_AddrTexts_p1, c_law14_AddrTexts_p1, hs_o1, hs_o2, hs_o3, hs_o4]
  rcases ifb h with ⟨hy8, h⟩ | ⟨hy8, h⟩
  · refine UG_go hy8 ?_
    try simp (disch := first | assumption | omega | (simp only [h_sl, h_al] <;> omega) | fail) only [WW, WH, ↓reduceIte, nA, nB, nC, nD, nE, nF, nG, reduceCtorEq, L_law14_AddrTexts, hy8, hs_o1, hs_o2, hs_o3, hs_o4]
    rcases ifb h with ⟨hy9, h⟩ | ⟨hy9, h⟩
    · refine UG_go hy9 ?_
      try simp (disch := first | assumption | omega | (simp only [h_sl, h_al] <;> omega) | fail) only [WW, WH, ↓reduceIte, nA, nB, nC, nD, nE, nF, nG, reduceCtorEq, L_law14_AddrTexts, hy9, hs_o1, hs_o2, hs_o3, hs_o4]
      rcases ifb h with ⟨hy10, h⟩ | ⟨hy10, h⟩
      · refine UG_go hy10 ?_
        try simp (disch := first | assumption | omega | (simp only [h_sl, h_al] <;> omega) | fail) only [WW, WH, ↓reduceIte, nA, nB, nC, nD, nE, nF, nG, reduceCtorEq, L_law14_AddrTexts, hy10, hs_o1, hs_o2, hs_o3, hs_o4]
        rcases ifb h with ⟨hy11, h⟩ | ⟨hy11, h⟩
        · refine UG_go hy11 ?_
          try simp (disch := first | assumption | omega | (simp only [h_sl, h_al] <;> omega) | fail) only [WW, WH, ↓reduceIte, nA, nB, nC, nD, nE, nF, nG, reduceCtorEq, L_law14_AddrTexts, hy11, hs_o1, hs_o2, hs_o3, hs_o4]
          rcases ifb h with ⟨hy12, h⟩ | ⟨hy12, h⟩
          · refine UG_go hy12 ?_
            try simp (disch := first | assumption | omega | (simp only [h_sl, h_al] <;> omega) | fail) only [WW, WH, ↓reduceIte, nA, nB, nC, nD, nE, nF, nG, reduceCtorEq, L_law14_AddrTexts, hy12, hs_o1, hs_o2, hs_o3, hs_o4]
            obtain ⟨r17, hy13, h⟩ := bnd' h
            refine UK_e (as' := [(.str s1)]) (h := addr_Domain_ok (s1 := s1) (F := F)  hy13) (hw := WL.cons (Wx.str) (WL.nil)) (hh := WxH.refl _) ?_
            try simp (disch := first | assumption | omega | (simp only [h_sl, h_al] <;> omega) | fail) only [WW, WH, ↓reduceIte, nA, nB, nC, nD, nE, nF, nG, reduceCtorEq, L_law14_AddrTexts, hs_o1, hs_o2, hs_o3, hs_o4]
            obtain ⟨r18, hy14, h⟩ := bnd' h
            refine UK_e (as' := [(.str s1)]) (h := ref14_Domain_ok (s1 := s1) (F := F)  hy14) (hw := WL.cons (Wx.str) (WL.nil)) (hh := WxH.refl _) ?_
            try simp (disch := first | assumption | omega | (simp only [h_sl, h_al] <;> omega) | fail) only [WW, WH, ↓reduceIte, nA, nB, nC, nD, nE, nF, nG, reduceCtorEq, L_law14_AddrTexts, hs_o1, hs_o2, hs_o3, hs_o4]
            rcases ifb h with ⟨hy15, h⟩ | ⟨hy15, h⟩
            · refine UG_go hy15 ?_
              try simp (disch := first | assumption | omega | (simp only [h_sl, h_al] <;> omega) | fail) only [WW, WH, ↓reduceIte, nA, nB, nC, nD, nE, nF, nG, reduceCtorEq, L_law14_AddrTexts, hy15, hs_o1, hs_o2, hs_o3, hs_o4]
              obtain ⟨r19, hy16, h⟩ := bnd' h
              refine UK_e (as' := [(.str s1)]) (h := addr_Local_ok (s1 := s1) (F := F)  hy16) (hw := WL.cons (Wx.str) (WL.nil)) (hh := WxH.refl _) ?_
              try simp (disch := first | assumption | omega | (simp only [h_sl, h_al] <;> omega) | fail) only [WW, WH, ↓reduceIte, nA, nB, nC, nD, nE, nF, nG, reduceCtorEq, L_law14_AddrTexts, hs_o1, hs_o2, hs_o3, hs_o4]
              obtain ⟨r20, hy17, h⟩ := bnd' h
              refine UK_e (as' := [(.str s1)]) (h := ref14_Local_ok (s1 := s1) (F := F)  hy17) (hw := WL.cons (Wx.str) (WL.nil)) (hh := WxH.refl _) ?_
              try simp (disch := first | assumption | omega | (simp only [h_sl, h_al] <;> omega) | fail) only [WW, WH, ↓reduceIte, nA, nB, nC, nD, nE, nF, nG, reduceCtorEq, L_law14_AddrTexts, hs_o1, hs_o2, hs_o3, hs_o4]
              rcases ifb h with ⟨hy18, h⟩ | ⟨hy18, h⟩
              · refine UG_go hy18 ?_
                try simp (disch := first | assumption | omega | (simp only [h_sl, h_al] <;> omega) | fail) only [WW, WH, ↓reduceIte, nA, nB, nC, nD, nE, nF, nG, reduceCtorEq, L_law14_AddrTexts, hy18, hs_o1, hs_o2, hs_o3, hs_o4]
                obtain ⟨r21, hy19, h⟩ := bnd' h
                refine UK_e (as' := [(.str s1)]) (h := addr_Lower_ok (s1 := s1) (F := F)  hy19) (hw := WL.cons (Wx.str) (WL.nil)) (hh := WxH.refl _) ?_
                try simp (disch := first | assumption | omega | (simp only [h_sl, h_al] <;> omega) | fail) only [WW, WH, ↓reduceIte, nA, nB, nC, nD, nE, nF, nG, reduceCtorEq, L_law14_AddrTexts, hs_o1, hs_o2, hs_o3, hs_o4]
                obtain ⟨r22, hy20, h⟩ := bnd' h
                refine UK_e (as' := [(.str s1)]) (h := ref14_Lower_ok (s1 := s1) (F := F)  hy20) (hw := WL.cons (Wx.str) (WL.nil)) (hh := WxH.refl _) ?_
                try simp (disch := first | assumption | omega | (simp only [h_sl, h_al] <;> omega) | fail) only [WW, WH, ↓reduceIte, nA, nB, nC, nD, nE, nF, nG, reduceCtorEq, L_law14_AddrTexts, hs_o1, hs_o2, hs_o3, hs_o4]
                have hq := Option.some.inj h; subst hq
                refine hK _ _ _ _ _ ?_ (WxH.refl _) (kn _ hfr ((hs_o1).trans rfl) ((hs_o2).trans rfl) ((hs_o3).trans rfl) ((hs_o4).trans rfl))
                exact WE.cons (Wx.bool) (WE.nil)
              · refine UG_nt hy18 ?_
                try simp (disch := first | assumption | omega | (simp only [h_sl, h_al] <;> omega) | fail) only [WW, WH, ↓reduceIte, nA, nB, nC, nD, nE, nF, nG, reduceCtorEq, L_law14_AddrTexts, hy18, hs_o1, hs_o2, hs_o3, hs_o4]
                have hq := Option.some.inj h; subst hq
                refine hK _ _ _ _ _ ?_ (WxH.refl _) (kn _ hfr ((hs_o1).trans rfl) ((hs_o2).trans rfl) ((hs_o3).trans rfl) ((hs_o4).trans rfl))
                exact WE.cons (Wx.bool) (WE.nil)
            · refine UG_nt hy15 ?_
              try simp (disch := first | assumption | omega | (simp only [h_sl, h_al] <;> omega) | fail) only [WW, WH, ↓reduceIte, nA, nB, nC, nD, nE, nF, nG, reduceCtorEq, L_law14_AddrTexts, hy15, hs_o1, hs_o2, hs_o3, hs_o4]
              have hq := Option.some.inj h; subst hq
              refine hK _ _ _ _ _ ?_ (WxH.refl _) (kn _ hfr ((hs_o1).trans rfl) ((hs_o2).trans rfl) ((hs_o3).trans rfl) ((hs_o4).trans rfl))
              exact WE.cons (Wx.bool) (WE.nil)
          · refine UG_nt hy12 ?_
            try simp (disch := first | assumption | omega | (simp only [h_sl, h_al] <;> omega) | fail) only [WW, WH, ↓reduceIte, nA, nB, nC, nD, nE, nF, nG, reduceCtorEq, L_law14_AddrTexts, hy12, hs_o1, hs_o2, hs_o3, hs_o4]
            have hq := Option.some.inj h; subst hq
            refine hK _ _ _ _ _ ?_ (WxH.refl _) (kn _ hfr ((hs_o1).trans rfl) ((hs_o2).trans rfl) ((hs_o3).trans rfl) ((hs_o4).trans rfl))
            exact WE.cons (Wx.bool) (WE.nil)
        · refine UG_nt hy11 ?_
          try simp (disch := first | assumption | omega | (simp only [h_sl, h_al] <;> omega) | fail) only [WW, WH, ↓reduceIte, nA, nB, nC, nD, nE, nF, nG, reduceCtorEq, L_law14_AddrTexts, hy11, hs_o1, hs_o2, hs_o3, hs_o4]
          have hq := Option.some.inj h; subst hq
          refine hK _ _ _ _ _ ?_ (WxH.refl _) (kn _ hfr ((hs_o1).trans rfl) ((hs_o2).trans rfl) ((hs_o3).trans rfl) ((hs_o4).trans rfl))
          exact WE.cons (Wx.bool) (WE.nil)
      · refine UG_nt hy10 ?_
        try simp (disch := first | assumption | omega | (simp only [h_sl, h_al] <;> omega) | fail) only [WW, WH, ↓reduceIte, nA, nB, nC, nD, nE, nF, nG, reduceCtorEq, L_law14_AddrTexts, hy10, hs_o1, hs_o2, hs_o3, hs_o4]
        have hq := Option.some.inj h; subst hq
        refine hK _ _ _ _ _ ?_ (WxH.refl _) (kn _ hfr ((hs_o1).trans rfl) ((hs_o2).trans rfl) ((hs_o3).trans rfl) ((hs_o4).trans rfl))
        exact WE.cons (Wx.bool) (WE.nil)
    · refine UG_nt hy9 ?_
      try simp (disch := first | assumption | omega | (simp only [h_sl, h_al] <;> omega) | fail) only [WW, WH, ↓reduceIte, nA, nB, nC, nD, nE, nF, nG, reduceCtorEq, L_law14_AddrTexts, hy9, hs_o1, hs_o2, hs_o3, hs_o4]
      have hq := Option.some.inj h; subst hq
      refine hK _ _ _ _ _ ?_ (WxH.refl _) (kn _ hfr ((hs_o1).trans rfl) ((hs_o2).trans rfl) ((hs_o3).trans rfl) ((hs_o4).trans rfl))
      exact WE.cons (Wx.bool) (WE.nil)
  · refine UG_nt hy8 ?_
    try simp (disch := first | assumption | omega | (simp only [h_sl, h_al] <;> omega) | fail) only [WW, WH, ↓reduceIte, nA, nB, nC, nD, nE, nF, nG, reduceCtorEq, L_law14_AddrTexts, hy8, hs_o1, hs_o2, hs_o3, hs_o4]
    have hq := Option.some.inj h; subst hq
    refine hK _ _ _ _ _ ?_ (WxH.refl _) (kn _ hfr ((hs_o1).trans rfl) ((hs_o2).trans rfl) ((hs_o3).trans rfl) ((hs_o4).trans rfl))
    exact WE.cons (Wx.bool) (WE.nil)
theorem law14_AddrTexts_ok {F : Nat} {s1 : List UInt8}  {H0 : AH}  {rz0 : Bool} (h : law14_AddrTexts F s1 = some rz0) :
    ACalls Tryd.prog 7 [(.str s1)] H0 fun v H' => v = (.bool rz0) ∧ H' = H0 := by
  refine ACalls.goX k_law14_AddrTexts (m := m_law14_AddrTexts) rfl L_law14_AddrTexts (by decide) (by simp) fun hcl K0 hK0 => ?_
  refine AX.of_U (m := m_law14_AddrTexts) rfl (by decide) ?_
  have hfr := Fr.refl H0 []
  have hle := hfr.le
  rw [law14_AddrTexts.eq_1] at h
  obtain ⟨H, hHH⟩ : ∃ H, H = H0 := ⟨_, rfl⟩
  have hfr : Fr H0 H0.length [] H := hHH ▸ hfr
  have hle := hfr.le
  suffices hU : U Tryd.prog L_law14_AddrTexts 84 H0.length [.code m_law14_AddrTexts] K0 .normal (argE 0 [(.str s1)]) H by rwa [hHH] at hU
  try simp (disch := first | assumption | omega | (simp only [h_sl, h_al] <;> omega) | fail) only [WW, WH, ↓reduceIte, nA, nB, nC, nD, nE, nF, nG, reduceCtorEq, L_law14_AddrTexts, m_law14_AddrTexts]
  obtain ⟨r2, hy1, h⟩ := bnd' h
  refine UK_e (as' := []) (h := law14_known_ok  (F := F)  hy1) (hw := WL.nil) (hh := WxH.refl _) ?_
  try simp (disch := first | assumption | omega | (simp only [h_sl, h_al] <;> omega) | fail) only [WW, WH, ↓reduceIte, nA, nB, nC, nD, nE, nF, nG, reduceCtorEq, L_law14_AddrTexts]
  rcases ifb h with ⟨hy2, h⟩ | ⟨hy2, h⟩
  · refine UC_t hy2 ?_
    try simp (disch := first | assumption | omega | (simp only [h_sl, h_al] <;> omega) | fail) only [WW, WH, ↓reduceIte, nA, nB, nC, nD, nE, nF, nG, reduceCtorEq, L_law14_AddrTexts]
    have hq := Option.some.inj h; subst hq
    refine hK0 _ _ _ (.inr rfl) ?_
    exact fn_end0 (by exact hfr) hcl (resv_tmp (a := (.bool false)) rfl rfl resv_nil) (by first | (simp [fin, b_df, b_sh, b_sh1, b_Cl]; done) | (simp [fin, AV.df, AV.sh, AV.sh1, b_df, b_sh, b_sh1, b_Cl]; done)) (Wx.bool) (r' := (.bool false)) ⟨rfl, rfl⟩
  · refine UC_f hy2 ?_
    try simp (disch := first | assumption | omega | (simp only [h_sl, h_al] <;> omega) | fail) only [WW, WH, ↓reduceIte, nA, nB, nC, nD, nE, nF, nG, reduceCtorEq, L_law14_AddrTexts]
    rcases ifb h with ⟨hy3, h⟩ | ⟨hy3, h⟩
    · refine UC_t hy3 ?_
      try simp (disch := first | assumption | omega | (simp only [h_sl, h_al] <;> omega) | fail) only [WW, WH, ↓reduceIte, nA, nB, nC, nD, nE, nF, nG, reduceCtorEq, L_law14_AddrTexts]
      have hq := Option.some.inj h; subst hq
      refine hK0 _ _ _ (.inr rfl) ?_
      exact fn_end0 (by exact hfr) hcl (resv_tmp (a := (.bool true)) rfl rfl resv_nil) (by first | (simp [fin, b_df, b_sh, b_sh1, b_Cl]; done) | (simp [fin, AV.df, AV.sh, AV.sh1, b_df, b_sh, b_sh1, b_Cl]; done)) (Wx.bool) (r' := (.bool true)) ⟨rfl, rfl⟩
    · refine UC_f hy3 ?_
      try simp (disch := first | assumption | omega | (simp only [h_sl, h_al] <;> omega) | fail) only [WW, WH, ↓reduceIte, nA, nB, nC, nD, nE, nF, nG, reduceCtorEq, L_law14_AddrTexts]
      obtain ⟨⟨r3, r4, r5⟩, hy4, h⟩ := bnd' h
      dsimp only at h
      refine UK_e (as' := [(.str s1)]) (h := addr_Path_ok (s1 := s1) (F := F)  hy4) (hw := WL.cons (Wx.str) (WL.nil)) (hh := WxH.refl _) ?_
      try simp (disch := first | assumption | omega | (simp only [h_sl, h_al] <;> omega) | fail) only [WW, WH, ↓reduceIte, nA, nB, nC, nD, nE, nF, nG, reduceCtorEq, L_law14_AddrTexts]
      obtain ⟨⟨r6, r7, r8⟩, hy5, h⟩ := bnd' h
      dsimp only at h
      refine UK_e (as' := [(.str s1)]) (h := ref14_Path_ok (s1 := s1) (F := F)  hy5) (hw := WL.cons (Wx.str) (WL.nil)) (hh := WxH.refl _) ?_
      try simp (disch := first | assumption | omega | (simp only [h_sl, h_al] <;> omega) | fail) only [WW, WH, ↓reduceIte, nA, nB, nC, nD, nE, nF, nG, reduceCtorEq, L_law14_AddrTexts]
      obtain ⟨⟨r9, r10⟩, hy6, h⟩ := bnd' h
      dsimp only at h
      refine UK_e (as' := [(.str s1)]) (h := addr_Parse_ok (s1 := s1) (F := F)  hy6) (hw := WL.cons (Wx.str) (WL.nil)) (hh := WxH.refl _) ?_
      try simp (disch := first | assumption | omega | (simp only [h_sl, h_al] <;> omega) | fail) only [WW, WH, ↓reduceIte, nA, nB, nC, nD, nE, nF, nG, reduceCtorEq, L_law14_AddrTexts]
      obtain ⟨⟨r11, r12⟩, hy7, h⟩ := bnd' h
      dsimp only at h
      refine UK_e (as' := [(.str s1)]) (h := ref14_Parse_ok (s1 := s1) (F := F)  hy7) (hw := WL.cons (Wx.str) (WL.nil)) (hh := WxH.refl _) ?_
      try simp (disch := first | assumption | omega | (simp only [h_sl, h_al] <;> omega) | fail) only [WW, WH, ↓reduceIte, nA, nB, nC, nD, nE, nF, nG, reduceCtorEq, L_law14_AddrTexts]
      obtain ⟨q14, hg_q14⟩ : ∃ q : Nat, (H.length + 1) = q := ⟨_, rfl⟩
      try rw [hg_q14]
      obtain ⟨q15, hg_q15⟩ : ∃ q : Nat, (H.length + 2) = q := ⟨_, rfl⟩
      try rw [hg_q15]
      obtain ⟨q16, hg_q16⟩ : ∃ q : Nat, (H.length + 3) = q := ⟨_, rfl⟩
      try rw [hg_q16]
      obtain ⟨q13, hg_q13⟩ : ∃ q : Nat, H.length = q := ⟨_, rfl⟩
      try rw [hg_q13]
      try rw [show q13 + 1 = q14 from by omega]
      try rw [show q14 + 1 = q15 from by omega]
      try rw [show q15 + 1 = q16 from by omega]
      obtain ⟨t24, hy21, h⟩ := bnd' h
      refine UX_of (AX.weak ?_ (WxH.refl _) (law14_AddrTexts_p1_ok (F := F) (r3 := r3) (r6 := r6) (r4 := r4) (r7 := r7) (r5 := r5) (r8 := r8) (r9 := r9) (r11 := r11) (r10 := r10) (r12 := r12) (s1 := s1) (t23 := t24) (q13 := q13) (q14 := q14) (q15 := q15) (q16 := q16) ((Fr.set (s := q16) (Fr.app (Fr.set (s := q15) (Fr.app (Fr.set (s := q14) (Fr.app (Fr.set (s := q13) (Fr.app hfr) (.inr (by first | assumption | omega | (simp only [h_sl, h_al] <;> omega) | fail)))) (.inr (by first | assumption | omega | (simp only [h_sl, h_al] <;> omega) | fail)))) (.inr (by first | assumption | omega | (simp only [h_sl, h_al] <;> omega) | fail)))) (.inr (by first | assumption | omega | (simp only [h_sl, h_al] <;> omega) | fail)))) (((h_ne (by first | assumption | omega | (simp only [h_sl, h_al] <;> omega) | fail)).trans ((h_app (by first | assumption | omega | (simp only [h_sl, h_al] <;> omega) | fail)).trans ((h_ne (by first | assumption | omega | (simp only [h_sl, h_al] <;> omega) | fail)).trans ((h_app (by first | assumption | omega | (simp only [h_sl, h_al] <;> omega) | fail)).trans ((h_ne (by first | assumption | omega | (simp only [h_sl, h_al] <;> omega) | fail)).trans ((h_app (by first | assumption | omega | (simp only [h_sl, h_al] <;> omega) | fail)).trans (h_eq (by first | assumption | omega | (simp only [h_sl, h_al] <;> omega) | fail)))))))).trans rfl) (((h_ne (by first | assumption | omega | (simp only [h_sl, h_al] <;> omega) | fail)).trans ((h_app (by first | assumption | omega | (simp only [h_sl, h_al] <;> omega) | fail)).trans ((h_ne (by first | assumption | omega | (simp only [h_sl, h_al] <;> omega) | fail)).trans ((h_app (by first | assumption | omega | (simp only [h_sl, h_al] <;> omega) | fail)).trans (h_eq (by first | assumption | omega | (simp only [h_sl, h_al] <;> omega) | fail)))))).trans rfl) (((h_ne (by first | assumption | omega | (simp only [h_sl, h_al] <;> omega) | fail)).trans ((h_app (by first | assumption | omega | (simp only [h_sl, h_al] <;> omega) | fail)).trans (h_eq (by first | assumption | omega | (simp only [h_sl, h_al] <;> omega) | fail)))).trans rfl) ((h_eq (by first | assumption | omega | (simp only [h_sl, h_al] <;> omega) | fail)).trans rfl) (by first | assumption | omega | (simp only [h_sl, h_al] <;> omega) | fail) (by first | assumption | omega | (simp only [h_sl, h_al] <;> omega) | fail) (by first | assumption | omega | (simp only [h_sl, h_al] <;> omega) | fail) (by first | assumption | omega | (simp only [h_sl, h_al] <;> omega) | fail) (by first | assumption | omega | (simp only [h_sl, h_al] <;> omega) | fail) (by first | assumption | omega | (simp only [h_sl, h_al] <;> omega) | fail) (by first | assumption | omega | (simp only [h_sl, h_al] <;> omega) | fail) (by first | assumption | omega | (simp only [h_sl, h_al] <;> omega) | fail) (by first | assumption | omega | (simp only [h_sl, h_al] <;> omega) | fail) (by first | assumption | omega | (simp only [h_sl, h_al] <;> omega) | fail) hy21 ?_))
      · exact WE.cons (Wx.str) (WE.cons (Wx.bool) (WE.cons (Wx.ptr) (WE.cons (Wx.str) (WE.cons (Wx.int) (WE.cons (Wx.ptr) (WE.cons (Wx.str) (WE.cons (Wx.int) (WE.cons (Wx.ptr) (WE.cons (Wx.int) (WE.cons (Wx.ptr) (WE.cons (Wx.int) (WE.nil))))))))))))
      intro H hfr hs_o1 hs_o2 hs_o3 hs_o4
      have hle := hfr.le
      have hl_o1 := h_lt hs_o1
      have hl_o2 := h_lt hs_o2
      have hl_o3 := h_lt hs_o3
      have hl_o4 := h_lt hs_o4
      try simp (disch := first | assumption | omega | (simp only [h_sl, h_al] <;> omega) | fail) only [WW, WH, ↓reduceIte, nA, nB, nC, nD, nE, nF, nG, reduceCtorEq, L_law14_AddrTexts, hs_o1, hs_o2, hs_o3, hs_o4]
      have hq := Option.some.inj h; subst hq
      refine hK0 _ _ _ (.inr rfl) ?_
      exact fn_end0 (by exact hfr) hcl (resv_tmp (a := (.bool t24)) rfl rfl resv_nil) (by first | (simp [fin, b_df, b_sh, b_sh1, b_Cl]; done) | (simp [fin, AV.df, AV.sh, AV.sh1, b_df, b_sh, b_sh1, b_Cl]; done)) (Wx.bool) (r' := (.bool t24)) ⟨rfl, rfl⟩

end Go.Proofs.AddrS
