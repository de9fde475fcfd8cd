import Derived.Test.YtdigbcafimghdaaGreatDoorM3
set_option linter.unusedSimpArgs false
set_option linter.unusedVariables false
set_option linter.unusedSectionVars false
set_option linter.defProp false
section
set_option maxRecDepth 100000
namespace Go.Proofs.cL
open Go Go.Am Go.Proofs
open Nat renaming reduceEqDiff→nA,reduceLT→nB,reduceLeDiff→nC,reduceAdd→nD,reduceSub→nE,reduceMul→nF,reduceBEq→nG
set_option maxHeartbeats 2000000
abbrev tf:aD:=(.rg [(aj 29 (.lJ (.t 6) none)),(aj 31 (.lJ (.t 6) none)),(aj 33 (.lJ (.t 6) none)),(aj 30 (.call (.c (.fn 50 [])) [(.t 29)])),(aj 36 (.aV (.t 9) 2)),(aj 32 (.call (.c (.fn 50 [])) [(.t 31)])),(aj 34 (.call (.c (.fn 50 [])) [(.t 33)])),(aj 35 (.ec (.int .u32) (.t 34))),(cZ (.st (.t 36) (.t 30) 1)),(aj 37 (.aV (.t 9) 3)),(cZ (.st (.t 37) (.t 32) 1)),(aj 38 (.aV (.t 9) 4)),(cZ (.st (.t 38) (.t 35) 1))])
abbrev rG:aD:=(.seq (.rg [(aj 42 (.bin .lss (.t 41) (.t 40)))]) (.seq (.cond (.t 42) .skip (.exit 0)) (.seq (.blk 1 (.seq (.rg [(aA 43 8),(aj 44 (.call (.t 43) [])),(aj 45 (.build [(.str []),(.str []),(.int .i64 0),(.int .i64 0),(.int .i64 0),(.int .i64 0),(.str [])] [(0,(2,(.t 44)))])),(aj 10 (.alloc [(.str []),(.str []),(.int .i64 0),(.int .i64 0),(.int .i64 0),(.int .i64 0),(.str [])])),(cZ (.st (.t 10) (.t 45) 7))]) (.seq (.rg [(aj 46 (.lJ (.t 6) none)),(aj 48 (.lJ (.t 6) none)),(aj 50 (.lJ (.t 6) none)),(aj 52 (.lJ (.t 6) none)),(aj 47 (.call (.c (.fn 49 [])) [(.t 46)])),(aj 54 (.aV (.t 10) 2)),(aj 49 (.call (.c (.fn 49 [])) [(.t 48)])),(aj 51 (.call (.c (.fn 50 [])) [(.t 50)])),(aj 53 (.call (.c (.fn 51 [])) [(.t 52)])),(cZ (.st (.t 54) (.t 47) 1)),(aj 55 (.aV (.t 10) 3)),(cZ (.st (.t 55) (.t 49) 1)),(aj 56 (.aV (.t 10) 4)),(cZ (.st (.t 56) (.t 51) 1)),(aj 57 (.aV (.t 10) 5)),(cZ (.st (.t 57) (.t 53) 1))]) (.seq (.rg [(aj 58 (.ld (.t 7) none)),(aj 59 (.call (.t 58) [])),(aj 60 (.aV (.t 10) 6)),(cZ (.st (.t 60) (.t 59) 1))]) (.rg [(aj 61 (.aV (.t 9) 5)),(aj 62 (.ld (.t 61) none)),(aj 63 (.ld (.t 10) (some 7))),(aj 64 (.jQ 7 [(.t 63)])),(aj 65 (.app 7 80 (.t 62) (.t 64))),(aj 66 (.aV (.t 9) 5)),(cZ (.st (.t 66) (.t 65) 1))]))))) (.rg [(aj 67 (.bin .add (.t 41) (.c (.int .i64 1)))),(aA 41 67)]))))
abbrev th:aD:=(.rg [(aj 68 (.ld (.t 6) none)),(aj 69 (.call (.c (.fn 52 [])) [(.t 68)])),(aj 70 (.bin .neq (.t 69) (.c (.int .i64 0)))),(aA 71 70),(aF 72 (.ld (.t 9) (some 6)) 71 false),(aF 73 (.call (.c (.fn 13 [])) [(.t 72)]) 71 false),(aF 74 (.un .not (.t 73)) 71 false),(aj 75 (.pick (.t 71) (.c (.bool true)) (.t 74))),(aA 76 75),(aF 77 (.ld (.t 9) (some 6)) 76 false),(aF 78 (.call (.c (.fn 10 [])) [(.t 77)]) 76 false),(aF 79 (.mv (.t 0)) 76 false),(aF 80 (.call (.c (.fn 53 [])) [(.t 78),(.t 79)]) 76 false),(aF 81 (.un .not (.t 80)) 76 false),(aj 82 (.pick (.t 76) (.c (.bool true)) (.t 81)))])
abbrev F8:aD:=(.seq (.rg [(aj 2 (.alloc [(.str []),(.str []),(.int .i64 0),(.int .i64 0),(.int .u32 0),(.sl .ex 7 [])])),(aj 3 (.aY (.c (.int .i64 0))))]) (.seq (.rg [(aA 12 0),(aj 13 (.call (.c (.fn 44 [])) [(.t 12)])),(aA 11 13),(aj 14 (.ext (.t 11) 0)),(aj 15 (.ext (.t 11) 1)),(bk 4 14),(bk 5 15)]) (.seq (.seq (.rg [(aA 16 5),(aj 17 (.bin .neq (.t 16) (.c (.int .i64 0))))]) (.cond (.t 17) (.seq (.rg [(aj 18 (.build [(.str []),(.str []),(.int .i64 0),(.int .i64 0),(.int .u32 0),(.sl .ex 7 [])] [])),(aA 19 5),(cZ (.st (.t 2) (.t 18) 6)),(bk 3 19)]) .ret) .skip)) (.seq (.rg [(aA 20 4),(aj 21 (.call (.c (.fn 45 [])) [(.t 20)])),(aj 6 (.alloc [(.v (.pointer none))])),(cZ (.st (.t 6) (.t 21) 1))]) (.seq (.rg [(aj 22 (.Je 46 [(.t 6)])),(aj 7 (.alloc [(.v .nilFunc)])),(cZ (.st (.t 7) (.t 22) 1))]) (.seq (.rg [(aj 23 (.Je 48 [(.t 7)])),(bk 8 23)]) (.seq (.rg [(aj 24 (.ld (.t 6) none)),(aj 25 (.call (.c (.fn 49 [])) [(.t 24)]))]) (.seq (.rg [(aA 26 8),(aj 27 (.call (.t 26) [])),(aj 28 (.build [(.str []),(.str []),(.int .i64 0),(.int .i64 0),(.int .u32 0),(.sl .ex 7 [])] [(0,(2,(.t 27)))])),(aj 9 (.alloc [(.str []),(.str []),(.int .i64 0),(.int .i64 0),(.int .u32 0),(.sl .ex 7 [])])),(cZ (.st (.t 9) (.t 28) 6))]) (.seq (.sem (erase tf)) (.seq (.seq (.rg [(aj 39 (.ld (.t 6) none)),(aj 40 (.call (.c (.fn 49 [])) [(.t 39)])),(aj 41 (.mv (.c (.int .i64 0))))]) (.blk 0 (.loop (erase rG)))) (.seq (.seq (.sem (erase th)) (.cond (.t 82) (.seq (.rg [(aj 83 (.build [(.str []),(.str []),(.int .i64 0),(.int .i64 0),(.int .u32 0),(.sl .ex 7 [])] [])),(cZ (.st (.t 2) (.t 83) 6)),(aj 3 (.aY (.c (.int .i64 3))))]) .ret) .skip)) (.seq (.rg [(aj 84 (.ld (.t 9) (some 6))),(cZ (.st (.t 2) (.t 84) 6)),(aj 3 (.aY (.c (.int .i64 0))))]) .ret))))))))))))
theorem F9:bw Tryz.prog 18 85 [(.cell 2 27),(.tmp 3)] (erase F8):=⟨Tryz.f18,_,rfl,by decide,rfl,by kernel_rfl,rfl,rfl⟩
abbrev nu:List Nat:=[0,2,3,4,5,6,7,8,9,10,17,40,41,42,82]
def l9 (F:Nat) (gy:aN) (lG:aJ):Option (aN×ak):=
 (cI F gy).bind fun (r16,AK)=>
 (cI F AK).bind fun (mW,qT)=>
 (cI F qT).bind fun (VI,KM)=>
 some (KM,(ak.mk lG r16 mW (IntKind.wrap .u32 VI) ([]:List bl)))
def fP (F:Nat) (Az:Int):(Int×aN×ak)→Option (St (ak×Int) (aN×ak) (Int×aN×ak))
 |(t32,BZ,qe)=>
  (if (decide (t32<Az)) then
   (jA F BZ).bind fun (C3,VJ)=>
   (dM F VJ).bind fun (r37,r38)=>
   (dM F r38).bind fun (r39,r40)=>
   (cI F r40).bind fun (r41,r42)=>
   (gq F r42).bind fun (r43,VK)=>
   (fM F VK).bind fun (KN,VL)=>
   (cC 80 qe.az ([(bl.mk C3 r37 r39 r41 r43 KN)]:List bl)).bind fun x47=>
   some (.cT ((IntKind.wrap .i64 (t32+1)),VL,(ak.mk qe.av qe.born qe.size qe.sum x47)))
  else
   some (.fI (BZ,qe)))
def jm (F:Nat) (Ga:aN) (jB:ak) (b1:List UInt8):Option (Bool):=
 (fz Ga).bind fun r55=>
 (if (!decide (r55=0)) then
  some true
 else
  (jj F jB).bind fun r56=>
  (if (!r56) then
   some true
  else
   (jk F jB).bind fun r57=>(bytes_Equal r57 b1).bind fun r58=>some (!r58)))
def gX (F:Nat) (b1:List UInt8):Option (ak×Int):=
 (nU F b1).bind fun (r2,r3)=>
 (if (!decide (r3=0)) then
  some ((ak.mk (aJ.mk ([]:List UInt8) ([]:List UInt8)) 0 0 0 ([]:List bl)),r3)
 else
  ((fL r2).bind fun r4=>
  match r4 with
  |none=>
   none
  |some t6=>
   (dM F t6).bind fun (r8,r9)=>
   (gb F r9).bind fun (lG,gy)=>
   (l9 F gy lG).bind fun (Ex,s25)=>
   (dM F Ex).bind fun (Az,BX)=>
   ((iter (fP F Az) F (0,BX,s25)).bind fun o61=>
   match o61 with
   | .inr (Ga,jB)=>
     (jm F Ga jB b1).bind fun t60=>
     (if t60 then
      some ((ak.mk (aJ.mk ([]:List UInt8) ([]:List UInt8)) 0 0 0 ([]:List bl)),3)
     else
      some (jB,0))
   | .inl _=>none)))
theorem AL {F:Nat} {gy:aN} {lG:aJ} {b1:List UInt8} {mG:Nat} {B0:Nat} {y9:Nat} {za:Nat} {H0 H:AH} (hfr:Fr H0 H0.length [] H) (ai:H[mG]? =some [(.str ([]:List UInt8)),(.str ([]:List UInt8)),(.int .i64 0),(.int .i64 0),(.int .u32 0),(.sl .own 7 [])]) (aq:H[B0]? =some [(.sl .n 1 (ml b8 gy.b)),(.int .i64 gy.err)]) (bH:H[y9]? =some [(.fn 46 [(.ep (.agg [(.ptr B0 0)]) 0)])]) (ck:H[za]? =some [(.str lG.au),(.str lG.domain),(.int .i64 0),(.int .i64 0),(.int .u32 0),(.sl .own 7 [])]) (eS:H0.length≤mG) (hi1:H0.length≤B0) (hi2:mG≠B0) (vf:H0.length≤y9) (hi4:mG≠y9) (NX:B0≠y9) (hi6:H0.length≤za) (hi7:mG≠za) (hi8:B0≠za) (hi9:y9≠za) {K:Exit→Env→AH→Prop} {s22:aN} {NZ:ak}
 (h:l9 F gy lG=some (s22,NZ))
 (kn:∀H':AH,Fr H0 H0.length [] H'→H'[mG]? =some [(.str ([]:List UInt8)),(.str ([]:List UInt8)),(.int .i64 0),(.int .i64 0),(.int .u32 0),(.sl .own 7 [])]→H'[B0]? =some [(.sl .n 1 (ml b8 s22.b)),(.int .i64 s22.err)]→H'[y9]? =some [(.fn 46 [(.ep (.agg [(.ptr B0 0)]) 0)])]→H'[za]? =some [(.str NZ.av.au),(.str NZ.av.domain),(.int .i64 NZ.born),(.int .i64 NZ.size),(.int .u32 NZ.sum),(.sl .own 7 (ml aC NZ.az))]→K .normal [(0,(.sl .n 1 (ml b8 b1))),(2,(.ptr mG 0)),(6,(.ep (.agg [(.ptr B0 0)]) 0)),(7,(.ptr y9 0)),(8,(.fn 48 [(.ptr y9 0)])),(9,(.ptr za 0))] H'):
 AX Tryz.prog nu 85 H0.length (erase tf) K [(0,(.sl .n 1 (ml b8 b1))),(2,(.ptr mG 0)),(6,(.ep (.agg [(.ptr B0 0)]) 0)),(7,(.ptr y9 0)),(8,(.fn 48 [(.ptr y9 0)])),(9,(.ptr za 0))] H:=by
 refine dz fun K' hK=> ?_
 have hle:=hfr.le
 have aU:=aL ai
 have cK:=aL aq
 have yL:=aL bH
 have EC:=aL ck
 rw [l9.eq_1] at h
 refine aE (aB ai (aB aq (aB bH ck))) ?_
 obtain ⟨⟨r16,AK⟩,cw,h⟩:=ay h
 dsimp only at h
 refine bg ax (dL (aq.trans rfl) cw) ?_
 refine aE (aB ai (aB aq (aB bH ck))) ?_
 obtain ⟨⟨mW,qT⟩,dB,h⟩:=ay h
 dsimp only at h
 refine bg ax (dL (q1:=B0) bL dB) ?_
 refine aE (aB ai (aB aq (aB bH ck))) ?_
 obtain ⟨⟨VI,KM⟩,dD,h⟩:=ay h
 dsimp only at h
 refine bg ax (dL (q1:=B0) bL dD) ?_
 refine aE (aB ai (aB aq (aB bH ck))) ?_
 obtain ⟨rfl,rfl⟩:=de h
 exact hK _ _ _ _ _ aZ ax (kn _ (bn _ (bn _ (bn _ (bn _ (bn _ (bn _ hfr)))))) (aX (aX (aX (aX (aX (aX (ai.trans rfl))))))) (aX (aX (aX bL))) (aX (aX (aX (aX (aX (aX (bH.trans rfl))))))) bL)
theorem AM {F:Nat} {t32:Int} {Az:Int} {BZ:aN} {qe:ak} {b1:List UInt8} {ED:Nat} {tj:Nat} {B1:Nat} {EE:Nat} {H0 H:AH} (hfr:Fr H0 H0.length [] H) (ai:H[ED]? =some [(.str ([]:List UInt8)),(.str ([]:List UInt8)),(.int .i64 0),(.int .i64 0),(.int .u32 0),(.sl .own 7 [])]) (aq:H[tj]? =some [(.sl .n 1 (ml b8 BZ.b)),(.int .i64 BZ.err)]) (bH:H[B1]? =some [(.fn 46 [(.ep (.agg [(.ptr tj 0)]) 0)])]) (ck:H[EE]? =some [(.str qe.av.au),(.str qe.av.domain),(.int .i64 qe.born),(.int .i64 qe.size),(.int .u32 qe.sum),(.sl .own 7 (ml aC qe.az))]) (eS:H0.length≤ED) (hi1:H0.length≤tj) (hi2:ED≠tj) (vf:H0.length≤B1) (hi4:ED≠B1) (NX:tj≠B1) (hi6:H0.length≤EE) (hi7:ED≠EE) (hi8:tj≠EE) (hi9:B1≠EE) {K:Exit→Env→AH→Prop} {o:(ak×Int)⊕(aN×ak)}
 (h:iter (fP F Az) F (t32,BZ,qe)=some o)
 (dj:∀o':aN×ak,o= .inr o'→∀H':AH,Fr H0 H0.length [] H'→H'[ED]? =some [(.str ([]:List UInt8)),(.str ([]:List UInt8)),(.int .i64 0),(.int .i64 0),(.int .u32 0),(.sl .own 7 [])]→H'[tj]? =some [(.sl .n 1 (ml b8 o'.1.b)),(.int .i64 o'.1.err)]→H'[B1]? =some [(.fn 46 [(.ep (.agg [(.ptr tj 0)]) 0)])]→H'[EE]? =some [(.str o'.2.av.au),(.str o'.2.av.domain),(.int .i64 o'.2.born),(.int .i64 o'.2.size),(.int .u32 o'.2.sum),(.sl .own 7 (ml aC o'.2.az))]→K (.exit 0) [(0,(.sl .n 1 (ml b8 b1))),(2,(.ptr ED 0)),(6,(.ep (.agg [(.ptr tj 0)]) 0)),(9,(.ptr EE 0))] H'):
 AX Tryz.prog nu 85 H0.length (.loop (erase rG)) K [(0,(.sl .n 1 (ml b8 b1))),(2,(.ptr ED 0)),(6,(.ep (.agg [(.ptr tj 0)]) 0)),(7,(.ptr B1 0)),(8,(.fn 48 [(.ptr B1 0)])),(9,(.ptr EE 0)),(40,(.int .i64 Az)),(41,(.int .i64 t32))] H:=by
 refine iZ (fun s e H1=>match s with|(t32,BZ,qe)=>e=[(0,(.sl .n 1 (ml b8 b1))),(2,(.ptr ED 0)),(6,(.ep (.agg [(.ptr tj 0)]) 0)),(7,(.ptr B1 0)),(8,(.fn 48 [(.ptr B1 0)])),(9,(.ptr EE 0)),(40,(.int .i64 Az)),(41,(.int .i64 t32))]∧Fr H0 H0.length [] H1∧H1[ED]? =some [(.str ([]:List UInt8)),(.str ([]:List UInt8)),(.int .i64 0),(.int .i64 0),(.int .u32 0),(.sl .own 7 [])]∧H1[tj]? =some [(.sl .n 1 (ml b8 BZ.b)),(.int .i64 BZ.err)]∧H1[B1]? =some [(.fn 46 [(.ep (.agg [(.ptr tj 0)]) 0)])]∧H1[EE]? =some [(.str qe.av.au),(.str qe.av.domain),(.int .i64 qe.born),(.int .i64 qe.size),(.int .u32 qe.sum),(.sl .own 7 (ml aC qe.az))]) h ⟨rfl,hfr,ai,aq,bH,ck⟩ ?_
 rintro K' ⟨t32,BZ,qe⟩ st e H ⟨rfl,hfr,ai,aq,bH,ck⟩ h hN hB hR hX
 have hle:=hfr.le
 have aU:=aL ai
 have cK:=aL aq
 have yL:=aL bH
 have EC:=aL ck
 rw [fP.eq_1] at h
 refine aE (aB ai (aB aq (aB bH ck))) ?_
 refine b7 h (fun cH h=> ?_) fun cH h=> ?_
 · refine aE (aB ai (aB aq (aB bH ck))) ?_
   obtain ⟨⟨C3,VJ⟩,eA,h⟩:=ay h
   dsimp only at h
   refine bg ax (xA (q1:=B1) (q2:=tj) (bH.trans rfl) (aq.trans rfl) br eA) ?_
   refine aE (aB ai (aB aq (aB bH ck))) ?_
   obtain ⟨⟨r37,r38⟩,di,h⟩:=ay h
   dsimp only at h
   refine bg ax (gH (q1:=tj) (aX (ez bL)) di) ?_
   refine aE (aB ai (aB aq (aB bH ck))) ?_
   obtain ⟨⟨r39,r40⟩,gj,h⟩:=ay h
   dsimp only at h
   refine bg ax (gH (q1:=tj) bL gj) ?_
   refine aE (aB ai (aB aq (aB bH ck))) ?_
   obtain ⟨⟨r41,r42⟩,lW,h⟩:=ay h
   dsimp only at h
   refine bg ax (dL (q1:=tj) bL lW) ?_
   refine aE (aB ai (aB aq (aB bH ck))) ?_
   obtain ⟨⟨r43,VK⟩,gl,h⟩:=ay h
   dsimp only at h
   refine bg ax (wA (q1:=tj) bL gl) ?_
   refine aE (aB ai (aB aq (aB bH ck))) ?_
   obtain ⟨⟨KN,VL⟩,j7,h⟩:=ay h
   dsimp only at h
   refine bg ax (jT (q1:=tj) (aX (aX (aX (aX bL)))) j7) ?_
   refine aE (aB ai (aB aq (aB bH ck))) ?_
   obtain ⟨x47,nP,h⟩:=ay h
   have j9:cC 80 (ml aC qe.az) [(.agg [(.str C3.au),(.str C3.domain),(.int .i64 r37),(.int .i64 r39),(.int .i64 r41),(.int .i64 r43),(.str KN)])]=some (ml aC x47):=eo (f:=aC) nP
   refine aE (aB j9 (aB ai (aB aq (aB bH ck)))) ?_
   obtain rfl:=aK h
   exact hN _ rfl _ _ _ _ aZ ax ⟨rfl,(bn _ (bn _ (bn _ (bn _ (bn _ (bn _ (bn _ (bn _ (bn _ (bn _ (bn _ (bn _ (bn _ (Fr.app (bn _ hfr))))))))))))))),(aX (aX (aX (aX (aX (aX (aX (aX (aX (aX (aX (aX (aX (ez (aX (ai.trans rfl)))))))))))))))),(aX (aX (aX bL))),(aX (aX (aX (aX (aX (aX (aX (aX (aX (aX (aX (aX (aX (ez (aX (bH.trans rfl)))))))))))))))),bL⟩
 · refine aE (aB ai (aB aq (aB bH ck))) ?_
   obtain rfl:=aK h
   exact hX _ _ _ _ _ eK aZ ax (dj _ (hB _ rfl) _ hfr (ai.trans rfl) (aq.trans rfl) (bH.trans rfl) (ck.trans rfl))
theorem AN {F:Nat} {Ga:aN} {jB:ak} {b1:List UInt8} {KO:Nat} {N0:Nat} {KP:Nat} {H0 H:AH} (hfr:Fr H0 H0.length [] H) (ai:H[KO]? =some [(.str ([]:List UInt8)),(.str ([]:List UInt8)),(.int .i64 0),(.int .i64 0),(.int .u32 0),(.sl .own 7 [])]) (aq:H[N0]? =some [(.sl .n 1 (ml b8 Ga.b)),(.int .i64 Ga.err)]) (ck:H[KP]? =some [(.str jB.av.au),(.str jB.av.domain),(.int .i64 jB.born),(.int .i64 jB.size),(.int .u32 jB.sum),(.sl .own 7 (ml aC jB.az))]) (eS:H0.length≤KO) (hi1:H0.length≤N0) (hi2:KO≠N0) (vf:H0.length≤KP) (hi4:KO≠KP) (NX:N0≠KP) {K:Exit→Env→AH→Prop} {t59:Bool}
 (h:jm F Ga jB b1=some t59)
 (kn:∀H':AH,Fr H0 H0.length [] H'→H'[KO]? =some [(.str ([]:List UInt8)),(.str ([]:List UInt8)),(.int .i64 0),(.int .i64 0),(.int .u32 0),(.sl .own 7 [])]→H'[N0]? =some [(.sl .n 1 (ml b8 Ga.b)),(.int .i64 Ga.err)]→H'[KP]? =some [(.str jB.av.au),(.str jB.av.domain),(.int .i64 jB.born),(.int .i64 jB.size),(.int .u32 jB.sum),(.sl .own 7 (ml aC jB.az))]→K .normal [(2,(.ptr KO 0)),(9,(.ptr KP 0)),(82,(.bool t59))] H'):
 AX Tryz.prog nu 85 H0.length (erase th) K [(0,(.sl .n 1 (ml b8 b1))),(2,(.ptr KO 0)),(6,(.ep (.agg [(.ptr N0 0)]) 0)),(9,(.ptr KP 0))] H:=by
 refine dz fun K' hK=> ?_
 have hle:=hfr.le
 have aU:=aL ai
 have cK:=aL aq
 have EC:=aL ck
 rw [jm.eq_1] at h
 refine aE (aB ai (aB aq ck)) ?_
 obtain ⟨r55,p6,h⟩:=ay h
 refine ueZ (uj p6) (z8.cons (.one _ _ (jX.adQ (aq.trans rfl) pZZ)) (z8.nil)) ?_
 refine aE (aB ai (aB aq ck)) ?_
 refine cr h (fun k7 h=> ?_) fun k7 h=> ?_
 · refine aE (aB k7 (aB ai (aB aq ck))) ?_
   obtain rfl:=aK h
   exact hK _ _ _ _ _ aZ ax (kn _ hfr (ai.trans rfl) (aq.trans rfl) (ck.trans rfl))
 · refine aE (aB k7 (aB ai (aB aq ck))) ?_
   obtain ⟨r56,s5,h⟩:=ay h
   refine bg ax (nt s5) ?_
   refine aE (aB ai (aB aq ck)) ?_
   refine cr h (fun nQ h=> ?_) fun nQ h=> ?_
   · refine aE (aB nQ (aB ai (aB aq ck))) ?_
     obtain rfl:=aK h
     exact hK _ _ _ _ _ aZ ax (kn _ hfr (ai.trans rfl) (aq.trans rfl) (ck.trans rfl))
   · refine aE (aB nQ (aB ai (aB aq ck))) ?_
     obtain ⟨r57,p7,h⟩:=ay h
     refine bg ax (qb p7) ?_
     refine aE (aB ai (aB aq ck)) ?_
     obtain ⟨r58,En,h⟩:=ay h
     refine bg ax (C4 En) ?_
     refine aE (aB ai (aB aq ck)) ?_
     obtain rfl:=aK h
     exact hK _ _ _ _ _ aZ ax (kn _ hfr (ai.trans rfl) (aq.trans rfl) (ck.trans rfl))
theorem qf {F:Nat} {b1:List UInt8} {H0:AH} {aM:ak} {cB:Int} (h:gX F b1=some (aM,cB)):
 aG Tryz.prog 18 [(.sl .n 1 (ml b8 b1))] H0 fun v H'=>v=(.bK [(.agg [(.str aM.av.au),(.str aM.av.domain),(.int .i64 aM.born),(.int .i64 aM.size),(.int .u32 aM.sum),(.sl .n 7 (ml aC aM.az))]),(.int .i64 cB)])∧H'=H0:=by
 refine ef F9 nu [] fun hcl K0 aP H hH hfr=> ?_
 clear hH
 have hle:=hfr.le
 rw [gX.eq_1] at h
 refine bV ?_
 obtain ⟨⟨r2,r3⟩,hy1,h⟩:=ay h
 dsimp only at h
 refine bg ax (Ey hy1) ?_
 refine bV ?_
 refine b7 h (fun bf h=> ?_) fun bf h=> ?_
 · refine bV ?_
   obtain ⟨rfl,rfl⟩:=de h
   exact aP _ _ _ bG (bp (bn _ (Fr.app hfr)) hcl (gw (cs:=[(.str ([]:List UInt8)),(.str ([]:List UInt8)),(.int .i64 0),(.int .i64 0),(.int .u32 0),(.sl .ex 7 [])]) (v:=(.agg [(.str ([]:List UInt8)),(.str ([]:List UInt8)),(.int .i64 0),(.int .i64 0),(.int .u32 0),(.sl .ex 7 [])])) (by kernel_rfl) (n:=(some 6)) (by kernel_rfl) rfl bL (by simp [jc,jb,lF,bZ,AV.flat,ng,oa,AV.bS,Tg.sh]) (bD bx (.int .i64 r3))) bB bt ⟨rfl,rfl⟩)
 · refine bV ?_
   obtain ⟨r4,bz,h⟩:=ay h
   obtain ⟨q5,N1⟩:∃q:Nat,H.length=q:=⟨_,rfl⟩
   try rw [N1]
   rcases r4 with _|t6
   · try dsimp only at h
     cases h
   · try dsimp only at h
     refine YQ ax (oy bz) ?_
     rintro _ H ⟨q7,rfl,Ew,Ay,aq⟩
     try simp only [pM,pN] at Ew
     have ai:H[q5]? =some [(.str ([]:List UInt8)),(.str ([]:List UInt8)),(.int .i64 0),(.int .i64 0),(.int .u32 0),(.sl .ex 7 [])]:=(Ay.eq _ (aL (by exact jY)) (by simp<;>(first|assumption|omega|(simp only [pM,pN]<;>omega)|fail))).trans (by exact jY)
     have hfr:=Fr.trans (Fr.app hfr) Ay (by simp)
     have hle:=hfr.le
     have aU:=aL ai
     have cK:=aL aq
     refine aE (aB ai aq) ?_
     obtain ⟨⟨r8,r9⟩,bu,h⟩:=ay h
     dsimp only at h
     refine bg ax (gH (q1:=q7) (aX (ez (aX (ez (aq.trans rfl))))) bu) ?_
     refine aE (aB ai aq) ?_
     obtain ⟨⟨lG,gy⟩,bW,h⟩:=ay h
     dsimp only at h
     refine bg ax (yU (q1:=(H.length+1)) (q2:=H.length) (q4:=q7) (aX bL) (aX (aX (ez bL))) bL br br br bW) ?_
     refine aE (aB ai aq) ?_
     refine NR ?_
     apply AX.Ab (s:=H.length) (s2:=(H.length+1)) (cs:=[(.ptr q7 0)]) (zs:=[(.fn 46 [(.ptr H.length 0)])]) (zs':=[(.fn 46 [(.ep (.agg [(.ptr q7 0)]) 0)])]) (by exact (aX (ez (aX (aX (aX (ez bL))))))) (cv.same (cv.nil)) (by simp) (by exact (aX (ez (aX (aX bL))))) (by omega) (u7.cons _ _ _ _ (Fc.fn _ _) (u7.nil))
     · repeat (first|exact FZ.nil|apply FZ.ep|apply FZ.same)
     refine Vv ?_
     obtain ⟨y9,YU⟩:∃q:Nat,(H.length+1)=q:=⟨_,rfl⟩
     try rw [YU]
     obtain ⟨za,YV⟩:∃q:Nat,(H.length+2)=q:=⟨_,rfl⟩
     try rw [YV]
     try rw [show y9+1=za from by omega]
     obtain ⟨⟨Ex,s25⟩,eE,h⟩:=ay h
     dsimp only at h
     refine cg (eR.Pb (q:=za) (cs':=[(.str lG.au),(.str lG.domain),(.int .i64 0),(.int .i64 0),(.int .u32 0),(.sl .own 7 [])]) (eR.set (q:=q5) (cs':=[(.str ([]:List UInt8)),(.str ([]:List UInt8)),(.int .i64 0),(.int .i64 0),(.int .u32 0),(.sl .own 7 [])]) (aX (aX (aX (ez (aX (aX (aX (ez (aX (ez (ai.trans rfl))))))))))) gE) (aX (aX bL)) gE) (AL (b1:=b1) (mG:=q5) (B0:=q7) (y9:=y9) (za:=za) (bn _ (bn _ (bn _ (bn _ (bn _ (Fr.app (bn _ (bn _ (bn _ (Fr.app (bn _ (Fr.app hfr)))))))))))) (aX bL) (aX (aX (aX (aX (aX (ez bL)))))) (aX (aX bL)) bL br br br br br br br br br br eE ?_)
     intro H hfr ai aq bH ck
     have hle:=hfr.le
     have aU:=aL ai
     have cK:=aL aq
     have yL:=aL bH
     have EC:=aL ck
     refine aE (aB ai (aB aq (aB bH ck))) ?_
     obtain ⟨⟨Az,BX⟩,dh,h⟩:=ay h
     dsimp only at h
     refine bg ax (gH (aq.trans rfl) dh) ?_
     refine aE (aB ai (aB aq (aB bH ck))) ?_
     obtain ⟨o61,kf,h⟩:=ay h
     refine cg ax (AM (b1:=b1) (ED:=q5) (tj:=q7) (B1:=y9) (EE:=za) (bn _ hfr) (aX (ai.trans rfl)) bL (aX (bH.trans rfl)) (aX (ck.trans rfl)) br br br br br br br br br br kf ?_)
     · rintro ⟨Ga,jB⟩ rfl H hfr ai aq bH ck
       try dsimp only at h ai aq bH ck
       have hle:=hfr.le
       have aU:=aL ai
       have cK:=aL aq
       have yL:=aL bH
       have EC:=aL ck
       refine aE (aB ai (aB aq (aB bH ck))) ?_
       obtain ⟨t60,KQ,h⟩:=ay h
       refine cg ax (AN (KO:=q5) (N0:=q7) (KP:=za) hfr (ai.trans rfl) (aq.trans rfl) (ck.trans rfl) br br br br br br KQ ?_)
       intro H hfr ai aq ck
       have hle:=hfr.le
       have aU:=aL ai
       have cK:=aL aq
       have EC:=aL ck
       refine aE (aB ai (aB aq ck)) ?_
       refine b7 h (fun VM h=> ?_) fun VM h=> ?_
       · refine aE (aB ai (aB aq ck)) ?_
         obtain ⟨rfl,rfl⟩:=de h
         exact aP _ _ _ bG (bp (bn _ hfr) hcl (gw (cs:=[(.str ([]:List UInt8)),(.str ([]:List UInt8)),(.int .i64 0),(.int .i64 0),(.int .u32 0),(.sl .ex 7 [])]) (v:=(.agg [(.str ([]:List UInt8)),(.str ([]:List UInt8)),(.int .i64 0),(.int .i64 0),(.int .u32 0),(.sl .ex 7 [])])) (by kernel_rfl) (n:=(some 6)) (by kernel_rfl) rfl bL (by simp [jc,jb,lF,bZ,AV.flat,ng,oa,AV.bS,Tg.sh]) (bD bx (.int .i64 3))) bB bt ⟨rfl,rfl⟩)
       · refine aE (aB ai (aB aq ck)) ?_
         obtain ⟨rfl,rfl⟩:=de h
         exact aP _ _ _ bG (bp (bn _ hfr) hcl (gw (cs:=[(.str jB.av.au),(.str jB.av.domain),(.int .i64 jB.born),(.int .i64 jB.size),(.int .u32 jB.sum),(.sl .n 7 (ml aC jB.az))]) (v:=(.agg [(.str jB.av.au),(.str jB.av.domain),(.int .i64 jB.born),(.int .i64 jB.size),(.int .u32 jB.sum),(.sl .n 7 (ml aC jB.az))])) (by kernel_rfl) (n:=(some 6)) (by kernel_rfl) rfl bL (by simp [jc,jb,lF,bZ,AV.flat,ng,oa,AV.bS,Tg.sh]) (bD bx (.int .i64 0))) bB bt ⟨rfl,rfl⟩)
abbrev yb:aD:=(.rg [(aj 15 (.aV (.t 7) 2)),(aj 16 (.ld (.t 15) none)),(aj 17 (.bin .eql (.t 16) (.c (.int .i64 1)))),(aA 18 17),(aF 19 (.mv (.t 5)) 18 true),(aF 20 (.un .not (.t 19)) 18 true),(aF 21 (.mv (.t 20)) 18 true),(aF 22 (.aV (.t 7) 4) 21 false),(aF 23 (.ld (.t 22) none) 21 false),(aF 24 (.mv (.t 4)) 21 false),(aF 25 (.bin .lss (.t 23) (.t 24)) 21 false),(aF 26 (.pick (.t 21) (.c (.bool true)) (.t 25)) 18 true),(aj 27 (.pick (.t 18) (.t 26) (.c (.bool false))))])
abbrev wB:aD:=(.seq (.rg [(aj 12 (.bin .lss (.t 11) (.t 10)))]) (.seq (.cond (.t 12) .skip (.exit 0)) (.seq (.blk 1 (.seq (.rg [(aj 13 (.lC 7 (.t 9) (.t 11))),(aj 14 (.ld (.t 13) (some 7))),(aj 7 (.alloc [(.str []),(.str []),(.int .i64 0),(.int .i64 0),(.int .i64 0),(.int .i64 0),(.str [])])),(cZ (.st (.t 7) (.t 14) 7))]) (.seq (.sem (erase yb)) (.cond (.t 27) (.rg [(aj 28 (.aV (.t 7) 4)),(aj 29 (.ld (.t 28) none)),(bk 4 29),(aj 5 (.aY (.c (.bool true))))]) .skip)))) (.rg [(aj 30 (.bin .add (.t 11) (.c (.int .i64 1)))),(aA 11 30)]))))
abbrev N2:aD:=(.seq (.rg [(aj 1 (.box (.t 0))),(aj 2 (.aY (.c (.int .i64 0)))),(aj 3 (.aY (.c (.bool false))))]) (.seq (.rg [(aj 4 (.aY (.c (.int .i64 0)))),(aj 5 (.aY (.c (.bool false))))]) (.seq (.seq (.rg [(aj 8 (.aV (.t 1) 5)),(aj 9 (.ld (.t 8) none)),(aj 10 (.len (.t 9))),(aj 11 (.mv (.c (.int .i64 0))))]) (.blk 0 (.loop (erase wB)))) (.seq (.rg [(aA 31 4),(aA 32 5),(bk 2 31),(bk 3 32)]) .ret))))
theorem N3:bw Tryz.prog 11 33 [(.tmp 2),(.tmp 3)] (erase N2):=⟨Tryz.f11,_,rfl,by decide,rfl,by kernel_rfl,rfl,rfl⟩
abbrev zb:List Nat:=[0,1,2,3,4,5,7,9,10,11,12,27]
def k9 (e1:ak):(Int×Bool×Int)→Option (St (Int×Bool) (Int×Bool) (Int×Bool×Int))
 |(qg,zd,t4)=>
  (if (decide (t4<(e1.az.length:Int))) then
   (idx e1.az t4).bind fun x5=>
   (if ((decide (x5.state=1))&&((!zd)||(decide (x5.next<qg)))) then
    some (.cT (x5.next,true,(IntKind.wrap .i64 (t4+1))))
   else
    some (.cT (qg,zd,(IntKind.wrap .i64 (t4+1)))))
  else
   some (.fI (qg,zd)))
def tq (F:Nat) (e1:ak):Option (Int×Bool):=
 ((iter (k9 e1) F (0,false,0)).bind fun KR=>
 match KR with
 | .inr (VN,VO)=>
   some (VN,VO)
 | .inl _=>none)
theorem EG {qg:Int} {zd:Bool} {q6:Nat} {e1:ak} {t4:Int} {x5:bl} {H0 H:AH} (hfr:Fr H0 H0.length [] H) (aq:H[q6]? =some [(.str x5.ct.au),(.str x5.ct.domain),(.int .i64 x5.state),(.int .i64 x5.tries),(.int .i64 x5.next),(.int .i64 x5.code),(.str x5.why)]) (eS:H0.length≤q6) {K:Exit→Env→AH→Prop}
 (kn:∀H':AH,Fr H0 H0.length [] H'→H'[q6]? =some [(.str x5.ct.au),(.str x5.ct.domain),(.int .i64 x5.state),(.int .i64 x5.tries),(.int .i64 x5.next),(.int .i64 x5.code),(.str x5.why)]→K .normal [(4,(.int .i64 qg)),(5,(.bool zd)),(7,(.ptr q6 0)),(9,(.sl .n 7 (ml aC e1.az))),(10,(.int .i64 (e1.az.length:Int))),(11,(.int .i64 t4)),(27,(.bool ((decide (x5.state=1))&&((!zd)||(decide (x5.next<qg))))))] H'):
 AX Tryz.prog zb 33 H0.length (erase yb) K [(4,(.int .i64 qg)),(5,(.bool zd)),(7,(.ptr q6 0)),(9,(.sl .n 7 (ml aC e1.az))),(10,(.int .i64 (e1.az.length:Int))),(11,(.int .i64 t4))] H:=by
 refine dz fun K' hK=> ?_
 have hle:=hfr.le
 have cK:=aL aq
 refine aE aq ?_
 refine jZ (fun bz=> ?_) fun bz=> ?_
 · refine aE (aB bz aq) ?_
   refine jZ (fun bu=> ?_) fun bu=> ?_
   · refine aE (aB bu aq) ?_
     exact hK _ _ _ _ _ (dy (aB bz bu)) ax (kn _ hfr (aq.trans rfl))
   · refine aE (aB bu aq) ?_
     exact hK _ _ _ _ _ (dy (aB bz bu)) ax (kn _ hfr (aq.trans rfl))
 · refine aE (aB bz aq) ?_
   exact hK _ _ _ _ _ (dy bz) ax (kn _ hfr (aq.trans rfl))
theorem EH {F:Nat} {t4:Int} {e1:ak} {zd:Bool} {qg:Int} {H0 H:AH} (hfr:Fr H0 H0.length [] H) {K:Exit→Env→AH→Prop} {o:(Int×Bool)⊕(Int×Bool)}
 (h:iter (k9 e1) F (qg,zd,t4)=some o)
 (dj:∀o':Int×Bool,o= .inr o'→∀H':AH,Fr H0 H0.length [] H'→K (.exit 0) [(4,(.int .i64 o'.1)),(5,(.bool o'.2))] H'):
 AX Tryz.prog zb 33 H0.length (.loop (erase wB)) K [(4,(.int .i64 qg)),(5,(.bool zd)),(9,(.sl .n 7 (ml aC e1.az))),(10,(.int .i64 (e1.az.length:Int))),(11,(.int .i64 t4))] H:=by
 refine iZ (fun s e H1=>match s with|(qg,zd,t4)=>e=[(4,(.int .i64 qg)),(5,(.bool zd)),(9,(.sl .n 7 (ml aC e1.az))),(10,(.int .i64 (e1.az.length:Int))),(11,(.int .i64 t4))]∧Fr H0 H0.length [] H1) h ⟨rfl,hfr⟩ ?_
 rintro K' ⟨qg,zd,t4⟩ st e H ⟨rfl,hfr⟩ h hN hB hR hX
 have hle:=hfr.le
 rw [k9.eq_1] at h
 refine bV ?_
 refine b7 h (fun hy1 h=> ?_) fun hy1 h=> ?_
 · obtain ⟨x5,bf,h⟩:=ay h
   refine aE bf ?_
   obtain ⟨q6,EI⟩:∃q:Nat,H.length=q:=⟨_,rfl⟩
   try rw [EI]
   refine cg ax (EG (qg:=qg) (zd:=zd) (q6:=q6) (e1:=e1) (t4:=t4) (x5:=x5) (bn _ (Fr.app hfr)) bL br ?_)
   intro H hfr aq
   have hle:=hfr.le
   have cK:=aL aq
   refine aE aq ?_
   refine b7 h (fun bW h=> ?_) fun bW h=> ?_
   · refine aE aq ?_
     obtain rfl:=aK h
     exact hN _ rfl _ _ _ _ aZ ax ⟨rfl,hfr⟩
   · refine aE aq ?_
     obtain rfl:=aK h
     exact hN _ rfl _ _ _ _ aZ ax ⟨rfl,hfr⟩
 · refine bV ?_
   obtain rfl:=aK h
   exact hX _ _ _ _ _ eK aZ ax (dj _ (hB _ rfl) _ hfr)
theorem Cw {F:Nat} {e1:ak} {H0:AH} {aM:Int} {cB:Bool} (h:tq F e1=some (aM,cB)):
 aG Tryz.prog 11 [(.agg [(.str e1.av.au),(.str e1.av.domain),(.int .i64 e1.born),(.int .i64 e1.size),(.int .u32 e1.sum),(.sl .n 7 (ml aC e1.az))])] H0 fun v H'=>v=(.bK [(.int .i64 aM),(.bool cB)])∧H'=H0:=by
 refine ef N3 zb [] fun hcl K0 aP H hH hfr=> ?_
 clear hH
 have hle:=hfr.le
 rw [tq.eq_1] at h
 refine bV ?_
 obtain ⟨KR,cw,h⟩:=ay h
 refine cg ax (EH (Fr.app hfr) cw ?_)
 · rintro ⟨VN,VO⟩ rfl H hfr
   try dsimp only at h
   have hle:=hfr.le
   refine bV ?_
   obtain ⟨rfl,rfl⟩:=de h
   exact aP _ _ _ bG (bp hfr hcl (bD (bD bx (.bool VO)) (.int .i64 VN)) bB bt ⟨rfl,rfl⟩)
abbrev oz:aD:=(.seq (.rg [(aj 14 (.bin .lss (.t 13) (.t 12)))]) (.seq (.cond (.t 14) .skip (.exit 0)) (.seq (.blk 1 (.seq (.rg [(aA 15 13),(bk 5 15)]) (.seq (.rg [(aA 16 0),(aA 17 5),(aj 18 (.lC 7 (.t 16) (.t 17))),(aj 19 (.ld (.t 18) (some 7))),(aA 20 1),(aA 21 5),(aj 22 (.lC 7 (.t 20) (.t 21))),(aj 23 (.ld (.t 22) (some 7))),(aj 24 (.seq [.s, .s, .i, .i, .i, .i, .s] true (.t 19) (.t 23)))]) (.cond (.t 24) (.seq (.rg [(aj 4 (.aY (.c (.bool false))))]) .ret) .skip)))) (.rg [(aj 25 (.bin .add (.t 13) (.c (.int .i64 1)))),(aA 13 25)]))))
abbrev C5:aD:=(.seq (.rg [(aj 4 (.aY (.c (.bool false))))]) (.seq (.seq (.rg [(aA 6 0),(aj 7 (.len (.t 6))),(aA 8 1),(aj 9 (.len (.t 8))),(aj 10 (.bin .neq (.t 7) (.t 9)))]) (.cond (.t 10) (.seq (.rg [(aj 4 (.aY (.c (.bool false))))]) .ret) .skip)) (.seq (.seq (.rg [(aA 11 0),(aj 12 (.len (.t 11))),(aj 13 (.mv (.c (.int .i64 0))))]) (.blk 0 (.loop (erase oz)))) (.seq (.rg [(aj 4 (.aY (.c (.bool true))))]) .ret))))
theorem C6:bw Tryz.prog 54 26 [(.tmp 4)] (erase C5):=⟨Tryz.f54,_,rfl,by decide,rfl,by kernel_rfl,rfl,rfl⟩
abbrev uN:List Nat:=[0,1,4,5,10,12,13,14,24]
def eH (s1:List bl) (s2:List bl):(Bool×Int)→Option (St Bool Unit (Bool×Int))
 |(t3,t4)=>
  (if (decide (t4<(s1.length:Int))) then
   (idx s1 t4).bind fun x5=>
   (idx s2 t4).bind fun x6=>
   (if (!(decide (x5.ct.au=x6.ct.au)&&(decide (x5.ct.domain=x6.ct.domain)&&(decide (x5.state=x6.state)&&(decide (x5.tries=x6.tries)&&(decide (x5.next=x6.next)&&(decide (x5.code=x6.code)&&decide (x5.why=x6.why)))))))) then
    some (.ret false)
   else
    some (.cT (t3,(IntKind.wrap .i64 (t4+1)))))
  else
   some (.fI ()))
def kq (F:Nat) (s1:List bl) (s2:List bl):Option (Bool):=
 (if (!decide ((s1.length:Int)=(s2.length:Int))) then
  some false
 else
  ((iter (eH s1 s2) F (false,0)).bind fun o9=>
  match o9 with
  | .inr ()=>
    some true
  | .inl r8=>
    some r8))
theorem xE {F:Nat} {t4:Int} {s1:List bl} {s2:List bl} {t3:Bool} {H:AH} {K:Exit→Env→AH→Prop} {o:(Bool)⊕(Unit)}
 (h:iter (eH s1 s2) F (t3,t4)=some o)
 (dj:∀o':Unit,o= .inr o'→K (.exit 0) [] H)
 (kr:∀o':Bool,o= .inl o'→K .ret [(4,(.bool o'))] H):
 AX Tryz.prog uN 26 H.length (.loop (erase oz)) K [(0,(.sl .n 7 (ml aC s1))),(1,(.sl .n 7 (ml aC s2))),(4,(.bool t3)),(12,(.int .i64 (s1.length:Int))),(13,(.int .i64 t4))] H:=by
 refine iZ (fun s e H1=>match s with|(t3,t4)=>e=[(0,(.sl .n 7 (ml aC s1))),(1,(.sl .n 7 (ml aC s2))),(4,(.bool t3)),(12,(.int .i64 (s1.length:Int))),(13,(.int .i64 t4))]∧H1=H) h ⟨rfl,rfl⟩ ?_
 rintro K' ⟨t3,t4⟩ st e H ⟨rfl,rfl⟩ h hN hB hR hX
 rw [eH.eq_1] at h
 refine aS ?_
 refine b7 h (fun bf h=> ?_) fun bf h=> ?_
 · obtain ⟨x5,bz,h⟩:=ay h
   obtain ⟨x6,bu,h⟩:=ay h
   refine bO (aB bz bu) ?_
   refine b7 h (fun bW h=> ?_) fun bW h=> ?_
   · refine aS ?_
     obtain rfl:=aK h
     exact hX _ _ _ _ _ eK aZ ax (kr _ (hR _ rfl))
   · refine aS ?_
     obtain rfl:=aK h
     exact hN _ rfl _ _ _ _ aZ ax ⟨rfl,rfl⟩
 · refine aS ?_
   obtain rfl:=aK h
   exact hX _ _ _ _ _ eK WE.nil ax (dj _ (hB _ rfl))
theorem B2 {F:Nat} {s1:List bl} {s2:List bl} {H0:AH} {aM:Bool} (h:kq F s1 s2=some aM):
 aG Tryz.prog 54 [(.sl .n 7 (ml aC s1)),(.sl .n 7 (ml aC s2))] H0 fun v H'=>v=(.bool aM)∧H'=H0:=by
 refine gx C6 uN fun hcl K0 aP=> ?_
 rw [kq.eq_1] at h
 refine aS ?_
 refine b7 h (fun hy1 h=> ?_) fun hy1 h=> ?_
 · refine aS ?_
   obtain rfl:=aK h
   exact aP _ _ _ bG (aW hcl (bD bx (.bool false)) bB bt ⟨rfl,rfl⟩)
 · refine aS ?_
   obtain ⟨o9,cw,h⟩:=ay h
   refine cg ax (xE cw ?_ ?_)
   · rintro ⟨⟩ rfl
     try dsimp only at h
     refine aS ?_
     obtain rfl:=aK h
     exact aP _ _ _ bG (aW hcl (bD bx (.bool true)) bB bt ⟨rfl,rfl⟩)
   · rintro r8 rfl
     try dsimp only at h
     refine aS ?_
     obtain rfl:=aK h
     exact aP _ _ _ bG (aW hcl (bD bx (.bool r8)) bB bt ⟨rfl,rfl⟩)
abbrev wC:aD:=(.rg ((aj 5 (.aV (.t 2) 0))::(aj 6 (.ld (.t 5) (some 2)))::(aj 7 (.aV (.t 3) 0))::(aj 8 (.ld (.t 7) (some 2)))::(aj 9 (.seq [.s, .s] false (.t 6) (.t 8)))::(aA 10 9)::(aF 11 (.aV (.t 2) 2) 10 true)::(aF 12 (.ld (.t 11) none) 10 true)::(aF 13 (.aV (.t 3) 2) 10 true)::(aF 14 (.ld (.t 13) none) 10 true)::(aF 15 (.bin .eql (.t 12) (.t 14)) 10 true)::(aj 16 (.pick (.t 10) (.t 15) (.c (.bool false))))::(aA 17 16)::(aF 18 (.aV (.t 2) 3) 17 true)::(aF 19 (.ld (.t 18) none) 17 true)::(aF 20 (.aV (.t 3) 3) 17 true)::(aF 21 (.ld (.t 20) none) 17 true)::(aF 22 (.bin .eql (.t 19) (.t 21)) 17 true)::(aj 23 (.pick (.t 17) (.t 22) (.c (.bool false))))::(aA 24 23)::(aF 25 (.aV (.t 2) 4) 24 true)::(aF 26 (.ld (.t 25) none) 24 true)::(aF 27 (.aV (.t 3) 4) 24 true)::(aF 28 (.ld (.t 27) none) 24 true)::(aF 29 (.bin .eql (.t 26) (.t 28)) 24 true)::(aj 30 (.pick (.t 24) (.t 29) (.c (.bool false))))::(aA 31 30)::(aF 32 (.aV (.t 2) 5) 31 true)::(aF 33 (.ld (.t 32) none) 31 true)::(aF 34 (.aV (.t 3) 5) 31 true)::(aF 35 (.ld (.t 34) none) 31 true)::(aF 36 (.call (.c (.fn 54 [])) [(.t 33),(.t 35)]) 31 true)::(aj 37 (.pick (.t 31) (.t 36) (.c (.bool false))))::(bk 4 37)::[]))
abbrev KS:aD:=(.seq (.rg [(aj 2 (.box (.t 0))),(aj 3 (.box (.t 1))),(aj 4 (.aY (.c (.bool false))))]) (.seq (.sem (erase wC)) .ret))
theorem KT:bw Tryz.prog 19 38 [(.tmp 4)] (erase KS):=⟨Tryz.f19,_,rfl,by decide,rfl,by kernel_rfl,rfl,rfl⟩
abbrev Cy:List Nat:=[0,1,2,3,4]
def oR (F:Nat) (a1:ak) (b2:ak):Option (Bool):=
 (if (decide (a1.av.au=b2.av.au)&&decide (a1.av.domain=b2.av.domain)) then
  (if (decide (a1.born=b2.born)) then
   (if (decide (a1.size=b2.size)) then
    (if (decide (a1.sum=b2.sum)) then
     (kq F a1.az b2.az).bind fun r5=>some r5
    else
     some false)
   else
    some false)
  else
   some false)
 else
  some false)
def lf (F:Nat) (a1:ak) (b2:ak):Option (Bool):=
 (oR F a1 b2).bind fun t7=>
 some t7
theorem C7 {F:Nat} {a1:ak} {b2:ak} {q3:Nat} {q4:Nat} {H0 H:AH} (hfr:Fr H0 H0.length [] H) (ai:H[q3]? =some [(.str a1.av.au),(.str a1.av.domain),(.int .i64 a1.born),(.int .i64 a1.size),(.int .u32 a1.sum),(.sl .n 7 (ml aC a1.az))]) (aq:H[q4]? =some [(.str b2.av.au),(.str b2.av.domain),(.int .i64 b2.born),(.int .i64 b2.size),(.int .u32 b2.sum),(.sl .n 7 (ml aC b2.az))]) (eS:H0.length≤q3) (hi1:H0.length≤q4) (hi2:q3≠q4) {K:Exit→Env→AH→Prop} {t6:Bool}
 (h:oR F a1 b2=some t6)
 (kn:∀H':AH,Fr H0 H0.length [] H'→H'[q3]? =some [(.str a1.av.au),(.str a1.av.domain),(.int .i64 a1.born),(.int .i64 a1.size),(.int .u32 a1.sum),(.sl .n 7 (ml aC a1.az))]→H'[q4]? =some [(.str b2.av.au),(.str b2.av.domain),(.int .i64 b2.born),(.int .i64 b2.size),(.int .u32 b2.sum),(.sl .n 7 (ml aC b2.az))]→K .normal [(4,(.bool t6))] H'):
 AX Tryz.prog Cy 38 H0.length (erase wC) K [(2,(.ptr q3 0)),(3,(.ptr q4 0)),(4,(.bool false))] H:=by
 refine dz fun K' hK=> ?_
 have hle:=hfr.le
 have aU:=aL ai
 have cK:=aL aq
 rw [oR.eq_1] at h
 refine aE (aB ai aq) ?_
 refine cr h (fun hy1 h=> ?_) fun hy1 h=> ?_
 · refine aE (aB hy1 (aB ai aq)) ?_
   refine cr h (fun bf h=> ?_) fun bf h=> ?_
   · refine aE (aB bf (aB ai aq)) ?_
     refine cr h (fun bz h=> ?_) fun bz h=> ?_
     · refine aE (aB bz (aB ai aq)) ?_
       refine cr h (fun bu h=> ?_) fun bu h=> ?_
       · refine aE (aB bu (aB ai aq)) ?_
         obtain ⟨r5,bW,h⟩:=ay h
         refine bg ax (B2 bW) ?_
         refine aE (aB ai aq) ?_
         obtain rfl:=aK h
         exact hK _ _ _ _ _ aZ ax (kn _ hfr (ai.trans rfl) (aq.trans rfl))
       · refine aE (aB bu (aB ai aq)) ?_
         obtain rfl:=aK h
         exact hK _ _ _ _ _ aZ ax (kn _ hfr (ai.trans rfl) (aq.trans rfl))
     · refine aE (aB bz (aB ai aq)) ?_
       obtain rfl:=aK h
       exact hK _ _ _ _ _ aZ ax (kn _ hfr (ai.trans rfl) (aq.trans rfl))
   · refine aE (aB bf (aB ai aq)) ?_
     obtain rfl:=aK h
     exact hK _ _ _ _ _ aZ ax (kn _ hfr (ai.trans rfl) (aq.trans rfl))
 · refine aE (aB hy1 (aB ai aq)) ?_
   obtain rfl:=aK h
   exact hK _ _ _ _ _ aZ ax (kn _ hfr (ai.trans rfl) (aq.trans rfl))
theorem oS {F:Nat} {a1:ak} {b2:ak} {H0:AH} {aM:Bool} (h:lf F a1 b2=some aM):
 aG Tryz.prog 19 [(.agg [(.str a1.av.au),(.str a1.av.domain),(.int .i64 a1.born),(.int .i64 a1.size),(.int .u32 a1.sum),(.sl .n 7 (ml aC a1.az))]),(.agg [(.str b2.av.au),(.str b2.av.domain),(.int .i64 b2.born),(.int .i64 b2.size),(.int .u32 b2.sum),(.sl .n 7 (ml aC b2.az))])] H0 fun v H'=>v=(.bool aM)∧H'=H0:=by
 refine ef KT Cy [] fun hcl K0 aP H hH hfr=> ?_
 clear hH
 have hle:=hfr.le
 rw [lf.eq_1] at h
 refine bV ?_
 obtain ⟨q4,yN⟩:∃q:Nat,(H.length+1)=q:=⟨_,rfl⟩
 try rw [yN]
 obtain ⟨q3,yB⟩:∃q:Nat,H.length=q:=⟨_,rfl⟩
 try rw [yB]
 try rw [show q3+1=q4 from by omega]
 obtain ⟨t7,cw,h⟩:=ay h
 refine cg ax (C7 (q3:=q3) (q4:=q4) (Fr.app (Fr.app hfr)) (ez jY) jY br br br cw ?_)
 intro H hfr ai aq
 have hle:=hfr.le
 have aU:=aL ai
 have cK:=aL aq
 refine aE (aB ai aq) ?_
 obtain rfl:=aK h
 exact aP _ _ _ bG (bp hfr hcl (bD bx (.bool t7)) bB bt ⟨rfl,rfl⟩)
abbrev uO:aD:=(.seq (.rg [(aj 10 (.bin .lss (.t 9) (.t 8)))]) (.seq (.cond (.t 10) .skip (.exit 0)) (.seq (.blk 1 (.seq (.rg [(aj 11 (.lC 7 (.t 7) (.t 9))),(aj 12 (.ld (.t 11) (some 7))),(aj 5 (.alloc [(.str []),(.str []),(.int .i64 0),(.int .i64 0),(.int .i64 0),(.int .i64 0),(.str [])])),(cZ (.st (.t 5) (.t 12) 7))]) (.seq (.rg [(aj 13 (.aV (.t 5) 2)),(aj 14 (.ld (.t 13) none)),(aj 15 (.bin .eql (.t 14) (.c (.int .i64 1))))]) (.cond (.t 15) (.rg [(aA 16 3),(aj 17 (.bin .add (.t 16) (.c (.int .i64 1)))),(bk 3 17)]) .skip)))) (.rg [(aj 18 (.bin .add (.t 9) (.c (.int .i64 1)))),(aA 9 18)]))))
abbrev KU:aD:=(.seq (.rg [(aj 1 (.box (.t 0))),(aj 2 (.aY (.c (.int .i64 0))))]) (.seq (.rg [(aj 3 (.aY (.c (.int .i64 0))))]) (.seq (.seq (.rg [(aj 6 (.aV (.t 1) 5)),(aj 7 (.ld (.t 6) none)),(aj 8 (.len (.t 7))),(aj 9 (.mv (.c (.int .i64 0))))]) (.blk 0 (.loop (erase uO)))) (.seq (.rg [(aA 19 3),(bk 2 19)]) .ret))))
theorem KV:bw Tryz.prog 16 20 [(.tmp 2)] (erase KU):=⟨Tryz.f16,_,rfl,by decide,rfl,by kernel_rfl,rfl,rfl⟩
abbrev Cz:List Nat:=[0,1,2,3,5,7,8,9,10,15]
def jC (e1:ak):(Int×Int)→Option (St Int Int (Int×Int))
 |(IJ,t3)=>
  (if (decide (t3<(e1.az.length:Int))) then
   (idx e1.az t3).bind fun x4=>
   (if (decide (x4.state=1)) then
    some (.cT ((IntKind.wrap .i64 (IJ+1)),(IntKind.wrap .i64 (t3+1))))
   else
    some (.cT (IJ,(IntKind.wrap .i64 (t3+1)))))
  else
   some (.fI IJ))
def oZ (F:Nat) (e1:ak):Option (Int):=
 ((iter (jC e1) F (0,0)).bind fun o7=>
 match o7 with
 | .inr nn6=>
   some nn6
 | .inl _=>none)
theorem C8 {F:Nat} {t3:Int} {e1:ak} {IJ:Int} {H0 H:AH} (hfr:Fr H0 H0.length [] H) {K:Exit→Env→AH→Prop} {o:(Int)⊕(Int)}
 (h:iter (jC e1) F (IJ,t3)=some o)
 (dj:∀o':Int,o= .inr o'→∀H':AH,Fr H0 H0.length [] H'→K (.exit 0) [(3,(.int .i64 o'))] H'):
 AX Tryz.prog Cz 20 H0.length (.loop (erase uO)) K [(3,(.int .i64 IJ)),(7,(.sl .n 7 (ml aC e1.az))),(8,(.int .i64 (e1.az.length:Int))),(9,(.int .i64 t3))] H:=by
 refine iZ (fun s e H1=>match s with|(IJ,t3)=>e=[(3,(.int .i64 IJ)),(7,(.sl .n 7 (ml aC e1.az))),(8,(.int .i64 (e1.az.length:Int))),(9,(.int .i64 t3))]∧Fr H0 H0.length [] H1) h ⟨rfl,hfr⟩ ?_
 rintro K' ⟨IJ,t3⟩ st e H ⟨rfl,hfr⟩ h hN hB hR hX
 have hle:=hfr.le
 rw [jC.eq_1] at h
 refine bV ?_
 refine b7 h (fun hy1 h=> ?_) fun hy1 h=> ?_
 · obtain ⟨x4,bf,h⟩:=ay h
   refine aE bf ?_
   refine b7 h (fun bz h=> ?_) fun bz h=> ?_
   · refine bV ?_
     obtain rfl:=aK h
     exact hN _ rfl _ _ _ _ aZ ax ⟨rfl,(bn _ (Fr.app hfr))⟩
   · refine bV ?_
     obtain rfl:=aK h
     exact hN _ rfl _ _ _ _ aZ ax ⟨rfl,(bn _ (Fr.app hfr))⟩
 · refine bV ?_
   obtain rfl:=aK h
   exact hX _ _ _ _ _ eK aZ ax (dj _ (hB _ rfl) _ hfr)
theorem AO {F:Nat} {e1:ak} {H0:AH} {aM:Int} (h:oZ F e1=some aM):
 aG Tryz.prog 16 [(.agg [(.str e1.av.au),(.str e1.av.domain),(.int .i64 e1.born),(.int .i64 e1.size),(.int .u32 e1.sum),(.sl .n 7 (ml aC e1.az))])] H0 fun v H'=>v=(.int .i64 aM)∧H'=H0:=by
 refine ef KV Cz [] fun hcl K0 aP H hH hfr=> ?_
 clear hH
 have hle:=hfr.le
 rw [oZ.eq_1] at h
 refine bV ?_
 obtain ⟨o7,bu,h⟩:=ay h
 refine cg ax (C8 (Fr.app hfr) bu ?_)
 · rintro nn6 rfl H hfr
   try dsimp only at h
   have hle:=hfr.le
   refine bV ?_
   obtain rfl:=aK h
   exact aP _ _ _ bG (bp hfr hcl (bD bx (.int .i64 nn6)) bB bt ⟨rfl,rfl⟩)
abbrev AP:aD:=(.rg [(aj 20 (.ld (.t 1) (some 6))),(aj 21 (.call (.c (.fn 10 [])) [(.t 20)])),(aj 22 (.call (.c (.fn 18 [])) [(.t 21)])),(aA 19 22),(aj 23 (.ext (.t 19) 0)),(aj 24 (.ext (.t 19) 1)),(aj 2 (.alloc [(.str []),(.str []),(.int .i64 0),(.int .i64 0),(.int .u32 0),(.sl .ex 7 [])])),(cZ (.st (.t 2) (.t 23) 6)),(bk 3 24)])
abbrev rH:aD:=(.rg [(aj 30 (.ld (.t 1) (some 6))),(aj 31 (.call (.c (.fn 13 [])) [(.t 30)])),(aA 32 31),(aF 33 (.mv (.t 3)) 32 true),(aF 34 (.bin .eql (.t 33) (.c (.int .i64 0))) 32 true),(aj 35 (.pick (.t 32) (.t 34) (.c (.bool false)))),(aA 36 35),(aF 37 (.ld (.t 2) (some 6)) 36 true),(aF 38 (.ld (.t 1) (some 6)) 36 true),(aF 39 (.call (.c (.fn 19 [])) [(.t 37),(.t 38)]) 36 true),(aj 40 (.pick (.t 36) (.t 39) (.c (.bool false)))),(aA 41 40),(aF 42 (.mv (.t 4)) 41 true),(aF 43 (.bin .eql (.t 42) (.c (.int .i64 12))) 41 true),(aj 44 (.pick (.t 41) (.t 43) (.c (.bool false)))),(aA 45 44),(aF 46 (.mv (.t 5)) 45 true),(aj 47 (.pick (.t 45) (.t 46) (.c (.bool false)))),(aA 48 47),(aF 49 (.ld (.t 1) (some 6)) 48 true),(aF 50 (.call (.c (.fn 16 [])) [(.t 49)]) 48 true),(aF 51 (.bin .eql (.t 50) (.c (.int .i64 1))) 48 true),(aj 52 (.pick (.t 48) (.t 51) (.c (.bool false)))),(bk 0 52)])
abbrev EJ:aD:=(.seq (.rg [(aj 0 (.aY (.c (.bool false))))]) (.seq (.rg [(aj 6 (.build [(.str []),(.str []),(.int .i64 0),(.int .i64 0),(.int .i64 0),(.int .i64 0),(.str [])] [(2,(1,(.c (.int .i64 1)))),(4,(1,(.c (.int .i64 12))))])),(aj 7 (.pn 7 [(.t 6)])),(aj 8 (.build [(.str []),(.str []),(.int .i64 0),(.int .i64 0),(.int .u32 0),(.sl .ex 7 [])] [(2,(1,(.c (.int .i64 5)))),(3,(1,(.c (.int .i64 9)))),(4,(1,(.c (.int .u32 7)))),(5,(1,(.t 7)))])),(aj 1 (.alloc [(.str []),(.str []),(.int .i64 0),(.int .i64 0),(.int .u32 0),(.sl .ex 7 [])])),(cZ (.st (.t 1) (.t 8) 6))]) (.seq (.rg [(aj 9 (.aV (.t 1) 5)),(aj 10 (.ld (.t 9) none)),(aj 11 (.lC 7 (.t 10) (.c (.int .i64 0)))),(aj 12 (.aV (.t 11) 0)),(aj 13 (.aV (.t 12) 0)),(cZ (.st (.t 13) (.c (.str [97])) 1))]) (.seq (.rg [(aj 14 (.aV (.t 1) 5)),(aj 15 (.ld (.t 14) none)),(aj 16 (.lC 7 (.t 15) (.c (.int .i64 0)))),(aj 17 (.aV (.t 16) 0)),(aj 18 (.aV (.t 17) 1)),(cZ (.st (.t 18) (.c (.str [98])) 1))]) (.seq (.sem (erase AP)) (.seq (.rg [(aj 26 (.ld (.t 1) (some 6))),(aj 27 (.call (.c (.fn 11 [])) [(.t 26)])),(aA 25 27),(aj 28 (.ext (.t 25) 0)),(aj 29 (.ext (.t 25) 1)),(bk 4 28),(bk 5 29)]) (.seq (.sem (erase rH)) .ret)))))))
theorem EL:bw Tryz.prog 7 53 [(.tmp 0)] (erase EJ):=⟨Tryz.f7,_,rfl,by decide,rfl,by kernel_rfl,rfl,rfl⟩
abbrev wD:List Nat:=[0,1,2,3,4,5]
def kG (F:Nat) (r3:Int) (r2:ak) (r4:Int) (r5:Bool):Option (Bool):=
 (jj F (ak.mk (aJ.mk ([]:List UInt8) ([]:List UInt8)) 5 9 7 ([(bl.mk (aJ.mk ([97]:List UInt8) ([98]:List UInt8)) 1 0 12 0 ([]:List UInt8))]:List bl))).bind fun r8=>
 (if r8 then
  (if (decide (r3=0)) then
   (lf F r2 (ak.mk (aJ.mk ([]:List UInt8) ([]:List UInt8)) 5 9 7 ([(bl.mk (aJ.mk ([97]:List UInt8) ([98]:List UInt8)) 1 0 12 0 ([]:List UInt8))]:List bl))).bind fun r9=>
   (if r9 then
    (if (decide (r4=12)) then
     (if r5 then
      (oZ F (ak.mk (aJ.mk ([]:List UInt8) ([]:List UInt8)) 5 9 7 ([(bl.mk (aJ.mk ([97]:List UInt8) ([98]:List UInt8)) 1 0 12 0 ([]:List UInt8))]:List bl))).bind fun lG=>some (decide (lG=1))
     else
      some false)
    else
     some false)
   else
    some false)
  else
   some false)
 else
  some false)
def jD (F:Nat):Option (Bool):=
 (jk F (ak.mk (aJ.mk ([]:List UInt8) ([]:List UInt8)) 5 9 7 ([(bl.mk (aJ.mk ([97]:List UInt8) ([98]:List UInt8)) 1 0 12 0 ([]:List UInt8))]:List bl))).bind fun r1=>
 (gX F r1).bind fun (r2,r3)=>
 (tq F (ak.mk (aJ.mk ([]:List UInt8) ([]:List UInt8)) 5 9 7 ([(bl.mk (aJ.mk ([97]:List UInt8) ([98]:List UInt8)) 1 0 12 0 ([]:List UInt8))]:List bl))).bind fun (r4,r5)=>(kG F r3 r2 r4 r5).bind fun t12=>
 some t12
theorem ze {F:Nat} {r3:Int} {r2:ak} {r4:Int} {r5:Bool} {q6:Nat} {q7:Nat} {H0 H:AH} (hfr:Fr H0 H0.length [] H) (aq:H[q6]? =some [(.str ([]:List UInt8)),(.str ([]:List UInt8)),(.int .i64 5),(.int .i64 9),(.int .u32 7),(.sl .n 7 (ml aC ([(bl.mk (aJ.mk ([97]:List UInt8) ([98]:List UInt8)) 1 0 12 0 ([]:List UInt8))]:List bl)))]) (aR:H[q7]? =some [(.str r2.av.au),(.str r2.av.domain),(.int .i64 r2.born),(.int .i64 r2.size),(.int .u32 r2.sum),(.sl .n 7 (ml aC r2.az))]) (eS:H0.length≤q6) (hi1:H0.length≤q7) (hi2:q6≠q7) {K:Exit→Env→AH→Prop} {t11:Bool}
 (h:kG F r3 r2 r4 r5=some t11)
 (kn:∀H':AH,Fr H0 H0.length [] H'→H'[q6]? =some [(.str ([]:List UInt8)),(.str ([]:List UInt8)),(.int .i64 5),(.int .i64 9),(.int .u32 7),(.sl .n 7 (ml aC ([(bl.mk (aJ.mk ([97]:List UInt8) ([98]:List UInt8)) 1 0 12 0 ([]:List UInt8))]:List bl)))]→H'[q7]? =some [(.str r2.av.au),(.str r2.av.domain),(.int .i64 r2.born),(.int .i64 r2.size),(.int .u32 r2.sum),(.sl .n 7 (ml aC r2.az))]→K .normal [(0,(.bool t11))] H'):
 AX Tryz.prog wD 53 H0.length (erase rH) K [(0,(.bool false)),(1,(.ptr q6 0)),(2,(.ptr q7 0)),(3,(.int .i64 r3)),(4,(.int .i64 r4)),(5,(.bool r5))] H:=by
 refine dz fun K' hK=> ?_
 have hle:=hfr.le
 have cK:=aL aq
 have kR:=aL aR
 rw [kG.eq_1] at h
 refine aE (aB aq aR) ?_
 obtain ⟨r8,cw,h⟩:=ay h
 refine bg ax (nt cw) ?_
 refine aE (aB aq aR) ?_
 refine cr h (fun dB h=> ?_) fun dB h=> ?_
 · refine aE (aB dB (aB aq aR)) ?_
   refine cr h (fun dD h=> ?_) fun dD h=> ?_
   · refine aE (aB dD (aB aq aR)) ?_
     obtain ⟨r9,eE,h⟩:=ay h
     refine bg ax (oS eE) ?_
     refine aE (aB aq aR) ?_
     refine cr h (fun dh h=> ?_) fun dh h=> ?_
     · refine aE (aB dh (aB aq aR)) ?_
       refine cr h (fun cH h=> ?_) fun cH h=> ?_
       · refine aE (aB cH (aB aq aR)) ?_
         refine cr h (fun eA h=> ?_) fun eA h=> ?_
         · refine aE (aB eA (aB aq aR)) ?_
           obtain ⟨lG,di,h⟩:=ay h
           refine bg ax (AO di) ?_
           refine aE (aB aq aR) ?_
           obtain rfl:=aK h
           exact hK _ _ _ _ _ aZ ax (kn _ hfr (aq.trans rfl) (aR.trans rfl))
         · refine aE (aB eA (aB aq aR)) ?_
           obtain rfl:=aK h
           exact hK _ _ _ _ _ aZ ax (kn _ hfr (aq.trans rfl) (aR.trans rfl))
       · refine aE (aB cH (aB aq aR)) ?_
         obtain rfl:=aK h
         exact hK _ _ _ _ _ aZ ax (kn _ hfr (aq.trans rfl) (aR.trans rfl))
     · refine aE (aB dh (aB aq aR)) ?_
       obtain rfl:=aK h
       exact hK _ _ _ _ _ aZ ax (kn _ hfr (aq.trans rfl) (aR.trans rfl))
   · refine aE (aB dD (aB aq aR)) ?_
     obtain rfl:=aK h
     exact hK _ _ _ _ _ aZ ax (kn _ hfr (aq.trans rfl) (aR.trans rfl))
 · refine aE (aB dB (aB aq aR)) ?_
   obtain rfl:=aK h
   exact hK _ _ _ _ _ aZ ax (kn _ hfr (aq.trans rfl) (aR.trans rfl))
theorem uP {F:Nat} {H0:AH} {aM:Bool} (h:jD F=some aM):
 aG Tryz.prog 7 [] H0 fun v H'=>v=(.bool aM)∧H'=H0:=by
 refine ef EL wD [] fun hcl K0 aP H hH hfr=> ?_
 clear hH
 have hle:=hfr.le
 rw [jD.eq_1] at h
 have hy1:∀(L:List Nat) (e:Env) (ah:AH) (d:Option Nat),sS L e ah d 7 (.cF H.length 7 0 1) (.int .i64 0)=some (aI L e d (.ptr H.length 0),ah):=fun _ _ _ _=>Vy (j:=0) rfl
 have bf:∀(L:List Nat) (e:Env) (ah:AH) (d:Option Nat),sS L e ah d 7 (.cF H.length 7 0 1) (.int .i64 0)=some (aI L e d (.ptr H.length 0),ah):=fun _ _ _ _=>Vy (j:=0) rfl
 refine aE (aB hy1 bf) ?_
 refine NR ?_
 apply AX.Ab (s:=H.length) (s2:=(H.length+1)) (cs:=[(.str ([97]:List UInt8)),(.str ([98]:List UInt8)),(.int .i64 1),(.int .i64 0),(.int .i64 12),(.int .i64 0),(.str ([]:List UInt8))]) (zs:=[(.str ([]:List UInt8)),(.str ([]:List UInt8)),(.int .i64 5),(.int .i64 9),(.int .u32 7),(.cF H.length 7 0 1)]) (zs':=[(.str ([]:List UInt8)),(.str ([]:List UInt8)),(.int .i64 5),(.int .i64 9),(.int .u32 7),(.sl .n 7 (ml aC ([(bl.mk (aJ.mk ([97]:List UInt8) ([98]:List UInt8)) 1 0 12 0 ([]:List UInt8))]:List bl)))]) (by exact bL) (cv.same (cv.same (cv.same (cv.same (cv.same (cv.same (cv.same (cv.nil)))))))) (by simp) (by exact (aX (aX bL))) (by omega) (u7.cons _ _ _ _ (Fc.same _) (u7.cons _ _ _ _ (Fc.same _) (u7.cons _ _ _ _ (Fc.same _) (u7.cons _ _ _ _ (Fc.same _) (u7.cons _ _ _ _ (Fc.same _) (u7.cons _ _ _ _ (Fc.cF 7 1 (ml aC ([(bl.mk (aJ.mk ([97]:List UInt8) ([98]:List UInt8)) 1 0 12 0 ([]:List UInt8))]:List bl)) rfl (fun i x hi=>((EK.ml (f:=aC) (fun _=>⟨rfl,rfl,rfl,rfl⟩) _) i x hi).1) rfl rfl rfl) (u7.nil)))))))
 · repeat (first|exact FZ.nil|apply FZ.ep|apply FZ.same)
 refine dz fun Kq3 adY=> ?_
 refine bV ?_
 obtain ⟨r1,bz,h⟩:=ay h
 refine bg ax (qb bz) ?_
 refine bV ?_
 obtain ⟨⟨r2,r3⟩,bu,h⟩:=ay h
 dsimp only at h
 refine bg ax (qf bu) ?_
 refine bV ?_
 refine adY _ _ _ [(0,(.bool false)),(1,(.ptr (H.length+1) 0)),(2,(.ptr (H.length+2) 0)),(3,(.int .i64 r3))] _ aZ ax ?_
 show GZ _
 refine bV ?_
 obtain ⟨⟨r4,r5⟩,bW,h⟩:=ay h
 dsimp only at h
 refine bg ax (Cw bW) ?_
 refine bV ?_
 obtain ⟨q6,EI⟩:∃q:Nat,(H.length+1)=q:=⟨_,rfl⟩
 try rw [EI]
 obtain ⟨q7,abG⟩:∃q:Nat,(H.length+2)=q:=⟨_,rfl⟩
 try rw [abG]
 try rw [show q6+1=q7 from by omega]
 obtain ⟨t12,gj,h⟩:=ay h
 refine cg ax (ze (q6:=q6) (q7:=q7) (bn _ (Fr.app (bn _ (bn _ (bn _ (bn _ (bn _ (Fr.app (Fr.app hfr))))))))) (aX (ez bL)) bL br br br gj ?_)
 intro H hfr aq aR
 have hle:=hfr.le
 have cK:=aL aq
 have kR:=aL aR
 refine aE (aB aq aR) ?_
 obtain rfl:=aK h
 exact aP _ _ _ bG (bp hfr hcl (bD bx (.bool t12)) bB bt ⟨rfl,rfl⟩)
abbrev uQ:aD:=(.rg [(aj 3 (.aV (.t 1) 0)),(aj 4 (.ld (.t 3) none)),(aj 5 (.lens (.t 4))),(aj 6 (.bin .leq (.t 5) (.c (.int .i64 400)))),(aA 7 6),(aF 8 (.aV (.t 1) 1) 7 true),(aF 9 (.ld (.t 8) none) 7 true),(aF 10 (.lens (.t 9)) 7 true),(aF 11 (.bin .leq (.t 10) (.c (.int .i64 600))) 7 true),(aj 12 (.pick (.t 7) (.t 11) (.c (.bool false)))),(bk 2 12)])
abbrev IK:aD:=(.seq (.rg [(aj 1 (.box (.t 0))),(aj 2 (.aY (.c (.bool false))))]) (.seq (.sem (erase uQ)) .ret))
theorem IL:bw Tryz.prog 22 13 [(.tmp 2)] (erase IK):=⟨Tryz.f22,_,rfl,by decide,rfl,by kernel_rfl,rfl,rfl⟩
abbrev AQ:List Nat:=[0,1,2]
def kS (a1:aJ):Option (Bool):=
 some ((decide ((a1.au.length:Int)≤400))&&(decide ((a1.domain.length:Int)≤600)))
theorem B3 {q2:Nat} {a1:aJ} {H0 H:AH} (hfr:Fr H0 H0.length [] H) (ai:H[q2]? =some [(.str a1.au),(.str a1.domain)]) (eS:H0.length≤q2) {K:Exit→Env→AH→Prop}
 (kn:∀H':AH,Fr H0 H0.length [] H'→H'[q2]? =some [(.str a1.au),(.str a1.domain)]→K .normal [(2,(.bool ((decide ((a1.au.length:Int)≤400))&&(decide ((a1.domain.length:Int)≤600)))))] H'):
 AX Tryz.prog AQ 13 H0.length (erase uQ) K [(1,(.ptr q2 0)),(2,(.bool false))] H:=by
 refine dz fun K' hK=> ?_
 have hle:=hfr.le
 have aU:=aL ai
 refine aE ai ?_
 refine jZ (fun hy1=> ?_) fun hy1=> ?_
 · refine aE (aB hy1 ai) ?_
   exact hK _ _ _ _ _ (dy hy1) ax (kn _ hfr (ai.trans rfl))
 · refine aE (aB hy1 ai) ?_
   exact hK _ _ _ _ _ (dy hy1) ax (kn _ hfr (ai.trans rfl))
theorem yc {a1:aJ} {H0:AH} {aM:Bool} (h:kS a1=some aM):
 aG Tryz.prog 22 [(.agg [(.str a1.au),(.str a1.domain)])] H0 fun v H'=>v=(.bool aM)∧H'=H0:=by
 refine ef IL AQ [] fun hcl K0 aP H hH hfr=> ?_
 clear hH
 have hle:=hfr.le
 rw [kS.eq_1] at h
 refine bV ?_
 obtain ⟨q2,eF⟩:∃q:Nat,H.length=q:=⟨_,rfl⟩
 try rw [eF]
 refine cg ax (B3 (q2:=q2) (a1:=a1) (Fr.app hfr) jY br ?_)
 intro H hfr ai
 have hle:=hfr.le
 have aU:=aL ai
 refine aE ai ?_
 obtain rfl:=aK h
 exact aP _ _ _ bG (bp hfr hcl (bD bx (.bool ((decide ((a1.au.length:Int)≤400))&&(decide ((a1.domain.length:Int)≤600))))) bB bt ⟨rfl,rfl⟩)
abbrev uR:aD:=(.rg [(aj 4 (.aV (.t 1) 5)),(aj 5 (.ld (.t 4) none)),(aj 6 (.len (.t 5))),(aj 7 (.bin .gtr (.t 6) (.c (.int .i64 120)))),(aA 8 7),(aF 9 (.aV (.t 1) 0) 8 false),(aF 10 (.ld (.t 9) (some 2)) 8 false),(aF 11 (.call (.c (.fn 22 [])) [(.t 10)]) 8 false),(aF 12 (.un .not (.t 11)) 8 false),(aj 13 (.pick (.t 8) (.c (.bool true)) (.t 12)))])
abbrev uS:aD:=(.rg [(aj 21 (.aV (.t 1) 5)),(aj 22 (.ld (.t 21) none)),(aA 23 3),(aj 24 (.lC 7 (.t 22) (.t 23))),(aj 25 (.aV (.t 24) 0)),(aj 26 (.ld (.t 25) (some 2))),(aj 27 (.call (.c (.fn 22 [])) [(.t 26)])),(aj 28 (.un .not (.t 27))),(aA 29 28),(aF 30 (.aV (.t 1) 5) 29 false),(aF 31 (.ld (.t 30) none) 29 false),(aF 32 (.mv (.t 3)) 29 false),(aF 33 (.lC 7 (.t 31) (.t 32)) 29 false),(aF 34 (.aV (.t 33) 6) 29 false),(aF 35 (.ld (.t 34) none) 29 false),(aF 36 (.lens (.t 35)) 29 false),(aF 37 (.bin .gtr (.t 36) (.c (.int .i64 300))) 29 false),(aj 38 (.pick (.t 29) (.c (.bool true)) (.t 37)))])
abbrev tu:aD:=(.seq (.seq (.rg [(aA 14 3),(aj 15 (.aV (.t 1) 5)),(aj 16 (.ld (.t 15) none)),(aj 17 (.len (.t 16))),(aj 18 (.bin .lss (.t 14) (.t 17)))]) (.cond (.t 18) .skip (.exit 0))) (.seq (.blk 1 (.seq (.sem (erase uS)) (.cond (.t 38) (.seq (.rg [(aj 2 (.aY (.c (.bool false))))]) .ret) .skip))) (.rg [(aA 19 3),(aj 20 (.bin .add (.t 19) (.c (.int .i64 1)))),(bk 3 20)])))
abbrev IM:aD:=(.seq (.rg [(aj 1 (.box (.t 0))),(aj 2 (.aY (.c (.bool false))))]) (.seq (.seq (.sem (erase uR)) (.cond (.t 13) (.seq (.rg [(aj 2 (.aY (.c (.bool false))))]) .ret) .skip)) (.seq (.seq (.rg [(aj 3 (.aY (.c (.int .i64 0))))]) (.blk 0 (.loop (erase tu)))) (.seq (.rg [(aj 2 (.aY (.c (.bool true))))]) .ret))))
theorem IP:bw Tryz.prog 8 39 [(.tmp 2)] (erase IM):=⟨Tryz.f8,_,rfl,by decide,rfl,by kernel_rfl,rfl,rfl⟩
abbrev oT:List Nat:=[0,1,2,3,13,18,38]
def nv (e1:ak):Option (Bool):=
 (if (decide (120<(e1.az.length:Int))) then
  some true
 else
  (kS e1.av).bind fun r3=>some (!r3))
def ku (e1:ak) (i7:Int):Option (Bool):=
 (idx e1.az i7).bind fun x9=>
 (kS x9.ct).bind fun lG=>
 (if (!lG) then
  some true
 else
  some (decide (300<(x9.why.length:Int))))
def gA (e1:ak):Int→Option (St Bool Unit Int)
 |i7=>
  (if (decide (i7<(e1.az.length:Int))) then
   (ku e1 i7).bind fun t12=>
   (if t12 then
    some (.ret false)
   else
    some (.cT (IntKind.wrap .i64 (i7+1))))
  else
   some (.fI ()))
def kT (F:Nat) (e1:ak):Option (Bool):=
 (nv e1).bind fun t5=>
 (if t5 then
  some false
 else
  ((iter (gA e1) F 0).bind fun o15=>
  match o15 with
  | .inr ()=>
    some true
  | .inl kz=>
    some kz))
theorem B4 {e1:ak} {q2:Nat} {H0 H:AH} (hfr:Fr H0 H0.length [] H) (ai:H[q2]? =some [(.str e1.av.au),(.str e1.av.domain),(.int .i64 e1.born),(.int .i64 e1.size),(.int .u32 e1.sum),(.sl .n 7 (ml aC e1.az))]) (eS:H0.length≤q2) {K:Exit→Env→AH→Prop} {t4:Bool}
 (h:nv e1=some t4)
 (kn:∀H':AH,Fr H0 H0.length [] H'→H'[q2]? =some [(.str e1.av.au),(.str e1.av.domain),(.int .i64 e1.born),(.int .i64 e1.size),(.int .u32 e1.sum),(.sl .n 7 (ml aC e1.az))]→K .normal [(1,(.ptr q2 0)),(13,(.bool t4))] H'):
 AX Tryz.prog oT 39 H0.length (erase uR) K [(1,(.ptr q2 0))] H:=by
 refine dz fun K' hK=> ?_
 have hle:=hfr.le
 have aU:=aL ai
 rw [nv.eq_1] at h
 refine aE ai ?_
 refine cr h (fun hy1 h=> ?_) fun hy1 h=> ?_
 · refine aE (aB hy1 ai) ?_
   obtain rfl:=aK h
   exact hK _ _ _ _ _ aZ ax (kn _ hfr (ai.trans rfl))
 · refine aE (aB hy1 ai) ?_
   obtain ⟨r3,bf,h⟩:=ay h
   refine bg ax (yc bf) ?_
   refine aE ai ?_
   obtain rfl:=aK h
   exact hK _ _ _ _ _ aZ ax (kn _ hfr (ai.trans rfl))
theorem B5 {e1:ak} {i7:Int} {q8:Nat} {H0 H:AH} (hfr:Fr H0 H0.length [] H) (ai:H[q8]? =some [(.str e1.av.au),(.str e1.av.domain),(.int .i64 e1.born),(.int .i64 e1.size),(.int .u32 e1.sum),(.sl .n 7 (ml aC e1.az))]) (eS:H0.length≤q8) {K:Exit→Env→AH→Prop} {t11:Bool}
 (h:ku e1 i7=some t11)
 (kn:∀H':AH,Fr H0 H0.length [] H'→H'[q8]? =some [(.str e1.av.au),(.str e1.av.domain),(.int .i64 e1.born),(.int .i64 e1.size),(.int .u32 e1.sum),(.sl .n 7 (ml aC e1.az))]→K .normal [(1,(.ptr q8 0)),(3,(.int .i64 i7)),(38,(.bool t11))] H'):
 AX Tryz.prog oT 39 H0.length (erase uS) K [(1,(.ptr q8 0)),(3,(.int .i64 i7))] H:=by
 refine dz fun K' hK=> ?_
 have hle:=hfr.le
 have aU:=aL ai
 rw [ku.eq_1] at h
 obtain ⟨x9,cw,h⟩:=ay h
 refine aE (aB cw ai) ?_
 obtain ⟨lG,dB,h⟩:=ay h
 refine bg ax (yc dB) ?_
 refine aE ai ?_
 refine cr h (fun dD h=> ?_) fun dD h=> ?_
 · refine aE (aB dD ai) ?_
   obtain rfl:=aK h
   exact hK _ _ _ _ _ aZ ax (kn _ hfr (ai.trans rfl))
 · refine aE (aB dD (aB cw ai)) ?_
   obtain rfl:=aK h
   exact hK _ _ _ _ _ aZ ax (kn _ hfr (ai.trans rfl))
theorem B6 {F:Nat} {i7:Int} {e1:ak} {q6:Nat} {H0 H:AH} (hfr:Fr H0 H0.length [] H) (ai:H[q6]? =some [(.str e1.av.au),(.str e1.av.domain),(.int .i64 e1.born),(.int .i64 e1.size),(.int .u32 e1.sum),(.sl .n 7 (ml aC e1.az))]) (eS:H0.length≤q6) {K:Exit→Env→AH→Prop} {o:(Bool)⊕(Unit)}
 (h:iter (gA e1) F i7=some o)
 (dj:∀o':Unit,o= .inr o'→∀H':AH,Fr H0 H0.length [] H'→H'[q6]? =some [(.str e1.av.au),(.str e1.av.domain),(.int .i64 e1.born),(.int .i64 e1.size),(.int .u32 e1.sum),(.sl .n 7 (ml aC e1.az))]→K (.exit 0) [] H')
 (kr:∀o':Bool,o= .inl o'→∀H':AH,Fr H0 H0.length [] H'→K .ret [(2,(.bool o'))] H'):
 AX Tryz.prog oT 39 H0.length (.loop (erase tu)) K [(1,(.ptr q6 0)),(3,(.int .i64 i7))] H:=by
 refine iZ (fun s e H1=>match s with|i7=>e=[(1,(.ptr q6 0)),(3,(.int .i64 i7))]∧Fr H0 H0.length [] H1∧H1[q6]? =some [(.str e1.av.au),(.str e1.av.domain),(.int .i64 e1.born),(.int .i64 e1.size),(.int .u32 e1.sum),(.sl .n 7 (ml aC e1.az))]) h ⟨rfl,hfr,ai⟩ ?_
 rintro K' i7 st e H ⟨rfl,hfr,ai⟩ h hN hB hR hX
 have hle:=hfr.le
 have aU:=aL ai
 rw [gA.eq_1] at h
 refine aE ai ?_
 refine b7 h (fun bW h=> ?_) fun bW h=> ?_
 · refine aE ai ?_
   obtain ⟨t12,eE,h⟩:=ay h
   refine cg ax (B5 (q8:=q6) hfr (ai.trans rfl) br eE ?_)
   intro H hfr ai
   have hle:=hfr.le
   have aU:=aL ai
   refine aE ai ?_
   refine b7 h (fun dh h=> ?_) fun dh h=> ?_
   · refine aE ai ?_
     obtain rfl:=aK h
     exact hX _ _ _ _ _ eK aZ ax (kr _ (hR _ rfl) _ hfr)
   · refine aE ai ?_
     obtain rfl:=aK h
     exact hN _ rfl _ _ _ _ aZ ax ⟨rfl,hfr,(ai.trans rfl)⟩
 · refine aE ai ?_
   obtain rfl:=aK h
   exact hX _ _ _ _ _ eK WE.nil ax (dj _ (hB _ rfl) _ hfr (ai.trans rfl))
theorem sG {F:Nat} {e1:ak} {H0:AH} {aM:Bool} (h:kT F e1=some aM):
 aG Tryz.prog 8 [(.agg [(.str e1.av.au),(.str e1.av.domain),(.int .i64 e1.born),(.int .i64 e1.size),(.int .u32 e1.sum),(.sl .n 7 (ml aC e1.az))])] H0 fun v H'=>v=(.bool aM)∧H'=H0:=by
 refine ef IP oT [] fun hcl K0 aP H hH hfr=> ?_
 clear hH
 have hle:=hfr.le
 rw [kT.eq_1] at h
 refine bV ?_
 obtain ⟨q2,eF⟩:∃q:Nat,H.length=q:=⟨_,rfl⟩
 try rw [eF]
 obtain ⟨t5,bz,h⟩:=ay h
 refine cg ax (B4 (q2:=q2) (Fr.app hfr) jY br bz ?_)
 intro H hfr ai
 have hle:=hfr.le
 have aU:=aL ai
 refine aE ai ?_
 refine b7 h (fun bu h=> ?_) fun bu h=> ?_
 · refine aE ai ?_
   obtain rfl:=aK h
   exact aP _ _ _ bG (bp hfr hcl (bD bx (.bool false)) bB bt ⟨rfl,rfl⟩)
 · refine aE ai ?_
   obtain ⟨o15,cH,h⟩:=ay h
   refine cg ax (B6 (q6:=q2) hfr (ai.trans rfl) br cH ?_ ?_)
   · rintro ⟨⟩ rfl H hfr ai
     try dsimp only at h ai
     have hle:=hfr.le
     have aU:=aL ai
     refine aE ai ?_
     obtain rfl:=aK h
     exact aP _ _ _ bG (bp hfr hcl (bD bx (.bool true)) bB bt ⟨rfl,rfl⟩)
   · rintro kz rfl H hfr
     try dsimp only at h
     have hle:=hfr.le
     refine bV ?_
     obtain rfl:=aK h
     exact aP _ _ _ bG (bp hfr hcl (bD bx (.bool kz)) bB bt ⟨rfl,rfl⟩)
abbrev uT:aD:=(.seq (.seq (.rg [(aA 14 4),(aj 15 (.aV (.t 1) 5)),(aj 16 (.ld (.t 15) none)),(aj 17 (.len (.t 16))),(aj 18 (.bin .lss (.t 14) (.t 17)))]) (.cond (.t 18) .skip (.exit 0))) (.seq (.blk 1 (.rg [(aj 21 (.aV (.t 3) 5)),(aj 22 (.ld (.t 21) none)),(aj 23 (.aV (.t 1) 5)),(aj 24 (.ld (.t 23) none)),(aA 25 4),(aj 26 (.lC 7 (.t 24) (.t 25))),(aj 27 (.ld (.t 26) (some 7))),(aj 28 (.jQ 7 [(.t 27)])),(aj 29 (.app 7 80 (.t 22) (.t 28))),(aj 30 (.aV (.t 3) 5)),(cZ (.st (.t 30) (.t 29) 1))])) (.rg [(aA 19 4),(aj 20 (.bin .add (.t 19) (.c (.int .i64 1)))),(bk 4 20)])))
abbrev KW:aD:=(.seq (.rg [(aj 1 (.box (.t 0))),(aj 2 (.alloc [(.str []),(.str []),(.int .i64 0),(.int .i64 0),(.int .u32 0),(.sl .ex 7 [])]))]) (.seq (.rg [(aj 5 (.aV (.t 1) 0)),(aj 6 (.ld (.t 5) (some 2))),(aj 7 (.aV (.t 1) 2)),(aj 8 (.ld (.t 7) none)),(aj 9 (.aV (.t 1) 3)),(aj 10 (.ld (.t 9) none)),(aj 11 (.aV (.t 1) 4)),(aj 12 (.ld (.t 11) none)),(aj 13 (.build [(.str []),(.str []),(.int .i64 0),(.int .i64 0),(.int .u32 0),(.sl .ex 7 [])] [(0,(2,(.t 6))),(2,(1,(.t 8))),(3,(1,(.t 10))),(4,(1,(.t 12)))])),(aj 3 (.alloc [(.str []),(.str []),(.int .i64 0),(.int .i64 0),(.int .u32 0),(.sl .ex 7 [])])),(cZ (.st (.t 3) (.t 13) 6))]) (.seq (.seq (.rg [(aj 4 (.aY (.c (.int .i64 0))))]) (.blk 0 (.loop (erase uT)))) (.seq (.rg [(aj 31 (.ld (.t 3) (some 6))),(cZ (.st (.t 2) (.t 31) 6))]) .ret))))
theorem KX:bw Tryz.prog 9 32 [(.cell 2 32)] (erase KW):=⟨Tryz.f9,_,rfl,by decide,rfl,by kernel_rfl,rfl,rfl⟩
abbrev CA:List Nat:=[0,1,2,3,4,18]
def jE (e1:ak):(Int×ak)→Option (St ak ak (Int×ak))
 |(i5,s6)=>
  (if (decide (i5<(e1.az.length:Int))) then
   (idx e1.az i5).bind fun x7=>
   (cC 80 s6.az ([x7]:List bl)).bind fun x8=>
   some (.cT ((IntKind.wrap .i64 (i5+1)),(ak.mk s6.av s6.born s6.size s6.sum x8)))
  else
   some (.fI s6))
def lg (F:Nat) (e1:ak):Option (ak):=
 ((iter (jE e1) F (0,(ak.mk e1.av e1.born e1.size e1.sum ([]:List bl)))).bind fun KR=>
 match KR with
 | .inr wE=>
   some wE
 | .inl _=>none)
theorem C9 {F:Nat} {i5:Int} {e1:ak} {s6:ak} {q2:Nat} {q3:Nat} {q4:Nat} {H0 H:AH} (hfr:Fr H0 H0.length [] H) (ai:H[q2]? =some [(.str e1.av.au),(.str e1.av.domain),(.int .i64 e1.born),(.int .i64 e1.size),(.int .u32 e1.sum),(.sl .n 7 (ml aC e1.az))]) (aq:H[q3]? =some [(.str ([]:List UInt8)),(.str ([]:List UInt8)),(.int .i64 0),(.int .i64 0),(.int .u32 0),(.sl .own 7 [])]) (aR:H[q4]? =some [(.str s6.av.au),(.str s6.av.domain),(.int .i64 s6.born),(.int .i64 s6.size),(.int .u32 s6.sum),(.sl .own 7 (ml aC s6.az))]) (eS:H0.length≤q2) (hi1:H0.length≤q3) (hi2:q2≠q3) (vf:H0.length≤q4) (hi4:q2≠q4) (NX:q3≠q4) {K:Exit→Env→AH→Prop} {o:(ak)⊕(ak)}
 (h:iter (jE e1) F (i5,s6)=some o)
 (dj:∀o':ak,o= .inr o'→∀H':AH,Fr H0 H0.length [] H'→H'[q2]? =some [(.str e1.av.au),(.str e1.av.domain),(.int .i64 e1.born),(.int .i64 e1.size),(.int .u32 e1.sum),(.sl .n 7 (ml aC e1.az))]→H'[q3]? =some [(.str ([]:List UInt8)),(.str ([]:List UInt8)),(.int .i64 0),(.int .i64 0),(.int .u32 0),(.sl .own 7 [])]→H'[q4]? =some [(.str o'.av.au),(.str o'.av.domain),(.int .i64 o'.born),(.int .i64 o'.size),(.int .u32 o'.sum),(.sl .own 7 (ml aC o'.az))]→K (.exit 0) [(2,(.ptr q3 0)),(3,(.ptr q4 0))] H'):
 AX Tryz.prog CA 32 H0.length (.loop (erase uT)) K [(1,(.ptr q2 0)),(2,(.ptr q3 0)),(3,(.ptr q4 0)),(4,(.int .i64 i5))] H:=by
 refine iZ (fun s e H1=>match s with|(i5,s6)=>e=[(1,(.ptr q2 0)),(2,(.ptr q3 0)),(3,(.ptr q4 0)),(4,(.int .i64 i5))]∧Fr H0 H0.length [] H1∧H1[q2]? =some [(.str e1.av.au),(.str e1.av.domain),(.int .i64 e1.born),(.int .i64 e1.size),(.int .u32 e1.sum),(.sl .n 7 (ml aC e1.az))]∧H1[q3]? =some [(.str ([]:List UInt8)),(.str ([]:List UInt8)),(.int .i64 0),(.int .i64 0),(.int .u32 0),(.sl .own 7 [])]∧H1[q4]? =some [(.str s6.av.au),(.str s6.av.domain),(.int .i64 s6.born),(.int .i64 s6.size),(.int .u32 s6.sum),(.sl .own 7 (ml aC s6.az))]) h ⟨rfl,hfr,ai,aq,aR⟩ ?_
 rintro K' ⟨i5,s6⟩ st e H ⟨rfl,hfr,ai,aq,aR⟩ h hN hB hR hX
 have hle:=hfr.le
 have aU:=aL ai
 have cK:=aL aq
 have kR:=aL aR
 rw [jE.eq_1] at h
 refine aE (aB ai (aB aq aR)) ?_
 refine b7 h (fun hy1 h=> ?_) fun hy1 h=> ?_
 · obtain ⟨x7,bf,h⟩:=ay h
   obtain ⟨x8,bz,h⟩:=ay h
   have bu:cC 80 (ml aC s6.az) [(.agg [(.str x7.ct.au),(.str x7.ct.domain),(.int .i64 x7.state),(.int .i64 x7.tries),(.int .i64 x7.next),(.int .i64 x7.code),(.str x7.why)])]=some (ml aC x8):=eo (f:=aC) bz
   refine aE (aB bf (aB bu (aB ai (aB aq aR)))) ?_
   obtain rfl:=aK h
   exact hN _ rfl _ _ _ _ aZ ax ⟨rfl,(bn _ (bn _ hfr)),(aX (aX (ai.trans rfl))),(aX (aX (aq.trans rfl))),bL⟩
 · refine aE (aB ai (aB aq aR)) ?_
   obtain rfl:=aK h
   exact hX _ _ _ _ _ eK aZ ax (dj _ (hB _ rfl) _ hfr (ai.trans rfl) (aq.trans rfl) (aR.trans rfl))
theorem oU {F:Nat} {e1:ak} {H0:AH} {aM:ak} (h:lg F e1=some aM):
 aG Tryz.prog 9 [(.agg [(.str e1.av.au),(.str e1.av.domain),(.int .i64 e1.born),(.int .i64 e1.size),(.int .u32 e1.sum),(.sl .n 7 (ml aC e1.az))])] H0 fun v H'=>v=(.agg [(.str aM.av.au),(.str aM.av.domain),(.int .i64 aM.born),(.int .i64 aM.size),(.int .u32 aM.sum),(.sl .n 7 (ml aC aM.az))])∧H'=H0:=by
 refine ef KX CA [] fun hcl K0 aP H hH hfr=> ?_
 clear hH
 have hle:=hfr.le
 rw [lg.eq_1] at h
 refine bV ?_
 obtain ⟨q3,yB⟩:∃q:Nat,(H.length+1)=q:=⟨_,rfl⟩
 try rw [yB]
 obtain ⟨q4,yN⟩:∃q:Nat,(H.length+2)=q:=⟨_,rfl⟩
 try rw [yN]
 obtain ⟨q2,eF⟩:∃q:Nat,H.length=q:=⟨_,rfl⟩
 try rw [eF]
 try rw [show q2+1=q3 from by omega]
 try rw [show q3+1=q4 from by omega]
 obtain ⟨KR,bW,h⟩:=ay h
 refine cg (eR.Pb (q:=q4) (cs':=[(.str e1.av.au),(.str e1.av.domain),(.int .i64 e1.born),(.int .i64 e1.size),(.int .u32 e1.sum),(.sl .own 7 [])]) (eR.set (q:=q3) (cs':=[(.str ([]:List UInt8)),(.str ([]:List UInt8)),(.int .i64 0),(.int .i64 0),(.int .u32 0),(.sl .own 7 [])]) (aX (ez jY)) gE) bL gE) (C9 (q2:=q2) (q3:=q3) (q4:=q4) (bn _ (bn _ (bn _ (Fr.app (Fr.app (Fr.app hfr)))))) (aX (aX (aX (ez (ez jY))))) (aX bL) bL br br br br br br bW ?_)
 · rintro wE rfl H hfr ai aq aR
   try dsimp only at h ai aq aR
   have hle:=hfr.le
   have aU:=aL ai
   have cK:=aL aq
   have kR:=aL aR
   refine aE (aB ai (aB aq aR)) ?_
   obtain rfl:=aK h
   exact aP _ _ _ bG (bp (bn _ hfr) hcl (gw (cs:=[(.str wE.av.au),(.str wE.av.domain),(.int .i64 wE.born),(.int .i64 wE.size),(.int .u32 wE.sum),(.sl .n 7 (ml aC wE.az))]) (v:=(.agg [(.str wE.av.au),(.str wE.av.domain),(.int .i64 wE.born),(.int .i64 wE.size),(.int .u32 wE.sum),(.sl .n 7 (ml aC wE.az))])) (by kernel_rfl) (n:=(some 6)) (by kernel_rfl) rfl bL (by simp [jc,jb,lF,bZ,AV.flat,ng,oa,AV.bS,Tg.sh]) bx) bB bt ⟨rfl,rfl⟩)
abbrev rI:aD:=(.rg [(aA 4 0),(aj 5 (.bin .eql (.t 4) (.c (.str [])))),(aA 6 5),(aF 7 (.mv (.t 0)) 6 false),(aF 8 (.lens (.t 7)) 6 false),(aF 9 (.bin .gtr (.t 8) (.c (.int .i64 64))) 6 false),(aj 10 (.pick (.t 6) (.c (.bool true)) (.t 9)))])
abbrev rJ:aD:=(.rg [(aA 17 0),(aA 18 3),(aj 19 (.ixs (.t 17) (.t 18))),(aj 20 (.bin .lss (.t 19) (.c (b8 32)))),(aA 21 20),(aF 22 (.mv (.t 0)) 21 false),(aF 23 (.mv (.t 3)) 21 false),(aF 24 (.ixs (.t 22) (.t 23)) 21 false),(aF 25 (.bin .gtr (.t 24) (.c (b8 126))) 21 false),(aj 26 (.pick (.t 21) (.c (.bool true)) (.t 25)))])
abbrev qh:aD:=(.seq (.seq (.rg [(aA 11 3),(aA 12 0),(aj 13 (.lens (.t 12))),(aj 14 (.bin .lss (.t 11) (.t 13)))]) (.cond (.t 14) .skip (.exit 0))) (.seq (.blk 1 (.seq (.sem (erase rJ)) (.cond (.t 26) (.seq (.rg [(aj 2 (.aY (.c (.bool false))))]) .ret) .skip))) (.rg [(aA 15 3),(aj 16 (.bin .add (.t 15) (.c (.int .i64 1)))),(bk 3 16)])))
abbrev EM:aD:=(.seq (.rg [(aj 2 (.aY (.c (.bool false))))]) (.seq (.seq (.sem (erase rI)) (.cond (.t 10) (.seq (.rg [(aj 2 (.aY (.c (.bool false))))]) .ret) .skip)) (.seq (.seq (.rg [(aj 3 (.aY (.c (.int .i64 0))))]) (.blk 0 (.loop (erase qh)))) (.seq (.rg [(aj 2 (.aY (.c (.bool true))))]) .ret))))
theorem EN:bw Tryz.prog 67 27 [(.tmp 2)] (erase EM):=⟨Tryz.f67,_,rfl,by decide,rfl,by kernel_rfl,rfl,rfl⟩
abbrev mb:List Nat:=[0,2,3,10,14,26]
def iC (s1:List UInt8) (i2:Int):Option (Bool):=
 (idx s1 i2).bind fun x3=>
 (if (decide (x3<32)) then
  some true
 else
  some (decide (126<x3)))
def e9 (s1:List UInt8):Int→Option (St Bool Unit Int)
 |i2=>
  (if (decide (i2<(s1.length:Int))) then
   (iC s1 i2).bind fun t5=>
   (if t5 then
    some (.ret false)
   else
    some (.cT (IntKind.wrap .i64 (i2+1))))
  else
   some (.fI ()))
def mc (F:Nat) (s1:List UInt8):Option (Bool):=
 (if ((decide (s1=([]:List UInt8)))||(decide (64<(s1.length:Int)))) then
  some false
 else
  ((iter (e9 s1) F 0).bind fun o8=>
  match o8 with
  | .inr ()=>
    some true
  | .inl r7=>
    some r7))
theorem zf {s1:List UInt8} {H:AH} {K:Exit→Env→AH→Prop}
 (kn:K .normal [(0,(.str s1)),(10,(.bool ((decide (s1=([]:List UInt8)))||(decide (64<(s1.length:Int))))))] H):
 AX Tryz.prog mb 27 H.length (erase rI) K [(0,(.str s1))] H:=by
 refine dz fun K' hK=> ?_
 refine aS ?_
 refine jZ (fun hy1=> ?_) fun hy1=> ?_
 · refine bO hy1 ?_
   exact hK _ _ _ _ _ (dy hy1) ax kn
 · refine bO hy1 ?_
   exact hK _ _ _ _ _ (dy hy1) ax kn
theorem zg {s1:List UInt8} {i2:Int} {H:AH} {K:Exit→Env→AH→Prop} {t4:Bool}
 (h:iC s1 i2=some t4)
 (kn:K .normal [(0,(.str s1)),(3,(.int .i64 i2)),(26,(.bool t4))] H):
 AX Tryz.prog mb 27 H.length (erase rJ) K [(0,(.str s1)),(3,(.int .i64 i2))] H:=by
 refine dz fun K' hK=> ?_
 rw [iC.eq_1] at h
 obtain ⟨x3,bu,h⟩:=ay h
 refine bO bu ?_
 refine cr h (fun bW h=> ?_) fun bW h=> ?_
 · refine bO bW ?_
   obtain rfl:=aK h
   exact hK _ _ _ _ _ aZ ax kn
 · refine bO (aB bW bu) ?_
   obtain rfl:=aK h
   exact hK _ _ _ _ _ aZ ax kn
theorem zh {F:Nat} {i2:Int} {s1:List UInt8} {H:AH} {K:Exit→Env→AH→Prop} {o:(Bool)⊕(Unit)}
 (h:iter (e9 s1) F i2=some o)
 (dj:∀o':Unit,o= .inr o'→K (.exit 0) [] H)
 (kr:∀o':Bool,o= .inl o'→K .ret [(2,(.bool o'))] H):
 AX Tryz.prog mb 27 H.length (.loop (erase qh)) K [(0,(.str s1)),(3,(.int .i64 i2))] H:=by
 refine iZ (fun s e H1=>match s with|i2=>e=[(0,(.str s1)),(3,(.int .i64 i2))]∧H1=H) h ⟨rfl,rfl⟩ ?_
 rintro K' i2 st e H ⟨rfl,rfl⟩ h hN hB hR hX
 rw [e9.eq_1] at h
 refine aS ?_
 refine b7 h (fun bz h=> ?_) fun bz h=> ?_
 · refine aS ?_
   obtain ⟨t5,cw,h⟩:=ay h
   refine cg ax (zg cw ?_)
   refine aS ?_
   refine b7 h (fun dB h=> ?_) fun dB h=> ?_
   · refine aS ?_
     obtain rfl:=aK h
     exact hX _ _ _ _ _ eK aZ ax (kr _ (hR _ rfl))
   · refine aS ?_
     obtain rfl:=aK h
     exact hN _ rfl _ _ _ _ aZ ax ⟨rfl,rfl⟩
 · refine aS ?_
   obtain rfl:=aK h
   exact hX _ _ _ _ _ eK WE.nil ax (dj _ (hB _ rfl))
theorem Da {F:Nat} {s1:List UInt8} {H0:AH} {aM:Bool} (h:mc F s1=some aM):
 aG Tryz.prog 67 [(.str s1)] H0 fun v H'=>v=(.bool aM)∧H'=H0:=by
 refine gx EN mb fun hcl K0 aP=> ?_
 rw [mc.eq_1] at h
 refine aS ?_
 refine cg ax (zf (s1:=s1) ?_)
 refine aS ?_
 refine b7 h (fun bf h=> ?_) fun bf h=> ?_
 · refine aS ?_
   obtain rfl:=aK h
   exact aP _ _ _ bG (aW hcl (bD bx (.bool false)) bB bt ⟨rfl,rfl⟩)
 · refine aS ?_
   obtain ⟨o8,dD,h⟩:=ay h
   refine cg ax (zh dD ?_ ?_)
   · rintro ⟨⟩ rfl
     try dsimp only at h
     refine aS ?_
     obtain rfl:=aK h
     exact aP _ _ _ bG (aW hcl (bD bx (.bool true)) bB bt ⟨rfl,rfl⟩)
   · rintro r7 rfl
     try dsimp only at h
     refine aS ?_
     obtain rfl:=aK h
     exact aP _ _ _ bG (aW hcl (bD bx (.bool r7)) bB bt ⟨rfl,rfl⟩)
abbrev rK:aD:=(.rg [(aA 3 0),(aj 4 (.bin .geq (.t 3) (.c (b8 48)))),(aA 5 4),(aF 6 (.mv (.t 0)) 5 true),(aF 7 (.bin .leq (.t 6) (.c (b8 57))) 5 true),(aj 8 (.pick (.t 5) (.t 7) (.c (.bool false)))),(bk 2 8)])
abbrev EO:aD:=(.seq (.rg [(aj 2 (.aY (.c (.bool false))))]) (.seq (.sem (erase rK)) .ret))
theorem EP:bw Tryz.prog 94 9 [(.tmp 2)] (erase EO):=⟨Tryz.f94,_,rfl,by decide,rfl,by kernel_rfl,rfl,rfl⟩
abbrev wF:List Nat:=[0,2]
def ig (c1:UInt8):Option (Bool):=
 some ((decide (48≤c1))&&(decide (c1≤57)))
theorem zi {c1:UInt8} {H:AH} {K:Exit→Env→AH→Prop}
 (kn:K .normal [(2,(.bool ((decide (48≤c1))&&(decide (c1≤57)))))] H):
 AX Tryz.prog wF 9 H.length (erase rK) K [(0,(b8 c1)),(2,(.bool false))] H:=by
 refine dz fun K' hK=> ?_
 refine aS ?_
 refine jZ (fun hy1=> ?_) fun hy1=> ?_
 · refine bO hy1 ?_
   exact hK _ _ _ _ _ (dy hy1) ax kn
 · refine bO hy1 ?_
   exact hK _ _ _ _ _ (dy hy1) ax kn
theorem om {c1:UInt8} {H0:AH} {aM:Bool} (h:ig c1=some aM):
 aG Tryz.prog 94 [(b8 c1)] H0 fun v H'=>v=(.bool aM)∧H'=H0:=by
 refine gx EP wF fun hcl K0 aP=> ?_
 rw [ig.eq_1] at h
 refine aS ?_
 refine cg ax (zi (c1:=c1) ?_)
 refine aS ?_
 obtain rfl:=aK h
 exact aP _ _ _ bG (aW hcl (bD bx (.bool ((decide (48≤c1))&&(decide (c1≤57))))) bB bt ⟨rfl,rfl⟩)
abbrev rL:aD:=(.rg [(aA 5 0),(aj 6 (.bin .eql (.t 5) (.c (.str [])))),(aA 7 6),(aF 8 (.mv (.t 0)) 7 false),(aF 9 (.lens (.t 8)) 7 false),(aF 10 (.bin .gtr (.t 9) (.c (.int .i64 3))) 7 false),(aj 11 (.pick (.t 7) (.c (.bool true)) (.t 10))),(aA 12 11),(aF 13 (.mv (.t 0)) 12 false),(aF 14 (.ixs (.t 13) (.c (.int .i64 0))) 12 false),(aF 15 (.bin .eql (.t 14) (.c (b8 48))) 12 false),(aF 16 (.mv (.t 15)) 12 false),(aF 17 (.mv (.t 0)) 16 true),(aF 18 (.lens (.t 17)) 16 true),(aF 19 (.bin .gtr (.t 18) (.c (.int .i64 1))) 16 true),(aF 20 (.pick (.t 16) (.t 19) (.c (.bool false))) 12 false),(aj 21 (.pick (.t 12) (.c (.bool true)) (.t 20)))])
abbrev qi:aD:=(.seq (.seq (.rg [(aA 22 4),(aA 23 0),(aj 24 (.lens (.t 23))),(aj 25 (.bin .lss (.t 22) (.t 24)))]) (.cond (.t 25) .skip (.exit 0))) (.seq (.blk 1 (.seq (.seq (.rg [(aA 28 0),(aA 29 4),(aj 30 (.ixs (.t 28) (.t 29))),(aj 31 (.call (.c (.fn 94 [])) [(.t 30)])),(aj 32 (.un .not (.t 31)))]) (.cond (.t 32) (.seq (.rg [(aj 2 (.aY (.c (.bool false))))]) .ret) .skip)) (.rg [(aA 33 3),(aj 34 (.bin .mul (.c (.int .i64 10)) (.t 33))),(aA 35 0),(aA 36 4),(aj 37 (.ixs (.t 35) (.t 36))),(aj 38 (.bin .sub (.t 37) (.c (b8 48)))),(aj 39 (.ec (.int .i64) (.t 38))),(aj 40 (.bin .add (.t 34) (.t 39))),(bk 3 40)]))) (.rg [(aA 26 4),(aj 27 (.bin .add (.t 26) (.c (.int .i64 1)))),(bk 4 27)])))
abbrev ER:aD:=(.seq (.rg [(aj 2 (.aY (.c (.bool false))))]) (.seq (.seq (.sem (erase rL)) (.cond (.t 21) (.seq (.rg [(aj 2 (.aY (.c (.bool false))))]) .ret) .skip)) (.seq (.rg [(aj 3 (.aY (.c (.int .i64 0))))]) (.seq (.seq (.rg [(aj 4 (.aY (.c (.int .i64 0))))]) (.blk 0 (.loop (erase qi)))) (.seq (.rg [(aA 41 3),(aj 42 (.bin .leq (.t 41) (.c (.int .i64 255)))),(bk 2 42)]) .ret)))))
theorem ES:bw Tryz.prog 82 43 [(.tmp 2)] (erase ER):=⟨Tryz.f82,_,rfl,by decide,rfl,by kernel_rfl,rfl,rfl⟩
abbrev qj:List Nat:=[0,2,3,4,21,25,32]
def fc (s1:List UInt8):Option (Bool):=
 (if (decide (s1=([]:List UInt8))) then
  some true
 else
  (if (decide (3<(s1.length:Int))) then
   some true
  else
   (idx s1 0).bind fun x2=>
   (if (decide (x2=48)) then
    some (decide (1<(s1.length:Int)))
   else
    some false)))
def gf (s1:List UInt8):(Int×Int)→Option (St Bool Int (Int×Int))
 |(KY,i6)=>
  (if (decide (i6<(s1.length:Int))) then
   (idx s1 i6).bind fun x7=>
   (ig x7).bind fun r8=>
   (if (!r8) then
    some (.ret false)
   else
    some (.cT ((IntKind.wrap .i64 ((IntKind.wrap .i64 (10*KY))+(IntKind.wrap .i64 ((x7 - 48).toNat:Int)))),(IntKind.wrap .i64 (i6+1)))))
  else
   some (.fI KY))
def eM (F:Nat) (s1:List UInt8):Option (Bool):=
 (fc s1).bind fun t4=>
 (if t4 then
  some false
 else
  ((iter (gf s1) F (0,0)).bind fun KZ=>
  match KZ with
  | .inr VP=>
    some (decide (VP≤255))
  | .inl nN=>
    some nN))
theorem zj {s1:List UInt8} {H:AH} {K:Exit→Env→AH→Prop} {t3:Bool}
 (h:fc s1=some t3)
 (kn:K .normal [(0,(.str s1)),(21,(.bool t3))] H):
 AX Tryz.prog qj 43 H.length (erase rL) K [(0,(.str s1))] H:=by
 refine dz fun K' hK=> ?_
 rw [fc.eq_1] at h
 refine aS ?_
 refine cr h (fun hy1 h=> ?_) fun hy1 h=> ?_
 · refine bO hy1 ?_
   obtain rfl:=aK h
   exact hK _ _ _ _ _ aZ ax kn
 · refine bO hy1 ?_
   refine cr h (fun bf h=> ?_) fun bf h=> ?_
   · refine bO bf ?_
     obtain rfl:=aK h
     exact hK _ _ _ _ _ aZ ax kn
   · obtain ⟨x2,bz,h⟩:=ay h
     refine bO (aB bf bz) ?_
     refine cr h (fun bu h=> ?_) fun bu h=> ?_
     · refine bO bu ?_
       obtain rfl:=aK h
       exact hK _ _ _ _ _ aZ ax kn
     · refine bO bu ?_
       obtain rfl:=aK h
       exact hK _ _ _ _ _ aZ ax kn
theorem zk {F:Nat} {i6:Int} {s1:List UInt8} {KY:Int} {H:AH} {K:Exit→Env→AH→Prop} {o:(Bool)⊕(Int)}
 (h:iter (gf s1) F (KY,i6)=some o)
 (dj:∀o':Int,o= .inr o'→K (.exit 0) [(3,(.int .i64 o'))] H)
 (kr:∀o':Bool,o= .inl o'→K .ret [(2,(.bool o'))] H):
 AX Tryz.prog qj 43 H.length (.loop (erase qi)) K [(0,(.str s1)),(3,(.int .i64 KY)),(4,(.int .i64 i6))] H:=by
 refine iZ (fun s e H1=>match s with|(KY,i6)=>e=[(0,(.str s1)),(3,(.int .i64 KY)),(4,(.int .i64 i6))]∧H1=H) h ⟨rfl,rfl⟩ ?_
 rintro K' ⟨KY,i6⟩ st e H ⟨rfl,rfl⟩ h hN hB hR hX
 rw [gf.eq_1] at h
 refine aS ?_
 refine b7 h (fun dB h=> ?_) fun dB h=> ?_
 · obtain ⟨x7,dD,h⟩:=ay h
   refine bO dD ?_
   obtain ⟨r8,eE,h⟩:=ay h
   refine bg ax (om eE) ?_
   refine aS ?_
   refine b7 h (fun dh h=> ?_) fun dh h=> ?_
   · refine aS ?_
     obtain rfl:=aK h
     exact hX _ _ _ _ _ eK aZ ax (kr _ (hR _ rfl))
   · refine bO dD ?_
     obtain rfl:=aK h
     exact hN _ rfl _ _ _ _ aZ ax ⟨rfl,rfl⟩
 · refine aS ?_
   obtain rfl:=aK h
   exact hX _ _ _ _ _ eK aZ ax (dj _ (hB _ rfl))
theorem Db {F:Nat} {s1:List UInt8} {H0:AH} {aM:Bool} (h:eM F s1=some aM):
 aG Tryz.prog 82 [(.str s1)] H0 fun v H'=>v=(.bool aM)∧H'=H0:=by
 refine gx ES qj fun hcl K0 aP=> ?_
 rw [eM.eq_1] at h
 refine aS ?_
 obtain ⟨t4,bW,h⟩:=ay h
 refine cg ax (zj bW ?_)
 refine aS ?_
 refine b7 h (fun cw h=> ?_) fun cw h=> ?_
 · refine aS ?_
   obtain rfl:=aK h
   exact aP _ _ _ bG (aW hcl (bD bx (.bool false)) bB bt ⟨rfl,rfl⟩)
 · refine aS ?_
   obtain ⟨KZ,cH,h⟩:=ay h
   refine cg ax (zk cH ?_ ?_)
   · rintro VP rfl
     try dsimp only at h
     refine aS ?_
     obtain rfl:=aK h
     exact aP _ _ _ bG (aW hcl (bD bx (.bool (decide (VP≤255)))) bB bt ⟨rfl,rfl⟩)
   · rintro nN rfl
     try dsimp only at h
     refine aS ?_
     obtain rfl:=aK h
     exact aP _ _ _ bG (aW hcl (bD bx (.bool nN)) bB bt ⟨rfl,rfl⟩)
abbrev qk:aD:=(.rg [(aA 3 0),(aj 4 (.bin .geq (.t 3) (.c (b8 65)))),(aA 5 4),(aF 6 (.mv (.t 0)) 5 true),(aF 7 (.bin .leq (.t 6) (.c (b8 90))) 5 true),(aj 8 (.pick (.t 5) (.t 7) (.c (.bool false)))),(aA 9 8),(aF 10 (.mv (.t 0)) 9 false),(aF 11 (.bin .geq (.t 10) (.c (b8 97))) 9 false),(aF 12 (.mv (.t 11)) 9 false),(aF 13 (.mv (.t 0)) 12 true),(aF 14 (.bin .leq (.t 13) (.c (b8 122))) 12 true),(aF 15 (.pick (.t 12) (.t 14) (.c (.bool false))) 9 false),(aj 16 (.pick (.t 9) (.c (.bool true)) (.t 15))),(bk 2 16)])
abbrev Dc:aD:=(.seq (.rg [(aj 2 (.aY (.c (.bool false))))]) (.seq (.sem (erase qk)) .ret))
theorem Dd:bw Tryz.prog 95 17 [(.tmp 2)] (erase Dc):=⟨Tryz.f95,_,rfl,by decide,rfl,by kernel_rfl,rfl,rfl⟩
abbrev uU:List Nat:=[0,2]
def iL (c1:UInt8):Option (Bool):=
 some (((decide (65≤c1))&&(decide (c1≤90)))||((decide (97≤c1))&&(decide (c1≤122))))
theorem xF {c1:UInt8} {H:AH} {K:Exit→Env→AH→Prop}
 (kn:K .normal [(2,(.bool (((decide (65≤c1))&&(decide (c1≤90)))||((decide (97≤c1))&&(decide (c1≤122))))))] H):
 AX Tryz.prog uU 17 H.length (erase qk) K [(0,(b8 c1)),(2,(.bool false))] H:=by
 refine dz fun K' hK=> ?_
 refine aS ?_
 refine jZ (fun hy1=> ?_) fun hy1=> ?_
 · refine bO hy1 ?_
   refine jZ (fun bf=> ?_) fun bf=> ?_
   · refine bO bf ?_
     exact hK _ _ _ _ _ (dy (aB hy1 bf)) ax kn
   · refine bO bf ?_
     refine jZ (fun bz=> ?_) fun bz=> ?_
     · refine bO bz ?_
       exact hK _ _ _ _ _ (dy (aB hy1 (aB bf bz))) ax kn
     · refine bO bz ?_
       exact hK _ _ _ _ _ (dy (aB hy1 (aB bf bz))) ax kn
 · refine bO hy1 ?_
   refine jZ (fun bu=> ?_) fun bu=> ?_
   · refine bO bu ?_
     exact hK _ _ _ _ _ (dy (aB hy1 bu)) ax kn
   · refine bO bu ?_
     exact hK _ _ _ _ _ (dy (aB hy1 bu)) ax kn
theorem tw {c1:UInt8} {H0:AH} {aM:Bool} (h:iL c1=some aM):
 aG Tryz.prog 95 [(b8 c1)] H0 fun v H'=>v=(.bool aM)∧H'=H0:=by
 refine gx Dd uU fun hcl K0 aP=> ?_
 rw [iL.eq_1] at h
 refine aS ?_
 refine cg ax (xF (c1:=c1) ?_)
 refine aS ?_
 obtain rfl:=aK h
 exact aP _ _ _ bG (aW hcl (bD bx (.bool (((decide (65≤c1))&&(decide (c1≤90)))||((decide (97≤c1))&&(decide (c1≤122)))))) bB bt ⟨rfl,rfl⟩)
abbrev rM:aD:=(.rg [(aA 4 0),(aj 5 (.bin .eql (.t 4) (.c (.str [])))),(aA 6 5),(aF 7 (.mv (.t 0)) 6 false),(aF 8 (.lens (.t 7)) 6 false),(aF 9 (.bin .gtr (.t 8) (.c (.int .i64 63))) 6 false),(aj 10 (.pick (.t 6) (.c (.bool true)) (.t 9))),(aA 11 10),(aF 12 (.mv (.t 0)) 11 false),(aF 13 (.ixs (.t 12) (.c (.int .i64 0))) 11 false),(aF 14 (.bin .eql (.t 13) (.c (b8 45))) 11 false),(aj 15 (.pick (.t 11) (.c (.bool true)) (.t 14))),(aA 16 15),(aF 17 (.mv (.t 0)) 16 false),(aF 18 (.mv (.t 0)) 16 false),(aF 19 (.lens (.t 18)) 16 false),(aF 20 (.bin .sub (.t 19) (.c (.int .i64 1))) 16 false),(aF 21 (.ixs (.t 17) (.t 20)) 16 false),(aF 22 (.bin .eql (.t 21) (.c (b8 45))) 16 false),(aj 23 (.pick (.t 16) (.c (.bool true)) (.t 22)))])
abbrev rN:aD:=(.rg [(aA 30 0),(aA 31 3),(aj 32 (.ixs (.t 30) (.t 31))),(aj 33 (.call (.c (.fn 95 [])) [(.t 32)])),(aj 34 (.un .not (.t 33))),(aA 35 34),(aF 36 (.mv (.t 0)) 35 true),(aF 37 (.mv (.t 3)) 35 true),(aF 38 (.ixs (.t 36) (.t 37)) 35 true),(aF 39 (.call (.c (.fn 94 [])) [(.t 38)]) 35 true),(aF 40 (.un .not (.t 39)) 35 true),(aj 41 (.pick (.t 35) (.t 40) (.c (.bool false)))),(aA 42 41),(aF 43 (.mv (.t 0)) 42 true),(aF 44 (.mv (.t 3)) 42 true),(aF 45 (.ixs (.t 43) (.t 44)) 42 true),(aF 46 (.bin .neq (.t 45) (.c (b8 45))) 42 true),(aj 47 (.pick (.t 42) (.t 46) (.c (.bool false))))])
abbrev ql:aD:=(.seq (.seq (.rg [(aA 24 3),(aA 25 0),(aj 26 (.lens (.t 25))),(aj 27 (.bin .lss (.t 24) (.t 26)))]) (.cond (.t 27) .skip (.exit 0))) (.seq (.blk 1 (.seq (.sem (erase rN)) (.cond (.t 47) (.seq (.rg [(aj 2 (.aY (.c (.bool false))))]) .ret) .skip))) (.rg [(aA 28 3),(aj 29 (.bin .add (.t 28) (.c (.int .i64 1)))),(bk 3 29)])))
abbrev ET:aD:=(.seq (.rg [(aj 2 (.aY (.c (.bool false))))]) (.seq (.seq (.sem (erase rM)) (.cond (.t 23) (.seq (.rg [(aj 2 (.aY (.c (.bool false))))]) .ret) .skip)) (.seq (.seq (.rg [(aj 3 (.aY (.c (.int .i64 0))))]) (.blk 0 (.loop (erase ql)))) (.seq (.rg [(aj 2 (.aY (.c (.bool true))))]) .ret))))
theorem EU:bw Tryz.prog 83 48 [(.tmp 2)] (erase ET):=⟨Tryz.f83,_,rfl,by decide,rfl,by kernel_rfl,rfl,rfl⟩
abbrev me:List Nat:=[0,2,3,23,27,47]
def kH (s1:List UInt8):Option (Bool):=
 (if (decide (s1=([]:List UInt8))) then
  some true
 else
  (if (decide (63<(s1.length:Int))) then
   some true
  else
   (idx s1 0).bind fun x2=>
   (if (decide (x2=45)) then
    some true
   else
    (idx s1 (IntKind.wrap .i64 ((s1.length:Int) - 1))).bind fun x3=>some (decide (x3=45)))))
def iD (s1:List UInt8) (i6:Int):Option (Bool):=
 (idx s1 i6).bind fun x7=>
 (iL x7).bind fun r8=>
 (if (!r8) then
  (ig x7).bind fun r9=>(if (!r9) then
   some (!decide (x7=45))
  else
   some false)
 else
  some false)
def ff (s1:List UInt8):Int→Option (St Bool Unit Int)
 |i6=>
  (if (decide (i6<(s1.length:Int))) then
   (iD s1 i6).bind fun t11=>
   (if t11 then
    some (.ret false)
   else
    some (.cT (IntKind.wrap .i64 (i6+1))))
  else
   some (.fI ()))
def mg (F:Nat) (s1:List UInt8):Option (Bool):=
 (kH s1).bind fun t5=>
 (if t5 then
  some false
 else
  ((iter (ff s1) F 0).bind fun VQ=>
  match VQ with
  | .inr ()=>
    some true
  | .inl kA=>
    some kA))
theorem zm {s1:List UInt8} {H:AH} {K:Exit→Env→AH→Prop} {t4:Bool}
 (h:kH s1=some t4)
 (kn:K .normal [(0,(.str s1)),(23,(.bool t4))] H):
 AX Tryz.prog me 48 H.length (erase rM) K [(0,(.str s1))] H:=by
 refine dz fun K' hK=> ?_
 rw [kH.eq_1] at h
 refine aS ?_
 refine cr h (fun hy1 h=> ?_) fun hy1 h=> ?_
 · refine bO hy1 ?_
   obtain rfl:=aK h
   exact hK _ _ _ _ _ aZ ax kn
 · refine bO hy1 ?_
   refine cr h (fun bf h=> ?_) fun bf h=> ?_
   · refine bO bf ?_
     obtain rfl:=aK h
     exact hK _ _ _ _ _ aZ ax kn
   · obtain ⟨x2,bz,h⟩:=ay h
     refine bO (aB bf bz) ?_
     refine cr h (fun bu h=> ?_) fun bu h=> ?_
     · refine bO bu ?_
       obtain rfl:=aK h
       exact hK _ _ _ _ _ aZ ax kn
     · obtain ⟨x3,bW,h⟩:=ay h
       refine bO (aB bu bW) ?_
       obtain rfl:=aK h
       exact hK _ _ _ _ _ aZ ax kn
theorem zn {s1:List UInt8} {i6:Int} {H:AH} {K:Exit→Env→AH→Prop} {t10:Bool}
 (h:iD s1 i6=some t10)
 (kn:K .normal [(0,(.str s1)),(3,(.int .i64 i6)),(47,(.bool t10))] H):
 AX Tryz.prog me 48 H.length (erase rN) K [(0,(.str s1)),(3,(.int .i64 i6))] H:=by
 refine dz fun K' hK=> ?_
 rw [iD.eq_1] at h
 obtain ⟨x7,eE,h⟩:=ay h
 refine bO eE ?_
 obtain ⟨r8,dh,h⟩:=ay h
 refine bg ax (tw dh) ?_
 refine aS ?_
 refine cr h (fun cH h=> ?_) fun cH h=> ?_
 · refine bO (aB cH eE) ?_
   obtain ⟨r9,eA,h⟩:=ay h
   refine bg ax (om eA) ?_
   refine aS ?_
   refine cr h (fun di h=> ?_) fun di h=> ?_
   · refine bO (aB di eE) ?_
     obtain rfl:=aK h
     exact hK _ _ _ _ _ aZ ax kn
   · refine bO di ?_
     obtain rfl:=aK h
     exact hK _ _ _ _ _ aZ ax kn
 · refine bO cH ?_
   obtain rfl:=aK h
   exact hK _ _ _ _ _ aZ ax kn
theorem zo {F:Nat} {i6:Int} {s1:List UInt8} {H:AH} {K:Exit→Env→AH→Prop} {o:(Bool)⊕(Unit)}
 (h:iter (ff s1) F i6=some o)
 (dj:∀o':Unit,o= .inr o'→K (.exit 0) [] H)
 (kr:∀o':Bool,o= .inl o'→K .ret [(2,(.bool o'))] H):
 AX Tryz.prog me 48 H.length (.loop (erase ql)) K [(0,(.str s1)),(3,(.int .i64 i6))] H:=by
 refine iZ (fun s e H1=>match s with|i6=>e=[(0,(.str s1)),(3,(.int .i64 i6))]∧H1=H) h ⟨rfl,rfl⟩ ?_
 rintro K' i6 st e H ⟨rfl,rfl⟩ h hN hB hR hX
 rw [ff.eq_1] at h
 refine aS ?_
 refine b7 h (fun dD h=> ?_) fun dD h=> ?_
 · refine aS ?_
   obtain ⟨t11,gj,h⟩:=ay h
   refine cg ax (zn gj ?_)
   refine aS ?_
   refine b7 h (fun lW h=> ?_) fun lW h=> ?_
   · refine aS ?_
     obtain rfl:=aK h
     exact hX _ _ _ _ _ eK aZ ax (kr _ (hR _ rfl))
   · refine aS ?_
     obtain rfl:=aK h
     exact hN _ rfl _ _ _ _ aZ ax ⟨rfl,rfl⟩
 · refine aS ?_
   obtain rfl:=aK h
   exact hX _ _ _ _ _ eK WE.nil ax (dj _ (hB _ rfl))
theorem De {F:Nat} {s1:List UInt8} {H0:AH} {aM:Bool} (h:mg F s1=some aM):
 aG Tryz.prog 83 [(.str s1)] H0 fun v H'=>v=(.bool aM)∧H'=H0:=by
 refine gx EU me fun hcl K0 aP=> ?_
 rw [mg.eq_1] at h
 refine aS ?_
 obtain ⟨t5,cw,h⟩:=ay h
 refine cg ax (zm cw ?_)
 refine aS ?_
 refine b7 h (fun dB h=> ?_) fun dB h=> ?_
 · refine aS ?_
   obtain rfl:=aK h
   exact aP _ _ _ bG (aW hcl (bD bx (.bool false)) bB bt ⟨rfl,rfl⟩)
 · refine aS ?_
   obtain ⟨VQ,gl,h⟩:=ay h
   refine cg ax (zo gl ?_ ?_)
   · rintro ⟨⟩ rfl
     try dsimp only at h
     refine aS ?_
     obtain rfl:=aK h
     exact aP _ _ _ bG (aW hcl (bD bx (.bool true)) bB bt ⟨rfl,rfl⟩)
   · rintro kA rfl
     try dsimp only at h
     refine aS ?_
     obtain rfl:=aK h
     exact aP _ _ _ bG (aW hcl (bD bx (.bool kA)) bB bt ⟨rfl,rfl⟩)
abbrev qm:aD:=(.rg [(aA 7 0),(aj 8 (.bin .eql (.t 7) (.c (.str [])))),(aA 9 8),(aF 10 (.mv (.t 0)) 9 false),(aF 11 (.lens (.t 10)) 9 false),(aF 12 (.bin .gtr (.t 11) (.c (.int .i64 255))) 9 false),(aj 13 (.pick (.t 9) (.c (.bool true)) (.t 12)))])
abbrev qn:aD:=(.rg [(aA 18 0),(aA 19 0),(aj 20 (.lens (.t 19))),(aj 21 (.bin .sub (.t 20) (.c (.int .i64 1)))),(aj 22 (.ixs (.t 18) (.t 21))),(aj 23 (.bin .neq (.t 22) (.c (b8 93)))),(aA 24 23),(aF 25 (.mv (.t 0)) 24 false),(aF 26 (.lens (.t 25)) 24 false),(aF 27 (.bin .lss (.t 26) (.c (.int .i64 2))) 24 false),(aj 28 (.pick (.t 24) (.c (.bool true)) (.t 27)))])
abbrev qo:aD:=(.cond (.t 17) (.seq (.seq (.sem (erase qn)) (.cond (.t 28) (.seq (.rg [(aj 2 (.aY (.c (.bool false))))]) .ret) .skip)) (.rg [(aA 29 0),(aA 30 0),(aj 31 (.lens (.t 30))),(aj 32 (.bin .sub (.t 31) (.c (.int .i64 1)))),(aj 33 (.Jf (.t 29) (some (.c (.int .i64 1))) (some (.t 32)))),(bk 0 33)])) .skip)
abbrev qp:aD:=(.rg [(aA 40 6),(aA 41 0),(aj 42 (.lens (.t 41))),(aj 43 (.bin .lss (.t 40) (.t 42))),(aA 44 43),(aF 45 (.mv (.t 0)) 44 true),(aF 46 (.mv (.t 6)) 44 true),(aF 47 (.ixs (.t 45) (.t 46)) 44 true),(aF 48 (.bin .neq (.t 47) (.c (b8 46))) 44 true),(aj 49 (.pick (.t 44) (.t 48) (.c (.bool false))))])
abbrev qq:aD:=(.rg [(aA 50 3),(aA 51 50),(aF 52 (.mv (.t 0)) 51 true),(aF 53 (.mv (.t 4)) 51 true),(aF 54 (.mv (.t 6)) 51 true),(aF 55 (.Jf (.t 52) (some (.t 53)) (some (.t 54))) 51 true),(aF 56 (.call (.c (.fn 82 [])) [(.t 55)]) 51 true),(aF 57 (.un .not (.t 56)) 51 true),(aj 58 (.pick (.t 51) (.t 57) (.c (.bool false)))),(aA 59 58),(aF 60 (.mv (.t 3)) 59 false),(aF 61 (.un .not (.t 60)) 59 false),(aF 62 (.mv (.t 61)) 59 false),(aF 63 (.mv (.t 0)) 62 true),(aF 64 (.mv (.t 4)) 62 true),(aF 65 (.mv (.t 6)) 62 true),(aF 66 (.Jf (.t 63) (some (.t 64)) (some (.t 65))) 62 true),(aF 67 (.call (.c (.fn 83 [])) [(.t 66)]) 62 true),(aF 68 (.un .not (.t 67)) 62 true),(aF 69 (.pick (.t 62) (.t 68) (.c (.bool false))) 59 false),(aj 70 (.pick (.t 59) (.c (.bool true)) (.t 69)))])
abbrev oA:aD:=(.seq (.seq (.rg [(aA 34 6),(aA 35 0),(aj 36 (.lens (.t 35))),(aj 37 (.bin .leq (.t 34) (.t 36)))]) (.cond (.t 37) .skip (.exit 0))) (.seq (.blk 1 (.seq (.seq (.sem (erase qp)) (.cond (.t 49) (.exit 1) .skip)) (.seq (.seq (.sem (erase qq)) (.cond (.t 70) (.seq (.rg [(aj 2 (.aY (.c (.bool false))))]) .ret) .skip)) (.seq (.rg [(aA 71 5),(aj 72 (.bin .add (.t 71) (.c (.int .i64 1)))),(bk 5 72)]) (.rg [(aA 73 6),(aj 74 (.bin .add (.t 73) (.c (.int .i64 1)))),(bk 4 74)]))))) (.rg [(aA 38 6),(aj 39 (.bin .add (.t 38) (.c (.int .i64 1)))),(bk 6 39)])))
abbrev qs:aD:=(.rg [(aA 75 3),(aj 76 (.un .not (.t 75))),(aA 77 76),(aF 78 (.mv (.t 5)) 77 false),(aF 79 (.bin .eql (.t 78) (.c (.int .i64 4))) 77 false),(aj 80 (.pick (.t 77) (.c (.bool true)) (.t 79))),(bk 2 80)])
abbrev Df:aD:=(.seq (.rg [(aj 2 (.aY (.c (.bool false))))]) (.seq (.seq (.sem (erase qm)) (.cond (.t 13) (.seq (.rg [(aj 2 (.aY (.c (.bool false))))]) .ret) .skip)) (.seq (.rg [(aA 14 0),(aj 15 (.ixs (.t 14) (.c (.int .i64 0)))),(aj 16 (.bin .eql (.t 15) (.c (b8 91)))),(bk 3 16)]) (.seq (.seq (.rg [(aA 17 3)]) (.sem (erase qo))) (.seq (.rg [(aj 4 (.aY (.c (.int .i64 0))))]) (.seq (.rg [(aj 5 (.aY (.c (.int .i64 0))))]) (.seq (.seq (.rg [(aj 6 (.aY (.c (.int .i64 0))))]) (.blk 0 (.loop (erase oA)))) (.seq (.sem (erase qs)) .ret))))))))
theorem Dg:bw Tryz.prog 68 81 [(.tmp 2)] (erase Df):=⟨Tryz.f68,_,rfl,by decide,rfl,by kernel_rfl,rfl,rfl⟩
abbrev eg:List Nat:=[0,2,3,4,5,6,13,17,28,37,49,70]
def jF (s1:List UInt8):Option (Bool):=
 (idx s1 (IntKind.wrap .i64 ((s1.length:Int) - 1))).bind fun x3=>
 (if (!decide (x3=93)) then
  some true
 else
  some (decide ((s1.length:Int)<2)))
def gO (x2:UInt8) (s1:List UInt8):Option (St Bool Unit (List UInt8)):=
 (if (decide (x2=91)) then
  (jF s1).bind fun t5=>
  (if t5 then
   some (.ret false)
  else
   (sub s1 1 (IntKind.wrap .i64 ((s1.length:Int) - 1))).bind fun x6=>some (.cT x6))
 else
  some (.cT s1))
def eI (i12:Int) (s9:List UInt8):Option (Bool):=
 (if (decide (i12<(s9.length:Int))) then
  (idx s9 i12).bind fun Al=>some (!decide (Al=46))
 else
  some false)
def gP (F:Nat) (x2:UInt8) (s9:List UInt8) (mh:Int) (i12:Int):Option (Bool):=
 (if (decide (x2=91)) then
  (sub s9 mh i12).bind fun Sn=>
  (eM F Sn).bind fun AK=>(if (!AK) then
   some true
  else
   some false)
 else
  (sub s9 mh i12).bind fun Iz=>(mg F Iz).bind fun qT=>some (!qT))
def cx (F:Nat) (s9:List UInt8) (x2:UInt8):(Int×Int×Int)→Option (St Bool Int (Int×Int×Int))
 |(mh,dX,i12)=>
  (if (decide (i12≤(s9.length:Int))) then
   (eI i12 s9).bind fun t15=>
   (if t15 then
    some (.cT (mh,dX,(IntKind.wrap .i64 (i12+1))))
   else
    (gP F x2 s9 mh i12).bind fun t21=>
    (if t21 then
     some (.ret false)
    else
     some (.cT ((IntKind.wrap .i64 (i12+1)),(IntKind.wrap .i64 (dX+1)),(IntKind.wrap .i64 (i12+1))))))
  else
   some (.fI dX))
def fG (F:Nat) (s1:List UInt8):Option (Bool):=
 (if ((decide (s1=([]:List UInt8)))||(decide (255<(s1.length:Int)))) then
  some false
 else
  (idx s1 0).bind fun x2=>
  ((gO x2 s1).bind fun VS=>
  match VS with
  | .cT s9=>
    ((iter (cx F s9 x2) F (0,0,0)).bind fun o26=>
    match o26 with
    | .inr nV=>
      some ((!(decide (x2=91)))||(decide (nV=4)))
    | .inl K1=>
      some K1)
  | .ret BX=>
    some BX
  | .fI _=>none))
theorem xG {s1:List UInt8} {H:AH} {K:Exit→Env→AH→Prop}
 (kn:K .normal [(0,(.str s1)),(13,(.bool ((decide (s1=([]:List UInt8)))||(decide (255<(s1.length:Int))))))] H):
 AX Tryz.prog eg 81 H.length (erase qm) K [(0,(.str s1))] H:=by
 refine dz fun K' hK=> ?_
 refine aS ?_
 refine jZ (fun hy1=> ?_) fun hy1=> ?_
 · refine bO hy1 ?_
   exact hK _ _ _ _ _ (dy hy1) ax kn
 · refine bO hy1 ?_
   exact hK _ _ _ _ _ (dy hy1) ax kn
theorem xH {s1:List UInt8} {x2:UInt8} {H:AH} {K:Exit→Env→AH→Prop} {t4:Bool}
 (h:jF s1=some t4)
 (kn:K .normal [(0,(.str s1)),(3,(.bool (decide (x2=91)))),(28,(.bool t4))] H):
 AX Tryz.prog eg 81 H.length (erase qn) K [(0,(.str s1)),(3,(.bool (decide (x2=91))))] H:=by
 refine dz fun K' hK=> ?_
 rw [jF.eq_1] at h
 obtain ⟨x3,bW,h⟩:=ay h
 refine bO bW ?_
 refine cr h (fun cw h=> ?_) fun cw h=> ?_
 · refine bO cw ?_
   obtain rfl:=aK h
   exact hK _ _ _ _ _ aZ ax kn
 · refine bO cw ?_
   obtain rfl:=aK h
   exact hK _ _ _ _ _ aZ ax kn
theorem xI {x2:UInt8} {s1:List UInt8} {H:AH} {K:Exit→Env→AH→Prop} {o:St Bool Unit (List UInt8)}
 (h:gO x2 s1=some o)
 (kn:∀o':(List UInt8),o= .cT o'→K .normal [(0,(.str o')),(3,(.bool (decide (x2=91))))] H)
 (kr:∀o':Bool,o= .ret o'→K .ret [(2,(.bool o'))] H):
 AX Tryz.prog eg 81 H.length (erase qo) K [(0,(.str s1)),(3,(.bool (decide (x2=91)))),(17,(.bool (decide (x2=91))))] H:=by
 refine dz fun K' hK=> ?_
 rw [gO.eq_1] at h
 refine aS ?_
 refine b7 h (fun bu h=> ?_) fun bu h=> ?_
 · refine aS ?_
   obtain ⟨t5,dB,h⟩:=ay h
   refine cg ax (xH (x2:=x2) dB ?_)
   refine aS ?_
   refine b7 h (fun dD h=> ?_) fun dD h=> ?_
   · refine aS ?_
     obtain rfl:=aK h
     exact hK _ _ _ _ _ aZ ax (kr _ rfl)
   · obtain ⟨x6,eE,h⟩:=ay h
     refine bO eE ?_
     obtain rfl:=aK h
     exact hK _ _ _ _ _ aZ ax (kn _ rfl)
 · refine aS ?_
   obtain rfl:=aK h
   exact hK _ _ _ _ _ aZ ax (kn _ rfl)
theorem xJ {i12:Int} {s9:List UInt8} {x2:UInt8} {mh:Int} {dX:Int} {H:AH} {K:Exit→Env→AH→Prop} {t14:Bool}
 (h:eI i12 s9=some t14)
 (kn:K .normal [(0,(.str s9)),(3,(.bool (decide (x2=91)))),(4,(.int .i64 mh)),(5,(.int .i64 dX)),(6,(.int .i64 i12)),(49,(.bool t14))] H):
 AX Tryz.prog eg 81 H.length (erase qp) K [(0,(.str s9)),(3,(.bool (decide (x2=91)))),(4,(.int .i64 mh)),(5,(.int .i64 dX)),(6,(.int .i64 i12))] H:=by
 refine dz fun K' hK=> ?_
 rw [eI.eq_1] at h
 refine aS ?_
 refine cr h (fun eA h=> ?_) fun eA h=> ?_
 · obtain ⟨Al,di,h⟩:=ay h
   refine bO (aB eA di) ?_
   obtain rfl:=aK h
   exact hK _ _ _ _ _ aZ ax kn
 · refine bO eA ?_
   obtain rfl:=aK h
   exact hK _ _ _ _ _ aZ ax kn
theorem xK {F:Nat} {x2:UInt8} {s9:List UInt8} {mh:Int} {i12:Int} {dX:Int} {H:AH} {K:Exit→Env→AH→Prop} {t20:Bool}
 (h:gP F x2 s9 mh i12=some t20)
 (kn:K .normal [(0,(.str s9)),(3,(.bool (decide (x2=91)))),(5,(.int .i64 dX)),(6,(.int .i64 i12)),(70,(.bool t20))] H):
 AX Tryz.prog eg 81 H.length (erase qq) K [(0,(.str s9)),(3,(.bool (decide (x2=91)))),(4,(.int .i64 mh)),(5,(.int .i64 dX)),(6,(.int .i64 i12))] H:=by
 refine dz fun K' hK=> ?_
 rw [gP.eq_1] at h
 refine aS ?_
 refine cr h (fun gl h=> ?_) fun gl h=> ?_
 · obtain ⟨Sn,j7,h⟩:=ay h
   refine bO (aB gl j7) ?_
   obtain ⟨AK,nP,h⟩:=ay h
   refine bg ax (Db nP) ?_
   refine aS ?_
   refine cr h (fun j9 h=> ?_) fun j9 h=> ?_
   · refine bO j9 ?_
     obtain rfl:=aK h
     exact hK _ _ _ _ _ (dy (aB gl j9)) ax kn
   · refine bO j9 ?_
     obtain rfl:=aK h
     exact hK _ _ _ _ _ (dy (aB gl j9)) ax kn
 · obtain ⟨Iz,kf,h⟩:=ay h
   refine bO (aB gl kf) ?_
   obtain ⟨qT,p6,h⟩:=ay h
   refine bg ax (De p6) ?_
   refine aS ?_
   obtain rfl:=aK h
   exact hK _ _ _ _ _ (dy gl) ax kn
theorem xL {F:Nat} {i12:Int} {s9:List UInt8} {mh:Int} {dX:Int} {x2:UInt8} {H:AH} {K:Exit→Env→AH→Prop} {o:(Bool)⊕(Int)}
 (h:iter (cx F s9 x2) F (mh,dX,i12)=some o)
 (dj:∀o':Int,o= .inr o'→K (.exit 0) [(3,(.bool (decide (x2=91)))),(5,(.int .i64 o'))] H)
 (kr:∀o':Bool,o= .inl o'→K .ret [(2,(.bool o'))] H):
 AX Tryz.prog eg 81 H.length (.loop (erase oA)) K [(0,(.str s9)),(3,(.bool (decide (x2=91)))),(4,(.int .i64 mh)),(5,(.int .i64 dX)),(6,(.int .i64 i12))] H:=by
 refine iZ (fun s e H1=>match s with|(mh,dX,i12)=>e=[(0,(.str s9)),(3,(.bool (decide (x2=91)))),(4,(.int .i64 mh)),(5,(.int .i64 dX)),(6,(.int .i64 i12))]∧H1=H) h ⟨rfl,rfl⟩ ?_
 rintro K' ⟨mh,dX,i12⟩ st e H ⟨rfl,rfl⟩ h hN hB hR hX
 rw [cx.eq_1] at h
 refine aS ?_
 refine b7 h (fun cH h=> ?_) fun cH h=> ?_
 · refine aS ?_
   obtain ⟨t15,gj,h⟩:=ay h
   refine cg ax (xJ (x2:=x2) (mh:=mh) (dX:=dX) gj ?_)
   refine aS ?_
   refine b7 h (fun lW h=> ?_) fun lW h=> ?_
   · refine aS ?_
     obtain rfl:=aK h
     exact hN _ rfl _ _ _ _ aZ ax ⟨rfl,rfl⟩
   · refine aS ?_
     obtain ⟨t21,k7,h⟩:=ay h
     refine cg ax (xK (dX:=dX) k7 ?_)
     refine aS ?_
     refine b7 h (fun s5 h=> ?_) fun s5 h=> ?_
     · refine aS ?_
       obtain rfl:=aK h
       exact hX _ _ _ _ _ eK aZ ax (kr _ (hR _ rfl))
     · refine aS ?_
       obtain rfl:=aK h
       exact hN _ rfl _ _ _ _ aZ ax ⟨rfl,rfl⟩
 · refine aS ?_
   obtain rfl:=aK h
   exact hX _ _ _ _ _ eK aZ ax (dj _ (hB _ rfl))
theorem xM {x2:UInt8} {nV:Int} {H:AH} {K:Exit→Env→AH→Prop}
 (kn:K .normal [(2,(.bool ((!(decide (x2=91)))||(decide (nV=4)))))] H):
 AX Tryz.prog eg 81 H.length (erase qs) K [(3,(.bool (decide (x2=91)))),(5,(.int .i64 nV))] H:=by
 refine dz fun K' hK=> ?_
 refine aS ?_
 refine jZ (fun p7=> ?_) fun p7=> ?_
 · refine bO p7 ?_
   exact hK _ _ _ _ _ (dy p7) ax kn
 · refine bO p7 ?_
   exact hK _ _ _ _ _ (dy p7) ax kn
theorem B7 {F:Nat} {s1:List UInt8} {H0:AH} {aM:Bool} (h:fG F s1=some aM):
 aG Tryz.prog 68 [(.str s1)] H0 fun v H'=>v=(.bool aM)∧H'=H0:=by
 refine gx Dg eg fun hcl K0 aP=> ?_
 rw [fG.eq_1] at h
 refine aS ?_
 refine cg ax (xG (s1:=s1) ?_)
 refine aS ?_
 refine b7 h (fun bf h=> ?_) fun bf h=> ?_
 · refine aS ?_
   obtain rfl:=aK h
   exact aP _ _ _ bG (aW hcl (bD bx (.bool false)) bB bt ⟨rfl,rfl⟩)
 · obtain ⟨x2,bz,h⟩:=ay h
   refine bO bz ?_
   obtain ⟨VS,dh,h⟩:=ay h
   refine cg ax (xI dh ?_ ?_)
   · rintro s9 rfl
     try dsimp only at h
     refine aS ?_
     obtain ⟨o26,nQ,h⟩:=ay h
     refine cg ax (xL nQ ?_ ?_)
     · rintro nV rfl
       try dsimp only at h
       refine aS ?_
       refine cg ax (xM (x2:=x2) (nV:=nV) ?_)
       refine aS ?_
       obtain rfl:=aK h
       exact aP _ _ _ bG (aW hcl (bD bx (.bool ((!(decide (x2=91)))||(decide (nV=4))))) bB bt ⟨rfl,rfl⟩)
     · rintro K1 rfl
       try dsimp only at h
       refine aS ?_
       obtain rfl:=aK h
       exact aP _ _ _ bG (aW hcl (bD bx (.bool K1)) bB bt ⟨rfl,rfl⟩)
   · rintro BX rfl
     try dsimp only at h
     refine aS ?_
     obtain rfl:=aK h
     exact aP _ _ _ bG (aW hcl (bD bx (.bool BX)) bB bt ⟨rfl,rfl⟩)
abbrev rO:aD:=(.rg [(aA 5 0),(aj 6 (.call (.c (.fn 95 [])) [(.t 5)])),(aA 7 6),(aF 8 (.mv (.t 0)) 7 false),(aF 9 (.call (.c (.fn 94 [])) [(.t 8)]) 7 false),(aj 10 (.pick (.t 7) (.c (.bool true)) (.t 9)))])
abbrev qt:aD:=(.seq (.seq (.rg [(aA 11 4),(aA 12 3),(aj 13 (.lens (.t 12))),(aj 14 (.bin .lss (.t 11) (.t 13)))]) (.cond (.t 14) .skip (.exit 0))) (.seq (.blk 1 (.seq (.rg [(aA 17 3),(aA 18 4),(aj 19 (.ixs (.t 17) (.t 18))),(aA 20 0),(aj 21 (.bin .eql (.t 19) (.t 20)))]) (.cond (.t 21) (.seq (.rg [(aj 2 (.aY (.c (.bool true))))]) .ret) .skip))) (.rg [(aA 15 4),(aj 16 (.bin .add (.t 15) (.c (.int .i64 1)))),(bk 4 16)])))
abbrev EV:aD:=(.seq (.rg [(aj 2 (.aY (.c (.bool false))))]) (.seq (.seq (.sem (erase rO)) (.cond (.t 10) (.seq (.rg [(aj 2 (.aY (.c (.bool true))))]) .ret) .skip)) (.seq (.rg [(aj 3 (.aY (.c (.str [33,35,36,37,38,39,42,43,45,47,61,63,94,95,123,124,125,126]))))]) (.seq (.seq (.rg [(aj 4 (.aY (.c (.int .i64 0))))]) (.blk 0 (.loop (erase qt)))) (.seq (.rg [(aA 22 0),(aj 23 (.bin .eql (.t 22) (.c (b8 96)))),(bk 2 23)]) .ret)))))
theorem EW:bw Tryz.prog 96 24 [(.tmp 2)] (erase EV):=⟨Tryz.f96,_,rfl,by decide,rfl,by kernel_rfl,rfl,rfl⟩
abbrev qu:List Nat:=[0,2,3,4,10,14,21]
def oq (c1:UInt8):Option (Bool):=
 (iL c1).bind fun r2=>
 (if r2 then
  some true
 else
  (ig c1).bind fun r3=>some r3)
def ot (c1:UInt8):Int→Option (St Bool Unit Int)
 |i6=>
  (if (decide (i6<(([33,35,36,37,38,39,42,43,45,47,61,63,94,95,123,124,125,126]:List UInt8).length:Int))) then
   (idx ([33,35,36,37,38,39,42,43,45,47,61,63,94,95,123,124,125,126]:List UInt8) i6).bind fun x7=>
   (if (decide (x7=c1)) then
    some (.ret true)
   else
    some (.cT (IntKind.wrap .i64 (i6+1))))
  else
   some (.fI ()))
def jG (F:Nat) (c1:UInt8):Option (Bool):=
 (oq c1).bind fun t5=>
 (if t5 then
  some true
 else
  ((iter (ot c1) F 0).bind fun o10=>
  match o10 with
  | .inr ()=>
    some (decide (c1=96))
  | .inl r9=>
    some r9))
theorem zp {c1:UInt8} {H:AH} {K:Exit→Env→AH→Prop} {t4:Bool}
 (h:oq c1=some t4)
 (kn:K .normal [(0,(b8 c1)),(10,(.bool t4))] H):
 AX Tryz.prog qu 24 H.length (erase rO) K [(0,(b8 c1))] H:=by
 refine dz fun K' hK=> ?_
 rw [oq.eq_1] at h
 refine aS ?_
 obtain ⟨r2,hy1,h⟩:=ay h
 refine bg ax (tw hy1) ?_
 refine aS ?_
 refine cr h (fun bf h=> ?_) fun bf h=> ?_
 · refine bO bf ?_
   obtain rfl:=aK h
   exact hK _ _ _ _ _ aZ ax kn
 · refine bO bf ?_
   obtain ⟨r3,bz,h⟩:=ay h
   refine bg ax (om bz) ?_
   refine aS ?_
   obtain rfl:=aK h
   exact hK _ _ _ _ _ aZ ax kn
theorem zq {F:Nat} {i6:Int} {c1:UInt8} {H:AH} {K:Exit→Env→AH→Prop} {o:(Bool)⊕(Unit)}
 (h:iter (ot c1) F i6=some o)
 (dj:∀o':Unit,o= .inr o'→K (.exit 0) [(0,(b8 c1))] H)
 (kr:∀o':Bool,o= .inl o'→K .ret [(2,(.bool o'))] H):
 AX Tryz.prog qu 24 H.length (.loop (erase qt)) K [(0,(b8 c1)),(3,(.str ([33,35,36,37,38,39,42,43,45,47,61,63,94,95,123,124,125,126]:List UInt8))),(4,(.int .i64 i6))] H:=by
 refine iZ (fun s e H1=>match s with|i6=>e=[(0,(b8 c1)),(3,(.str ([33,35,36,37,38,39,42,43,45,47,61,63,94,95,123,124,125,126]:List UInt8))),(4,(.int .i64 i6))]∧H1=H) h ⟨rfl,rfl⟩ ?_
 rintro K' i6 st e H ⟨rfl,rfl⟩ h hN hB hR hX
 rw [ot.eq_1] at h
 refine aS ?_
 refine b7 h (fun cw h=> ?_) fun cw h=> ?_
 · obtain ⟨x7,dB,h⟩:=ay h
   refine bO dB ?_
   refine b7 h (fun dD h=> ?_) fun dD h=> ?_
   · refine aS ?_
     obtain rfl:=aK h
     exact hX _ _ _ _ _ eK aZ ax (kr _ (hR _ rfl))
   · refine aS ?_
     obtain rfl:=aK h
     exact hN _ rfl _ _ _ _ aZ ax ⟨rfl,rfl⟩
 · refine aS ?_
   obtain rfl:=aK h
   exact hX _ _ _ _ _ eK aZ ax (dj _ (hB _ rfl))
theorem Dh {F:Nat} {c1:UInt8} {H0:AH} {aM:Bool} (h:jG F c1=some aM):
 aG Tryz.prog 96 [(b8 c1)] H0 fun v H'=>v=(.bool aM)∧H'=H0:=by
 refine gx EW qu fun hcl K0 aP=> ?_
 rw [jG.eq_1] at h
 refine aS ?_
 obtain ⟨t5,bu,h⟩:=ay h
 refine cg ax (zp bu ?_)
 refine aS ?_
 refine b7 h (fun bW h=> ?_) fun bW h=> ?_
 · refine aS ?_
   obtain rfl:=aK h
   exact aP _ _ _ bG (aW hcl (bD bx (.bool true)) bB bt ⟨rfl,rfl⟩)
 · refine aS ?_
   obtain ⟨o10,eE,h⟩:=ay h
   refine cg ax (zq eE ?_ ?_)
   · rintro ⟨⟩ rfl
     try dsimp only at h
     refine aS ?_
     obtain rfl:=aK h
     exact aP _ _ _ bG (aW hcl (bD bx (.bool (decide (c1=96)))) bB bt ⟨rfl,rfl⟩)
   · rintro r9 rfl
     try dsimp only at h
     refine aS ?_
     obtain rfl:=aK h
     exact aP _ _ _ bG (aW hcl (bD bx (.bool r9)) bB bt ⟨rfl,rfl⟩)
abbrev rP:aD:=(.rg [(aA 11 0),(aA 12 3),(aj 13 (.ixs (.t 11) (.t 12))),(aj 14 (.bin .eql (.t 13) (.c (b8 46)))),(aA 15 14),(aF 16 (.mv (.t 3)) 15 true),(aF 17 (.bin .gtr (.t 16) (.c (.int .i64 0))) 15 true),(aj 18 (.pick (.t 15) (.t 17) (.c (.bool false)))),(aA 19 18),(aF 20 (.mv (.t 3)) 19 true),(aF 21 (.bin .add (.t 20) (.c (.int .i64 1))) 19 true),(aF 22 (.mv (.t 0)) 19 true),(aF 23 (.lens (.t 22)) 19 true),(aF 24 (.bin .lss (.t 21) (.t 23)) 19 true),(aj 25 (.pick (.t 19) (.t 24) (.c (.bool false)))),(aA 26 25),(aF 27 (.mv (.t 0)) 26 true),(aF 28 (.mv (.t 3)) 26 true),(aF 29 (.bin .sub (.t 28) (.c (.int .i64 1))) 26 true),(aF 30 (.ixs (.t 27) (.t 29)) 26 true),(aF 31 (.bin .neq (.t 30) (.c (b8 46))) 26 true),(aj 32 (.pick (.t 26) (.t 31) (.c (.bool false)))),(bk 4 32)])
abbrev rQ:aD:=(.rg [(aA 33 4),(aj 34 (.un .not (.t 33))),(aA 35 34),(aF 36 (.mv (.t 0)) 35 true),(aF 37 (.mv (.t 3)) 35 true),(aF 38 (.ixs (.t 36) (.t 37)) 35 true),(aF 39 (.call (.c (.fn 96 [])) [(.t 38)]) 35 true),(aF 40 (.un .not (.t 39)) 35 true),(aj 41 (.pick (.t 35) (.t 40) (.c (.bool false))))])
abbrev qv:aD:=(.seq (.seq (.rg [(aA 5 3),(aA 6 0),(aj 7 (.lens (.t 6))),(aj 8 (.bin .lss (.t 5) (.t 7)))]) (.cond (.t 8) .skip (.exit 0))) (.seq (.blk 1 (.seq (.sem (erase rP)) (.seq (.sem (erase rQ)) (.cond (.t 41) (.seq (.rg [(aj 2 (.aY (.c (.bool false))))]) .ret) .skip)))) (.rg [(aA 9 3),(aj 10 (.bin .add (.t 9) (.c (.int .i64 1)))),(bk 3 10)])))
abbrev EX:aD:=(.seq (.rg [(aj 2 (.aY (.c (.bool false))))]) (.seq (.seq (.rg [(aj 3 (.aY (.c (.int .i64 0))))]) (.blk 0 (.loop (erase qv)))) (.seq (.rg [(aA 42 0),(aj 43 (.bin .neq (.t 42) (.c (.str [])))),(bk 2 43)]) .ret)))
theorem EY:bw Tryz.prog 84 44 [(.tmp 2)] (erase EX):=⟨Tryz.f84,_,rfl,by decide,rfl,by kernel_rfl,rfl,rfl⟩
abbrev mj:List Nat:=[0,2,3,4,8,41]
def iE (s1:List UInt8) (i2:Int):Option (Bool):=
 (idx s1 i2).bind fun x3=>
 (if (decide (x3=46)) then
  (if (decide (0<i2)) then
   (if (decide ((IntKind.wrap .i64 (i2+1))<(s1.length:Int))) then
    (idx s1 (IntKind.wrap .i64 (i2 - 1))).bind fun x4=>some (!decide (x4=46))
   else
    some false)
  else
   some false)
 else
  some false)
def kI (F:Nat) (EZ:Bool) (s1:List UInt8) (i2:Int):Option (Bool):=
 (if (!EZ) then
  (idx s1 i2).bind fun x7=>(jG F x7).bind fun r8=>some (!r8)
 else
  some false)
def fh (F:Nat) (s1:List UInt8):Int→Option (St Bool Unit Int)
 |i2=>
  (if (decide (i2<(s1.length:Int))) then
   (iE s1 i2).bind fun EZ=>
   (kI F EZ s1 i2).bind fun t10=>
   (if t10 then
    some (.ret false)
   else
    some (.cT (IntKind.wrap .i64 (i2+1))))
  else
   some (.fI ()))
def mo (F:Nat) (s1:List UInt8):Option (Bool):=
 ((iter (fh F s1) F 0).bind fun KZ=>
 match KZ with
 | .inr ()=>
   some (!decide (s1=([]:List UInt8)))
 | .inl nN=>
   some nN)
theorem zu {s1:List UInt8} {i2:Int} {H:AH} {K:Exit→Env→AH→Prop} {ZJ:Bool}
 (h:iE s1 i2=some ZJ)
 (kn:K .normal [(0,(.str s1)),(3,(.int .i64 i2)),(4,(.bool ZJ))] H):
 AX Tryz.prog mj 44 H.length (erase rP) K [(0,(.str s1)),(3,(.int .i64 i2))] H:=by
 refine dz fun K' hK=> ?_
 rw [iE.eq_1] at h
 obtain ⟨x3,bf,h⟩:=ay h
 refine bO bf ?_
 refine cr h (fun bz h=> ?_) fun bz h=> ?_
 · refine bO bz ?_
   refine cr h (fun bu h=> ?_) fun bu h=> ?_
   · refine bO bu ?_
     refine cr h (fun bW h=> ?_) fun bW h=> ?_
     · obtain ⟨x4,cw,h⟩:=ay h
       refine bO (aB bW cw) ?_
       obtain rfl:=aK h
       exact hK _ _ _ _ _ aZ ax kn
     · refine bO bW ?_
       obtain rfl:=aK h
       exact hK _ _ _ _ _ aZ ax kn
   · refine bO bu ?_
     obtain rfl:=aK h
     exact hK _ _ _ _ _ aZ ax kn
 · refine bO bz ?_
   obtain rfl:=aK h
   exact hK _ _ _ _ _ aZ ax kn
theorem zw {F:Nat} {EZ:Bool} {s1:List UInt8} {i2:Int} {H:AH} {K:Exit→Env→AH→Prop} {t9:Bool}
 (h:kI F EZ s1 i2=some t9)
 (kn:K .normal [(0,(.str s1)),(3,(.int .i64 i2)),(41,(.bool t9))] H):
 AX Tryz.prog mj 44 H.length (erase rQ) K [(0,(.str s1)),(3,(.int .i64 i2)),(4,(.bool EZ))] H:=by
 refine dz fun K' hK=> ?_
 rw [kI.eq_1] at h
 refine aS ?_
 refine cr h (fun dD h=> ?_) fun dD h=> ?_
 · obtain ⟨x7,eE,h⟩:=ay h
   refine bO (aB dD eE) ?_
   obtain ⟨r8,dh,h⟩:=ay h
   refine bg ax (Dh dh) ?_
   refine aS ?_
   obtain rfl:=aK h
   exact hK _ _ _ _ _ aZ ax kn
 · refine bO dD ?_
   obtain rfl:=aK h
   exact hK _ _ _ _ _ aZ ax kn
theorem zx {F:Nat} {i2:Int} {s1:List UInt8} {H:AH} {K:Exit→Env→AH→Prop} {o:(Bool)⊕(Unit)}
 (h:iter (fh F s1) F i2=some o)
 (dj:∀o':Unit,o= .inr o'→K (.exit 0) [(0,(.str s1))] H)
 (kr:∀o':Bool,o= .inl o'→K .ret [(2,(.bool o'))] H):
 AX Tryz.prog mj 44 H.length (.loop (erase qv)) K [(0,(.str s1)),(3,(.int .i64 i2))] H:=by
 refine iZ (fun s e H1=>match s with|i2=>e=[(0,(.str s1)),(3,(.int .i64 i2))]∧H1=H) h ⟨rfl,rfl⟩ ?_
 rintro K' i2 st e H ⟨rfl,rfl⟩ h hN hB hR hX
 rw [fh.eq_1] at h
 refine aS ?_
 refine b7 h (fun hy1 h=> ?_) fun hy1 h=> ?_
 · refine aS ?_
   obtain ⟨EZ,dB,h⟩:=ay h
   refine cg ax (zu dB ?_)
   refine aS ?_
   obtain ⟨t10,cH,h⟩:=ay h
   refine cg ax (zw cH ?_)
   refine aS ?_
   refine b7 h (fun eA h=> ?_) fun eA h=> ?_
   · refine aS ?_
     obtain rfl:=aK h
     exact hX _ _ _ _ _ eK aZ ax (kr _ (hR _ rfl))
   · refine aS ?_
     obtain rfl:=aK h
     exact hN _ rfl _ _ _ _ aZ ax ⟨rfl,rfl⟩
 · refine aS ?_
   obtain rfl:=aK h
   exact hX _ _ _ _ _ eK aZ ax (dj _ (hB _ rfl))
theorem Di {F:Nat} {s1:List UInt8} {H0:AH} {aM:Bool} (h:mo F s1=some aM):
 aG Tryz.prog 84 [(.str s1)] H0 fun v H'=>v=(.bool aM)∧H'=H0:=by
 refine gx EY mj fun hcl K0 aP=> ?_
 rw [mo.eq_1] at h
 refine aS ?_
 obtain ⟨KZ,di,h⟩:=ay h
 refine cg ax (zx di ?_ ?_)
 · rintro ⟨⟩ rfl
   try dsimp only at h
   refine aS ?_
   obtain rfl:=aK h
   exact aP _ _ _ bG (aW hcl (bD bx (.bool (!decide (s1=([]:List UInt8))))) bB bt ⟨rfl,rfl⟩)
 · rintro nN rfl
   try dsimp only at h
   refine aS ?_
   obtain rfl:=aK h
   exact aP _ _ _ bG (aW hcl (bD bx (.bool nN)) bB bt ⟨rfl,rfl⟩)
abbrev tA:aD:=(.rg [(aj 5 (.aV (.t 1) 0)),(aj 6 (.ld (.t 5) none)),(aj 7 (.bin .eql (.t 6) (.c (.str [])))),(aA 8 7),(aF 9 (.aV (.t 1) 1) 8 true),(aF 10 (.ld (.t 9) none) 8 true),(aF 11 (.bin .eql (.t 10) (.c (.str []))) 8 true),(aj 12 (.pick (.t 8) (.t 11) (.c (.bool false))))])
abbrev tB:aD:=(.rg [(aj 32 (.aV (.t 1) 0)),(aj 33 (.ld (.t 32) none)),(aA 34 4),(aj 35 (.ixs (.t 33) (.t 34))),(aj 36 (.bin .eql (.t 35) (.c (b8 34)))),(aA 37 36),(aF 38 (.aV (.t 1) 0) 37 false),(aF 39 (.ld (.t 38) none) 37 false),(aF 40 (.mv (.t 4)) 37 false),(aF 41 (.ixs (.t 39) (.t 40)) 37 false),(aF 42 (.bin .eql (.t 41) (.c (b8 92))) 37 false),(aj 43 (.pick (.t 37) (.c (.bool true)) (.t 42)))])
abbrev rR:aD:=(.seq (.seq (.rg [(aA 25 4),(aj 26 (.aV (.t 1) 0)),(aj 27 (.ld (.t 26) none)),(aj 28 (.lens (.t 27))),(aj 29 (.bin .lss (.t 25) (.t 28)))]) (.cond (.t 29) .skip (.exit 0))) (.seq (.blk 1 (.seq (.seq (.sem (erase tB)) (.cond (.t 43) (.rg [(aA 44 3),(aj 45 (.jQ 1 [(.c (b8 92))])),(aj 46 (.app 1 1 (.t 44) (.t 45))),(bk 3 46)]) .skip)) (.rg [(aA 47 3),(aj 48 (.aV (.t 1) 0)),(aj 49 (.ld (.t 48) none)),(aA 50 4),(aj 51 (.ixs (.t 49) (.t 50))),(aj 52 (.jQ 1 [(.t 51)])),(aj 53 (.app 1 1 (.t 47) (.t 52))),(bk 3 53)]))) (.rg [(aA 30 4),(aj 31 (.bin .add (.t 30) (.c (.int .i64 1)))),(bk 4 31)])))
abbrev tC:aD:=(.rg [(aA 54 3),(aj 59 (.aV (.t 1) 1)),(aj 60 (.lJ (.t 59) none)),(aj 55 (.jQ 1 [(.c (b8 34))])),(aj 56 (.app 1 1 (.t 54) (.t 55))),(aj 57 (.vD (.t 56))),(aj 58 (.bin .add (.t 57) (.c (.str [64])))),(aj 61 (.bin .add (.t 58) (.t 60))),(aj 62 (.bin .add (.t 61) (.c (.str [62])))),(bk 2 62)])
abbrev Gb:aD:=(.seq (.rg [(aj 1 (.box (.t 0))),(aj 2 (.aY (.c (.str []))))]) (.seq (.seq (.sem (erase tA)) (.cond (.t 12) (.seq (.rg [(aj 2 (.aY (.c (.str [60,62]))))]) .ret) .skip)) (.seq (.seq (.rg [(aj 13 (.aV (.t 1) 0)),(aj 14 (.ld (.t 13) none)),(aj 15 (.call (.c (.fn 84 [])) [(.t 14)]))]) (.cond (.t 15) (.seq (.rg [(aj 16 (.aV (.t 1) 0)),(aj 17 (.ld (.t 16) none)),(aj 18 (.bin .add (.c (.str [60])) (.t 17))),(aj 19 (.bin .add (.t 18) (.c (.str [64])))),(aj 20 (.aV (.t 1) 1)),(aj 21 (.ld (.t 20) none)),(aj 22 (.bin .add (.t 19) (.t 21))),(aj 23 (.bin .add (.t 22) (.c (.str [62])))),(bk 2 23)]) .ret) .skip)) (.seq (.rg [(aj 24 (.jQ 1 [(.c (b8 60)),(.c (b8 34))])),(bk 3 24)]) (.seq (.seq (.rg [(aj 4 (.aY (.c (.int .i64 0))))]) (.blk 0 (.loop (erase rR)))) (.seq (.sem (erase tC)) .ret))))))
theorem Gc:bw Tryz.prog 69 63 [(.tmp 2)] (erase Gb):=⟨Tryz.f69,_,rfl,by decide,rfl,by kernel_rfl,rfl,rfl⟩
abbrev kB:List Nat:=[0,1,2,3,4,12,15,29,43]
def mq (a1:aJ) (i10:Int):Option (Bool):=
 (idx a1.au i10).bind fun NV=>
 (if (decide (NV=34)) then
  some true
 else
  some (decide (NV=92)))
def fQ (a1:aJ):((List UInt8)×Int)→Option (St (List UInt8) (List UInt8) ((List UInt8)×Int))
 |(b9,i10)=>
  (if (decide (i10<(a1.au.length:Int))) then
   (mq a1 i10).bind fun t14=>
   (if t14 then
    (cC 1 b9 ([92]:List UInt8)).bind fun KL=>
    (idx a1.au i10).bind fun Sn=>
    (cC 1 KL ([Sn]:List UInt8)).bind fun NW=>some (.cT (NW,(IntKind.wrap .i64 (i10+1))))
   else
    (idx a1.au i10).bind fun Iz=>
    (cC 1 b9 ([Iz]:List UInt8)).bind fun Sk=>some (.cT (Sk,(IntKind.wrap .i64 (i10+1)))))
  else
   some (.fI b9))
def mu (K2:List UInt8) (a1:aJ):Option ((List UInt8)):=
 (cC 1 K2 ([34]:List UInt8)).bind fun x22=>
 (cat x22 ([64]:List UInt8)).bind fun VC=>
 (cat VC a1.domain).bind fun VD=>(cat VD ([62]:List UInt8)).bind fun BQ=>some BQ
def nW (F:Nat) (a1:aJ):Option ((List UInt8)):=
 (if ((decide (a1.au=([]:List UInt8)))&&(decide (a1.domain=([]:List UInt8)))) then
  some ([60,62]:List UInt8)
 else
  (mo F a1.au).bind fun r3=>
  (if r3 then
   (cat ([60]:List UInt8) a1.au).bind fun x4=>
   (cat x4 ([64]:List UInt8)).bind fun x5=>
   (cat x5 a1.domain).bind fun x6=>(cat x6 ([62]:List UInt8)).bind fun x7=>some x7
  else
   ((iter (fQ a1) F (([60,34]:List UInt8),0)).bind fun VS=>
   match VS with
   | .inr K2=>
     (mu K2 a1).bind fun t27=>
     some t27
   | .inl _=>none)))
theorem AR {q2:Nat} {a1:aJ} {H0 H:AH} (hfr:Fr H0 H0.length [] H) (ai:H[q2]? =some [(.str a1.au),(.str a1.domain)]) (eS:H0.length≤q2) {K:Exit→Env→AH→Prop}
 (kn:∀H':AH,Fr H0 H0.length [] H'→H'[q2]? =some [(.str a1.au),(.str a1.domain)]→K .normal [(1,(.ptr q2 0)),(12,(.bool ((decide (a1.au=([]:List UInt8)))&&(decide (a1.domain=([]:List UInt8))))))] H'):
 AX Tryz.prog kB 63 H0.length (erase tA) K [(1,(.ptr q2 0))] H:=by
 refine dz fun K' hK=> ?_
 have hle:=hfr.le
 have aU:=aL ai
 refine aE ai ?_
 refine jZ (fun hy1=> ?_) fun hy1=> ?_
 · refine aE (aB hy1 ai) ?_
   exact hK _ _ _ _ _ (dy hy1) ax (kn _ hfr (ai.trans rfl))
 · refine aE (aB hy1 ai) ?_
   exact hK _ _ _ _ _ (dy hy1) ax (kn _ hfr (ai.trans rfl))
theorem AU {a1:aJ} {i10:Int} {oh:Nat} {b9:List UInt8} {H0 H:AH} (hfr:Fr H0 H0.length [] H) (ai:H[oh]? =some [(.str a1.au),(.str a1.domain)]) (eS:H0.length≤oh) {K:Exit→Env→AH→Prop} {t13:Bool}
 (h:mq a1 i10=some t13)
 (kn:∀H':AH,Fr H0 H0.length [] H'→H'[oh]? =some [(.str a1.au),(.str a1.domain)]→K .normal [(1,(.ptr oh 0)),(3,(.sl .own 1 (ml b8 b9))),(4,(.int .i64 i10)),(43,(.bool t13))] H'):
 AX Tryz.prog kB 63 H0.length (erase tB) K [(1,(.ptr oh 0)),(3,(.sl .own 1 (ml b8 b9))),(4,(.int .i64 i10))] H:=by
 refine dz fun K' hK=> ?_
 have hle:=hfr.le
 have aU:=aL ai
 rw [mq.eq_1] at h
 obtain ⟨NV,dh,h⟩:=ay h
 refine aE (aB dh ai) ?_
 refine cr h (fun cH h=> ?_) fun cH h=> ?_
 · refine aE (aB cH ai) ?_
   obtain rfl:=aK h
   exact hK _ _ _ _ _ aZ ax (kn _ hfr (ai.trans rfl))
 · refine aE (aB cH (aB dh ai)) ?_
   obtain rfl:=aK h
   exact hK _ _ _ _ _ aZ ax (kn _ hfr (ai.trans rfl))
theorem AY {F:Nat} {i10:Int} {a1:aJ} {b9:List UInt8} {q8:Nat} {H0 H:AH} (hfr:Fr H0 H0.length [] H) (ai:H[q8]? =some [(.str a1.au),(.str a1.domain)]) (eS:H0.length≤q8) {K:Exit→Env→AH→Prop} {o:((List UInt8))⊕((List UInt8))}
 (h:iter (fQ a1) F (b9,i10)=some o)
 (dj:∀o':(List UInt8),o= .inr o'→∀H':AH,Fr H0 H0.length [] H'→H'[q8]? =some [(.str a1.au),(.str a1.domain)]→K (.exit 0) [(1,(.ptr q8 0)),(3,(.sl .own 1 (ml b8 o')))] H'):
 AX Tryz.prog kB 63 H0.length (.loop (erase rR)) K [(1,(.ptr q8 0)),(3,(.sl .own 1 (ml b8 b9))),(4,(.int .i64 i10))] H:=by
 refine iZ (fun s e H1=>match s with|(b9,i10)=>e=[(1,(.ptr q8 0)),(3,(.sl .own 1 (ml b8 b9))),(4,(.int .i64 i10))]∧Fr H0 H0.length [] H1∧H1[q8]? =some [(.str a1.au),(.str a1.domain)]) h ⟨rfl,hfr,ai⟩ ?_
 rintro K' ⟨b9,i10⟩ st e H ⟨rfl,hfr,ai⟩ h hN hB hR hX
 have hle:=hfr.le
 have aU:=aL ai
 rw [fQ.eq_1] at h
 refine aE ai ?_
 refine b7 h (fun eE h=> ?_) fun eE h=> ?_
 · refine aE ai ?_
   obtain ⟨t14,eA,h⟩:=ay h
   refine cg ax (AU (b9:=b9) (oh:=q8) hfr (ai.trans rfl) br eA ?_)
   intro H hfr ai
   have hle:=hfr.le
   have aU:=aL ai
   refine aE ai ?_
   refine b7 h (fun di h=> ?_) fun di h=> ?_
   · obtain ⟨KL,gj,h⟩:=ay h
     have lW:cC 1 (ml b8 b9) [(b8 92)]=some (ml b8 KL):=eo (f:=b8) gj
     obtain ⟨Sn,gl,h⟩:=ay h
     obtain ⟨NW,j7,h⟩:=ay h
     have nP:cC 1 (ml b8 KL) [(b8 Sn)]=some (ml b8 NW):=eo (f:=b8) j7
     refine aE (aB lW (aB gl (aB nP ai))) ?_
     obtain rfl:=aK h
     exact hN _ rfl _ _ _ _ aZ ax ⟨rfl,hfr,(ai.trans rfl)⟩
   · obtain ⟨Iz,j9,h⟩:=ay h
     obtain ⟨Sk,kf,h⟩:=ay h
     have p6:cC 1 (ml b8 b9) [(b8 Iz)]=some (ml b8 Sk):=eo (f:=b8) kf
     refine aE (aB j9 (aB p6 ai)) ?_
     obtain rfl:=aK h
     exact hN _ rfl _ _ _ _ aZ ax ⟨rfl,hfr,(ai.trans rfl)⟩
 · refine aE ai ?_
   obtain rfl:=aK h
   exact hX _ _ _ _ _ eK aZ ax (dj _ (hB _ rfl) _ hfr (ai.trans rfl))
theorem AZ {K2:List UInt8} {a1:aJ} {H0 H:AH} (hfr:Fr H0 H0.length [] H) {K:Exit→Env→AH→Prop} {t26:List UInt8}
 (h:mu K2 a1=some t26)
 (kn:∀H':AH,Fr H0 H0.length [] H'→K .normal [(2,(.str t26))] H'):
 AX Tryz.prog kB 63 H0.length (erase tC) K [(1,(.ep (.agg [(.str a1.au),(.str a1.domain)]) 0)),(3,(.sl .own 1 (ml b8 K2)))] H:=by
 refine dz fun K' hK=> ?_
 have hle:=hfr.le
 rw [mu.eq_1] at h
 obtain ⟨x22,s5,h⟩:=ay h
 have nQ:cC 1 (ml b8 K2) [(b8 34)]=some (ml b8 x22):=eo (f:=b8) s5
 obtain ⟨VC,p7,h⟩:=ay h
 obtain ⟨VD,En,h⟩:=ay h
 obtain ⟨BQ,KQ,h⟩:=ay h
 refine aE (aB nQ (aB p7 (aB En KQ))) ?_
 obtain rfl:=aK h
 exact hK _ _ _ _ _ aZ ax (kn _ hfr)
theorem E0 {F:Nat} {a1:aJ} {H0:AH} {aM:List UInt8} (h:nW F a1=some aM):
 aG Tryz.prog 69 [(.agg [(.str a1.au),(.str a1.domain)])] H0 fun v H'=>v=(.str aM)∧H'=H0:=by
 refine ef Gc kB [] fun hcl K0 aP H hH hfr=> ?_
 clear hH
 have hle:=hfr.le
 rw [nW.eq_1] at h
 refine bV ?_
 obtain ⟨q2,eF⟩:∃q:Nat,H.length=q:=⟨_,rfl⟩
 try rw [eF]
 refine cg ax (AR (q2:=q2) (a1:=a1) (Fr.app hfr) jY br ?_)
 intro H hfr ai
 have hle:=hfr.le
 have aU:=aL ai
 refine aE ai ?_
 refine b7 h (fun bf h=> ?_) fun bf h=> ?_
 · refine aE ai ?_
   obtain rfl:=aK h
   exact aP _ _ _ bG (bp hfr hcl (bD bx (.str ([60,62]:List UInt8))) bB bt ⟨rfl,rfl⟩)
 · refine aE ai ?_
   obtain ⟨r3,bz,h⟩:=ay h
   refine bg ax (Di bz) ?_
   refine aE ai ?_
   refine b7 h (fun bu h=> ?_) fun bu h=> ?_
   · obtain ⟨x4,bW,h⟩:=ay h
     obtain ⟨x5,cw,h⟩:=ay h
     obtain ⟨x6,dB,h⟩:=ay h
     obtain ⟨x7,dD,h⟩:=ay h
     refine aE (aB bW (aB cw (aB dB (aB dD ai)))) ?_
     obtain rfl:=aK h
     exact aP _ _ _ bG (bp hfr hcl (bD bx (.str x7)) bB bt ⟨rfl,rfl⟩)
   · refine aE ai ?_
     obtain ⟨VS,k7,h⟩:=ay h
     refine cg ax (AY (q8:=q2) hfr (ai.trans rfl) br k7 ?_)
     · rintro K2 rfl H hfr ai
       try dsimp only at h ai
       have hle:=hfr.le
       have aU:=aL ai
       refine aE ai ?_
       refine NR ?_
       apply AX.freeze (s:=q2) (cs:=[(.str a1.au),(.str a1.domain)]) (by exact (ai.trans rfl)) (cv.same (cv.same (cv.nil))) (by simp)
       · repeat (first|exact FZ.nil|apply FZ.ep|apply FZ.same)
       refine Vv ?_
       obtain ⟨t27,VM,h⟩:=ay h
       refine cg ax (AZ (bn _ hfr) VM ?_)
       intro H hfr
       have hle:=hfr.le
       refine bV ?_
       obtain rfl:=aK h
       exact aP _ _ _ bG (bp hfr hcl (bD bx (.str t27)) bB bt ⟨rfl,rfl⟩)
abbrev rS:aD:=(.rg [(aj 3 (.aV (.t 1) 0)),(aj 4 (.ld (.t 3) none)),(aj 5 (.bin .eql (.t 4) (.c (.str [])))),(aA 6 5),(aF 7 (.aV (.t 1) 1) 6 true),(aF 8 (.ld (.t 7) none) 6 true),(aF 9 (.bin .eql (.t 8) (.c (.str []))) 6 true),(aj 10 (.pick (.t 6) (.t 9) (.c (.bool false))))])
abbrev rT:aD:=(.rg [(aj 11 (.aV (.t 1) 0)),(aj 12 (.ld (.t 11) none)),(aj 13 (.call (.c (.fn 67 [])) [(.t 12)])),(aA 14 13),(aF 15 (.aV (.t 1) 1) 14 true),(aF 16 (.ld (.t 15) none) 14 true),(aF 17 (.call (.c (.fn 68 [])) [(.t 16)]) 14 true),(aj 18 (.pick (.t 14) (.t 17) (.c (.bool false)))),(aA 19 18),(aF 20 (.ld (.t 1) (some 2)) 19 true),(aF 21 (.call (.c (.fn 69 [])) [(.t 20)]) 19 true),(aF 22 (.lens (.t 21)) 19 true),(aF 23 (.bin .leq (.t 22) (.c (.int .i64 256))) 19 true),(aj 24 (.pick (.t 19) (.t 23) (.c (.bool false)))),(bk 2 24)])
abbrev E1:aD:=(.seq (.rg [(aj 1 (.box (.t 0))),(aj 2 (.aY (.c (.bool false))))]) (.seq (.seq (.sem (erase rS)) (.cond (.t 10) (.seq (.rg [(aj 2 (.aY (.c (.bool true))))]) .ret) .skip)) (.seq (.sem (erase rT)) .ret)))
theorem E2:bw Tryz.prog 37 25 [(.tmp 2)] (erase E1):=⟨Tryz.f37,_,rfl,by decide,rfl,by kernel_rfl,rfl,rfl⟩
abbrev qw:List Nat:=[0,1,2,10]
def kJ (F:Nat) (a1:aJ):Option (Bool):=
 (mc F a1.au).bind fun r4=>
 (if r4 then
  (fG F a1.domain).bind fun r5=>
  (if r5 then
   (nW F a1).bind fun r6=>some (decide ((r6.length:Int)≤256))
  else
   some false)
 else
  some false)
def jH (F:Nat) (a1:aJ):Option (Bool):=
 (if ((decide (a1.au=([]:List UInt8)))&&(decide (a1.domain=([]:List UInt8)))) then
  some true
 else
  (kJ F a1).bind fun t8=>
  some t8)
theorem zy {q2:Nat} {a1:aJ} {H0 H:AH} (hfr:Fr H0 H0.length [] H) (ai:H[q2]? =some [(.str a1.au),(.str a1.domain)]) (eS:H0.length≤q2) {K:Exit→Env→AH→Prop}
 (kn:∀H':AH,Fr H0 H0.length [] H'→H'[q2]? =some [(.str a1.au),(.str a1.domain)]→K .normal [(1,(.ptr q2 0)),(10,(.bool ((decide (a1.au=([]:List UInt8)))&&(decide (a1.domain=([]:List UInt8))))))] H'):
 AX Tryz.prog qw 25 H0.length (erase rS) K [(1,(.ptr q2 0))] H:=by
 refine dz fun K' hK=> ?_
 have hle:=hfr.le
 have aU:=aL ai
 refine aE ai ?_
 refine jZ (fun hy1=> ?_) fun hy1=> ?_
 · refine aE (aB hy1 ai) ?_
   exact hK _ _ _ _ _ (dy hy1) ax (kn _ hfr (ai.trans rfl))
 · refine aE (aB hy1 ai) ?_
   exact hK _ _ _ _ _ (dy hy1) ax (kn _ hfr (ai.trans rfl))
theorem zz {F:Nat} {a1:aJ} {q3:Nat} {H0 H:AH} (hfr:Fr H0 H0.length [] H) (ai:H[q3]? =some [(.str a1.au),(.str a1.domain)]) (eS:H0.length≤q3) {K:Exit→Env→AH→Prop} {t7:Bool}
 (h:kJ F a1=some t7)
 (kn:∀H':AH,Fr H0 H0.length [] H'→H'[q3]? =some [(.str a1.au),(.str a1.domain)]→K .normal [(2,(.bool t7))] H'):
 AX Tryz.prog qw 25 H0.length (erase rT) K [(1,(.ptr q3 0))] H:=by
 refine dz fun K' hK=> ?_
 have hle:=hfr.le
 have aU:=aL ai
 rw [kJ.eq_1] at h
 refine aE ai ?_
 obtain ⟨r4,bz,h⟩:=ay h
 refine bg ax (Da bz) ?_
 refine aE ai ?_
 refine cr h (fun bu h=> ?_) fun bu h=> ?_
 · refine aE (aB bu ai) ?_
   obtain ⟨r5,bW,h⟩:=ay h
   refine bg ax (B7 bW) ?_
   refine aE ai ?_
   refine cr h (fun cw h=> ?_) fun cw h=> ?_
   · refine aE (aB cw ai) ?_
     obtain ⟨r6,dB,h⟩:=ay h
     refine bg ax (E0 dB) ?_
     refine aE ai ?_
     obtain rfl:=aK h
     exact hK _ _ _ _ _ aZ ax (kn _ hfr (ai.trans rfl))
   · refine aE (aB cw ai) ?_
     obtain rfl:=aK h
     exact hK _ _ _ _ _ aZ ax (kn _ hfr (ai.trans rfl))
 · refine aE (aB bu ai) ?_
   obtain rfl:=aK h
   exact hK _ _ _ _ _ aZ ax (kn _ hfr (ai.trans rfl))
theorem uV {F:Nat} {a1:aJ} {H0:AH} {aM:Bool} (h:jH F a1=some aM):
 aG Tryz.prog 37 [(.agg [(.str a1.au),(.str a1.domain)])] H0 fun v H'=>v=(.bool aM)∧H'=H0:=by
 refine ef E2 qw [] fun hcl K0 aP H hH hfr=> ?_
 clear hH
 have hle:=hfr.le
 rw [jH.eq_1] at h
 refine bV ?_
 obtain ⟨q2,eF⟩:∃q:Nat,H.length=q:=⟨_,rfl⟩
 try rw [eF]
 refine cg ax (zy (q2:=q2) (a1:=a1) (Fr.app hfr) jY br ?_)
 intro H hfr ai
 have hle:=hfr.le
 have aU:=aL ai
 refine aE ai ?_
 refine b7 h (fun bf h=> ?_) fun bf h=> ?_
 · refine aE ai ?_
   obtain rfl:=aK h
   exact aP _ _ _ bG (bp hfr hcl (bD bx (.bool true)) bB bt ⟨rfl,rfl⟩)
 · refine aE ai ?_
   obtain ⟨t8,dD,h⟩:=ay h
   refine cg ax (zz (q3:=q2) hfr (ai.trans rfl) br dD ?_)
   intro H hfr ai
   have hle:=hfr.le
   have aU:=aL ai
   refine aE ai ?_
   obtain rfl:=aK h
   exact aP _ _ _ bG (bp hfr hcl (bD bx (.bool t8)) bB bt ⟨rfl,rfl⟩)
abbrev wG:aD:=(.rg [(aA 5 0),(aj 6 (.bin .geq (.t 5) (.c (.int .i64 0)))),(aA 7 6),(aF 8 (.mv (.t 0)) 7 true),(aF 9 (.mv (.t 1)) 7 true),(aF 10 (.bin .leq (.t 8) (.t 9)) 7 true),(aj 11 (.pick (.t 7) (.t 10) (.c (.bool false)))),(bk 4 11)])
abbrev K3:aD:=(.seq (.rg [(aj 4 (.aY (.c (.bool false))))]) (.seq (.sem (erase wG)) .ret))
theorem K4:bw Tryz.prog 38 12 [(.tmp 4)] (erase K3):=⟨Tryz.f38,_,rfl,by decide,rfl,by kernel_rfl,rfl,rfl⟩
abbrev CB:List Nat:=[0,1,4]
def mX (B8:Int) (sH:Int):Option (Bool):=
 some ((decide (0≤B8))&&(decide (B8≤sH)))
theorem Dj {B8:Int} {sH:Int} {H:AH} {K:Exit→Env→AH→Prop}
 (kn:K .normal [(4,(.bool ((decide (0≤B8))&&(decide (B8≤sH)))))] H):
 AX Tryz.prog CB 12 H.length (erase wG) K [(0,(.int .i64 B8)),(1,(.int .i64 sH)),(4,(.bool false))] H:=by
 refine dz fun K' hK=> ?_
 refine aS ?_
 refine jZ (fun hy1=> ?_) fun hy1=> ?_
 · refine bO hy1 ?_
   exact hK _ _ _ _ _ (dy hy1) ax kn
 · refine bO hy1 ?_
   exact hK _ _ _ _ _ (dy hy1) ax kn
theorem oV {B8:Int} {sH:Int} {H0:AH} {aM:Bool} (h:mX B8 sH=some aM):
 aG Tryz.prog 38 [(.int .i64 B8),(.int .i64 sH)] H0 fun v H'=>v=(.bool aM)∧H'=H0:=by
 refine gx K4 CB fun hcl K0 aP=> ?_
 rw [mX.eq_1] at h
 refine aS ?_
 refine cg ax (Dj (B8:=B8) (sH:=sH) ?_)
 refine aS ?_
 obtain rfl:=aK h
 exact aP _ _ _ bG (aW hcl (bD bx (.bool ((decide (0≤B8))&&(decide (B8≤sH))))) bB bt ⟨rfl,rfl⟩)
abbrev tD:aD:=(.rg [(aj 3 (.aV (.t 1) 0)),(aj 4 (.ld (.t 3) none)),(aj 5 (.bin .eql (.t 4) (.c (.str [])))),(aA 6 5),(aF 7 (.aV (.t 1) 1) 6 true),(aF 8 (.ld (.t 7) none) 6 true),(aF 9 (.bin .eql (.t 8) (.c (.str []))) 6 true),(aj 10 (.pick (.t 6) (.t 9) (.c (.bool false)))),(bk 2 10)])
abbrev Gd:aD:=(.seq (.rg [(aj 1 (.box (.t 0))),(aj 2 (.aY (.c (.bool false))))]) (.seq (.sem (erase tD)) .ret))
theorem Ge:bw Tryz.prog 70 11 [(.tmp 2)] (erase Gd):=⟨Tryz.f70,_,rfl,by decide,rfl,by kernel_rfl,rfl,rfl⟩
abbrev yd:List Nat:=[0,1,2]
def nX (a1:aJ):Option (Bool):=
 some ((decide (a1.au=([]:List UInt8)))&&(decide (a1.domain=([]:List UInt8))))
theorem A0 {q2:Nat} {a1:aJ} {H0 H:AH} (hfr:Fr H0 H0.length [] H) (ai:H[q2]? =some [(.str a1.au),(.str a1.domain)]) (eS:H0.length≤q2) {K:Exit→Env→AH→Prop}
 (kn:∀H':AH,Fr H0 H0.length [] H'→H'[q2]? =some [(.str a1.au),(.str a1.domain)]→K .normal [(2,(.bool ((decide (a1.au=([]:List UInt8)))&&(decide (a1.domain=([]:List UInt8))))))] H'):
 AX Tryz.prog yd 11 H0.length (erase tD) K [(1,(.ptr q2 0)),(2,(.bool false))] H:=by
 refine dz fun K' hK=> ?_
 have hle:=hfr.le
 have aU:=aL ai
 refine aE ai ?_
 refine jZ (fun hy1=> ?_) fun hy1=> ?_
 · refine aE (aB hy1 ai) ?_
   exact hK _ _ _ _ _ (dy hy1) ax (kn _ hfr (ai.trans rfl))
 · refine aE (aB hy1 ai) ?_
   exact hK _ _ _ _ _ (dy hy1) ax (kn _ hfr (ai.trans rfl))
theorem E3 {a1:aJ} {H0:AH} {aM:Bool} (h:nX a1=some aM):
 aG Tryz.prog 70 [(.agg [(.str a1.au),(.str a1.domain)])] H0 fun v H'=>v=(.bool aM)∧H'=H0:=by
 refine ef Ge yd [] fun hcl K0 aP H hH hfr=> ?_
 clear hH
 have hle:=hfr.le
 rw [nX.eq_1] at h
 refine bV ?_
 obtain ⟨q2,eF⟩:∃q:Nat,H.length=q:=⟨_,rfl⟩
 try rw [eF]
 refine cg ax (A0 (q2:=q2) (a1:=a1) (Fr.app hfr) jY br ?_)
 intro H hfr ai
 have hle:=hfr.le
 have aU:=aL ai
 refine aE ai ?_
 obtain rfl:=aK h
 exact aP _ _ _ bG (bp hfr hcl (bD bx (.bool ((decide (a1.au=([]:List UInt8)))&&(decide (a1.domain=([]:List UInt8)))))) bB bt ⟨rfl,rfl⟩)
abbrev tE:aD:=(.rg ((aj 3 (.aV (.t 1) 0))::(aj 4 (.ld (.t 3) (some 2)))::(aj 5 (.call (.c (.fn 37 [])) [(.t 4)]))::(aA 6 5)::(aF 7 (.aV (.t 1) 0) 6 true)::(aF 8 (.ld (.t 7) (some 2)) 6 true)::(aF 9 (.call (.c (.fn 70 [])) [(.t 8)]) 6 true)::(aF 10 (.un .not (.t 9)) 6 true)::(aj 11 (.pick (.t 6) (.t 10) (.c (.bool false))))::(aA 12 11)::(aF 13 (.aV (.t 1) 2) 12 true)::(aF 14 (.ld (.t 13) none) 12 true)::(aF 15 (.bin .geq (.t 14) (.c (.int .i64 1))) 12 true)::(aj 16 (.pick (.t 12) (.t 15) (.c (.bool false))))::(aA 17 16)::(aF 18 (.aV (.t 1) 2) 17 true)::(aF 19 (.ld (.t 18) none) 17 true)::(aF 20 (.bin .leq (.t 19) (.c (.int .i64 5))) 17 true)::(aj 21 (.pick (.t 17) (.t 20) (.c (.bool false))))::(aA 22 21)::(aF 23 (.aV (.t 1) 3) 22 true)::(aF 24 (.ld (.t 23) none) 22 true)::(aF 25 (.call (.c (.fn 38 [])) [(.t 24),(.c (.int .i64 255))]) 22 true)::(aj 26 (.pick (.t 22) (.t 25) (.c (.bool false))))::(aA 27 26)::(aF 28 (.aV (.t 1) 4) 27 true)::(aF 29 (.ld (.t 28) none) 27 true)::(aF 30 (.call (.c (.fn 38 [])) [(.t 29),(.c (.int .i64 2147483647))]) 27 true)::(aj 31 (.pick (.t 27) (.t 30) (.c (.bool false))))::(aA 32 31)::(aF 33 (.aV (.t 1) 5) 32 true)::(aF 34 (.ld (.t 33) none) 32 true)::(aF 35 (.bin .eql (.t 34) (.c (.int .i64 0))) 32 true)::(aF 36 (.mv (.t 35)) 32 true)::(aF 37 (.aV (.t 1) 5) 36 false)::(aF 38 (.ld (.t 37) none) 36 false)::(aF 39 (.bin .geq (.t 38) (.c (.int .i64 200))) 36 false)::(aF 40 (.mv (.t 39)) 36 false)::(aF 41 (.aV (.t 1) 5) 40 true)::(aF 42 (.ld (.t 41) none) 40 true)::(aF 43 (.bin .leq (.t 42) (.c (.int .i64 599))) 40 true)::(aF 44 (.pick (.t 40) (.t 43) (.c (.bool false))) 36 false)::(aF 45 (.pick (.t 36) (.c (.bool true)) (.t 44)) 32 true)::(aj 46 (.pick (.t 32) (.t 45) (.c (.bool false))))::(aA 47 46)::(aF 48 (.aV (.t 1) 6) 47 true)::(aF 49 (.ld (.t 48) none) 47 true)::(aF 50 (.lens (.t 49)) 47 true)::(aF 51 (.bin .leq (.t 50) (.c (.int .i64 100))) 47 true)::(aj 52 (.pick (.t 47) (.t 51) (.c (.bool false))))::(bk 2 52)::[]))
abbrev Gf:aD:=(.seq (.rg [(aj 1 (.box (.t 0))),(aj 2 (.aY (.c (.bool false))))]) (.seq (.sem (erase tE)) .ret))
theorem Gg:bw Tryz.prog 39 53 [(.tmp 2)] (erase Gf):=⟨Tryz.f39,_,rfl,by decide,rfl,by kernel_rfl,rfl,rfl⟩
abbrev ye:List Nat:=[0,1,2]
def mw (F:Nat) (r1:bl):Option (Bool):=
 (jH F r1.ct).bind fun r3=>
 (if r3 then
  (nX r1.ct).bind fun r4=>
  (if (!r4) then
   (if (decide (1≤r1.state)) then
    (if (decide (r1.state≤5)) then
     (mX r1.tries 255).bind fun r5=>
     (if r5 then
      (mX r1.next 2147483647).bind fun r6=>
      (if r6 then
       (if (decide (r1.code=0)) then
        some (decide ((r1.why.length:Int)≤100))
       else
        (if (decide (200≤r1.code)) then
         (if (decide (r1.code≤599)) then
          some (decide ((r1.why.length:Int)≤100))
         else
          some false)
        else
         some false))
      else
       some false)
     else
      some false)
    else
     some false)
   else
    some false)
  else
   some false)
 else
  some false)
def nY (F:Nat) (r1:bl):Option (Bool):=
 (mw F r1).bind fun t8=>
 some t8
theorem A1 {F:Nat} {r1:bl} {q2:Nat} {H0 H:AH} (hfr:Fr H0 H0.length [] H) (ai:H[q2]? =some [(.str r1.ct.au),(.str r1.ct.domain),(.int .i64 r1.state),(.int .i64 r1.tries),(.int .i64 r1.next),(.int .i64 r1.code),(.str r1.why)]) (eS:H0.length≤q2) {K:Exit→Env→AH→Prop} {t7:Bool}
 (h:mw F r1=some t7)
 (kn:∀H':AH,Fr H0 H0.length [] H'→H'[q2]? =some [(.str r1.ct.au),(.str r1.ct.domain),(.int .i64 r1.state),(.int .i64 r1.tries),(.int .i64 r1.next),(.int .i64 r1.code),(.str r1.why)]→K .normal [(2,(.bool t7))] H'):
 AX Tryz.prog ye 53 H0.length (erase tE) K [(1,(.ptr q2 0)),(2,(.bool false))] H:=by
 refine dz fun K' hK=> ?_
 have hle:=hfr.le
 have aU:=aL ai
 rw [mw.eq_1] at h
 refine aE ai ?_
 obtain ⟨r3,hy1,h⟩:=ay h
 refine bg ax (uV hy1) ?_
 refine aE ai ?_
 refine cr h (fun bf h=> ?_) fun bf h=> ?_
 · refine aE (aB bf ai) ?_
   obtain ⟨r4,bz,h⟩:=ay h
   refine bg ax (E3 bz) ?_
   refine aE ai ?_
   refine cr h (fun bu h=> ?_) fun bu h=> ?_
   · refine aE (aB bu ai) ?_
     refine cr h (fun bW h=> ?_) fun bW h=> ?_
     · refine aE (aB bW ai) ?_
       refine cr h (fun cw h=> ?_) fun cw h=> ?_
       · refine aE (aB cw ai) ?_
         obtain ⟨r5,dB,h⟩:=ay h
         refine bg ax (oV dB) ?_
         refine aE ai ?_
         refine cr h (fun dD h=> ?_) fun dD h=> ?_
         · refine aE (aB dD ai) ?_
           obtain ⟨r6,eE,h⟩:=ay h
           refine bg ax (oV eE) ?_
           refine aE ai ?_
           refine cr h (fun dh h=> ?_) fun dh h=> ?_
           · refine aE (aB dh ai) ?_
             refine cr h (fun cH h=> ?_) fun cH h=> ?_
             · refine aE (aB cH ai) ?_
               obtain rfl:=aK h
               exact hK _ _ _ _ _ aZ ax (kn _ hfr (ai.trans rfl))
             · refine aE (aB cH ai) ?_
               refine cr h (fun eA h=> ?_) fun eA h=> ?_
               · refine aE (aB eA ai) ?_
                 refine cr h (fun di h=> ?_) fun di h=> ?_
                 · refine aE (aB di ai) ?_
                   obtain rfl:=aK h
                   exact hK _ _ _ _ _ aZ ax (kn _ hfr (ai.trans rfl))
                 · refine aE (aB di ai) ?_
                   obtain rfl:=aK h
                   exact hK _ _ _ _ _ aZ ax (kn _ hfr (ai.trans rfl))
               · refine aE (aB eA ai) ?_
                 obtain rfl:=aK h
                 exact hK _ _ _ _ _ aZ ax (kn _ hfr (ai.trans rfl))
           · refine aE (aB dh ai) ?_
             obtain rfl:=aK h
             exact hK _ _ _ _ _ aZ ax (kn _ hfr (ai.trans rfl))
         · refine aE (aB dD ai) ?_
           obtain rfl:=aK h
           exact hK _ _ _ _ _ aZ ax (kn _ hfr (ai.trans rfl))
       · refine aE (aB cw ai) ?_
         obtain rfl:=aK h
         exact hK _ _ _ _ _ aZ ax (kn _ hfr (ai.trans rfl))
     · refine aE (aB bW ai) ?_
       obtain rfl:=aK h
       exact hK _ _ _ _ _ aZ ax (kn _ hfr (ai.trans rfl))
   · refine aE (aB bu ai) ?_
     obtain rfl:=aK h
     exact hK _ _ _ _ _ aZ ax (kn _ hfr (ai.trans rfl))
 · refine aE (aB bf ai) ?_
   obtain rfl:=aK h
   exact hK _ _ _ _ _ aZ ax (kn _ hfr (ai.trans rfl))
theorem E4 {F:Nat} {r1:bl} {H0:AH} {aM:Bool} (h:nY F r1=some aM):
 aG Tryz.prog 39 [(.agg [(.str r1.ct.au),(.str r1.ct.domain),(.int .i64 r1.state),(.int .i64 r1.tries),(.int .i64 r1.next),(.int .i64 r1.code),(.str r1.why)])] H0 fun v H'=>v=(.bool aM)∧H'=H0:=by
 refine ef Gg ye [] fun hcl K0 aP H hH hfr=> ?_
 clear hH
 have hle:=hfr.le
 rw [nY.eq_1] at h
 refine bV ?_
 obtain ⟨q2,eF⟩:∃q:Nat,H.length=q:=⟨_,rfl⟩
 try rw [eF]
 obtain ⟨t8,gj,h⟩:=ay h
 refine cg ax (A1 (q2:=q2) (Fr.app hfr) jY br gj ?_)
 intro H hfr ai
 have hle:=hfr.le
 have aU:=aL ai
 refine aE ai ?_
 obtain rfl:=aK h
 exact aP _ _ _ bG (bp hfr hcl (bD bx (.bool t8)) bB bt ⟨rfl,rfl⟩)
abbrev rU:aD:=(.rg [(aj 4 (.aV (.t 1) 0)),(aj 5 (.ld (.t 4) (some 2))),(aj 6 (.call (.c (.fn 37 [])) [(.t 5)])),(aj 7 (.un .not (.t 6))),(aA 8 7),(aF 9 (.aV (.t 1) 2) 8 false),(aF 10 (.ld (.t 9) none) 8 false),(aF 11 (.call (.c (.fn 38 [])) [(.t 10),(.c (.int .i64 2147483647))]) 8 false),(aF 12 (.un .not (.t 11)) 8 false),(aj 13 (.pick (.t 8) (.c (.bool true)) (.t 12))),(aA 14 13),(aF 15 (.aV (.t 1) 3) 14 false),(aF 16 (.ld (.t 15) none) 14 false),(aF 17 (.call (.c (.fn 38 [])) [(.t 16),(.c (.int .i64 2147483647))]) 14 false),(aF 18 (.un .not (.t 17)) 14 false),(aj 19 (.pick (.t 14) (.c (.bool true)) (.t 18))),(aA 20 19),(aF 21 (.aV (.t 1) 5) 20 false),(aF 22 (.ld (.t 21) none) 20 false),(aF 23 (.len (.t 22)) 20 false),(aF 24 (.bin .lss (.t 23) (.c (.int .i64 1))) 20 false),(aj 25 (.pick (.t 20) (.c (.bool true)) (.t 24))),(aA 26 25),(aF 27 (.aV (.t 1) 5) 26 false),(aF 28 (.ld (.t 27) none) 26 false),(aF 29 (.len (.t 28)) 26 false),(aF 30 (.bin .gtr (.t 29) (.c (.int .i64 100))) 26 false),(aj 31 (.pick (.t 26) (.c (.bool true)) (.t 30)))])
abbrev qx:aD:=(.seq (.seq (.rg [(aA 32 3),(aj 33 (.aV (.t 1) 5)),(aj 34 (.ld (.t 33) none)),(aj 35 (.len (.t 34))),(aj 36 (.bin .lss (.t 32) (.t 35)))]) (.cond (.t 36) .skip (.exit 0))) (.seq (.blk 1 (.seq (.rg [(aj 39 (.aV (.t 1) 5)),(aj 40 (.ld (.t 39) none)),(aA 41 3),(aj 42 (.lC 7 (.t 40) (.t 41))),(aj 43 (.ld (.t 42) (some 7))),(aj 44 (.call (.c (.fn 39 [])) [(.t 43)])),(aj 45 (.un .not (.t 44)))]) (.cond (.t 45) (.seq (.rg [(aj 2 (.aY (.c (.bool false))))]) .ret) .skip))) (.rg [(aA 37 3),(aj 38 (.bin .add (.t 37) (.c (.int .i64 1)))),(bk 3 38)])))
abbrev E5:aD:=(.seq (.rg [(aj 1 (.box (.t 0))),(aj 2 (.aY (.c (.bool false))))]) (.seq (.seq (.sem (erase rU)) (.cond (.t 31) (.seq (.rg [(aj 2 (.aY (.c (.bool false))))]) .ret) .skip)) (.seq (.seq (.rg [(aj 3 (.aY (.c (.int .i64 0))))]) (.blk 0 (.loop (erase qx)))) (.seq (.rg [(aj 2 (.aY (.c (.bool true))))]) .ret))))
theorem E6:bw Tryz.prog 14 46 [(.tmp 2)] (erase E5):=⟨Tryz.f14,_,rfl,by decide,rfl,by kernel_rfl,rfl,rfl⟩
abbrev qy:List Nat:=[0,1,2,3,31,36,45]
def iF (F:Nat) (e1:ak):Option (Bool):=
 (jH F e1.av).bind fun r3=>
 (if (!r3) then
  some true
 else
  (mX e1.born 2147483647).bind fun r4=>
  (if (!r4) then
   some true
  else
   (mX e1.size 2147483647).bind fun r5=>
   (if (!r5) then
    some true
   else
    (if (decide ((e1.az.length:Int)<1)) then
     some true
    else
     some (decide (100<(e1.az.length:Int)))))))
def fj (F:Nat) (e1:ak):Int→Option (St Bool Unit Int)
 |i9=>
  (if (decide (i9<(e1.az.length:Int))) then
   (idx e1.az i9).bind fun NU=>
   (nY F NU).bind fun gy=>
   (if (!gy) then
    some (.ret false)
   else
    some (.cT (IntKind.wrap .i64 (i9+1))))
  else
   some (.fI ()))
def gr (F:Nat) (e1:ak):Option (Bool):=
 (iF F e1).bind fun t7=>
 (if t7 then
  some false
 else
  ((iter (fj F e1) F 0).bind fun VQ=>
  match VQ with
  | .inr ()=>
    some true
  | .inl kA=>
    some kA))
theorem zA {F:Nat} {e1:ak} {q2:Nat} {H0 H:AH} (hfr:Fr H0 H0.length [] H) (ai:H[q2]? =some [(.str e1.av.au),(.str e1.av.domain),(.int .i64 e1.born),(.int .i64 e1.size),(.int .u32 e1.sum),(.sl .n 7 (ml aC e1.az))]) (eS:H0.length≤q2) {K:Exit→Env→AH→Prop} {t6:Bool}
 (h:iF F e1=some t6)
 (kn:∀H':AH,Fr H0 H0.length [] H'→H'[q2]? =some [(.str e1.av.au),(.str e1.av.domain),(.int .i64 e1.born),(.int .i64 e1.size),(.int .u32 e1.sum),(.sl .n 7 (ml aC e1.az))]→K .normal [(1,(.ptr q2 0)),(31,(.bool t6))] H'):
 AX Tryz.prog qy 46 H0.length (erase rU) K [(1,(.ptr q2 0))] H:=by
 refine dz fun K' hK=> ?_
 have hle:=hfr.le
 have aU:=aL ai
 rw [iF.eq_1] at h
 refine aE ai ?_
 obtain ⟨r3,hy1,h⟩:=ay h
 refine bg ax (uV hy1) ?_
 refine aE ai ?_
 refine cr h (fun bf h=> ?_) fun bf h=> ?_
 · refine aE (aB bf ai) ?_
   obtain rfl:=aK h
   exact hK _ _ _ _ _ aZ ax (kn _ hfr (ai.trans rfl))
 · refine aE (aB bf ai) ?_
   obtain ⟨r4,bz,h⟩:=ay h
   refine bg ax (oV bz) ?_
   refine aE ai ?_
   refine cr h (fun bu h=> ?_) fun bu h=> ?_
   · refine aE (aB bu ai) ?_
     obtain rfl:=aK h
     exact hK _ _ _ _ _ aZ ax (kn _ hfr (ai.trans rfl))
   · refine aE (aB bu ai) ?_
     obtain ⟨r5,bW,h⟩:=ay h
     refine bg ax (oV bW) ?_
     refine aE ai ?_
     refine cr h (fun cw h=> ?_) fun cw h=> ?_
     · refine aE (aB cw ai) ?_
       obtain rfl:=aK h
       exact hK _ _ _ _ _ aZ ax (kn _ hfr (ai.trans rfl))
     · refine aE (aB cw ai) ?_
       refine cr h (fun dB h=> ?_) fun dB h=> ?_
       · refine aE (aB dB ai) ?_
         obtain rfl:=aK h
         exact hK _ _ _ _ _ aZ ax (kn _ hfr (ai.trans rfl))
       · refine aE (aB dB ai) ?_
         obtain rfl:=aK h
         exact hK _ _ _ _ _ aZ ax (kn _ hfr (ai.trans rfl))
theorem zB {F:Nat} {i9:Int} {e1:ak} {q8:Nat} {H0 H:AH} (hfr:Fr H0 H0.length [] H) (ai:H[q8]? =some [(.str e1.av.au),(.str e1.av.domain),(.int .i64 e1.born),(.int .i64 e1.size),(.int .u32 e1.sum),(.sl .n 7 (ml aC e1.az))]) (eS:H0.length≤q8) {K:Exit→Env→AH→Prop} {o:(Bool)⊕(Unit)}
 (h:iter (fj F e1) F i9=some o)
 (dj:∀o':Unit,o= .inr o'→∀H':AH,Fr H0 H0.length [] H'→H'[q8]? =some [(.str e1.av.au),(.str e1.av.domain),(.int .i64 e1.born),(.int .i64 e1.size),(.int .u32 e1.sum),(.sl .n 7 (ml aC e1.az))]→K (.exit 0) [] H')
 (kr:∀o':Bool,o= .inl o'→∀H':AH,Fr H0 H0.length [] H'→K .ret [(2,(.bool o'))] H'):
 AX Tryz.prog qy 46 H0.length (.loop (erase qx)) K [(1,(.ptr q8 0)),(3,(.int .i64 i9))] H:=by
 refine iZ (fun s e H1=>match s with|i9=>e=[(1,(.ptr q8 0)),(3,(.int .i64 i9))]∧Fr H0 H0.length [] H1∧H1[q8]? =some [(.str e1.av.au),(.str e1.av.domain),(.int .i64 e1.born),(.int .i64 e1.size),(.int .u32 e1.sum),(.sl .n 7 (ml aC e1.az))]) h ⟨rfl,hfr,ai⟩ ?_
 rintro K' i9 st e H ⟨rfl,hfr,ai⟩ h hN hB hR hX
 have hle:=hfr.le
 have aU:=aL ai
 rw [fj.eq_1] at h
 refine aE ai ?_
 refine b7 h (fun dh h=> ?_) fun dh h=> ?_
 · obtain ⟨NU,cH,h⟩:=ay h
   refine aE (aB cH ai) ?_
   obtain ⟨gy,eA,h⟩:=ay h
   refine bg ax (E4 eA) ?_
   refine aE ai ?_
   refine b7 h (fun di h=> ?_) fun di h=> ?_
   · refine aE ai ?_
     obtain rfl:=aK h
     exact hX _ _ _ _ _ eK aZ ax (kr _ (hR _ rfl) _ hfr)
   · refine aE ai ?_
     obtain rfl:=aK h
     exact hN _ rfl _ _ _ _ aZ ax ⟨rfl,hfr,(ai.trans rfl)⟩
 · refine aE ai ?_
   obtain rfl:=aK h
   exact hX _ _ _ _ _ eK WE.nil ax (dj _ (hB _ rfl) _ hfr (ai.trans rfl))
theorem kK {F:Nat} {e1:ak} {H0:AH} {aM:Bool} (h:gr F e1=some aM):
 aG Tryz.prog 14 [(.agg [(.str e1.av.au),(.str e1.av.domain),(.int .i64 e1.born),(.int .i64 e1.size),(.int .u32 e1.sum),(.sl .n 7 (ml aC e1.az))])] H0 fun v H'=>v=(.bool aM)∧H'=H0:=by
 refine ef E6 qy [] fun hcl K0 aP H hH hfr=> ?_
 clear hH
 have hle:=hfr.le
 rw [gr.eq_1] at h
 refine bV ?_
 obtain ⟨q2,eF⟩:∃q:Nat,H.length=q:=⟨_,rfl⟩
 try rw [eF]
 obtain ⟨t7,dD,h⟩:=ay h
 refine cg ax (zA (q2:=q2) (Fr.app hfr) jY br dD ?_)
 intro H hfr ai
 have hle:=hfr.le
 have aU:=aL ai
 refine aE ai ?_
 refine b7 h (fun eE h=> ?_) fun eE h=> ?_
 · refine aE ai ?_
   obtain rfl:=aK h
   exact aP _ _ _ bG (bp hfr hcl (bD bx (.bool false)) bB bt ⟨rfl,rfl⟩)
 · refine aE ai ?_
   obtain ⟨VQ,gj,h⟩:=ay h
   refine cg ax (zB (q8:=q2) hfr (ai.trans rfl) br gj ?_ ?_)
   · rintro ⟨⟩ rfl H hfr ai
     try dsimp only at h ai
     have hle:=hfr.le
     have aU:=aL ai
     refine aE ai ?_
     obtain rfl:=aK h
     exact aP _ _ _ bG (bp hfr hcl (bD bx (.bool true)) bB bt ⟨rfl,rfl⟩)
   · rintro kA rfl H hfr
     try dsimp only at h
     have hle:=hfr.le
     refine bV ?_
     obtain rfl:=aK h
     exact aP _ _ _ bG (bp hfr hcl (bD bx (.bool kA)) bB bt ⟨rfl,rfl⟩)
abbrev jN:aD:=(.seq (.seq (.rg [(aA 10 7),(aA 11 2),(aj 12 (.bin .lss (.t 10) (.t 11)))]) (.cond (.t 12) .skip (.exit 0))) (.seq (.blk 1 (.seq (.rg [(aA 15 0),(aA 16 0),(aj 17 (.dZ (.t 16))),(aj 18 (.aV (.t 17) 0)),(aj 19 (.ld (.t 18) none)),(aA 20 6),(aj 21 (.ec (.int .u8) (.t 20))),(aj 22 (.jQ 1 [(.t 21)])),(aj 23 (.app 1 1 (.t 19) (.t 22))),(aj 24 (.dZ (.t 15))),(aj 25 (.aV (.t 24) 0)),(cZ (.st (.t 25) (.t 23) 1))]) (.rg [(aA 26 6),(aj 27 (.bin .shr (.t 26) (.c (.int .u64 8)))),(bk 6 27)]))) (.rg [(aA 13 7),(aj 14 (.bin .add (.t 13) (.c (.int .i64 1)))),(bk 7 14)])))
abbrev vt:aD:=(.seq (.rg [(aA 8 1),(aj 9 (.ec (.int .u64) (.t 8))),(bk 6 9)]) (.seq (.rg [(aj 7 (.aY (.c (.int .i64 0))))]) (.blk 0 (.loop (erase jN)))))
theorem vu:bw Tryz.prog 40 28 [] (erase vt):=⟨Tryz.f40,_,rfl,by decide,rfl,by kernel_rfl,rfl,rfl⟩
abbrev mN:List Nat:=[0,1,2,6,7,12]
def cQ (ny:Int):(Int×Int×aT)→Option (St aT aT (Int×Int×aT))
 |(u5,i6,s7)=>
  (if (decide (i6<ny)) then
   (cC 1 s7.b ([(UInt8.ofInt u5)]:List UInt8)).bind fun x8=>
   some (.cT ((shr .u64 u5 8),(IntKind.wrap .i64 (i6+1)),(aT.mk x8)))
  else
   some (.fI s7))
def bE (F:Nat) (w2:aT) (fC:Int) (ny:Int):Option (aT):=
 ((iter (cQ ny) F ((IntKind.wrap .u64 fC),0,w2)).bind fun KR=>
 match KR with
 | .inr wE=>
   some wE
 | .inl _=>none)
theorem qX {F:Nat} {i6:Int} {ny:Int} {s7:aT} {u5:Int} {q1:Nat} {H0 H:AH} (hfr:Fr H0 H0.length [q1] H) (ai:H[q1]? =some [(.sl .own 1 (ml b8 s7.b))]) (eS:q1<H0.length) {K:Exit→Env→AH→Prop} {o:(aT)⊕(aT)}
 (h:iter (cQ ny) F (u5,i6,s7)=some o)
 (dj:∀o':aT,o= .inr o'→∀H':AH,Fr H0 H0.length [q1] H'→H'[q1]? =some [(.sl .own 1 (ml b8 o'.b))]→K (.exit 0) [] H'):
 AX Tryz.prog mN 28 H0.length (.loop (erase jN)) K [(0,(.ptr q1 0)),(2,(.int .i64 ny)),(6,(.int .u64 u5)),(7,(.int .i64 i6))] H:=by
 refine iZ (fun s e H1=>match s with|(u5,i6,s7)=>e=[(0,(.ptr q1 0)),(2,(.int .i64 ny)),(6,(.int .u64 u5)),(7,(.int .i64 i6))]∧Fr H0 H0.length [q1] H1∧H1[q1]? =some [(.sl .own 1 (ml b8 s7.b))]) h ⟨rfl,hfr,ai⟩ ?_
 rintro K' ⟨u5,i6,s7⟩ st e H ⟨rfl,hfr,ai⟩ h hN hB hR hX
 have hle:=hfr.le
 have aU:=aL ai
 rw [cQ.eq_1] at h
 refine aE ai ?_
 refine b7 h (fun hy1 h=> ?_) fun hy1 h=> ?_
 · obtain ⟨x8,bf,h⟩:=ay h
   have bz:cC 1 (ml b8 s7.b) [(b8 (UInt8.ofInt u5))]=some (ml b8 x8):=eo (f:=b8) bf
   refine aE (aB bz ai) ?_
   obtain rfl:=aK h
   exact hN _ rfl _ _ _ _ aZ ax ⟨rfl,(bn _ (bn _ hfr)),bL⟩
 · refine aE ai ?_
   obtain rfl:=aK h
   exact hX _ _ _ _ _ eK WE.nil ax (dj _ (hB _ rfl) _ hfr (ai.trans rfl))
theorem bX {F:Nat} {w2:aT} {fC:Int} {ny:Int} {q1:Nat} {H0:AH} (ai:H0[q1]? =some [(.sl .own 1 (ml b8 w2.b))]) {aM:aT} (h:bE F w2 fC ny=some aM):
 aG Tryz.prog 40 [(.ptr q1 0),(.int .i64 fC),(.int .i64 ny)] H0 fun v H'=>v=(.bK [])∧H'=(H0.set q1 [(.sl .own 1 (ml b8 aM.b))]):=by
 have aU:=aL ai
 refine ef vu mN [q1] fun hcl K0 aP H hH hfr=> ?_
 rw [←hH] at ai
 clear hH
 have hle:=hfr.le
 have eW:=aL ai
 rw [bE.eq_1] at h
 refine aE ai ?_
 obtain ⟨KR,bu,h⟩:=ay h
 refine cg ax (qX (q1:=q1) hfr (ai.trans rfl) br bu ?_)
 · rintro wE rfl H hfr ai
   try dsimp only at h ai
   have hle:=hfr.le
   have aU:=aL ai
   refine aE ai ?_
   obtain rfl:=aK h
   exact aP _ _ _ Io (cc hfr hcl bx bB bt (ai.trans rfl) br jv gE ⟨rfl,rfl⟩)
abbrev wH:aD:=(.seq (.rg [(aA 4 0),(aA 5 1),(aj 6 (.len (.t 5))),(aj 7 (.call (.c (.fn 40 [])) [(.t 4),(.t 6),(.c (.int .i64 4))]))]) (.rg [(aA 8 0),(aA 9 0),(aj 10 (.dZ (.t 9))),(aj 11 (.aV (.t 10) 0)),(aj 12 (.ld (.t 11) none)),(aA 13 1),(aj 14 (.app 1 1 (.t 12) (.t 13))),(aj 15 (.dZ (.t 8))),(aj 16 (.aV (.t 15) 0)),(cZ (.st (.t 16) (.t 14) 1))]))
theorem wI:bw Tryz.prog 42 17 [] (erase wH):=⟨Tryz.f42,_,rfl,by decide,rfl,by kernel_rfl,rfl,rfl⟩
abbrev wJ:List Nat:=[0,1]
def dH (F:Nat) (w2:aT) (b3:List UInt8):Option (aT):=
 (bE F w2 (b3.length:Int) 4).bind fun r4=>(cC 1 r4.b b3).bind fun x5=>some (aT.mk x5)
theorem iR {F:Nat} {w2:aT} {b3:List UInt8} {q1:Nat} {H0:AH} (ai:H0[q1]? =some [(.sl .own 1 (ml b8 w2.b))]) {aM:aT} (h:dH F w2 b3=some aM):
 aG Tryz.prog 42 [(.ptr q1 0),(.sl .n 1 (ml b8 b3))] H0 fun v H'=>v=(.bK [])∧H'=(H0.set q1 [(.sl .own 1 (ml b8 aM.b))]):=by
 have aU:=aL ai
 refine ef wI wJ [q1] fun hcl K0 aP H hH hfr=> ?_
 rw [←hH] at ai
 clear hH
 have hle:=hfr.le
 have eW:=aL ai
 rw [dH.eq_1] at h
 refine aE ai ?_
 obtain ⟨r4,hy1,h⟩:=ay h
 refine bg ax (bX (ai.trans rfl) hy1) ?_
 refine aE ai ?_
 obtain ⟨x5,bf,h⟩:=ay h
 have bz:cC 1 (ml b8 r4.b) (ml b8 b3)=some (ml b8 x5):=eo (f:=b8) bf
 refine aE (aB bz ai) ?_
 obtain rfl:=aK h
 exact aP _ _ _ Io (cc (bn _ (bn _ (bn _ hfr))) hcl bx bB bt bL br jv gE ⟨rfl,rfl⟩)
abbrev Gh:aD:=(.seq (.rg [(aj 3 (.box (.t 1)))]) (.seq (.rg [(aA 4 0),(aj 5 (.aV (.t 3) 0)),(aj 6 (.ld (.t 5) none)),(aj 7 (.ec .sb (.t 6))),(aj 8 (.call (.c (.fn 42 [])) [(.t 4),(.t 7)]))]) (.rg [(aA 9 0),(aj 10 (.aV (.t 3) 1)),(aj 11 (.ld (.t 10) none)),(aj 12 (.ec .sb (.t 11))),(aj 13 (.call (.c (.fn 42 [])) [(.t 9),(.t 12)]))])))
theorem Gi:bw Tryz.prog 41 14 [] (erase Gh):=⟨Tryz.f41,_,rfl,by decide,rfl,by kernel_rfl,rfl,rfl⟩
abbrev Gj:List Nat:=[0,1,3]
def lq (F:Nat) (w2:aT) (a3:aJ):Option (aT):=
 (dH F w2 a3.au).bind fun r4=>(dH F r4 a3.domain).bind fun r5=>some r5
theorem wK {F:Nat} {w2:aT} {a3:aJ} {q1:Nat} {H0:AH} (ai:H0[q1]? =some [(.sl .own 1 (ml b8 w2.b))]) {aM:aT} (h:lq F w2 a3=some aM):
 aG Tryz.prog 41 [(.ptr q1 0),(.agg [(.str a3.au),(.str a3.domain)])] H0 fun v H'=>v=(.bK [])∧H'=(H0.set q1 [(.sl .own 1 (ml b8 aM.b))]):=by
 have aU:=aL ai
 refine ef Gi Gj [q1] fun hcl K0 aP H hH hfr=> ?_
 rw [←hH] at ai
 clear hH
 have hle:=hfr.le
 have eW:=aL ai
 rw [lq.eq_1] at h
 refine aE ai ?_
 obtain ⟨r4,hy1,h⟩:=ay h
 refine bg ax (iR (q1:=q1) (ez (ai.trans rfl)) hy1) ?_
 refine aE ai ?_
 obtain ⟨r5,bf,h⟩:=ay h
 refine bg ax (iR (q1:=q1) bL bf) ?_
 refine aE ai ?_
 obtain rfl:=aK h
 exact aP _ _ _ Io (cc (bn _ (bn _ (Fr.app hfr))) hcl bx bB bt bL br jv gE ⟨rfl,rfl⟩)
abbrev uW:aD:=(.seq (.seq (.rg [(aA 19 5),(aj 20 (.bin .lss (.t 19) (.c (.int .i64 8))))]) (.cond (.t 20) .skip (.exit 2))) (.seq (.blk 3 (.seq (.rg [(aA 23 3),(aj 24 (.bin .and (.t 23) (.c (.int .u32 1)))),(aj 25 (.bin .eql (.t 24) (.c (.int .u32 1))))]) (.cond (.t 25) (.rg [(aA 26 3),(aj 27 (.bin .shr (.t 26) (.c (.int .u64 1)))),(aj 28 (.bin .xor (.t 27) (.c (.int .u32 3988292384)))),(bk 3 28)]) (.rg [(aA 29 3),(aj 30 (.bin .shr (.t 29) (.c (.int .u64 1)))),(bk 3 30)])))) (.rg [(aA 21 5),(aj 22 (.bin .add (.t 21) (.c (.int .i64 1)))),(bk 5 22)])))
abbrev uX:aD:=(.seq (.seq (.rg [(aA 6 4),(aA 7 0),(aj 8 (.len (.t 7))),(aj 9 (.bin .lss (.t 6) (.t 8)))]) (.cond (.t 9) .skip (.exit 0))) (.seq (.blk 1 (.seq (.rg [(aA 12 3),(aA 13 0),(aA 14 4),(aj 15 (.lC 1 (.t 13) (.t 14))),(aj 16 (.ld (.t 15) none)),(aj 17 (.ec (.int .u32) (.t 16))),(aj 18 (.bin .xor (.t 12) (.t 17))),(bk 3 18)]) (.seq (.rg [(aj 5 (.aY (.c (.int .i64 0))))]) (.blk 2 (.loop (erase uW)))))) (.rg [(aA 10 4),(aj 11 (.bin .add (.t 10) (.c (.int .i64 1)))),(bk 4 11)])))
abbrev K5:aD:=(.seq (.rg [(aj 2 (.aY (.c (.int .u32 0))))]) (.seq (.rg [(aj 3 (.aY (.c (.int .u32 4294967295))))]) (.seq (.seq (.rg [(aj 4 (.aY (.c (.int .i64 0))))]) (.blk 0 (.loop (erase uX)))) (.seq (.rg [(aA 31 3),(aj 32 (.un .xor (.t 31))),(bk 2 32)]) .ret))))
theorem K6:bw Tryz.prog 71 33 [(.tmp 2)] (erase K5):=⟨Tryz.f71,_,rfl,by decide,rfl,by kernel_rfl,rfl,rfl⟩
abbrev wL:List Nat:=[0,2,3,4,5,9,20,25]
def gu:(Int×Int)→Option (St Int Int (Int×Int))
 |(c5,IQ)=>
  (if (decide (IQ<8)) then
   (if (decide ((xW .u32 c5 1)=1)) then
    some (.cT ((sU .u32 (shr .u32 c5 1) 3988292384),(IntKind.wrap .i64 (IQ+1))))
   else
    some (.cT ((shr .u32 c5 1),(IntKind.wrap .i64 (IQ+1)))))
  else
   some (.fI c5))
def jI (F:Nat) (b1:List UInt8):(Int×Int)→Option (St Int Int (Int×Int))
 |(c2,i3)=>
  (if (decide (i3<(b1.length:Int))) then
   (idx b1 i3).bind fun x4=>
   ((iter gu F ((sU .u32 c2 (IntKind.wrap .u32 (x4.toNat:Int))),0)).bind fun o9=>
   match o9 with
   | .inr c8=>
     some (.cT (c8,(IntKind.wrap .i64 (i3+1))))
   | .inl _=>none)
  else
   some (.fI c2))
def tF (F:Nat) (b1:List UInt8):Option (Int):=
 ((iter (jI F b1) F (4294967295,0)).bind fun Eu=>
 match Eu with
 | .inr c11=>
   some (vX .u32 c11)
 | .inl _=>none)
theorem Dk {F:Nat} {IQ:Int} {c5:Int} {b1:List UInt8} {i3:Int} {H:AH} {K:Exit→Env→AH→Prop} {o:(Int)⊕(Int)}
 (h:iter gu F (c5,IQ)=some o)
 (kb2:∀o':Int,o= .inr o'→K (.exit 2) [(0,(.sl .n 1 (ml b8 b1))),(3,(.int .u32 o')),(4,(.int .i64 i3))] H):
 AX Tryz.prog wL 33 H.length (.loop (erase uW)) K [(0,(.sl .n 1 (ml b8 b1))),(3,(.int .u32 c5)),(4,(.int .i64 i3)),(5,(.int .i64 IQ))] H:=by
 refine iZ (fun s e H1=>match s with|(c5,IQ)=>e=[(0,(.sl .n 1 (ml b8 b1))),(3,(.int .u32 c5)),(4,(.int .i64 i3)),(5,(.int .i64 IQ))]∧H1=H) h ⟨rfl,rfl⟩ ?_
 rintro K' ⟨c5,IQ⟩ st e H ⟨rfl,rfl⟩ h hN hB hR hX
 rw [gu.eq_1] at h
 refine aS ?_
 refine b7 h (fun bz h=> ?_) fun bz h=> ?_
 · refine aS ?_
   refine b7 h (fun bu h=> ?_) fun bu h=> ?_
   · refine aS ?_
     obtain rfl:=aK h
     exact hN _ rfl _ _ _ _ aZ ax ⟨rfl,rfl⟩
   · refine aS ?_
     obtain rfl:=aK h
     exact hN _ rfl _ _ _ _ aZ ax ⟨rfl,rfl⟩
 · refine aS ?_
   obtain rfl:=aK h
   exact hX _ _ _ _ _ eK aZ ax (kb2 _ (hB _ rfl))
theorem Dl {F:Nat} {i3:Int} {b1:List UInt8} {c2:Int} {H:AH} {K:Exit→Env→AH→Prop} {o:(Int)⊕(Int)}
 (h:iter (jI F b1) F (c2,i3)=some o)
 (dj:∀o':Int,o= .inr o'→K (.exit 0) [(3,(.int .u32 o'))] H):
 AX Tryz.prog wL 33 H.length (.loop (erase uX)) K [(0,(.sl .n 1 (ml b8 b1))),(3,(.int .u32 c2)),(4,(.int .i64 i3))] H:=by
 refine iZ (fun s e H1=>match s with|(c2,i3)=>e=[(0,(.sl .n 1 (ml b8 b1))),(3,(.int .u32 c2)),(4,(.int .i64 i3))]∧H1=H) h ⟨rfl,rfl⟩ ?_
 rintro K' ⟨c2,i3⟩ st e H ⟨rfl,rfl⟩ h hN hB hR hX
 rw [jI.eq_1] at h
 refine aS ?_
 refine b7 h (fun hy1 h=> ?_) fun hy1 h=> ?_
 · obtain ⟨x4,bf,h⟩:=ay h
   refine bO bf ?_
   obtain ⟨o9,bW,h⟩:=ay h
   refine cg ax (Dk (b1:=b1) (i3:=i3) bW ?_)
   · rintro c8 rfl
     try dsimp only at h
     refine aS ?_
     obtain rfl:=aK h
     exact hN _ rfl _ _ _ _ aZ ax ⟨rfl,rfl⟩
 · refine aS ?_
   obtain rfl:=aK h
   exact hX _ _ _ _ _ eK aZ ax (dj _ (hB _ rfl))
theorem IU {F:Nat} {b1:List UInt8} {H0:AH} {aM:Int} (h:tF F b1=some aM):
 aG Tryz.prog 71 [(.sl .n 1 (ml b8 b1))] H0 fun v H'=>v=(.int .u32 aM)∧H'=H0:=by
 refine gx K6 wL fun hcl K0 aP=> ?_
 rw [tF.eq_1] at h
 refine aS ?_
 obtain ⟨Eu,cw,h⟩:=ay h
 refine cg ax (Dl cw ?_)
 · rintro c11 rfl
   try dsimp only at h
   refine aS ?_
   obtain rfl:=aK h
   exact aP _ _ _ bG (aW hcl (bD bx (.int .u32 (vX .u32 c11))) bB bt ⟨rfl,rfl⟩)
abbrev IV:aD:=(.seq (.rg [(aj 2 (.aY (.c (.sl .ex 1 []))))]) (.seq (.rg [(aA 4 0),(aj 5 (.call (.c (.fn 71 [])) [(.t 4)])),(bk 3 5)]) (.seq (.rg [(aj 6 (.jQ 1 [])),(aA 7 0),(aj 8 (.app 1 1 (.t 6) (.t 7))),(aA 9 3),(aj 10 (.ec (.int .u8) (.t 9))),(aA 11 3),(aj 12 (.bin .shr (.t 11) (.c (.int .u64 8)))),(aj 13 (.ec (.int .u8) (.t 12))),(aA 14 3),(aj 15 (.bin .shr (.t 14) (.c (.int .u64 16)))),(aj 16 (.ec (.int .u8) (.t 15))),(aA 17 3),(aj 18 (.bin .shr (.t 17) (.c (.int .u64 24)))),(aj 19 (.ec (.int .u8) (.t 18))),(aj 20 (.jQ 1 [(.t 10),(.t 13),(.t 16),(.t 19)])),(aj 21 (.app 1 1 (.t 8) (.t 20))),(bk 2 21)]) .ret)))
theorem IW:bw Tryz.prog 43 22 [(.tmp 2)] (erase IV):=⟨Tryz.f43,_,rfl,by decide,rfl,by kernel_rfl,rfl,rfl⟩
abbrev IX:List Nat:=[0,2,3]
def mY (F:Nat) (b1:List UInt8):Option ((List UInt8)):=
 (tF F b1).bind fun r2=>
 (cC 1 ([]:List UInt8) b1).bind fun x3=>
 (cC 1 x3 ([(UInt8.ofInt r2),(UInt8.ofInt (shr .u32 r2 8)),(UInt8.ofInt (shr .u32 r2 16)),(UInt8.ofInt (shr .u32 r2 24))]:List UInt8)).bind fun x4=>some x4
theorem yf {F:Nat} {b1:List UInt8} {H0:AH} {aM:List UInt8} (h:mY F b1=some aM):
 aG Tryz.prog 43 [(.sl .n 1 (ml b8 b1))] H0 fun v H'=>v=(.sl .own 1 (ml b8 aM))∧H'=H0:=by
 refine gx IW IX fun hcl K0 aP=> ?_
 rw [mY.eq_1] at h
 refine aS ?_
 obtain ⟨r2,hy1,h⟩:=ay h
 refine bg ax (IU hy1) ?_
 refine aS ?_
 obtain ⟨x3,bf,h⟩:=ay h
 have bz:cC 1 [] (ml b8 b1)=some (ml b8 x3):=eo (f:=b8) bf
 obtain ⟨x4,bu,h⟩:=ay h
 have bW:cC 1 (ml b8 x3) [(b8 (UInt8.ofInt r2)),(b8 (UInt8.ofInt (shr .u32 r2 8))),(b8 (UInt8.ofInt (shr .u32 r2 16))),(b8 (UInt8.ofInt (shr .u32 r2 24)))]=some (ml b8 x4):=eo (f:=b8) bu
 refine bO (aB bz bW) ?_
 obtain rfl:=aK h
 exact aP _ _ _ bG (aW hcl (bD bx (.sl .own 1 (ml b8 x4))) bB bt ⟨rfl,rfl⟩)
end Go.Proofs.cL
end
section
set_option maxRecDepth 100000
namespace Go.Proofs.cL
open Go Go.Am Go.Proofs
open Nat renaming reduceEqDiff→nA,reduceLT→nB,reduceLeDiff→nC,reduceAdd→nD,reduceSub→nE,reduceMul→nF,reduceBEq→nG
set_option maxHeartbeats 2000000
abbrev oB:aD:=(.seq (.seq (.rg [(aA 35 4),(aj 36 (.aV (.t 1) 5)),(aj 37 (.ld (.t 36) none)),(aj 38 (.len (.t 37))),(aj 39 (.bin .lss (.t 35) (.t 38)))]) (.cond (.t 39) .skip (.exit 0))) (.seq (.blk 1 (.seq (.rg [(aj 42 (.aV (.t 1) 5)),(aj 43 (.ld (.t 42) none)),(aA 44 4),(aj 45 (.lC 7 (.t 43) (.t 44))),(aj 46 (.ld (.t 45) (some 7))),(aj 5 (.alloc [(.str []),(.str []),(.int .i64 0),(.int .i64 0),(.int .i64 0),(.int .i64 0),(.str [])])),(cZ (.st (.t 5) (.t 46) 7))]) (.seq (.rg [(aA 47 3),(aj 48 (.aV (.t 5) 0)),(aj 49 (.ld (.t 48) (some 2))),(aj 50 (.call (.c (.fn 41 [])) [(.t 47),(.t 49)]))]) (.seq (.rg [(aA 51 3),(aj 52 (.aV (.t 5) 2)),(aj 53 (.ld (.t 52) none)),(aj 54 (.call (.c (.fn 40 [])) [(.t 51),(.t 53),(.c (.int .i64 1))]))]) (.seq (.rg [(aA 55 3),(aj 56 (.aV (.t 5) 3)),(aj 57 (.ld (.t 56) none)),(aj 58 (.call (.c (.fn 40 [])) [(.t 55),(.t 57),(.c (.int .i64 1))]))]) (.seq (.rg [(aA 59 3),(aj 60 (.aV (.t 5) 4)),(aj 61 (.ld (.t 60) none)),(aj 62 (.call (.c (.fn 40 [])) [(.t 59),(.t 61),(.c (.int .i64 4))]))]) (.seq (.rg [(aA 63 3),(aj 64 (.aV (.t 5) 5)),(aj 65 (.ld (.t 64) none)),(aj 66 (.call (.c (.fn 40 [])) [(.t 63),(.t 65),(.c (.int .i64 2))]))]) (.rg [(aA 67 3),(aj 68 (.aV (.t 5) 6)),(aj 69 (.ld (.t 68) none)),(aj 70 (.ec .sb (.t 69))),(aj 71 (.call (.c (.fn 42 [])) [(.t 67),(.t 70)]))])))))))) (.rg [(aA 40 4),(aj 41 (.bin .add (.t 40) (.c (.int .i64 1)))),(bk 4 41)])))
abbrev Dm:aD:=(.seq (.rg [(aj 1 (.box (.t 0))),(aj 2 (.aY (.c (.sl .ex 1 []))))]) (.seq (.seq (.rg [(aj 6 (.ld (.t 1) (some 6))),(aj 7 (.call (.c (.fn 14 [])) [(.t 6)])),(aj 8 (.un .not (.t 7)))]) (.cond (.t 8) (.seq (.rg [(aj 2 (.aY (.c (.sl .ex 1 []))))]) .ret) .skip)) (.seq (.rg [(aj 9 (.build [(.sl .ex 1 [])] [])),(aj 10 (.box (.t 9))),(bk 3 10)]) (.seq (.rg [(aA 11 3),(aj 12 (.call (.c (.fn 40 [])) [(.t 11),(.c (.int .i64 1)),(.c (.int .i64 1))]))]) (.seq (.rg [(aA 13 3),(aj 14 (.aV (.t 1) 0)),(aj 15 (.ld (.t 14) (some 2))),(aj 16 (.call (.c (.fn 41 [])) [(.t 13),(.t 15)]))]) (.seq (.rg [(aA 17 3),(aj 18 (.aV (.t 1) 2)),(aj 19 (.ld (.t 18) none)),(aj 20 (.call (.c (.fn 40 [])) [(.t 17),(.t 19),(.c (.int .i64 4))]))]) (.seq (.rg [(aA 21 3),(aj 22 (.aV (.t 1) 3)),(aj 23 (.ld (.t 22) none)),(aj 24 (.call (.c (.fn 40 [])) [(.t 21),(.t 23),(.c (.int .i64 4))]))]) (.seq (.rg [(aA 25 3),(aj 26 (.aV (.t 1) 4)),(aj 27 (.ld (.t 26) none)),(aj 28 (.ec (.int .i64) (.t 27))),(aj 29 (.call (.c (.fn 40 [])) [(.t 25),(.t 28),(.c (.int .i64 4))]))]) (.seq (.rg [(aA 30 3),(aj 31 (.aV (.t 1) 5)),(aj 32 (.ld (.t 31) none)),(aj 33 (.len (.t 32))),(aj 34 (.call (.c (.fn 40 [])) [(.t 30),(.t 33),(.c (.int .i64 1))]))]) (.seq (.seq (.rg [(aj 4 (.aY (.c (.int .i64 0))))]) (.blk 0 (.loop (erase oB)))) (.seq (.rg [(aA 72 3),(aj 73 (.dZ (.t 72))),(aj 74 (.aV (.t 73) 0)),(aj 75 (.ld (.t 74) none)),(aj 76 (.call (.c (.fn 43 [])) [(.t 75)])),(bk 2 76)]) .ret)))))))))))
theorem Dn:bw Tryz.prog 15 77 [(.tmp 2)] (erase Dm):=⟨Tryz.f15,_,rfl,by decide,rfl,by kernel_rfl,rfl,rfl⟩
abbrev uY:List Nat:=[0,1,2,3,4,5,8,39]
def dN (F:Nat) (e1:ak):(Int×aT)→Option (St (List UInt8) aT (Int×aT))
 |(i11,K7)=>
  (if (decide (i11<(e1.az.length:Int))) then
   (idx e1.az i11).bind fun Al=>
   (lq F K7 Al.ct).bind fun kz=>
   (bE F kz Al.state 1).bind fun K8=>
   (bE F K8 Al.tries 1).bind fun r16=>
   (bE F r16 Al.next 4).bind fun AK=>
   (bE F AK Al.code 2).bind fun mW=>
   (dH F mW Al.why).bind fun qT=>some (.cT ((IntKind.wrap .i64 (i11+1)),qT))
  else
   some (.fI K7))
def iM (F:Nat) (e1:ak):Option ((List UInt8)):=
 (gr F e1).bind fun r2=>
 (if (!r2) then
  some ([]:List UInt8)
 else
  (bE F (aT.mk ([]:List UInt8)) 1 1).bind fun r3=>
  (lq F r3 e1.av).bind fun r4=>
  (bE F r4 e1.born 4).bind fun r5=>
  (bE F r5 e1.size 4).bind fun r6=>
  (bE F r6 (IntKind.wrap .i64 e1.sum) 4).bind fun r7=>
  (bE F r7 (e1.az.length:Int) 1).bind fun r8=>
  ((iter (dN F e1) F (0,r8)).bind fun o23=>
  match o23 with
  | .inr gQ=>
    (mY F gQ.b).bind fun r22=>some r22
  | .inl _=>none))
theorem xN {F:Nat} {i11:Int} {e1:ak} {K7:aT} {q9:Nat} {lH:Nat} {H0 H:AH} (hfr:Fr H0 H0.length [] H) (ai:H[q9]? =some [(.str e1.av.au),(.str e1.av.domain),(.int .i64 e1.born),(.int .i64 e1.size),(.int .u32 e1.sum),(.sl .n 7 (ml aC e1.az))]) (aq:H[lH]? =some [(.sl .own 1 (ml b8 K7.b))]) (eS:H0.length≤q9) (hi1:H0.length≤lH) (hi2:q9≠lH) {K:Exit→Env→AH→Prop} {o:((List UInt8))⊕(aT)}
 (h:iter (dN F e1) F (i11,K7)=some o)
 (dj:∀o':aT,o= .inr o'→∀H':AH,Fr H0 H0.length [] H'→H'[q9]? =some [(.str e1.av.au),(.str e1.av.domain),(.int .i64 e1.born),(.int .i64 e1.size),(.int .u32 e1.sum),(.sl .n 7 (ml aC e1.az))]→H'[lH]? =some [(.sl .own 1 (ml b8 o'.b))]→K (.exit 0) [(3,(.ptr lH 0))] H'):
 AX Tryz.prog uY 77 H0.length (.loop (erase oB)) K [(1,(.ptr q9 0)),(3,(.ptr lH 0)),(4,(.int .i64 i11))] H:=by
 refine iZ (fun s e H1=>match s with|(i11,K7)=>e=[(1,(.ptr q9 0)),(3,(.ptr lH 0)),(4,(.int .i64 i11))]∧Fr H0 H0.length [] H1∧H1[q9]? =some [(.str e1.av.au),(.str e1.av.domain),(.int .i64 e1.born),(.int .i64 e1.size),(.int .u32 e1.sum),(.sl .n 7 (ml aC e1.az))]∧H1[lH]? =some [(.sl .own 1 (ml b8 K7.b))]) h ⟨rfl,hfr,ai,aq⟩ ?_
 rintro K' ⟨i11,K7⟩ st e H ⟨rfl,hfr,ai,aq⟩ h hN hB hR hX
 have hle:=hfr.le
 have aU:=aL ai
 have cK:=aL aq
 rw [dN.eq_1] at h
 refine aE (aB ai aq) ?_
 refine b7 h (fun eE h=> ?_) fun eE h=> ?_
 · obtain ⟨Al,dh,h⟩:=ay h
   refine aE (aB dh (aB ai aq)) ?_
   obtain ⟨kz,cH,h⟩:=ay h
   refine bg ax (wK (q1:=lH) (aX (ez (aq.trans rfl))) cH) ?_
   refine aE (aB ai aq) ?_
   obtain ⟨K8,eA,h⟩:=ay h
   refine bg ax (bX (q1:=lH) bL eA) ?_
   refine aE (aB ai aq) ?_
   obtain ⟨r16,di,h⟩:=ay h
   refine bg ax (bX (q1:=lH) bL di) ?_
   refine aE (aB ai aq) ?_
   obtain ⟨AK,gj,h⟩:=ay h
   refine bg ax (bX (q1:=lH) bL gj) ?_
   refine aE (aB ai aq) ?_
   obtain ⟨mW,lW,h⟩:=ay h
   refine bg ax (bX (q1:=lH) bL lW) ?_
   refine aE (aB ai aq) ?_
   obtain ⟨qT,gl,h⟩:=ay h
   refine bg ax (iR (q1:=lH) bL gl) ?_
   refine aE (aB ai aq) ?_
   obtain rfl:=aK h
   exact hN _ rfl _ _ _ _ aZ ax ⟨rfl,(bn _ (bn _ (bn _ (bn _ (bn _ (bn _ (bn _ (Fr.app hfr)))))))),(aX (aX (aX (aX (aX (aX (aX (ez (ai.trans rfl))))))))),bL⟩
 · refine aE (aB ai aq) ?_
   obtain rfl:=aK h
   exact hX _ _ _ _ _ eK aZ ax (dj _ (hB _ rfl) _ hfr (ai.trans rfl) (aq.trans rfl))
theorem tG {F:Nat} {e1:ak} {H0:AH} {aM:List UInt8} (h:iM F e1=some aM):
 aG Tryz.prog 15 [(.agg [(.str e1.av.au),(.str e1.av.domain),(.int .i64 e1.born),(.int .i64 e1.size),(.int .u32 e1.sum),(.sl .n 7 (ml aC e1.az))])] H0 fun v H'=>v=(.sl .own 1 (ml b8 aM))∧H'=H0:=by
 refine ef Dn uY [] fun hcl K0 aP H hH hfr=> ?_
 clear hH
 have hle:=hfr.le
 rw [iM.eq_1] at h
 refine bV ?_
 obtain ⟨r2,hy1,h⟩:=ay h
 refine bg ax (kK hy1) ?_
 refine bV ?_
 refine b7 h (fun bf h=> ?_) fun bf h=> ?_
 · refine bV ?_
   obtain rfl:=aK h
   exact aP _ _ _ bG (bp (Fr.app hfr) hcl (bD bx (.sl .ex 1 [])) bB bt ⟨rfl,rfl⟩)
 · refine bV ?_
   obtain ⟨r3,bz,h⟩:=ay h
   refine bg (eR.set (q:=(H.length+1)) (cs':=[(.sl .own 1 [])]) jY gE) (bX (q1:=(H.length+1)) bL bz) ?_
   refine bV ?_
   obtain ⟨r4,bu,h⟩:=ay h
   refine bg ax (wK (q1:=(H.length+1)) bL bu) ?_
   refine bV ?_
   obtain ⟨r5,bW,h⟩:=ay h
   refine bg ax (bX (q1:=(H.length+1)) bL bW) ?_
   refine bV ?_
   obtain ⟨r6,cw,h⟩:=ay h
   refine bg ax (bX (q1:=(H.length+1)) bL cw) ?_
   refine bV ?_
   obtain ⟨r7,dB,h⟩:=ay h
   refine bg ax (bX (q1:=(H.length+1)) bL dB) ?_
   refine bV ?_
   obtain ⟨r8,dD,h⟩:=ay h
   refine bg ax (bX (q1:=(H.length+1)) bL dD) ?_
   refine bV ?_
   obtain ⟨lH,YW⟩:∃q:Nat,(H.length+1)=q:=⟨_,rfl⟩
   try rw [YW]
   obtain ⟨q9,abH⟩:∃q:Nat,H.length=q:=⟨_,rfl⟩
   try rw [abH]
   try rw [show q9+1=lH from by omega]
   obtain ⟨o23,j7,h⟩:=ay h
   refine cg ax (xN (q9:=q9) (lH:=lH) (bn _ (bn _ (bn _ (bn _ (bn _ (bn _ (bn _ (Fr.app (Fr.app hfr))))))))) (aX (aX (aX (aX (aX (aX (aX (ez jY)))))))) bL br br br j7 ?_)
   · rintro gQ rfl H hfr ai aq
     try dsimp only at h ai aq
     have hle:=hfr.le
     have aU:=aL ai
     have cK:=aL aq
     refine aE (aB ai aq) ?_
     obtain ⟨r22,nP,h⟩:=ay h
     refine bg ax (yf nP) ?_
     refine aE (aB ai aq) ?_
     obtain rfl:=aK h
     exact aP _ _ _ bG (bp hfr hcl (bD bx (.sl .own 1 (ml b8 r22))) bB bt ⟨rfl,rfl⟩)
end Go.Proofs.cL
end
section
namespace Go.Am
open Go
theorem wr {n:Int} (h1: -9223372036854775808≤n) (h2:n≤9223372036854775807):IntKind.wrap .i64 n=n:=by
 simp only [IntKind.wrap,IntKind.bits,IntKind.signed,Bool.true_and,decide_eq_true_eq,Int.reducePow,Nat.reduceSub,ge_iff_le]
 split<;>omega
theorem E7 {α:Type} (l:List α) (n:Nat):idx l (n:Int)=l[n]? :=by simp [idx]
theorem bM {α:Type} {l:List α} {n:Nat} {x:α} (h:l[n]? =some x):idx l (n:Int)=some x:=by rw [E7,h]
theorem YX {α:Type} {l:List α} {n:Nat} (h:n<l.length):idx l (n:Int)=some l[n]:=by rw [E7,List.getElem?_eq_getElem h]
theorem aex {α:Type} {l:List α} {i:Int} (h0:0≤i) (h1:i<l.length):∃x,idx l i=some x∧l[i.toNat]? =some x:=by
 obtain ⟨n,rfl⟩:=Int.eq_ofNat_of_zero_le h0
 have hn:n<l.length:=by omega
 exact ⟨l[n],YX hn,by simp [List.getElem?_eq_getElem hn]⟩
theorem uk {α:Type} {l:List α} {i j:Nat} (h:i≤j) (h2:j≤l.length):sub l (i:Int) (j:Int)=some ((l.take j).drop i):=by
 unfold sub;rw [if_pos (by omega)];simp
theorem A2 {α:Type} {l:List α} {i:Nat} (h:i≤l.length):sub l (i:Int) (l.length:Int)=some (l.drop i):=by
 rw [uk h (Nat.le_refl _),List.take_length]
theorem IY {α:Type} {l:List α} {j:Nat} (h:j≤l.length):sub l 0 (j:Int)=some (l.take j):=by
 have:=uk (l:=l) (i:=0) (Nat.zero_le j) h
 simpa using this
theorem adZ {α:Type} {l:List α} {i:Int} (h0:0≤i) (h:i≤l.length):sub l i (l.length:Int)=some (l.drop i.toNat):=by
 obtain ⟨n,rfl⟩:=Int.eq_ofNat_of_zero_le h0
 rw [A2 (by omega)];simp
theorem sub_one {α:Type} {l:List α} {c:α} {r:List α} (h:l=c::r):sub l 1 (l.length:Int)=some r:=by
 have:=A2 (l:=l) (i:=1) (by rw [h];simp)
 rw [h] at this ⊢;simpa using this
theorem cM {α:Type} {b:Nat} {xs ys:List α} (h:xs.length+ys.length≤1000000000) (hb:b≤1000):cC b xs ys=some (xs++ys):=by
 unfold cC
 rw [if_pos]
 refine ⟨?_,by omega⟩
 calc (xs.length+ys.length)*b≤1000000000*1000:=Nat.mul_le_mul h hb
  _≤_:=by omega
theorem ij {l m:List UInt8} (h:l.length+m.length≤1000000000):cat l m=some (l++m):=by
 unfold cat;rw [if_pos (by omega)]
theorem cO {ρ τ σ:Type} {body:σ→Option (St ρ τ σ)} {F:Nat} {s s':σ} (h:body s=some (.cT s')):iter body (F+1) s=iter body F s':=by simp only [iter,h]
theorem dw {ρ τ σ:Type} {body:σ→Option (St ρ τ σ)} {F:Nat} {s:σ} {t:τ} (h:body s=some (.fI t)):iter body (F+1) s=some (.inr t):=by simp only [iter,h]
theorem iN {ρ τ σ:Type} {body:σ→Option (St ρ τ σ)} {F:Nat} {s:σ} {r:ρ} (h:body s=some (.ret r)):iter body (F+1) s=some (.inl r):=by simp only [iter,h]
theorem aco {ρ τ σ:Type} {body:σ→Option (St ρ τ σ)} (I:σ→Prop) (m:σ→Nat) (post:ρ⊕τ→Prop)
 (step:∀s,I s→(∃r,body s=some (.ret r)∧post (.inl r))∨(∃t,body s=some (.fI t)∧post (.inr t))∨∃s',body s=some (.cT s')∧I s'∧m s'<m s):
 ∀(F:Nat) (s:σ),I s→m s<F→∃o,iter body F s=some o∧post o:=by
 intro F
 induction F with
 |zero=>intro s _ h;omega
 |succ F ih=>
  intro s hI hm
  rcases step s hI with ⟨r,h,hp⟩|⟨t,h,hp⟩|⟨s',h,hI',hlt⟩
  · exact ⟨_,iN h,hp⟩
  · exact ⟨_,dw h,hp⟩
  · obtain ⟨o,ho,hp⟩:=ih s' hI' (by omega)
    exact ⟨o,by rw [cO h];exact ho,hp⟩
theorem drop_cons {α:Type} {l r:List α} {i:Nat} {c:α} (h:l.drop i=c::r):i<l.length∧l[i]? =some c∧l.drop (i+1)=r:=by
 have hlt:i<l.length:=by
  rcases Nat.lt_or_ge i l.length with h1|h1
  · exact h1
  · rw [List.drop_eq_nil_of_le h1] at h;cases h
 rw [List.drop_eq_getElem_cons hlt] at h
 injection h with h1 h2
 exact ⟨hlt,by rw [List.getElem?_eq_getElem hlt,h1],h2⟩
theorem A3 {α:Type} {l:List α} {i:Nat} (h:l.drop i=[]):l.length≤i:=List.drop_eq_nil_iff.1 h
theorem cJ {n F:Nat} (h:n<F):∃G,F=G+1:=⟨F - 1,by omega⟩
end Go.Am
end
section
set_option maxRecDepth 100000
namespace Go.Proofs.cL
open Go Go.Am Go.Proofs
theorem nH {p:UInt8→Bool} (h:(List.range 256).all (fun n=>p (UInt8.ofNat n))=true) (c:UInt8):p c=true:=by
 have:=List.all_eq_true.1 h c.toNat (by simpa using c.toNat_lt)
 simpa using this
theorem scan {α ρ τ σ:Type} {s:List α} {body:σ→Option (St ρ τ σ)} {mk:Nat→σ} {p:α→Bool} {rr:Nat→ρ} {tt:τ}
 (h1:∀i x,s[i]? =some x→p x=true→body (mk i)=some (.cT (mk (i+1)))) (h2:∀i x,s[i]? =some x→p x=false→body (mk i)=some (.ret (rr i)))
 (h3:body (mk s.length)=some (.fI tt)) {F:Nat} (hF:s.length<F):
 (s.all p=true→iter body F (mk 0)=some (.inr tt))∧(s.all p=false→∃j,iter body F (mk 0)=some (.inl (rr j))):=by
 suffices h:∀(r:List α) (i F:Nat),s.drop i=r→i+r.length=s.length→r.length<F→
  (r.all p=true→iter body F (mk i)=some (.inr tt))∧(r.all p=false→∃j,iter body F (mk i)=some (.inl (rr j))) from h s 0 F rfl (by simp) hF
 intro r
 induction r with
 |nil=>
  intro i F hd hl hF
  obtain ⟨G,rfl⟩:=cJ hF
  have:i=s.length:=by simpa using hl
  subst this
  exact ⟨fun _=>dw h3,fun h=>by simp at h⟩
 |cons x r ih=>
  intro i F hd hl hF
  obtain ⟨G,rfl⟩:=cJ hF
  obtain ⟨hi,hx,hr⟩:=drop_cons hd
  simp only [List.length_cons] at hl hF
  cases hp:p x with
  |true=>
   rw [cO (h1 i x hx hp)]
   simp only [List.all_cons,hp,Bool.true_and]
   exact ih (i+1) G hr (by omega) (by omega)
  |false=>
   rw [iN (h2 i x hx hp)]
   simp only [List.all_cons,hp,Bool.false_and]
   exact ⟨fun h=>by simp at h,fun _=>⟨i,rfl⟩⟩
theorem wi {n:Nat} (h:n≤1000000000):IntKind.wrap .i64 ((n:Int)+1)=((n+1:Nat):Int):=by rw [wr (by omega) (by omega)];simp
def IZ (c:UInt8):Bool:=(decide (65≤c)&&decide (c≤90))||(decide (97≤c)&&decide (c≤122))
def um (c:UInt8):Bool:=decide (48≤c)&&decide (c≤57)
def B9 (c:UInt8):Bool:=IZ c||um c||c==45
theorem acp (c:UInt8):jy c=some (IZ c||um c):=by
 have:=nH (p:=fun c=>decide (jy c=some (IZ c||um c))) (by kernel_rfl) c
 simpa using this
theorem K9 (c:UInt8):j3 c=some (B9 c):=by
 have:=nH (p:=fun c=>decide (j3 c=some (B9 c))) (by kernel_rfl) c
 simpa using this
theorem GL (c:UInt8):iL c=some (IZ c):=by
 have:=nH (p:=fun c=>decide (iL c=some (IZ c))) (by kernel_rfl) c
 simpa using this
theorem E8 (c:UInt8):ig c=some (um c):=by
 have:=nH (p:=fun c=>decide (ig c=some (um c))) (by kernel_rfl) c
 simpa using this
def bh:List UInt8→List (List UInt8)
 |[]=>[[]]
 |c::r=>if c=46 then []::bh r else match bh r with|[]=>[[c]]|h::t=>(c::h)::t
theorem gB:∀s,bh s≠[]
 |[]=>by simp [bh]
 |c::r=>by
  unfold bh
  split
  · simp
  · split<;>simp
theorem N4 (r:List UInt8):Lib.split (46::r) [46]=[]::Lib.split r [46]:=by
 have hi:Lib.index (46::r) [46]=((0:Nat):Int):=by unfold Lib.index;rw [if_pos (by simp [List.isPrefixOf])];rfl
 have hc:=Lib.count_hit (by simp) hi
 unfold Lib.split
 rw [hc,Nat.add_comm]
 simp only [Lib.splitK,hi]
 rfl
theorem La {c:UInt8} (hc:c≠46) (r:List UInt8):Lib.split (c::r) [46]=match Lib.split r [46] with|[]=>[[c]]|h::t=>(c::h)::t:=by
 have hp:([46]:List UInt8).isPrefixOf (c::r)=false:=by simp [List.isPrefixOf];exact fun h=>hc h.symm
 have hi:Lib.index (c::r) [46]=if Lib.index r [46]== -1 then -1 else Lib.index r [46]+1:=by
  conv=>lhs;unfold Lib.index
  rw [if_neg (by rw [hp];simp)]
 rcases Lib.index_spec r [46] with ⟨h, -⟩|⟨i,h, -, -, -⟩
 · rw [h] at hi
   unfold Lib.split
   rw [Lib.count_miss h,Lib.count_miss hi]
   rfl
 · have hne:(((i:Nat):Int)== -1)=false:=by rw [beq_eq_false_iff_ne];omega
   rw [h,hne] at hi
   have hi':Lib.index (c::r) [46]=((i+1:Nat):Int):=by rw [hi];simp
   unfold Lib.split
   rw [Lib.count_hit (by simp) h,Lib.count_hit (by simp) hi',Nat.add_comm 1,Nat.add_comm 1]
   have vM:(((i+1:Nat):Int)== -1)=false:=by rw [beq_eq_false_iff_ne];omega
   simp only [Lib.splitK,h,hi',hne,vM,Bool.false_eq_true,if_false,Int.toNat_natCast,Nat.add_zero,List.take_succ_cons,List.length_cons,List.length_nil,Nat.zero_add,List.drop_succ_cons]
theorem Ca:∀s:List UInt8,Lib.split s [46]=bh s
 |[]=>by rfl
 |c::r=>by
  by_cases hc:c=46
  · subst hc;rw [N4,Ca r];simp [bh]
  · rw [La hc,Ca r];simp only [bh,if_neg hc]
theorem nZ (s:List UInt8):∀p∈bh s,p.length≤s.length:=by
 induction s with
 |nil=>simp [bh]
 |cons c r ih=>
  unfold bh
  split
  · intro p hp
    rcases List.mem_cons.1 hp with rfl|hp
    · simp
    · have:=ih p hp;simp;omega
  · cases hs:bh r with
    |nil=>exact absurd hs (gB r)
    |cons h t=>
     simp only
     intro p hp
     rcases List.mem_cons.1 hp with rfl|hp
     · have:=ih h (by rw [hs];simp);simp;omega
     · have:=ih p (by rw [hs];simp [hp]);simp;omega
theorem w9 (s:List UInt8):(bh s).length≤s.length+1:=by
 induction s with
 |nil=>simp [bh]
 |cons c r ih=>
  unfold bh
  split
  · simp;omega
  · cases hs:bh r with
    |nil=>exact absurd hs (gB r)
    |cons h t=>rw [hs] at ih;simp at ih ⊢;omega
theorem Lb {p:List UInt8} (hp:∀c∈p,c≠46) (r:List UInt8):bh (p++46::r)=p::bh r:=by
 induction p with
 |nil=>simp [bh]
 |cons c p ih=>
  simp only [List.cons_append,bh,if_neg (hp c (by simp)),ih fun x hx=>hp x (by simp [hx])]
theorem Lc {p:List UInt8} (hp:∀c∈p,c≠46):bh p=[p]:=by
 induction p with
 |nil=>simp [bh]
 |cons c p ih=>
  simp only [bh,if_neg (hp c (by simp)),ih fun x hx=>hp x (by simp [hx])]
def VT:List (List UInt8):=(List.range 256).map fun n:Nat=>Lib.itoa (n:Int)
def jn (s:List UInt8):Bool:=VT.contains s
theorem Ld:(List.range 256).all (fun n:Nat=>decide (jx (Lib.itoa (n:Int))=some true))=true:=by kernel_rfl
theorem So:VT.all (fun s=>decide (s.length≤3∧s.all um=true∧s≠[]∧(s.head?=some 48→s.length≤1)))=true:=by kernel_rfl
theorem xb {s:List UInt8}:jn s=true↔∃n:Nat,n<256∧Lib.itoa (n:Int)=s:=by
 simp [jn,VT]
theorem uo {s:List UInt8} (h:jn s=true):s.length≤3∧s.all um=true∧s≠[]∧(s.head?=some 48→s.length≤1):=by
 have:=List.all_eq_true.1 So s (by simpa [jn] using h)
 exact of_decide_eq_true this
def Le (s:List UInt8):Nat:=s.foldl (fun a c=>10*a+(c.toNat - 48)) 0
theorem Sp:(List.range 256).all (fun n:Nat=>decide (Le (Lib.itoa (n:Int))=n))=true:=by kernel_rfl
def CC (s:List UInt8):Bool:=decide (Le s<256)&&decide (Lib.itoa (Le s:Int)=s)
theorem YY (s:List UInt8):jn s=CC s:=by
 cases h:jn s with
 |true=>
  obtain ⟨n,hn,rfl⟩:=xb.1 h
  have hv:Le (Lib.itoa (n:Int))=n:=of_decide_eq_true (List.all_eq_true.1 Sp n (by simpa using hn))
  unfold CC
  rw [hv]
  simp [hn]
 |false=>
  cases h':CC s with
  |false=>rfl
  |true=>
   simp only [CC,Bool.and_eq_true,decide_eq_true_eq] at h'
   rw [xb.2 ⟨Le s,h'.1,h'.2⟩] at h;cases h
theorem N5 {s:List UInt8} (hs:s.length≤100000):jx s=some (jn s):=by
 cases hn:jn s with
 |true=>
  obtain ⟨n,hlt,rfl⟩:=xb.1 hn
  have:=List.all_eq_true.1 Ld n (by simpa using hlt)
  simpa using this
 |false=>
  unfold jx strconv_Atoi
  rw [if_pos (by omega)]
  rcases CL:Lib.atoiAll s with v|_|_
  · simp only [Option.bind_some,fZ,Bool.not_false,if_true,decide_eq_true_eq]
    by_cases h0:0≤v
    · by_cases h1:v≤255
      · rw [if_pos h0,if_pos h1]
        unfold strconv_Itoa
        rw [if_pos (by omega)]
        simp only [Option.bind_some,Option.some.injEq,decide_eq_false_iff_not]
        intro he
        have:jn s=true:=xb.2 ⟨v.toNat,by omega,by rw [←he];congr 1;omega⟩
        rw [hn] at this;cases this
      · rw [if_pos h0,if_neg h1];rfl
    · rw [if_neg h0];rfl
  · simp [fZ]
  · simp [fZ]
end Go.Proofs.cL
end
section
set_option maxRecDepth 100000
namespace Go.Proofs.cL
open Go Go.Am Go.Proofs
def mz (s:List UInt8):Bool:=s !=[]&&s.head? !=some 45&&s.getLast? !=some 45&&s.all B9
def sI (s:List UInt8):Bool:=decide (1<s.length)&&s.head?==some 91&&s.getLast?==some 93
def inner (s:List UInt8):List UInt8:=(s.drop 1).dropLast
def mA (s:List UInt8):Bool:=if sI s then decide ((bh (inner s)).length=4)&&(bh (inner s)).all jn else (bh s).all mz
def jO (s:List UInt8):Bool:=decide (s.length≤255)&&mA s&&(bh s).all fun p=>decide (p.length≤63)
theorem A4 (c:UInt8) (r:List UInt8):∃x,(c::r).getLast?=some x:=by
 cases h:(c::r).getLast? with
 |none=>simp at h
 |some x=>exact ⟨x,rfl⟩
theorem xd {s:List UInt8} {x:UInt8} (h:s.getLast?=some x) (hl:s.length≤1000000):idx s (IntKind.wrap .i64 ((s.length:Int) - 1))=some x:=by
 have hp:0<s.length:=by cases s with|nil=>simp at h|cons=>simp
 rw [wr (by omega) (by omega),show (s.length:Int) - 1=((s.length - 1:Nat):Int) by omega,E7, ←List.getLast?_eq_getElem?,h]
theorem VU {s:List UInt8} {F:Nat} (hl:s.length≤1000000) (hF:s.length<F):jf F s=some (s.all B9):=by
 unfold jf
 have hh:=scan (s:=s) (body:=dV s) (mk:=fun i=>(false,(i:Int))) (p:=B9) (rr:=fun _=>false) (tt:=()) ?_ ?_ ?_ hF
 · cases ha:s.all B9 with
   |true=>have:=hh.1 ha;rw [show ((0:Nat):Int)=0 from rfl] at this;rw [this];rfl
   |false=>obtain ⟨j,hj⟩:=hh.2 ha;rw [show ((0:Nat):Int)=0 from rfl] at hj;rw [hj];rfl
 · intro i x hx hp
   have hi:=(List.getElem?_eq_some_iff.1 hx).1
   simp only [dV]
   rw [if_pos (by simpa using hi),bM hx,Option.bind_some,K9,Option.bind_some,hp,wi (by omega)];rfl
 · intro i x hx hp
   have hi:=(List.getElem?_eq_some_iff.1 hx).1
   simp only [dV]
   rw [if_pos (by simpa using hi),bM hx,Option.bind_some,K9,Option.bind_some,hp];rfl
 · simp [dV]
theorem VV {s:List UInt8} {F:Nat} (hl:s.length≤1000000) (hF:s.length<F):nM F s=some (mz s):=by
 unfold nM lS mz
 cases s with
 |nil=>simp
 |cons c r=>
  obtain ⟨x,hx⟩:∃x,(c::r).getLast?=some x:=A4 c r
  rw [xd hx hl,VU hl hF,hx]
  have h0:idx (c::r) 0=some c:=by simp [idx]
  rw [h0]
  by_cases h1:c=45
  · simp [h1]
  · by_cases h2:x=45
    · simp [h1,h2]
    · simp [h1,h2]
theorem GM {x:List UInt8} (hx:x.length≤100000):je x=some (!jn x):=by simp [je,N5 hx]
theorem GN {F:Nat} {x:List UInt8} (hx:x.length≤100000) (hF:x.length<F):jg F x=some (!mz x):=by simp [jg,VV (by omega:x.length≤1000000) hF]
theorem Lf {l:List (List UInt8)} {F:Nat} (hl:l.length≤1000000) (hF:l.length<F) (hx:∀x∈l,x.length≤100000):dU F l=some (!l.all jn):=by
 unfold dU gF
 have hh:=scan (s:=l) (body:=cP l) (mk:=fun i=>(0,(i:Int))) (p:=jn) (rr:=fun i=>(i:Int)) (tt:=()) ?_ ?_ ?_ hF
 · cases ha:l.all jn with
   |true=>have:=hh.1 ha;rw [show ((0:Nat):Int)=0 from rfl] at this;rw [this];rfl
   |false=>obtain ⟨j,hj⟩:=hh.2 ha;rw [show ((0:Nat):Int)=0 from rfl] at hj;rw [hj];simp
 · intro i x hx' hp
   have hi:=(List.getElem?_eq_some_iff.1 hx').1
   simp only [cP]
   rw [if_pos (by simpa using hi),bM hx',Option.bind_some,GM (hx x (List.mem_of_getElem? hx')),Option.bind_some,hp,wi (by omega)];rfl
 · intro i x hx' hp
   have hi:=(List.getElem?_eq_some_iff.1 hx').1
   simp only [cP]
   rw [if_pos (by simpa using hi),bM hx',Option.bind_some,GM (hx x (List.mem_of_getElem? hx')),Option.bind_some,hp];rfl
 · simp [cP]
theorem Lg {l:List (List UInt8)} {F:Nat} (hl:l.length≤1000000) (hF:l.length<F) (hx:∀x∈l,x.length≤100000∧x.length<F):dJ F l=some (!l.all mz):=by
 unfold dJ gi
 have hh:=scan (s:=l) (body:=cD F l) (mk:=fun i=>(0,(i:Int))) (p:=mz) (rr:=fun i=>(i:Int)) (tt:=()) ?_ ?_ ?_ hF
 · cases ha:l.all mz with
   |true=>have:=hh.1 ha;rw [show ((0:Nat):Int)=0 from rfl] at this;rw [this];rfl
   |false=>obtain ⟨j,hj⟩:=hh.2 ha;rw [show ((0:Nat):Int)=0 from rfl] at hj;rw [hj];simp
 · intro i x hx' hp
   have hi:=(List.getElem?_eq_some_iff.1 hx').1
   obtain ⟨ha,hb⟩:=hx x (List.mem_of_getElem? hx')
   simp only [cD]
   rw [if_pos (by simpa using hi),bM hx',Option.bind_some,GN ha hb,Option.bind_some,hp,wi (by omega)];rfl
 · intro i x hx' hp
   have hi:=(List.getElem?_eq_some_iff.1 hx').1
   obtain ⟨ha,hb⟩:=hx x (List.mem_of_getElem? hx')
   simp only [cD]
   rw [if_pos (by simpa using hi),bM hx',Option.bind_some,GN ha hb,Option.bind_some,hp];rfl
 · simp [cD]
theorem Lh {l:List (List UInt8)} {F:Nat} (hl:l.length≤1000000) (hF:l.length<F):dA F l=some (!l.all fun p=>decide (p.length≤63)):=by
 unfold dA fU
 have hh:=scan (s:=l) (body:=cz l) (mk:=fun i=>(0,(i:Int))) (p:=fun p=>decide (p.length≤63)) (rr:=fun i=>(i:Int)) (tt:=()) ?_ ?_ ?_ hF
 · cases ha:l.all fun p=>decide (p.length≤63) with
   |true=>have:=hh.1 ha;rw [show ((0:Nat):Int)=0 from rfl] at this;rw [this];rfl
   |false=>obtain ⟨j,hj⟩:=hh.2 ha;rw [show ((0:Nat):Int)=0 from rfl] at hj;rw [hj];simp
 · intro i x hx' hp
   have hi:=(List.getElem?_eq_some_iff.1 hx').1
   simp only [cz]
   rw [if_pos (by simpa using hi),bM hx',Option.bind_some,ji,Option.bind_some,if_neg (by simp at hp ⊢;omega),wi (by omega)]
 · intro i x hx' hp
   have hi:=(List.getElem?_eq_some_iff.1 hx').1
   simp only [cz]
   rw [if_pos (by simpa using hi),bM hx',Option.bind_some,ji,Option.bind_some,if_pos (by simp at hp ⊢;omega)]
 · simp [cz]
theorem rV {s:List UInt8} (h:s.length≤1000000):strings_Split s [46]=some (bh s):=by
 unfold strings_Split;rw [if_pos (by simp;omega),Ca]
theorem N6 {s:List UInt8} {F:Nat} (hl:s.length≤99000) (hF:s.length+1<F):lU F s=some (mA s):=by
 have hp1:iz s=some (sI s):=by
  unfold iz sI
  by_cases h1:1<s.length
  · cases s with
    |nil=>simp at h1
    |cons c r=>
     obtain ⟨x,hx⟩:∃x,(c::r).getLast?=some x:=A4 c r
     rw [if_pos (by simp at h1 ⊢;omega),xd hx (by omega),hx,show idx (c::r) 0=some c by simp [idx]]
     rw [decide_eq_true h1]
     by_cases h2:c=91
     · simp [h2];rfl
     · simp [h2]
  · rw [if_neg (by simp;omega)];simp [h1]
 unfold lU mA
 rw [hp1,Option.bind_some]
 cases hi:sI s with
 |true=>
  have h1:1<s.length:=by simp [sI] at hi;omega
  simp only [if_true]
  rw [wr (by omega) (by omega)]
  have hsub:sub s 1 ((s.length:Int) - 1)=some (inner s):=by
   rw [show (1:Int)=((1:Nat):Int) from rfl,show (s.length:Int) - ((1:Nat):Int)=((s.length - 1:Nat):Int) by omega,uk (by omega) (by omega)]
   congr 1
   unfold inner
   rw [List.dropLast_eq_take,List.length_drop,List.drop_take]
  have hil:(inner s).length+2=s.length:=by simp [inner];omega
  rw [hsub,Option.bind_some,rV (by omega),Option.bind_some]
  unfold kE
  have hn:=w9 (inner s)
  by_cases h4:(bh (inner s)).length=4
  · rw [if_pos (by simpa using by omega),Lf (by omega) (by omega) fun x hx=>by have:=nZ _ x hx;omega]
    simp [h4]
  · rw [if_neg (by simpa using by omega)]
    simp [h4]
 |false=>
  have hn:=w9 s
  simp only [Bool.false_eq_true,if_false]
  rw [rV (by omega),Option.bind_some,Lg (by omega) (by omega) fun x hx=>by have:=nZ _ x hx;omega]
  simp
theorem abI {s:List UInt8} {F:Nat} (hl:s.length≤99000) (hF:s.length+1<F):lV F s=some (jO s):=by
 unfold lV kF jO
 by_cases h:s.length≤255
 · rw [if_pos (by simpa using by omega),N6 hl hF]
   have hn:=w9 s
   cases mA s with
   |true=>simp only [Option.bind_some,if_true];rw [rV (by omega),Option.bind_some,Lh (by omega) (by omega)];simp [h]
   |false=>simp
 · rw [if_neg (by simpa using by omega)];simp [h]
end Go.Proofs.cL
end
section
set_option maxRecDepth 100000
namespace Go.Proofs.cL
open Go Go.Am Go.Proofs
def CD:List UInt8:=(List.range 10).map fun n=>UInt8.ofNat (48+n)
theorem abJ (n:Nat):CD.all (fun a=>decide (eM (n+10) [a]=some (CC [a])))=true:=by kernel_rfl
theorem abK (n:Nat):CD.all (fun a=>CD.all fun b=>decide (eM (n+10) [a,b]=some (CC [a,b])))=true:=by kernel_rfl
theorem abL (n:Nat):CD.all (fun a=>CD.all fun b=>CD.all fun c=>decide (eM (n+10) [a,b,c]=some (CC [a,b,c])))=true:=by kernel_rfl
theorem pg {c:UInt8} (h:um c=true):c∈CD:=by
 have:=nH (p:=fun c=> !um c||CD.contains c) (by kernel_rfl) c
 simpa [h] using this
theorem Sq {s:List UInt8} {F:Nat} (hF:10≤F) (hl:s.length≤100000):eM F s=some (jn s):=by
 by_cases h3:3<s.length
 · have hn:jn s=false:=by
    cases h:jn s with
    |false=>rfl
    |true=>have:=(uo h).1;omega
   have hne:s≠[]:=by intro h;subst h;simp at h3
   unfold eM fc
   simp only [hne,decide_false,Bool.false_eq_true,if_false]
   rw [if_pos (by simp;omega),hn];rfl
 · by_cases hd:s.all um=true
   · obtain ⟨G,rfl⟩:∃G,F=G+10:=⟨F - 10,by omega⟩
     rw [List.all_eq_true] at hd
     rw [YY]
     match s,h3,hd with
     |[],_,_=>rw [show CC []=false by kernel_rfl];simp [eM,fc]
     |[a],_,hd=>exact of_decide_eq_true (List.all_eq_true.1 (abJ G) a (pg (hd a (by simp))))
     |[a,b],_,hd=>exact of_decide_eq_true (List.all_eq_true.1 (List.all_eq_true.1 (abK G) a (pg (hd a (by simp)))) b (pg (hd b (by simp))))
     |[a,b,c],_,hd=>exact of_decide_eq_true (List.all_eq_true.1 (List.all_eq_true.1 (List.all_eq_true.1 (abL G) a (pg (hd a (by simp)))) b (pg (hd b (by simp)))) c (pg (hd c (by simp))))
     |a::b::c::d::r,h3,_=>simp at h3
   · have hn:jn s=false:=by
      cases h:jn s with
      |false=>rfl
      |true=>exact absurd (uo h).2.1 hd
     rw [hn]
     have hp:∃b,fc s=some b:=by
      unfold fc
      cases s with
      |nil=>simp
      |cons c r=>
       rw [show idx (c::r) 0=some c by simp [idx]]
       simp only [Option.bind_some]
       repeat' split
       all_goals exact ⟨_,rfl⟩
     obtain ⟨b,hb⟩:=hp
     unfold eM
     rw [hb,Option.bind_some]
     cases b with
     |true=>rfl
     |false=>
      simp only [Bool.false_eq_true,if_false]
      have abM:∀(r:List UInt8) (i F:Nat) (n:Int),s.drop i=r→i+r.length=s.length→r.length<F→r.all um=false→iter (gf s) F (n,(i:Int))=some (.inl false):=by
       intro r
       induction r with
       |nil=>intro i F n _ _ _ h;simp at h
       |cons x r ih=>
        intro i F n hdr hlr hF ha
        obtain ⟨G,rfl⟩:=cJ hF
        obtain ⟨hi,hx,hr⟩:=drop_cons hdr
        simp only [List.length_cons] at hlr hF
        have hstep:gf s (n,(i:Int))=if (!um x)=true then some (.ret false) else some (.cT ((IntKind.wrap .i64 ((IntKind.wrap .i64 (10*n))+(IntKind.wrap .i64 ((x - 48).toNat:Int)))),((i+1:Nat):Int))):=by
         simp only [gf]
         rw [if_pos (by simpa using hi),bM hx,Option.bind_some,E8,Option.bind_some,wi (by omega)]
        cases hx':um x with
        |false=>rw [hx'] at hstep;exact iN (by rw [hstep];rfl)
        |true=>
         rw [hx'] at hstep
         rw [cO (by rw [hstep];rfl)]
         exact ih (i+1) G _ hr (by omega) (by omega) (by simpa [hx'] using ha)
      rw [show (0,(0:Int))=((0:Int),((0:Nat):Int)) from rfl,abM s 0 F 0 rfl (by simp) (by omega) (by simpa using hd)]
      rfl
def GO (s:List UInt8):Bool:=mz s&&decide (s.length≤63)
theorem VW {s:List UInt8} {F:Nat} (hl:s.length≤100000) (hF:s.length<F):mg F s=some (GO s):=by
 unfold mg kH GO mz
 cases s with
 |nil=>simp
 |cons c r=>
  obtain ⟨x,hx⟩:=A4 c r
  rw [xd hx (by omega),hx,show idx (c::r) 0=some c by simp [idx]]
  by_cases h0:63<(c::r).length
  · rw [if_neg (by simp),if_pos (by simp at h0 ⊢;omega)]
    have:decide ((c::r).length≤63)=false:=by simp at h0 ⊢;omega
    rw [this];simp
  · have h0':decide ((c::r).length≤63)=true:=by simp at h0 ⊢;omega
    rw [if_neg (by simp),if_neg (by simp at h0 ⊢;omega),h0']
    by_cases h1:c=45
    · simp [h1]
    · by_cases h2:x=45
      · simp [h1,h2]
      · have hh:=scan (s:=c::r) (body:=ff (c::r)) (mk:=fun i=>(i:Int)) (p:=B9) (rr:=fun _=>false) (tt:=()) ?_ ?_ ?_ hF
        · simp only [Option.bind_some,h1,h2,decide_false,Bool.false_eq_true,if_false]
          cases ha:(c::r).all B9 with
          |true=>have:=hh.1 ha;rw [show ((0:Nat):Int)=0 from rfl] at this;rw [this];simp [h1,h2]
          |false=>obtain ⟨j,hj⟩:=hh.2 ha;rw [show ((0:Nat):Int)=0 from rfl] at hj;rw [hj];simp [h1,h2]
        · intro i y hy hp
          have hi:=(List.getElem?_eq_some_iff.1 hy).1
          simp only [ff,iD]
          rw [if_pos (by simp at hi ⊢;omega),bM hy,Option.bind_some,GL,Option.bind_some,E8,Option.bind_some,wi (by omega)]
          simp only [B9] at hp
          cases h1:IZ y<;>cases h2:um y<;>simp [h1,h2] at hp ⊢
          exact hp
        · intro i y hy hp
          have hi:=(List.getElem?_eq_some_iff.1 hy).1
          simp only [ff,iD]
          rw [if_pos (by simp at hi ⊢;omega),bM hy,Option.bind_some,GL,Option.bind_some,E8,Option.bind_some]
          simp only [B9] at hp
          cases h1:IZ y<;>cases h2:um y<;>simp [h1,h2] at hp ⊢
          exact hp
        · simp [ff]
end Go.Proofs.cL
end
section
set_option maxRecDepth 100000
namespace Go.Proofs.cL
open Go Go.Am Go.Proofs
def I0 (num:Bool) (s:List UInt8):Bool:=if num then jn s else GO s
theorem VX {F:Nat} {x:UInt8} {s:List UInt8} {a i:Nat} (h:a≤i) (hi:i≤s.length) (hl:s.length≤99000) (hF:s.length+10<F):
 gP F x s (a:Int) (i:Int)=some (!I0 (x==91) ((s.take i).drop a)):=by
 have hlen:((s.take i).drop a).length≤s.length:=by simp;omega
 unfold gP I0
 rw [uk h hi]
 by_cases hx:x=91
 · rw [if_pos (by simpa using hx)]
   simp only [Option.bind_some]
   rw [Sq (by omega) (by omega)]
   simp only [Option.bind_some,hx,beq_self_eq_true,if_true]
   cases jn ((s.take i).drop a)<;>rfl
 · rw [if_neg (by simpa using hx)]
   simp only [Option.bind_some]
   rw [VW (by omega) (by omega)]
   have:(x==91)=false:=by simpa using hx
   simp [this]
theorem GP {F:Nat} {x:UInt8} {s:List UInt8} (hl:s.length≤99000) (YZ:s.length+10<F):∀(r cur:List UInt8) (a k i G:Nat),(∀c∈cur,c≠46)→s.drop a=cur++r→a+cur.length=i→i+r.length=s.length→r.length+1<G→k≤i→
 iter (cx F s x) G ((a:Int),(k:Int),(i:Int))=some (if (bh (cur++r)).all (I0 (x==91)) then .inr ((k+(bh (cur++r)).length:Nat):Int) else .inl false):=by
 have xe:∀(cur r:List UInt8) (a i:Nat),s.drop a=cur++r→a+cur.length=i→(s.take i).drop a=cur:=by
  intro cur r a i h hi
  rw [List.drop_take,h, ←hi,Nat.add_sub_cancel_left,List.take_left' rfl]
 intro r
 induction r with
 |nil=>
  intro cur a k i G hc hd ha hi hG hk
  obtain ⟨G,rfl⟩:=cJ (show 0<G by omega)
  obtain ⟨G,rfl⟩:=cJ (show 0<G by simp at hG;omega)
  have hie:i=s.length:=by simpa using hi
  have hstep:cx F s x ((a:Int),(k:Int),(i:Int))=if (!I0 (x==91) cur)=true then some (.ret false) else some (.cT (((i+1:Nat):Int),((k+1:Nat):Int),((i+1:Nat):Int))):=by
   simp only [cx]
   rw [if_pos (by simp;omega)]
   have:eI (i:Int) s=some false:=by unfold eI;rw [if_neg (by simp;omega)]
   rw [this,Option.bind_some]
   simp only [Bool.false_eq_true,if_false]
   rw [VX (by omega) (by omega) hl YZ,Option.bind_some,xe cur [] a i hd ha,wi (by omega),wi (by omega)]
  rw [List.append_nil,Lc hc]
  cases hx:I0 (x==91) cur with
  |false=>rw [hx] at hstep;rw [iN (by rw [hstep];rfl)];simp [hx]
  |true=>
   rw [hx] at hstep
   rw [cO (by rw [hstep];rfl)]
   have:cx F s x (((i+1:Nat):Int),((k+1:Nat):Int),((i+1:Nat):Int))=some (.fI ((k+1:Nat):Int)):=by
    simp only [cx]
    rw [if_neg (by simp;omega)]
   rw [dw this]
   simp [hx]
 |cons c r ih=>
  intro cur a k i G hc hd ha hi hG hk
  obtain ⟨G,rfl⟩:=cJ (show 0<G by omega)
  simp only [List.length_cons] at hi hG
  have hci:s[i]? =some c:=by
   have:(s.drop a)[cur.length]? =some c:=by rw [hd];simp
   rw [List.getElem?_drop,ha] at this;exact this
  have hp4:eI (i:Int) s=some (!decide (c=46)):=by unfold eI;rw [if_pos (by simp;omega),bM hci];rfl
  by_cases VY:c=46
  · subst VY
    have hstep:cx F s x ((a:Int),(k:Int),(i:Int))=if (!I0 (x==91) cur)=true then some (.ret false) else some (.cT (((i+1:Nat):Int),((k+1:Nat):Int),((i+1:Nat):Int))):=by
     simp only [cx]
     rw [if_pos (by simp;omega),hp4,Option.bind_some]
     simp only [decide_true,Bool.not_true,Bool.false_eq_true,if_false]
     rw [VX (by omega) (by omega) hl YZ,Option.bind_some,xe cur _ a i hd ha,wi (by omega),wi (by omega)]
    rw [Lb hc]
    cases hx:I0 (x==91) cur with
    |false=>rw [hx] at hstep;rw [iN (by rw [hstep];rfl)];simp [hx]
    |true=>
     rw [hx] at hstep
     rw [cO (by rw [hstep];rfl)]
     have hd':s.drop (i+1)=r:=by
      have:(s.drop a).drop (cur.length+1)=r:=by rw [hd,List.drop_append];simp
      rw [List.drop_drop] at this
      rw [←this];congr 1;omega
     have:=ih [] (i+1) (k+1) (i+1) G (by simp) (by simpa using hd') (by simp) (by omega) (by omega) (by omega)
     rw [List.nil_append] at this
     rw [this]
     simp only [List.all_cons,hx,Bool.true_and,List.length_cons]
     congr 3
     omega
  · have hstep:cx F s x ((a:Int),(k:Int),(i:Int))=some (.cT ((a:Int),(k:Int),((i+1:Nat):Int))):=by
     simp only [cx]
     rw [if_pos (by simp;omega),hp4,Option.bind_some]
     simp only [VY,decide_false,Bool.not_false,if_true]
     rw [wi (by omega)]
    rw [cO hstep]
    have:=ih (cur++[c]) a k (i+1) G (by intro y hy;rcases List.mem_append.1 hy with h|h;exact hc y h;simp at h;subst h;exact VY) (by rw [hd];simp) (by simp;omega) (by omega) (by omega) (by omega)
    rw [this]
    simp
theorem Sr (l:List (List UInt8)):l.all GO=(l.all mz&&l.all fun p=>decide (p.length≤63)):=by
 induction l with
 |nil=>rfl
 |cons a l ih=>simp only [List.all_cons,ih,GO];cases mz a<;>cases decide (a.length≤63)<;>simp
theorem Li (s:List UInt8):((bh s).map List.length).sum+(bh s).length=s.length+1:=by
 induction s with
 |nil=>simp [bh]
 |cons c r ih=>
  unfold bh
  split
  · simp;omega
  · cases h:bh r with
    |nil=>exact absurd h (gB r)
    |cons a t=>rw [h] at ih;simp at ih ⊢;omega
theorem four {l:List (List UInt8)} (h4:l.length=4) (h:∀p∈l,p.length≤3):(l.map List.length).sum≤12:=by
 match l,h4 with
 |[a,b,c,d],_=>
  have ha:=h a (by simp);have hb:=h b (by simp);have hc:=h c (by simp);have hd:=h d (by simp)
  simp;omega
theorem N7 (r:List UInt8):(bh (91::r)).all mz=false:=by
 have h1:∀t:List UInt8,mz (91::t)=false:=by
  intro t
  have:B9 91=false:=by decide
  simp [mz,this]
 simp only [bh]
 rw [if_neg (by decide)]
 split
 · simp [h1]
 · simp [h1]
theorem abN {s:List UInt8} {F:Nat} (hl:s.length≤99000) (hF:s.length+10<F):fG F s=some (jO s):=by
 cases s with
 |nil=>simp [fG,jO,mA,sI,bh,mz]
 |cons c r=>
  unfold fG
  by_cases Pg:255<(c::r).length
  · rw [if_pos (by simp at Pg ⊢;omega)]
    have:decide ((c::r).length≤255)=false:=by simp at Pg ⊢;omega
    unfold jO;rw [this];rfl
  · have VZ:decide ((c::r).length≤255)=true:=by simp at Pg ⊢;omega
    rw [if_neg (by simp at Pg ⊢;omega),show idx (c::r) 0=some c by simp [idx],Option.bind_some]
    obtain ⟨x,hx⟩:=A4 c r
    by_cases hc:c=91
    · subst hc
      unfold gO jF
      rw [if_pos (by rfl),xd hx (by omega),Option.bind_some]
      by_cases hin:sI (91::r)=true
      · have S1:x=93:=by rw [sI,hx] at hin;simpa using (by simp at hin;exact hin.2)
        have h1:1<(91::r).length:=by rw [sI] at hin;simp at hin ⊢;exact hin.1
        subst S1
        rw [if_neg (by simp)]
        have:decide ((((91::r).length:Nat):Int)<2)=false:=by simp at h1 ⊢;omega
        rw [this]
        simp only [Option.bind_some,Bool.false_eq_true,if_false]
        have hsub:sub (91::r) 1 (IntKind.wrap .i64 ((((91::r).length:Nat):Int) - 1))=some (inner (91::r)):=by
         rw [wr (by omega) (by omega),show (1:Int)=((1:Nat):Int) from rfl,show (((91::r).length:Nat):Int) - ((1:Nat):Int)=(((91::r).length - 1:Nat):Int) by omega,uk (by omega) (by omega)]
         congr 1
         unfold inner
         rw [List.dropLast_eq_take,List.length_drop,List.drop_take]
        rw [hsub]
        simp only [Option.bind_some]
        have hil:(inner (91::r)).length≤(91::r).length:=by simp [inner];omega
        have V0:=GP (F:=F) (x:=91) (s:=inner (91::r)) (by omega) (by omega) (inner (91::r)) [] 0 0 0 F (by simp) (by simp) (by simp) (by simp) (by omega) (Nat.le_refl _)
        simp only [List.nil_append,Int.natCast_zero,Nat.zero_add] at V0
        rw [show ((0:Int),(0:Int),(0:Int))=(((0:Nat):Int),((0:Nat):Int),((0:Nat):Int)) from rfl]
        rw [show (((0:Nat):Int),((0:Nat):Int),((0:Nat):Int))=((0:Int),(0:Int),(0:Int)) from rfl,V0]
        have V1:(bh (inner (91::r))).all (I0 ((91:UInt8)==91))=(bh (inner (91::r))).all jn:=by congr 1
        rw [V1]
        unfold jO mA
        rw [VZ,hin]
        simp only [if_true,Bool.true_and]
        cases hall:(bh (inner (91::r))).all jn with
        |false=>simp
        |true=>
         by_cases h4:(bh (inner (91::r))).length=4
         · have hsum:=four h4 fun p hp=>(uo (List.all_eq_true.1 hall p hp)).1
           have htot:=Li (inner (91::r))
           have hlen:(91::r).length=(inner (91::r)).length+2:=by simp [inner];simp at h1;omega
           have:(bh (91::r)).all (fun p=>decide (p.length≤63))=true:=by
            rw [List.all_eq_true]
            intro p hp
            have:=nZ _ p hp
            simp only [decide_eq_true_eq]
            omega
           rw [this]
           simp [h4]
         · simp [h4];omega
      · have ad0:sI (91::r)=false:=by simpa using hin
        have hdf:jO (91::r)=false:=by unfold jO mA;rw [ad0];simp only [Bool.false_eq_true,if_false,N7];simp
        rw [hdf]
        by_cases ZK:x=93
        · subst ZK
          have h1:¬1<(91::r).length:=by intro h;rw [sI,hx,decide_eq_true h] at hin;simp at hin
          rw [if_neg (by simp),decide_eq_true (by omega)]
          rfl
        · rw [if_pos (by simpa using ZK)];rfl
    · unfold gO
      rw [if_neg (by simpa using hc)]
      simp only [Option.bind_some]
      have V0:=GP (F:=F) (x:=c) (s:=c::r) hl hF (c::r) [] 0 0 0 F (by simp) (by simp) (by simp) (by simp) (by omega) (Nat.le_refl _)
      simp only [List.nil_append,Int.natCast_zero,Nat.zero_add] at V0
      rw [V0]
      have Vs:(c==91)=false:=by simpa using hc
      have V1:(bh (c::r)).all (I0 (c==91))=(bh (c::r)).all GO:=by rw [Vs];congr 1
      rw [V1,Sr]
      have hin:sI (c::r)=false:=by unfold sI;simp [hc]
      unfold jO mA
      rw [VZ,hin]
      simp only [Bool.false_eq_true,if_false,Bool.true_and]
      cases (bh (c::r)).all mz<;>cases (bh (c::r)).all (fun p=>decide (p.length≤63))<;>simp [hc]
end Go.Proofs.cL
end
section
set_option maxRecDepth 100000
namespace Go.Proofs.cL
open Go Go.Am Go.Proofs
theorem ZL (a b:List UInt8):bh (a++46::b)=bh a++bh b:=by
 induction a with
 |nil=>simp [bh]
 |cons c a ih=>
  simp only [List.cons_append,bh,ih]
  by_cases hc:c=46
  · simp [hc]
  · simp only [if_neg hc]
    cases h:bh a with
    |nil=>exact absurd h (gB a)
    |cons x t=>simp
theorem zC (s:List UInt8):∀c∈s,c=46∨∃p∈bh s,c∈p:=by
 induction s with
 |nil=>simp
 |cons a r ih=>
  intro c hc
  simp only [bh]
  rcases List.mem_cons.1 hc with rfl|hc
  · by_cases h:c=46
    · exact .inl h
    · right
      rw [if_neg h]
      cases hs:bh r with
      |nil=>exact absurd hs (gB r)
      |cons x t=>exact ⟨c::x,by simp,by simp⟩
  · rcases ih c hc with h|⟨p,hp,js⟩
    · exact .inl h
    · right
      by_cases ha:a=46
      · rw [if_pos ha];exact ⟨p,by simp [hp],js⟩
      · rw [if_neg ha]
        cases hs:bh r with
        |nil=>exact absurd hs (gB r)
        |cons x t=>
         rw [hs] at hp
         rcases List.mem_cons.1 hp with rfl|hp
         · exact ⟨a::p,by simp,by simp [js]⟩
         · exact ⟨p,by simp [hp],js⟩
theorem aey {s:List UInt8} (h:s.head?≠some 91):sI s=false:=by
 unfold sI
 have:(s.head?==some 91)=false:=by simpa using h
 rw [this];simp
theorem ad1 {s:List UInt8} (h:s.getLast?≠some 93):sI s=false:=by
 unfold sI
 have:(s.getLast?==some 93)=false:=by simpa using h
 rw [this];simp
theorem ad3 {s:List UInt8} (hi:sI s=false) {p:List UInt8} (hp:p∈bh s) (hl:mz p=false):jO s=false:=by
 unfold jO mA
 rw [hi]
 have:(bh s).all mz=false:=by
  rw [List.all_eq_false]
  exact ⟨p,hp,by simp [hl]⟩
 simp [this]
end Go.Proofs.cL
end
section
set_option maxRecDepth 100000
namespace Go.Proofs.cL
open Go Go.Am Go.Proofs
def uq (c:UInt8):Bool:=IZ c||um c||c==45||c==46||c==91||c==93
def kU (c:UInt8):Bool:=decide (32≤c)&&decide (c≤126)
def ek (c:UInt8):Bool:=IZ c||um c||([33,35,36,37,38,39,42,43,45,47,61,63,94,95,96,123,124,125,126]:List UInt8).contains c
def zD (c:UInt8):Bool:=c==46||ek c
theorem Ph (c:UInt8):pX c=some (ek c):=by
 have:=nH (p:=fun c=>decide (pX c=some (ek c))) (by kernel_rfl) c
 simpa using this
structure At (s:List UInt8) (n:Nat) (r:List UInt8):Prop where
 le:n≤s.length
 dr:s.drop n=r
 sm:s.length≤90000
def nx:List UInt8→UInt8
 |[]=>0
 |c::_=>c
theorem At.len {s r:List UInt8} {n:Nat} (h:At s n r):n+r.length=s.length:=by
 rw [←h.dr,List.length_drop];have:=h.le;omega
theorem At.next {s r:List UInt8} {n:Nat} {c:UInt8} (h:At s n (c::r)):At s (n+1) r:=by
 obtain ⟨h1,h2,h3⟩:=drop_cons h.dr
 exact ⟨h1,h3,h.sm⟩
theorem I1 (q:UInt8→Bool) (r:List UInt8):(r.takeWhile q).length≤r.length:=(List.takeWhile_prefix q).length_le
theorem At.skip {s r:List UInt8} {n:Nat} (h:At s n r) (q:UInt8→Bool):At s (n+(r.takeWhile q).length) (r.dropWhile q):=by
 have h1:(r.takeWhile q).length≤r.length:=I1 _ _
 have h2:=h.len
 refine ⟨by omega, ?_,h.sm⟩
 rw [←List.drop_drop,h.dr]
 conv=>lhs;rw [←List.takeWhile_append_dropWhile (p:=q) (l:=r)]
 rw [List.takeWhile_append_dropWhile]
 conv=>lhs;arg 2;rw [←List.takeWhile_append_dropWhile (p:=q) (l:=r)]
 exact List.drop_left ..
theorem abO {s r:List UInt8} {n:Nat} (h:At s n r) (q:UInt8→Bool):sub s (n:Int) ((n+(r.takeWhile q).length:Nat):Int)=some (r.takeWhile q):=by
 have h1:=(h.skip q).le
 rw [uk (by omega) h1,List.drop_take,h.dr,Nat.add_sub_cancel_left]
 congr 1
 conv=>lhs;arg 2;rw [←List.takeWhile_append_dropWhile (p:=q) (l:=r)]
 exact List.take_left ..
def iV (s:List UInt8):Bool:=(bh s).all fun p=>p !=[]&&p.all ek
theorem Ss {s:List UInt8} {F:Nat} (hl:s.length≤1000000) (hF:s.length<F):iA F s=some (s.all ek):=by
 unfold iA
 have hh:=scan (s:=s) (body:=dG s) (mk:=fun i=>(false,(i:Int))) (p:=ek) (rr:=fun _=>false) (tt:=()) ?_ ?_ ?_ hF
 · cases ha:s.all ek with
   |true=>have:=hh.1 ha;rw [show ((0:Nat):Int)=0 from rfl] at this;rw [this];rfl
   |false=>obtain ⟨j,hj⟩:=hh.2 ha;rw [show ((0:Nat):Int)=0 from rfl] at hj;rw [hj];rfl
 · intro i x hx hp
   have hi:=(List.getElem?_eq_some_iff.1 hx).1
   simp only [dG]
   rw [if_pos (by simpa using hi),bM hx,Option.bind_some,Ph,Option.bind_some,hp,wi (by omega)];rfl
 · intro i x hx hp
   have hi:=(List.getElem?_eq_some_iff.1 hx).1
   simp only [dG]
   rw [if_pos (by simpa using hi),bM hx,Option.bind_some,Ph,Option.bind_some,hp];rfl
 · simp [dG]
theorem Lj {x:List UInt8} {F:Nat} (hl:x.length≤1000000) (hF:x.length<F):j4 F x=some (!(x !=[]&&x.all ek)):=by
 unfold j4 jz
 by_cases hx:x=[]
 · subst hx;rfl
 · rw [if_neg (by simpa using hx),Ss hl hF]
   simp [hx]
theorem Su {s:List UInt8} {F:Nat} (hl:s.length≤90000) (hF:s.length+1<F):nO F s=some (iV s):=by
 have hn:=w9 s
 unfold nO
 rw [rV (by omega),Option.bind_some]
 unfold eu fB
 have hh:=scan (s:=bh s) (F:=F) (body:=cu F (bh s)) (mk:=fun i=>(0,(i:Int))) (p:=fun p=>p !=[]&&p.all ek) (rr:=fun i=>(i:Int)) (tt:=()) ?_ ?_ ?_ (by omega)
 · unfold iV
   cases ha:(bh s).all fun p=>p !=[]&&p.all ek with
   |true=>have:=hh.1 ha;rw [show ((0:Nat):Int)=0 from rfl] at this;rw [this];rfl
   |false=>obtain ⟨j,hj⟩:=hh.2 ha;rw [show ((0:Nat):Int)=0 from rfl] at hj;rw [hj];simp
 · intro i x hx' hp
   have hi:=(List.getElem?_eq_some_iff.1 hx').1
   have hxl:=nZ s x (List.mem_of_getElem? hx')
   simp only [cu]
   rw [if_pos (by simpa using hi),bM hx',Option.bind_some,Lj (by omega) (by omega),Option.bind_some,hp,wi (by omega)];rfl
 · intro i x hx' hp
   have hi:=(List.getElem?_eq_some_iff.1 hx').1
   have hxl:=nZ s x (List.mem_of_getElem? hx')
   simp only [cu]
   rw [if_pos (by simpa using hi),bM hx',Option.bind_some,Lj (by omega) (by omega),Option.bind_some,hp];rfl
 · simp [cu]
def qL:List UInt8→Option (List UInt8×List UInt8)
 |[]=>none
 |c::r=>if c=34 then some ([],r)
  else if c=92 then (match r with
   |[]=>none
   |d::r'=>if kU d then (qL r').map fun x=>(d::x.1,x.2) else none)
  else if kU c then (qL r).map fun x=>(c::x.1,x.2) else none
theorem A5 (c:UInt8) (r:List UInt8):qL (c::r)=if c=34 then some ([],r)
 else if c=92 then (match r with
  |[]=>none
  |d::r'=>if kU d then (qL r').map fun x=>(d::x.1,x.2) else none)
 else if kU c then (qL r).map fun x=>(c::x.1,x.2) else none:=by
 cases r<;>rfl
theorem V3 (c:UInt8):nh c=some (kU c):=rfl
theorem afd:kU 0=false:=by decide
def ur (r:List UInt8):Option (List UInt8×List UInt8):=
 if nx r=34 then (match qL (r.drop 1) with|some (b,rest)=>if b=[] then none else some (b,rest)|none=>none)
 else if iV (r.takeWhile zD) then some (r.takeWhile zD,r.dropWhile zD) else none
def n6 (r:List UInt8):Option (List UInt8×List UInt8):=if mA (r.takeWhile uq) then some (r.takeWhile uq,r.dropWhile uq) else none
end Go.Proofs.cL
end
section
set_option maxRecDepth 100000
namespace Go.Proofs.cL
open Go Go.Am Go.Proofs
def Pj:Nat→List UInt8→Option (List UInt8)
 |0,_=>none
 |k+1,r=>if nx r=64 then (match n6 (r.drop 1) with
   |none=>none
   |some (_,r2)=>if nx r2=44 then Pj k (r2.drop 1) else if nx r2=58 then some (r2.drop 1) else none) else none
def A6 (r:List UInt8):Option (List UInt8):=if nx r=64 then Pj (r.length+1) r else some r
theorem ad4 {r:List UInt8} {c:UInt8} (h:nx r=c) (hc:c≠0):∃t,r=c::t:=by
 cases r with
 |nil=>exact absurd h.symm hc
 |cons a t=>exact ⟨t,by rw [←h];rfl⟩
theorem I2 {r b t:List UInt8} (h:n6 r=some (b,t)):t.length≤r.length:=by
 unfold n6 at h
 split at h
 · injection h with h;injection h with _ h;subst h;exact (List.dropWhile_suffix _).length_le
 · cases h
def GQ (r:List UInt8):Option (aJ×List UInt8):=
 match A6 r with
 |none=>none
 |some r1=>match ur r1 with
  |none=>none
  |some (l,r2)=>if nx r2=64 then (match n6 (r2.drop 1) with
   |none=>none
   |some (d,r3)=>if nx r3=62 then some (⟨l,d⟩,r3.drop 1) else none) else none
def V4 (s:List UInt8):Option (aJ×List UInt8):=
 if nx s=60 then (if nx (s.drop 1)=62 then some (⟨[],[]⟩,s.drop 2) else GQ (s.drop 1)) else none
def esc (l:List UInt8):List UInt8:=l.flatMap fun c=>if c=34∨c=92 then [92,c] else [c]
def uu (a:aJ):List UInt8:=if iV a.au then 60::(a.au++64::(a.domain++[62])) else 60::34::(esc a.au++34::64::(a.domain++[62]))
def yg (s:List UInt8):Bool:=s !=[]&&decide (s.length≤64)&&s.all kU
def gR (a:aJ):Bool:=decide (a.au=[])&&decide (a.domain=[])
def dP (a:aJ):Bool:=gR a||(yg a.au&&jO a.domain&&decide ((uu a).length≤256))
theorem Ll (l:List UInt8):(esc l).length≤2*l.length:=by
 induction l with
 |nil=>simp [esc]
 |cons c l ih=>
  simp only [esc,List.flatMap_cons,List.length_append,List.length_cons] at ih ⊢
  split<;>simp only [List.length_cons,List.length_nil]<;>omega
theorem N8 {s:List UInt8} {F:Nat} (hl:s.length≤1000000) (hF:s.length<F):j0 F s=some (s.all kU):=by
 unfold j0
 have hh:=scan (s:=s) (body:=eD s) (mk:=fun i=>(false,(i:Int))) (p:=kU) (rr:=fun _=>false) (tt:=()) ?_ ?_ ?_ hF
 · cases ha:s.all kU with
   |true=>have:=hh.1 ha;rw [show ((0:Nat):Int)=0 from rfl] at this;rw [this];rfl
   |false=>obtain ⟨j,hj⟩:=hh.2 ha;rw [show ((0:Nat):Int)=0 from rfl] at hj;rw [hj];rfl
 · intro i x hx hp
   have hi:=(List.getElem?_eq_some_iff.1 hx).1
   simp only [eD]
   rw [if_pos (by simpa using hi),bM hx,Option.bind_some,V3,Option.bind_some,hp,wi (by omega)];rfl
 · intro i x hx hp
   have hi:=(List.getElem?_eq_some_iff.1 hx).1
   simp only [eD]
   rw [if_pos (by simpa using hi),bM hx,Option.bind_some,V3,Option.bind_some,hp];rfl
 · simp [eD]
theorem V5 {s:List UInt8} {F:Nat} (hF:s.length<F):nK F s=some (yg s):=by
 unfold nK lR yg
 by_cases h:s=[]
 · subst h;rfl
 · by_cases h2:s.length≤64
   · rw [if_pos (by simpa using h),if_pos (by simp;omega),N8 (by omega) hF]
     simp [h,h2]
   · rw [if_pos (by simpa using h),if_neg (by simp;omega)]
     simp [h2]
theorem N9 {a:aJ} (hl:a.au.length≤80000):∀(r:List UInt8) (i F:Nat) (b:List UInt8),a.au.drop i=r→i+r.length=a.au.length→b.length≤2*i+1→r.length<F→
 iter (gz a) F (b,(i:Int))=some (.inr (b++esc r)):=by
 intro r
 induction r with
 |nil=>
  intro i F b hd hi hb hF
  obtain ⟨G,rfl⟩:=cJ hF
  rw [dw (t:=b) (by simp only [gz];rw [if_neg (by simp at hi ⊢;omega)])]
  simp [esc]
 |cons c r ih=>
  intro i F b hd hi hb hF
  obtain ⟨G,rfl⟩:=cJ (show 0<F by omega)
  obtain ⟨h1,h2,h3⟩:=drop_cons hd
  simp only [List.length_cons] at hi hF
  have hst:gz a (b,(i:Int))=some (.cT (b++(if c=34∨c=92 then [92,c] else [c]),((i+1:Nat):Int))):=by
   simp only [gz,ni]
   rw [if_pos (by simpa using h1),bM h2]
   simp only [Option.bind_some]
   by_cases I3:c=34
   · subst I3
     simp only [decide_true,if_true,Option.bind_some,true_or]
     rw [cM (by simp;omega) (by omega),Option.bind_some,cM (by simp;omega) (by omega),Option.bind_some,wi (by omega)]
     simp
   · by_cases Oa:c=92
     · subst Oa
       rw [if_neg (by decide)]
       simp only [decide_true,Option.bind_some,if_true,or_true]
       rw [cM (by simp;omega) (by omega),Option.bind_some,cM (by simp;omega) (by omega),Option.bind_some,wi (by omega)]
       simp
     · rw [if_neg (by simpa using I3)]
       simp only [Option.bind_some]
       rw [if_neg (by simpa using Oa),cM (by simp;omega) (by omega),Option.bind_some,wi (by omega),if_neg (by simp [I3,Oa])]
  rw [cO hst,ih (i+1) G _ h3 (by omega) (by split<;>simp<;>omega) (by omega)]
  simp [esc]
theorem V6 {a:aJ} {F:Nat} (hl:a.au.length≤80000) (hd:a.domain.length≤80000) (hF:a.au.length+1<F):pZ F a=some (uu a):=by
 have he:=Ll a.au
 unfold pZ uu
 rw [Su (by omega) hF,Option.bind_some]
 cases iV a.au with
 |true=>
  simp only [Bool.not_true,Bool.false_eq_true,if_false,if_true]
  rw [ij (by simp;omega),Option.bind_some,ij (by simp;omega),Option.bind_some,ij (by simp;omega),Option.bind_some,ij (by simp;omega),Option.bind_some]
  simp
 |false=>
  simp only [Bool.not_false,if_true,Bool.false_eq_true,if_false]
  rw [show (([34]:List UInt8),(0:Int))=(([34]:List UInt8),((0:Nat):Int)) from rfl,N9 hl a.au 0 F [34] (by simp) (by simp) (by simp) (by omega)]
  simp only [Option.bind_some]
  rw [cM (by simp;omega) (by omega),Option.bind_some,ij (by simp;omega),Option.bind_some,ij (by simp;omega),Option.bind_some,ij (by simp;omega),Option.bind_some,ij (by simp;omega),Option.bind_some]
  simp
theorem GR {a:aJ} {F:Nat} (hl:a.au.length≤80000) (hd:a.domain.length≤80000) (hF:a.au.length+a.domain.length+1<F):k8 F a=some (dP a):=by
 unfold k8 lZ pO dP
 simp only [Option.bind_some]
 cases hn:gR a with
 |true=>rw [gR] at hn;rw [hn];rfl
 |false=>
  rw [gR] at hn
  rw [hn]
  simp only [Bool.false_eq_true,if_false,Bool.false_or]
  rw [V5 (by omega),Option.bind_some]
  cases hlb:yg a.au with
  |false=>rfl
  |true=>
   simp only [if_true,Bool.true_and]
   rw [abI (by omega) (by omega),Option.bind_some]
   cases hdb:jO a.domain with
   |false=>rfl
   |true=>
    simp only [if_true,Bool.true_and]
    rw [V6 hl hd (by omega)]
    simp
    omega
theorem aez (a:aJ):pO a=some (gR a):=rfl
def Cb (s:List UInt8):aJ×List UInt8×Int:=
 match V4 s with
 |none=>(⟨[],[]⟩,[],3)
 |some (a,rest)=>if dP a then (a,rest,0) else (⟨[],[]⟩,[],5)
theorem At.zero {s:List UInt8} (h:s.length≤90000):At s 0 s:=⟨Nat.zero_le _,rfl,h⟩
theorem abP {s:List UInt8} {a:aJ} {rest:List UInt8} {n:Nat} {t:List UInt8}:True:=trivial
end Go.Proofs.cL
end
section
set_option maxRecDepth 100000
namespace Go.Proofs.cL
open Go Go.Am Go.Proofs
theorem Y0:∀(k:Nat) (r b rest:List UInt8),r.length≤k→qL r=some (b,rest)→b.length+rest.length≤r.length:=by
 intro k
 induction k with
 |zero=>
  intro r b rest hk h
  have hr:r=[]:=List.length_eq_zero_iff.1 (by omega)
  subst hr;cases h
 |succ k ih=>
  intro r b rest hk h
  match r,hk,h with
  |[],hk,h=>cases h
  |c::r,hk,h=>
   rw [A5] at h
   simp only [List.length_cons] at hk ⊢
   split at h
   · injection h with h;injection h with h1 h2;subst h1 h2;simp
   · split at h
     · match r,hk,h with
       |[],hk,h=>cases h
       |d::r',hk,h=>
        simp only at h
        split at h
        · simp only [Option.map_eq_some_iff] at h
          obtain ⟨⟨b',rest'⟩,h1,h2⟩:=h
          injection h2 with h2 h3
          subst h2 h3
          have:=ih r' b' rest' (by simp at hk;omega) h1
          simp;omega
        · cases h
     · split at h
       · simp only [Option.map_eq_some_iff] at h
         obtain ⟨⟨b',rest'⟩,h1,h2⟩:=h
         injection h2 with h2 h3
         subst h2 h3
         have:=ih r b' rest' (by omega) h1
         simp;omega
       · cases h
theorem Y1 (q:UInt8→Bool) (r:List UInt8):(r.dropWhile q).length≤r.length:=(List.dropWhile_suffix q).length_le
theorem Lm {r b t:List UInt8} (h:ur r=some (b,t)):b.length≤r.length∧t.length≤r.length:=by
 unfold ur at h
 split at h
 · split at h
   · rename_i b' rest' hq
     have:=Y0 _ _ _ _ (Nat.le_refl _) hq
     have hd:(r.drop 1).length≤r.length:=by simp
     split at h
     · cases h
     · injection h with h;injection h with h1 h2;subst h1 h2;omega
   · cases h
 · split at h
   · injection h with h;injection h with h1 h2;subst h1 h2
     exact ⟨I1 _ _,Y1 _ _⟩
   · cases h
theorem Gk {r b t:List UInt8} (h:n6 r=some (b,t)):b.length≤r.length:=by
 unfold n6 at h
 split at h
 · injection h with h;injection h with h1 _;subst h1;exact I1 _ _
 · cases h
theorem Sv:∀(k:Nat) (r r':List UInt8),Pj k r=some r'→r'.length≤r.length:=by
 intro k
 induction k with
 |zero=>intro r r' h;cases h
 |succ k ih=>
  intro r r' h
  simp only [Pj] at h
  split at h
  · split at h
    · cases h
    · rename_i b r2 hd
      have h1:=I2 hd
      have h2:(r.drop 1).length≤r.length:=by simp
      have h3:(r2.drop 1).length≤r2.length:=by simp
      split at h
      · have:=ih _ _ h;omega
      · split at h
        · injection h with h;subst h;omega
        · cases h
  · cases h
theorem Ln {r r':List UInt8} (h:A6 r=some r'):r'.length≤r.length:=by
 unfold A6 at h
 split at h
 · exact Sv _ _ _ h
 · injection h with h;subst h;exact Nat.le_refl _
theorem acq {r rest:List UInt8} {a:aJ} (h:GQ r=some (a,rest)):a.au.length≤r.length∧a.domain.length≤r.length:=by
 unfold GQ at h
 split at h
 · cases h
 · rename_i r1 hr
   have h1:=Ln hr
   split at h
   · cases h
   · rename_i l r2 hl
     have h2:=Lm hl
     split at h
     · split at h
       · cases h
       · rename_i d r3 hd
         have h3:=Gk hd
         have h4:(r2.drop 1).length≤r2.length:=by simp
         split at h
         · injection h with h;injection h with h5 _;subst h5;simp only;omega
         · cases h
     · cases h
def aeA (s:List UInt8):aJ×Int:=if (Cb s).2.2=0∧(Cb s).2.1≠[] then (⟨[],[]⟩,3) else ((Cb s).1,(Cb s).2.2)
theorem Pm {q:UInt8→Bool} {l:List UInt8} {x:UInt8} (hx:q x=false) (h:∀c∈l,q c=true) (t:List UInt8):(l++x::t).takeWhile q=l∧(l++x::t).dropWhile q=x::t:=by
 induction l with
 |nil=>simp [hx]
 |cons c l ih=>
  obtain ⟨h1,h2⟩:=ih fun y hy=>h y (by simp [hy])
  have:=h c (by simp)
  simp [this,h1,h2]
theorem E9 (c:UInt8):ek c=true→zD c=true∧c≠62∧c≠64∧c≠34:=by
 have:=nH (p:=fun c=> !ek c||(zD c&&c !=62&&c !=64&&c !=34)) (by kernel_rfl) c
 intro h
 rw [h] at this
 simp at this
 exact ⟨this.1.1.1,this.1.1.2,this.1.2,this.2⟩
theorem Ob {l:List UInt8} (h:iV l=true):∀c∈l,zD c=true:=by
 intro c hc
 rcases zC l c hc with rfl|⟨p,hp,js⟩
 · decide
 · have:=List.all_eq_true.1 h p hp
   simp only [Bool.and_eq_true] at this
   exact (E9 c (List.all_eq_true.1 this.2 c js)).1
theorem Lo {l:List UInt8} (h:iV l=true):∃c t,l=c::t∧ek c=true:=by
 cases l with
 |nil=>simp [iV,bh] at h
 |cons c t=>
  refine ⟨c,t,rfl, ?_⟩
  unfold iV at h
  simp only [bh] at h
  by_cases hc:c=46
  · rw [if_pos hc] at h;simp at h
  · rw [if_neg hc] at h
    cases hs:bh t with
    |nil=>exact absurd hs (gB t)
    |cons x y=>rw [hs] at h;simp at h;exact h.1.1
theorem V7 (c:UInt8):(B9 c=true→uq c=true)∧(um c=true→uq c=true):=by
 have:=nH (p:=fun c=>(!B9 c||uq c)&&(!um c||uq c)) (by kernel_rfl) c
 simp at this
 exact ⟨fun h=>by simpa [h] using this.1,fun h=>by simpa [h] using this.2⟩
theorem Oc {l:List UInt8} {x:UInt8} (h:l.getLast?=some x):l.dropLast++[x]=l:=by
 have hne:l≠[]:=by intro h0;subst h0;cases h
 have h2:=List.dropLast_concat_getLast hne
 rw [List.getLast?_eq_some_getLast hne] at h
 injection h with h
 rw [←h];exact h2
theorem V8 {d:List UInt8} (h:sI d=true):d=91::(inner d++[93]):=by
 simp only [sI,Bool.and_eq_true,decide_eq_true_eq,beq_iff_eq] at h
 cases d with
 |nil=>simp at h
 |cons c r=>
  obtain ⟨⟨h1,h2⟩,h3⟩:=h
  simp at h2
  subst h2
  cases r with
  |nil=>simp at h1
  |cons a t=>
   rw [List.getLast?_cons_cons] at h3
   simp only [inner,List.drop_succ_cons,List.drop_zero]
   rw [Oc h3]
theorem Od {d:List UInt8} (h:jO d=true):∀c∈d,uq c=true:=by
 intro c hc
 simp only [jO,Bool.and_eq_true] at h
 have hs:=h.1.2
 unfold mA at hs
 by_cases hi:sI d=true
 · rw [if_pos hi] at hs
   simp only [Bool.and_eq_true] at hs
   rw [V8 hi] at hc
   rcases List.mem_cons.1 hc with rfl|hc
   · decide
   · rcases List.mem_append.1 hc with hc|hc
     · rcases zC _ c hc with rfl|⟨p,hp,js⟩
       · decide
       · exact (V7 c).2 (List.all_eq_true.1 (uo (List.all_eq_true.1 hs.2 p hp)).2.1 c js)
     · simp at hc;subst hc;decide
 · rw [if_neg hi] at hs
   rcases zC _ c hc with rfl|⟨p,hp,js⟩
   · decide
   · have:=List.all_eq_true.1 hs p hp
     simp only [mz,Bool.and_eq_true] at this
     exact (V7 c).1 (List.all_eq_true.1 this.2 c js)
theorem A7 {d:List UInt8} (h:jO d=true) {x:UInt8} (hx:uq x=false) (t:List UInt8):n6 (d++x::t)=some (d,x::t):=by
 obtain ⟨h1,h2⟩:=Pm hx (Od h) t
 unfold n6
 rw [h1,h2,if_pos]
 simp only [jO,Bool.and_eq_true] at h
 exact h.1.2
theorem Y2 {l:List UInt8} (h:l.all kU=true) (rest:List UInt8):qL (esc l++34::rest)=some (l,rest):=by
 induction l with
 |nil=>simp [esc,A5]
 |cons c l ih=>
  simp only [List.all_cons,Bool.and_eq_true] at h
  have ih:=ih h.2
  simp only [esc,List.flatMap_cons,List.append_assoc] at ih ⊢
  by_cases hc:c=34∨c=92
  · rw [if_pos hc]
    simp only [List.cons_append,List.nil_append]
    rw [A5,if_neg (by decide),if_pos rfl]
    simp only [h.1,if_true,ih,Option.map_some]
  · rw [if_neg hc]
    simp only [List.cons_append,List.nil_append]
    rw [A5,if_neg fun h=>hc (.inl h),if_neg fun h=>hc (.inr h)]
    simp only [h.1,if_true,ih,Option.map_some]
theorem Sw {a:aJ} (hn:gR a=false) (h:dP a=true) (more:List UInt8):∃r,uu a=60::r∧nx r≠62∧nx r≠64∧(∀r',A6 r'=some (r++more)→GQ r'=some (a,more)):=by
 simp only [dP,hn,Bool.false_or,Bool.and_eq_true] at h
 obtain ⟨⟨hl,hd⟩, -⟩:=h
 simp only [yg,Bool.and_eq_true] at hl
 unfold uu
 cases hp:iV a.au with
 |true=>
  obtain ⟨c,t,ht,hc⟩:=Lo hp
  obtain ⟨-,h62,h64,I3⟩:=E9 c hc
  refine ⟨a.au++64::(a.domain++[62]),by simp, ?_, ?_, ?_⟩
  · rw [ht];simpa [nx] using h62
  · rw [ht];simpa [nx] using h64
  · intro r' hr'
    have e:(a.au++64::(a.domain++[62]))++more=a.au++64::(a.domain++62::more):=by simp
    obtain ⟨h1,h2⟩:=Pm (q:=zD) (x:=64) (by decide) (Ob hp) (a.domain++62::more)
    unfold GQ
    rw [hr',e]
    have V9:ur (a.au++64::(a.domain++62::more))=some (a.au,64::(a.domain++62::more)):=by
     unfold ur
     rw [if_neg (by rw [ht];simpa [nx] using I3),h1,h2,if_pos hp]
    simp only [V9]
    rw [if_pos (show nx (64::(a.domain++62::more))=64 from rfl)]
    simp only [List.drop_succ_cons,List.drop_zero]
    rw [A7 hd (by decide)]
    rfl
 |false=>
  refine ⟨34::(esc a.au++34::64::(a.domain++[62])),by simp,by simp [nx],by simp [nx], ?_⟩
  intro r' hr'
  have e:(34::(esc a.au++34::64::(a.domain++[62])))++more=34::(esc a.au++34::64::(a.domain++62::more)):=by simp
  unfold GQ
  rw [hr',e]
  have V9:ur (34::(esc a.au++34::64::(a.domain++62::more)))=some (a.au,64::(a.domain++62::more)):=by
   unfold ur
   rw [if_pos (show nx (34::(esc a.au++34::64::(a.domain++62::more)))=34 from rfl)]
   simp only [List.drop_succ_cons,List.drop_zero]
   rw [Y2 hl.2]
   simp only
   rw [if_neg (by simpa using hl.1.1)]
  simp only [V9]
  rw [if_pos (show nx (64::(a.domain++62::more))=64 from rfl)]
  simp only [List.drop_succ_cons,List.drop_zero]
  rw [A7 hd (by decide)]
  rfl
theorem abQ {a:aJ} (hn:gR a=false) (h:dP a=true) (more:List UInt8):Cb (uu a++more)=(a,more,0):=by
 obtain ⟨r,hr,h62,h64,hb⟩:=Sw hn h more
 have ad5:r≠[]:=by
  intro hr0
  subst hr0
  unfold uu at hr
  split at hr
  · injection hr with _ hr;simp at hr
  · injection hr with _ hr;simp at hr
 have Lp:nx (r++more)=nx r:=by
  cases r with
  |nil=>exact absurd rfl ad5
  |cons=>rfl
 unfold Cb V4
 rw [hr,List.cons_append,if_pos (show nx (60::(r++more))=60 from rfl)]
 simp only [List.drop_succ_cons,List.drop_zero]
 rw [if_neg (by rw [Lp];exact h62),hb (r++more) (by unfold A6;rw [if_neg (by rw [Lp];exact h64)])]
 simp only
 rw [if_pos h]
end Go.Proofs.cL
end
section
set_option maxRecDepth 100000
namespace Go.Proofs.cL
open Go Go.Am Go.Proofs
theorem Oe (n:Nat):(List.range 256).all (fun m=>decide (jG (n+30) (UInt8.ofNat m)=some (ek (UInt8.ofNat m))))=true:=by kernel_rfl
theorem Wa {F:Nat} (hF:30≤F) (c:UInt8):jG F c=some (ek c):=by
 obtain ⟨n,rfl⟩:∃n,F=n+30:=⟨F - 30,by omega⟩
 have:=nH (p:=fun c=>decide (jG (n+30) c=some (ek c))) (Oe n) c
 simpa using this
def pr:Bool→List UInt8→Bool
 |_,[]=>true
 |p,c::r=>(if c=46 then p&&decide (r≠[]) else ek c)&&pr (decide (c≠46)) r
theorem Lq {F:Nat} {s:List UInt8} (hs:s.length≤90000) (YZ:30≤F):∀(r:List UInt8) (i G:Nat) (p:Bool),s.drop i=r→i+r.length=s.length→r.length<G→
 (if 0<i then ∃x,s[i - 1]? =some x∧p= !decide (x=46) else p=false)→iter (fh F s) G (i:Int)=some (if pr p r then .inr () else .inl false):=by
 intro r
 induction r with
 |nil=>
  intro i G p hd hi hG hp
  obtain ⟨G,rfl⟩:=cJ hG
  rw [dw (t:=()) (by simp only [fh];rw [if_neg (by simp at hi ⊢;omega)])]
  rfl
 |cons c r ih=>
  intro i G p hd hi hG hp
  obtain ⟨G,rfl⟩:=cJ (show 0<G by omega)
  obtain ⟨h1,h2,h3⟩:=drop_cons hd
  simp only [List.length_cons] at hi hG
  have hp1:iE s (i:Int)=some (decide (c=46)&&p&&decide (r≠[])):=by
   unfold iE
   rw [bM h2,Option.bind_some]
   by_cases hc:c=46
   · rw [if_pos (by simpa using hc)]
     by_cases h0:0<i
     · rw [if_pos h0] at hp
       obtain ⟨x,hx,hpx⟩:=hp
       rw [if_pos (by simpa using h0),wi (by omega)]
       by_cases hr:r=[]
       · rw [if_neg (by subst hr;simp at hi ⊢;omega)];simp [hr]
       · rw [if_pos (by have:0<r.length:=List.length_pos_iff.2 hr
                        simp;omega),wr (by omega) (by omega),show (i:Int) - 1=((i - 1:Nat):Int) by omega,bM hx,Option.bind_some,hpx]
         simp [hc,hr]
     · rw [if_neg h0] at hp
       rw [if_neg (by simpa using h0),hp];simp
   · rw [if_neg (by simpa using hc)];simp [hc]
  have hst:fh F s (i:Int)=if (if c=46 then p&&decide (r≠[]) else ek c)=true then some (.cT ((i+1:Nat):Int)) else some (.ret false):=by
   simp only [fh]
   rw [if_pos (by simpa using h1),hp1,Option.bind_some]
   unfold kI
   rw [bM h2]
   simp only [Option.bind_some,Wa YZ]
   by_cases hc:c=46
   · have h46:ek c=false:=by subst hc;decide
     simp only [hc,decide_true,Bool.true_and,if_true]
     subst hc
     cases hpp:(p&&decide (r≠[])) with
     |true=>simp only [Bool.not_true,Bool.false_eq_true,if_false,Option.bind_some,if_true];rw [wi (by omega)]
     |false=>simp only [Bool.not_false,if_true,Option.bind_some,h46,Bool.false_eq_true,if_false]
   · simp only [hc,decide_false,Bool.false_and,Bool.not_false,if_true,if_false,Option.bind_some]
     cases ek c with
     |true=>simp only [Bool.not_true,Bool.false_eq_true,if_false,if_true];rw [wi (by omega)]
     |false=>simp
  have hpr:pr p (c::r)=((if c=46 then p&&decide (r≠[]) else ek c)&&pr (decide (c≠46)) r):=rfl
  rw [hpr]
  obtain ⟨q,hq⟩:∃q,q=(if c=46 then p&&decide (r≠[]) else ek c):=⟨_,rfl⟩
  rw [←hq] at hst ⊢
  cases q with
  |false=>
   have Wb:=hst.trans (if_neg (by decide))
   rw [iN Wb]
   simp
  |true=>
   have Wb:=hst.trans (if_pos rfl)
   rw [cO Wb,ih (i+1) G (decide (c≠46)) h3 (by omega) (by omega) (by rw [if_pos (by omega)];exact ⟨c,by simpa using h2,by simp⟩)]
   simp
theorem Sx:∀(r:List UInt8) (p:Bool),r≠[]→pr p r=match bh r with|[]=>false|h::t=>h.all ek&&(p||h !=[])&&t.all fun q=>q !=[]&&q.all ek:=by
 intro r
 induction r with
 |nil=>intro p h;exact absurd rfl h
 |cons c r ih=>
  intro p _
  simp only [pr,bh]
  by_cases hc:c=46
  · simp only [if_pos hc]
    by_cases hr:r=[]
    · subst hr;simp [bh]
    · have h2:=ih false hr
      have hd:decide (c≠46)=false:=by simpa using hc
      rw [hd,h2]
      cases hs:bh r with
      |nil=>exact absurd hs (gB r)
      |cons h t=>
       simp only [hr,ne_eq,not_false_eq_true,decide_true,Bool.and_true,List.all_nil,Bool.true_and,List.all_cons,Bool.false_or]
       cases p<;>cases h.all ek<;>cases (h !=[])<;>simp
  · simp only [if_neg hc]
    have hd:decide (c≠46)=true:=by simpa using hc
    rw [hd]
    by_cases hr:r=[]
    · subst hr;simp [bh,pr]
    · rw [ih true hr]
      cases hs:bh r with
      |nil=>exact absurd hs (gB r)
      |cons h t=>
       simp only [List.all_cons,Bool.true_or,Bool.and_true]
       have:(c::h !=[])=true:=rfl
       rw [this]
       cases ek c<;>cases p<;>simp
theorem Wc {F:Nat} {s:List UInt8} (hs:s.length≤80000) (hF:s.length+30<F):mo F s=some (iV s):=by
 unfold mo
 rw [show (0:Int)=((0:Nat):Int) from rfl,Lq (by omega) (by omega) s 0 F false rfl (by simp) (by omega) (by simp)]
 simp only [Option.bind_some]
 by_cases h:s=[]
 · subst h;simp [pr,iV,bh]
 · rw [Sx s false h]
   unfold iV
   cases hsp:bh s with
   |nil=>exact absurd hsp (gB s)
   |cons a t=>
    simp only [Bool.false_or,List.all_cons]
    cases h1:a.all ek<;>cases h2:(a !=[])<;>cases h3:(t.all fun q=>q !=[]&&q.all ek)<;>simp [h]
theorem Wd (x:UInt8):(if decide (x<32)=true then some true else some (decide (126<x)))=some (!kU x):=by
 have:=nH (p:=fun x=>decide ((if decide (x<32)=true then some true else some (decide (126<x)))=some (!kU x))) (by kernel_rfl) x
 exact of_decide_eq_true this
theorem We {s:List UInt8} {F:Nat} (hF:65<F):mc F s=some (yg s):=by
 unfold mc yg
 by_cases h:s=[]
 · subst h;rfl
 · by_cases h2:64<s.length
   · rw [if_pos (by simp;omega),decide_eq_false (by omega)];simp
   · rw [if_neg (by simp [h];omega),decide_eq_true (by omega)]
     have hh:=scan (s:=s) (F:=F) (body:=e9 s) (mk:=fun i=>(i:Int)) (p:=kU) (rr:=fun _=>false) (tt:=()) ?_ ?_ ?_ (by omega)
     · cases ha:s.all kU with
       |true=>have:=hh.1 ha;rw [show ((0:Nat):Int)=0 from rfl] at this;rw [this];simp [h]
       |false=>obtain ⟨j,hj⟩:=hh.2 ha;rw [show ((0:Nat):Int)=0 from rfl] at hj;rw [hj];simp
     · intro i x hx hp
       have hi:=(List.getElem?_eq_some_iff.1 hx).1
       simp only [e9,iC]
       rw [if_pos (by simpa using hi),bM hx,Option.bind_some,Wd,Option.bind_some,hp,wi (by omega)];rfl
     · intro i x hx hp
       have hi:=(List.getElem?_eq_some_iff.1 hx).1
       simp only [e9,iC]
       rw [if_pos (by simpa using hi),bM hx,Option.bind_some,Wd,Option.bind_some,hp];rfl
     · simp [e9]
theorem Y3 {s:List UInt8} {F:Nat} (hF:99010<F):fG F s=some (jO s):=by
 by_cases h:s.length≤99000
 · exact abN h (by omega)
 · unfold fG jO
   rw [if_pos (by simp;omega),decide_eq_false (by omega)]
   rfl
theorem Of {a:aJ} (hl:a.au.length≤80000):∀(r:List UInt8) (i F:Nat) (b:List UInt8),a.au.drop i=r→i+r.length=a.au.length→b.length≤2*i+2→r.length<F→
 iter (fQ a) F (b,(i:Int))=some (.inr (b++esc r)):=by
 intro r
 induction r with
 |nil=>
  intro i F b hd hi hb hF
  obtain ⟨G,rfl⟩:=cJ hF
  rw [dw (t:=b) (by simp only [fQ];rw [if_neg (by simp at hi ⊢;omega)])]
  simp [esc]
 |cons c r ih=>
  intro i F b hd hi hb hF
  obtain ⟨G,rfl⟩:=cJ (show 0<F by omega)
  obtain ⟨h1,h2,h3⟩:=drop_cons hd
  simp only [List.length_cons] at hi hF
  have hst:fQ a (b,(i:Int))=some (.cT (b++(if c=34∨c=92 then [92,c] else [c]),((i+1:Nat):Int))):=by
   simp only [fQ,mq]
   rw [if_pos (by simpa using h1),bM h2]
   simp only [Option.bind_some]
   by_cases I3:c=34
   · subst I3
     simp only [decide_true,if_true,Option.bind_some,true_or]
     rw [cM (by simp;omega) (by omega),Option.bind_some,cM (by simp;omega) (by omega),Option.bind_some,wi (by omega)]
     simp
   · by_cases Oa:c=92
     · subst Oa
       rw [if_neg (by decide)]
       simp only [decide_true,Option.bind_some,if_true,or_true]
       rw [cM (by simp;omega) (by omega),Option.bind_some,cM (by simp;omega) (by omega),Option.bind_some,wi (by omega)]
       simp
     · rw [if_neg (by simpa using I3)]
       simp only [Option.bind_some]
       rw [if_neg (by simpa using Oa),cM (by simp;omega) (by omega),Option.bind_some,wi (by omega),if_neg (by simp [I3,Oa])]
  rw [cO hst,ih (i+1) G _ h3 (by omega) (by split<;>simp<;>omega) (by omega)]
  simp [esc]
theorem Y4 {a:aJ} {F:Nat} (hn:gR a=false) (hl:a.au.length≤80000) (hd:a.domain.length≤80000) (hF:a.au.length+30<F):nW F a=some (uu a):=by
 have he:=Ll a.au
 unfold nW uu
 rw [gR] at hn
 rw [hn,Wc hl hF]
 simp only [Bool.false_eq_true,if_false,Option.bind_some]
 cases iV a.au with
 |true=>
  simp only [if_true]
  rw [ij (by simp;omega),Option.bind_some,ij (by simp;omega),Option.bind_some,ij (by simp;omega),Option.bind_some,ij (by simp;omega),Option.bind_some]
  simp
 |false=>
  simp only [Bool.false_eq_true,if_false]
  rw [show (([60,34]:List UInt8),(0:Int))=(([60,34]:List UInt8),((0:Nat):Int)) from rfl,Of hl a.au 0 F [60,34] (by simp) (by simp) (by simp) (by omega)]
  simp only [Option.bind_some]
  try unfold mu
  rw [cM (by simp;omega) (by omega),Option.bind_some,ij (by simp;omega),Option.bind_some,ij (by simp;omega),Option.bind_some,ij (by simp;omega),Option.bind_some]
  simp
theorem Lr {a:aJ} {F:Nat} (hl:a.au.length≤80000) (hd:a.domain.length≤80000) (hF:99010<F):jH F a=some (dP a):=by
 unfold jH kJ dP
 cases hn:gR a with
 |true=>rw [gR] at hn;rw [hn];rfl
 |false=>
  have hn':=hn
  rw [gR] at hn
  rw [hn]
  simp only [Bool.false_eq_true,if_false,Bool.false_or]
  rw [We (by omega),Option.bind_some]
  cases hlb:yg a.au with
  |false=>rfl
  |true=>
   simp only [if_true,Bool.true_and]
   rw [Y3 hF,Option.bind_some]
   cases hdb:jO a.domain with
   |false=>rfl
   |true=>
    simp only [if_true,Bool.true_and]
    rw [Y4 hn' hl hd (by omega)]
    simp
    omega
end Go.Proofs.cL
end
section
namespace Go.Am
open Go
def wM {α A ρ:Type} (step:A→α→Except ρ A):A→List α→Except ρ A
 |a,[]=> .ok a
 |a,x::r=>match step a x with
  | .ok a'=>wM step a' r
  | .error e=> .error e
theorem lp {α ρ τ σ A:Type} {s:List α} {body:σ→Option (St ρ τ σ)} {mk:A→Nat→σ} {step:A→α→Except ρ A} {tt:A→τ} (I:A→Nat→Prop)
 (h1:∀a i x,s[i]? =some x→I a i→match step a x with
  | .ok a'=>body (mk a i)=some (.cT (mk a' (i+1)))∧I a' (i+1)
  | .error r=>body (mk a i)=some (.ret r))
 (h3:∀a,I a s.length→body (mk a s.length)=some (.fI (tt a))) {F:Nat} {a:A} (hF:s.length<F) (h0:I a 0):
 iter body F (mk a 0)=some (match wM step a s with| .ok a'=> .inr (tt a')| .error r=> .inl r)∧∀a',wM step a s= .ok a'→I a' s.length:=by
 suffices h:∀(r:List α) (i F:Nat) (a:A),s.drop i=r→i+r.length=s.length→r.length<F→I a i→
  iter body F (mk a i)=some (match wM step a r with| .ok a'=> .inr (tt a')| .error r=> .inl r)∧∀a',wM step a r= .ok a'→I a' s.length from h s 0 F a rfl (by simp) hF h0
 intro r
 induction r with
 |nil=>
  intro i F a hd hl hF h0
  obtain ⟨G,rfl⟩:=cJ hF
  have:i=s.length:=by simpa using hl
  subst this
  exact ⟨dw (h3 a h0),fun a' h=>by cases h;exact h0⟩
 |cons x r ih=>
  intro i F a hd hl hF h0
  obtain ⟨G,rfl⟩:=cJ hF
  obtain ⟨hi,hx,hr⟩:=drop_cons hd
  simp only [List.length_cons] at hl hF
  have:=h1 a i x hx h0
  simp only [wM]
  cases hs:step a x with
  |ok a'=>
   rw [hs] at this
   rw [cO this.1]
   exact ih (i+1) G a' hr (by omega) (by omega) this.2
  |error e=>
   rw [hs] at this
   rw [iN this]
   exact ⟨rfl,fun a' h=>by cases h⟩
theorem lpo {α ρ τ σ A:Type} {s:List α} {body:σ→Option (St ρ τ σ)} {mk:A→Nat→σ} {step:A→α→A} {tt:A→τ} (I:A→Nat→Prop)
 (h1:∀a i x,s[i]? =some x→I a i→body (mk a i)=some (.cT (mk (step a x) (i+1)))∧I (step a x) (i+1))
 (h3:∀a,I a s.length→body (mk a s.length)=some (.fI (tt a))) {F:Nat} {a:A} (hF:s.length<F) (h0:I a 0):
 iter body F (mk a 0)=some (.inr (tt (s.foldl step a)))∧I (s.foldl step a) s.length:=by
 have key:∀(r:List α) (a:A),wM (ρ:=ρ) (fun a x=> .ok (step a x)) a r= .ok (r.foldl step a):=by
  intro r
  induction r with
  |nil=>intro a;rfl
  |cons x r ih=>intro a;simp only [wM,List.foldl_cons];exact ih _
 have:=lp (s:=s) (body:=body) (mk:=mk) (step:=fun a x=> .ok (step a x)) (tt:=tt) I (fun a i x hx h=>h1 a i x hx h) h3 hF h0
 rw [key] at this
 exact ⟨this.1,this.2 _ rfl⟩
theorem afe {a b:Int} (h0:0≤a) (h1:a≤4000000000000000000) (h2:0≤b) (h3:b≤4000000000000000000):IntKind.wrap .i64 (a+b)=a+b:=wr (by omega) (by omega)
theorem vv {n:Nat} (h:n≤1000000000):IntKind.wrap .i64 ((n:Int)+1)=((n+1:Nat):Int):=by rw [wr (by omega) (by omega)];simp
theorem Og {α ρ τ σ:Type} {s:List α} {body:σ→Option (St ρ τ σ)} {mk:Nat→σ} {p:α→Bool} {rr:Nat→ρ} {tt:τ}
 (h1:∀i x,s[i]? =some x→p x=true→body (mk i)=some (.cT (mk (i+1)))) (h2:∀i x,s[i]? =some x→p x=false→body (mk i)=some (.ret (rr i)))
 (h3:body (mk s.length)=some (.fI tt)) {F:Nat} (hF:s.length<F):
 (s.all p=true→iter body F (mk 0)=some (.inr tt))∧(s.all p=false→∃j,iter body F (mk 0)=some (.inl (rr j))):=by
 suffices h:∀(r:List α) (i F:Nat),s.drop i=r→i+r.length=s.length→r.length<F→
  (r.all p=true→iter body F (mk i)=some (.inr tt))∧(r.all p=false→∃j,iter body F (mk i)=some (.inl (rr j))) from h s 0 F rfl (by simp) hF
 intro r
 induction r with
 |nil=>
  intro i F hd hl hF
  obtain ⟨G,rfl⟩:=cJ hF
  have:i=s.length:=by simpa using hl
  subst this
  exact ⟨fun _=>dw h3,fun h=>by simp at h⟩
 |cons x r ih=>
  intro i F hd hl hF
  obtain ⟨G,rfl⟩:=cJ hF
  obtain ⟨hi,hx,hr⟩:=drop_cons hd
  simp only [List.length_cons] at hl hF
  cases hp:p x with
  |true=>
   rw [cO (h1 i x hx hp)]
   simp only [List.all_cons,hp,Bool.true_and]
   exact ih (i+1) G hr (by omega) (by omega)
  |false=>
   rw [iN (h2 i x hx hp)]
   simp only [List.all_cons,hp,Bool.false_and]
   exact ⟨fun h=>by simp at h,fun _=>⟨i,rfl⟩⟩
end Go.Am
end
section
set_option maxRecDepth 100000
namespace Go.Proofs.cL
open Go Go.Am Go.Proofs
def ir (v lo hi:Int):Bool:=decide (lo≤v)&&decide (v≤hi)
def lI (r:bl):Bool:=(decide (r.code=0)||ir r.code 200 599)&&(dP r.ct&&(!gR r.ct&&(ir r.state 1 5&&(ir r.tries 0 255&&(ir r.next 0 2147483647&&decide (r.why.length≤100))))))
def qz (a:aJ):Prop:=a.au.length≤400∧a.domain.length≤600
def tH (a:aJ):Prop:=a.au.length≤70000∧a.domain.length≤70000
theorem Ls {a:aJ} (h:dP a=true):qz a:=by
 simp only [dP,gR,yg,jO,Bool.or_eq_true,Bool.and_eq_true,decide_eq_true_eq] at h
 rcases h with ⟨h1,h2⟩|⟨⟨h1,h2⟩, -⟩
 · simp [qz,h1,h2]
 · exact ⟨by have:=h1.1.2;omega,by have:=h2.1.1;omega⟩
def fX (e:ak):Bool:=dP e.av&&(ir e.born 0 2147483647&&(ir e.size 0 2147483647&&(decide (1≤e.az.length)&&(decide (e.az.length≤100)&&e.az.all lI))))
theorem tight {a:aJ} (h:dP a=true):a.au.length≤64∧a.domain.length≤255:=by
 simp only [dP,gR,yg,jO,Bool.or_eq_true,Bool.and_eq_true,decide_eq_true_eq] at h
 rcases h with ⟨h1,h2⟩|⟨⟨h1,h2⟩, -⟩
 · simp [h1,h2]
 · exact ⟨by have:=h1.1.2;omega,by have:=h2.1.1;omega⟩
theorem Wf (v lo hi:Int):eL v lo hi=some (ir v lo hi):=rfl
theorem Wg (v hi:Int):mX v hi=some (ir v 0 hi):=rfl
theorem Pn {r:bl} {F:Nat} (h:tH r.ct) (hF:199010<F):p8 F r=some (lI r):=by
 unfold p8 nj nk lI
 rw [GR (by have:=h.1;omega) (by have:=h.2;omega) (by have:=h.1;have:=h.2;omega)]
 simp only [Wf,Option.bind_some]
 have hn:(decide (r.ct.au=([]:List UInt8))&&decide (r.ct.domain=([]:List UInt8)))=gR r.ct:=rfl
 rw [hn]
 by_cases c:r.code=0
 · rw [if_pos (by simpa using c)]
   simp only [Option.bind_some,c,decide_true,Bool.true_or,Bool.true_and,if_true]
   cases dP r.ct<;>cases gR r.ct<;>cases ir r.state 1 5<;>cases ir r.tries 0 255<;>cases ir r.next 0 2147483647<;>simp<;>omega
 · rw [if_neg (by simpa using c)]
   simp only [Option.bind_some,c,decide_false,Bool.false_or]
   cases ir r.code 200 599<;>cases dP r.ct<;>cases gR r.ct<;>cases ir r.state 1 5<;>cases ir r.tries 0 255<;>cases ir r.next 0 2147483647<;>simp<;>omega
theorem Po {r:bl} {F:Nat} (h:tH r.ct) (hF:199010<F):nY F r=some (lI r):=by
 unfold nY mw lI
 rw [Lr (by have:=h.1;omega) (by have:=h.2;omega) (by omega)]
 have hn:nX r.ct=some (gR r.ct):=by
  unfold nX
  rfl
 rw [hn]
 simp only [Wg,Option.bind_some]
 have hs:ir r.state 1 5=(decide (1≤r.state)&&decide (r.state≤5)):=rfl
 have hc:ir r.code 200 599=(decide (200≤r.code)&&decide (r.code≤599)):=rfl
 have hw:decide ((r.why.length:Int)≤100)=decide (r.why.length≤100):=by
  rw [Bool.eq_iff_iff];simp only [decide_eq_true_eq];omega
 rw [hs,hc,hw]
 cases dP r.ct<;>cases gR r.ct<;>cases ir r.tries 0 255<;>cases ir r.next 0 2147483647<;>cases decide (1≤r.state)<;>cases decide (r.state≤5)<;>cases decide (r.code=0)<;>cases decide (200≤r.code)<;>cases decide (r.code≤599)<;>simp
theorem Y5 {l:List bl} {F:Nat} (hl:l.length≤1000) (hr:∀r∈l,tH r.ct) (hF:199010<F):cX F l=some (!l.all lI):=by
 unfold cX eT
 have hh:=Og (s:=l) (body:=cm F l) (mk:=fun i=>((0:Int),(i:Int))) (p:=lI) (rr:=fun i=>(i:Int)) (tt:=()) (F:=F) ?_ ?_ ?_ (by omega)
 · cases h:l.all lI with
   |true=>
    have:=hh.1 h
    rw [show ((0:Int),(0:Int))=(0,((0:Nat):Int)) from rfl,this];rfl
   |false=>
    obtain ⟨j,this⟩:=hh.2 h
    rw [show ((0:Int),(0:Int))=(0,((0:Nat):Int)) from rfl,this]
    simp
 · intro i x hx hp
   have hi:=(List.getElem?_eq_some_iff.1 hx).1
   simp only [cm,l5]
   rw [if_pos (by simpa using hi),bM hx]
   simp only [Option.bind_some]
   rw [Pn (hr x (List.mem_of_getElem? hx)) hF,hp]
   simp only [Option.bind_some,Bool.not_true,Bool.false_eq_true,if_false]
   rw [vv (by omega)]
 · intro i x hx hp
   have hi:=(List.getElem?_eq_some_iff.1 hx).1
   simp only [cm,l5]
   rw [if_pos (by simpa using hi),bM hx]
   simp only [Option.bind_some]
   rw [Pn (hr x (List.mem_of_getElem? hx)) hF,hp]
   rfl
 · simp only [cm]
   rw [if_neg (by simp)]
def CE (e:ak):Prop:=e.az.length≤1000∧tH e.av∧∀r∈e.az,tH r.ct
theorem A8 {e:ak} {F:Nat} (h:CE e) (hF:199010<F):jj F e=some (fX e):=by
 obtain ⟨h1,h2,h3⟩:=h
 unfold jj nr fX
 rw [GR (by have:=h2.1;omega) (by have:=h2.2;omega) (by have:=h2.1;have:=h2.2;omega),Y5 h1 h3 hF]
 simp only [Wf,Option.bind_some]
 have hb:ir (e.az.length:Int) 1 100=(decide (1≤e.az.length)&&decide (e.az.length≤100)):=by
  unfold ir
  rw [Bool.eq_iff_iff];simp only [Bool.and_eq_true,decide_eq_true_eq];omega
 rw [hb]
 cases dP e.av<;>cases ir e.born 0 2147483647<;>cases ir e.size 0 2147483647<;>cases decide (1≤e.az.length)<;>cases decide (e.az.length≤100)<;>simp
theorem Cc {e:ak} {F:Nat} (h:CE e) (hF:199010<F):gr F e=some (fX e):=by
 obtain ⟨h1,h2,h3⟩:=h
 have hp:iF F e=some (!(dP e.av&&(ir e.born 0 2147483647&&(ir e.size 0 2147483647&&(decide (1≤e.az.length)&&decide (e.az.length≤100)))))):=by
  unfold iF
  rw [Lr (by have:=h2.1;omega) (by have:=h2.2;omega) (by omega)]
  simp only [Wg,Option.bind_some]
  have a1:decide ((e.az.length:Int)<1)= !decide (1≤e.az.length):=by
   rw [Bool.eq_iff_iff];simp only [Bool.not_eq_true',decide_eq_true_eq,decide_eq_false_iff_not];omega
  have a2:decide (100<(e.az.length:Int))= !decide (e.az.length≤100):=by
   rw [Bool.eq_iff_iff];simp only [Bool.not_eq_true',decide_eq_true_eq,decide_eq_false_iff_not];omega
  rw [a1,a2]
  cases dP e.av<;>cases ir e.born 0 2147483647<;>cases ir e.size 0 2147483647<;>cases decide (1≤e.az.length)<;>cases decide (e.az.length≤100)<;>simp
 have hh:=Og (s:=e.az) (body:=fj F e) (mk:=fun i=>(i:Int)) (p:=lI) (rr:=fun _=>false) (tt:=()) (F:=F) ?_ ?_ ?_ (by omega)
 · unfold gr fX
   rw [hp]
   simp only [Option.bind_some]
   cases h:(dP e.av&&(ir e.born 0 2147483647&&(ir e.size 0 2147483647&&(decide (1≤e.az.length)&&decide (e.az.length≤100))))) with
   |false=>
    simp only [Bool.not_false,if_true]
    revert h
    cases dP e.av<;>cases ir e.born 0 2147483647<;>cases ir e.size 0 2147483647<;>cases decide (1≤e.az.length)<;>cases decide (e.az.length≤100)<;>simp
   |true=>
    simp only [Bool.and_eq_true] at h
    obtain ⟨k1,k2,k3,k4,k5⟩:=h
    simp only [Bool.not_true,Bool.false_eq_true,if_false,k1,k2,k3,k4,k5,Bool.true_and]
    cases ha:e.az.all lI with
    |true=>rw [show (0:Int)=((0:Nat):Int) from rfl,hh.1 ha];rfl
    |false=>
     obtain ⟨j,hj⟩:=hh.2 ha
     rw [show (0:Int)=((0:Nat):Int) from rfl,hj];rfl
 · intro i x hx hp
   have hi:=(List.getElem?_eq_some_iff.1 hx).1
   simp only [fj]
   rw [if_pos (by simpa using hi),bM hx]
   simp only [Option.bind_some]
   rw [Po (h3 x (List.mem_of_getElem? hx)) hF,hp]
   simp only [Option.bind_some,Bool.not_true,Bool.false_eq_true,if_false]
   rw [vv (by omega)]
 · intro i x hx hp
   have hi:=(List.getElem?_eq_some_iff.1 hx).1
   simp only [fj]
   rw [if_pos (by simpa using hi),bM hx]
   simp only [Option.bind_some]
   rw [Po (h3 x (List.mem_of_getElem? hx)) hF,hp]
   rfl
 · simp only [fj]
   rw [if_neg (by simp)]
end Go.Proofs.cL
end
section
namespace Go.Proofs.Crc
abbrev W:=BitVec 32
def pol:W:=0xEDB88320#32
def f (v:W):W:=(v >>> 1) ^^^ (if v.getLsbD 0 then pol else 0#32)
def half:List W:=[0x00000000#32,0x1DB71064#32,0x3B6E20C8#32,0x26D930AC#32,0x76DC4190#32,0x6B6B51F4#32,0x4DB26158#32,0x5005713C#32,0xEDB88320#32,0xF00F9344#32,0xD6D6A3E8#32,0xCB61B38C#32,0x9B64C2B0#32,0x86D3D2D4#32,0xA00AE278#32,0xBDBDF21C#32]
theorem I4 (a b:W):f (a ^^^ b)=f a ^^^ f b:=by
 unfold f
 apply BitVec.eq_of_getLsbD_eq
 intro i hi
 simp only [BitVec.getLsbD_xor,BitVec.getLsbD_ushiftRight]
 cases a.getLsbD 0<;>cases b.getLsbD 0<;>simp<;>cases a.getLsbD (1+i)<;>cases b.getLsbD (1+i)<;>cases pol.getLsbD i<;>rfl
theorem DC {a:W} (h:a.getLsbD 0=false):f a=a >>> 1:=by
 unfold f;rw [h];simp
theorem Y6:(List.range 16).all (fun n=>decide (f (f (f (f (BitVec.ofNat 32 n))))=half.getD n 0#32))=true:=by kernel_rfl
theorem f4 (v:W):f (f (f (f v)))=(v >>> 4) ^^^ half.getD (v &&& 15#32).toNat 0#32:=by
 have hv:v=(v &&& ~~~15#32) ^^^ (v &&& 15#32):=by
  apply BitVec.eq_of_getLsbD_eq
  intro i hi
  simp only [BitVec.getLsbD_xor,BitVec.getLsbD_and,BitVec.getLsbD_not,hi,decide_true,Bool.true_and]
  cases v.getLsbD i<;>cases (15#32).getLsbD i<;>rfl
 obtain ⟨w,hw⟩:∃w,w=v &&& ~~~15#32:=⟨_,rfl⟩
 obtain ⟨u,hu⟩:∃u,u=v &&& 15#32:=⟨_,rfl⟩
 have hz:∀i,i<4→w.getLsbD i=false:=by
  intro i hi
  have:(~~~15#32).getLsbD i=false:=by
   match i,hi with
   |0,_=>rfl
   |1,_=>rfl
   |2,_=>rfl
   |3,_=>rfl
  rw [hw,BitVec.getLsbD_and,this];simp
 have e1:f w=w >>> 1:=DC (hz 0 (by omega))
 have e2:f (w >>> 1)=w >>> 2:=by rw [DC (by rw [BitVec.getLsbD_ushiftRight];exact hz 1 (by omega)), ←BitVec.shiftRight_add]
 have e3:f (w >>> 2)=w >>> 3:=by rw [DC (by rw [BitVec.getLsbD_ushiftRight];exact hz 2 (by omega)), ←BitVec.shiftRight_add]
 have e4:f (w >>> 3)=w >>> 4:=by rw [DC (by rw [BitVec.getLsbD_ushiftRight];exact hz 3 (by omega)), ←BitVec.shiftRight_add]
 have hsh:w >>> 4=v >>> 4:=by
  rw [hw]
  apply BitVec.eq_of_getLsbD_eq
  intro i hi
  rw [BitVec.getLsbD_ushiftRight,BitVec.getLsbD_ushiftRight,BitVec.getLsbD_and]
  by_cases h:4+i<32
  · have:(~~~15#32).getLsbD (4+i)=true:=by
     rw [BitVec.getLsbD_not,decide_eq_true h]
     have:(15#32).getLsbD (4+i)=false:=by
      rw [BitVec.getLsbD_ofNat]
      have:Nat.testBit 15 (4+i)=false:=by
       apply Nat.testBit_lt_two_pow
       have:2 ^ 4≤2 ^ (4+i):=Nat.pow_le_pow_right (by omega) (by omega)
       omega
      simp [this]
     rw [this];rfl
    rw [this];simp
  · rw [BitVec.getLsbD_of_ge _ _ (by omega)];simp
 have hlt:u.toNat<16:=by
  rw [hu,BitVec.toNat_and]
  exact Nat.lt_of_le_of_lt Nat.and_le_right (by decide)
 have hu4:f (f (f (f u)))=half.getD u.toNat 0#32:=by
  have:=of_decide_eq_true (List.all_eq_true.1 Y6 u.toNat (by simpa using hlt))
  rwa [BitVec.ofNat_toNat,BitVec.setWidth_eq] at this
 conv=>lhs;rw [hv, ←hw, ←hu]
 rw [I4,I4,I4,I4,e1,e2,e3,e4,hsh,hu4,hu]
end Go.Proofs.Crc
end
section
set_option maxRecDepth 100000
namespace Go.Proofs.cL
open Go Go.Am Go.Proofs
open Go.Proofs.Crc (f half f4)
abbrev W:=BitVec 32
abbrev I (v:W):Int:=(v.toNat:Int)
theorem GS {n:Nat} (h:n<4294967296):IntKind.wrap .u32 (n:Int)=(n:Int):=by
 simp only [IntKind.wrap,IntKind.bits,IntKind.signed,Bool.false_and,Bool.false_eq_true,if_false,Int.reducePow]
 omega
theorem Pp (v:W):v.toNat<4294967296:=v.isLt
theorem Wh (v:W):BitVec.ofInt (IntKind.u32).bits (I v)=v:=by
 show BitVec.ofInt 32 (v.toNat:Int)=v
 rw [BitVec.ofInt_natCast,BitVec.ofNat_toNat,BitVec.setWidth_eq]
theorem Fa (a b:W):sU .u32 (I a) (I b)=I (a ^^^ b):=by
 unfold sU
 rw [Wh,Wh]
 exact GS (Pp _)
theorem Wi (a b:W):xW .u32 (I a) (I b)=I (a &&& b):=by
 unfold xW
 rw [Wh,Wh]
 exact GS (Pp _)
theorem Pq (a:W):shr .u32 (I a) 4=I (a >>> 4):=by
 show Int.fdiv (a.toNat:Int) (2 ^ (min 4 32))=_
 have:(a >>> 4).toNat=a.toNat / 16:=by simp [BitVec.toNat_ushiftRight,Nat.shiftRight_eq_div_pow]
 unfold I
 rw [this]
 simp
 rw [Int.fdiv_eq_ediv_of_nonneg _ (by decide)]
theorem Y7 (a:W):shr .u32 (I a) 1=I (a >>> 1):=by
 show Int.fdiv (a.toNat:Int) (2 ^ (min 1 32))=_
 have:(a >>> 1).toNat=a.toNat / 2:=by simp [BitVec.toNat_ushiftRight,Nat.shiftRight_eq_div_pow]
 unfold I
 rw [this]
 simp
 rw [Int.fdiv_eq_ediv_of_nonneg _ (by decide)]
def byt (c:UInt8):W:=BitVec.ofNat 32 c.toNat
theorem Wj (c:UInt8):IntKind.wrap .u32 (c.toNat:Int)=I (byt c):=by
 have:c.toNat<256:=c.toNat_lt
 rw [GS (by omega)]
 simp [byt,I]
def g (v:W) (c:UInt8):W:=f (f (f (f (f (f (f (f (v ^^^ byt c))))))))
def crc (b:List UInt8):W:=b.foldl g 0xFFFFFFFF#32
theorem Wl:∀n:Nat,n<16→fK[n]? =some (I (half.getD n 0#32)):=by decide
theorem Wm (v:W):z1 16 (xW .u32 (I v) 15)=some (v &&& 15#32).toNat:=by
 rw [show (15:Int)=I 15#32 from rfl,Wi]
 unfold z1 I
 have:(v &&& 15#32).toNat<16:=by
  rw [BitVec.toNat_and]
  exact Nat.lt_of_le_of_lt Nat.and_le_right (by decide)
 rw [if_pos (by omega)];simp
theorem Pr (v:W):(v &&& 15#32).toNat<16:=by
 rw [BitVec.toNat_and]
 exact Nat.lt_of_le_of_lt Nat.and_le_right (by decide)
theorem Wn {b:List UInt8} {F:Nat} (hb:b.length≤1000000) (hF:b.length<F):mV F b=some (vX .u32 (I (crc b))):=by
 unfold mV
 have hh:=lpo (ρ:=Int) (s:=b) (body:=iK b) (mk:=fun (v:W) i=>(I v,(i:Int))) (tt:=fun v=>I v) (step:=g) (fun _ _=>True) ?_ ?_ (F:=F) (a:=0xFFFFFFFF#32) hF trivial
 · rw [show ((4294967295:Int),(0:Int))=(I 0xFFFFFFFF#32,((0:Nat):Int)) from rfl,hh.1];rfl
 · intro v i c hc _
   have hi:=(List.getElem?_eq_some_iff.1 hc).1
   refine ⟨?_,trivial⟩
   simp only [iK]
   rw [if_pos (by simpa using hi),bM hc]
   simp only [Option.bind_some]
   rw [Wj,Fa,Wm]
   simp only [Option.bind_some]
   rw [Wl _ (Pr _)]
   simp only [Option.bind_some]
   rw [Pq,Fa,Wm]
   simp only [Option.bind_some]
   rw [Wl _ (Pr _)]
   simp only [Option.bind_some]
   rw [Pq,Fa,vv (by omega), ←f4, ←f4]
   rfl
 · intro v _
   simp only [iK]
   rw [if_neg (by simp)]
theorem abR (v:W):decide (xW .u32 (I v) 1=1)=v.getLsbD 0:=by
 rw [show (1:Int)=I 1#32 from rfl,Wi,Bool.eq_iff_iff,decide_eq_true_eq]
 unfold I
 constructor
 · intro h
   have h2:v &&& 1#32=1#32:=BitVec.eq_of_toNat_eq (by omega)
   have:=congrArg (fun x:W=>x.getLsbD 0) h2
   simpa using this
 · intro h
   have h2:v &&& 1#32=1#32:=by
    apply BitVec.eq_of_getLsbD_eq
    intro i hi
    by_cases h0:i=0
    · subst h0;simp [h]
    · simp [BitVec.getLsbD_one,h0]
   rw [h2]
theorem eight {v:W} {F:Nat} (hF:10<F):iter gu F (I v,0)=some (.inr (I (f (f (f (f (f (f (f (f v)))))))))):=by
 have key:∀(n k G:Nat) (v:W),k+n=8→n<G→iter gu G (I v,(k:Int))=some (.inr (I (Nat.repeat f n v))):=by
  intro n
  induction n with
  |zero=>
   intro k G v hk hG
   obtain ⟨G,rfl⟩:=cJ hG
   refine dw ?_
   simp only [gu]
   rw [if_neg (by simp;omega)];rfl
  |succ n ih=>
   intro k G v hk hG
   obtain ⟨G,rfl⟩:=cJ hG
   have hb:gu (I v,(k:Int))=some (.cT (I (f v),((k+1:Nat):Int))):=by
    simp only [gu]
    rw [if_pos (by simp;omega),abR,vv (by omega),Y7,show (3988292384:Int)=I 0xEDB88320#32 from rfl,Fa]
    unfold f
    cases v.getLsbD 0<;>simp [Go.Proofs.Crc.pol]
   rw [cO hb,ih (k+1) G (f v) (by omega) (by omega)]
   congr 3
   clear ih hb hk hG
   induction n generalizing v with
   |zero=>rfl
   |succ n ih=>show f (Nat.repeat f n (f v))=f (Nat.repeat f (n+1) v);rw [ih]
 exact key 8 0 F v rfl (by omega)
theorem abS {b:List UInt8} {F:Nat} (hb:b.length≤1000000) (hF:b.length+10<F):tF F b=some (vX .u32 (I (crc b))):=by
 unfold tF
 have hh:=lpo (ρ:=Int) (s:=b) (body:=jI F b) (mk:=fun (v:W) i=>(I v,(i:Int))) (tt:=fun v=>I v) (step:=g) (fun _ _=>True) ?_ ?_ (F:=F) (a:=0xFFFFFFFF#32) (by omega) trivial
 · rw [show ((4294967295:Int),(0:Int))=(I 0xFFFFFFFF#32,((0:Nat):Int)) from rfl,hh.1];rfl
 · intro v i c hc _
   have hi:=(List.getElem?_eq_some_iff.1 hc).1
   refine ⟨?_,trivial⟩
   simp only [jI]
   rw [if_pos (by simpa using hi),bM hc]
   simp only [Option.bind_some]
   rw [Wj,Fa,eight (by omega)]
   simp only [Option.bind_some]
   rw [vv (by omega)]
   rfl
 · intro v _
   simp only [jI]
   rw [if_neg (by simp)]
end Go.Proofs.cL
end
section
set_option maxRecDepth 100000
namespace Go.Proofs.cL
open Go Go.Am Go.Proofs
def nb (n k:Nat):UInt8:=UInt8.ofNat (n / 2 ^ (8*k))
def fW (n:Nat):List UInt8:=[nb n 0]
def Fb (n:Nat):List UInt8:=[nb n 0,nb n 1]
def cV (n:Nat):List UInt8:=[nb n 0,nb n 1,nb n 2,nb n 3]
def gC (s:List UInt8):List UInt8:=cV s.length++s
def zE (r:bl):List UInt8:=gC r.ct.au++(gC r.ct.domain++(fW r.state.toNat++(fW r.tries.toNat++(cV r.next.toNat++(Fb r.code.toNat++gC r.why)))))
def gD:List bl→List UInt8
 |[]=>[]
 |r::l=>zE r++gD l
def lu (e:ak):List UInt8:=fW 1++(gC e.av.au++(gC e.av.domain++(cV e.born.toNat++(cV e.size.toNat++(cV e.sum.toNat++(fW e.az.length++gD e.az))))))
theorem kV (m:Nat):UInt8.ofInt (m:Int)=UInt8.ofNat m:=by
 apply UInt8.toNat_inj.1
 simp [UInt8.ofInt]
 omega
theorem Cd (n k:Nat) (h:n<4611686018427387904):UInt8.ofInt (shr .i64 (n:Int) ((8*k:Nat):Int))=nb n k∨8≤k:=by
 by_cases hk:8≤k
 · exact .inr hk
 · left
   unfold shr nb
   have:min ((8*k:Nat):Int).toNat (IntKind.i64).bits=8*k:=by simp [IntKind.bits];omega
   rw [this,Int.fdiv_eq_ediv_of_nonneg _ (Int.pow_nonneg (by decide))]
   rw [show ((n:Int) / (2:Int) ^ (8*k))=((n / 2 ^ (8*k):Nat):Int) by simp,kV]
theorem Fe (n:Nat):UInt8.ofInt (n:Int)=nb n 0:=by rw [kV];simp [nb]
theorem sh8 {n:Nat} (h:n<4611686018427387904):UInt8.ofInt (shr .i64 (n:Int) 8)=nb n 1:=(Cd n 1 h).resolve_right (by decide)
theorem ad6 {n:Nat} (h:n<4611686018427387904):UInt8.ofInt (shr .i64 (n:Int) 16)=nb n 2:=(Cd n 2 h).resolve_right (by decide)
theorem ad7 {n:Nat} (h:n<4611686018427387904):UInt8.ofInt (shr .i64 (n:Int) 24)=nb n 3:=(Cd n 3 h).resolve_right (by decide)
theorem w8 {w:List UInt8} {n:Nat} (h:w.length≤1000000) (hn:n<4611686018427387904):dK ⟨w⟩ (n:Int)=some ⟨w++fW n⟩:=by
 unfold dK
 rw [Fe,cM (by simp;omega) (by omega)];rfl
theorem w16 {w:List UInt8} {n:Nat} (h:w.length≤1000000) (hn:n<4611686018427387904):gp ⟨w⟩ (n:Int)=some ⟨w++Fb n⟩:=by
 unfold gp
 rw [Fe,sh8 hn,cM (by simp;omega) (by omega)];rfl
theorem Sy {w:List UInt8} {n:Nat} (h:w.length≤1000000) (hn:n<4611686018427387904):dn ⟨w⟩ (n:Int)=some ⟨w++cV n⟩:=by
 unfold dn
 rw [Fe,sh8 hn,ad6 hn,ad7 hn,cM (by simp;omega) (by omega)];rfl
theorem wby {w s:List UInt8} (h:w.length≤900000) (hs:s.length≤90000):fo ⟨w⟩ s=some ⟨w++gC s⟩:=by
 unfold fo
 rw [Sy (by omega) (by omega)]
 simp only [Option.bind_some]
 rw [cM (by simp [cV];omega) (by omega)]
 simp [gC]
end Go.Proofs.cL
end
section
set_option maxRecDepth 100000
namespace Go.Proofs.cL
open Go Go.Am Go.Proofs
theorem ad8 (n:Nat):(cV n).length=4:=rfl
theorem cN (s:List UInt8):(gC s).length=4+s.length:=by simp [gC,cV];omega
theorem Ff {r:bl} (h:qz r.ct) (hw:r.why.length≤100):(zE r).length≤1200:=by
 have h1:=h.1;have h2:=h.2
 simp [zE,cN,fW,Fb,cV];omega
theorem GU:∀ {l:List bl},(∀r∈l,qz r.ct∧r.why.length≤100)→(gD l).length≤1200*l.length:=by
 intro l
 induction l with
 |nil=>intro _;simp [gD]
 |cons r l ih=>
  intro h
  have h1:=Ff (h r (by simp)).1 (h r (by simp)).2
  have h2:=ih fun r hr=>h r (by simp [hr])
  simp [gD];omega
theorem Wo {s w:List UInt8} (h:w.length≤900000) (hs:s.length≤90000):eZ s ⟨w⟩=some ⟨w++gC s⟩:=by
 unfold eZ;rw [wby h hs];rfl
theorem ZM {a:aJ} {w:List UInt8} (h:w.length≤800000) (ha:qz a):ga a ⟨w⟩=some ⟨w++(gC a.au++gC a.domain)⟩:=by
 have h1:=ha.1;have h2:=ha.2
 unfold ga
 rw [Wo (by omega) (by omega)]
 simp only [Option.bind_some]
 rw [Wo (by simp [cN];omega) (by omega)]
 simp
theorem Wp {r:bl} {w:List UInt8} {e:ak} {i:Nat} (hi:e.az[i]? =some r) (hl:e.az.length≤1000) (h:w.length≤700000) (ha:qz r.ct) (hb:lI r=true):
 eP e ((i:Int),⟨w⟩)=some (.cT (((i+1:Nat):Int),⟨w++zE r⟩)):=by
 have hlt:=(List.getElem?_eq_some_iff.1 hi).1
 have h1:=ha.1;have h2:=ha.2
 simp only [lI,ir,Bool.and_eq_true,Bool.or_eq_true,decide_eq_true_eq] at hb
 obtain ⟨hc, -, -,hs,ht,hn,hw⟩:=hb
 obtain ⟨st,hst⟩:∃n:Nat,r.state=(n:Int):=⟨r.state.toNat,by omega⟩
 obtain ⟨tr,Wq⟩:∃n:Nat,r.tries=(n:Int):=⟨r.tries.toNat,by omega⟩
 obtain ⟨nx,Lp⟩:∃n:Nat,r.next=(n:Int):=⟨r.next.toNat,by omega⟩
 obtain ⟨cd,hcd⟩:∃n:Nat,r.code=(n:Int):=⟨r.code.toNat,by omega⟩
 simp only [eP]
 rw [if_pos (by simpa using hlt),bM hi]
 simp only [Option.bind_some]
 rw [ZM (by omega) ha]
 simp only [Option.bind_some]
 rw [hst,w8 (by simp [cN];omega) (by omega)]
 simp only [Option.bind_some]
 rw [Wq,w8 (by simp [cN,fW];omega) (by omega)]
 simp only [Option.bind_some]
 rw [Lp,Sy (by simp [cN,fW];omega) (by omega)]
 simp only [Option.bind_some]
 rw [hcd,w16 (by simp [cN,fW,cV];omega) (by omega)]
 simp only [Option.bind_some]
 rw [Wo (by simp [cN,fW,cV,Fb];omega) (by omega)]
 simp only [Option.bind_some]
 rw [vv (by omega)]
 simp [zE,hst,Wq,Lp,hcd]
theorem acr:∀(l m:List bl),gD (l++m)=gD l++gD m:=by
 intro l
 induction l with
 |nil=>intro m;rfl
 |cons r l ih=>intro m;simp [gD,ih]
theorem Sz {e:ak} {w:List UInt8} {F:Nat} (hl:e.az.length≤100) (h:w.length≤5000) (ha:∀r∈e.az,qz r.ct) (hb:e.az.all lI=true) (hF:1000<F):
 iter (eP e) F (0,⟨w⟩)=some (.inr ⟨w++gD e.az⟩):=by
 have Oh:∀r∈e.az,qz r.ct∧r.why.length≤100:=by
  intro r hr
  have:=List.all_eq_true.1 hb r hr
  simp only [lI,Bool.and_eq_true,decide_eq_true_eq] at this
  exact ⟨ha r hr,this.2.2.2.2.2.2⟩
 have hh:=lpo (ρ:=List UInt8) (s:=e.az) (body:=eP e) (mk:=fun (v:List UInt8) i=>((i:Int),(⟨v⟩:aT))) (tt:=fun v=>(⟨v⟩:aT)) (step:=fun v r=>v++zE r) (fun v i=>v.length≤5000+1200*i) ?_ ?_ (F:=F) (a:=w) (by omega) (by simpa using h)
 · rw [show ((0:Int),(⟨w⟩:aT))=(((0:Nat):Int),⟨w⟩) from rfl,hh.1]
   congr 3
   clear hh Oh hb ha hl h
   generalize e.az=l
   induction l generalizing w with
   |nil=>simp [gD]
   |cons r l ih=>simp only [List.foldl_cons];rw [ih];simp [gD]
 · intro v i r hr hI
   have hi:=(List.getElem?_eq_some_iff.1 hr).1
   have hm:=List.mem_of_getElem? hr
   have hk:=Ff (Oh r hm).1 (Oh r hm).2
   exact ⟨Wp hr (by omega) (by omega) (ha r hm) (List.all_eq_true.1 hb r hm),by simp;omega⟩
 · intro v hI
   simp only [eP]
   rw [if_neg (by simp)]
theorem tI {b:List UInt8} (h:b.length≤1000000):fF b=some b:=by
 unfold fF;rw [cM (by simp;omega) (by omega)];rfl
def CF (b:List UInt8):Nat:=(vX .u32 (I (crc b))).toNat
theorem Y8 (v:W):∃u:W,vX .u32 (I v)=I u:=by
 refine ⟨BitVec.ofInt 32 4294967295 ^^^ v, ?_⟩
 unfold vX
 rw [Wh]
 show IntKind.wrap .u32 (((BitVec.ofInt 32 (IntKind.u32).max ^^^ v:W).toNat:Nat):Int)=_
 rw [GS (Pp _)]
 rfl
theorem sum_nat (b:List UInt8):vX .u32 (I (crc b))=(CF b:Int)∧CF b<4294967296:=by
 unfold CF
 obtain ⟨u,hu⟩:=Y8 (crc b)
 rw [hu]
 have:=Pp u
 unfold I
 omega
def eJ (b:List UInt8):List UInt8:=b++cV (CF b)
theorem Y9 {b:List UInt8} {F:Nat} (h:b.length≤800000) (hF:b.length<F):nT F b=some (eJ b):=by
 obtain ⟨h1,h2⟩:=sum_nat b
 unfold nT fJ
 simp only [Option.bind_some]
 rw [tI (by omega)]
 simp only [Option.bind_some]
 rw [Wn (by omega) hF]
 simp only [Option.bind_some]
 rw [h1,wr (by omega) (by omega),Sy (by omega) (by omega)]
 rfl
theorem Pt {e:ak} (hb:fX e=true):qz e.av∧∀r∈e.az,qz r.ct:=by
 simp only [fX,Bool.and_eq_true] at hb
 refine ⟨Ls hb.1,fun r hr=> ?_⟩
 have:=List.all_eq_true.1 hb.2.2.2.2.2 r hr
 simp only [lI,Bool.and_eq_true] at this
 exact Ls this.2.1
theorem Oi {e:ak} {F:Nat} (h:CE e) (hs:0≤e.sum∧e.sum≤4294967295) (hF:200000<F):jk F e=some (if fX e then eJ (lu e) else []):=by
 unfold jk
 rw [A8 h (by omega)]
 simp only [Option.bind_some]
 cases hb:fX e with
 |false=>simp
 |true=>
  have Fg:=hb
  simp only [fX,ir,Bool.and_eq_true,decide_eq_true_eq] at Fg
  obtain ⟨k0,qH,hsi,k1,k2,k3⟩:=Fg
  obtain ⟨h2,h3⟩:=Pt hb
  have Xb:=h2.1;have zW:=h2.2
  obtain ⟨bo,Lt⟩:∃n:Nat,e.born=(n:Int):=⟨e.born.toNat,by omega⟩
  obtain ⟨si,Lu⟩:∃n:Nat,e.size=(n:Int):=⟨e.size.toNat,by omega⟩
  obtain ⟨su,Wr⟩:∃n:Nat,e.sum=(n:Int):=⟨e.sum.toNat,by omega⟩
  simp only [Bool.not_true,Bool.false_eq_true,if_false,if_true]
  unfold fJ
  simp only [Option.bind_some]
  rw [show (1:Int)=((1:Nat):Int) from rfl,w8 (by simp) (by omega)]
  simp only [Option.bind_some]
  rw [ZM (by simp [fW]) h2]
  simp only [Option.bind_some]
  have l1:iter (cU e) F (0,(⟨([]++fW 1)++(gC e.av.au++gC e.av.domain)⟩:aT))=some (.inr ⟨(([]++fW 1)++(gC e.av.au++gC e.av.domain))++(cV bo++(cV si++cV su))⟩):=by
   obtain ⟨G,rfl⟩:∃G,F=G+1+1+1+1:=⟨F - 4,by omega⟩
   have hw:(([]:List UInt8)++fW 1++(gC e.av.au++gC e.av.domain)).length≤2000:=by simp [cN,fW];omega
   generalize (([]:List UInt8)++fW 1++(gC e.av.au++gC e.av.domain))=w at hw
   have hx:[e.born,e.size,IntKind.wrap .i64 e.sum]=[(bo:Int),(si:Int),(su:Int)]:=by rw [Lt,Lu,Wr,wr (by omega) (by omega)]
   have b0:cU e (0,⟨w⟩)=some (.cT (1,⟨w++cV bo⟩)):=by
    simp only [cU];rw [if_pos (by decide),hx]
    rw [show idx [(bo:Int),(si:Int),(su:Int)] 0=some (bo:Int) from rfl]
    simp only [Option.bind_some];rw [Sy (by omega) (by omega)];rfl
   have b1:cU e (1,⟨w++cV bo⟩)=some (.cT (2,⟨w++cV bo++cV si⟩)):=by
    simp only [cU];rw [if_pos (by decide),hx]
    rw [show idx [(bo:Int),(si:Int),(su:Int)] 1=some (si:Int) from rfl]
    simp only [Option.bind_some];rw [Sy (by simp [cV];omega) (by omega)];rfl
   have b2:cU e (2,⟨w++cV bo++cV si⟩)=some (.cT (3,⟨w++cV bo++cV si++cV su⟩)):=by
    simp only [cU];rw [if_pos (by decide),hx]
    rw [show idx [(bo:Int),(si:Int),(su:Int)] 2=some (su:Int) from rfl]
    simp only [Option.bind_some];rw [Sy (by simp [cV];omega) (by omega)];rfl
   rw [cO b0,cO b1,cO b2]
   have b3:cU e (3,⟨w++cV bo++cV si++cV su⟩)=some (.fI ⟨w++cV bo++cV si++cV su⟩):=by
    simp only [cU];rw [if_neg (by decide)]
   rw [dw b3]
   simp
  rw [l1]
  simp only [Option.bind_some]
  rw [w8 (by simp [cN,fW,cV];omega) (by omega)]
  simp only [Option.bind_some]
  rw [Sz k2 (by simp [cN,fW,cV];omega) h3 k3 (by omega)]
  simp only [Option.bind_some]
  have hlen:((([]++fW 1)++(gC e.av.au++gC e.av.domain))++(cV bo++(cV si++cV su))++fW e.az.length++gD e.az).length≤150000:=by
   have hr:(gD e.az).length≤1200*e.az.length:=GU fun r hr=>by
    have:=List.all_eq_true.1 k3 r hr
    simp only [lI,Bool.and_eq_true,decide_eq_true_eq] at this
    exact ⟨h3 r hr,this.2.2.2.2.2.2⟩
   simp [cN,fW,cV];omega
  have ad9:(([]++fW 1)++(gC e.av.au++gC e.av.domain))++(cV bo++(cV si++cV su))++fW e.az.length++gD e.az=lu e:=by
   simp [lu,Lt,Lu,Wr]
  rw [ad9] at hlen ⊢
  unfold ic
  rw [tI (by show (lu e).length≤1000000;omega)]
  simp only [Option.bind_some]
  rw [Y9 (by omega) (by omega)]
  rfl
end Go.Proofs.cL
end
section
set_option maxRecDepth 100000
namespace Go.Proofs.cL
open Go Go.Am Go.Proofs
def Ws (n:Nat):Nat→Nat→List UInt8
 |_,0=>[]
 |i,k+1=>nb n i::Ws n (i+1) k
theorem SA {n b:Nat}:∀(k i G:Nat) (w:List UInt8),i+k=b→b≤8→w.length+k≤1000000→k<G→
 iter (cQ (b:Int)) G (((n / 2 ^ (8*i):Nat):Int),(i:Int),⟨w⟩)=some (.inr ⟨w++Ws n i k⟩):=by
 intro k
 induction k with
 |zero=>
  intro i G w hb hb8 hw hG
  obtain ⟨G,rfl⟩:=cJ hG
  refine dw ?_
  simp only [cQ]
  rw [if_neg (by simp;omega)]
  simp [Ws]
 |succ k ih=>
  intro i G w hb hb8 hw hG
  obtain ⟨G,rfl⟩:=cJ hG
  have CI:cQ (b:Int) (((n / 2 ^ (8*i):Nat):Int),(i:Int),⟨w⟩)=some (.cT (((n / 2 ^ (8*(i+1)):Nat):Int),((i+1:Nat):Int),⟨w++[nb n i]⟩)):=by
   simp only [cQ]
   rw [if_pos (by simp;omega),kV,cM (by simp;omega) (by omega)]
   simp only [Option.bind_some]
   have hs:shr .u64 ((n / 2 ^ (8*i):Nat):Int) 8=((n / 2 ^ (8*(i+1)):Nat):Int):=by
    show Int.fdiv ((n / 2 ^ (8*i):Nat):Int) (2 ^ (min 8 64))=_
    rw [Int.fdiv_eq_ediv_of_nonneg _ (by decide)]
    rw [show (2:Int) ^ (min 8 64)=((256:Nat):Int) by decide, ←Int.natCast_ediv,Nat.div_div_eq_div_mul]
    congr 2
    rw [show 8*(i+1)=8*i+8 by omega,Nat.pow_add]
   rw [hs,vv (by omega)]
   rfl
  rw [cO CI,ih (i+1) G _ (by omega) hb8 (by simp;omega) (by omega)]
  simp [Ws]
theorem wrU {n:Nat} (h:n<4611686018427387904):IntKind.wrap .u64 (n:Int)=(n:Int):=by
 simp only [IntKind.wrap,IntKind.bits,IntKind.signed,Bool.false_and,Bool.false_eq_true,if_false,Int.reducePow]
 omega
theorem Oj {n b F:Nat} {w:List UInt8} (hn:n<4611686018427387904) (hb:b≤8) (hw:w.length≤900000) (hF:100<F):bE F ⟨w⟩ (n:Int) (b:Int)=some ⟨w++Ws n 0 b⟩:=by
 unfold bE
 rw [wrU hn]
 have:=SA (n:=n) (b:=b) b 0 F w (by omega) hb (by omega) (by omega)
 simp only [Nat.mul_zero,Nat.pow_zero,Nat.div_one] at this
 rw [show (((n:Nat):Int),(0:Int),(⟨w⟩:aT))=(((n:Nat):Int),((0:Nat):Int),⟨w⟩) from rfl,this]
 rfl
theorem n8 {n F:Nat} {w:List UInt8} (hn:n<4611686018427387904) (hw:w.length≤900000) (hF:100<F):bE F ⟨w⟩ (n:Int) 1=some ⟨w++fW n⟩:=Oj (b:=1) hn (by omega) hw hF
theorem n16 {n F:Nat} {w:List UInt8} (hn:n<4611686018427387904) (hw:w.length≤900000) (hF:100<F):bE F ⟨w⟩ (n:Int) 2=some ⟨w++Fb n⟩:=Oj (b:=2) hn (by omega) hw hF
theorem n32 {n F:Nat} {w:List UInt8} (hn:n<4611686018427387904) (hw:w.length≤900000) (hF:100<F):bE F ⟨w⟩ (n:Int) 4=some ⟨w++cV n⟩:=Oj (b:=4) hn (by omega) hw hF
theorem nby {w s:List UInt8} {F:Nat} (h:w.length≤800000) (hs:s.length≤90000) (hF:100<F):dH F ⟨w⟩ s=some ⟨w++gC s⟩:=by
 unfold dH
 rw [n32 (by omega) (by omega) hF]
 simp only [Option.bind_some]
 rw [cM (by simp [cV];omega) (by omega)]
 simp [gC]
theorem Pu {a:aJ} {w:List UInt8} {F:Nat} (h:w.length≤700000) (ha:qz a) (hF:100<F):lq F ⟨w⟩ a=some ⟨w++(gC a.au++gC a.domain)⟩:=by
 have h1:=ha.1;have h2:=ha.2
 unfold lq
 rw [nby (by omega) (by omega) hF]
 simp only [Option.bind_some]
 rw [nby (by simp [cN];omega) (by omega) hF]
 simp
theorem Ok {r:bl} {w:List UInt8} {e:ak} {i F:Nat} (hi:e.az[i]? =some r) (hl:e.az.length≤1000) (h:w.length≤600000) (ha:qz r.ct) (hb:lI r=true) (hF:100<F):
 dN F e ((i:Int),⟨w⟩)=some (.cT (((i+1:Nat):Int),⟨w++zE r⟩)):=by
 have hlt:=(List.getElem?_eq_some_iff.1 hi).1
 have h1:=ha.1;have h2:=ha.2
 simp only [lI,ir,Bool.and_eq_true,Bool.or_eq_true,decide_eq_true_eq] at hb
 obtain ⟨hc, -, -,hs,ht,hn,hw⟩:=hb
 obtain ⟨st,hst⟩:∃n:Nat,r.state=(n:Int):=⟨r.state.toNat,by omega⟩
 obtain ⟨tr,Wq⟩:∃n:Nat,r.tries=(n:Int):=⟨r.tries.toNat,by omega⟩
 obtain ⟨nx,Lp⟩:∃n:Nat,r.next=(n:Int):=⟨r.next.toNat,by omega⟩
 obtain ⟨cd,hcd⟩:∃n:Nat,r.code=(n:Int):=⟨r.code.toNat,by omega⟩
 simp only [dN]
 rw [if_pos (by simpa using hlt),bM hi]
 simp only [Option.bind_some]
 rw [Pu (by omega) ha hF]
 simp only [Option.bind_some]
 rw [hst,n8 (by omega) (by simp [cN];omega) hF]
 simp only [Option.bind_some]
 rw [Wq,n8 (by omega) (by simp [cN,fW];omega) hF]
 simp only [Option.bind_some]
 rw [Lp,n32 (by omega) (by simp [cN,fW];omega) hF]
 simp only [Option.bind_some]
 rw [hcd,n16 (by omega) (by simp [cN,fW,cV];omega) hF]
 simp only [Option.bind_some]
 rw [nby (by simp [cN,fW,cV,Fb];omega) (by omega) hF]
 simp only [Option.bind_some]
 rw [vv (by omega)]
 simp [zE,hst,Wq,Lp,hcd]
theorem Lv {e:ak} {w:List UInt8} {F:Nat} (hl:e.az.length≤100) (h:w.length≤5000) (ha:∀r∈e.az,qz r.ct) (hb:e.az.all lI=true) (hF:1000<F):
 iter (dN F e) F (0,⟨w⟩)=some (.inr ⟨w++gD e.az⟩):=by
 have Oh:∀r∈e.az,qz r.ct∧r.why.length≤100:=by
  intro r hr
  have:=List.all_eq_true.1 hb r hr
  simp only [lI,Bool.and_eq_true,decide_eq_true_eq] at this
  exact ⟨ha r hr,this.2.2.2.2.2.2⟩
 have hh:=lpo (ρ:=List UInt8) (s:=e.az) (body:=dN F e) (mk:=fun (v:List UInt8) i=>((i:Int),(⟨v⟩:aT))) (tt:=fun v=>(⟨v⟩:aT)) (step:=fun v r=>v++zE r) (fun v i=>v.length≤5000+1200*i) ?_ ?_ (F:=F) (a:=w) (by omega) (by simpa using h)
 · rw [show ((0:Int),(⟨w⟩:aT))=(((0:Nat):Int),⟨w⟩) from rfl,hh.1]
   congr 3
   clear hh Oh hb ha hl h
   generalize e.az=l
   induction l generalizing w with
   |nil=>simp [gD]
   |cons r l ih=>simp only [List.foldl_cons];rw [ih];simp [gD]
 · intro v i r hr hI
   have hi:=(List.getElem?_eq_some_iff.1 hr).1
   have hm:=List.mem_of_getElem? hr
   have hk:=Ff (Oh r hm).1 (Oh r hm).2
   exact ⟨Ok hr (by omega) (by omega) (ha r hm) (List.all_eq_true.1 hb r hm) (by omega),by simp;omega⟩
 · intro v hI
   simp only [dN]
   rw [if_neg (by simp)]
theorem Wt (n j:Nat) (hj:j≤32):shr .u32 (n:Int) (j:Int)=((n / 2 ^ j:Nat):Int):=by
 show Int.fdiv (n:Int) (2 ^ (min (j:Int).toNat 32))=_
 rw [show min (j:Int).toNat 32=j by simp;omega,Int.fdiv_eq_ediv_of_nonneg _ (Int.pow_nonneg (by decide))]
 simp
theorem Pv {b:List UInt8} {F:Nat} (h:b.length≤800000) (hF:b.length+10<F):mY F b=some (eJ b):=by
 obtain ⟨h1,h2⟩:=sum_nat b
 unfold mY
 rw [abS (by omega) hF]
 simp only [Option.bind_some]
 rw [cM (by simp;omega) (by omega)]
 simp only [Option.bind_some,List.nil_append]
 rw [h1,show (8:Int)=((8:Nat):Int) from rfl,show (16:Int)=((16:Nat):Int) from rfl,show (24:Int)=((24:Nat):Int) from rfl,Wt _ 8 (by omega),Wt _ 16 (by omega),Wt _ 24 (by omega),kV,kV,kV,kV,cM (by simp;omega) (by omega)]
 simp [eJ,cV,nb]
theorem Wu {e:ak} {F:Nat} (h:CE e) (hs:0≤e.sum∧e.sum≤4294967295) (hF:200000<F):iM F e=some (if fX e then eJ (lu e) else []):=by
 unfold iM
 rw [Cc h (by omega)]
 simp only [Option.bind_some]
 cases hb:fX e with
 |false=>simp
 |true=>
  have Fg:=hb
  simp only [fX,ir,Bool.and_eq_true,decide_eq_true_eq] at Fg
  obtain ⟨k0,qH,hsi,k1,k2,k3⟩:=Fg
  obtain ⟨h2,h3⟩:=Pt hb
  have Xb:=h2.1;have zW:=h2.2
  obtain ⟨bo,Lt⟩:∃n:Nat,e.born=(n:Int):=⟨e.born.toNat,by omega⟩
  obtain ⟨si,Lu⟩:∃n:Nat,e.size=(n:Int):=⟨e.size.toNat,by omega⟩
  obtain ⟨su,Wr⟩:∃n:Nat,e.sum=(n:Int):=⟨e.sum.toNat,by omega⟩
  simp only [Bool.not_true,Bool.false_eq_true,if_false,if_true]
  have n1:=n8 (n:=1) (F:=F) (w:=[]) (by omega) (by simp) (by omega)
  rw [show ((1:Nat):Int)=1 from rfl] at n1
  rw [n1]
  simp only [Option.bind_some]
  rw [Pu (by simp [fW]) h2 (by omega)]
  simp only [Option.bind_some]
  rw [Lt,n32 (by omega) (by simp [cN,fW];omega) (by omega)]
  simp only [Option.bind_some]
  rw [Lu,n32 (by omega) (by simp [cN,fW,cV];omega) (by omega)]
  simp only [Option.bind_some]
  rw [Wr,wr (by omega) (by omega),n32 (by omega) (by simp [cN,fW,cV];omega) (by omega)]
  simp only [Option.bind_some]
  rw [n8 (by omega) (by simp [cN,fW,cV];omega) (by omega)]
  simp only [Option.bind_some]
  rw [Lv k2 (by simp [cN,fW,cV];omega) h3 k3 (by omega)]
  simp only [Option.bind_some]
  have hr:(gD e.az).length≤1200*e.az.length:=GU fun r hr=>by
   have:=List.all_eq_true.1 k3 r hr
   simp only [lI,Bool.and_eq_true,decide_eq_true_eq] at this
   exact ⟨h3 r hr,this.2.2.2.2.2.2⟩
  rw [Pv (by simp [cN,fW,cV];omega) (by simp [cN,fW,cV];omega)]
  simp [lu,Lt,Lu,Wr]
end Go.Proofs.cL
end
section
set_option maxRecDepth 100000
namespace Go.Proofs.cL
open Go Go.Am Go.Proofs
def val:List UInt8→Nat
 |[]=>0
 |c::r=>c.toNat+256*val r
theorem A9:∀l:List UInt8,val l<256 ^ l.length:=by
 intro l
 induction l with
 |nil=>simp [val]
 |cons c r ih=>
  have:=c.toNat_lt
  simp only [val,List.length_cons,Nat.pow_succ]
  omega
theorem Pw {a c i:Nat} (h:a<2 ^ i):a ||| (c*2 ^ i)=a+c*2 ^ i:=by
 have:=Nat.two_pow_add_eq_or_of_lt h c
 rw [Nat.or_comm,Nat.mul_comm c, ←this,Nat.add_comm]
theorem Lw {a b:Nat} (ha:a<4611686018427387904) (hb:b<4611686018427387904):JN .i64 (a:Int) (b:Int)=((a ||| b:Nat):Int):=by
 unfold JN
 have hx:∀n:Nat,n<4611686018427387904→(BitVec.ofInt (IntKind.i64).bits (n:Int)).toNat=n:=by
  intro n hn
  show (BitVec.ofInt 64 (n:Int)).toNat=n
  rw [BitVec.ofInt_natCast,BitVec.toNat_ofNat]
  omega
 rw [BitVec.toNat_or,hx a ha,hx b hb]
 have:a ||| b<4611686018427387904:=Nat.or_lt_two_pow (n:=62) ha hb
 rw [wr (by omega) (by omega)]
theorem abT {l:List UInt8} (hl:l.length≤4):∀(r pre:List UInt8) (G:Nat),pre++r=l→r.length<G→
 iter (cE l) G (((val pre:Nat):Int),(pre.length:Int))=some (.inr ((val l:Nat):Int)):=by
 have aea:∀(p:List UInt8) (c:UInt8),val (p++[c])=val p+c.toNat*256 ^ p.length:=by
  intro p
  induction p with
  |nil=>intro c;simp [val]
  |cons d q ih=>intro c;simp only [List.cons_append,val,ih,List.length_cons,Nat.pow_succ];rw [Nat.mul_add,Nat.add_assoc];congr 2;rw [Nat.mul_comm 256,Nat.mul_assoc]
 intro r
 induction r with
 |nil=>
  intro pre G h hG
  obtain ⟨G,rfl⟩:=cJ hG
  simp at h
  subst h
  refine dw ?_
  simp only [cE]
  rw [if_neg (by simp)]
 |cons c r ih=>
  intro pre G h hG
  obtain ⟨G,rfl⟩:=cJ hG
  have hc:l[pre.length]? =some c:=by rw [←h];simp
  have hp:pre.length<l.length:=by rw [←h];simp
  have hpv:=A9 pre
  have hcl:=c.toNat_lt
  have Lx:(256:Nat) ^ pre.length=2 ^ (8*pre.length):=by rw [Nat.pow_mul]
  have hpw:(256:Nat) ^ pre.length≤256 ^ 3:=Nat.pow_le_pow_right (by decide) (by omega)
  have hmul:c.toNat*256 ^ pre.length≤255*256 ^ 3:=Nat.mul_le_mul (by omega) hpw
  have hb:cE l (((val pre:Nat):Int),(pre.length:Int))=some (.cT (((val (pre++[c]):Nat):Int),((pre++[c]).length:Int))):=by
   simp only [cE]
   rw [if_pos (by simpa using hp),bM hc]
   simp only [Option.bind_some]
   rw [wr (by omega) (by omega),wr (by omega) (by omega)]
   have hs:KJ .i64 (c.toNat:Int) (8*(pre.length:Int))=some ((c.toNat*256 ^ pre.length:Nat):Int):=by
    unfold KJ
    rw [if_neg (by omega)]
    have:min (8*(pre.length:Int)).toNat (IntKind.i64).bits=8*pre.length:=by simp [IntKind.bits];omega
    rw [this,Lx,show ((c.toNat:Int)*2 ^ (8*pre.length))=((c.toNat*2 ^ (8*pre.length):Nat):Int) by simp]
    rw [←Lx,wr (by omega) (by omega)]
   rw [hs]
   simp only [Option.bind_some]
   rw [Lw (by omega) (by omega),Lx,Pw (by rw [←Lx];exact hpv),vv (by omega),aea,Lx]
   simp
  rw [cO hb,ih (pre++[c]) G (by rw [←h];simp) (by simp at hG;omega)]
def oC (r:aN) (n:Int):List UInt8×aN:=
 if r.err≠0 then ([],r) else if n<0 then ([],⟨r.b,1⟩) else if (r.b.length:Int)<n then ([],⟨r.b,2⟩) else (r.b.take n.toNat,⟨r.b.drop n.toNat,r.err⟩)
theorem Wv {r:aN} {n:Int} (hr:r.b.length≤1000000):eG r n=some (oC r n):=by
 unfold eG
 by_cases h1:r.err=0
 · rw [if_neg (by simpa using h1)]
   by_cases h2:n<0
   · rw [if_pos (by simpa using h2)];simp [oC,h1,h2]
   · rw [if_neg (by simpa using h2)]
     by_cases h3:(r.b.length:Int)<n
     · rw [if_pos (by simpa using h3)];simp [oC,h1,h2,h3]
     · rw [if_neg (by simpa using h3)]
       obtain ⟨m,rfl⟩:∃m:Nat,n=(m:Int):=⟨n.toNat,by omega⟩
       have e3:vW r.b 0 (m:Int) (m:Int)=some (r.b.take m):=by
        unfold vW
        rw [if_pos rfl,IY (by omega)]
       rw [e3]
       simp only [Option.bind_some]
       rw [A2 (by omega)]
       simp [oC,h1,h3]
 · rw [if_pos (by simpa using h1)];simp [oC,h1]
end Go.Proofs.cL
end
