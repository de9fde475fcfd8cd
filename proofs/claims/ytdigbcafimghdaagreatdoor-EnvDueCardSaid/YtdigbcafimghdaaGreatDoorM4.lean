import Derived.Test.YtdigbcafimghdaaGreatDoorM3
set_option linter.unusedSimpArgs false
set_option linter.unusedVariables false
set_option linter.unusedSectionVars false
set_option linter.defProp false
section
set_option maxRecDepth 100000
namespace Go.Proofs.cF
open Go Go.Am Go.Proofs
open Nat renaming reduceEqDiff→nA,reduceLT→nB,reduceLeDiff→nC,reduceAdd→nD,reduceSub→nE,reduceMul→nF,reduceBEq→nG
set_option maxHeartbeats 2000000
abbrev tM:aD:=(.rg [(aj 29 (.lZ (.t 6) none)),(aj 31 (.lZ (.t 6) none)),(aj 33 (.lZ (.t 6) none)),(aj 30 (.call (.c (.fn 50 [])) [(.t 29)])),(aj 36 (.aV (.t 9) 2)),(aj 32 (.call (.c (.fn 50 [])) [(.t 31)])),(aj 34 (.call (.c (.fn 50 [])) [(.t 33)])),(aj 35 (.dX (.int .u32) (.t 34))),(cU (.st (.t 36) (.t 30) 1)),(aj 37 (.aV (.t 9) 3)),(cU (.st (.t 37) (.t 32) 1)),(aj 38 (.aV (.t 9) 4)),(cU (.st (.t 38) (.t 35) 1))])
abbrev rY:aD:=(.seq (.rg [(aj 42 (.bin .lss (.t 41) (.t 40)))]) (.seq (.cond (.t 42) .skip (.exit 0)) (.seq (.blk 1 (.seq (.rg [(aC 43 8),(aj 44 (.call (.t 43) [])),(aj 45 (.build [(.str []),(.str []),(.int .i64 0),(.int .i64 0),(.int .i64 0),(.int .i64 0),(.str [])] [(0,(2,(.t 44)))])),(aj 10 (.alloc [(.str []),(.str []),(.int .i64 0),(.int .i64 0),(.int .i64 0),(.int .i64 0),(.str [])])),(cU (.st (.t 10) (.t 45) 7))]) (.seq (.rg [(aj 46 (.lZ (.t 6) none)),(aj 48 (.lZ (.t 6) none)),(aj 50 (.lZ (.t 6) none)),(aj 52 (.lZ (.t 6) none)),(aj 47 (.call (.c (.fn 49 [])) [(.t 46)])),(aj 54 (.aV (.t 10) 2)),(aj 49 (.call (.c (.fn 49 [])) [(.t 48)])),(aj 51 (.call (.c (.fn 50 [])) [(.t 50)])),(aj 53 (.call (.c (.fn 51 [])) [(.t 52)])),(cU (.st (.t 54) (.t 47) 1)),(aj 55 (.aV (.t 10) 3)),(cU (.st (.t 55) (.t 49) 1)),(aj 56 (.aV (.t 10) 4)),(cU (.st (.t 56) (.t 51) 1)),(aj 57 (.aV (.t 10) 5)),(cU (.st (.t 57) (.t 53) 1))]) (.seq (.rg [(aj 58 (.ld (.t 7) none)),(aj 59 (.call (.t 58) [])),(aj 60 (.aV (.t 10) 6)),(cU (.st (.t 60) (.t 59) 1))]) (.rg [(aj 61 (.aV (.t 9) 5)),(aj 62 (.ld (.t 61) none)),(aj 63 (.ld (.t 10) (some 7))),(aj 64 (.jE 7 [(.t 63)])),(aj 65 (.app 7 80 (.t 62) (.t 64))),(aj 66 (.aV (.t 9) 5)),(cU (.st (.t 66) (.t 65) 1))]))))) (.rg [(aj 67 (.bin .add (.t 41) (.c (.int .i64 1)))),(aC 41 67)]))))
abbrev tN:aD:=(.rg [(aj 68 (.ld (.t 6) none)),(aj 69 (.call (.c (.fn 52 [])) [(.t 68)])),(aj 70 (.bin .neq (.t 69) (.c (.int .i64 0)))),(aC 71 70),(aF 72 (.ld (.t 9) (some 6)) 71 false),(aF 73 (.call (.c (.fn 13 [])) [(.t 72)]) 71 false),(aF 74 (.un .not (.t 73)) 71 false),(aj 75 (.pick (.t 71) (.c (.bool true)) (.t 74))),(aC 76 75),(aF 77 (.ld (.t 9) (some 6)) 76 false),(aF 78 (.call (.c (.fn 10 [])) [(.t 77)]) 76 false),(aF 79 (.mv (.t 0)) 76 false),(aF 80 (.call (.c (.fn 53 [])) [(.t 78),(.t 79)]) 76 false),(aF 81 (.un .not (.t 80)) 76 false),(aj 82 (.pick (.t 76) (.c (.bool true)) (.t 81)))])
abbrev GG:aD:=(.seq (.rg [(aj 2 (.alloc [(.str []),(.str []),(.int .i64 0),(.int .i64 0),(.int .u32 0),(.sl .ex 7 [])])),(aj 3 (.bf (.c (.int .i64 0))))]) (.seq (.rg [(aC 12 0),(aj 13 (.call (.c (.fn 44 [])) [(.t 12)])),(aC 11 13),(aj 14 (.ext (.t 11) 0)),(aj 15 (.ext (.t 11) 1)),(bk 4 14),(bk 5 15)]) (.seq (.seq (.rg [(aC 16 5),(aj 17 (.bin .neq (.t 16) (.c (.int .i64 0))))]) (.cond (.t 17) (.seq (.rg [(aj 18 (.build [(.str []),(.str []),(.int .i64 0),(.int .i64 0),(.int .u32 0),(.sl .ex 7 [])] [])),(aC 19 5),(cU (.st (.t 2) (.t 18) 6)),(bk 3 19)]) .ret) .skip)) (.seq (.rg [(aC 20 4),(aj 21 (.call (.c (.fn 45 [])) [(.t 20)])),(aj 6 (.alloc [(.v (.pointer none))])),(cU (.st (.t 6) (.t 21) 1))]) (.seq (.rg [(aj 22 (.JO 46 [(.t 6)])),(aj 7 (.alloc [(.v .nilFunc)])),(cU (.st (.t 7) (.t 22) 1))]) (.seq (.rg [(aj 23 (.JO 48 [(.t 7)])),(bk 8 23)]) (.seq (.rg [(aj 24 (.ld (.t 6) none)),(aj 25 (.call (.c (.fn 49 [])) [(.t 24)]))]) (.seq (.rg [(aC 26 8),(aj 27 (.call (.t 26) [])),(aj 28 (.build [(.str []),(.str []),(.int .i64 0),(.int .i64 0),(.int .u32 0),(.sl .ex 7 [])] [(0,(2,(.t 27)))])),(aj 9 (.alloc [(.str []),(.str []),(.int .i64 0),(.int .i64 0),(.int .u32 0),(.sl .ex 7 [])])),(cU (.st (.t 9) (.t 28) 6))]) (.seq (.sem (erase tM)) (.seq (.seq (.rg [(aj 39 (.ld (.t 6) none)),(aj 40 (.call (.c (.fn 49 [])) [(.t 39)])),(aj 41 (.mv (.c (.int .i64 0))))]) (.blk 0 (.loop (erase rY)))) (.seq (.seq (.sem (erase tN)) (.cond (.t 82) (.seq (.rg [(aj 83 (.build [(.str []),(.str []),(.int .i64 0),(.int .i64 0),(.int .u32 0),(.sl .ex 7 [])] [])),(cU (.st (.t 2) (.t 83) 6)),(aj 3 (.bf (.c (.int .i64 3))))]) .ret) .skip)) (.seq (.rg [(aj 84 (.ld (.t 9) (some 6))),(cU (.st (.t 2) (.t 84) 6)),(aj 3 (.bf (.c (.int .i64 0))))]) .ret))))))))))))
theorem GH:bz Tryz.prog 18 85 [(.cell 2 27),(.tmp 3)] (erase GG):=⟨Tryz.f18,_,rfl,by decide,rfl,by kernel_rfl,rfl,rfl⟩
abbrev nS:List Nat:=[0,2,3,4,5,6,7,8,9,10,17,40,41,42,82]
def mC (F:Nat) (gE:aN) (lW:aH):Option (aN×ak):=
 (cM F gE).bind fun (r16,Be)=>
 (cM F Be).bind fun (ny,rF)=>
 (cM F rF).bind fun (Wj,Lo)=>
 some (Lo,(ak.mk lW r16 ny (IntKind.wrap .u32 Wj) ([]:List aW)))
def fX (F:Nat) (A5:Int):(Int×aN×ak)→Option (St (ak×Int) (aN×ak) (Int×aN×ak))
 |(t32,Cn,qq)=>
  (if (decide (t32<A5)) then
   (jN F Cn).bind fun (Du,Wl)=>
   (dR F Wl).bind fun (r37,r38)=>
   (dR F r38).bind fun (r39,r40)=>
   (cM F r40).bind fun (r41,r42)=>
   (gx F r42).bind fun (r43,Wm)=>
   (fR F Wm).bind fun (Lp,Wn)=>
   (ct 80 qq.az ([(aW.mk Du r37 r39 r41 r43 Lp)]:List aW)).bind fun x47=>
   some (.cK ((IntKind.wrap .i64 (t32+1)),Wn,(ak.mk qq.av qq.born qq.size qq.sum x47)))
  else
   some (.fF (Cn,qq)))
def jA (F:Nat) (GI:aN) (jO:ak) (b1:List UInt8):Option (Bool):=
 (fD GI).bind fun r55=>
 (if (!decide (r55=0)) then
  some true
 else
  (iw F jO).bind fun r56=>
  (if (!r56) then
   some true
  else
   (jx F jO).bind fun r57=>(bytes_Equal r57 b1).bind fun r58=>some (!r58)))
def ic (F:Nat) (b1:List UInt8):Option (ak×Int):=
 (od F b1).bind fun (r2,r3)=>
 (if (!decide (r3=0)) then
  some ((ak.mk (aH.mk ([]:List UInt8) ([]:List UInt8)) 0 0 0 ([]:List aW)),r3)
 else
  ((fQ r2).bind fun r4=>
  match r4 with
  |none=>
   none
  |some t6=>
   (dR F t6).bind fun (r8,r9)=>
   (gp F r9).bind fun (lW,gE)=>
   (mC F gE lW).bind fun (E2,s25)=>
   (dR F E2).bind fun (A5,xR)=>
   ((iter (fX F A5) F (0,xR,s25)).bind fun o61=>
   match o61 with
   | .inr (GI,jO)=>
     (jA F GI jO b1).bind fun t60=>
     (if t60 then
      some ((ak.mk (aH.mk ([]:List UInt8) ([]:List UInt8)) 0 0 0 ([]:List aW)),3)
     else
      some (jO,0))
   | .inl _=>none)))
theorem Bf {F:Nat} {gE:aN} {lW:aH} {b1:List UInt8} {mT:Nat} {Co:Nat} {zE:Nat} {zF:Nat} {H0 H:AH} (hfr:Fr H0 H0.length [] H) (ai:H[mT]? =some [(.str ([]:List UInt8)),(.str ([]:List UInt8)),(.int .i64 0),(.int .i64 0),(.int .u32 0),(.sl .own 7 [])]) (aq:H[Co]? =some [(.sl .n 1 (ml b8 gE.b)),(.int .i64 gE.err)]) (bH:H[zE]? =some [(.fn 46 [(.ep (.agg [(.ptr Co 0)]) 0)])]) (cm:H[zF]? =some [(.str lW.au),(.str lW.domain),(.int .i64 0),(.int .i64 0),(.int .u32 0),(.sl .own 7 [])]) (eK:H0.length≤mT) (hi1:H0.length≤Co) (hi2:mT≠Co) (vB:H0.length≤zE) (hi4:mT≠zE) (OA:Co≠zE) (hi6:H0.length≤zF) (hi7:mT≠zF) (hi8:Co≠zF) (hi9:zE≠zF) {K:Exit→Env→AH→Prop} {s22:aN} {mU:ak}
 (h:mC F gE lW=some (s22,mU))
 (kn:∀H':AH,Fr H0 H0.length [] H'→H'[mT]? =some [(.str ([]:List UInt8)),(.str ([]:List UInt8)),(.int .i64 0),(.int .i64 0),(.int .u32 0),(.sl .own 7 [])]→H'[Co]? =some [(.sl .n 1 (ml b8 s22.b)),(.int .i64 s22.err)]→H'[zE]? =some [(.fn 46 [(.ep (.agg [(.ptr Co 0)]) 0)])]→H'[zF]? =some [(.str mU.av.au),(.str mU.av.domain),(.int .i64 mU.born),(.int .i64 mU.size),(.int .u32 mU.sum),(.sl .own 7 (ml aA mU.az))]→K .normal [(0,(.sl .n 1 (ml b8 b1))),(2,(.ptr mT 0)),(6,(.ep (.agg [(.ptr Co 0)]) 0)),(7,(.ptr zE 0)),(8,(.fn 48 [(.ptr zE 0)])),(9,(.ptr zF 0))] H'):
 AX Tryz.prog nS 85 H0.length (erase tM) K [(0,(.sl .n 1 (ml b8 b1))),(2,(.ptr mT 0)),(6,(.ep (.agg [(.ptr Co 0)]) 0)),(7,(.ptr zE 0)),(8,(.fn 48 [(.ptr zE 0)])),(9,(.ptr zF 0))] H:=by
 refine dn fun K' hK=> ?_
 have hle:=hfr.le
 have aU:=aL ai
 have cE:=aL aq
 have zk:=aL bH
 have E7:=aL cm
 rw [mC.eq_1] at h
 refine aE (aB ai (aB aq (aB bH cm))) ?_
 obtain ⟨⟨r16,Be⟩,cu,h⟩:=ay h
 dsimp only at h
 refine bg ax (dQ (aq.trans rfl) cu) ?_
 refine aE (aB ai (aB aq (aB bH cm))) ?_
 obtain ⟨⟨ny,rF⟩,dw,h⟩:=ay h
 dsimp only at h
 refine bg ax (dQ (q1:=Co) bL dw) ?_
 refine aE (aB ai (aB aq (aB bH cm))) ?_
 obtain ⟨⟨Wj,Lo⟩,dD,h⟩:=ay h
 dsimp only at h
 refine bg ax (dQ (q1:=Co) bL dD) ?_
 refine aE (aB ai (aB aq (aB bH cm))) ?_
 obtain ⟨rfl,rfl⟩:=dm h
 exact hK _ _ _ _ _ aX ax (kn _ (bn _ (bn _ (bn _ (bn _ (bn _ (bn _ hfr)))))) (aY (aY (aY (aY (aY (aY (ai.trans rfl))))))) (aY (aY (aY bL))) (aY (aY (aY (aY (aY (aY (bH.trans rfl))))))) bL)
theorem Bg {F:Nat} {t32:Int} {A5:Int} {Cn:aN} {qq:ak} {b1:List UInt8} {E8:Nat} {tO:Nat} {Cp:Nat} {E9:Nat} {H0 H:AH} (hfr:Fr H0 H0.length [] H) (ai:H[E8]? =some [(.str ([]:List UInt8)),(.str ([]:List UInt8)),(.int .i64 0),(.int .i64 0),(.int .u32 0),(.sl .own 7 [])]) (aq:H[tO]? =some [(.sl .n 1 (ml b8 Cn.b)),(.int .i64 Cn.err)]) (bH:H[Cp]? =some [(.fn 46 [(.ep (.agg [(.ptr tO 0)]) 0)])]) (cm:H[E9]? =some [(.str qq.av.au),(.str qq.av.domain),(.int .i64 qq.born),(.int .i64 qq.size),(.int .u32 qq.sum),(.sl .own 7 (ml aA qq.az))]) (eK:H0.length≤E8) (hi1:H0.length≤tO) (hi2:E8≠tO) (vB:H0.length≤Cp) (hi4:E8≠Cp) (OA:tO≠Cp) (hi6:H0.length≤E9) (hi7:E8≠E9) (hi8:tO≠E9) (hi9:Cp≠E9) {K:Exit→Env→AH→Prop} {o:(ak×Int)⊕(aN×ak)}
 (h:iter (fX F A5) F (t32,Cn,qq)=some o)
 (di:∀o':aN×ak,o= .inr o'→∀H':AH,Fr H0 H0.length [] H'→H'[E8]? =some [(.str ([]:List UInt8)),(.str ([]:List UInt8)),(.int .i64 0),(.int .i64 0),(.int .u32 0),(.sl .own 7 [])]→H'[tO]? =some [(.sl .n 1 (ml b8 o'.1.b)),(.int .i64 o'.1.err)]→H'[Cp]? =some [(.fn 46 [(.ep (.agg [(.ptr tO 0)]) 0)])]→H'[E9]? =some [(.str o'.2.av.au),(.str o'.2.av.domain),(.int .i64 o'.2.born),(.int .i64 o'.2.size),(.int .u32 o'.2.sum),(.sl .own 7 (ml aA o'.2.az))]→K (.exit 0) [(0,(.sl .n 1 (ml b8 b1))),(2,(.ptr E8 0)),(6,(.ep (.agg [(.ptr tO 0)]) 0)),(9,(.ptr E9 0))] H'):
 AX Tryz.prog nS 85 H0.length (.loop (erase rY)) K [(0,(.sl .n 1 (ml b8 b1))),(2,(.ptr E8 0)),(6,(.ep (.agg [(.ptr tO 0)]) 0)),(7,(.ptr Cp 0)),(8,(.fn 48 [(.ptr Cp 0)])),(9,(.ptr E9 0)),(40,(.int .i64 A5)),(41,(.int .i64 t32))] H:=by
 refine ja (fun s e H1=>match s with|(t32,Cn,qq)=>e=[(0,(.sl .n 1 (ml b8 b1))),(2,(.ptr E8 0)),(6,(.ep (.agg [(.ptr tO 0)]) 0)),(7,(.ptr Cp 0)),(8,(.fn 48 [(.ptr Cp 0)])),(9,(.ptr E9 0)),(40,(.int .i64 A5)),(41,(.int .i64 t32))]∧Fr H0 H0.length [] H1∧H1[E8]? =some [(.str ([]:List UInt8)),(.str ([]:List UInt8)),(.int .i64 0),(.int .i64 0),(.int .u32 0),(.sl .own 7 [])]∧H1[tO]? =some [(.sl .n 1 (ml b8 Cn.b)),(.int .i64 Cn.err)]∧H1[Cp]? =some [(.fn 46 [(.ep (.agg [(.ptr tO 0)]) 0)])]∧H1[E9]? =some [(.str qq.av.au),(.str qq.av.domain),(.int .i64 qq.born),(.int .i64 qq.size),(.int .u32 qq.sum),(.sl .own 7 (ml aA qq.az))]) h ⟨rfl,hfr,ai,aq,bH,cm⟩ ?_
 rintro K' ⟨t32,Cn,qq⟩ st e H ⟨rfl,hfr,ai,aq,bH,cm⟩ h hN hB hR hX
 have hle:=hfr.le
 have aU:=aL ai
 have cE:=aL aq
 have zk:=aL bH
 have E7:=aL cm
 rw [fX.eq_1] at h
 refine aE (aB ai (aB aq (aB bH cm))) ?_
 refine bX h (fun cG h=> ?_) fun cG h=> ?_
 · refine aE (aB ai (aB aq (aB bH cm))) ?_
   obtain ⟨⟨Du,Wl⟩,ei,h⟩:=ay h
   dsimp only at h
   refine bg ax (xV (q1:=Cp) (q2:=tO) (bH.trans rfl) (aq.trans rfl) br ei) ?_
   refine aE (aB ai (aB aq (aB bH cm))) ?_
   obtain ⟨⟨r37,r38⟩,cZ,h⟩:=ay h
   dsimp only at h
   refine bg ax (gN (q1:=tO) (aY (ez bL)) cZ) ?_
   refine aE (aB ai (aB aq (aB bH cm))) ?_
   obtain ⟨⟨r39,r40⟩,fV,h⟩:=ay h
   dsimp only at h
   refine bg ax (gN (q1:=tO) bL fV) ?_
   refine aE (aB ai (aB aq (aB bH cm))) ?_
   obtain ⟨⟨r41,r42⟩,kH,h⟩:=ay h
   dsimp only at h
   refine bg ax (dQ (q1:=tO) bL kH) ?_
   refine aE (aB ai (aB aq (aB bH cm))) ?_
   obtain ⟨⟨r43,Wm⟩,fW,h⟩:=ay h
   dsimp only at h
   refine bg ax (wS (q1:=tO) bL fW) ?_
   refine aE (aB ai (aB aq (aB bH cm))) ?_
   obtain ⟨⟨Lp,Wn⟩,jt,h⟩:=ay h
   dsimp only at h
   refine bg ax (ko (q1:=tO) (aY (aY (aY (aY bL)))) jt) ?_
   refine aE (aB ai (aB aq (aB bH cm))) ?_
   obtain ⟨x47,mo,h⟩:=ay h
   have ju:ct 80 (ml aA qq.az) [(.agg [(.str Du.au),(.str Du.domain),(.int .i64 r37),(.int .i64 r39),(.int .i64 r41),(.int .i64 r43),(.str Lp)])]=some (ml aA x47):=dI (f:=aA) mo
   refine aE (aB ju (aB ai (aB aq (aB bH cm)))) ?_
   obtain rfl:=aJ h
   exact hN _ rfl _ _ _ _ aX ax ⟨rfl,(bn _ (bn _ (bn _ (bn _ (bn _ (bn _ (bn _ (bn _ (bn _ (bn _ (bn _ (bn _ (bn _ (Fr.app (bn _ hfr))))))))))))))),(aY (aY (aY (aY (aY (aY (aY (aY (aY (aY (aY (aY (aY (ez (aY (ai.trans rfl)))))))))))))))),(aY (aY (aY bL))),(aY (aY (aY (aY (aY (aY (aY (aY (aY (aY (aY (aY (aY (ez (aY (bH.trans rfl)))))))))))))))),bL⟩
 · refine aE (aB ai (aB aq (aB bH cm))) ?_
   obtain rfl:=aJ h
   exact hX _ _ _ _ _ eI aX ax (di _ (hB _ rfl) _ hfr (ai.trans rfl) (aq.trans rfl) (bH.trans rfl) (cm.trans rfl))
theorem Bh {F:Nat} {GI:aN} {jO:ak} {b1:List UInt8} {Lq:Nat} {OC:Nat} {Lr:Nat} {H0 H:AH} (hfr:Fr H0 H0.length [] H) (ai:H[Lq]? =some [(.str ([]:List UInt8)),(.str ([]:List UInt8)),(.int .i64 0),(.int .i64 0),(.int .u32 0),(.sl .own 7 [])]) (aq:H[OC]? =some [(.sl .n 1 (ml b8 GI.b)),(.int .i64 GI.err)]) (cm:H[Lr]? =some [(.str jO.av.au),(.str jO.av.domain),(.int .i64 jO.born),(.int .i64 jO.size),(.int .u32 jO.sum),(.sl .own 7 (ml aA jO.az))]) (eK:H0.length≤Lq) (hi1:H0.length≤OC) (hi2:Lq≠OC) (vB:H0.length≤Lr) (hi4:Lq≠Lr) (OA:OC≠Lr) {K:Exit→Env→AH→Prop} {t59:Bool}
 (h:jA F GI jO b1=some t59)
 (kn:∀H':AH,Fr H0 H0.length [] H'→H'[Lq]? =some [(.str ([]:List UInt8)),(.str ([]:List UInt8)),(.int .i64 0),(.int .i64 0),(.int .u32 0),(.sl .own 7 [])]→H'[OC]? =some [(.sl .n 1 (ml b8 GI.b)),(.int .i64 GI.err)]→H'[Lr]? =some [(.str jO.av.au),(.str jO.av.domain),(.int .i64 jO.born),(.int .i64 jO.size),(.int .u32 jO.sum),(.sl .own 7 (ml aA jO.az))]→K .normal [(2,(.ptr Lq 0)),(9,(.ptr Lr 0)),(82,(.bool t59))] H'):
 AX Tryz.prog nS 85 H0.length (erase tN) K [(0,(.sl .n 1 (ml b8 b1))),(2,(.ptr Lq 0)),(6,(.ep (.agg [(.ptr OC 0)]) 0)),(9,(.ptr Lr 0))] H:=by
 refine dn fun K' hK=> ?_
 have hle:=hfr.le
 have aU:=aL ai
 have cE:=aL aq
 have E7:=aL cm
 rw [jA.eq_1] at h
 refine aE (aB ai (aB aq cm)) ?_
 obtain ⟨r55,mq,h⟩:=ay h
 refine ueZ (uF mq) (AB.cons (.one _ _ (kC.aea (aq.trans rfl) pZZ)) (AB.nil)) ?_
 refine aE (aB ai (aB aq cm)) ?_
 refine ck h (fun j0 h=> ?_) fun j0 h=> ?_
 · refine aE (aB j0 (aB ai (aB aq cm))) ?_
   obtain rfl:=aJ h
   exact hK _ _ _ _ _ aX ax (kn _ hfr (ai.trans rfl) (aq.trans rfl) (cm.trans rfl))
 · refine aE (aB j0 (aB ai (aB aq cm))) ?_
   obtain ⟨r56,n9,h⟩:=ay h
   refine bg ax (kJ n9) ?_
   refine aE (aB ai (aB aq cm)) ?_
   refine ck h (fun kI h=> ?_) fun kI h=> ?_
   · refine aE (aB kI (aB ai (aB aq cm))) ?_
     obtain rfl:=aJ h
     exact hK _ _ _ _ _ aX ax (kn _ hfr (ai.trans rfl) (aq.trans rfl) (cm.trans rfl))
   · refine aE (aB kI (aB ai (aB aq cm))) ?_
     obtain ⟨r57,mu,h⟩:=ay h
     refine bg ax (qn mu) ?_
     refine aE (aB ai (aB aq cm)) ?_
     obtain ⟨r58,wI,h⟩:=ay h
     refine bg ax (Dv wI) ?_
     refine aE (aB ai (aB aq cm)) ?_
     obtain rfl:=aJ h
     exact hK _ _ _ _ _ aX ax (kn _ hfr (ai.trans rfl) (aq.trans rfl) (cm.trans rfl))
theorem qt {F:Nat} {b1:List UInt8} {H0:AH} {aM:ak} {cD:Int} (h:ic F b1=some (aM,cD)):
 aG Tryz.prog 18 [(.sl .n 1 (ml b8 b1))] H0 fun v H'=>v=(.bM [(.agg [(.str aM.av.au),(.str aM.av.domain),(.int .i64 aM.born),(.int .i64 aM.size),(.int .u32 aM.sum),(.sl .n 7 (ml aA aM.az))]),(.int .i64 cD)])∧H'=H0:=by
 refine ec GH nS [] fun hcl K0 aO H hH hfr=> ?_
 clear hH
 have hle:=hfr.le
 rw [ic.eq_1] at h
 refine bR ?_
 obtain ⟨⟨r2,r3⟩,hy1,h⟩:=ay h
 dsimp only at h
 refine bg ax (E3 hy1) ?_
 refine bR ?_
 refine bX h (fun bh h=> ?_) fun bh h=> ?_
 · refine bR ?_
   obtain ⟨rfl,rfl⟩:=dm h
   exact aO _ _ _ bE (bp (bn _ (Fr.app hfr)) hcl (gB (cs:=[(.str ([]:List UInt8)),(.str ([]:List UInt8)),(.int .i64 0),(.int .i64 0),(.int .u32 0),(.sl .ex 7 [])]) (v:=(.agg [(.str ([]:List UInt8)),(.str ([]:List UInt8)),(.int .i64 0),(.int .i64 0),(.int .u32 0),(.sl .ex 7 [])])) (by kernel_rfl) (n:=(some 6)) (by kernel_rfl) rfl bL (by simp [jm,jl,lV,b5,AV.flat,nM,ox,AV.bT,Tg.sh]) (bC bx (.int .i64 r3))) bA bt ⟨rfl,rfl⟩)
 · refine bR ?_
   obtain ⟨r4,bw,h⟩:=ay h
   obtain ⟨q5,OD⟩:∃q:Nat,H.length=q:=⟨_,rfl⟩
   try rw [OD]
   rcases r4 with _|t6
   · try dsimp only at h
     cases h
   · try dsimp only at h
     refine Zn ax (oL bw) ?_
     rintro _ H ⟨q7,rfl,E1,A4,aq⟩
     try simp only [p6,p7] at E1
     have ai:H[q5]? =some [(.str ([]:List UInt8)),(.str ([]:List UInt8)),(.int .i64 0),(.int .i64 0),(.int .u32 0),(.sl .ex 7 [])]:=(A4.eq _ (aL (by exact kg)) (by simp<;>(first|assumption|omega|(simp only [p6,p7]<;>omega)|fail))).trans (by exact kg)
     have hfr:=Fr.trans (Fr.app hfr) A4 (by simp)
     have hle:=hfr.le
     have aU:=aL ai
     have cE:=aL aq
     refine aE (aB ai aq) ?_
     obtain ⟨⟨r8,r9⟩,bu,h⟩:=ay h
     dsimp only at h
     refine bg ax (gN (q1:=q7) (aY (ez (aY (ez (aq.trans rfl))))) bu) ?_
     refine aE (aB ai aq) ?_
     obtain ⟨⟨lW,gE⟩,bV,h⟩:=ay h
     dsimp only at h
     refine bg ax (zx (q1:=(H.length+1)) (q2:=H.length) (q4:=q7) (aY bL) (aY (aY (ez bL))) bL br br br bV) ?_
     refine aE (aB ai aq) ?_
     refine Ov ?_
     apply AX.AE (s:=H.length) (s2:=(H.length+1)) (cs:=[(.ptr q7 0)]) (zs:=[(.fn 46 [(.ptr H.length 0)])]) (zs':=[(.fn 46 [(.ep (.agg [(.ptr q7 0)]) 0)])]) (by exact (aY (ez (aY (aY (aY (ez bL))))))) (cx.same (cx.nil)) (by simp) (by exact (aY (ez (aY (aY bL))))) (by omega) (vu.cons _ _ _ _ (Fc.fn _ _) (vu.nil))
     · repeat (first|exact FZ.nil|apply FZ.ep|apply FZ.same)
     refine V7 ?_
     obtain ⟨zE,Zq⟩:∃q:Nat,(H.length+1)=q:=⟨_,rfl⟩
     try rw [Zq]
     obtain ⟨zF,Zr⟩:∃q:Nat,(H.length+2)=q:=⟨_,rfl⟩
     try rw [Zr]
     try rw [show zE+1=zF from by omega]
     obtain ⟨⟨E2,s25⟩,eB,h⟩:=ay h
     dsimp only at h
     refine cg (eV.PN (q:=zF) (cs':=[(.str lW.au),(.str lW.domain),(.int .i64 0),(.int .i64 0),(.int .u32 0),(.sl .own 7 [])]) (eV.set (q:=q5) (cs':=[(.str ([]:List UInt8)),(.str ([]:List UInt8)),(.int .i64 0),(.int .i64 0),(.int .u32 0),(.sl .own 7 [])]) (aY (aY (aY (ez (aY (aY (aY (ez (aY (ez (ai.trans rfl))))))))))) gC) (aY (aY bL)) gC) (Bf (b1:=b1) (mT:=q5) (Co:=q7) (zE:=zE) (zF:=zF) (bn _ (bn _ (bn _ (bn _ (bn _ (Fr.app (bn _ (bn _ (bn _ (Fr.app (bn _ (Fr.app hfr)))))))))))) (aY bL) (aY (aY (aY (aY (aY (ez bL)))))) (aY (aY bL)) bL br br br br br br br br br br eB ?_)
     intro H hfr ai aq bH cm
     have hle:=hfr.le
     have aU:=aL ai
     have cE:=aL aq
     have zk:=aL bH
     have E7:=aL cm
     refine aE (aB ai (aB aq (aB bH cm))) ?_
     obtain ⟨⟨A5,xR⟩,cY,h⟩:=ay h
     dsimp only at h
     refine bg ax (gN (aq.trans rfl) cY) ?_
     refine aE (aB ai (aB aq (aB bH cm))) ?_
     obtain ⟨o61,jv,h⟩:=ay h
     refine cg ax (Bg (b1:=b1) (E8:=q5) (tO:=q7) (Cp:=zE) (E9:=zF) (bn _ hfr) (aY (ai.trans rfl)) bL (aY (bH.trans rfl)) (aY (cm.trans rfl)) br br br br br br br br br br jv ?_)
     · rintro ⟨GI,jO⟩ rfl H hfr ai aq bH cm
       try dsimp only at h ai aq bH cm
       have hle:=hfr.le
       have aU:=aL ai
       have cE:=aL aq
       have zk:=aL bH
       have E7:=aL cm
       refine aE (aB ai (aB aq (aB bH cm))) ?_
       obtain ⟨t60,Bi,h⟩:=ay h
       refine cg ax (Bh (Lq:=q5) (OC:=q7) (Lr:=zF) hfr (ai.trans rfl) (aq.trans rfl) (cm.trans rfl) br br br br br br Bi ?_)
       intro H hfr ai aq cm
       have hle:=hfr.le
       have aU:=aL ai
       have cE:=aL aq
       have E7:=aL cm
       refine aE (aB ai (aB aq cm)) ?_
       refine bX h (fun Fa h=> ?_) fun Fa h=> ?_
       · refine aE (aB ai (aB aq cm)) ?_
         obtain ⟨rfl,rfl⟩:=dm h
         exact aO _ _ _ bE (bp (bn _ hfr) hcl (gB (cs:=[(.str ([]:List UInt8)),(.str ([]:List UInt8)),(.int .i64 0),(.int .i64 0),(.int .u32 0),(.sl .ex 7 [])]) (v:=(.agg [(.str ([]:List UInt8)),(.str ([]:List UInt8)),(.int .i64 0),(.int .i64 0),(.int .u32 0),(.sl .ex 7 [])])) (by kernel_rfl) (n:=(some 6)) (by kernel_rfl) rfl bL (by simp [jm,jl,lV,b5,AV.flat,nM,ox,AV.bT,Tg.sh]) (bC bx (.int .i64 3))) bA bt ⟨rfl,rfl⟩)
       · refine aE (aB ai (aB aq cm)) ?_
         obtain ⟨rfl,rfl⟩:=dm h
         exact aO _ _ _ bE (bp (bn _ hfr) hcl (gB (cs:=[(.str jO.av.au),(.str jO.av.domain),(.int .i64 jO.born),(.int .i64 jO.size),(.int .u32 jO.sum),(.sl .n 7 (ml aA jO.az))]) (v:=(.agg [(.str jO.av.au),(.str jO.av.domain),(.int .i64 jO.born),(.int .i64 jO.size),(.int .u32 jO.sum),(.sl .n 7 (ml aA jO.az))])) (by kernel_rfl) (n:=(some 6)) (by kernel_rfl) rfl bL (by simp [jm,jl,lV,b5,AV.flat,nM,ox,AV.bT,Tg.sh]) (bC bx (.int .i64 0))) bA bt ⟨rfl,rfl⟩)
abbrev yG:aD:=(.rg [(aj 15 (.aV (.t 7) 2)),(aj 16 (.ld (.t 15) none)),(aj 17 (.bin .eql (.t 16) (.c (.int .i64 1)))),(aC 18 17),(aF 19 (.mv (.t 5)) 18 true),(aF 20 (.un .not (.t 19)) 18 true),(aF 21 (.mv (.t 20)) 18 true),(aF 22 (.aV (.t 7) 4) 21 false),(aF 23 (.ld (.t 22) none) 21 false),(aF 24 (.mv (.t 4)) 21 false),(aF 25 (.bin .lss (.t 23) (.t 24)) 21 false),(aF 26 (.pick (.t 21) (.c (.bool true)) (.t 25)) 18 true),(aj 27 (.pick (.t 18) (.t 26) (.c (.bool false))))])
abbrev wT:aD:=(.seq (.rg [(aj 12 (.bin .lss (.t 11) (.t 10)))]) (.seq (.cond (.t 12) .skip (.exit 0)) (.seq (.blk 1 (.seq (.rg [(aj 13 (.ku 7 (.t 9) (.t 11))),(aj 14 (.ld (.t 13) (some 7))),(aj 7 (.alloc [(.str []),(.str []),(.int .i64 0),(.int .i64 0),(.int .i64 0),(.int .i64 0),(.str [])])),(cU (.st (.t 7) (.t 14) 7))]) (.seq (.sem (erase yG)) (.cond (.t 27) (.rg [(aj 28 (.aV (.t 7) 4)),(aj 29 (.ld (.t 28) none)),(bk 4 29),(aj 5 (.bf (.c (.bool true))))]) .skip)))) (.rg [(aj 30 (.bin .add (.t 11) (.c (.int .i64 1)))),(aC 11 30)]))))
abbrev OE:aD:=(.seq (.rg [(aj 1 (.box (.t 0))),(aj 2 (.bf (.c (.int .i64 0)))),(aj 3 (.bf (.c (.bool false))))]) (.seq (.rg [(aj 4 (.bf (.c (.int .i64 0)))),(aj 5 (.bf (.c (.bool false))))]) (.seq (.seq (.rg [(aj 8 (.aV (.t 1) 5)),(aj 9 (.ld (.t 8) none)),(aj 10 (.len (.t 9))),(aj 11 (.mv (.c (.int .i64 0))))]) (.blk 0 (.loop (erase wT)))) (.seq (.rg [(aC 31 4),(aC 32 5),(bk 2 31),(bk 3 32)]) .ret))))
theorem OG:bz Tryz.prog 11 33 [(.tmp 2),(.tmp 3)] (erase OE):=⟨Tryz.f11,_,rfl,by decide,rfl,by kernel_rfl,rfl,rfl⟩
abbrev zG:List Nat:=[0,1,2,3,4,5,7,9,10,11,12,27]
def lK (e1:ak):(Int×Bool×Int)→Option (St (Int×Bool) (Int×Bool) (Int×Bool×Int))
 |(qu,zH,t4)=>
  (if (decide (t4<(e1.az.length:Int))) then
   (idx e1.az t4).bind fun x5=>
   (if ((decide (x5.state=1))&&((!zH)||(decide (x5.next<qu)))) then
    some (.cK (x5.next,true,(IntKind.wrap .i64 (t4+1))))
   else
    some (.cK (qu,zH,(IntKind.wrap .i64 (t4+1)))))
  else
   some (.fF (qu,zH)))
def qv (F:Nat) (e1:ak):Option (Int×Bool):=
 ((iter (lK e1) F (0,false,0)).bind fun Ls=>
 match Ls with
 | .inr (Wo,Wp)=>
   some (Wo,Wp)
 | .inl _=>none)
theorem Fb {qu:Int} {zH:Bool} {q6:Nat} {e1:ak} {t4:Int} {x5:aW} {H0 H:AH} (hfr:Fr H0 H0.length [] H) (aq:H[q6]? =some [(.str x5.cv.au),(.str x5.cv.domain),(.int .i64 x5.state),(.int .i64 x5.tries),(.int .i64 x5.next),(.int .i64 x5.code),(.str x5.why)]) (eK:H0.length≤q6) {K:Exit→Env→AH→Prop}
 (kn:∀H':AH,Fr H0 H0.length [] H'→H'[q6]? =some [(.str x5.cv.au),(.str x5.cv.domain),(.int .i64 x5.state),(.int .i64 x5.tries),(.int .i64 x5.next),(.int .i64 x5.code),(.str x5.why)]→K .normal [(4,(.int .i64 qu)),(5,(.bool zH)),(7,(.ptr q6 0)),(9,(.sl .n 7 (ml aA e1.az))),(10,(.int .i64 (e1.az.length:Int))),(11,(.int .i64 t4)),(27,(.bool ((decide (x5.state=1))&&((!zH)||(decide (x5.next<qu))))))] H'):
 AX Tryz.prog zG 33 H0.length (erase yG) K [(4,(.int .i64 qu)),(5,(.bool zH)),(7,(.ptr q6 0)),(9,(.sl .n 7 (ml aA e1.az))),(10,(.int .i64 (e1.az.length:Int))),(11,(.int .i64 t4))] H:=by
 refine dn fun K' hK=> ?_
 have hle:=hfr.le
 have cE:=aL aq
 refine aE aq ?_
 refine kj (fun bw=> ?_) fun bw=> ?_
 · refine aE (aB bw aq) ?_
   refine kj (fun bu=> ?_) fun bu=> ?_
   · refine aE (aB bu aq) ?_
     exact hK _ _ _ _ _ (dy (aB bw bu)) ax (kn _ hfr (aq.trans rfl))
   · refine aE (aB bu aq) ?_
     exact hK _ _ _ _ _ (dy (aB bw bu)) ax (kn _ hfr (aq.trans rfl))
 · refine aE (aB bw aq) ?_
   exact hK _ _ _ _ _ (dy bw) ax (kn _ hfr (aq.trans rfl))
theorem Fe {F:Nat} {t4:Int} {e1:ak} {zH:Bool} {qu:Int} {H0 H:AH} (hfr:Fr H0 H0.length [] H) {K:Exit→Env→AH→Prop} {o:(Int×Bool)⊕(Int×Bool)}
 (h:iter (lK e1) F (qu,zH,t4)=some o)
 (di:∀o':Int×Bool,o= .inr o'→∀H':AH,Fr H0 H0.length [] H'→K (.exit 0) [(4,(.int .i64 o'.1)),(5,(.bool o'.2))] H'):
 AX Tryz.prog zG 33 H0.length (.loop (erase wT)) K [(4,(.int .i64 qu)),(5,(.bool zH)),(9,(.sl .n 7 (ml aA e1.az))),(10,(.int .i64 (e1.az.length:Int))),(11,(.int .i64 t4))] H:=by
 refine ja (fun s e H1=>match s with|(qu,zH,t4)=>e=[(4,(.int .i64 qu)),(5,(.bool zH)),(9,(.sl .n 7 (ml aA e1.az))),(10,(.int .i64 (e1.az.length:Int))),(11,(.int .i64 t4))]∧Fr H0 H0.length [] H1) h ⟨rfl,hfr⟩ ?_
 rintro K' ⟨qu,zH,t4⟩ st e H ⟨rfl,hfr⟩ h hN hB hR hX
 have hle:=hfr.le
 rw [lK.eq_1] at h
 refine bR ?_
 refine bX h (fun hy1 h=> ?_) fun hy1 h=> ?_
 · obtain ⟨x5,bh,h⟩:=ay h
   refine aE bh ?_
   obtain ⟨q6,Ff⟩:∃q:Nat,H.length=q:=⟨_,rfl⟩
   try rw [Ff]
   refine cg ax (Fb (qu:=qu) (zH:=zH) (q6:=q6) (e1:=e1) (t4:=t4) (x5:=x5) (bn _ (Fr.app hfr)) bL br ?_)
   intro H hfr aq
   have hle:=hfr.le
   have cE:=aL aq
   refine aE aq ?_
   refine bX h (fun bV h=> ?_) fun bV h=> ?_
   · refine aE aq ?_
     obtain rfl:=aJ h
     exact hN _ rfl _ _ _ _ aX ax ⟨rfl,hfr⟩
   · refine aE aq ?_
     obtain rfl:=aJ h
     exact hN _ rfl _ _ _ _ aX ax ⟨rfl,hfr⟩
 · refine bR ?_
   obtain rfl:=aJ h
   exact hX _ _ _ _ _ eI aX ax (di _ (hB _ rfl) _ hfr)
theorem wU {F:Nat} {e1:ak} {H0:AH} {aM:Int} {cD:Bool} (h:qv F e1=some (aM,cD)):
 aG Tryz.prog 11 [(.agg [(.str e1.av.au),(.str e1.av.domain),(.int .i64 e1.born),(.int .i64 e1.size),(.int .u32 e1.sum),(.sl .n 7 (ml aA e1.az))])] H0 fun v H'=>v=(.bM [(.int .i64 aM),(.bool cD)])∧H'=H0:=by
 refine ec OG zG [] fun hcl K0 aO H hH hfr=> ?_
 clear hH
 have hle:=hfr.le
 rw [qv.eq_1] at h
 refine bR ?_
 obtain ⟨Ls,cu,h⟩:=ay h
 refine cg ax (Fe (Fr.app hfr) cu ?_)
 · rintro ⟨Wo,Wp⟩ rfl H hfr
   try dsimp only at h
   have hle:=hfr.le
   refine bR ?_
   obtain ⟨rfl,rfl⟩:=dm h
   exact aO _ _ _ bE (bp hfr hcl (bC (bC bx (.bool Wp)) (.int .i64 Wo)) bA bt ⟨rfl,rfl⟩)
abbrev oM:aD:=(.seq (.rg [(aj 14 (.bin .lss (.t 13) (.t 12)))]) (.seq (.cond (.t 14) .skip (.exit 0)) (.seq (.blk 1 (.seq (.rg [(aC 15 13),(bk 5 15)]) (.seq (.rg [(aC 16 0),(aC 17 5),(aj 18 (.ku 7 (.t 16) (.t 17))),(aj 19 (.ld (.t 18) (some 7))),(aC 20 1),(aC 21 5),(aj 22 (.ku 7 (.t 20) (.t 21))),(aj 23 (.ld (.t 22) (some 7))),(aj 24 (.seq [.s, .s, .i, .i, .i, .i, .s] true (.t 19) (.t 23)))]) (.cond (.t 24) (.seq (.rg [(aj 4 (.bf (.c (.bool false))))]) .ret) .skip)))) (.rg [(aj 25 (.bin .add (.t 13) (.c (.int .i64 1)))),(aC 13 25)]))))
abbrev Dw:aD:=(.seq (.rg [(aj 4 (.bf (.c (.bool false))))]) (.seq (.seq (.rg [(aC 6 0),(aj 7 (.len (.t 6))),(aC 8 1),(aj 9 (.len (.t 8))),(aj 10 (.bin .neq (.t 7) (.t 9)))]) (.cond (.t 10) (.seq (.rg [(aj 4 (.bf (.c (.bool false))))]) .ret) .skip)) (.seq (.seq (.rg [(aC 11 0),(aj 12 (.len (.t 11))),(aj 13 (.mv (.c (.int .i64 0))))]) (.blk 0 (.loop (erase oM)))) (.seq (.rg [(aj 4 (.bf (.c (.bool true))))]) .ret))))
theorem Dx:bz Tryz.prog 54 26 [(.tmp 4)] (erase Dw):=⟨Tryz.f54,_,rfl,by decide,rfl,by kernel_rfl,rfl,rfl⟩
abbrev ve:List Nat:=[0,1,4,5,10,12,13,14,24]
def eN (s1:List aW) (s2:List aW):(Bool×Int)→Option (St Bool Unit (Bool×Int))
 |(t3,t4)=>
  (if (decide (t4<(s1.length:Int))) then
   (idx s1 t4).bind fun x5=>
   (idx s2 t4).bind fun x6=>
   (if (!(decide (x5.cv.au=x6.cv.au)&&(decide (x5.cv.domain=x6.cv.domain)&&(decide (x5.state=x6.state)&&(decide (x5.tries=x6.tries)&&(decide (x5.next=x6.next)&&(decide (x5.code=x6.code)&&decide (x5.why=x6.why)))))))) then
    some (.ret false)
   else
    some (.cK (t3,(IntKind.wrap .i64 (t4+1)))))
  else
   some (.fF ()))
def kN (F:Nat) (s1:List aW) (s2:List aW):Option (Bool):=
 (if (!decide ((s1.length:Int)=(s2.length:Int))) then
  some false
 else
  ((iter (eN s1 s2) F (false,0)).bind fun o9=>
  match o9 with
  | .inr ()=>
    some true
  | .inl r8=>
    some r8))
theorem xZ {F:Nat} {t4:Int} {s1:List aW} {s2:List aW} {t3:Bool} {H:AH} {K:Exit→Env→AH→Prop} {o:(Bool)⊕(Unit)}
 (h:iter (eN s1 s2) F (t3,t4)=some o)
 (di:∀o':Unit,o= .inr o'→K (.exit 0) [] H)
 (kr:∀o':Bool,o= .inl o'→K .ret [(4,(.bool o'))] H):
 AX Tryz.prog ve 26 H.length (.loop (erase oM)) K [(0,(.sl .n 7 (ml aA s1))),(1,(.sl .n 7 (ml aA s2))),(4,(.bool t3)),(12,(.int .i64 (s1.length:Int))),(13,(.int .i64 t4))] H:=by
 refine ja (fun s e H1=>match s with|(t3,t4)=>e=[(0,(.sl .n 7 (ml aA s1))),(1,(.sl .n 7 (ml aA s2))),(4,(.bool t3)),(12,(.int .i64 (s1.length:Int))),(13,(.int .i64 t4))]∧H1=H) h ⟨rfl,rfl⟩ ?_
 rintro K' ⟨t3,t4⟩ st e H ⟨rfl,rfl⟩ h hN hB hR hX
 rw [eN.eq_1] at h
 refine aS ?_
 refine bX h (fun bh h=> ?_) fun bh h=> ?_
 · obtain ⟨x5,bw,h⟩:=ay h
   obtain ⟨x6,bu,h⟩:=ay h
   refine bO (aB bw bu) ?_
   refine bX h (fun bV h=> ?_) fun bV h=> ?_
   · refine aS ?_
     obtain rfl:=aJ h
     exact hX _ _ _ _ _ eI aX ax (kr _ (hR _ rfl))
   · refine aS ?_
     obtain rfl:=aJ h
     exact hN _ rfl _ _ _ _ aX ax ⟨rfl,rfl⟩
 · refine aS ?_
   obtain rfl:=aJ h
   exact hX _ _ _ _ _ eI WE.nil ax (di _ (hB _ rfl))
theorem Cq {F:Nat} {s1:List aW} {s2:List aW} {H0:AH} {aM:Bool} (h:kN F s1 s2=some aM):
 aG Tryz.prog 54 [(.sl .n 7 (ml aA s1)),(.sl .n 7 (ml aA s2))] H0 fun v H'=>v=(.bool aM)∧H'=H0:=by
 refine gD Dx ve fun hcl K0 aO=> ?_
 rw [kN.eq_1] at h
 refine aS ?_
 refine bX h (fun hy1 h=> ?_) fun hy1 h=> ?_
 · refine aS ?_
   obtain rfl:=aJ h
   exact aO _ _ _ bE (aZ hcl (bC bx (.bool false)) bA bt ⟨rfl,rfl⟩)
 · refine aS ?_
   obtain ⟨o9,cu,h⟩:=ay h
   refine cg ax (xZ cu ?_ ?_)
   · rintro ⟨⟩ rfl
     try dsimp only at h
     refine aS ?_
     obtain rfl:=aJ h
     exact aO _ _ _ bE (aZ hcl (bC bx (.bool true)) bA bt ⟨rfl,rfl⟩)
   · rintro r8 rfl
     try dsimp only at h
     refine aS ?_
     obtain rfl:=aJ h
     exact aO _ _ _ bE (aZ hcl (bC bx (.bool r8)) bA bt ⟨rfl,rfl⟩)
abbrev wV:aD:=(.rg ((aj 5 (.aV (.t 2) 0))::(aj 6 (.ld (.t 5) (some 2)))::(aj 7 (.aV (.t 3) 0))::(aj 8 (.ld (.t 7) (some 2)))::(aj 9 (.seq [.s, .s] false (.t 6) (.t 8)))::(aC 10 9)::(aF 11 (.aV (.t 2) 2) 10 true)::(aF 12 (.ld (.t 11) none) 10 true)::(aF 13 (.aV (.t 3) 2) 10 true)::(aF 14 (.ld (.t 13) none) 10 true)::(aF 15 (.bin .eql (.t 12) (.t 14)) 10 true)::(aj 16 (.pick (.t 10) (.t 15) (.c (.bool false))))::(aC 17 16)::(aF 18 (.aV (.t 2) 3) 17 true)::(aF 19 (.ld (.t 18) none) 17 true)::(aF 20 (.aV (.t 3) 3) 17 true)::(aF 21 (.ld (.t 20) none) 17 true)::(aF 22 (.bin .eql (.t 19) (.t 21)) 17 true)::(aj 23 (.pick (.t 17) (.t 22) (.c (.bool false))))::(aC 24 23)::(aF 25 (.aV (.t 2) 4) 24 true)::(aF 26 (.ld (.t 25) none) 24 true)::(aF 27 (.aV (.t 3) 4) 24 true)::(aF 28 (.ld (.t 27) none) 24 true)::(aF 29 (.bin .eql (.t 26) (.t 28)) 24 true)::(aj 30 (.pick (.t 24) (.t 29) (.c (.bool false))))::(aC 31 30)::(aF 32 (.aV (.t 2) 5) 31 true)::(aF 33 (.ld (.t 32) none) 31 true)::(aF 34 (.aV (.t 3) 5) 31 true)::(aF 35 (.ld (.t 34) none) 31 true)::(aF 36 (.call (.c (.fn 54 [])) [(.t 33),(.t 35)]) 31 true)::(aj 37 (.pick (.t 31) (.t 36) (.c (.bool false))))::(bk 4 37)::[]))
abbrev Lt:aD:=(.seq (.rg [(aj 2 (.box (.t 0))),(aj 3 (.box (.t 1))),(aj 4 (.bf (.c (.bool false))))]) (.seq (.sem (erase wV)) .ret))
theorem Lu:bz Tryz.prog 19 38 [(.tmp 4)] (erase Lt):=⟨Tryz.f19,_,rfl,by decide,rfl,by kernel_rfl,rfl,rfl⟩
abbrev CX:List Nat:=[0,1,2,3,4]
def pG (F:Nat) (a1:ak) (b2:ak):Option (Bool):=
 (if (decide (a1.av.au=b2.av.au)&&decide (a1.av.domain=b2.av.domain)) then
  (if (decide (a1.born=b2.born)) then
   (if (decide (a1.size=b2.size)) then
    (if (decide (a1.sum=b2.sum)) then
     (kN F a1.az b2.az).bind fun r5=>some r5
    else
     some false)
   else
    some false)
  else
   some false)
 else
  some false)
def lM (F:Nat) (a1:ak) (b2:ak):Option (Bool):=
 (pG F a1 b2).bind fun t7=>
 some t7
theorem Dy {F:Nat} {a1:ak} {b2:ak} {q3:Nat} {q4:Nat} {H0 H:AH} (hfr:Fr H0 H0.length [] H) (ai:H[q3]? =some [(.str a1.av.au),(.str a1.av.domain),(.int .i64 a1.born),(.int .i64 a1.size),(.int .u32 a1.sum),(.sl .n 7 (ml aA a1.az))]) (aq:H[q4]? =some [(.str b2.av.au),(.str b2.av.domain),(.int .i64 b2.born),(.int .i64 b2.size),(.int .u32 b2.sum),(.sl .n 7 (ml aA b2.az))]) (eK:H0.length≤q3) (hi1:H0.length≤q4) (hi2:q3≠q4) {K:Exit→Env→AH→Prop} {t6:Bool}
 (h:pG F a1 b2=some t6)
 (kn:∀H':AH,Fr H0 H0.length [] H'→H'[q3]? =some [(.str a1.av.au),(.str a1.av.domain),(.int .i64 a1.born),(.int .i64 a1.size),(.int .u32 a1.sum),(.sl .n 7 (ml aA a1.az))]→H'[q4]? =some [(.str b2.av.au),(.str b2.av.domain),(.int .i64 b2.born),(.int .i64 b2.size),(.int .u32 b2.sum),(.sl .n 7 (ml aA b2.az))]→K .normal [(4,(.bool t6))] H'):
 AX Tryz.prog CX 38 H0.length (erase wV) K [(2,(.ptr q3 0)),(3,(.ptr q4 0)),(4,(.bool false))] H:=by
 refine dn fun K' hK=> ?_
 have hle:=hfr.le
 have aU:=aL ai
 have cE:=aL aq
 rw [pG.eq_1] at h
 refine aE (aB ai aq) ?_
 refine ck h (fun hy1 h=> ?_) fun hy1 h=> ?_
 · refine aE (aB hy1 (aB ai aq)) ?_
   refine ck h (fun bh h=> ?_) fun bh h=> ?_
   · refine aE (aB bh (aB ai aq)) ?_
     refine ck h (fun bw h=> ?_) fun bw h=> ?_
     · refine aE (aB bw (aB ai aq)) ?_
       refine ck h (fun bu h=> ?_) fun bu h=> ?_
       · refine aE (aB bu (aB ai aq)) ?_
         obtain ⟨r5,bV,h⟩:=ay h
         refine bg ax (Cq bV) ?_
         refine aE (aB ai aq) ?_
         obtain rfl:=aJ h
         exact hK _ _ _ _ _ aX ax (kn _ hfr (ai.trans rfl) (aq.trans rfl))
       · refine aE (aB bu (aB ai aq)) ?_
         obtain rfl:=aJ h
         exact hK _ _ _ _ _ aX ax (kn _ hfr (ai.trans rfl) (aq.trans rfl))
     · refine aE (aB bw (aB ai aq)) ?_
       obtain rfl:=aJ h
       exact hK _ _ _ _ _ aX ax (kn _ hfr (ai.trans rfl) (aq.trans rfl))
   · refine aE (aB bh (aB ai aq)) ?_
     obtain rfl:=aJ h
     exact hK _ _ _ _ _ aX ax (kn _ hfr (ai.trans rfl) (aq.trans rfl))
 · refine aE (aB hy1 (aB ai aq)) ?_
   obtain rfl:=aJ h
   exact hK _ _ _ _ _ aX ax (kn _ hfr (ai.trans rfl) (aq.trans rfl))
theorem pH {F:Nat} {a1:ak} {b2:ak} {H0:AH} {aM:Bool} (h:lM F a1 b2=some aM):
 aG Tryz.prog 19 [(.agg [(.str a1.av.au),(.str a1.av.domain),(.int .i64 a1.born),(.int .i64 a1.size),(.int .u32 a1.sum),(.sl .n 7 (ml aA a1.az))]),(.agg [(.str b2.av.au),(.str b2.av.domain),(.int .i64 b2.born),(.int .i64 b2.size),(.int .u32 b2.sum),(.sl .n 7 (ml aA b2.az))])] H0 fun v H'=>v=(.bool aM)∧H'=H0:=by
 refine ec Lu CX [] fun hcl K0 aO H hH hfr=> ?_
 clear hH
 have hle:=hfr.le
 rw [lM.eq_1] at h
 refine bR ?_
 obtain ⟨q4,uB⟩:∃q:Nat,(H.length+1)=q:=⟨_,rfl⟩
 try rw [uB]
 obtain ⟨q3,y9⟩:∃q:Nat,H.length=q:=⟨_,rfl⟩
 try rw [y9]
 try rw [show q3+1=q4 from by omega]
 obtain ⟨t7,cu,h⟩:=ay h
 refine cg ax (Dy (q3:=q3) (q4:=q4) (Fr.app (Fr.app hfr)) (ez kg) kg br br br cu ?_)
 intro H hfr ai aq
 have hle:=hfr.le
 have aU:=aL ai
 have cE:=aL aq
 refine aE (aB ai aq) ?_
 obtain rfl:=aJ h
 exact aO _ _ _ bE (bp hfr hcl (bC bx (.bool t7)) bA bt ⟨rfl,rfl⟩)
abbrev vf:aD:=(.seq (.rg [(aj 10 (.bin .lss (.t 9) (.t 8)))]) (.seq (.cond (.t 10) .skip (.exit 0)) (.seq (.blk 1 (.seq (.rg [(aj 11 (.ku 7 (.t 7) (.t 9))),(aj 12 (.ld (.t 11) (some 7))),(aj 5 (.alloc [(.str []),(.str []),(.int .i64 0),(.int .i64 0),(.int .i64 0),(.int .i64 0),(.str [])])),(cU (.st (.t 5) (.t 12) 7))]) (.seq (.rg [(aj 13 (.aV (.t 5) 2)),(aj 14 (.ld (.t 13) none)),(aj 15 (.bin .eql (.t 14) (.c (.int .i64 1))))]) (.cond (.t 15) (.rg [(aC 16 3),(aj 17 (.bin .add (.t 16) (.c (.int .i64 1)))),(bk 3 17)]) .skip)))) (.rg [(aj 18 (.bin .add (.t 9) (.c (.int .i64 1)))),(aC 9 18)]))))
abbrev Lv:aD:=(.seq (.rg [(aj 1 (.box (.t 0))),(aj 2 (.bf (.c (.int .i64 0))))]) (.seq (.rg [(aj 3 (.bf (.c (.int .i64 0))))]) (.seq (.seq (.rg [(aj 6 (.aV (.t 1) 5)),(aj 7 (.ld (.t 6) none)),(aj 8 (.len (.t 7))),(aj 9 (.mv (.c (.int .i64 0))))]) (.blk 0 (.loop (erase vf)))) (.seq (.rg [(aC 19 3),(bk 2 19)]) .ret))))
theorem Lw:bz Tryz.prog 16 20 [(.tmp 2)] (erase Lv):=⟨Tryz.f16,_,rfl,by decide,rfl,by kernel_rfl,rfl,rfl⟩
abbrev CY:List Nat:=[0,1,2,3,5,7,8,9,10,15]
def jP (e1:ak):(Int×Int)→Option (St Int Int (Int×Int))
 |(Jm,t3)=>
  (if (decide (t3<(e1.az.length:Int))) then
   (idx e1.az t3).bind fun x4=>
   (if (decide (x4.state=1)) then
    some (.cK ((IntKind.wrap .i64 (Jm+1)),(IntKind.wrap .i64 (t3+1))))
   else
    some (.cK (Jm,(IntKind.wrap .i64 (t3+1)))))
  else
   some (.fF Jm))
def nH (F:Nat) (e1:ak):Option (Int):=
 ((iter (jP e1) F (0,0)).bind fun o7=>
 match o7 with
 | .inr nn6=>
   some nn6
 | .inl _=>none)
theorem Dz {F:Nat} {t3:Int} {e1:ak} {Jm:Int} {H0 H:AH} (hfr:Fr H0 H0.length [] H) {K:Exit→Env→AH→Prop} {o:(Int)⊕(Int)}
 (h:iter (jP e1) F (Jm,t3)=some o)
 (di:∀o':Int,o= .inr o'→∀H':AH,Fr H0 H0.length [] H'→K (.exit 0) [(3,(.int .i64 o'))] H'):
 AX Tryz.prog CY 20 H0.length (.loop (erase vf)) K [(3,(.int .i64 Jm)),(7,(.sl .n 7 (ml aA e1.az))),(8,(.int .i64 (e1.az.length:Int))),(9,(.int .i64 t3))] H:=by
 refine ja (fun s e H1=>match s with|(Jm,t3)=>e=[(3,(.int .i64 Jm)),(7,(.sl .n 7 (ml aA e1.az))),(8,(.int .i64 (e1.az.length:Int))),(9,(.int .i64 t3))]∧Fr H0 H0.length [] H1) h ⟨rfl,hfr⟩ ?_
 rintro K' ⟨Jm,t3⟩ st e H ⟨rfl,hfr⟩ h hN hB hR hX
 have hle:=hfr.le
 rw [jP.eq_1] at h
 refine bR ?_
 refine bX h (fun hy1 h=> ?_) fun hy1 h=> ?_
 · obtain ⟨x4,bh,h⟩:=ay h
   refine aE bh ?_
   refine bX h (fun bw h=> ?_) fun bw h=> ?_
   · refine bR ?_
     obtain rfl:=aJ h
     exact hN _ rfl _ _ _ _ aX ax ⟨rfl,(bn _ (Fr.app hfr))⟩
   · refine bR ?_
     obtain rfl:=aJ h
     exact hN _ rfl _ _ _ _ aX ax ⟨rfl,(bn _ (Fr.app hfr))⟩
 · refine bR ?_
   obtain rfl:=aJ h
   exact hX _ _ _ _ _ eI aX ax (di _ (hB _ rfl) _ hfr)
theorem uG {F:Nat} {e1:ak} {H0:AH} {aM:Int} (h:nH F e1=some aM):
 aG Tryz.prog 16 [(.agg [(.str e1.av.au),(.str e1.av.domain),(.int .i64 e1.born),(.int .i64 e1.size),(.int .u32 e1.sum),(.sl .n 7 (ml aA e1.az))])] H0 fun v H'=>v=(.int .i64 aM)∧H'=H0:=by
 refine ec Lw CY [] fun hcl K0 aO H hH hfr=> ?_
 clear hH
 have hle:=hfr.le
 rw [nH.eq_1] at h
 refine bR ?_
 obtain ⟨o7,bu,h⟩:=ay h
 refine cg ax (Dz (Fr.app hfr) bu ?_)
 · rintro nn6 rfl H hfr
   try dsimp only at h
   have hle:=hfr.le
   refine bR ?_
   obtain rfl:=aJ h
   exact aO _ _ _ bE (bp hfr hcl (bC bx (.int .i64 nn6)) bA bt ⟨rfl,rfl⟩)
abbrev Bj:aD:=(.rg [(aj 20 (.ld (.t 1) (some 6))),(aj 21 (.call (.c (.fn 10 [])) [(.t 20)])),(aj 22 (.call (.c (.fn 18 [])) [(.t 21)])),(aC 19 22),(aj 23 (.ext (.t 19) 0)),(aj 24 (.ext (.t 19) 1)),(aj 2 (.alloc [(.str []),(.str []),(.int .i64 0),(.int .i64 0),(.int .u32 0),(.sl .ex 7 [])])),(cU (.st (.t 2) (.t 23) 6)),(bk 3 24)])
abbrev rZ:aD:=(.rg [(aj 30 (.ld (.t 1) (some 6))),(aj 31 (.call (.c (.fn 13 [])) [(.t 30)])),(aC 32 31),(aF 33 (.mv (.t 3)) 32 true),(aF 34 (.bin .eql (.t 33) (.c (.int .i64 0))) 32 true),(aj 35 (.pick (.t 32) (.t 34) (.c (.bool false)))),(aC 36 35),(aF 37 (.ld (.t 2) (some 6)) 36 true),(aF 38 (.ld (.t 1) (some 6)) 36 true),(aF 39 (.call (.c (.fn 19 [])) [(.t 37),(.t 38)]) 36 true),(aj 40 (.pick (.t 36) (.t 39) (.c (.bool false)))),(aC 41 40),(aF 42 (.mv (.t 4)) 41 true),(aF 43 (.bin .eql (.t 42) (.c (.int .i64 12))) 41 true),(aj 44 (.pick (.t 41) (.t 43) (.c (.bool false)))),(aC 45 44),(aF 46 (.mv (.t 5)) 45 true),(aj 47 (.pick (.t 45) (.t 46) (.c (.bool false)))),(aC 48 47),(aF 49 (.ld (.t 1) (some 6)) 48 true),(aF 50 (.call (.c (.fn 16 [])) [(.t 49)]) 48 true),(aF 51 (.bin .eql (.t 50) (.c (.int .i64 1))) 48 true),(aj 52 (.pick (.t 48) (.t 51) (.c (.bool false)))),(bk 0 52)])
abbrev Fg:aD:=(.seq (.rg [(aj 0 (.bf (.c (.bool false))))]) (.seq (.rg [(aj 6 (.build [(.str []),(.str []),(.int .i64 0),(.int .i64 0),(.int .i64 0),(.int .i64 0),(.str [])] [(2,(1,(.c (.int .i64 1)))),(4,(1,(.c (.int .i64 12))))])),(aj 7 (.pQ 7 [(.t 6)])),(aj 8 (.build [(.str []),(.str []),(.int .i64 0),(.int .i64 0),(.int .u32 0),(.sl .ex 7 [])] [(2,(1,(.c (.int .i64 5)))),(3,(1,(.c (.int .i64 9)))),(4,(1,(.c (.int .u32 7)))),(5,(1,(.t 7)))])),(aj 1 (.alloc [(.str []),(.str []),(.int .i64 0),(.int .i64 0),(.int .u32 0),(.sl .ex 7 [])])),(cU (.st (.t 1) (.t 8) 6))]) (.seq (.rg [(aj 9 (.aV (.t 1) 5)),(aj 10 (.ld (.t 9) none)),(aj 11 (.ku 7 (.t 10) (.c (.int .i64 0)))),(aj 12 (.aV (.t 11) 0)),(aj 13 (.aV (.t 12) 0)),(cU (.st (.t 13) (.c (.str [97])) 1))]) (.seq (.rg [(aj 14 (.aV (.t 1) 5)),(aj 15 (.ld (.t 14) none)),(aj 16 (.ku 7 (.t 15) (.c (.int .i64 0)))),(aj 17 (.aV (.t 16) 0)),(aj 18 (.aV (.t 17) 1)),(cU (.st (.t 18) (.c (.str [98])) 1))]) (.seq (.sem (erase Bj)) (.seq (.rg [(aj 26 (.ld (.t 1) (some 6))),(aj 27 (.call (.c (.fn 11 [])) [(.t 26)])),(aC 25 27),(aj 28 (.ext (.t 25) 0)),(aj 29 (.ext (.t 25) 1)),(bk 4 28),(bk 5 29)]) (.seq (.sem (erase rZ)) .ret)))))))
theorem Fh:bz Tryz.prog 7 53 [(.tmp 0)] (erase Fg):=⟨Tryz.f7,_,rfl,by decide,rfl,by kernel_rfl,rfl,rfl⟩
abbrev wW:List Nat:=[0,1,2,3,4,5]
def kX (F:Nat) (r3:Int) (r2:ak) (r4:Int) (r5:Bool):Option (Bool):=
 (iw F (ak.mk (aH.mk ([]:List UInt8) ([]:List UInt8)) 5 9 7 ([(aW.mk (aH.mk ([97]:List UInt8) ([98]:List UInt8)) 1 0 12 0 ([]:List UInt8))]:List aW))).bind fun r8=>
 (if r8 then
  (if (decide (r3=0)) then
   (lM F r2 (ak.mk (aH.mk ([]:List UInt8) ([]:List UInt8)) 5 9 7 ([(aW.mk (aH.mk ([97]:List UInt8) ([98]:List UInt8)) 1 0 12 0 ([]:List UInt8))]:List aW))).bind fun r9=>
   (if r9 then
    (if (decide (r4=12)) then
     (if r5 then
      (nH F (ak.mk (aH.mk ([]:List UInt8) ([]:List UInt8)) 5 9 7 ([(aW.mk (aH.mk ([97]:List UInt8) ([98]:List UInt8)) 1 0 12 0 ([]:List UInt8))]:List aW))).bind fun lW=>some (decide (lW=1))
     else
      some false)
    else
     some false)
   else
    some false)
  else
   some false)
 else
  some false)
def iA (F:Nat):Option (Bool):=
 (jx F (ak.mk (aH.mk ([]:List UInt8) ([]:List UInt8)) 5 9 7 ([(aW.mk (aH.mk ([97]:List UInt8) ([98]:List UInt8)) 1 0 12 0 ([]:List UInt8))]:List aW))).bind fun r1=>
 (ic F r1).bind fun (r2,r3)=>
 (qv F (ak.mk (aH.mk ([]:List UInt8) ([]:List UInt8)) 5 9 7 ([(aW.mk (aH.mk ([97]:List UInt8) ([98]:List UInt8)) 1 0 12 0 ([]:List UInt8))]:List aW))).bind fun (r4,r5)=>(kX F r3 r2 r4 r5).bind fun t12=>
 some t12
theorem zI {F:Nat} {r3:Int} {r2:ak} {r4:Int} {r5:Bool} {q6:Nat} {q7:Nat} {H0 H:AH} (hfr:Fr H0 H0.length [] H) (aq:H[q6]? =some [(.str ([]:List UInt8)),(.str ([]:List UInt8)),(.int .i64 5),(.int .i64 9),(.int .u32 7),(.sl .n 7 (ml aA ([(aW.mk (aH.mk ([97]:List UInt8) ([98]:List UInt8)) 1 0 12 0 ([]:List UInt8))]:List aW)))]) (aR:H[q7]? =some [(.str r2.av.au),(.str r2.av.domain),(.int .i64 r2.born),(.int .i64 r2.size),(.int .u32 r2.sum),(.sl .n 7 (ml aA r2.az))]) (eK:H0.length≤q6) (hi1:H0.length≤q7) (hi2:q6≠q7) {K:Exit→Env→AH→Prop} {t11:Bool}
 (h:kX F r3 r2 r4 r5=some t11)
 (kn:∀H':AH,Fr H0 H0.length [] H'→H'[q6]? =some [(.str ([]:List UInt8)),(.str ([]:List UInt8)),(.int .i64 5),(.int .i64 9),(.int .u32 7),(.sl .n 7 (ml aA ([(aW.mk (aH.mk ([97]:List UInt8) ([98]:List UInt8)) 1 0 12 0 ([]:List UInt8))]:List aW)))]→H'[q7]? =some [(.str r2.av.au),(.str r2.av.domain),(.int .i64 r2.born),(.int .i64 r2.size),(.int .u32 r2.sum),(.sl .n 7 (ml aA r2.az))]→K .normal [(0,(.bool t11))] H'):
 AX Tryz.prog wW 53 H0.length (erase rZ) K [(0,(.bool false)),(1,(.ptr q6 0)),(2,(.ptr q7 0)),(3,(.int .i64 r3)),(4,(.int .i64 r4)),(5,(.bool r5))] H:=by
 refine dn fun K' hK=> ?_
 have hle:=hfr.le
 have cE:=aL aq
 have lA:=aL aR
 rw [kX.eq_1] at h
 refine aE (aB aq aR) ?_
 obtain ⟨r8,cu,h⟩:=ay h
 refine bg ax (kJ cu) ?_
 refine aE (aB aq aR) ?_
 refine ck h (fun dw h=> ?_) fun dw h=> ?_
 · refine aE (aB dw (aB aq aR)) ?_
   refine ck h (fun dD h=> ?_) fun dD h=> ?_
   · refine aE (aB dD (aB aq aR)) ?_
     obtain ⟨r9,eB,h⟩:=ay h
     refine bg ax (pH eB) ?_
     refine aE (aB aq aR) ?_
     refine ck h (fun cY h=> ?_) fun cY h=> ?_
     · refine aE (aB cY (aB aq aR)) ?_
       refine ck h (fun cG h=> ?_) fun cG h=> ?_
       · refine aE (aB cG (aB aq aR)) ?_
         refine ck h (fun ei h=> ?_) fun ei h=> ?_
         · refine aE (aB ei (aB aq aR)) ?_
           obtain ⟨lW,cZ,h⟩:=ay h
           refine bg ax (uG cZ) ?_
           refine aE (aB aq aR) ?_
           obtain rfl:=aJ h
           exact hK _ _ _ _ _ aX ax (kn _ hfr (aq.trans rfl) (aR.trans rfl))
         · refine aE (aB ei (aB aq aR)) ?_
           obtain rfl:=aJ h
           exact hK _ _ _ _ _ aX ax (kn _ hfr (aq.trans rfl) (aR.trans rfl))
       · refine aE (aB cG (aB aq aR)) ?_
         obtain rfl:=aJ h
         exact hK _ _ _ _ _ aX ax (kn _ hfr (aq.trans rfl) (aR.trans rfl))
     · refine aE (aB cY (aB aq aR)) ?_
       obtain rfl:=aJ h
       exact hK _ _ _ _ _ aX ax (kn _ hfr (aq.trans rfl) (aR.trans rfl))
   · refine aE (aB dD (aB aq aR)) ?_
     obtain rfl:=aJ h
     exact hK _ _ _ _ _ aX ax (kn _ hfr (aq.trans rfl) (aR.trans rfl))
 · refine aE (aB dw (aB aq aR)) ?_
   obtain rfl:=aJ h
   exact hK _ _ _ _ _ aX ax (kn _ hfr (aq.trans rfl) (aR.trans rfl))
theorem oD {F:Nat} {H0:AH} {aM:Bool} (h:iA F=some aM):
 aG Tryz.prog 7 [] H0 fun v H'=>v=(.bool aM)∧H'=H0:=by
 refine ec Fh wW [] fun hcl K0 aO H hH hfr=> ?_
 clear hH
 have hle:=hfr.le
 rw [iA.eq_1] at h
 have hy1:∀(L:List Nat) (e:Env) (ah:AH) (d:Option Nat),tB L e ah d 7 (.cJ H.length 7 0 1) (.int .i64 0)=some (aK L e d (.ptr H.length 0),ah):=fun _ _ _ _=>Wa (j:=0) rfl
 have bh:∀(L:List Nat) (e:Env) (ah:AH) (d:Option Nat),tB L e ah d 7 (.cJ H.length 7 0 1) (.int .i64 0)=some (aK L e d (.ptr H.length 0),ah):=fun _ _ _ _=>Wa (j:=0) rfl
 refine aE (aB hy1 bh) ?_
 refine Ov ?_
 apply AX.AE (s:=H.length) (s2:=(H.length+1)) (cs:=[(.str ([97]:List UInt8)),(.str ([98]:List UInt8)),(.int .i64 1),(.int .i64 0),(.int .i64 12),(.int .i64 0),(.str ([]:List UInt8))]) (zs:=[(.str ([]:List UInt8)),(.str ([]:List UInt8)),(.int .i64 5),(.int .i64 9),(.int .u32 7),(.cJ H.length 7 0 1)]) (zs':=[(.str ([]:List UInt8)),(.str ([]:List UInt8)),(.int .i64 5),(.int .i64 9),(.int .u32 7),(.sl .n 7 (ml aA ([(aW.mk (aH.mk ([97]:List UInt8) ([98]:List UInt8)) 1 0 12 0 ([]:List UInt8))]:List aW)))]) (by exact bL) (cx.same (cx.same (cx.same (cx.same (cx.same (cx.same (cx.same (cx.nil)))))))) (by simp) (by exact (aY (aY bL))) (by omega) (vu.cons _ _ _ _ (Fc.same _) (vu.cons _ _ _ _ (Fc.same _) (vu.cons _ _ _ _ (Fc.same _) (vu.cons _ _ _ _ (Fc.same _) (vu.cons _ _ _ _ (Fc.same _) (vu.cons _ _ _ _ (Fc.cJ 7 1 (ml aA ([(aW.mk (aH.mk ([97]:List UInt8) ([98]:List UInt8)) 1 0 12 0 ([]:List UInt8))]:List aW)) rfl (fun i x hi=>((EK.ml (f:=aA) (fun _=>⟨rfl,rfl,rfl,rfl⟩) _) i x hi).1) rfl rfl rfl) (vu.nil)))))))
 · repeat (first|exact FZ.nil|apply FZ.ep|apply FZ.same)
 refine dn fun Kq3 aei=> ?_
 refine bR ?_
 obtain ⟨r1,bw,h⟩:=ay h
 refine bg ax (qn bw) ?_
 refine bR ?_
 obtain ⟨⟨r2,r3⟩,bu,h⟩:=ay h
 dsimp only at h
 refine bg ax (qt bu) ?_
 refine bR ?_
 refine aei _ _ _ [(0,(.bool false)),(1,(.ptr (H.length+1) 0)),(2,(.ptr (H.length+2) 0)),(3,(.int .i64 r3))] _ aX ax ?_
 show GZ _
 refine bR ?_
 obtain ⟨⟨r4,r5⟩,bV,h⟩:=ay h
 dsimp only at h
 refine bg ax (wU bV) ?_
 refine bR ?_
 obtain ⟨q6,Ff⟩:∃q:Nat,(H.length+1)=q:=⟨_,rfl⟩
 try rw [Ff]
 obtain ⟨q7,ab2⟩:∃q:Nat,(H.length+2)=q:=⟨_,rfl⟩
 try rw [ab2]
 try rw [show q6+1=q7 from by omega]
 obtain ⟨t12,fV,h⟩:=ay h
 refine cg ax (zI (q6:=q6) (q7:=q7) (bn _ (Fr.app (bn _ (bn _ (bn _ (bn _ (bn _ (Fr.app (Fr.app hfr))))))))) (aY (ez bL)) bL br br br fV ?_)
 intro H hfr aq aR
 have hle:=hfr.le
 have cE:=aL aq
 have lA:=aL aR
 refine aE (aB aq aR) ?_
 obtain rfl:=aJ h
 exact aO _ _ _ bE (bp hfr hcl (bC bx (.bool t12)) bA bt ⟨rfl,rfl⟩)
abbrev vg:aD:=(.rg [(aj 3 (.aV (.t 1) 0)),(aj 4 (.ld (.t 3) none)),(aj 5 (.lens (.t 4))),(aj 6 (.bin .leq (.t 5) (.c (.int .i64 400)))),(aC 7 6),(aF 8 (.aV (.t 1) 1) 7 true),(aF 9 (.ld (.t 8) none) 7 true),(aF 10 (.lens (.t 9)) 7 true),(aF 11 (.bin .leq (.t 10) (.c (.int .i64 600))) 7 true),(aj 12 (.pick (.t 7) (.t 11) (.c (.bool false)))),(bk 2 12)])
abbrev Jn:aD:=(.seq (.rg [(aj 1 (.box (.t 0))),(aj 2 (.bf (.c (.bool false))))]) (.seq (.sem (erase vg)) .ret))
theorem Jo:bz Tryz.prog 22 13 [(.tmp 2)] (erase Jn):=⟨Tryz.f22,_,rfl,by decide,rfl,by kernel_rfl,rfl,rfl⟩
abbrev Bk:List Nat:=[0,1,2]
def lB (a1:aH):Option (Bool):=
 some ((decide ((a1.au.length:Int)≤400))&&(decide ((a1.domain.length:Int)≤600)))
theorem Cr {q2:Nat} {a1:aH} {H0 H:AH} (hfr:Fr H0 H0.length [] H) (ai:H[q2]? =some [(.str a1.au),(.str a1.domain)]) (eK:H0.length≤q2) {K:Exit→Env→AH→Prop}
 (kn:∀H':AH,Fr H0 H0.length [] H'→H'[q2]? =some [(.str a1.au),(.str a1.domain)]→K .normal [(2,(.bool ((decide ((a1.au.length:Int)≤400))&&(decide ((a1.domain.length:Int)≤600)))))] H'):
 AX Tryz.prog Bk 13 H0.length (erase vg) K [(1,(.ptr q2 0)),(2,(.bool false))] H:=by
 refine dn fun K' hK=> ?_
 have hle:=hfr.le
 have aU:=aL ai
 refine aE ai ?_
 refine kj (fun hy1=> ?_) fun hy1=> ?_
 · refine aE (aB hy1 ai) ?_
   exact hK _ _ _ _ _ (dy hy1) ax (kn _ hfr (ai.trans rfl))
 · refine aE (aB hy1 ai) ?_
   exact hK _ _ _ _ _ (dy hy1) ax (kn _ hfr (ai.trans rfl))
theorem yH {a1:aH} {H0:AH} {aM:Bool} (h:lB a1=some aM):
 aG Tryz.prog 22 [(.agg [(.str a1.au),(.str a1.domain)])] H0 fun v H'=>v=(.bool aM)∧H'=H0:=by
 refine ec Jo Bk [] fun hcl K0 aO H hH hfr=> ?_
 clear hH
 have hle:=hfr.le
 rw [lB.eq_1] at h
 refine bR ?_
 obtain ⟨q2,eL⟩:∃q:Nat,H.length=q:=⟨_,rfl⟩
 try rw [eL]
 refine cg ax (Cr (q2:=q2) (a1:=a1) (Fr.app hfr) kg br ?_)
 intro H hfr ai
 have hle:=hfr.le
 have aU:=aL ai
 refine aE ai ?_
 obtain rfl:=aJ h
 exact aO _ _ _ bE (bp hfr hcl (bC bx (.bool ((decide ((a1.au.length:Int)≤400))&&(decide ((a1.domain.length:Int)≤600))))) bA bt ⟨rfl,rfl⟩)
abbrev vh:aD:=(.rg [(aj 4 (.aV (.t 1) 5)),(aj 5 (.ld (.t 4) none)),(aj 6 (.len (.t 5))),(aj 7 (.bin .gtr (.t 6) (.c (.int .i64 120)))),(aC 8 7),(aF 9 (.aV (.t 1) 0) 8 false),(aF 10 (.ld (.t 9) (some 2)) 8 false),(aF 11 (.call (.c (.fn 22 [])) [(.t 10)]) 8 false),(aF 12 (.un .not (.t 11)) 8 false),(aj 13 (.pick (.t 8) (.c (.bool true)) (.t 12)))])
abbrev vi:aD:=(.rg [(aj 21 (.aV (.t 1) 5)),(aj 22 (.ld (.t 21) none)),(aC 23 3),(aj 24 (.ku 7 (.t 22) (.t 23))),(aj 25 (.aV (.t 24) 0)),(aj 26 (.ld (.t 25) (some 2))),(aj 27 (.call (.c (.fn 22 [])) [(.t 26)])),(aj 28 (.un .not (.t 27))),(aC 29 28),(aF 30 (.aV (.t 1) 5) 29 false),(aF 31 (.ld (.t 30) none) 29 false),(aF 32 (.mv (.t 3)) 29 false),(aF 33 (.ku 7 (.t 31) (.t 32)) 29 false),(aF 34 (.aV (.t 33) 6) 29 false),(aF 35 (.ld (.t 34) none) 29 false),(aF 36 (.lens (.t 35)) 29 false),(aF 37 (.bin .gtr (.t 36) (.c (.int .i64 300))) 29 false),(aj 38 (.pick (.t 29) (.c (.bool true)) (.t 37)))])
abbrev tP:aD:=(.seq (.seq (.rg [(aC 14 3),(aj 15 (.aV (.t 1) 5)),(aj 16 (.ld (.t 15) none)),(aj 17 (.len (.t 16))),(aj 18 (.bin .lss (.t 14) (.t 17)))]) (.cond (.t 18) .skip (.exit 0))) (.seq (.blk 1 (.seq (.sem (erase vi)) (.cond (.t 38) (.seq (.rg [(aj 2 (.bf (.c (.bool false))))]) .ret) .skip))) (.rg [(aC 19 3),(aj 20 (.bin .add (.t 19) (.c (.int .i64 1)))),(bk 3 20)])))
abbrev Jp:aD:=(.seq (.rg [(aj 1 (.box (.t 0))),(aj 2 (.bf (.c (.bool false))))]) (.seq (.seq (.sem (erase vh)) (.cond (.t 13) (.seq (.rg [(aj 2 (.bf (.c (.bool false))))]) .ret) .skip)) (.seq (.seq (.rg [(aj 3 (.bf (.c (.int .i64 0))))]) (.blk 0 (.loop (erase tP)))) (.seq (.rg [(aj 2 (.bf (.c (.bool true))))]) .ret))))
theorem Jq:bz Tryz.prog 8 39 [(.tmp 2)] (erase Jp):=⟨Tryz.f8,_,rfl,by decide,rfl,by kernel_rfl,rfl,rfl⟩
abbrev pI:List Nat:=[0,1,2,3,13,18,38]
def nT (e1:ak):Option (Bool):=
 (if (decide (120<(e1.az.length:Int))) then
  some true
 else
  (lB e1.av).bind fun r3=>some (!r3))
def kO (e1:ak) (i7:Int):Option (Bool):=
 (idx e1.az i7).bind fun x9=>
 (lB x9.cv).bind fun lW=>
 (if (!lW) then
  some true
 else
  some (decide (300<(x9.why.length:Int))))
def gG (e1:ak):Int→Option (St Bool Unit Int)
 |i7=>
  (if (decide (i7<(e1.az.length:Int))) then
   (kO e1 i7).bind fun t12=>
   (if t12 then
    some (.ret false)
   else
    some (.cK (IntKind.wrap .i64 (i7+1))))
  else
   some (.fF ()))
def lC (F:Nat) (e1:ak):Option (Bool):=
 (nT e1).bind fun t5=>
 (if t5 then
  some false
 else
  ((iter (gG e1) F 0).bind fun o15=>
  match o15 with
  | .inr ()=>
    some true
  | .inl kP=>
    some kP))
theorem Cs {e1:ak} {q2:Nat} {H0 H:AH} (hfr:Fr H0 H0.length [] H) (ai:H[q2]? =some [(.str e1.av.au),(.str e1.av.domain),(.int .i64 e1.born),(.int .i64 e1.size),(.int .u32 e1.sum),(.sl .n 7 (ml aA e1.az))]) (eK:H0.length≤q2) {K:Exit→Env→AH→Prop} {t4:Bool}
 (h:nT e1=some t4)
 (kn:∀H':AH,Fr H0 H0.length [] H'→H'[q2]? =some [(.str e1.av.au),(.str e1.av.domain),(.int .i64 e1.born),(.int .i64 e1.size),(.int .u32 e1.sum),(.sl .n 7 (ml aA e1.az))]→K .normal [(1,(.ptr q2 0)),(13,(.bool t4))] H'):
 AX Tryz.prog pI 39 H0.length (erase vh) K [(1,(.ptr q2 0))] H:=by
 refine dn fun K' hK=> ?_
 have hle:=hfr.le
 have aU:=aL ai
 rw [nT.eq_1] at h
 refine aE ai ?_
 refine ck h (fun hy1 h=> ?_) fun hy1 h=> ?_
 · refine aE (aB hy1 ai) ?_
   obtain rfl:=aJ h
   exact hK _ _ _ _ _ aX ax (kn _ hfr (ai.trans rfl))
 · refine aE (aB hy1 ai) ?_
   obtain ⟨r3,bh,h⟩:=ay h
   refine bg ax (yH bh) ?_
   refine aE ai ?_
   obtain rfl:=aJ h
   exact hK _ _ _ _ _ aX ax (kn _ hfr (ai.trans rfl))
theorem Ct {e1:ak} {i7:Int} {q8:Nat} {H0 H:AH} (hfr:Fr H0 H0.length [] H) (ai:H[q8]? =some [(.str e1.av.au),(.str e1.av.domain),(.int .i64 e1.born),(.int .i64 e1.size),(.int .u32 e1.sum),(.sl .n 7 (ml aA e1.az))]) (eK:H0.length≤q8) {K:Exit→Env→AH→Prop} {t11:Bool}
 (h:kO e1 i7=some t11)
 (kn:∀H':AH,Fr H0 H0.length [] H'→H'[q8]? =some [(.str e1.av.au),(.str e1.av.domain),(.int .i64 e1.born),(.int .i64 e1.size),(.int .u32 e1.sum),(.sl .n 7 (ml aA e1.az))]→K .normal [(1,(.ptr q8 0)),(3,(.int .i64 i7)),(38,(.bool t11))] H'):
 AX Tryz.prog pI 39 H0.length (erase vi) K [(1,(.ptr q8 0)),(3,(.int .i64 i7))] H:=by
 refine dn fun K' hK=> ?_
 have hle:=hfr.le
 have aU:=aL ai
 rw [kO.eq_1] at h
 obtain ⟨x9,cu,h⟩:=ay h
 refine aE (aB cu ai) ?_
 obtain ⟨lW,dw,h⟩:=ay h
 refine bg ax (yH dw) ?_
 refine aE ai ?_
 refine ck h (fun dD h=> ?_) fun dD h=> ?_
 · refine aE (aB dD ai) ?_
   obtain rfl:=aJ h
   exact hK _ _ _ _ _ aX ax (kn _ hfr (ai.trans rfl))
 · refine aE (aB dD (aB cu ai)) ?_
   obtain rfl:=aJ h
   exact hK _ _ _ _ _ aX ax (kn _ hfr (ai.trans rfl))
theorem Cu {F:Nat} {i7:Int} {e1:ak} {q6:Nat} {H0 H:AH} (hfr:Fr H0 H0.length [] H) (ai:H[q6]? =some [(.str e1.av.au),(.str e1.av.domain),(.int .i64 e1.born),(.int .i64 e1.size),(.int .u32 e1.sum),(.sl .n 7 (ml aA e1.az))]) (eK:H0.length≤q6) {K:Exit→Env→AH→Prop} {o:(Bool)⊕(Unit)}
 (h:iter (gG e1) F i7=some o)
 (di:∀o':Unit,o= .inr o'→∀H':AH,Fr H0 H0.length [] H'→H'[q6]? =some [(.str e1.av.au),(.str e1.av.domain),(.int .i64 e1.born),(.int .i64 e1.size),(.int .u32 e1.sum),(.sl .n 7 (ml aA e1.az))]→K (.exit 0) [] H')
 (kr:∀o':Bool,o= .inl o'→∀H':AH,Fr H0 H0.length [] H'→K .ret [(2,(.bool o'))] H'):
 AX Tryz.prog pI 39 H0.length (.loop (erase tP)) K [(1,(.ptr q6 0)),(3,(.int .i64 i7))] H:=by
 refine ja (fun s e H1=>match s with|i7=>e=[(1,(.ptr q6 0)),(3,(.int .i64 i7))]∧Fr H0 H0.length [] H1∧H1[q6]? =some [(.str e1.av.au),(.str e1.av.domain),(.int .i64 e1.born),(.int .i64 e1.size),(.int .u32 e1.sum),(.sl .n 7 (ml aA e1.az))]) h ⟨rfl,hfr,ai⟩ ?_
 rintro K' i7 st e H ⟨rfl,hfr,ai⟩ h hN hB hR hX
 have hle:=hfr.le
 have aU:=aL ai
 rw [gG.eq_1] at h
 refine aE ai ?_
 refine bX h (fun bV h=> ?_) fun bV h=> ?_
 · refine aE ai ?_
   obtain ⟨t12,eB,h⟩:=ay h
   refine cg ax (Ct (q8:=q6) hfr (ai.trans rfl) br eB ?_)
   intro H hfr ai
   have hle:=hfr.le
   have aU:=aL ai
   refine aE ai ?_
   refine bX h (fun cY h=> ?_) fun cY h=> ?_
   · refine aE ai ?_
     obtain rfl:=aJ h
     exact hX _ _ _ _ _ eI aX ax (kr _ (hR _ rfl) _ hfr)
   · refine aE ai ?_
     obtain rfl:=aJ h
     exact hN _ rfl _ _ _ _ aX ax ⟨rfl,hfr,(ai.trans rfl)⟩
 · refine aE ai ?_
   obtain rfl:=aJ h
   exact hX _ _ _ _ _ eI WE.nil ax (di _ (hB _ rfl) _ hfr (ai.trans rfl))
theorem s3 {F:Nat} {e1:ak} {H0:AH} {aM:Bool} (h:lC F e1=some aM):
 aG Tryz.prog 8 [(.agg [(.str e1.av.au),(.str e1.av.domain),(.int .i64 e1.born),(.int .i64 e1.size),(.int .u32 e1.sum),(.sl .n 7 (ml aA e1.az))])] H0 fun v H'=>v=(.bool aM)∧H'=H0:=by
 refine ec Jq pI [] fun hcl K0 aO H hH hfr=> ?_
 clear hH
 have hle:=hfr.le
 rw [lC.eq_1] at h
 refine bR ?_
 obtain ⟨q2,eL⟩:∃q:Nat,H.length=q:=⟨_,rfl⟩
 try rw [eL]
 obtain ⟨t5,bw,h⟩:=ay h
 refine cg ax (Cs (q2:=q2) (Fr.app hfr) kg br bw ?_)
 intro H hfr ai
 have hle:=hfr.le
 have aU:=aL ai
 refine aE ai ?_
 refine bX h (fun bu h=> ?_) fun bu h=> ?_
 · refine aE ai ?_
   obtain rfl:=aJ h
   exact aO _ _ _ bE (bp hfr hcl (bC bx (.bool false)) bA bt ⟨rfl,rfl⟩)
 · refine aE ai ?_
   obtain ⟨o15,cG,h⟩:=ay h
   refine cg ax (Cu (q6:=q2) hfr (ai.trans rfl) br cG ?_ ?_)
   · rintro ⟨⟩ rfl H hfr ai
     try dsimp only at h ai
     have hle:=hfr.le
     have aU:=aL ai
     refine aE ai ?_
     obtain rfl:=aJ h
     exact aO _ _ _ bE (bp hfr hcl (bC bx (.bool true)) bA bt ⟨rfl,rfl⟩)
   · rintro kP rfl H hfr
     try dsimp only at h
     have hle:=hfr.le
     refine bR ?_
     obtain rfl:=aJ h
     exact aO _ _ _ bE (bp hfr hcl (bC bx (.bool kP)) bA bt ⟨rfl,rfl⟩)
abbrev vj:aD:=(.seq (.seq (.rg [(aC 14 4),(aj 15 (.aV (.t 1) 5)),(aj 16 (.ld (.t 15) none)),(aj 17 (.len (.t 16))),(aj 18 (.bin .lss (.t 14) (.t 17)))]) (.cond (.t 18) .skip (.exit 0))) (.seq (.blk 1 (.rg [(aj 21 (.aV (.t 3) 5)),(aj 22 (.ld (.t 21) none)),(aj 23 (.aV (.t 1) 5)),(aj 24 (.ld (.t 23) none)),(aC 25 4),(aj 26 (.ku 7 (.t 24) (.t 25))),(aj 27 (.ld (.t 26) (some 7))),(aj 28 (.jE 7 [(.t 27)])),(aj 29 (.app 7 80 (.t 22) (.t 28))),(aj 30 (.aV (.t 3) 5)),(cU (.st (.t 30) (.t 29) 1))])) (.rg [(aC 19 4),(aj 20 (.bin .add (.t 19) (.c (.int .i64 1)))),(bk 4 20)])))
abbrev Lx:aD:=(.seq (.rg [(aj 1 (.box (.t 0))),(aj 2 (.alloc [(.str []),(.str []),(.int .i64 0),(.int .i64 0),(.int .u32 0),(.sl .ex 7 [])]))]) (.seq (.rg [(aj 5 (.aV (.t 1) 0)),(aj 6 (.ld (.t 5) (some 2))),(aj 7 (.aV (.t 1) 2)),(aj 8 (.ld (.t 7) none)),(aj 9 (.aV (.t 1) 3)),(aj 10 (.ld (.t 9) none)),(aj 11 (.aV (.t 1) 4)),(aj 12 (.ld (.t 11) none)),(aj 13 (.build [(.str []),(.str []),(.int .i64 0),(.int .i64 0),(.int .u32 0),(.sl .ex 7 [])] [(0,(2,(.t 6))),(2,(1,(.t 8))),(3,(1,(.t 10))),(4,(1,(.t 12)))])),(aj 3 (.alloc [(.str []),(.str []),(.int .i64 0),(.int .i64 0),(.int .u32 0),(.sl .ex 7 [])])),(cU (.st (.t 3) (.t 13) 6))]) (.seq (.seq (.rg [(aj 4 (.bf (.c (.int .i64 0))))]) (.blk 0 (.loop (erase vj)))) (.seq (.rg [(aj 31 (.ld (.t 3) (some 6))),(cU (.st (.t 2) (.t 31) 6))]) .ret))))
theorem Ly:bz Tryz.prog 9 32 [(.cell 2 32)] (erase Lx):=⟨Tryz.f9,_,rfl,by decide,rfl,by kernel_rfl,rfl,rfl⟩
abbrev CZ:List Nat:=[0,1,2,3,4,18]
def jQ (e1:ak):(Int×ak)→Option (St ak ak (Int×ak))
 |(i5,s6)=>
  (if (decide (i5<(e1.az.length:Int))) then
   (idx e1.az i5).bind fun x7=>
   (ct 80 s6.az ([x7]:List aW)).bind fun x8=>
   some (.cK ((IntKind.wrap .i64 (i5+1)),(ak.mk s6.av s6.born s6.size s6.sum x8)))
  else
   some (.fF s6))
def lN (F:Nat) (e1:ak):Option (ak):=
 ((iter (jQ e1) F (0,(ak.mk e1.av e1.born e1.size e1.sum ([]:List aW)))).bind fun Ls=>
 match Ls with
 | .inr wX=>
   some wX
 | .inl _=>none)
theorem DA {F:Nat} {i5:Int} {e1:ak} {s6:ak} {q2:Nat} {q3:Nat} {q4:Nat} {H0 H:AH} (hfr:Fr H0 H0.length [] H) (ai:H[q2]? =some [(.str e1.av.au),(.str e1.av.domain),(.int .i64 e1.born),(.int .i64 e1.size),(.int .u32 e1.sum),(.sl .n 7 (ml aA e1.az))]) (aq:H[q3]? =some [(.str ([]:List UInt8)),(.str ([]:List UInt8)),(.int .i64 0),(.int .i64 0),(.int .u32 0),(.sl .own 7 [])]) (aR:H[q4]? =some [(.str s6.av.au),(.str s6.av.domain),(.int .i64 s6.born),(.int .i64 s6.size),(.int .u32 s6.sum),(.sl .own 7 (ml aA s6.az))]) (eK:H0.length≤q2) (hi1:H0.length≤q3) (hi2:q2≠q3) (vB:H0.length≤q4) (hi4:q2≠q4) (OA:q3≠q4) {K:Exit→Env→AH→Prop} {o:(ak)⊕(ak)}
 (h:iter (jQ e1) F (i5,s6)=some o)
 (di:∀o':ak,o= .inr o'→∀H':AH,Fr H0 H0.length [] H'→H'[q2]? =some [(.str e1.av.au),(.str e1.av.domain),(.int .i64 e1.born),(.int .i64 e1.size),(.int .u32 e1.sum),(.sl .n 7 (ml aA e1.az))]→H'[q3]? =some [(.str ([]:List UInt8)),(.str ([]:List UInt8)),(.int .i64 0),(.int .i64 0),(.int .u32 0),(.sl .own 7 [])]→H'[q4]? =some [(.str o'.av.au),(.str o'.av.domain),(.int .i64 o'.born),(.int .i64 o'.size),(.int .u32 o'.sum),(.sl .own 7 (ml aA o'.az))]→K (.exit 0) [(2,(.ptr q3 0)),(3,(.ptr q4 0))] H'):
 AX Tryz.prog CZ 32 H0.length (.loop (erase vj)) K [(1,(.ptr q2 0)),(2,(.ptr q3 0)),(3,(.ptr q4 0)),(4,(.int .i64 i5))] H:=by
 refine ja (fun s e H1=>match s with|(i5,s6)=>e=[(1,(.ptr q2 0)),(2,(.ptr q3 0)),(3,(.ptr q4 0)),(4,(.int .i64 i5))]∧Fr H0 H0.length [] H1∧H1[q2]? =some [(.str e1.av.au),(.str e1.av.domain),(.int .i64 e1.born),(.int .i64 e1.size),(.int .u32 e1.sum),(.sl .n 7 (ml aA e1.az))]∧H1[q3]? =some [(.str ([]:List UInt8)),(.str ([]:List UInt8)),(.int .i64 0),(.int .i64 0),(.int .u32 0),(.sl .own 7 [])]∧H1[q4]? =some [(.str s6.av.au),(.str s6.av.domain),(.int .i64 s6.born),(.int .i64 s6.size),(.int .u32 s6.sum),(.sl .own 7 (ml aA s6.az))]) h ⟨rfl,hfr,ai,aq,aR⟩ ?_
 rintro K' ⟨i5,s6⟩ st e H ⟨rfl,hfr,ai,aq,aR⟩ h hN hB hR hX
 have hle:=hfr.le
 have aU:=aL ai
 have cE:=aL aq
 have lA:=aL aR
 rw [jQ.eq_1] at h
 refine aE (aB ai (aB aq aR)) ?_
 refine bX h (fun hy1 h=> ?_) fun hy1 h=> ?_
 · obtain ⟨x7,bh,h⟩:=ay h
   obtain ⟨x8,bw,h⟩:=ay h
   have bu:ct 80 (ml aA s6.az) [(.agg [(.str x7.cv.au),(.str x7.cv.domain),(.int .i64 x7.state),(.int .i64 x7.tries),(.int .i64 x7.next),(.int .i64 x7.code),(.str x7.why)])]=some (ml aA x8):=dI (f:=aA) bw
   refine aE (aB bh (aB bu (aB ai (aB aq aR)))) ?_
   obtain rfl:=aJ h
   exact hN _ rfl _ _ _ _ aX ax ⟨rfl,(bn _ (bn _ hfr)),(aY (aY (ai.trans rfl))),(aY (aY (aq.trans rfl))),bL⟩
 · refine aE (aB ai (aB aq aR)) ?_
   obtain rfl:=aJ h
   exact hX _ _ _ _ _ eI aX ax (di _ (hB _ rfl) _ hfr (ai.trans rfl) (aq.trans rfl) (aR.trans rfl))
theorem pJ {F:Nat} {e1:ak} {H0:AH} {aM:ak} (h:lN F e1=some aM):
 aG Tryz.prog 9 [(.agg [(.str e1.av.au),(.str e1.av.domain),(.int .i64 e1.born),(.int .i64 e1.size),(.int .u32 e1.sum),(.sl .n 7 (ml aA e1.az))])] H0 fun v H'=>v=(.agg [(.str aM.av.au),(.str aM.av.domain),(.int .i64 aM.born),(.int .i64 aM.size),(.int .u32 aM.sum),(.sl .n 7 (ml aA aM.az))])∧H'=H0:=by
 refine ec Ly CZ [] fun hcl K0 aO H hH hfr=> ?_
 clear hH
 have hle:=hfr.le
 rw [lN.eq_1] at h
 refine bR ?_
 obtain ⟨q3,y9⟩:∃q:Nat,(H.length+1)=q:=⟨_,rfl⟩
 try rw [y9]
 obtain ⟨q4,uB⟩:∃q:Nat,(H.length+2)=q:=⟨_,rfl⟩
 try rw [uB]
 obtain ⟨q2,eL⟩:∃q:Nat,H.length=q:=⟨_,rfl⟩
 try rw [eL]
 try rw [show q2+1=q3 from by omega]
 try rw [show q3+1=q4 from by omega]
 obtain ⟨Ls,bV,h⟩:=ay h
 refine cg (eV.PN (q:=q4) (cs':=[(.str e1.av.au),(.str e1.av.domain),(.int .i64 e1.born),(.int .i64 e1.size),(.int .u32 e1.sum),(.sl .own 7 [])]) (eV.set (q:=q3) (cs':=[(.str ([]:List UInt8)),(.str ([]:List UInt8)),(.int .i64 0),(.int .i64 0),(.int .u32 0),(.sl .own 7 [])]) (aY (ez kg)) gC) bL gC) (DA (q2:=q2) (q3:=q3) (q4:=q4) (bn _ (bn _ (bn _ (Fr.app (Fr.app (Fr.app hfr)))))) (aY (aY (aY (ez (ez kg))))) (aY bL) bL br br br br br br bV ?_)
 · rintro wX rfl H hfr ai aq aR
   try dsimp only at h ai aq aR
   have hle:=hfr.le
   have aU:=aL ai
   have cE:=aL aq
   have lA:=aL aR
   refine aE (aB ai (aB aq aR)) ?_
   obtain rfl:=aJ h
   exact aO _ _ _ bE (bp (bn _ hfr) hcl (gB (cs:=[(.str wX.av.au),(.str wX.av.domain),(.int .i64 wX.born),(.int .i64 wX.size),(.int .u32 wX.sum),(.sl .n 7 (ml aA wX.az))]) (v:=(.agg [(.str wX.av.au),(.str wX.av.domain),(.int .i64 wX.born),(.int .i64 wX.size),(.int .u32 wX.sum),(.sl .n 7 (ml aA wX.az))])) (by kernel_rfl) (n:=(some 6)) (by kernel_rfl) rfl bL (by simp [jm,jl,lV,b5,AV.flat,nM,ox,AV.bT,Tg.sh]) bx) bA bt ⟨rfl,rfl⟩)
abbrev sg:aD:=(.rg [(aC 4 0),(aj 5 (.bin .eql (.t 4) (.c (.str [])))),(aC 6 5),(aF 7 (.mv (.t 0)) 6 false),(aF 8 (.lens (.t 7)) 6 false),(aF 9 (.bin .gtr (.t 8) (.c (.int .i64 64))) 6 false),(aj 10 (.pick (.t 6) (.c (.bool true)) (.t 9)))])
abbrev sj:aD:=(.rg [(aC 17 0),(aC 18 3),(aj 19 (.ixs (.t 17) (.t 18))),(aj 20 (.bin .lss (.t 19) (.c (b8 32)))),(aC 21 20),(aF 22 (.mv (.t 0)) 21 false),(aF 23 (.mv (.t 3)) 21 false),(aF 24 (.ixs (.t 22) (.t 23)) 21 false),(aF 25 (.bin .gtr (.t 24) (.c (b8 126))) 21 false),(aj 26 (.pick (.t 21) (.c (.bool true)) (.t 25)))])
abbrev qw:aD:=(.seq (.seq (.rg [(aC 11 3),(aC 12 0),(aj 13 (.lens (.t 12))),(aj 14 (.bin .lss (.t 11) (.t 13)))]) (.cond (.t 14) .skip (.exit 0))) (.seq (.blk 1 (.seq (.sem (erase sj)) (.cond (.t 26) (.seq (.rg [(aj 2 (.bf (.c (.bool false))))]) .ret) .skip))) (.rg [(aC 15 3),(aj 16 (.bin .add (.t 15) (.c (.int .i64 1)))),(bk 3 16)])))
abbrev Fi:aD:=(.seq (.rg [(aj 2 (.bf (.c (.bool false))))]) (.seq (.seq (.sem (erase sg)) (.cond (.t 10) (.seq (.rg [(aj 2 (.bf (.c (.bool false))))]) .ret) .skip)) (.seq (.seq (.rg [(aj 3 (.bf (.c (.int .i64 0))))]) (.blk 0 (.loop (erase qw)))) (.seq (.rg [(aj 2 (.bf (.c (.bool true))))]) .ret))))
theorem Fj:bz Tryz.prog 67 27 [(.tmp 2)] (erase Fi):=⟨Tryz.f67,_,rfl,by decide,rfl,by kernel_rfl,rfl,rfl⟩
abbrev mD:List Nat:=[0,2,3,10,14,26]
def iL (s1:List UInt8) (i2:Int):Option (Bool):=
 (idx s1 i2).bind fun x3=>
 (if (decide (x3<32)) then
  some true
 else
  some (decide (126<x3)))
def fj (s1:List UInt8):Int→Option (St Bool Unit Int)
 |i2=>
  (if (decide (i2<(s1.length:Int))) then
   (iL s1 i2).bind fun t5=>
   (if t5 then
    some (.ret false)
   else
    some (.cK (IntKind.wrap .i64 (i2+1))))
  else
   some (.fF ()))
def mE (F:Nat) (s1:List UInt8):Option (Bool):=
 (if ((decide (s1=([]:List UInt8)))||(decide (64<(s1.length:Int)))) then
  some false
 else
  ((iter (fj s1) F 0).bind fun o8=>
  match o8 with
  | .inr ()=>
    some true
  | .inl r7=>
    some r7))
theorem zJ {s1:List UInt8} {H:AH} {K:Exit→Env→AH→Prop}
 (kn:K .normal [(0,(.str s1)),(10,(.bool ((decide (s1=([]:List UInt8)))||(decide (64<(s1.length:Int))))))] H):
 AX Tryz.prog mD 27 H.length (erase sg) K [(0,(.str s1))] H:=by
 refine dn fun K' hK=> ?_
 refine aS ?_
 refine kj (fun hy1=> ?_) fun hy1=> ?_
 · refine bO hy1 ?_
   exact hK _ _ _ _ _ (dy hy1) ax kn
 · refine bO hy1 ?_
   exact hK _ _ _ _ _ (dy hy1) ax kn
theorem zK {s1:List UInt8} {i2:Int} {H:AH} {K:Exit→Env→AH→Prop} {t4:Bool}
 (h:iL s1 i2=some t4)
 (kn:K .normal [(0,(.str s1)),(3,(.int .i64 i2)),(26,(.bool t4))] H):
 AX Tryz.prog mD 27 H.length (erase sj) K [(0,(.str s1)),(3,(.int .i64 i2))] H:=by
 refine dn fun K' hK=> ?_
 rw [iL.eq_1] at h
 obtain ⟨x3,bu,h⟩:=ay h
 refine bO bu ?_
 refine ck h (fun bV h=> ?_) fun bV h=> ?_
 · refine bO bV ?_
   obtain rfl:=aJ h
   exact hK _ _ _ _ _ aX ax kn
 · refine bO (aB bV bu) ?_
   obtain rfl:=aJ h
   exact hK _ _ _ _ _ aX ax kn
theorem zL {F:Nat} {i2:Int} {s1:List UInt8} {H:AH} {K:Exit→Env→AH→Prop} {o:(Bool)⊕(Unit)}
 (h:iter (fj s1) F i2=some o)
 (di:∀o':Unit,o= .inr o'→K (.exit 0) [] H)
 (kr:∀o':Bool,o= .inl o'→K .ret [(2,(.bool o'))] H):
 AX Tryz.prog mD 27 H.length (.loop (erase qw)) K [(0,(.str s1)),(3,(.int .i64 i2))] H:=by
 refine ja (fun s e H1=>match s with|i2=>e=[(0,(.str s1)),(3,(.int .i64 i2))]∧H1=H) h ⟨rfl,rfl⟩ ?_
 rintro K' i2 st e H ⟨rfl,rfl⟩ h hN hB hR hX
 rw [fj.eq_1] at h
 refine aS ?_
 refine bX h (fun bw h=> ?_) fun bw h=> ?_
 · refine aS ?_
   obtain ⟨t5,cu,h⟩:=ay h
   refine cg ax (zK cu ?_)
   refine aS ?_
   refine bX h (fun dw h=> ?_) fun dw h=> ?_
   · refine aS ?_
     obtain rfl:=aJ h
     exact hX _ _ _ _ _ eI aX ax (kr _ (hR _ rfl))
   · refine aS ?_
     obtain rfl:=aJ h
     exact hN _ rfl _ _ _ _ aX ax ⟨rfl,rfl⟩
 · refine aS ?_
   obtain rfl:=aJ h
   exact hX _ _ _ _ _ eI WE.nil ax (di _ (hB _ rfl))
theorem DB {F:Nat} {s1:List UInt8} {H0:AH} {aM:Bool} (h:mE F s1=some aM):
 aG Tryz.prog 67 [(.str s1)] H0 fun v H'=>v=(.bool aM)∧H'=H0:=by
 refine gD Fj mD fun hcl K0 aO=> ?_
 rw [mE.eq_1] at h
 refine aS ?_
 refine cg ax (zJ (s1:=s1) ?_)
 refine aS ?_
 refine bX h (fun bh h=> ?_) fun bh h=> ?_
 · refine aS ?_
   obtain rfl:=aJ h
   exact aO _ _ _ bE (aZ hcl (bC bx (.bool false)) bA bt ⟨rfl,rfl⟩)
 · refine aS ?_
   obtain ⟨o8,dD,h⟩:=ay h
   refine cg ax (zL dD ?_ ?_)
   · rintro ⟨⟩ rfl
     try dsimp only at h
     refine aS ?_
     obtain rfl:=aJ h
     exact aO _ _ _ bE (aZ hcl (bC bx (.bool true)) bA bt ⟨rfl,rfl⟩)
   · rintro r7 rfl
     try dsimp only at h
     refine aS ?_
     obtain rfl:=aJ h
     exact aO _ _ _ bE (aZ hcl (bC bx (.bool r7)) bA bt ⟨rfl,rfl⟩)
abbrev sn:aD:=(.rg [(aC 3 0),(aj 4 (.bin .geq (.t 3) (.c (b8 48)))),(aC 5 4),(aF 6 (.mv (.t 0)) 5 true),(aF 7 (.bin .leq (.t 6) (.c (b8 57))) 5 true),(aj 8 (.pick (.t 5) (.t 7) (.c (.bool false)))),(bk 2 8)])
abbrev Fk:aD:=(.seq (.rg [(aj 2 (.bf (.c (.bool false))))]) (.seq (.sem (erase sn)) .ret))
theorem Fl:bz Tryz.prog 94 9 [(.tmp 2)] (erase Fk):=⟨Tryz.f94,_,rfl,by decide,rfl,by kernel_rfl,rfl,rfl⟩
abbrev wY:List Nat:=[0,2]
def iB (c1:UInt8):Option (Bool):=
 some ((decide (48≤c1))&&(decide (c1≤57)))
theorem zM {c1:UInt8} {H:AH} {K:Exit→Env→AH→Prop}
 (kn:K .normal [(2,(.bool ((decide (48≤c1))&&(decide (c1≤57)))))] H):
 AX Tryz.prog wY 9 H.length (erase sn) K [(0,(b8 c1)),(2,(.bool false))] H:=by
 refine dn fun K' hK=> ?_
 refine aS ?_
 refine kj (fun hy1=> ?_) fun hy1=> ?_
 · refine bO hy1 ?_
   exact hK _ _ _ _ _ (dy hy1) ax kn
 · refine bO hy1 ?_
   exact hK _ _ _ _ _ (dy hy1) ax kn
theorem oE {c1:UInt8} {H0:AH} {aM:Bool} (h:iB c1=some aM):
 aG Tryz.prog 94 [(b8 c1)] H0 fun v H'=>v=(.bool aM)∧H'=H0:=by
 refine gD Fl wY fun hcl K0 aO=> ?_
 rw [iB.eq_1] at h
 refine aS ?_
 refine cg ax (zM (c1:=c1) ?_)
 refine aS ?_
 obtain rfl:=aJ h
 exact aO _ _ _ bE (aZ hcl (bC bx (.bool ((decide (48≤c1))&&(decide (c1≤57))))) bA bt ⟨rfl,rfl⟩)
abbrev sr:aD:=(.rg [(aC 5 0),(aj 6 (.bin .eql (.t 5) (.c (.str [])))),(aC 7 6),(aF 8 (.mv (.t 0)) 7 false),(aF 9 (.lens (.t 8)) 7 false),(aF 10 (.bin .gtr (.t 9) (.c (.int .i64 3))) 7 false),(aj 11 (.pick (.t 7) (.c (.bool true)) (.t 10))),(aC 12 11),(aF 13 (.mv (.t 0)) 12 false),(aF 14 (.ixs (.t 13) (.c (.int .i64 0))) 12 false),(aF 15 (.bin .eql (.t 14) (.c (b8 48))) 12 false),(aF 16 (.mv (.t 15)) 12 false),(aF 17 (.mv (.t 0)) 16 true),(aF 18 (.lens (.t 17)) 16 true),(aF 19 (.bin .gtr (.t 18) (.c (.int .i64 1))) 16 true),(aF 20 (.pick (.t 16) (.t 19) (.c (.bool false))) 12 false),(aj 21 (.pick (.t 12) (.c (.bool true)) (.t 20)))])
abbrev qx:aD:=(.seq (.seq (.rg [(aC 22 4),(aC 23 0),(aj 24 (.lens (.t 23))),(aj 25 (.bin .lss (.t 22) (.t 24)))]) (.cond (.t 25) .skip (.exit 0))) (.seq (.blk 1 (.seq (.seq (.rg [(aC 28 0),(aC 29 4),(aj 30 (.ixs (.t 28) (.t 29))),(aj 31 (.call (.c (.fn 94 [])) [(.t 30)])),(aj 32 (.un .not (.t 31)))]) (.cond (.t 32) (.seq (.rg [(aj 2 (.bf (.c (.bool false))))]) .ret) .skip)) (.rg [(aC 33 3),(aj 34 (.bin .mul (.c (.int .i64 10)) (.t 33))),(aC 35 0),(aC 36 4),(aj 37 (.ixs (.t 35) (.t 36))),(aj 38 (.bin .sub (.t 37) (.c (b8 48)))),(aj 39 (.dX (.int .i64) (.t 38))),(aj 40 (.bin .add (.t 34) (.t 39))),(bk 3 40)]))) (.rg [(aC 26 4),(aj 27 (.bin .add (.t 26) (.c (.int .i64 1)))),(bk 4 27)])))
abbrev Fm:aD:=(.seq (.rg [(aj 2 (.bf (.c (.bool false))))]) (.seq (.seq (.sem (erase sr)) (.cond (.t 21) (.seq (.rg [(aj 2 (.bf (.c (.bool false))))]) .ret) .skip)) (.seq (.rg [(aj 3 (.bf (.c (.int .i64 0))))]) (.seq (.seq (.rg [(aj 4 (.bf (.c (.int .i64 0))))]) (.blk 0 (.loop (erase qx)))) (.seq (.rg [(aC 41 3),(aj 42 (.bin .leq (.t 41) (.c (.int .i64 255)))),(bk 2 42)]) .ret)))))
theorem Fo:bz Tryz.prog 82 43 [(.tmp 2)] (erase Fm):=⟨Tryz.f82,_,rfl,by decide,rfl,by kernel_rfl,rfl,rfl⟩
abbrev qy:List Nat:=[0,2,3,4,21,25,32]
def fk (s1:List UInt8):Option (Bool):=
 (if (decide (s1=([]:List UInt8))) then
  some true
 else
  (if (decide (3<(s1.length:Int))) then
   some true
  else
   (idx s1 0).bind fun x2=>
   (if (decide (x2=48)) then
    some (decide (1<(s1.length:Int)))
   else
    some false)))
def gq (s1:List UInt8):(Int×Int)→Option (St Bool Int (Int×Int))
 |(pK,i6)=>
  (if (decide (i6<(s1.length:Int))) then
   (idx s1 i6).bind fun x7=>
   (iB x7).bind fun r8=>
   (if (!r8) then
    some (.ret false)
   else
    some (.cK ((IntKind.wrap .i64 ((IntKind.wrap .i64 (10*pK))+(IntKind.wrap .i64 ((x7 - 48).toNat:Int)))),(IntKind.wrap .i64 (i6+1)))))
  else
   some (.fF pK))
def eS (F:Nat) (s1:List UInt8):Option (Bool):=
 (fk s1).bind fun t4=>
 (if t4 then
  some false
 else
  ((iter (gq s1) F (0,0)).bind fun Lz=>
  match Lz with
  | .inr Wq=>
    some (decide (Wq≤255))
  | .inl n6=>
    some n6))
theorem zN {s1:List UInt8} {H:AH} {K:Exit→Env→AH→Prop} {t3:Bool}
 (h:fk s1=some t3)
 (kn:K .normal [(0,(.str s1)),(21,(.bool t3))] H):
 AX Tryz.prog qy 43 H.length (erase sr) K [(0,(.str s1))] H:=by
 refine dn fun K' hK=> ?_
 rw [fk.eq_1] at h
 refine aS ?_
 refine ck h (fun hy1 h=> ?_) fun hy1 h=> ?_
 · refine bO hy1 ?_
   obtain rfl:=aJ h
   exact hK _ _ _ _ _ aX ax kn
 · refine bO hy1 ?_
   refine ck h (fun bh h=> ?_) fun bh h=> ?_
   · refine bO bh ?_
     obtain rfl:=aJ h
     exact hK _ _ _ _ _ aX ax kn
   · obtain ⟨x2,bw,h⟩:=ay h
     refine bO (aB bh bw) ?_
     refine ck h (fun bu h=> ?_) fun bu h=> ?_
     · refine bO bu ?_
       obtain rfl:=aJ h
       exact hK _ _ _ _ _ aX ax kn
     · refine bO bu ?_
       obtain rfl:=aJ h
       exact hK _ _ _ _ _ aX ax kn
theorem zO {F:Nat} {i6:Int} {s1:List UInt8} {pK:Int} {H:AH} {K:Exit→Env→AH→Prop} {o:(Bool)⊕(Int)}
 (h:iter (gq s1) F (pK,i6)=some o)
 (di:∀o':Int,o= .inr o'→K (.exit 0) [(3,(.int .i64 o'))] H)
 (kr:∀o':Bool,o= .inl o'→K .ret [(2,(.bool o'))] H):
 AX Tryz.prog qy 43 H.length (.loop (erase qx)) K [(0,(.str s1)),(3,(.int .i64 pK)),(4,(.int .i64 i6))] H:=by
 refine ja (fun s e H1=>match s with|(pK,i6)=>e=[(0,(.str s1)),(3,(.int .i64 pK)),(4,(.int .i64 i6))]∧H1=H) h ⟨rfl,rfl⟩ ?_
 rintro K' ⟨pK,i6⟩ st e H ⟨rfl,rfl⟩ h hN hB hR hX
 rw [gq.eq_1] at h
 refine aS ?_
 refine bX h (fun dw h=> ?_) fun dw h=> ?_
 · obtain ⟨x7,dD,h⟩:=ay h
   refine bO dD ?_
   obtain ⟨r8,eB,h⟩:=ay h
   refine bg ax (oE eB) ?_
   refine aS ?_
   refine bX h (fun cY h=> ?_) fun cY h=> ?_
   · refine aS ?_
     obtain rfl:=aJ h
     exact hX _ _ _ _ _ eI aX ax (kr _ (hR _ rfl))
   · refine bO dD ?_
     obtain rfl:=aJ h
     exact hN _ rfl _ _ _ _ aX ax ⟨rfl,rfl⟩
 · refine aS ?_
   obtain rfl:=aJ h
   exact hX _ _ _ _ _ eI aX ax (di _ (hB _ rfl))
theorem DC {F:Nat} {s1:List UInt8} {H0:AH} {aM:Bool} (h:eS F s1=some aM):
 aG Tryz.prog 82 [(.str s1)] H0 fun v H'=>v=(.bool aM)∧H'=H0:=by
 refine gD Fo qy fun hcl K0 aO=> ?_
 rw [eS.eq_1] at h
 refine aS ?_
 obtain ⟨t4,bV,h⟩:=ay h
 refine cg ax (zN bV ?_)
 refine aS ?_
 refine bX h (fun cu h=> ?_) fun cu h=> ?_
 · refine aS ?_
   obtain rfl:=aJ h
   exact aO _ _ _ bE (aZ hcl (bC bx (.bool false)) bA bt ⟨rfl,rfl⟩)
 · refine aS ?_
   obtain ⟨Lz,cG,h⟩:=ay h
   refine cg ax (zO cG ?_ ?_)
   · rintro Wq rfl
     try dsimp only at h
     refine aS ?_
     obtain rfl:=aJ h
     exact aO _ _ _ bE (aZ hcl (bC bx (.bool (decide (Wq≤255)))) bA bt ⟨rfl,rfl⟩)
   · rintro n6 rfl
     try dsimp only at h
     refine aS ?_
     obtain rfl:=aJ h
     exact aO _ _ _ bE (aZ hcl (bC bx (.bool n6)) bA bt ⟨rfl,rfl⟩)
abbrev qz:aD:=(.rg [(aC 3 0),(aj 4 (.bin .geq (.t 3) (.c (b8 65)))),(aC 5 4),(aF 6 (.mv (.t 0)) 5 true),(aF 7 (.bin .leq (.t 6) (.c (b8 90))) 5 true),(aj 8 (.pick (.t 5) (.t 7) (.c (.bool false)))),(aC 9 8),(aF 10 (.mv (.t 0)) 9 false),(aF 11 (.bin .geq (.t 10) (.c (b8 97))) 9 false),(aF 12 (.mv (.t 11)) 9 false),(aF 13 (.mv (.t 0)) 12 true),(aF 14 (.bin .leq (.t 13) (.c (b8 122))) 12 true),(aF 15 (.pick (.t 12) (.t 14) (.c (.bool false))) 9 false),(aj 16 (.pick (.t 9) (.c (.bool true)) (.t 15))),(bk 2 16)])
abbrev DD:aD:=(.seq (.rg [(aj 2 (.bf (.c (.bool false))))]) (.seq (.sem (erase qz)) .ret))
theorem DE:bz Tryz.prog 95 17 [(.tmp 2)] (erase DD):=⟨Tryz.f95,_,rfl,by decide,rfl,by kernel_rfl,rfl,rfl⟩
abbrev vk:List Nat:=[0,2]
def iV (c1:UInt8):Option (Bool):=
 some (((decide (65≤c1))&&(decide (c1≤90)))||((decide (97≤c1))&&(decide (c1≤122))))
theorem ya {c1:UInt8} {H:AH} {K:Exit→Env→AH→Prop}
 (kn:K .normal [(2,(.bool (((decide (65≤c1))&&(decide (c1≤90)))||((decide (97≤c1))&&(decide (c1≤122))))))] H):
 AX Tryz.prog vk 17 H.length (erase qz) K [(0,(b8 c1)),(2,(.bool false))] H:=by
 refine dn fun K' hK=> ?_
 refine aS ?_
 refine kj (fun hy1=> ?_) fun hy1=> ?_
 · refine bO hy1 ?_
   refine kj (fun bh=> ?_) fun bh=> ?_
   · refine bO bh ?_
     exact hK _ _ _ _ _ (dy (aB hy1 bh)) ax kn
   · refine bO bh ?_
     refine kj (fun bw=> ?_) fun bw=> ?_
     · refine bO bw ?_
       exact hK _ _ _ _ _ (dy (aB hy1 (aB bh bw))) ax kn
     · refine bO bw ?_
       exact hK _ _ _ _ _ (dy (aB hy1 (aB bh bw))) ax kn
 · refine bO hy1 ?_
   refine kj (fun bu=> ?_) fun bu=> ?_
   · refine bO bu ?_
     exact hK _ _ _ _ _ (dy (aB hy1 bu)) ax kn
   · refine bO bu ?_
     exact hK _ _ _ _ _ (dy (aB hy1 bu)) ax kn
theorem tQ {c1:UInt8} {H0:AH} {aM:Bool} (h:iV c1=some aM):
 aG Tryz.prog 95 [(b8 c1)] H0 fun v H'=>v=(.bool aM)∧H'=H0:=by
 refine gD DE vk fun hcl K0 aO=> ?_
 rw [iV.eq_1] at h
 refine aS ?_
 refine cg ax (ya (c1:=c1) ?_)
 refine aS ?_
 obtain rfl:=aJ h
 exact aO _ _ _ bE (aZ hcl (bC bx (.bool (((decide (65≤c1))&&(decide (c1≤90)))||((decide (97≤c1))&&(decide (c1≤122)))))) bA bt ⟨rfl,rfl⟩)
abbrev sw:aD:=(.rg [(aC 4 0),(aj 5 (.bin .eql (.t 4) (.c (.str [])))),(aC 6 5),(aF 7 (.mv (.t 0)) 6 false),(aF 8 (.lens (.t 7)) 6 false),(aF 9 (.bin .gtr (.t 8) (.c (.int .i64 63))) 6 false),(aj 10 (.pick (.t 6) (.c (.bool true)) (.t 9))),(aC 11 10),(aF 12 (.mv (.t 0)) 11 false),(aF 13 (.ixs (.t 12) (.c (.int .i64 0))) 11 false),(aF 14 (.bin .eql (.t 13) (.c (b8 45))) 11 false),(aj 15 (.pick (.t 11) (.c (.bool true)) (.t 14))),(aC 16 15),(aF 17 (.mv (.t 0)) 16 false),(aF 18 (.mv (.t 0)) 16 false),(aF 19 (.lens (.t 18)) 16 false),(aF 20 (.bin .sub (.t 19) (.c (.int .i64 1))) 16 false),(aF 21 (.ixs (.t 17) (.t 20)) 16 false),(aF 22 (.bin .eql (.t 21) (.c (b8 45))) 16 false),(aj 23 (.pick (.t 16) (.c (.bool true)) (.t 22)))])
abbrev sx:aD:=(.rg [(aC 30 0),(aC 31 3),(aj 32 (.ixs (.t 30) (.t 31))),(aj 33 (.call (.c (.fn 95 [])) [(.t 32)])),(aj 34 (.un .not (.t 33))),(aC 35 34),(aF 36 (.mv (.t 0)) 35 true),(aF 37 (.mv (.t 3)) 35 true),(aF 38 (.ixs (.t 36) (.t 37)) 35 true),(aF 39 (.call (.c (.fn 94 [])) [(.t 38)]) 35 true),(aF 40 (.un .not (.t 39)) 35 true),(aj 41 (.pick (.t 35) (.t 40) (.c (.bool false)))),(aC 42 41),(aF 43 (.mv (.t 0)) 42 true),(aF 44 (.mv (.t 3)) 42 true),(aF 45 (.ixs (.t 43) (.t 44)) 42 true),(aF 46 (.bin .neq (.t 45) (.c (b8 45))) 42 true),(aj 47 (.pick (.t 42) (.t 46) (.c (.bool false))))])
abbrev qA:aD:=(.seq (.seq (.rg [(aC 24 3),(aC 25 0),(aj 26 (.lens (.t 25))),(aj 27 (.bin .lss (.t 24) (.t 26)))]) (.cond (.t 27) .skip (.exit 0))) (.seq (.blk 1 (.seq (.sem (erase sx)) (.cond (.t 47) (.seq (.rg [(aj 2 (.bf (.c (.bool false))))]) .ret) .skip))) (.rg [(aC 28 3),(aj 29 (.bin .add (.t 28) (.c (.int .i64 1)))),(bk 3 29)])))
abbrev Fp:aD:=(.seq (.rg [(aj 2 (.bf (.c (.bool false))))]) (.seq (.seq (.sem (erase sw)) (.cond (.t 23) (.seq (.rg [(aj 2 (.bf (.c (.bool false))))]) .ret) .skip)) (.seq (.seq (.rg [(aj 3 (.bf (.c (.int .i64 0))))]) (.blk 0 (.loop (erase qA)))) (.seq (.rg [(aj 2 (.bf (.c (.bool true))))]) .ret))))
theorem Fq:bz Tryz.prog 83 48 [(.tmp 2)] (erase Fp):=⟨Tryz.f83,_,rfl,by decide,rfl,by kernel_rfl,rfl,rfl⟩
abbrev mF:List Nat:=[0,2,3,23,27,47]
def kY (s1:List UInt8):Option (Bool):=
 (if (decide (s1=([]:List UInt8))) then
  some true
 else
  (if (decide (63<(s1.length:Int))) then
   some true
  else
   (idx s1 0).bind fun x2=>
   (if (decide (x2=45)) then
    some true
   else
    (idx s1 (IntKind.wrap .i64 ((s1.length:Int) - 1))).bind fun x3=>some (decide (x3=45)))))
def iM (s1:List UInt8) (i6:Int):Option (Bool):=
 (idx s1 i6).bind fun x7=>
 (iV x7).bind fun r8=>
 (if (!r8) then
  (iB x7).bind fun r9=>(if (!r9) then
   some (!decide (x7=45))
  else
   some false)
 else
  some false)
def fm (s1:List UInt8):Int→Option (St Bool Unit Int)
 |i6=>
  (if (decide (i6<(s1.length:Int))) then
   (iM s1 i6).bind fun t11=>
   (if t11 then
    some (.ret false)
   else
    some (.cK (IntKind.wrap .i64 (i6+1))))
  else
   some (.fF ()))
def mG (F:Nat) (s1:List UInt8):Option (Bool):=
 (kY s1).bind fun t5=>
 (if t5 then
  some false
 else
  ((iter (fm s1) F 0).bind fun Wr=>
  match Wr with
  | .inr ()=>
    some true
  | .inl kQ=>
    some kQ))
theorem zP {s1:List UInt8} {H:AH} {K:Exit→Env→AH→Prop} {t4:Bool}
 (h:kY s1=some t4)
 (kn:K .normal [(0,(.str s1)),(23,(.bool t4))] H):
 AX Tryz.prog mF 48 H.length (erase sw) K [(0,(.str s1))] H:=by
 refine dn fun K' hK=> ?_
 rw [kY.eq_1] at h
 refine aS ?_
 refine ck h (fun hy1 h=> ?_) fun hy1 h=> ?_
 · refine bO hy1 ?_
   obtain rfl:=aJ h
   exact hK _ _ _ _ _ aX ax kn
 · refine bO hy1 ?_
   refine ck h (fun bh h=> ?_) fun bh h=> ?_
   · refine bO bh ?_
     obtain rfl:=aJ h
     exact hK _ _ _ _ _ aX ax kn
   · obtain ⟨x2,bw,h⟩:=ay h
     refine bO (aB bh bw) ?_
     refine ck h (fun bu h=> ?_) fun bu h=> ?_
     · refine bO bu ?_
       obtain rfl:=aJ h
       exact hK _ _ _ _ _ aX ax kn
     · obtain ⟨x3,bV,h⟩:=ay h
       refine bO (aB bu bV) ?_
       obtain rfl:=aJ h
       exact hK _ _ _ _ _ aX ax kn
theorem zQ {s1:List UInt8} {i6:Int} {H:AH} {K:Exit→Env→AH→Prop} {t10:Bool}
 (h:iM s1 i6=some t10)
 (kn:K .normal [(0,(.str s1)),(3,(.int .i64 i6)),(47,(.bool t10))] H):
 AX Tryz.prog mF 48 H.length (erase sx) K [(0,(.str s1)),(3,(.int .i64 i6))] H:=by
 refine dn fun K' hK=> ?_
 rw [iM.eq_1] at h
 obtain ⟨x7,eB,h⟩:=ay h
 refine bO eB ?_
 obtain ⟨r8,cY,h⟩:=ay h
 refine bg ax (tQ cY) ?_
 refine aS ?_
 refine ck h (fun cG h=> ?_) fun cG h=> ?_
 · refine bO (aB cG eB) ?_
   obtain ⟨r9,ei,h⟩:=ay h
   refine bg ax (oE ei) ?_
   refine aS ?_
   refine ck h (fun cZ h=> ?_) fun cZ h=> ?_
   · refine bO (aB cZ eB) ?_
     obtain rfl:=aJ h
     exact hK _ _ _ _ _ aX ax kn
   · refine bO cZ ?_
     obtain rfl:=aJ h
     exact hK _ _ _ _ _ aX ax kn
 · refine bO cG ?_
   obtain rfl:=aJ h
   exact hK _ _ _ _ _ aX ax kn
theorem zR {F:Nat} {i6:Int} {s1:List UInt8} {H:AH} {K:Exit→Env→AH→Prop} {o:(Bool)⊕(Unit)}
 (h:iter (fm s1) F i6=some o)
 (di:∀o':Unit,o= .inr o'→K (.exit 0) [] H)
 (kr:∀o':Bool,o= .inl o'→K .ret [(2,(.bool o'))] H):
 AX Tryz.prog mF 48 H.length (.loop (erase qA)) K [(0,(.str s1)),(3,(.int .i64 i6))] H:=by
 refine ja (fun s e H1=>match s with|i6=>e=[(0,(.str s1)),(3,(.int .i64 i6))]∧H1=H) h ⟨rfl,rfl⟩ ?_
 rintro K' i6 st e H ⟨rfl,rfl⟩ h hN hB hR hX
 rw [fm.eq_1] at h
 refine aS ?_
 refine bX h (fun dD h=> ?_) fun dD h=> ?_
 · refine aS ?_
   obtain ⟨t11,fV,h⟩:=ay h
   refine cg ax (zQ fV ?_)
   refine aS ?_
   refine bX h (fun kH h=> ?_) fun kH h=> ?_
   · refine aS ?_
     obtain rfl:=aJ h
     exact hX _ _ _ _ _ eI aX ax (kr _ (hR _ rfl))
   · refine aS ?_
     obtain rfl:=aJ h
     exact hN _ rfl _ _ _ _ aX ax ⟨rfl,rfl⟩
 · refine aS ?_
   obtain rfl:=aJ h
   exact hX _ _ _ _ _ eI WE.nil ax (di _ (hB _ rfl))
theorem DF {F:Nat} {s1:List UInt8} {H0:AH} {aM:Bool} (h:mG F s1=some aM):
 aG Tryz.prog 83 [(.str s1)] H0 fun v H'=>v=(.bool aM)∧H'=H0:=by
 refine gD Fq mF fun hcl K0 aO=> ?_
 rw [mG.eq_1] at h
 refine aS ?_
 obtain ⟨t5,cu,h⟩:=ay h
 refine cg ax (zP cu ?_)
 refine aS ?_
 refine bX h (fun dw h=> ?_) fun dw h=> ?_
 · refine aS ?_
   obtain rfl:=aJ h
   exact aO _ _ _ bE (aZ hcl (bC bx (.bool false)) bA bt ⟨rfl,rfl⟩)
 · refine aS ?_
   obtain ⟨Wr,fW,h⟩:=ay h
   refine cg ax (zR fW ?_ ?_)
   · rintro ⟨⟩ rfl
     try dsimp only at h
     refine aS ?_
     obtain rfl:=aJ h
     exact aO _ _ _ bE (aZ hcl (bC bx (.bool true)) bA bt ⟨rfl,rfl⟩)
   · rintro kQ rfl
     try dsimp only at h
     refine aS ?_
     obtain rfl:=aJ h
     exact aO _ _ _ bE (aZ hcl (bC bx (.bool kQ)) bA bt ⟨rfl,rfl⟩)
abbrev qB:aD:=(.rg [(aC 7 0),(aj 8 (.bin .eql (.t 7) (.c (.str [])))),(aC 9 8),(aF 10 (.mv (.t 0)) 9 false),(aF 11 (.lens (.t 10)) 9 false),(aF 12 (.bin .gtr (.t 11) (.c (.int .i64 255))) 9 false),(aj 13 (.pick (.t 9) (.c (.bool true)) (.t 12)))])
abbrev qC:aD:=(.rg [(aC 18 0),(aC 19 0),(aj 20 (.lens (.t 19))),(aj 21 (.bin .sub (.t 20) (.c (.int .i64 1)))),(aj 22 (.ixs (.t 18) (.t 21))),(aj 23 (.bin .neq (.t 22) (.c (b8 93)))),(aC 24 23),(aF 25 (.mv (.t 0)) 24 false),(aF 26 (.lens (.t 25)) 24 false),(aF 27 (.bin .lss (.t 26) (.c (.int .i64 2))) 24 false),(aj 28 (.pick (.t 24) (.c (.bool true)) (.t 27)))])
abbrev qD:aD:=(.cond (.t 17) (.seq (.seq (.sem (erase qC)) (.cond (.t 28) (.seq (.rg [(aj 2 (.bf (.c (.bool false))))]) .ret) .skip)) (.rg [(aC 29 0),(aC 30 0),(aj 31 (.lens (.t 30))),(aj 32 (.bin .sub (.t 31) (.c (.int .i64 1)))),(aj 33 (.JP (.t 29) (some (.c (.int .i64 1))) (some (.t 32)))),(bk 0 33)])) .skip)
abbrev qE:aD:=(.rg [(aC 40 6),(aC 41 0),(aj 42 (.lens (.t 41))),(aj 43 (.bin .lss (.t 40) (.t 42))),(aC 44 43),(aF 45 (.mv (.t 0)) 44 true),(aF 46 (.mv (.t 6)) 44 true),(aF 47 (.ixs (.t 45) (.t 46)) 44 true),(aF 48 (.bin .neq (.t 47) (.c (b8 46))) 44 true),(aj 49 (.pick (.t 44) (.t 48) (.c (.bool false))))])
abbrev qF:aD:=(.rg [(aC 50 3),(aC 51 50),(aF 52 (.mv (.t 0)) 51 true),(aF 53 (.mv (.t 4)) 51 true),(aF 54 (.mv (.t 6)) 51 true),(aF 55 (.JP (.t 52) (some (.t 53)) (some (.t 54))) 51 true),(aF 56 (.call (.c (.fn 82 [])) [(.t 55)]) 51 true),(aF 57 (.un .not (.t 56)) 51 true),(aj 58 (.pick (.t 51) (.t 57) (.c (.bool false)))),(aC 59 58),(aF 60 (.mv (.t 3)) 59 false),(aF 61 (.un .not (.t 60)) 59 false),(aF 62 (.mv (.t 61)) 59 false),(aF 63 (.mv (.t 0)) 62 true),(aF 64 (.mv (.t 4)) 62 true),(aF 65 (.mv (.t 6)) 62 true),(aF 66 (.JP (.t 63) (some (.t 64)) (some (.t 65))) 62 true),(aF 67 (.call (.c (.fn 83 [])) [(.t 66)]) 62 true),(aF 68 (.un .not (.t 67)) 62 true),(aF 69 (.pick (.t 62) (.t 68) (.c (.bool false))) 59 false),(aj 70 (.pick (.t 59) (.c (.bool true)) (.t 69)))])
abbrev oN:aD:=(.seq (.seq (.rg [(aC 34 6),(aC 35 0),(aj 36 (.lens (.t 35))),(aj 37 (.bin .leq (.t 34) (.t 36)))]) (.cond (.t 37) .skip (.exit 0))) (.seq (.blk 1 (.seq (.seq (.sem (erase qE)) (.cond (.t 49) (.exit 1) .skip)) (.seq (.seq (.sem (erase qF)) (.cond (.t 70) (.seq (.rg [(aj 2 (.bf (.c (.bool false))))]) .ret) .skip)) (.seq (.rg [(aC 71 5),(aj 72 (.bin .add (.t 71) (.c (.int .i64 1)))),(bk 5 72)]) (.rg [(aC 73 6),(aj 74 (.bin .add (.t 73) (.c (.int .i64 1)))),(bk 4 74)]))))) (.rg [(aC 38 6),(aj 39 (.bin .add (.t 38) (.c (.int .i64 1)))),(bk 6 39)])))
abbrev qG:aD:=(.rg [(aC 75 3),(aj 76 (.un .not (.t 75))),(aC 77 76),(aF 78 (.mv (.t 5)) 77 false),(aF 79 (.bin .eql (.t 78) (.c (.int .i64 4))) 77 false),(aj 80 (.pick (.t 77) (.c (.bool true)) (.t 79))),(bk 2 80)])
abbrev DG:aD:=(.seq (.rg [(aj 2 (.bf (.c (.bool false))))]) (.seq (.seq (.sem (erase qB)) (.cond (.t 13) (.seq (.rg [(aj 2 (.bf (.c (.bool false))))]) .ret) .skip)) (.seq (.rg [(aC 14 0),(aj 15 (.ixs (.t 14) (.c (.int .i64 0)))),(aj 16 (.bin .eql (.t 15) (.c (b8 91)))),(bk 3 16)]) (.seq (.seq (.rg [(aC 17 3)]) (.sem (erase qD))) (.seq (.rg [(aj 4 (.bf (.c (.int .i64 0))))]) (.seq (.rg [(aj 5 (.bf (.c (.int .i64 0))))]) (.seq (.seq (.rg [(aj 6 (.bf (.c (.int .i64 0))))]) (.blk 0 (.loop (erase oN)))) (.seq (.sem (erase qG)) .ret))))))))
theorem DH:bz Tryz.prog 68 81 [(.tmp 2)] (erase DG):=⟨Tryz.f68,_,rfl,by decide,rfl,by kernel_rfl,rfl,rfl⟩
abbrev ey:List Nat:=[0,2,3,4,5,6,13,17,28,37,49,70]
def jR (s1:List UInt8):Option (Bool):=
 (idx s1 (IntKind.wrap .i64 ((s1.length:Int) - 1))).bind fun x3=>
 (if (!decide (x3=93)) then
  some true
 else
  some (decide ((s1.length:Int)<2)))
def gU (x2:UInt8) (s1:List UInt8):Option (St Bool Unit (List UInt8)):=
 (if (decide (x2=91)) then
  (jR s1).bind fun t5=>
  (if t5 then
   some (.ret false)
  else
   (sub s1 1 (IntKind.wrap .i64 ((s1.length:Int) - 1))).bind fun x6=>some (.cK x6))
 else
  some (.cK s1))
def eO (i12:Int) (s9:List UInt8):Option (Bool):=
 (if (decide (i12<(s9.length:Int))) then
  (idx s9 i12).bind fun AP=>some (!decide (AP=46))
 else
  some false)
def gV (F:Nat) (x2:UInt8) (s9:List UInt8) (mH:Int) (i12:Int):Option (Bool):=
 (if (decide (x2=91)) then
  (sub s9 mH i12).bind fun GJ=>
  (eS F GJ).bind fun Be=>(if (!Be) then
   some true
  else
   some false)
 else
  (sub s9 mH i12).bind fun Jc=>(mG F Jc).bind fun rF=>some (!rF))
def cy (F:Nat) (s9:List UInt8) (x2:UInt8):(Int×Int×Int)→Option (St Bool Int (Int×Int×Int))
 |(mH,eo,i12)=>
  (if (decide (i12≤(s9.length:Int))) then
   (eO i12 s9).bind fun t15=>
   (if t15 then
    some (.cK (mH,eo,(IntKind.wrap .i64 (i12+1))))
   else
    (gV F x2 s9 mH i12).bind fun t21=>
    (if t21 then
     some (.ret false)
    else
     some (.cK ((IntKind.wrap .i64 (i12+1)),(IntKind.wrap .i64 (eo+1)),(IntKind.wrap .i64 (i12+1))))))
  else
   some (.fF eo))
def fL (F:Nat) (s1:List UInt8):Option (Bool):=
 (if ((decide (s1=([]:List UInt8)))||(decide (255<(s1.length:Int)))) then
  some false
 else
  (idx s1 0).bind fun x2=>
  ((gU x2 s1).bind fun Ws=>
  match Ws with
  | .cK s9=>
    ((iter (cy F s9 x2) F (0,0,0)).bind fun o26=>
    match o26 with
    | .inr oe=>
      some ((!(decide (x2=91)))||(decide (oe=4)))
    | .inl uH=>
      some uH)
  | .ret xR=>
    some xR
  | .fF _=>none))
theorem yb {s1:List UInt8} {H:AH} {K:Exit→Env→AH→Prop}
 (kn:K .normal [(0,(.str s1)),(13,(.bool ((decide (s1=([]:List UInt8)))||(decide (255<(s1.length:Int))))))] H):
 AX Tryz.prog ey 81 H.length (erase qB) K [(0,(.str s1))] H:=by
 refine dn fun K' hK=> ?_
 refine aS ?_
 refine kj (fun hy1=> ?_) fun hy1=> ?_
 · refine bO hy1 ?_
   exact hK _ _ _ _ _ (dy hy1) ax kn
 · refine bO hy1 ?_
   exact hK _ _ _ _ _ (dy hy1) ax kn
theorem yc {s1:List UInt8} {x2:UInt8} {H:AH} {K:Exit→Env→AH→Prop} {t4:Bool}
 (h:jR s1=some t4)
 (kn:K .normal [(0,(.str s1)),(3,(.bool (decide (x2=91)))),(28,(.bool t4))] H):
 AX Tryz.prog ey 81 H.length (erase qC) K [(0,(.str s1)),(3,(.bool (decide (x2=91))))] H:=by
 refine dn fun K' hK=> ?_
 rw [jR.eq_1] at h
 obtain ⟨x3,bV,h⟩:=ay h
 refine bO bV ?_
 refine ck h (fun cu h=> ?_) fun cu h=> ?_
 · refine bO cu ?_
   obtain rfl:=aJ h
   exact hK _ _ _ _ _ aX ax kn
 · refine bO cu ?_
   obtain rfl:=aJ h
   exact hK _ _ _ _ _ aX ax kn
theorem yd {x2:UInt8} {s1:List UInt8} {H:AH} {K:Exit→Env→AH→Prop} {o:St Bool Unit (List UInt8)}
 (h:gU x2 s1=some o)
 (kn:∀o':(List UInt8),o= .cK o'→K .normal [(0,(.str o')),(3,(.bool (decide (x2=91))))] H)
 (kr:∀o':Bool,o= .ret o'→K .ret [(2,(.bool o'))] H):
 AX Tryz.prog ey 81 H.length (erase qD) K [(0,(.str s1)),(3,(.bool (decide (x2=91)))),(17,(.bool (decide (x2=91))))] H:=by
 refine dn fun K' hK=> ?_
 rw [gU.eq_1] at h
 refine aS ?_
 refine bX h (fun bu h=> ?_) fun bu h=> ?_
 · refine aS ?_
   obtain ⟨t5,dw,h⟩:=ay h
   refine cg ax (yc (x2:=x2) dw ?_)
   refine aS ?_
   refine bX h (fun dD h=> ?_) fun dD h=> ?_
   · refine aS ?_
     obtain rfl:=aJ h
     exact hK _ _ _ _ _ aX ax (kr _ rfl)
   · obtain ⟨x6,eB,h⟩:=ay h
     refine bO eB ?_
     obtain rfl:=aJ h
     exact hK _ _ _ _ _ aX ax (kn _ rfl)
 · refine aS ?_
   obtain rfl:=aJ h
   exact hK _ _ _ _ _ aX ax (kn _ rfl)
theorem ye {i12:Int} {s9:List UInt8} {x2:UInt8} {mH:Int} {eo:Int} {H:AH} {K:Exit→Env→AH→Prop} {t14:Bool}
 (h:eO i12 s9=some t14)
 (kn:K .normal [(0,(.str s9)),(3,(.bool (decide (x2=91)))),(4,(.int .i64 mH)),(5,(.int .i64 eo)),(6,(.int .i64 i12)),(49,(.bool t14))] H):
 AX Tryz.prog ey 81 H.length (erase qE) K [(0,(.str s9)),(3,(.bool (decide (x2=91)))),(4,(.int .i64 mH)),(5,(.int .i64 eo)),(6,(.int .i64 i12))] H:=by
 refine dn fun K' hK=> ?_
 rw [eO.eq_1] at h
 refine aS ?_
 refine ck h (fun ei h=> ?_) fun ei h=> ?_
 · obtain ⟨AP,cZ,h⟩:=ay h
   refine bO (aB ei cZ) ?_
   obtain rfl:=aJ h
   exact hK _ _ _ _ _ aX ax kn
 · refine bO ei ?_
   obtain rfl:=aJ h
   exact hK _ _ _ _ _ aX ax kn
theorem yf {F:Nat} {x2:UInt8} {s9:List UInt8} {mH:Int} {i12:Int} {eo:Int} {H:AH} {K:Exit→Env→AH→Prop} {t20:Bool}
 (h:gV F x2 s9 mH i12=some t20)
 (kn:K .normal [(0,(.str s9)),(3,(.bool (decide (x2=91)))),(5,(.int .i64 eo)),(6,(.int .i64 i12)),(70,(.bool t20))] H):
 AX Tryz.prog ey 81 H.length (erase qF) K [(0,(.str s9)),(3,(.bool (decide (x2=91)))),(4,(.int .i64 mH)),(5,(.int .i64 eo)),(6,(.int .i64 i12))] H:=by
 refine dn fun K' hK=> ?_
 rw [gV.eq_1] at h
 refine aS ?_
 refine ck h (fun fW h=> ?_) fun fW h=> ?_
 · obtain ⟨GJ,jt,h⟩:=ay h
   refine bO (aB fW jt) ?_
   obtain ⟨Be,mo,h⟩:=ay h
   refine bg ax (DC mo) ?_
   refine aS ?_
   refine ck h (fun ju h=> ?_) fun ju h=> ?_
   · refine bO ju ?_
     obtain rfl:=aJ h
     exact hK _ _ _ _ _ (dy (aB fW ju)) ax kn
   · refine bO ju ?_
     obtain rfl:=aJ h
     exact hK _ _ _ _ _ (dy (aB fW ju)) ax kn
 · obtain ⟨Jc,jv,h⟩:=ay h
   refine bO (aB fW jv) ?_
   obtain ⟨rF,mq,h⟩:=ay h
   refine bg ax (DF mq) ?_
   refine aS ?_
   obtain rfl:=aJ h
   exact hK _ _ _ _ _ (dy fW) ax kn
theorem yg {F:Nat} {i12:Int} {s9:List UInt8} {mH:Int} {eo:Int} {x2:UInt8} {H:AH} {K:Exit→Env→AH→Prop} {o:(Bool)⊕(Int)}
 (h:iter (cy F s9 x2) F (mH,eo,i12)=some o)
 (di:∀o':Int,o= .inr o'→K (.exit 0) [(3,(.bool (decide (x2=91)))),(5,(.int .i64 o'))] H)
 (kr:∀o':Bool,o= .inl o'→K .ret [(2,(.bool o'))] H):
 AX Tryz.prog ey 81 H.length (.loop (erase oN)) K [(0,(.str s9)),(3,(.bool (decide (x2=91)))),(4,(.int .i64 mH)),(5,(.int .i64 eo)),(6,(.int .i64 i12))] H:=by
 refine ja (fun s e H1=>match s with|(mH,eo,i12)=>e=[(0,(.str s9)),(3,(.bool (decide (x2=91)))),(4,(.int .i64 mH)),(5,(.int .i64 eo)),(6,(.int .i64 i12))]∧H1=H) h ⟨rfl,rfl⟩ ?_
 rintro K' ⟨mH,eo,i12⟩ st e H ⟨rfl,rfl⟩ h hN hB hR hX
 rw [cy.eq_1] at h
 refine aS ?_
 refine bX h (fun cG h=> ?_) fun cG h=> ?_
 · refine aS ?_
   obtain ⟨t15,fV,h⟩:=ay h
   refine cg ax (ye (x2:=x2) (mH:=mH) (eo:=eo) fV ?_)
   refine aS ?_
   refine bX h (fun kH h=> ?_) fun kH h=> ?_
   · refine aS ?_
     obtain rfl:=aJ h
     exact hN _ rfl _ _ _ _ aX ax ⟨rfl,rfl⟩
   · refine aS ?_
     obtain ⟨t21,j0,h⟩:=ay h
     refine cg ax (yf (eo:=eo) j0 ?_)
     refine aS ?_
     refine bX h (fun n9 h=> ?_) fun n9 h=> ?_
     · refine aS ?_
       obtain rfl:=aJ h
       exact hX _ _ _ _ _ eI aX ax (kr _ (hR _ rfl))
     · refine aS ?_
       obtain rfl:=aJ h
       exact hN _ rfl _ _ _ _ aX ax ⟨rfl,rfl⟩
 · refine aS ?_
   obtain rfl:=aJ h
   exact hX _ _ _ _ _ eI aX ax (di _ (hB _ rfl))
theorem yh {x2:UInt8} {oe:Int} {H:AH} {K:Exit→Env→AH→Prop}
 (kn:K .normal [(2,(.bool ((!(decide (x2=91)))||(decide (oe=4)))))] H):
 AX Tryz.prog ey 81 H.length (erase qG) K [(3,(.bool (decide (x2=91)))),(5,(.int .i64 oe))] H:=by
 refine dn fun K' hK=> ?_
 refine aS ?_
 refine kj (fun mu=> ?_) fun mu=> ?_
 · refine bO mu ?_
   exact hK _ _ _ _ _ (dy mu) ax kn
 · refine bO mu ?_
   exact hK _ _ _ _ _ (dy mu) ax kn
theorem Cw {F:Nat} {s1:List UInt8} {H0:AH} {aM:Bool} (h:fL F s1=some aM):
 aG Tryz.prog 68 [(.str s1)] H0 fun v H'=>v=(.bool aM)∧H'=H0:=by
 refine gD DH ey fun hcl K0 aO=> ?_
 rw [fL.eq_1] at h
 refine aS ?_
 refine cg ax (yb (s1:=s1) ?_)
 refine aS ?_
 refine bX h (fun bh h=> ?_) fun bh h=> ?_
 · refine aS ?_
   obtain rfl:=aJ h
   exact aO _ _ _ bE (aZ hcl (bC bx (.bool false)) bA bt ⟨rfl,rfl⟩)
 · obtain ⟨x2,bw,h⟩:=ay h
   refine bO bw ?_
   obtain ⟨Ws,cY,h⟩:=ay h
   refine cg ax (yd cY ?_ ?_)
   · rintro s9 rfl
     try dsimp only at h
     refine aS ?_
     obtain ⟨o26,kI,h⟩:=ay h
     refine cg ax (yg kI ?_ ?_)
     · rintro oe rfl
       try dsimp only at h
       refine aS ?_
       refine cg ax (yh (x2:=x2) (oe:=oe) ?_)
       refine aS ?_
       obtain rfl:=aJ h
       exact aO _ _ _ bE (aZ hcl (bC bx (.bool ((!(decide (x2=91)))||(decide (oe=4))))) bA bt ⟨rfl,rfl⟩)
     · rintro uH rfl
       try dsimp only at h
       refine aS ?_
       obtain rfl:=aJ h
       exact aO _ _ _ bE (aZ hcl (bC bx (.bool uH)) bA bt ⟨rfl,rfl⟩)
   · rintro xR rfl
     try dsimp only at h
     refine aS ?_
     obtain rfl:=aJ h
     exact aO _ _ _ bE (aZ hcl (bC bx (.bool xR)) bA bt ⟨rfl,rfl⟩)
abbrev sy:aD:=(.rg [(aC 5 0),(aj 6 (.call (.c (.fn 95 [])) [(.t 5)])),(aC 7 6),(aF 8 (.mv (.t 0)) 7 false),(aF 9 (.call (.c (.fn 94 [])) [(.t 8)]) 7 false),(aj 10 (.pick (.t 7) (.c (.bool true)) (.t 9)))])
abbrev qH:aD:=(.seq (.seq (.rg [(aC 11 4),(aC 12 3),(aj 13 (.lens (.t 12))),(aj 14 (.bin .lss (.t 11) (.t 13)))]) (.cond (.t 14) .skip (.exit 0))) (.seq (.blk 1 (.seq (.rg [(aC 17 3),(aC 18 4),(aj 19 (.ixs (.t 17) (.t 18))),(aC 20 0),(aj 21 (.bin .eql (.t 19) (.t 20)))]) (.cond (.t 21) (.seq (.rg [(aj 2 (.bf (.c (.bool true))))]) .ret) .skip))) (.rg [(aC 15 4),(aj 16 (.bin .add (.t 15) (.c (.int .i64 1)))),(bk 4 16)])))
abbrev Fs:aD:=(.seq (.rg [(aj 2 (.bf (.c (.bool false))))]) (.seq (.seq (.sem (erase sy)) (.cond (.t 10) (.seq (.rg [(aj 2 (.bf (.c (.bool true))))]) .ret) .skip)) (.seq (.rg [(aj 3 (.bf (.c (.str [33,35,36,37,38,39,42,43,45,47,61,63,94,95,123,124,125,126]))))]) (.seq (.seq (.rg [(aj 4 (.bf (.c (.int .i64 0))))]) (.blk 0 (.loop (erase qH)))) (.seq (.rg [(aC 22 0),(aj 23 (.bin .eql (.t 22) (.c (b8 96)))),(bk 2 23)]) .ret)))))
theorem Ft:bz Tryz.prog 96 24 [(.tmp 2)] (erase Fs):=⟨Tryz.f96,_,rfl,by decide,rfl,by kernel_rfl,rfl,rfl⟩
abbrev qI:List Nat:=[0,2,3,4,10,14,21]
def oF (c1:UInt8):Option (Bool):=
 (iV c1).bind fun r2=>
 (if r2 then
  some true
 else
  (iB c1).bind fun r3=>some r3)
def oG (c1:UInt8):Int→Option (St Bool Unit Int)
 |i6=>
  (if (decide (i6<(([33,35,36,37,38,39,42,43,45,47,61,63,94,95,123,124,125,126]:List UInt8).length:Int))) then
   (idx ([33,35,36,37,38,39,42,43,45,47,61,63,94,95,123,124,125,126]:List UInt8) i6).bind fun x7=>
   (if (decide (x7=c1)) then
    some (.ret true)
   else
    some (.cK (IntKind.wrap .i64 (i6+1))))
  else
   some (.fF ()))
def jS (F:Nat) (c1:UInt8):Option (Bool):=
 (oF c1).bind fun t5=>
 (if t5 then
  some true
 else
  ((iter (oG c1) F 0).bind fun o10=>
  match o10 with
  | .inr ()=>
    some (decide (c1=96))
  | .inl r9=>
    some r9))
theorem zS {c1:UInt8} {H:AH} {K:Exit→Env→AH→Prop} {t4:Bool}
 (h:oF c1=some t4)
 (kn:K .normal [(0,(b8 c1)),(10,(.bool t4))] H):
 AX Tryz.prog qI 24 H.length (erase sy) K [(0,(b8 c1))] H:=by
 refine dn fun K' hK=> ?_
 rw [oF.eq_1] at h
 refine aS ?_
 obtain ⟨r2,hy1,h⟩:=ay h
 refine bg ax (tQ hy1) ?_
 refine aS ?_
 refine ck h (fun bh h=> ?_) fun bh h=> ?_
 · refine bO bh ?_
   obtain rfl:=aJ h
   exact hK _ _ _ _ _ aX ax kn
 · refine bO bh ?_
   obtain ⟨r3,bw,h⟩:=ay h
   refine bg ax (oE bw) ?_
   refine aS ?_
   obtain rfl:=aJ h
   exact hK _ _ _ _ _ aX ax kn
theorem zT {F:Nat} {i6:Int} {c1:UInt8} {H:AH} {K:Exit→Env→AH→Prop} {o:(Bool)⊕(Unit)}
 (h:iter (oG c1) F i6=some o)
 (di:∀o':Unit,o= .inr o'→K (.exit 0) [(0,(b8 c1))] H)
 (kr:∀o':Bool,o= .inl o'→K .ret [(2,(.bool o'))] H):
 AX Tryz.prog qI 24 H.length (.loop (erase qH)) K [(0,(b8 c1)),(3,(.str ([33,35,36,37,38,39,42,43,45,47,61,63,94,95,123,124,125,126]:List UInt8))),(4,(.int .i64 i6))] H:=by
 refine ja (fun s e H1=>match s with|i6=>e=[(0,(b8 c1)),(3,(.str ([33,35,36,37,38,39,42,43,45,47,61,63,94,95,123,124,125,126]:List UInt8))),(4,(.int .i64 i6))]∧H1=H) h ⟨rfl,rfl⟩ ?_
 rintro K' i6 st e H ⟨rfl,rfl⟩ h hN hB hR hX
 rw [oG.eq_1] at h
 refine aS ?_
 refine bX h (fun cu h=> ?_) fun cu h=> ?_
 · obtain ⟨x7,dw,h⟩:=ay h
   refine bO dw ?_
   refine bX h (fun dD h=> ?_) fun dD h=> ?_
   · refine aS ?_
     obtain rfl:=aJ h
     exact hX _ _ _ _ _ eI aX ax (kr _ (hR _ rfl))
   · refine aS ?_
     obtain rfl:=aJ h
     exact hN _ rfl _ _ _ _ aX ax ⟨rfl,rfl⟩
 · refine aS ?_
   obtain rfl:=aJ h
   exact hX _ _ _ _ _ eI aX ax (di _ (hB _ rfl))
theorem DJ {F:Nat} {c1:UInt8} {H0:AH} {aM:Bool} (h:jS F c1=some aM):
 aG Tryz.prog 96 [(b8 c1)] H0 fun v H'=>v=(.bool aM)∧H'=H0:=by
 refine gD Ft qI fun hcl K0 aO=> ?_
 rw [jS.eq_1] at h
 refine aS ?_
 obtain ⟨t5,bu,h⟩:=ay h
 refine cg ax (zS bu ?_)
 refine aS ?_
 refine bX h (fun bV h=> ?_) fun bV h=> ?_
 · refine aS ?_
   obtain rfl:=aJ h
   exact aO _ _ _ bE (aZ hcl (bC bx (.bool true)) bA bt ⟨rfl,rfl⟩)
 · refine aS ?_
   obtain ⟨o10,eB,h⟩:=ay h
   refine cg ax (zT eB ?_ ?_)
   · rintro ⟨⟩ rfl
     try dsimp only at h
     refine aS ?_
     obtain rfl:=aJ h
     exact aO _ _ _ bE (aZ hcl (bC bx (.bool (decide (c1=96)))) bA bt ⟨rfl,rfl⟩)
   · rintro r9 rfl
     try dsimp only at h
     refine aS ?_
     obtain rfl:=aJ h
     exact aO _ _ _ bE (aZ hcl (bC bx (.bool r9)) bA bt ⟨rfl,rfl⟩)
abbrev sA:aD:=(.rg [(aC 11 0),(aC 12 3),(aj 13 (.ixs (.t 11) (.t 12))),(aj 14 (.bin .eql (.t 13) (.c (b8 46)))),(aC 15 14),(aF 16 (.mv (.t 3)) 15 true),(aF 17 (.bin .gtr (.t 16) (.c (.int .i64 0))) 15 true),(aj 18 (.pick (.t 15) (.t 17) (.c (.bool false)))),(aC 19 18),(aF 20 (.mv (.t 3)) 19 true),(aF 21 (.bin .add (.t 20) (.c (.int .i64 1))) 19 true),(aF 22 (.mv (.t 0)) 19 true),(aF 23 (.lens (.t 22)) 19 true),(aF 24 (.bin .lss (.t 21) (.t 23)) 19 true),(aj 25 (.pick (.t 19) (.t 24) (.c (.bool false)))),(aC 26 25),(aF 27 (.mv (.t 0)) 26 true),(aF 28 (.mv (.t 3)) 26 true),(aF 29 (.bin .sub (.t 28) (.c (.int .i64 1))) 26 true),(aF 30 (.ixs (.t 27) (.t 29)) 26 true),(aF 31 (.bin .neq (.t 30) (.c (b8 46))) 26 true),(aj 32 (.pick (.t 26) (.t 31) (.c (.bool false)))),(bk 4 32)])
abbrev sB:aD:=(.rg [(aC 33 4),(aj 34 (.un .not (.t 33))),(aC 35 34),(aF 36 (.mv (.t 0)) 35 true),(aF 37 (.mv (.t 3)) 35 true),(aF 38 (.ixs (.t 36) (.t 37)) 35 true),(aF 39 (.call (.c (.fn 96 [])) [(.t 38)]) 35 true),(aF 40 (.un .not (.t 39)) 35 true),(aj 41 (.pick (.t 35) (.t 40) (.c (.bool false))))])
abbrev qJ:aD:=(.seq (.seq (.rg [(aC 5 3),(aC 6 0),(aj 7 (.lens (.t 6))),(aj 8 (.bin .lss (.t 5) (.t 7)))]) (.cond (.t 8) .skip (.exit 0))) (.seq (.blk 1 (.seq (.sem (erase sA)) (.seq (.sem (erase sB)) (.cond (.t 41) (.seq (.rg [(aj 2 (.bf (.c (.bool false))))]) .ret) .skip)))) (.rg [(aC 9 3),(aj 10 (.bin .add (.t 9) (.c (.int .i64 1)))),(bk 3 10)])))
abbrev Fu:aD:=(.seq (.rg [(aj 2 (.bf (.c (.bool false))))]) (.seq (.seq (.rg [(aj 3 (.bf (.c (.int .i64 0))))]) (.blk 0 (.loop (erase qJ)))) (.seq (.rg [(aC 42 0),(aj 43 (.bin .neq (.t 42) (.c (.str [])))),(bk 2 43)]) .ret)))
theorem Fv:bz Tryz.prog 84 44 [(.tmp 2)] (erase Fu):=⟨Tryz.f84,_,rfl,by decide,rfl,by kernel_rfl,rfl,rfl⟩
abbrev mI:List Nat:=[0,2,3,4,8,41]
def iN (s1:List UInt8) (i2:Int):Option (Bool):=
 (idx s1 i2).bind fun x3=>
 (if (decide (x3=46)) then
  (if (decide (0<i2)) then
   (if (decide ((IntKind.wrap .i64 (i2+1))<(s1.length:Int))) then
    (idx s1 (IntKind.wrap .i64 (i2 - 1))).bind fun x4=>some (!decide (x4=46))
   else
    some false)
  else
   some false)
 else
  some false)
def kZ (F:Nat) (Fw:Bool) (s1:List UInt8) (i2:Int):Option (Bool):=
 (if (!Fw) then
  (idx s1 i2).bind fun x7=>(jS F x7).bind fun r8=>some (!r8)
 else
  some false)
def fo (F:Nat) (s1:List UInt8):Int→Option (St Bool Unit Int)
 |i2=>
  (if (decide (i2<(s1.length:Int))) then
   (iN s1 i2).bind fun Fw=>
   (kZ F Fw s1 i2).bind fun t10=>
   (if t10 then
    some (.ret false)
   else
    some (.cK (IntKind.wrap .i64 (i2+1))))
  else
   some (.fF ()))
def mJ (F:Nat) (s1:List UInt8):Option (Bool):=
 ((iter (fo F s1) F 0).bind fun Lz=>
 match Lz with
 | .inr ()=>
   some (!decide (s1=([]:List UInt8)))
 | .inl n6=>
   some n6)
theorem zU {s1:List UInt8} {i2:Int} {H:AH} {K:Exit→Env→AH→Prop} {aag:Bool}
 (h:iN s1 i2=some aag)
 (kn:K .normal [(0,(.str s1)),(3,(.int .i64 i2)),(4,(.bool aag))] H):
 AX Tryz.prog mI 44 H.length (erase sA) K [(0,(.str s1)),(3,(.int .i64 i2))] H:=by
 refine dn fun K' hK=> ?_
 rw [iN.eq_1] at h
 obtain ⟨x3,bh,h⟩:=ay h
 refine bO bh ?_
 refine ck h (fun bw h=> ?_) fun bw h=> ?_
 · refine bO bw ?_
   refine ck h (fun bu h=> ?_) fun bu h=> ?_
   · refine bO bu ?_
     refine ck h (fun bV h=> ?_) fun bV h=> ?_
     · obtain ⟨x4,cu,h⟩:=ay h
       refine bO (aB bV cu) ?_
       obtain rfl:=aJ h
       exact hK _ _ _ _ _ aX ax kn
     · refine bO bV ?_
       obtain rfl:=aJ h
       exact hK _ _ _ _ _ aX ax kn
   · refine bO bu ?_
     obtain rfl:=aJ h
     exact hK _ _ _ _ _ aX ax kn
 · refine bO bw ?_
   obtain rfl:=aJ h
   exact hK _ _ _ _ _ aX ax kn
theorem zV {F:Nat} {Fw:Bool} {s1:List UInt8} {i2:Int} {H:AH} {K:Exit→Env→AH→Prop} {t9:Bool}
 (h:kZ F Fw s1 i2=some t9)
 (kn:K .normal [(0,(.str s1)),(3,(.int .i64 i2)),(41,(.bool t9))] H):
 AX Tryz.prog mI 44 H.length (erase sB) K [(0,(.str s1)),(3,(.int .i64 i2)),(4,(.bool Fw))] H:=by
 refine dn fun K' hK=> ?_
 rw [kZ.eq_1] at h
 refine aS ?_
 refine ck h (fun dD h=> ?_) fun dD h=> ?_
 · obtain ⟨x7,eB,h⟩:=ay h
   refine bO (aB dD eB) ?_
   obtain ⟨r8,cY,h⟩:=ay h
   refine bg ax (DJ cY) ?_
   refine aS ?_
   obtain rfl:=aJ h
   exact hK _ _ _ _ _ aX ax kn
 · refine bO dD ?_
   obtain rfl:=aJ h
   exact hK _ _ _ _ _ aX ax kn
theorem zW {F:Nat} {i2:Int} {s1:List UInt8} {H:AH} {K:Exit→Env→AH→Prop} {o:(Bool)⊕(Unit)}
 (h:iter (fo F s1) F i2=some o)
 (di:∀o':Unit,o= .inr o'→K (.exit 0) [(0,(.str s1))] H)
 (kr:∀o':Bool,o= .inl o'→K .ret [(2,(.bool o'))] H):
 AX Tryz.prog mI 44 H.length (.loop (erase qJ)) K [(0,(.str s1)),(3,(.int .i64 i2))] H:=by
 refine ja (fun s e H1=>match s with|i2=>e=[(0,(.str s1)),(3,(.int .i64 i2))]∧H1=H) h ⟨rfl,rfl⟩ ?_
 rintro K' i2 st e H ⟨rfl,rfl⟩ h hN hB hR hX
 rw [fo.eq_1] at h
 refine aS ?_
 refine bX h (fun hy1 h=> ?_) fun hy1 h=> ?_
 · refine aS ?_
   obtain ⟨Fw,dw,h⟩:=ay h
   refine cg ax (zU dw ?_)
   refine aS ?_
   obtain ⟨t10,cG,h⟩:=ay h
   refine cg ax (zV cG ?_)
   refine aS ?_
   refine bX h (fun ei h=> ?_) fun ei h=> ?_
   · refine aS ?_
     obtain rfl:=aJ h
     exact hX _ _ _ _ _ eI aX ax (kr _ (hR _ rfl))
   · refine aS ?_
     obtain rfl:=aJ h
     exact hN _ rfl _ _ _ _ aX ax ⟨rfl,rfl⟩
 · refine aS ?_
   obtain rfl:=aJ h
   exact hX _ _ _ _ _ eI aX ax (di _ (hB _ rfl))
theorem DK {F:Nat} {s1:List UInt8} {H0:AH} {aM:Bool} (h:mJ F s1=some aM):
 aG Tryz.prog 84 [(.str s1)] H0 fun v H'=>v=(.bool aM)∧H'=H0:=by
 refine gD Fv mI fun hcl K0 aO=> ?_
 rw [mJ.eq_1] at h
 refine aS ?_
 obtain ⟨Lz,cZ,h⟩:=ay h
 refine cg ax (zW cZ ?_ ?_)
 · rintro ⟨⟩ rfl
   try dsimp only at h
   refine aS ?_
   obtain rfl:=aJ h
   exact aO _ _ _ bE (aZ hcl (bC bx (.bool (!decide (s1=([]:List UInt8))))) bA bt ⟨rfl,rfl⟩)
 · rintro n6 rfl
   try dsimp only at h
   refine aS ?_
   obtain rfl:=aJ h
   exact aO _ _ _ bE (aZ hcl (bC bx (.bool n6)) bA bt ⟨rfl,rfl⟩)
abbrev tR:aD:=(.rg [(aj 5 (.aV (.t 1) 0)),(aj 6 (.ld (.t 5) none)),(aj 7 (.bin .eql (.t 6) (.c (.str [])))),(aC 8 7),(aF 9 (.aV (.t 1) 1) 8 true),(aF 10 (.ld (.t 9) none) 8 true),(aF 11 (.bin .eql (.t 10) (.c (.str []))) 8 true),(aj 12 (.pick (.t 8) (.t 11) (.c (.bool false))))])
abbrev tS:aD:=(.rg [(aj 32 (.aV (.t 1) 0)),(aj 33 (.ld (.t 32) none)),(aC 34 4),(aj 35 (.ixs (.t 33) (.t 34))),(aj 36 (.bin .eql (.t 35) (.c (b8 34)))),(aC 37 36),(aF 38 (.aV (.t 1) 0) 37 false),(aF 39 (.ld (.t 38) none) 37 false),(aF 40 (.mv (.t 4)) 37 false),(aF 41 (.ixs (.t 39) (.t 40)) 37 false),(aF 42 (.bin .eql (.t 41) (.c (b8 92))) 37 false),(aj 43 (.pick (.t 37) (.c (.bool true)) (.t 42)))])
abbrev sC:aD:=(.seq (.seq (.rg [(aC 25 4),(aj 26 (.aV (.t 1) 0)),(aj 27 (.ld (.t 26) none)),(aj 28 (.lens (.t 27))),(aj 29 (.bin .lss (.t 25) (.t 28)))]) (.cond (.t 29) .skip (.exit 0))) (.seq (.blk 1 (.seq (.seq (.sem (erase tS)) (.cond (.t 43) (.rg [(aC 44 3),(aj 45 (.jE 1 [(.c (b8 92))])),(aj 46 (.app 1 1 (.t 44) (.t 45))),(bk 3 46)]) .skip)) (.rg [(aC 47 3),(aj 48 (.aV (.t 1) 0)),(aj 49 (.ld (.t 48) none)),(aC 50 4),(aj 51 (.ixs (.t 49) (.t 50))),(aj 52 (.jE 1 [(.t 51)])),(aj 53 (.app 1 1 (.t 47) (.t 52))),(bk 3 53)]))) (.rg [(aC 30 4),(aj 31 (.bin .add (.t 30) (.c (.int .i64 1)))),(bk 4 31)])))
abbrev tT:aD:=(.rg [(aC 54 3),(aj 59 (.aV (.t 1) 1)),(aj 60 (.lZ (.t 59) none)),(aj 55 (.jE 1 [(.c (b8 34))])),(aj 56 (.app 1 1 (.t 54) (.t 55))),(aj 57 (.vU (.t 56))),(aj 58 (.bin .add (.t 57) (.c (.str [64])))),(aj 61 (.bin .add (.t 58) (.t 60))),(aj 62 (.bin .add (.t 61) (.c (.str [62])))),(bk 2 62)])
abbrev GK:aD:=(.seq (.rg [(aj 1 (.box (.t 0))),(aj 2 (.bf (.c (.str []))))]) (.seq (.seq (.sem (erase tR)) (.cond (.t 12) (.seq (.rg [(aj 2 (.bf (.c (.str [60,62]))))]) .ret) .skip)) (.seq (.seq (.rg [(aj 13 (.aV (.t 1) 0)),(aj 14 (.ld (.t 13) none)),(aj 15 (.call (.c (.fn 84 [])) [(.t 14)]))]) (.cond (.t 15) (.seq (.rg [(aj 16 (.aV (.t 1) 0)),(aj 17 (.ld (.t 16) none)),(aj 18 (.bin .add (.c (.str [60])) (.t 17))),(aj 19 (.bin .add (.t 18) (.c (.str [64])))),(aj 20 (.aV (.t 1) 1)),(aj 21 (.ld (.t 20) none)),(aj 22 (.bin .add (.t 19) (.t 21))),(aj 23 (.bin .add (.t 22) (.c (.str [62])))),(bk 2 23)]) .ret) .skip)) (.seq (.rg [(aj 24 (.jE 1 [(.c (b8 60)),(.c (b8 34))])),(bk 3 24)]) (.seq (.seq (.rg [(aj 4 (.bf (.c (.int .i64 0))))]) (.blk 0 (.loop (erase sC)))) (.seq (.sem (erase tT)) .ret))))))
theorem GL:bz Tryz.prog 69 63 [(.tmp 2)] (erase GK):=⟨Tryz.f69,_,rfl,by decide,rfl,by kernel_rfl,rfl,rfl⟩
abbrev kR:List Nat:=[0,1,2,3,4,12,15,29,43]
def mK (a1:aH) (i10:Int):Option (Bool):=
 (idx a1.au i10).bind fun Gq=>
 (if (decide (Gq=34)) then
  some true
 else
  some (decide (Gq=92)))
def fY (a1:aH):((List UInt8)×Int)→Option (St (List UInt8) (List UInt8) ((List UInt8)×Int))
 |(b9,i10)=>
  (if (decide (i10<(a1.au.length:Int))) then
   (mK a1 i10).bind fun t14=>
   (if t14 then
    (ct 1 b9 ([92]:List UInt8)).bind fun Dt=>
    (idx a1.au i10).bind fun GJ=>
    (ct 1 Dt ([GJ]:List UInt8)).bind fun ET=>some (.cK (ET,(IntKind.wrap .i64 (i10+1))))
   else
    (idx a1.au i10).bind fun Jc=>
    (ct 1 b9 ([Jc]:List UInt8)).bind fun SV=>some (.cK (SV,(IntKind.wrap .i64 (i10+1)))))
  else
   some (.fF b9))
def mL (LA:List UInt8) (a1:aH):Option ((List UInt8)):=
 (ct 1 LA ([34]:List UInt8)).bind fun x22=>
 (cat x22 ([64]:List UInt8)).bind fun We=>
 (cat We a1.domain).bind fun Wf=>(cat Wf ([62]:List UInt8)).bind fun Cf=>some Cf
def og (F:Nat) (a1:aH):Option ((List UInt8)):=
 (if ((decide (a1.au=([]:List UInt8)))&&(decide (a1.domain=([]:List UInt8)))) then
  some ([60,62]:List UInt8)
 else
  (mJ F a1.au).bind fun r3=>
  (if r3 then
   (cat ([60]:List UInt8) a1.au).bind fun x4=>
   (cat x4 ([64]:List UInt8)).bind fun x5=>
   (cat x5 a1.domain).bind fun x6=>(cat x6 ([62]:List UInt8)).bind fun x7=>some x7
  else
   ((iter (fY a1) F (([60,34]:List UInt8),0)).bind fun Ws=>
   match Ws with
   | .inr LA=>
     (mL LA a1).bind fun t27=>
     some t27
   | .inl _=>none)))
theorem Bl {q2:Nat} {a1:aH} {H0 H:AH} (hfr:Fr H0 H0.length [] H) (ai:H[q2]? =some [(.str a1.au),(.str a1.domain)]) (eK:H0.length≤q2) {K:Exit→Env→AH→Prop}
 (kn:∀H':AH,Fr H0 H0.length [] H'→H'[q2]? =some [(.str a1.au),(.str a1.domain)]→K .normal [(1,(.ptr q2 0)),(12,(.bool ((decide (a1.au=([]:List UInt8)))&&(decide (a1.domain=([]:List UInt8))))))] H'):
 AX Tryz.prog kR 63 H0.length (erase tR) K [(1,(.ptr q2 0))] H:=by
 refine dn fun K' hK=> ?_
 have hle:=hfr.le
 have aU:=aL ai
 refine aE ai ?_
 refine kj (fun hy1=> ?_) fun hy1=> ?_
 · refine aE (aB hy1 ai) ?_
   exact hK _ _ _ _ _ (dy hy1) ax (kn _ hfr (ai.trans rfl))
 · refine aE (aB hy1 ai) ?_
   exact hK _ _ _ _ _ (dy hy1) ax (kn _ hfr (ai.trans rfl))
theorem Bm {a1:aH} {i10:Int} {jy:Nat} {b9:List UInt8} {H0 H:AH} (hfr:Fr H0 H0.length [] H) (ai:H[jy]? =some [(.str a1.au),(.str a1.domain)]) (eK:H0.length≤jy) {K:Exit→Env→AH→Prop} {t13:Bool}
 (h:mK a1 i10=some t13)
 (kn:∀H':AH,Fr H0 H0.length [] H'→H'[jy]? =some [(.str a1.au),(.str a1.domain)]→K .normal [(1,(.ptr jy 0)),(3,(.sl .own 1 (ml b8 b9))),(4,(.int .i64 i10)),(43,(.bool t13))] H'):
 AX Tryz.prog kR 63 H0.length (erase tS) K [(1,(.ptr jy 0)),(3,(.sl .own 1 (ml b8 b9))),(4,(.int .i64 i10))] H:=by
 refine dn fun K' hK=> ?_
 have hle:=hfr.le
 have aU:=aL ai
 rw [mK.eq_1] at h
 obtain ⟨Gq,cY,h⟩:=ay h
 refine aE (aB cY ai) ?_
 refine ck h (fun cG h=> ?_) fun cG h=> ?_
 · refine aE (aB cG ai) ?_
   obtain rfl:=aJ h
   exact hK _ _ _ _ _ aX ax (kn _ hfr (ai.trans rfl))
 · refine aE (aB cG (aB cY ai)) ?_
   obtain rfl:=aJ h
   exact hK _ _ _ _ _ aX ax (kn _ hfr (ai.trans rfl))
theorem Bn {F:Nat} {i10:Int} {a1:aH} {b9:List UInt8} {q8:Nat} {H0 H:AH} (hfr:Fr H0 H0.length [] H) (ai:H[q8]? =some [(.str a1.au),(.str a1.domain)]) (eK:H0.length≤q8) {K:Exit→Env→AH→Prop} {o:((List UInt8))⊕((List UInt8))}
 (h:iter (fY a1) F (b9,i10)=some o)
 (di:∀o':(List UInt8),o= .inr o'→∀H':AH,Fr H0 H0.length [] H'→H'[q8]? =some [(.str a1.au),(.str a1.domain)]→K (.exit 0) [(1,(.ptr q8 0)),(3,(.sl .own 1 (ml b8 o')))] H'):
 AX Tryz.prog kR 63 H0.length (.loop (erase sC)) K [(1,(.ptr q8 0)),(3,(.sl .own 1 (ml b8 b9))),(4,(.int .i64 i10))] H:=by
 refine ja (fun s e H1=>match s with|(b9,i10)=>e=[(1,(.ptr q8 0)),(3,(.sl .own 1 (ml b8 b9))),(4,(.int .i64 i10))]∧Fr H0 H0.length [] H1∧H1[q8]? =some [(.str a1.au),(.str a1.domain)]) h ⟨rfl,hfr,ai⟩ ?_
 rintro K' ⟨b9,i10⟩ st e H ⟨rfl,hfr,ai⟩ h hN hB hR hX
 have hle:=hfr.le
 have aU:=aL ai
 rw [fY.eq_1] at h
 refine aE ai ?_
 refine bX h (fun eB h=> ?_) fun eB h=> ?_
 · refine aE ai ?_
   obtain ⟨t14,ei,h⟩:=ay h
   refine cg ax (Bm (b9:=b9) (jy:=q8) hfr (ai.trans rfl) br ei ?_)
   intro H hfr ai
   have hle:=hfr.le
   have aU:=aL ai
   refine aE ai ?_
   refine bX h (fun cZ h=> ?_) fun cZ h=> ?_
   · obtain ⟨Dt,fV,h⟩:=ay h
     have kH:ct 1 (ml b8 b9) [(b8 92)]=some (ml b8 Dt):=dI (f:=b8) fV
     obtain ⟨GJ,fW,h⟩:=ay h
     obtain ⟨ET,jt,h⟩:=ay h
     have mo:ct 1 (ml b8 Dt) [(b8 GJ)]=some (ml b8 ET):=dI (f:=b8) jt
     refine aE (aB kH (aB fW (aB mo ai))) ?_
     obtain rfl:=aJ h
     exact hN _ rfl _ _ _ _ aX ax ⟨rfl,hfr,(ai.trans rfl)⟩
   · obtain ⟨Jc,ju,h⟩:=ay h
     obtain ⟨SV,jv,h⟩:=ay h
     have mq:ct 1 (ml b8 b9) [(b8 Jc)]=some (ml b8 SV):=dI (f:=b8) jv
     refine aE (aB ju (aB mq ai)) ?_
     obtain rfl:=aJ h
     exact hN _ rfl _ _ _ _ aX ax ⟨rfl,hfr,(ai.trans rfl)⟩
 · refine aE ai ?_
   obtain rfl:=aJ h
   exact hX _ _ _ _ _ eI aX ax (di _ (hB _ rfl) _ hfr (ai.trans rfl))
theorem Bo {LA:List UInt8} {a1:aH} {H0 H:AH} (hfr:Fr H0 H0.length [] H) {K:Exit→Env→AH→Prop} {t26:List UInt8}
 (h:mL LA a1=some t26)
 (kn:∀H':AH,Fr H0 H0.length [] H'→K .normal [(2,(.str t26))] H'):
 AX Tryz.prog kR 63 H0.length (erase tT) K [(1,(.ep (.agg [(.str a1.au),(.str a1.domain)]) 0)),(3,(.sl .own 1 (ml b8 LA)))] H:=by
 refine dn fun K' hK=> ?_
 have hle:=hfr.le
 rw [mL.eq_1] at h
 obtain ⟨x22,n9,h⟩:=ay h
 have kI:ct 1 (ml b8 LA) [(b8 34)]=some (ml b8 x22):=dI (f:=b8) n9
 obtain ⟨We,mu,h⟩:=ay h
 obtain ⟨Wf,wI,h⟩:=ay h
 obtain ⟨Cf,Bi,h⟩:=ay h
 refine aE (aB kI (aB mu (aB wI Bi))) ?_
 obtain rfl:=aJ h
 exact hK _ _ _ _ _ aX ax (kn _ hfr)
theorem Fx {F:Nat} {a1:aH} {H0:AH} {aM:List UInt8} (h:og F a1=some aM):
 aG Tryz.prog 69 [(.agg [(.str a1.au),(.str a1.domain)])] H0 fun v H'=>v=(.str aM)∧H'=H0:=by
 refine ec GL kR [] fun hcl K0 aO H hH hfr=> ?_
 clear hH
 have hle:=hfr.le
 rw [og.eq_1] at h
 refine bR ?_
 obtain ⟨q2,eL⟩:∃q:Nat,H.length=q:=⟨_,rfl⟩
 try rw [eL]
 refine cg ax (Bl (q2:=q2) (a1:=a1) (Fr.app hfr) kg br ?_)
 intro H hfr ai
 have hle:=hfr.le
 have aU:=aL ai
 refine aE ai ?_
 refine bX h (fun bh h=> ?_) fun bh h=> ?_
 · refine aE ai ?_
   obtain rfl:=aJ h
   exact aO _ _ _ bE (bp hfr hcl (bC bx (.str ([60,62]:List UInt8))) bA bt ⟨rfl,rfl⟩)
 · refine aE ai ?_
   obtain ⟨r3,bw,h⟩:=ay h
   refine bg ax (DK bw) ?_
   refine aE ai ?_
   refine bX h (fun bu h=> ?_) fun bu h=> ?_
   · obtain ⟨x4,bV,h⟩:=ay h
     obtain ⟨x5,cu,h⟩:=ay h
     obtain ⟨x6,dw,h⟩:=ay h
     obtain ⟨x7,dD,h⟩:=ay h
     refine aE (aB bV (aB cu (aB dw (aB dD ai)))) ?_
     obtain rfl:=aJ h
     exact aO _ _ _ bE (bp hfr hcl (bC bx (.str x7)) bA bt ⟨rfl,rfl⟩)
   · refine aE ai ?_
     obtain ⟨Ws,j0,h⟩:=ay h
     refine cg ax (Bn (q8:=q2) hfr (ai.trans rfl) br j0 ?_)
     · rintro LA rfl H hfr ai
       try dsimp only at h ai
       have hle:=hfr.le
       have aU:=aL ai
       refine aE ai ?_
       refine Ov ?_
       apply AX.freeze (s:=q2) (cs:=[(.str a1.au),(.str a1.domain)]) (by exact (ai.trans rfl)) (cx.same (cx.same (cx.nil))) (by simp)
       · repeat (first|exact FZ.nil|apply FZ.ep|apply FZ.same)
       refine V7 ?_
       obtain ⟨t27,Fa,h⟩:=ay h
       refine cg ax (Bo (bn _ hfr) Fa ?_)
       intro H hfr
       have hle:=hfr.le
       refine bR ?_
       obtain rfl:=aJ h
       exact aO _ _ _ bE (bp hfr hcl (bC bx (.str t27)) bA bt ⟨rfl,rfl⟩)
abbrev sD:aD:=(.rg [(aj 3 (.aV (.t 1) 0)),(aj 4 (.ld (.t 3) none)),(aj 5 (.bin .eql (.t 4) (.c (.str [])))),(aC 6 5),(aF 7 (.aV (.t 1) 1) 6 true),(aF 8 (.ld (.t 7) none) 6 true),(aF 9 (.bin .eql (.t 8) (.c (.str []))) 6 true),(aj 10 (.pick (.t 6) (.t 9) (.c (.bool false))))])
abbrev sE:aD:=(.rg [(aj 11 (.aV (.t 1) 0)),(aj 12 (.ld (.t 11) none)),(aj 13 (.call (.c (.fn 67 [])) [(.t 12)])),(aC 14 13),(aF 15 (.aV (.t 1) 1) 14 true),(aF 16 (.ld (.t 15) none) 14 true),(aF 17 (.call (.c (.fn 68 [])) [(.t 16)]) 14 true),(aj 18 (.pick (.t 14) (.t 17) (.c (.bool false)))),(aC 19 18),(aF 20 (.ld (.t 1) (some 2)) 19 true),(aF 21 (.call (.c (.fn 69 [])) [(.t 20)]) 19 true),(aF 22 (.lens (.t 21)) 19 true),(aF 23 (.bin .leq (.t 22) (.c (.int .i64 256))) 19 true),(aj 24 (.pick (.t 19) (.t 23) (.c (.bool false)))),(bk 2 24)])
abbrev Fy:aD:=(.seq (.rg [(aj 1 (.box (.t 0))),(aj 2 (.bf (.c (.bool false))))]) (.seq (.seq (.sem (erase sD)) (.cond (.t 10) (.seq (.rg [(aj 2 (.bf (.c (.bool true))))]) .ret) .skip)) (.seq (.sem (erase sE)) .ret)))
theorem Fz:bz Tryz.prog 37 25 [(.tmp 2)] (erase Fy):=⟨Tryz.f37,_,rfl,by decide,rfl,by kernel_rfl,rfl,rfl⟩
abbrev qK:List Nat:=[0,1,2,10]
def k7 (F:Nat) (a1:aH):Option (Bool):=
 (mE F a1.au).bind fun r4=>
 (if r4 then
  (fL F a1.domain).bind fun r5=>
  (if r5 then
   (og F a1).bind fun r6=>some (decide ((r6.length:Int)≤256))
  else
   some false)
 else
  some false)
def jT (F:Nat) (a1:aH):Option (Bool):=
 (if ((decide (a1.au=([]:List UInt8)))&&(decide (a1.domain=([]:List UInt8)))) then
  some true
 else
  (k7 F a1).bind fun t8=>
  some t8)
theorem zX {q2:Nat} {a1:aH} {H0 H:AH} (hfr:Fr H0 H0.length [] H) (ai:H[q2]? =some [(.str a1.au),(.str a1.domain)]) (eK:H0.length≤q2) {K:Exit→Env→AH→Prop}
 (kn:∀H':AH,Fr H0 H0.length [] H'→H'[q2]? =some [(.str a1.au),(.str a1.domain)]→K .normal [(1,(.ptr q2 0)),(10,(.bool ((decide (a1.au=([]:List UInt8)))&&(decide (a1.domain=([]:List UInt8))))))] H'):
 AX Tryz.prog qK 25 H0.length (erase sD) K [(1,(.ptr q2 0))] H:=by
 refine dn fun K' hK=> ?_
 have hle:=hfr.le
 have aU:=aL ai
 refine aE ai ?_
 refine kj (fun hy1=> ?_) fun hy1=> ?_
 · refine aE (aB hy1 ai) ?_
   exact hK _ _ _ _ _ (dy hy1) ax (kn _ hfr (ai.trans rfl))
 · refine aE (aB hy1 ai) ?_
   exact hK _ _ _ _ _ (dy hy1) ax (kn _ hfr (ai.trans rfl))
theorem zY {F:Nat} {a1:aH} {q3:Nat} {H0 H:AH} (hfr:Fr H0 H0.length [] H) (ai:H[q3]? =some [(.str a1.au),(.str a1.domain)]) (eK:H0.length≤q3) {K:Exit→Env→AH→Prop} {t7:Bool}
 (h:k7 F a1=some t7)
 (kn:∀H':AH,Fr H0 H0.length [] H'→H'[q3]? =some [(.str a1.au),(.str a1.domain)]→K .normal [(2,(.bool t7))] H'):
 AX Tryz.prog qK 25 H0.length (erase sE) K [(1,(.ptr q3 0))] H:=by
 refine dn fun K' hK=> ?_
 have hle:=hfr.le
 have aU:=aL ai
 rw [k7.eq_1] at h
 refine aE ai ?_
 obtain ⟨r4,bw,h⟩:=ay h
 refine bg ax (DB bw) ?_
 refine aE ai ?_
 refine ck h (fun bu h=> ?_) fun bu h=> ?_
 · refine aE (aB bu ai) ?_
   obtain ⟨r5,bV,h⟩:=ay h
   refine bg ax (Cw bV) ?_
   refine aE ai ?_
   refine ck h (fun cu h=> ?_) fun cu h=> ?_
   · refine aE (aB cu ai) ?_
     obtain ⟨r6,dw,h⟩:=ay h
     refine bg ax (Fx dw) ?_
     refine aE ai ?_
     obtain rfl:=aJ h
     exact hK _ _ _ _ _ aX ax (kn _ hfr (ai.trans rfl))
   · refine aE (aB cu ai) ?_
     obtain rfl:=aJ h
     exact hK _ _ _ _ _ aX ax (kn _ hfr (ai.trans rfl))
 · refine aE (aB bu ai) ?_
   obtain rfl:=aJ h
   exact hK _ _ _ _ _ aX ax (kn _ hfr (ai.trans rfl))
theorem vl {F:Nat} {a1:aH} {H0:AH} {aM:Bool} (h:jT F a1=some aM):
 aG Tryz.prog 37 [(.agg [(.str a1.au),(.str a1.domain)])] H0 fun v H'=>v=(.bool aM)∧H'=H0:=by
 refine ec Fz qK [] fun hcl K0 aO H hH hfr=> ?_
 clear hH
 have hle:=hfr.le
 rw [jT.eq_1] at h
 refine bR ?_
 obtain ⟨q2,eL⟩:∃q:Nat,H.length=q:=⟨_,rfl⟩
 try rw [eL]
 refine cg ax (zX (q2:=q2) (a1:=a1) (Fr.app hfr) kg br ?_)
 intro H hfr ai
 have hle:=hfr.le
 have aU:=aL ai
 refine aE ai ?_
 refine bX h (fun bh h=> ?_) fun bh h=> ?_
 · refine aE ai ?_
   obtain rfl:=aJ h
   exact aO _ _ _ bE (bp hfr hcl (bC bx (.bool true)) bA bt ⟨rfl,rfl⟩)
 · refine aE ai ?_
   obtain ⟨t8,dD,h⟩:=ay h
   refine cg ax (zY (q3:=q2) hfr (ai.trans rfl) br dD ?_)
   intro H hfr ai
   have hle:=hfr.le
   have aU:=aL ai
   refine aE ai ?_
   obtain rfl:=aJ h
   exact aO _ _ _ bE (bp hfr hcl (bC bx (.bool t8)) bA bt ⟨rfl,rfl⟩)
abbrev wZ:aD:=(.rg [(aC 5 0),(aj 6 (.bin .geq (.t 5) (.c (.int .i64 0)))),(aC 7 6),(aF 8 (.mv (.t 0)) 7 true),(aF 9 (.mv (.t 1)) 7 true),(aF 10 (.bin .leq (.t 8) (.t 9)) 7 true),(aj 11 (.pick (.t 7) (.t 10) (.c (.bool false)))),(bk 4 11)])
abbrev LB:aD:=(.seq (.rg [(aj 4 (.bf (.c (.bool false))))]) (.seq (.sem (erase wZ)) .ret))
theorem LC:bz Tryz.prog 38 12 [(.tmp 4)] (erase LB):=⟨Tryz.f38,_,rfl,by decide,rfl,by kernel_rfl,rfl,rfl⟩
abbrev C3:List Nat:=[0,1,4]
def nI (Cy:Int) (s4:Int):Option (Bool):=
 some ((decide (0≤Cy))&&(decide (Cy≤s4)))
theorem DL {Cy:Int} {s4:Int} {H:AH} {K:Exit→Env→AH→Prop}
 (kn:K .normal [(4,(.bool ((decide (0≤Cy))&&(decide (Cy≤s4)))))] H):
 AX Tryz.prog C3 12 H.length (erase wZ) K [(0,(.int .i64 Cy)),(1,(.int .i64 s4)),(4,(.bool false))] H:=by
 refine dn fun K' hK=> ?_
 refine aS ?_
 refine kj (fun hy1=> ?_) fun hy1=> ?_
 · refine bO hy1 ?_
   exact hK _ _ _ _ _ (dy hy1) ax kn
 · refine bO hy1 ?_
   exact hK _ _ _ _ _ (dy hy1) ax kn
theorem pL {Cy:Int} {s4:Int} {H0:AH} {aM:Bool} (h:nI Cy s4=some aM):
 aG Tryz.prog 38 [(.int .i64 Cy),(.int .i64 s4)] H0 fun v H'=>v=(.bool aM)∧H'=H0:=by
 refine gD LC C3 fun hcl K0 aO=> ?_
 rw [nI.eq_1] at h
 refine aS ?_
 refine cg ax (DL (Cy:=Cy) (s4:=s4) ?_)
 refine aS ?_
 obtain rfl:=aJ h
 exact aO _ _ _ bE (aZ hcl (bC bx (.bool ((decide (0≤Cy))&&(decide (Cy≤s4))))) bA bt ⟨rfl,rfl⟩)
abbrev tU:aD:=(.rg [(aj 3 (.aV (.t 1) 0)),(aj 4 (.ld (.t 3) none)),(aj 5 (.bin .eql (.t 4) (.c (.str [])))),(aC 6 5),(aF 7 (.aV (.t 1) 1) 6 true),(aF 8 (.ld (.t 7) none) 6 true),(aF 9 (.bin .eql (.t 8) (.c (.str []))) 6 true),(aj 10 (.pick (.t 6) (.t 9) (.c (.bool false)))),(bk 2 10)])
abbrev GM:aD:=(.seq (.rg [(aj 1 (.box (.t 0))),(aj 2 (.bf (.c (.bool false))))]) (.seq (.sem (erase tU)) .ret))
theorem GN:bz Tryz.prog 70 11 [(.tmp 2)] (erase GM):=⟨Tryz.f70,_,rfl,by decide,rfl,by kernel_rfl,rfl,rfl⟩
abbrev yI:List Nat:=[0,1,2]
def oh (a1:aH):Option (Bool):=
 some ((decide (a1.au=([]:List UInt8)))&&(decide (a1.domain=([]:List UInt8))))
theorem Bp {q2:Nat} {a1:aH} {H0 H:AH} (hfr:Fr H0 H0.length [] H) (ai:H[q2]? =some [(.str a1.au),(.str a1.domain)]) (eK:H0.length≤q2) {K:Exit→Env→AH→Prop}
 (kn:∀H':AH,Fr H0 H0.length [] H'→H'[q2]? =some [(.str a1.au),(.str a1.domain)]→K .normal [(2,(.bool ((decide (a1.au=([]:List UInt8)))&&(decide (a1.domain=([]:List UInt8))))))] H'):
 AX Tryz.prog yI 11 H0.length (erase tU) K [(1,(.ptr q2 0)),(2,(.bool false))] H:=by
 refine dn fun K' hK=> ?_
 have hle:=hfr.le
 have aU:=aL ai
 refine aE ai ?_
 refine kj (fun hy1=> ?_) fun hy1=> ?_
 · refine aE (aB hy1 ai) ?_
   exact hK _ _ _ _ _ (dy hy1) ax (kn _ hfr (ai.trans rfl))
 · refine aE (aB hy1 ai) ?_
   exact hK _ _ _ _ _ (dy hy1) ax (kn _ hfr (ai.trans rfl))
theorem FA {a1:aH} {H0:AH} {aM:Bool} (h:oh a1=some aM):
 aG Tryz.prog 70 [(.agg [(.str a1.au),(.str a1.domain)])] H0 fun v H'=>v=(.bool aM)∧H'=H0:=by
 refine ec GN yI [] fun hcl K0 aO H hH hfr=> ?_
 clear hH
 have hle:=hfr.le
 rw [oh.eq_1] at h
 refine bR ?_
 obtain ⟨q2,eL⟩:∃q:Nat,H.length=q:=⟨_,rfl⟩
 try rw [eL]
 refine cg ax (Bp (q2:=q2) (a1:=a1) (Fr.app hfr) kg br ?_)
 intro H hfr ai
 have hle:=hfr.le
 have aU:=aL ai
 refine aE ai ?_
 obtain rfl:=aJ h
 exact aO _ _ _ bE (bp hfr hcl (bC bx (.bool ((decide (a1.au=([]:List UInt8)))&&(decide (a1.domain=([]:List UInt8)))))) bA bt ⟨rfl,rfl⟩)
abbrev tV:aD:=(.rg ((aj 3 (.aV (.t 1) 0))::(aj 4 (.ld (.t 3) (some 2)))::(aj 5 (.call (.c (.fn 37 [])) [(.t 4)]))::(aC 6 5)::(aF 7 (.aV (.t 1) 0) 6 true)::(aF 8 (.ld (.t 7) (some 2)) 6 true)::(aF 9 (.call (.c (.fn 70 [])) [(.t 8)]) 6 true)::(aF 10 (.un .not (.t 9)) 6 true)::(aj 11 (.pick (.t 6) (.t 10) (.c (.bool false))))::(aC 12 11)::(aF 13 (.aV (.t 1) 2) 12 true)::(aF 14 (.ld (.t 13) none) 12 true)::(aF 15 (.bin .geq (.t 14) (.c (.int .i64 1))) 12 true)::(aj 16 (.pick (.t 12) (.t 15) (.c (.bool false))))::(aC 17 16)::(aF 18 (.aV (.t 1) 2) 17 true)::(aF 19 (.ld (.t 18) none) 17 true)::(aF 20 (.bin .leq (.t 19) (.c (.int .i64 5))) 17 true)::(aj 21 (.pick (.t 17) (.t 20) (.c (.bool false))))::(aC 22 21)::(aF 23 (.aV (.t 1) 3) 22 true)::(aF 24 (.ld (.t 23) none) 22 true)::(aF 25 (.call (.c (.fn 38 [])) [(.t 24),(.c (.int .i64 255))]) 22 true)::(aj 26 (.pick (.t 22) (.t 25) (.c (.bool false))))::(aC 27 26)::(aF 28 (.aV (.t 1) 4) 27 true)::(aF 29 (.ld (.t 28) none) 27 true)::(aF 30 (.call (.c (.fn 38 [])) [(.t 29),(.c (.int .i64 2147483647))]) 27 true)::(aj 31 (.pick (.t 27) (.t 30) (.c (.bool false))))::(aC 32 31)::(aF 33 (.aV (.t 1) 5) 32 true)::(aF 34 (.ld (.t 33) none) 32 true)::(aF 35 (.bin .eql (.t 34) (.c (.int .i64 0))) 32 true)::(aF 36 (.mv (.t 35)) 32 true)::(aF 37 (.aV (.t 1) 5) 36 false)::(aF 38 (.ld (.t 37) none) 36 false)::(aF 39 (.bin .geq (.t 38) (.c (.int .i64 200))) 36 false)::(aF 40 (.mv (.t 39)) 36 false)::(aF 41 (.aV (.t 1) 5) 40 true)::(aF 42 (.ld (.t 41) none) 40 true)::(aF 43 (.bin .leq (.t 42) (.c (.int .i64 599))) 40 true)::(aF 44 (.pick (.t 40) (.t 43) (.c (.bool false))) 36 false)::(aF 45 (.pick (.t 36) (.c (.bool true)) (.t 44)) 32 true)::(aj 46 (.pick (.t 32) (.t 45) (.c (.bool false))))::(aC 47 46)::(aF 48 (.aV (.t 1) 6) 47 true)::(aF 49 (.ld (.t 48) none) 47 true)::(aF 50 (.lens (.t 49)) 47 true)::(aF 51 (.bin .leq (.t 50) (.c (.int .i64 100))) 47 true)::(aj 52 (.pick (.t 47) (.t 51) (.c (.bool false))))::(bk 2 52)::[]))
abbrev GO:aD:=(.seq (.rg [(aj 1 (.box (.t 0))),(aj 2 (.bf (.c (.bool false))))]) (.seq (.sem (erase tV)) .ret))
theorem GP:bz Tryz.prog 39 53 [(.tmp 2)] (erase GO):=⟨Tryz.f39,_,rfl,by decide,rfl,by kernel_rfl,rfl,rfl⟩
abbrev yJ:List Nat:=[0,1,2]
def mM (F:Nat) (r1:aW):Option (Bool):=
 (jT F r1.cv).bind fun r3=>
 (if r3 then
  (oh r1.cv).bind fun r4=>
  (if (!r4) then
   (if (decide (1≤r1.state)) then
    (if (decide (r1.state≤5)) then
     (nI r1.tries 255).bind fun r5=>
     (if r5 then
      (nI r1.next 2147483647).bind fun r6=>
      (if r6 then
       (if (decide (r1.code=0)) then
        some (decide ((r1.why.length:Int)≤100))
       else
        (if (decide (200≤r1.code)) then
         (if (decide (r1.code≤599)) then
          some (decide ((r1.why.length:Int)≤100))
         else
          some false)
        else
         some false))
      else
       some false)
     else
      some false)
    else
     some false)
   else
    some false)
  else
   some false)
 else
  some false)
def om (F:Nat) (r1:aW):Option (Bool):=
 (mM F r1).bind fun t8=>
 some t8
theorem Bq {F:Nat} {r1:aW} {q2:Nat} {H0 H:AH} (hfr:Fr H0 H0.length [] H) (ai:H[q2]? =some [(.str r1.cv.au),(.str r1.cv.domain),(.int .i64 r1.state),(.int .i64 r1.tries),(.int .i64 r1.next),(.int .i64 r1.code),(.str r1.why)]) (eK:H0.length≤q2) {K:Exit→Env→AH→Prop} {t7:Bool}
 (h:mM F r1=some t7)
 (kn:∀H':AH,Fr H0 H0.length [] H'→H'[q2]? =some [(.str r1.cv.au),(.str r1.cv.domain),(.int .i64 r1.state),(.int .i64 r1.tries),(.int .i64 r1.next),(.int .i64 r1.code),(.str r1.why)]→K .normal [(2,(.bool t7))] H'):
 AX Tryz.prog yJ 53 H0.length (erase tV) K [(1,(.ptr q2 0)),(2,(.bool false))] H:=by
 refine dn fun K' hK=> ?_
 have hle:=hfr.le
 have aU:=aL ai
 rw [mM.eq_1] at h
 refine aE ai ?_
 obtain ⟨r3,hy1,h⟩:=ay h
 refine bg ax (vl hy1) ?_
 refine aE ai ?_
 refine ck h (fun bh h=> ?_) fun bh h=> ?_
 · refine aE (aB bh ai) ?_
   obtain ⟨r4,bw,h⟩:=ay h
   refine bg ax (FA bw) ?_
   refine aE ai ?_
   refine ck h (fun bu h=> ?_) fun bu h=> ?_
   · refine aE (aB bu ai) ?_
     refine ck h (fun bV h=> ?_) fun bV h=> ?_
     · refine aE (aB bV ai) ?_
       refine ck h (fun cu h=> ?_) fun cu h=> ?_
       · refine aE (aB cu ai) ?_
         obtain ⟨r5,dw,h⟩:=ay h
         refine bg ax (pL dw) ?_
         refine aE ai ?_
         refine ck h (fun dD h=> ?_) fun dD h=> ?_
         · refine aE (aB dD ai) ?_
           obtain ⟨r6,eB,h⟩:=ay h
           refine bg ax (pL eB) ?_
           refine aE ai ?_
           refine ck h (fun cY h=> ?_) fun cY h=> ?_
           · refine aE (aB cY ai) ?_
             refine ck h (fun cG h=> ?_) fun cG h=> ?_
             · refine aE (aB cG ai) ?_
               obtain rfl:=aJ h
               exact hK _ _ _ _ _ aX ax (kn _ hfr (ai.trans rfl))
             · refine aE (aB cG ai) ?_
               refine ck h (fun ei h=> ?_) fun ei h=> ?_
               · refine aE (aB ei ai) ?_
                 refine ck h (fun cZ h=> ?_) fun cZ h=> ?_
                 · refine aE (aB cZ ai) ?_
                   obtain rfl:=aJ h
                   exact hK _ _ _ _ _ aX ax (kn _ hfr (ai.trans rfl))
                 · refine aE (aB cZ ai) ?_
                   obtain rfl:=aJ h
                   exact hK _ _ _ _ _ aX ax (kn _ hfr (ai.trans rfl))
               · refine aE (aB ei ai) ?_
                 obtain rfl:=aJ h
                 exact hK _ _ _ _ _ aX ax (kn _ hfr (ai.trans rfl))
           · refine aE (aB cY ai) ?_
             obtain rfl:=aJ h
             exact hK _ _ _ _ _ aX ax (kn _ hfr (ai.trans rfl))
         · refine aE (aB dD ai) ?_
           obtain rfl:=aJ h
           exact hK _ _ _ _ _ aX ax (kn _ hfr (ai.trans rfl))
       · refine aE (aB cu ai) ?_
         obtain rfl:=aJ h
         exact hK _ _ _ _ _ aX ax (kn _ hfr (ai.trans rfl))
     · refine aE (aB bV ai) ?_
       obtain rfl:=aJ h
       exact hK _ _ _ _ _ aX ax (kn _ hfr (ai.trans rfl))
   · refine aE (aB bu ai) ?_
     obtain rfl:=aJ h
     exact hK _ _ _ _ _ aX ax (kn _ hfr (ai.trans rfl))
 · refine aE (aB bh ai) ?_
   obtain rfl:=aJ h
   exact hK _ _ _ _ _ aX ax (kn _ hfr (ai.trans rfl))
theorem FB {F:Nat} {r1:aW} {H0:AH} {aM:Bool} (h:om F r1=some aM):
 aG Tryz.prog 39 [(.agg [(.str r1.cv.au),(.str r1.cv.domain),(.int .i64 r1.state),(.int .i64 r1.tries),(.int .i64 r1.next),(.int .i64 r1.code),(.str r1.why)])] H0 fun v H'=>v=(.bool aM)∧H'=H0:=by
 refine ec GP yJ [] fun hcl K0 aO H hH hfr=> ?_
 clear hH
 have hle:=hfr.le
 rw [om.eq_1] at h
 refine bR ?_
 obtain ⟨q2,eL⟩:∃q:Nat,H.length=q:=⟨_,rfl⟩
 try rw [eL]
 obtain ⟨t8,fV,h⟩:=ay h
 refine cg ax (Bq (q2:=q2) (Fr.app hfr) kg br fV ?_)
 intro H hfr ai
 have hle:=hfr.le
 have aU:=aL ai
 refine aE ai ?_
 obtain rfl:=aJ h
 exact aO _ _ _ bE (bp hfr hcl (bC bx (.bool t8)) bA bt ⟨rfl,rfl⟩)
abbrev sF:aD:=(.rg [(aj 4 (.aV (.t 1) 0)),(aj 5 (.ld (.t 4) (some 2))),(aj 6 (.call (.c (.fn 37 [])) [(.t 5)])),(aj 7 (.un .not (.t 6))),(aC 8 7),(aF 9 (.aV (.t 1) 2) 8 false),(aF 10 (.ld (.t 9) none) 8 false),(aF 11 (.call (.c (.fn 38 [])) [(.t 10),(.c (.int .i64 2147483647))]) 8 false),(aF 12 (.un .not (.t 11)) 8 false),(aj 13 (.pick (.t 8) (.c (.bool true)) (.t 12))),(aC 14 13),(aF 15 (.aV (.t 1) 3) 14 false),(aF 16 (.ld (.t 15) none) 14 false),(aF 17 (.call (.c (.fn 38 [])) [(.t 16),(.c (.int .i64 2147483647))]) 14 false),(aF 18 (.un .not (.t 17)) 14 false),(aj 19 (.pick (.t 14) (.c (.bool true)) (.t 18))),(aC 20 19),(aF 21 (.aV (.t 1) 5) 20 false),(aF 22 (.ld (.t 21) none) 20 false),(aF 23 (.len (.t 22)) 20 false),(aF 24 (.bin .lss (.t 23) (.c (.int .i64 1))) 20 false),(aj 25 (.pick (.t 20) (.c (.bool true)) (.t 24))),(aC 26 25),(aF 27 (.aV (.t 1) 5) 26 false),(aF 28 (.ld (.t 27) none) 26 false),(aF 29 (.len (.t 28)) 26 false),(aF 30 (.bin .gtr (.t 29) (.c (.int .i64 100))) 26 false),(aj 31 (.pick (.t 26) (.c (.bool true)) (.t 30)))])
abbrev qM:aD:=(.seq (.seq (.rg [(aC 32 3),(aj 33 (.aV (.t 1) 5)),(aj 34 (.ld (.t 33) none)),(aj 35 (.len (.t 34))),(aj 36 (.bin .lss (.t 32) (.t 35)))]) (.cond (.t 36) .skip (.exit 0))) (.seq (.blk 1 (.seq (.rg [(aj 39 (.aV (.t 1) 5)),(aj 40 (.ld (.t 39) none)),(aC 41 3),(aj 42 (.ku 7 (.t 40) (.t 41))),(aj 43 (.ld (.t 42) (some 7))),(aj 44 (.call (.c (.fn 39 [])) [(.t 43)])),(aj 45 (.un .not (.t 44)))]) (.cond (.t 45) (.seq (.rg [(aj 2 (.bf (.c (.bool false))))]) .ret) .skip))) (.rg [(aC 37 3),(aj 38 (.bin .add (.t 37) (.c (.int .i64 1)))),(bk 3 38)])))
abbrev FC:aD:=(.seq (.rg [(aj 1 (.box (.t 0))),(aj 2 (.bf (.c (.bool false))))]) (.seq (.seq (.sem (erase sF)) (.cond (.t 31) (.seq (.rg [(aj 2 (.bf (.c (.bool false))))]) .ret) .skip)) (.seq (.seq (.rg [(aj 3 (.bf (.c (.int .i64 0))))]) (.blk 0 (.loop (erase qM)))) (.seq (.rg [(aj 2 (.bf (.c (.bool true))))]) .ret))))
theorem FD:bz Tryz.prog 14 46 [(.tmp 2)] (erase FC):=⟨Tryz.f14,_,rfl,by decide,rfl,by kernel_rfl,rfl,rfl⟩
abbrev qN:List Nat:=[0,1,2,3,31,36,45]
def iO (F:Nat) (e1:ak):Option (Bool):=
 (jT F e1.av).bind fun r3=>
 (if (!r3) then
  some true
 else
  (nI e1.born 2147483647).bind fun r4=>
  (if (!r4) then
   some true
  else
   (nI e1.size 2147483647).bind fun r5=>
   (if (!r5) then
    some true
   else
    (if (decide ((e1.az.length:Int)<1)) then
     some true
    else
     some (decide (100<(e1.az.length:Int)))))))
def fq (F:Nat) (e1:ak):Int→Option (St Bool Unit Int)
 |i9=>
  (if (decide (i9<(e1.az.length:Int))) then
   (idx e1.az i9).bind fun Oz=>
   (om F Oz).bind fun gE=>
   (if (!gE) then
    some (.ret false)
   else
    some (.cK (IntKind.wrap .i64 (i9+1))))
  else
   some (.fF ()))
def gy (F:Nat) (e1:ak):Option (Bool):=
 (iO F e1).bind fun t7=>
 (if t7 then
  some false
 else
  ((iter (fq F e1) F 0).bind fun Wr=>
  match Wr with
  | .inr ()=>
    some true
  | .inl kQ=>
    some kQ))
theorem zZ {F:Nat} {e1:ak} {q2:Nat} {H0 H:AH} (hfr:Fr H0 H0.length [] H) (ai:H[q2]? =some [(.str e1.av.au),(.str e1.av.domain),(.int .i64 e1.born),(.int .i64 e1.size),(.int .u32 e1.sum),(.sl .n 7 (ml aA e1.az))]) (eK:H0.length≤q2) {K:Exit→Env→AH→Prop} {t6:Bool}
 (h:iO F e1=some t6)
 (kn:∀H':AH,Fr H0 H0.length [] H'→H'[q2]? =some [(.str e1.av.au),(.str e1.av.domain),(.int .i64 e1.born),(.int .i64 e1.size),(.int .u32 e1.sum),(.sl .n 7 (ml aA e1.az))]→K .normal [(1,(.ptr q2 0)),(31,(.bool t6))] H'):
 AX Tryz.prog qN 46 H0.length (erase sF) K [(1,(.ptr q2 0))] H:=by
 refine dn fun K' hK=> ?_
 have hle:=hfr.le
 have aU:=aL ai
 rw [iO.eq_1] at h
 refine aE ai ?_
 obtain ⟨r3,hy1,h⟩:=ay h
 refine bg ax (vl hy1) ?_
 refine aE ai ?_
 refine ck h (fun bh h=> ?_) fun bh h=> ?_
 · refine aE (aB bh ai) ?_
   obtain rfl:=aJ h
   exact hK _ _ _ _ _ aX ax (kn _ hfr (ai.trans rfl))
 · refine aE (aB bh ai) ?_
   obtain ⟨r4,bw,h⟩:=ay h
   refine bg ax (pL bw) ?_
   refine aE ai ?_
   refine ck h (fun bu h=> ?_) fun bu h=> ?_
   · refine aE (aB bu ai) ?_
     obtain rfl:=aJ h
     exact hK _ _ _ _ _ aX ax (kn _ hfr (ai.trans rfl))
   · refine aE (aB bu ai) ?_
     obtain ⟨r5,bV,h⟩:=ay h
     refine bg ax (pL bV) ?_
     refine aE ai ?_
     refine ck h (fun cu h=> ?_) fun cu h=> ?_
     · refine aE (aB cu ai) ?_
       obtain rfl:=aJ h
       exact hK _ _ _ _ _ aX ax (kn _ hfr (ai.trans rfl))
     · refine aE (aB cu ai) ?_
       refine ck h (fun dw h=> ?_) fun dw h=> ?_
       · refine aE (aB dw ai) ?_
         obtain rfl:=aJ h
         exact hK _ _ _ _ _ aX ax (kn _ hfr (ai.trans rfl))
       · refine aE (aB dw ai) ?_
         obtain rfl:=aJ h
         exact hK _ _ _ _ _ aX ax (kn _ hfr (ai.trans rfl))
theorem z1 {F:Nat} {i9:Int} {e1:ak} {q8:Nat} {H0 H:AH} (hfr:Fr H0 H0.length [] H) (ai:H[q8]? =some [(.str e1.av.au),(.str e1.av.domain),(.int .i64 e1.born),(.int .i64 e1.size),(.int .u32 e1.sum),(.sl .n 7 (ml aA e1.az))]) (eK:H0.length≤q8) {K:Exit→Env→AH→Prop} {o:(Bool)⊕(Unit)}
 (h:iter (fq F e1) F i9=some o)
 (di:∀o':Unit,o= .inr o'→∀H':AH,Fr H0 H0.length [] H'→H'[q8]? =some [(.str e1.av.au),(.str e1.av.domain),(.int .i64 e1.born),(.int .i64 e1.size),(.int .u32 e1.sum),(.sl .n 7 (ml aA e1.az))]→K (.exit 0) [] H')
 (kr:∀o':Bool,o= .inl o'→∀H':AH,Fr H0 H0.length [] H'→K .ret [(2,(.bool o'))] H'):
 AX Tryz.prog qN 46 H0.length (.loop (erase qM)) K [(1,(.ptr q8 0)),(3,(.int .i64 i9))] H:=by
 refine ja (fun s e H1=>match s with|i9=>e=[(1,(.ptr q8 0)),(3,(.int .i64 i9))]∧Fr H0 H0.length [] H1∧H1[q8]? =some [(.str e1.av.au),(.str e1.av.domain),(.int .i64 e1.born),(.int .i64 e1.size),(.int .u32 e1.sum),(.sl .n 7 (ml aA e1.az))]) h ⟨rfl,hfr,ai⟩ ?_
 rintro K' i9 st e H ⟨rfl,hfr,ai⟩ h hN hB hR hX
 have hle:=hfr.le
 have aU:=aL ai
 rw [fq.eq_1] at h
 refine aE ai ?_
 refine bX h (fun cY h=> ?_) fun cY h=> ?_
 · obtain ⟨Oz,cG,h⟩:=ay h
   refine aE (aB cG ai) ?_
   obtain ⟨gE,ei,h⟩:=ay h
   refine bg ax (FB ei) ?_
   refine aE ai ?_
   refine bX h (fun cZ h=> ?_) fun cZ h=> ?_
   · refine aE ai ?_
     obtain rfl:=aJ h
     exact hX _ _ _ _ _ eI aX ax (kr _ (hR _ rfl) _ hfr)
   · refine aE ai ?_
     obtain rfl:=aJ h
     exact hN _ rfl _ _ _ _ aX ax ⟨rfl,hfr,(ai.trans rfl)⟩
 · refine aE ai ?_
   obtain rfl:=aJ h
   exact hX _ _ _ _ _ eI WE.nil ax (di _ (hB _ rfl) _ hfr (ai.trans rfl))
theorem k8 {F:Nat} {e1:ak} {H0:AH} {aM:Bool} (h:gy F e1=some aM):
 aG Tryz.prog 14 [(.agg [(.str e1.av.au),(.str e1.av.domain),(.int .i64 e1.born),(.int .i64 e1.size),(.int .u32 e1.sum),(.sl .n 7 (ml aA e1.az))])] H0 fun v H'=>v=(.bool aM)∧H'=H0:=by
 refine ec FD qN [] fun hcl K0 aO H hH hfr=> ?_
 clear hH
 have hle:=hfr.le
 rw [gy.eq_1] at h
 refine bR ?_
 obtain ⟨q2,eL⟩:∃q:Nat,H.length=q:=⟨_,rfl⟩
 try rw [eL]
 obtain ⟨t7,dD,h⟩:=ay h
 refine cg ax (zZ (q2:=q2) (Fr.app hfr) kg br dD ?_)
 intro H hfr ai
 have hle:=hfr.le
 have aU:=aL ai
 refine aE ai ?_
 refine bX h (fun eB h=> ?_) fun eB h=> ?_
 · refine aE ai ?_
   obtain rfl:=aJ h
   exact aO _ _ _ bE (bp hfr hcl (bC bx (.bool false)) bA bt ⟨rfl,rfl⟩)
 · refine aE ai ?_
   obtain ⟨Wr,fV,h⟩:=ay h
   refine cg ax (z1 (q8:=q2) hfr (ai.trans rfl) br fV ?_ ?_)
   · rintro ⟨⟩ rfl H hfr ai
     try dsimp only at h ai
     have hle:=hfr.le
     have aU:=aL ai
     refine aE ai ?_
     obtain rfl:=aJ h
     exact aO _ _ _ bE (bp hfr hcl (bC bx (.bool true)) bA bt ⟨rfl,rfl⟩)
   · rintro kQ rfl H hfr
     try dsimp only at h
     have hle:=hfr.le
     refine bR ?_
     obtain rfl:=aJ h
     exact aO _ _ _ bE (bp hfr hcl (bC bx (.bool kQ)) bA bt ⟨rfl,rfl⟩)
abbrev j4:aD:=(.seq (.seq (.rg [(aC 10 7),(aC 11 2),(aj 12 (.bin .lss (.t 10) (.t 11)))]) (.cond (.t 12) .skip (.exit 0))) (.seq (.blk 1 (.seq (.rg [(aC 15 0),(aC 16 0),(aj 17 (.ew (.t 16))),(aj 18 (.aV (.t 17) 0)),(aj 19 (.ld (.t 18) none)),(aC 20 6),(aj 21 (.dX (.int .u8) (.t 20))),(aj 22 (.jE 1 [(.t 21)])),(aj 23 (.app 1 1 (.t 19) (.t 22))),(aj 24 (.ew (.t 15))),(aj 25 (.aV (.t 24) 0)),(cU (.st (.t 25) (.t 23) 1))]) (.rg [(aC 26 6),(aj 27 (.bin .shr (.t 26) (.c (.int .u64 8)))),(bk 6 27)]))) (.rg [(aC 13 7),(aj 14 (.bin .add (.t 13) (.c (.int .i64 1)))),(bk 7 14)])))
abbrev vN:aD:=(.seq (.rg [(aC 8 1),(aj 9 (.dX (.int .u64) (.t 8))),(bk 6 9)]) (.seq (.rg [(aj 7 (.bf (.c (.int .i64 0))))]) (.blk 0 (.loop (erase j4)))))
theorem vO:bz Tryz.prog 40 28 [] (erase vN):=⟨Tryz.f40,_,rfl,by decide,rfl,by kernel_rfl,rfl,rfl⟩
abbrev ng:List Nat:=[0,1,2,6,7,12]
def cR (nU:Int):(Int×Int×aT)→Option (St aT aT (Int×Int×aT))
 |(u5,i6,s7)=>
  (if (decide (i6<nU)) then
   (ct 1 s7.b ([(UInt8.ofInt u5)]:List UInt8)).bind fun x8=>
   some (.cK ((shr .u64 u5 8),(IntKind.wrap .i64 (i6+1)),(aT.mk x8)))
  else
   some (.fF s7))
def bF (F:Nat) (w2:aT) (fH:Int) (nU:Int):Option (aT):=
 ((iter (cR nU) F ((IntKind.wrap .u64 fH),0,w2)).bind fun Ls=>
 match Ls with
 | .inr wX=>
   some wX
 | .inl _=>none)
theorem rJ {F:Nat} {i6:Int} {nU:Int} {s7:aT} {u5:Int} {q1:Nat} {H0 H:AH} (hfr:Fr H0 H0.length [q1] H) (ai:H[q1]? =some [(.sl .own 1 (ml b8 s7.b))]) (eK:q1<H0.length) {K:Exit→Env→AH→Prop} {o:(aT)⊕(aT)}
 (h:iter (cR nU) F (u5,i6,s7)=some o)
 (di:∀o':aT,o= .inr o'→∀H':AH,Fr H0 H0.length [q1] H'→H'[q1]? =some [(.sl .own 1 (ml b8 o'.b))]→K (.exit 0) [] H'):
 AX Tryz.prog ng 28 H0.length (.loop (erase j4)) K [(0,(.ptr q1 0)),(2,(.int .i64 nU)),(6,(.int .u64 u5)),(7,(.int .i64 i6))] H:=by
 refine ja (fun s e H1=>match s with|(u5,i6,s7)=>e=[(0,(.ptr q1 0)),(2,(.int .i64 nU)),(6,(.int .u64 u5)),(7,(.int .i64 i6))]∧Fr H0 H0.length [q1] H1∧H1[q1]? =some [(.sl .own 1 (ml b8 s7.b))]) h ⟨rfl,hfr,ai⟩ ?_
 rintro K' ⟨u5,i6,s7⟩ st e H ⟨rfl,hfr,ai⟩ h hN hB hR hX
 have hle:=hfr.le
 have aU:=aL ai
 rw [cR.eq_1] at h
 refine aE ai ?_
 refine bX h (fun hy1 h=> ?_) fun hy1 h=> ?_
 · obtain ⟨x8,bh,h⟩:=ay h
   have bw:ct 1 (ml b8 s7.b) [(b8 (UInt8.ofInt u5))]=some (ml b8 x8):=dI (f:=b8) bh
   refine aE (aB bw ai) ?_
   obtain rfl:=aJ h
   exact hN _ rfl _ _ _ _ aX ax ⟨rfl,(bn _ (bn _ hfr)),bL⟩
 · refine aE ai ?_
   obtain rfl:=aJ h
   exact hX _ _ _ _ _ eI WE.nil ax (di _ (hB _ rfl) _ hfr (ai.trans rfl))
theorem bY {F:Nat} {w2:aT} {fH:Int} {nU:Int} {q1:Nat} {H0:AH} (ai:H0[q1]? =some [(.sl .own 1 (ml b8 w2.b))]) {aM:aT} (h:bF F w2 fH nU=some aM):
 aG Tryz.prog 40 [(.ptr q1 0),(.int .i64 fH),(.int .i64 nU)] H0 fun v H'=>v=(.bM [])∧H'=(H0.set q1 [(.sl .own 1 (ml b8 aM.b))]):=by
 have aU:=aL ai
 refine ec vO ng [q1] fun hcl K0 aO H hH hfr=> ?_
 rw [←hH] at ai
 clear hH
 have hle:=hfr.le
 have fc:=aL ai
 rw [bF.eq_1] at h
 refine aE ai ?_
 obtain ⟨Ls,bu,h⟩:=ay h
 refine cg ax (rJ (q1:=q1) hfr (ai.trans rfl) br bu ?_)
 · rintro wX rfl H hfr ai
   try dsimp only at h ai
   have hle:=hfr.le
   have aU:=aL ai
   refine aE ai ?_
   obtain rfl:=aJ h
   exact aO _ _ _ I2 (cc hfr hcl bx bA bt (ai.trans rfl) br jJ gC ⟨rfl,rfl⟩)
abbrev w5:aD:=(.seq (.rg [(aC 4 0),(aC 5 1),(aj 6 (.len (.t 5))),(aj 7 (.call (.c (.fn 40 [])) [(.t 4),(.t 6),(.c (.int .i64 4))]))]) (.rg [(aC 8 0),(aC 9 0),(aj 10 (.ew (.t 9))),(aj 11 (.aV (.t 10) 0)),(aj 12 (.ld (.t 11) none)),(aC 13 1),(aj 14 (.app 1 1 (.t 12) (.t 13))),(aj 15 (.ew (.t 8))),(aj 16 (.aV (.t 15) 0)),(cU (.st (.t 16) (.t 14) 1))]))
theorem w6:bz Tryz.prog 42 17 [] (erase w5):=⟨Tryz.f42,_,rfl,by decide,rfl,by kernel_rfl,rfl,rfl⟩
abbrev w9:List Nat:=[0,1]
def dM (F:Nat) (w2:aT) (b3:List UInt8):Option (aT):=
 (bF F w2 (b3.length:Int) 4).bind fun r4=>(ct 1 r4.b b3).bind fun x5=>some (aT.mk x5)
theorem jc {F:Nat} {w2:aT} {b3:List UInt8} {q1:Nat} {H0:AH} (ai:H0[q1]? =some [(.sl .own 1 (ml b8 w2.b))]) {aM:aT} (h:dM F w2 b3=some aM):
 aG Tryz.prog 42 [(.ptr q1 0),(.sl .n 1 (ml b8 b3))] H0 fun v H'=>v=(.bM [])∧H'=(H0.set q1 [(.sl .own 1 (ml b8 aM.b))]):=by
 have aU:=aL ai
 refine ec w6 w9 [q1] fun hcl K0 aO H hH hfr=> ?_
 rw [←hH] at ai
 clear hH
 have hle:=hfr.le
 have fc:=aL ai
 rw [dM.eq_1] at h
 refine aE ai ?_
 obtain ⟨r4,hy1,h⟩:=ay h
 refine bg ax (bY (ai.trans rfl) hy1) ?_
 refine aE ai ?_
 obtain ⟨x5,bh,h⟩:=ay h
 have bw:ct 1 (ml b8 r4.b) (ml b8 b3)=some (ml b8 x5):=dI (f:=b8) bh
 refine aE (aB bw ai) ?_
 obtain rfl:=aJ h
 exact aO _ _ _ I2 (cc (bn _ (bn _ (bn _ hfr))) hcl bx bA bt bL br jJ gC ⟨rfl,rfl⟩)
abbrev GQ:aD:=(.seq (.rg [(aj 3 (.box (.t 1)))]) (.seq (.rg [(aC 4 0),(aj 5 (.aV (.t 3) 0)),(aj 6 (.ld (.t 5) none)),(aj 7 (.dX .sb (.t 6))),(aj 8 (.call (.c (.fn 42 [])) [(.t 4),(.t 7)]))]) (.rg [(aC 9 0),(aj 10 (.aV (.t 3) 1)),(aj 11 (.ld (.t 10) none)),(aj 12 (.dX .sb (.t 11))),(aj 13 (.call (.c (.fn 42 [])) [(.t 9),(.t 12)]))])))
theorem GR:bz Tryz.prog 41 14 [] (erase GQ):=⟨Tryz.f41,_,rfl,by decide,rfl,by kernel_rfl,rfl,rfl⟩
abbrev GS:List Nat:=[0,1,3]
def lO (F:Nat) (w2:aT) (a3:aH):Option (aT):=
 (dM F w2 a3.au).bind fun r4=>(dM F r4 a3.domain).bind fun r5=>some r5
theorem xb {F:Nat} {w2:aT} {a3:aH} {q1:Nat} {H0:AH} (ai:H0[q1]? =some [(.sl .own 1 (ml b8 w2.b))]) {aM:aT} (h:lO F w2 a3=some aM):
 aG Tryz.prog 41 [(.ptr q1 0),(.agg [(.str a3.au),(.str a3.domain)])] H0 fun v H'=>v=(.bM [])∧H'=(H0.set q1 [(.sl .own 1 (ml b8 aM.b))]):=by
 have aU:=aL ai
 refine ec GR GS [q1] fun hcl K0 aO H hH hfr=> ?_
 rw [←hH] at ai
 clear hH
 have hle:=hfr.le
 have fc:=aL ai
 rw [lO.eq_1] at h
 refine aE ai ?_
 obtain ⟨r4,hy1,h⟩:=ay h
 refine bg ax (jc (q1:=q1) (ez (ai.trans rfl)) hy1) ?_
 refine aE ai ?_
 obtain ⟨r5,bh,h⟩:=ay h
 refine bg ax (jc (q1:=q1) bL bh) ?_
 refine aE ai ?_
 obtain rfl:=aJ h
 exact aO _ _ _ I2 (cc (bn _ (bn _ (Fr.app hfr))) hcl bx bA bt bL br jJ gC ⟨rfl,rfl⟩)
abbrev vm:aD:=(.seq (.seq (.rg [(aC 19 5),(aj 20 (.bin .lss (.t 19) (.c (.int .i64 8))))]) (.cond (.t 20) .skip (.exit 2))) (.seq (.blk 3 (.seq (.rg [(aC 23 3),(aj 24 (.bin .and (.t 23) (.c (.int .u32 1)))),(aj 25 (.bin .eql (.t 24) (.c (.int .u32 1))))]) (.cond (.t 25) (.rg [(aC 26 3),(aj 27 (.bin .shr (.t 26) (.c (.int .u64 1)))),(aj 28 (.bin .xor (.t 27) (.c (.int .u32 3988292384)))),(bk 3 28)]) (.rg [(aC 29 3),(aj 30 (.bin .shr (.t 29) (.c (.int .u64 1)))),(bk 3 30)])))) (.rg [(aC 21 5),(aj 22 (.bin .add (.t 21) (.c (.int .i64 1)))),(bk 5 22)])))
abbrev vn:aD:=(.seq (.seq (.rg [(aC 6 4),(aC 7 0),(aj 8 (.len (.t 7))),(aj 9 (.bin .lss (.t 6) (.t 8)))]) (.cond (.t 9) .skip (.exit 0))) (.seq (.blk 1 (.seq (.rg [(aC 12 3),(aC 13 0),(aC 14 4),(aj 15 (.ku 1 (.t 13) (.t 14))),(aj 16 (.ld (.t 15) none)),(aj 17 (.dX (.int .u32) (.t 16))),(aj 18 (.bin .xor (.t 12) (.t 17))),(bk 3 18)]) (.seq (.rg [(aj 5 (.bf (.c (.int .i64 0))))]) (.blk 2 (.loop (erase vm)))))) (.rg [(aC 10 4),(aj 11 (.bin .add (.t 10) (.c (.int .i64 1)))),(bk 4 11)])))
abbrev LD:aD:=(.seq (.rg [(aj 2 (.bf (.c (.int .u32 0))))]) (.seq (.rg [(aj 3 (.bf (.c (.int .u32 4294967295))))]) (.seq (.seq (.rg [(aj 4 (.bf (.c (.int .i64 0))))]) (.blk 0 (.loop (erase vn)))) (.seq (.rg [(aC 31 3),(aj 32 (.un .xor (.t 31))),(bk 2 32)]) .ret))))
theorem LF:bz Tryz.prog 71 33 [(.tmp 2)] (erase LD):=⟨Tryz.f71,_,rfl,by decide,rfl,by kernel_rfl,rfl,rfl⟩
abbrev xd:List Nat:=[0,2,3,4,5,9,20,25]
def gz:(Int×Int)→Option (St Int Int (Int×Int))
 |(c5,Jr)=>
  (if (decide (Jr<8)) then
   (if (decide ((yB .u32 c5 1)=1)) then
    some (.cK ((tC .u32 (shr .u32 c5 1) 3988292384),(IntKind.wrap .i64 (Jr+1))))
   else
    some (.cK ((shr .u32 c5 1),(IntKind.wrap .i64 (Jr+1)))))
  else
   some (.fF c5))
def jU (F:Nat) (b1:List UInt8):(Int×Int)→Option (St Int Int (Int×Int))
 |(c2,i3)=>
  (if (decide (i3<(b1.length:Int))) then
   (idx b1 i3).bind fun x4=>
   ((iter gz F ((tC .u32 c2 (IntKind.wrap .u32 (x4.toNat:Int))),0)).bind fun o9=>
   match o9 with
   | .inr c8=>
     some (.cK (c8,(IntKind.wrap .i64 (i3+1))))
   | .inl _=>none)
  else
   some (.fF c2))
def tW (F:Nat) (b1:List UInt8):Option (Int):=
 ((iter (jU F b1) F (4294967295,0)).bind fun EZ=>
 match EZ with
 | .inr c11=>
   some (wC .u32 c11)
 | .inl _=>none)
theorem DM {F:Nat} {Jr:Int} {c5:Int} {b1:List UInt8} {i3:Int} {H:AH} {K:Exit→Env→AH→Prop} {o:(Int)⊕(Int)}
 (h:iter gz F (c5,Jr)=some o)
 (kb2:∀o':Int,o= .inr o'→K (.exit 2) [(0,(.sl .n 1 (ml b8 b1))),(3,(.int .u32 o')),(4,(.int .i64 i3))] H):
 AX Tryz.prog xd 33 H.length (.loop (erase vm)) K [(0,(.sl .n 1 (ml b8 b1))),(3,(.int .u32 c5)),(4,(.int .i64 i3)),(5,(.int .i64 Jr))] H:=by
 refine ja (fun s e H1=>match s with|(c5,Jr)=>e=[(0,(.sl .n 1 (ml b8 b1))),(3,(.int .u32 c5)),(4,(.int .i64 i3)),(5,(.int .i64 Jr))]∧H1=H) h ⟨rfl,rfl⟩ ?_
 rintro K' ⟨c5,Jr⟩ st e H ⟨rfl,rfl⟩ h hN hB hR hX
 rw [gz.eq_1] at h
 refine aS ?_
 refine bX h (fun bw h=> ?_) fun bw h=> ?_
 · refine aS ?_
   refine bX h (fun bu h=> ?_) fun bu h=> ?_
   · refine aS ?_
     obtain rfl:=aJ h
     exact hN _ rfl _ _ _ _ aX ax ⟨rfl,rfl⟩
   · refine aS ?_
     obtain rfl:=aJ h
     exact hN _ rfl _ _ _ _ aX ax ⟨rfl,rfl⟩
 · refine aS ?_
   obtain rfl:=aJ h
   exact hX _ _ _ _ _ eI aX ax (kb2 _ (hB _ rfl))
theorem DN {F:Nat} {i3:Int} {b1:List UInt8} {c2:Int} {H:AH} {K:Exit→Env→AH→Prop} {o:(Int)⊕(Int)}
 (h:iter (jU F b1) F (c2,i3)=some o)
 (di:∀o':Int,o= .inr o'→K (.exit 0) [(3,(.int .u32 o'))] H):
 AX Tryz.prog xd 33 H.length (.loop (erase vn)) K [(0,(.sl .n 1 (ml b8 b1))),(3,(.int .u32 c2)),(4,(.int .i64 i3))] H:=by
 refine ja (fun s e H1=>match s with|(c2,i3)=>e=[(0,(.sl .n 1 (ml b8 b1))),(3,(.int .u32 c2)),(4,(.int .i64 i3))]∧H1=H) h ⟨rfl,rfl⟩ ?_
 rintro K' ⟨c2,i3⟩ st e H ⟨rfl,rfl⟩ h hN hB hR hX
 rw [jU.eq_1] at h
 refine aS ?_
 refine bX h (fun hy1 h=> ?_) fun hy1 h=> ?_
 · obtain ⟨x4,bh,h⟩:=ay h
   refine bO bh ?_
   obtain ⟨o9,bV,h⟩:=ay h
   refine cg ax (DM (b1:=b1) (i3:=i3) bV ?_)
   · rintro c8 rfl
     try dsimp only at h
     refine aS ?_
     obtain rfl:=aJ h
     exact hN _ rfl _ _ _ _ aX ax ⟨rfl,rfl⟩
 · refine aS ?_
   obtain rfl:=aJ h
   exact hX _ _ _ _ _ eI aX ax (di _ (hB _ rfl))
theorem Js {F:Nat} {b1:List UInt8} {H0:AH} {aM:Int} (h:tW F b1=some aM):
 aG Tryz.prog 71 [(.sl .n 1 (ml b8 b1))] H0 fun v H'=>v=(.int .u32 aM)∧H'=H0:=by
 refine gD LF xd fun hcl K0 aO=> ?_
 rw [tW.eq_1] at h
 refine aS ?_
 obtain ⟨EZ,cu,h⟩:=ay h
 refine cg ax (DN cu ?_)
 · rintro c11 rfl
   try dsimp only at h
   refine aS ?_
   obtain rfl:=aJ h
   exact aO _ _ _ bE (aZ hcl (bC bx (.int .u32 (wC .u32 c11))) bA bt ⟨rfl,rfl⟩)
abbrev Jt:aD:=(.seq (.rg [(aj 2 (.bf (.c (.sl .ex 1 []))))]) (.seq (.rg [(aC 4 0),(aj 5 (.call (.c (.fn 71 [])) [(.t 4)])),(bk 3 5)]) (.seq (.rg [(aj 6 (.jE 1 [])),(aC 7 0),(aj 8 (.app 1 1 (.t 6) (.t 7))),(aC 9 3),(aj 10 (.dX (.int .u8) (.t 9))),(aC 11 3),(aj 12 (.bin .shr (.t 11) (.c (.int .u64 8)))),(aj 13 (.dX (.int .u8) (.t 12))),(aC 14 3),(aj 15 (.bin .shr (.t 14) (.c (.int .u64 16)))),(aj 16 (.dX (.int .u8) (.t 15))),(aC 17 3),(aj 18 (.bin .shr (.t 17) (.c (.int .u64 24)))),(aj 19 (.dX (.int .u8) (.t 18))),(aj 20 (.jE 1 [(.t 10),(.t 13),(.t 16),(.t 19)])),(aj 21 (.app 1 1 (.t 8) (.t 20))),(bk 2 21)]) .ret)))
theorem Ju:bz Tryz.prog 43 22 [(.tmp 2)] (erase Jt):=⟨Tryz.f43,_,rfl,by decide,rfl,by kernel_rfl,rfl,rfl⟩
abbrev Jv:List Nat:=[0,2,3]
def nJ (F:Nat) (b1:List UInt8):Option ((List UInt8)):=
 (tW F b1).bind fun r2=>
 (ct 1 ([]:List UInt8) b1).bind fun x3=>
 (ct 1 x3 ([(UInt8.ofInt r2),(UInt8.ofInt (shr .u32 r2 8)),(UInt8.ofInt (shr .u32 r2 16)),(UInt8.ofInt (shr .u32 r2 24))]:List UInt8)).bind fun x4=>some x4
theorem yK {F:Nat} {b1:List UInt8} {H0:AH} {aM:List UInt8} (h:nJ F b1=some aM):
 aG Tryz.prog 43 [(.sl .n 1 (ml b8 b1))] H0 fun v H'=>v=(.sl .own 1 (ml b8 aM))∧H'=H0:=by
 refine gD Ju Jv fun hcl K0 aO=> ?_
 rw [nJ.eq_1] at h
 refine aS ?_
 obtain ⟨r2,hy1,h⟩:=ay h
 refine bg ax (Js hy1) ?_
 refine aS ?_
 obtain ⟨x3,bh,h⟩:=ay h
 have bw:ct 1 [] (ml b8 b1)=some (ml b8 x3):=dI (f:=b8) bh
 obtain ⟨x4,bu,h⟩:=ay h
 have bV:ct 1 (ml b8 x3) [(b8 (UInt8.ofInt r2)),(b8 (UInt8.ofInt (shr .u32 r2 8))),(b8 (UInt8.ofInt (shr .u32 r2 16))),(b8 (UInt8.ofInt (shr .u32 r2 24)))]=some (ml b8 x4):=dI (f:=b8) bu
 refine bO (aB bw bV) ?_
 obtain rfl:=aJ h
 exact aO _ _ _ bE (aZ hcl (bC bx (.sl .own 1 (ml b8 x4))) bA bt ⟨rfl,rfl⟩)
end Go.Proofs.cF
end
section
set_option maxRecDepth 100000
namespace Go.Proofs.cF
open Go Go.Am Go.Proofs
open Nat renaming reduceEqDiff→nA,reduceLT→nB,reduceLeDiff→nC,reduceAdd→nD,reduceSub→nE,reduceMul→nF,reduceBEq→nG
set_option maxHeartbeats 2000000
abbrev oO:aD:=(.seq (.seq (.rg [(aC 35 4),(aj 36 (.aV (.t 1) 5)),(aj 37 (.ld (.t 36) none)),(aj 38 (.len (.t 37))),(aj 39 (.bin .lss (.t 35) (.t 38)))]) (.cond (.t 39) .skip (.exit 0))) (.seq (.blk 1 (.seq (.rg [(aj 42 (.aV (.t 1) 5)),(aj 43 (.ld (.t 42) none)),(aC 44 4),(aj 45 (.ku 7 (.t 43) (.t 44))),(aj 46 (.ld (.t 45) (some 7))),(aj 5 (.alloc [(.str []),(.str []),(.int .i64 0),(.int .i64 0),(.int .i64 0),(.int .i64 0),(.str [])])),(cU (.st (.t 5) (.t 46) 7))]) (.seq (.rg [(aC 47 3),(aj 48 (.aV (.t 5) 0)),(aj 49 (.ld (.t 48) (some 2))),(aj 50 (.call (.c (.fn 41 [])) [(.t 47),(.t 49)]))]) (.seq (.rg [(aC 51 3),(aj 52 (.aV (.t 5) 2)),(aj 53 (.ld (.t 52) none)),(aj 54 (.call (.c (.fn 40 [])) [(.t 51),(.t 53),(.c (.int .i64 1))]))]) (.seq (.rg [(aC 55 3),(aj 56 (.aV (.t 5) 3)),(aj 57 (.ld (.t 56) none)),(aj 58 (.call (.c (.fn 40 [])) [(.t 55),(.t 57),(.c (.int .i64 1))]))]) (.seq (.rg [(aC 59 3),(aj 60 (.aV (.t 5) 4)),(aj 61 (.ld (.t 60) none)),(aj 62 (.call (.c (.fn 40 [])) [(.t 59),(.t 61),(.c (.int .i64 4))]))]) (.seq (.rg [(aC 63 3),(aj 64 (.aV (.t 5) 5)),(aj 65 (.ld (.t 64) none)),(aj 66 (.call (.c (.fn 40 [])) [(.t 63),(.t 65),(.c (.int .i64 2))]))]) (.rg [(aC 67 3),(aj 68 (.aV (.t 5) 6)),(aj 69 (.ld (.t 68) none)),(aj 70 (.dX .sb (.t 69))),(aj 71 (.call (.c (.fn 42 [])) [(.t 67),(.t 70)]))])))))))) (.rg [(aC 40 4),(aj 41 (.bin .add (.t 40) (.c (.int .i64 1)))),(bk 4 41)])))
abbrev DO:aD:=(.seq (.rg [(aj 1 (.box (.t 0))),(aj 2 (.bf (.c (.sl .ex 1 []))))]) (.seq (.seq (.rg [(aj 6 (.ld (.t 1) (some 6))),(aj 7 (.call (.c (.fn 14 [])) [(.t 6)])),(aj 8 (.un .not (.t 7)))]) (.cond (.t 8) (.seq (.rg [(aj 2 (.bf (.c (.sl .ex 1 []))))]) .ret) .skip)) (.seq (.rg [(aj 9 (.build [(.sl .ex 1 [])] [])),(aj 10 (.box (.t 9))),(bk 3 10)]) (.seq (.rg [(aC 11 3),(aj 12 (.call (.c (.fn 40 [])) [(.t 11),(.c (.int .i64 1)),(.c (.int .i64 1))]))]) (.seq (.rg [(aC 13 3),(aj 14 (.aV (.t 1) 0)),(aj 15 (.ld (.t 14) (some 2))),(aj 16 (.call (.c (.fn 41 [])) [(.t 13),(.t 15)]))]) (.seq (.rg [(aC 17 3),(aj 18 (.aV (.t 1) 2)),(aj 19 (.ld (.t 18) none)),(aj 20 (.call (.c (.fn 40 [])) [(.t 17),(.t 19),(.c (.int .i64 4))]))]) (.seq (.rg [(aC 21 3),(aj 22 (.aV (.t 1) 3)),(aj 23 (.ld (.t 22) none)),(aj 24 (.call (.c (.fn 40 [])) [(.t 21),(.t 23),(.c (.int .i64 4))]))]) (.seq (.rg [(aC 25 3),(aj 26 (.aV (.t 1) 4)),(aj 27 (.ld (.t 26) none)),(aj 28 (.dX (.int .i64) (.t 27))),(aj 29 (.call (.c (.fn 40 [])) [(.t 25),(.t 28),(.c (.int .i64 4))]))]) (.seq (.rg [(aC 30 3),(aj 31 (.aV (.t 1) 5)),(aj 32 (.ld (.t 31) none)),(aj 33 (.len (.t 32))),(aj 34 (.call (.c (.fn 40 [])) [(.t 30),(.t 33),(.c (.int .i64 1))]))]) (.seq (.seq (.rg [(aj 4 (.bf (.c (.int .i64 0))))]) (.blk 0 (.loop (erase oO)))) (.seq (.rg [(aC 72 3),(aj 73 (.ew (.t 72))),(aj 74 (.aV (.t 73) 0)),(aj 75 (.ld (.t 74) none)),(aj 76 (.call (.c (.fn 43 [])) [(.t 75)])),(bk 2 76)]) .ret)))))))))))
theorem DP:bz Tryz.prog 15 77 [(.tmp 2)] (erase DO):=⟨Tryz.f15,_,rfl,by decide,rfl,by kernel_rfl,rfl,rfl⟩
abbrev vo:List Nat:=[0,1,2,3,4,5,8,39]
def dS (F:Nat) (e1:ak):(Int×aT)→Option (St (List UInt8) aT (Int×aT))
 |(i11,LG)=>
  (if (decide (i11<(e1.az.length:Int))) then
   (idx e1.az i11).bind fun AP=>
   (lO F LG AP.cv).bind fun kP=>
   (bF F kP AP.state 1).bind fun LH=>
   (bF F LH AP.tries 1).bind fun r16=>
   (bF F r16 AP.next 4).bind fun Be=>
   (bF F Be AP.code 2).bind fun ny=>
   (dM F ny AP.why).bind fun rF=>some (.cK ((IntKind.wrap .i64 (i11+1)),rF))
  else
   some (.fF LG))
def iW (F:Nat) (e1:ak):Option ((List UInt8)):=
 (gy F e1).bind fun r2=>
 (if (!r2) then
  some ([]:List UInt8)
 else
  (bF F (aT.mk ([]:List UInt8)) 1 1).bind fun r3=>
  (lO F r3 e1.av).bind fun r4=>
  (bF F r4 e1.born 4).bind fun r5=>
  (bF F r5 e1.size 4).bind fun r6=>
  (bF F r6 (IntKind.wrap .i64 e1.sum) 4).bind fun r7=>
  (bF F r7 (e1.az.length:Int) 1).bind fun r8=>
  ((iter (dS F e1) F (0,r8)).bind fun o23=>
  match o23 with
  | .inr gW=>
    (nJ F gW.b).bind fun r22=>some r22
  | .inl _=>none))
theorem yj {F:Nat} {i11:Int} {e1:ak} {LG:aT} {q9:Nat} {iK:Nat} {H0 H:AH} (hfr:Fr H0 H0.length [] H) (ai:H[q9]? =some [(.str e1.av.au),(.str e1.av.domain),(.int .i64 e1.born),(.int .i64 e1.size),(.int .u32 e1.sum),(.sl .n 7 (ml aA e1.az))]) (aq:H[iK]? =some [(.sl .own 1 (ml b8 LG.b))]) (eK:H0.length≤q9) (hi1:H0.length≤iK) (hi2:q9≠iK) {K:Exit→Env→AH→Prop} {o:((List UInt8))⊕(aT)}
 (h:iter (dS F e1) F (i11,LG)=some o)
 (di:∀o':aT,o= .inr o'→∀H':AH,Fr H0 H0.length [] H'→H'[q9]? =some [(.str e1.av.au),(.str e1.av.domain),(.int .i64 e1.born),(.int .i64 e1.size),(.int .u32 e1.sum),(.sl .n 7 (ml aA e1.az))]→H'[iK]? =some [(.sl .own 1 (ml b8 o'.b))]→K (.exit 0) [(3,(.ptr iK 0))] H'):
 AX Tryz.prog vo 77 H0.length (.loop (erase oO)) K [(1,(.ptr q9 0)),(3,(.ptr iK 0)),(4,(.int .i64 i11))] H:=by
 refine ja (fun s e H1=>match s with|(i11,LG)=>e=[(1,(.ptr q9 0)),(3,(.ptr iK 0)),(4,(.int .i64 i11))]∧Fr H0 H0.length [] H1∧H1[q9]? =some [(.str e1.av.au),(.str e1.av.domain),(.int .i64 e1.born),(.int .i64 e1.size),(.int .u32 e1.sum),(.sl .n 7 (ml aA e1.az))]∧H1[iK]? =some [(.sl .own 1 (ml b8 LG.b))]) h ⟨rfl,hfr,ai,aq⟩ ?_
 rintro K' ⟨i11,LG⟩ st e H ⟨rfl,hfr,ai,aq⟩ h hN hB hR hX
 have hle:=hfr.le
 have aU:=aL ai
 have cE:=aL aq
 rw [dS.eq_1] at h
 refine aE (aB ai aq) ?_
 refine bX h (fun eB h=> ?_) fun eB h=> ?_
 · obtain ⟨AP,cY,h⟩:=ay h
   refine aE (aB cY (aB ai aq)) ?_
   obtain ⟨kP,cG,h⟩:=ay h
   refine bg ax (xb (q1:=iK) (aY (ez (aq.trans rfl))) cG) ?_
   refine aE (aB ai aq) ?_
   obtain ⟨LH,ei,h⟩:=ay h
   refine bg ax (bY (q1:=iK) bL ei) ?_
   refine aE (aB ai aq) ?_
   obtain ⟨r16,cZ,h⟩:=ay h
   refine bg ax (bY (q1:=iK) bL cZ) ?_
   refine aE (aB ai aq) ?_
   obtain ⟨Be,fV,h⟩:=ay h
   refine bg ax (bY (q1:=iK) bL fV) ?_
   refine aE (aB ai aq) ?_
   obtain ⟨ny,kH,h⟩:=ay h
   refine bg ax (bY (q1:=iK) bL kH) ?_
   refine aE (aB ai aq) ?_
   obtain ⟨rF,fW,h⟩:=ay h
   refine bg ax (jc (q1:=iK) bL fW) ?_
   refine aE (aB ai aq) ?_
   obtain rfl:=aJ h
   exact hN _ rfl _ _ _ _ aX ax ⟨rfl,(bn _ (bn _ (bn _ (bn _ (bn _ (bn _ (bn _ (Fr.app hfr)))))))),(aY (aY (aY (aY (aY (aY (aY (ez (ai.trans rfl))))))))),bL⟩
 · refine aE (aB ai aq) ?_
   obtain rfl:=aJ h
   exact hX _ _ _ _ _ eI aX ax (di _ (hB _ rfl) _ hfr (ai.trans rfl) (aq.trans rfl))
theorem tX {F:Nat} {e1:ak} {H0:AH} {aM:List UInt8} (h:iW F e1=some aM):
 aG Tryz.prog 15 [(.agg [(.str e1.av.au),(.str e1.av.domain),(.int .i64 e1.born),(.int .i64 e1.size),(.int .u32 e1.sum),(.sl .n 7 (ml aA e1.az))])] H0 fun v H'=>v=(.sl .own 1 (ml b8 aM))∧H'=H0:=by
 refine ec DP vo [] fun hcl K0 aO H hH hfr=> ?_
 clear hH
 have hle:=hfr.le
 rw [iW.eq_1] at h
 refine bR ?_
 obtain ⟨r2,hy1,h⟩:=ay h
 refine bg ax (k8 hy1) ?_
 refine bR ?_
 refine bX h (fun bh h=> ?_) fun bh h=> ?_
 · refine bR ?_
   obtain rfl:=aJ h
   exact aO _ _ _ bE (bp (Fr.app hfr) hcl (bC bx (.sl .ex 1 [])) bA bt ⟨rfl,rfl⟩)
 · refine bR ?_
   obtain ⟨r3,bw,h⟩:=ay h
   refine bg (eV.set (q:=(H.length+1)) (cs':=[(.sl .own 1 [])]) kg gC) (bY (q1:=(H.length+1)) bL bw) ?_
   refine bR ?_
   obtain ⟨r4,bu,h⟩:=ay h
   refine bg ax (xb (q1:=(H.length+1)) bL bu) ?_
   refine bR ?_
   obtain ⟨r5,bV,h⟩:=ay h
   refine bg ax (bY (q1:=(H.length+1)) bL bV) ?_
   refine bR ?_
   obtain ⟨r6,cu,h⟩:=ay h
   refine bg ax (bY (q1:=(H.length+1)) bL cu) ?_
   refine bR ?_
   obtain ⟨r7,dw,h⟩:=ay h
   refine bg ax (bY (q1:=(H.length+1)) bL dw) ?_
   refine bR ?_
   obtain ⟨r8,dD,h⟩:=ay h
   refine bg ax (bY (q1:=(H.length+1)) bL dD) ?_
   refine bR ?_
   obtain ⟨iK,Zs⟩:∃q:Nat,(H.length+1)=q:=⟨_,rfl⟩
   try rw [Zs]
   obtain ⟨q9,ab3⟩:∃q:Nat,H.length=q:=⟨_,rfl⟩
   try rw [ab3]
   try rw [show q9+1=iK from by omega]
   obtain ⟨o23,jt,h⟩:=ay h
   refine cg ax (yj (q9:=q9) (iK:=iK) (bn _ (bn _ (bn _ (bn _ (bn _ (bn _ (bn _ (Fr.app (Fr.app hfr))))))))) (aY (aY (aY (aY (aY (aY (aY (ez kg)))))))) bL br br br jt ?_)
   · rintro gW rfl H hfr ai aq
     try dsimp only at h ai aq
     have hle:=hfr.le
     have aU:=aL ai
     have cE:=aL aq
     refine aE (aB ai aq) ?_
     obtain ⟨r22,mo,h⟩:=ay h
     refine bg ax (yK mo) ?_
     refine aE (aB ai aq) ?_
     obtain rfl:=aJ h
     exact aO _ _ _ bE (bp hfr hcl (bC bx (.sl .own 1 (ml b8 r22))) bA bt ⟨rfl,rfl⟩)
end Go.Proofs.cF
end
section
namespace Go.Am
open Go
theorem wr {n:Int} (h1: -9223372036854775808≤n) (h2:n≤9223372036854775807):IntKind.wrap .i64 n=n:=by
 simp only [IntKind.wrap,IntKind.bits,IntKind.signed,Bool.true_and,decide_eq_true_eq,Int.reducePow,Nat.reduceSub,ge_iff_le]
 split<;>omega
theorem FE {α:Type} (l:List α) (n:Nat):idx l (n:Int)=l[n]? :=by simp [idx]
theorem bJ {α:Type} {l:List α} {n:Nat} {x:α} (h:l[n]? =some x):idx l (n:Int)=some x:=by rw [FE,h]
theorem Zt {α:Type} {l:List α} {n:Nat} (h:n<l.length):idx l (n:Int)=some l[n]:=by rw [FE,List.getElem?_eq_getElem h]
theorem aeO {α:Type} {l:List α} {i:Int} (h0:0≤i) (h1:i<l.length):∃x,idx l i=some x∧l[i.toNat]? =some x:=by
 obtain ⟨n,rfl⟩:=Int.eq_ofNat_of_zero_le h0
 have hn:n<l.length:=by omega
 exact ⟨l[n],Zt hn,by simp [List.getElem?_eq_getElem hn]⟩
theorem uI {α:Type} {l:List α} {i j:Nat} (h:i≤j) (h2:j≤l.length):sub l (i:Int) (j:Int)=some ((l.take j).drop i):=by
 unfold sub;rw [if_pos (by omega)];simp
theorem Br {α:Type} {l:List α} {i:Nat} (h:i≤l.length):sub l (i:Int) (l.length:Int)=some (l.drop i):=by
 rw [uI h (Nat.le_refl _),List.take_length]
theorem Jw {α:Type} {l:List α} {j:Nat} (h:j≤l.length):sub l 0 (j:Int)=some (l.take j):=by
 have:=uI (l:=l) (i:=0) (Nat.zero_le j) h
 simpa using this
theorem aej {α:Type} {l:List α} {i:Int} (h0:0≤i) (h:i≤l.length):sub l i (l.length:Int)=some (l.drop i.toNat):=by
 obtain ⟨n,rfl⟩:=Int.eq_ofNat_of_zero_le h0
 rw [Br (by omega)];simp
theorem sub_one {α:Type} {l:List α} {c:α} {r:List α} (h:l=c::r):sub l 1 (l.length:Int)=some r:=by
 have:=Br (l:=l) (i:=1) (by rw [h];simp)
 rw [h] at this ⊢;simpa using this
theorem cA {α:Type} {b:Nat} {xs ys:List α} (h:xs.length+ys.length≤1000000000) (hb:b≤1000):ct b xs ys=some (xs++ys):=by
 unfold ct
 rw [if_pos]
 refine ⟨?_,by omega⟩
 calc (xs.length+ys.length)*b≤1000000000*1000:=Nat.mul_le_mul h hb
  _≤_:=by omega
theorem iC {l m:List UInt8} (h:l.length+m.length≤1000000000):cat l m=some (l++m):=by
 unfold cat;rw [if_pos (by omega)]
theorem cP {ρ τ σ:Type} {body:σ→Option (St ρ τ σ)} {F:Nat} {s s':σ} (h:body s=some (.cK s')):iter body (F+1) s=iter body F s':=by simp only [iter,h]
theorem dF {ρ τ σ:Type} {body:σ→Option (St ρ τ σ)} {F:Nat} {s:σ} {t:τ} (h:body s=some (.fF t)):iter body (F+1) s=some (.inr t):=by simp only [iter,h]
theorem iX {ρ τ σ:Type} {body:σ→Option (St ρ τ σ)} {F:Nat} {s:σ} {r:ρ} (h:body s=some (.ret r)):iter body (F+1) s=some (.inl r):=by simp only [iter,h]
theorem SY {ρ τ σ:Type} {body:σ→Option (St ρ τ σ)} (I:σ→Prop) (m:σ→Nat) (post:ρ⊕τ→Prop)
 (step:∀s,I s→(∃r,body s=some (.ret r)∧post (.inl r))∨(∃t,body s=some (.fF t)∧post (.inr t))∨∃s',body s=some (.cK s')∧I s'∧m s'<m s):
 ∀(F:Nat) (s:σ),I s→m s<F→∃o,iter body F s=some o∧post o:=by
 intro F
 induction F with
 |zero=>intro s _ h;omega
 |succ F ih=>
  intro s hI hm
  rcases step s hI with ⟨r,h,hp⟩|⟨t,h,hp⟩|⟨s',h,hI',hlt⟩
  · exact ⟨_,iX h,hp⟩
  · exact ⟨_,dF h,hp⟩
  · obtain ⟨o,ho,hp⟩:=ih s' hI' (by omega)
    exact ⟨o,by rw [cP h];exact ho,hp⟩
theorem drop_cons {α:Type} {l r:List α} {i:Nat} {c:α} (h:l.drop i=c::r):i<l.length∧l[i]? =some c∧l.drop (i+1)=r:=by
 have hlt:i<l.length:=by
  rcases Nat.lt_or_ge i l.length with h1|h1
  · exact h1
  · rw [List.drop_eq_nil_of_le h1] at h;cases h
 rw [List.drop_eq_getElem_cons hlt] at h
 injection h with h1 h2
 exact ⟨hlt,by rw [List.getElem?_eq_getElem hlt,h1],h2⟩
theorem Bs {α:Type} {l:List α} {i:Nat} (h:l.drop i=[]):l.length≤i:=List.drop_eq_nil_iff.1 h
theorem cN {n F:Nat} (h:n<F):∃G,F=G+1:=⟨F - 1,by omega⟩
end Go.Am
end
section
set_option maxRecDepth 100000
namespace Go.Proofs.cF
open Go Go.Am Go.Proofs
theorem nV {p:UInt8→Bool} (h:(List.range 256).all (fun n=>p (UInt8.ofNat n))=true) (c:UInt8):p c=true:=by
 have:=List.all_eq_true.1 h c.toNat (by simpa using c.toNat_lt)
 simpa using this
theorem scan {α ρ τ σ:Type} {s:List α} {body:σ→Option (St ρ τ σ)} {mk:Nat→σ} {p:α→Bool} {rr:Nat→ρ} {tt:τ}
 (h1:∀i x,s[i]? =some x→p x=true→body (mk i)=some (.cK (mk (i+1)))) (h2:∀i x,s[i]? =some x→p x=false→body (mk i)=some (.ret (rr i)))
 (h3:body (mk s.length)=some (.fF tt)) {F:Nat} (hF:s.length<F):
 (s.all p=true→iter body F (mk 0)=some (.inr tt))∧(s.all p=false→∃j,iter body F (mk 0)=some (.inl (rr j))):=by
 suffices h:∀(r:List α) (i F:Nat),s.drop i=r→i+r.length=s.length→r.length<F→
  (r.all p=true→iter body F (mk i)=some (.inr tt))∧(r.all p=false→∃j,iter body F (mk i)=some (.inl (rr j))) from h s 0 F rfl (by simp) hF
 intro r
 induction r with
 |nil=>
  intro i F hd hl hF
  obtain ⟨G,rfl⟩:=cN hF
  have:i=s.length:=by simpa using hl
  subst this
  exact ⟨fun _=>dF h3,fun h=>by simp at h⟩
 |cons x r ih=>
  intro i F hd hl hF
  obtain ⟨G,rfl⟩:=cN hF
  obtain ⟨hi,hx,hr⟩:=drop_cons hd
  simp only [List.length_cons] at hl hF
  cases hp:p x with
  |true=>
   rw [cP (h1 i x hx hp)]
   simp only [List.all_cons,hp,Bool.true_and]
   exact ih (i+1) G hr (by omega) (by omega)
  |false=>
   rw [iX (h2 i x hx hp)]
   simp only [List.all_cons,hp,Bool.false_and]
   exact ⟨fun h=>by simp at h,fun _=>⟨i,rfl⟩⟩
theorem wi {n:Nat} (h:n≤1000000000):IntKind.wrap .i64 ((n:Int)+1)=((n+1:Nat):Int):=by rw [wr (by omega) (by omega)];simp
def Jx (c:UInt8):Bool:=(decide (65≤c)&&decide (c≤90))||(decide (97≤c)&&decide (c≤122))
def uJ (c:UInt8):Bool:=decide (48≤c)&&decide (c≤57)
def Cz (c:UInt8):Bool:=Jx c||uJ c||c==45
theorem acL (c:UInt8):jL c=some (Jx c||uJ c):=by
 have:=nV (p:=fun c=>decide (jL c=some (Jx c||uJ c))) (by kernel_rfl) c
 simpa using this
theorem LI (c:UInt8):kE c=some (Cz c):=by
 have:=nV (p:=fun c=>decide (kE c=some (Cz c))) (by kernel_rfl) c
 simpa using this
theorem Hr (c:UInt8):iV c=some (Jx c):=by
 have:=nV (p:=fun c=>decide (iV c=some (Jx c))) (by kernel_rfl) c
 simpa using this
theorem FF (c:UInt8):iB c=some (uJ c):=by
 have:=nV (p:=fun c=>decide (iB c=some (uJ c))) (by kernel_rfl) c
 simpa using this
def bl:List UInt8→List (List UInt8)
 |[]=>[[]]
 |c::r=>if c=46 then []::bl r else match bl r with|[]=>[[c]]|h::t=>(c::h)::t
theorem gH:∀s,bl s≠[]
 |[]=>by simp [bl]
 |c::r=>by
  unfold bl
  split
  · simp
  · split<;>simp
theorem OH (r:List UInt8):Lib.split (46::r) [46]=[]::Lib.split r [46]:=by
 have hi:Lib.index (46::r) [46]=((0:Nat):Int):=by unfold Lib.index;rw [if_pos (by simp [List.isPrefixOf])];rfl
 have hc:=Lib.count_hit (by simp) hi
 unfold Lib.split
 rw [hc,Nat.add_comm]
 simp only [Lib.splitK,hi]
 rfl
theorem LJ {c:UInt8} (hc:c≠46) (r:List UInt8):Lib.split (c::r) [46]=match Lib.split r [46] with|[]=>[[c]]|h::t=>(c::h)::t:=by
 have hp:([46]:List UInt8).isPrefixOf (c::r)=false:=by simp [List.isPrefixOf];exact fun h=>hc h.symm
 have hi:Lib.index (c::r) [46]=if Lib.index r [46]== -1 then -1 else Lib.index r [46]+1:=by
  conv=>lhs;unfold Lib.index
  rw [if_neg (by rw [hp];simp)]
 rcases Lib.index_spec r [46] with ⟨h, -⟩|⟨i,h, -, -, -⟩
 · rw [h] at hi
   unfold Lib.split
   rw [Lib.count_miss h,Lib.count_miss hi]
   rfl
 · have hne:(((i:Nat):Int)== -1)=false:=by rw [beq_eq_false_iff_ne];omega
   rw [h,hne] at hi
   have hi':Lib.index (c::r) [46]=((i+1:Nat):Int):=by rw [hi];simp
   unfold Lib.split
   rw [Lib.count_hit (by simp) h,Lib.count_hit (by simp) hi',Nat.add_comm 1,Nat.add_comm 1]
   have wg:(((i+1:Nat):Int)== -1)=false:=by rw [beq_eq_false_iff_ne];omega
   simp only [Lib.splitK,h,hi',hne,wg,Bool.false_eq_true,if_false,Int.toNat_natCast,Nat.add_zero,List.take_succ_cons,List.length_cons,List.length_nil,Nat.zero_add,List.drop_succ_cons]
theorem CA:∀s:List UInt8,Lib.split s [46]=bl s
 |[]=>by rfl
 |c::r=>by
  by_cases hc:c=46
  · subst hc;rw [OH,CA r];simp [bl]
  · rw [LJ hc,CA r];simp only [bl,if_neg hc]
theorem oq (s:List UInt8):∀p∈bl s,p.length≤s.length:=by
 induction s with
 |nil=>simp [bl]
 |cons c r ih=>
  unfold bl
  split
  · intro p hp
    rcases List.mem_cons.1 hp with rfl|hp
    · simp
    · have:=ih p hp;simp;omega
  · cases hs:bl r with
    |nil=>exact absurd hs (gH r)
    |cons h t=>
     simp only
     intro p hp
     rcases List.mem_cons.1 hp with rfl|hp
     · have:=ih h (by rw [hs];simp);simp;omega
     · have:=ih p (by rw [hs];simp [hp]);simp;omega
theorem xC (s:List UInt8):(bl s).length≤s.length+1:=by
 induction s with
 |nil=>simp [bl]
 |cons c r ih=>
  unfold bl
  split
  · simp;omega
  · cases hs:bl r with
    |nil=>exact absurd hs (gH r)
    |cons h t=>rw [hs] at ih;simp at ih ⊢;omega
theorem LK {p:List UInt8} (hp:∀c∈p,c≠46) (r:List UInt8):bl (p++46::r)=p::bl r:=by
 induction p with
 |nil=>simp [bl]
 |cons c p ih=>
  simp only [List.cons_append,bl,if_neg (hp c (by simp)),ih fun x hx=>hp x (by simp [hx])]
theorem LL {p:List UInt8} (hp:∀c∈p,c≠46):bl p=[p]:=by
 induction p with
 |nil=>simp [bl]
 |cons c p ih=>
  simp only [bl,if_neg (hp c (by simp)),ih fun x hx=>hp x (by simp [hx])]
def Wt:List (List UInt8):=(List.range 256).map fun n:Nat=>Lib.itoa (n:Int)
def jB (s:List UInt8):Bool:=Wt.contains s
theorem LM:(List.range 256).all (fun n:Nat=>decide (jK (Lib.itoa (n:Int))=some true))=true:=by kernel_rfl
theorem SZ:Wt.all (fun s=>decide (s.length≤3∧s.all uJ=true∧s≠[]∧(s.head?=some 48→s.length≤1)))=true:=by kernel_rfl
theorem xD {s:List UInt8}:jB s=true↔∃n:Nat,n<256∧Lib.itoa (n:Int)=s:=by
 simp [jB,Wt]
theorem uK {s:List UInt8} (h:jB s=true):s.length≤3∧s.all uJ=true∧s≠[]∧(s.head?=some 48→s.length≤1):=by
 have:=List.all_eq_true.1 SZ s (by simpa [jB] using h)
 exact of_decide_eq_true this
def LN (s:List UInt8):Nat:=s.foldl (fun a c=>10*a+(c.toNat - 48)) 0
theorem S0:(List.range 256).all (fun n:Nat=>decide (LN (Lib.itoa (n:Int))=n))=true:=by kernel_rfl
def C4 (s:List UInt8):Bool:=decide (LN s<256)&&decide (Lib.itoa (LN s:Int)=s)
theorem Zu (s:List UInt8):jB s=C4 s:=by
 cases h:jB s with
 |true=>
  obtain ⟨n,hn,rfl⟩:=xD.1 h
  have hv:LN (Lib.itoa (n:Int))=n:=of_decide_eq_true (List.all_eq_true.1 S0 n (by simpa using hn))
  unfold C4
  rw [hv]
  simp [hn]
 |false=>
  cases h':C4 s with
  |false=>rfl
  |true=>
   simp only [C4,Bool.and_eq_true,decide_eq_true_eq] at h'
   rw [xD.2 ⟨LN s,h'.1,h'.2⟩] at h;cases h
theorem OI {s:List UInt8} (hs:s.length≤100000):jK s=some (jB s):=by
 cases hn:jB s with
 |true=>
  obtain ⟨n,hlt,rfl⟩:=xD.1 hn
  have:=List.all_eq_true.1 LM n (by simpa using hlt)
  simpa using this
 |false=>
  unfold jK strconv_Atoi
  rw [if_pos (by omega)]
  rcases De:Lib.atoiAll s with v|_|_
  · simp only [Option.bind_some,gl,Bool.not_false,if_true,decide_eq_true_eq]
    by_cases h0:0≤v
    · by_cases h1:v≤255
      · rw [if_pos h0,if_pos h1]
        unfold strconv_Itoa
        rw [if_pos (by omega)]
        simp only [Option.bind_some,Option.some.injEq,decide_eq_false_iff_not]
        intro he
        have:jB s=true:=xD.2 ⟨v.toNat,by omega,by rw [←he];congr 1;omega⟩
        rw [hn] at this;cases this
      · rw [if_pos h0,if_neg h1];rfl
    · rw [if_neg h0];rfl
  · simp [gl]
  · simp [gl]
end Go.Proofs.cF
end
section
set_option maxRecDepth 100000
namespace Go.Proofs.cF
open Go Go.Am Go.Proofs
def mN (s:List UInt8):Bool:=s !=[]&&s.head? !=some 45&&s.getLast? !=some 45&&s.all Cz
def s5 (s:List UInt8):Bool:=decide (1<s.length)&&s.head?==some 91&&s.getLast?==some 93
def inner (s:List UInt8):List UInt8:=(s.drop 1).dropLast
def mO (s:List UInt8):Bool:=if s5 s then decide ((bl (inner s)).length=4)&&(bl (inner s)).all jB else (bl s).all mN
def j5 (s:List UInt8):Bool:=decide (s.length≤255)&&mO s&&(bl s).all fun p=>decide (p.length≤63)
theorem Bt (c:UInt8) (r:List UInt8):∃x,(c::r).getLast?=some x:=by
 cases h:(c::r).getLast? with
 |none=>simp at h
 |some x=>exact ⟨x,rfl⟩
theorem xE {s:List UInt8} {x:UInt8} (h:s.getLast?=some x) (hl:s.length≤1000000):idx s (IntKind.wrap .i64 ((s.length:Int) - 1))=some x:=by
 have hp:0<s.length:=by cases s with|nil=>simp at h|cons=>simp
 rw [wr (by omega) (by omega),show (s.length:Int) - 1=((s.length - 1:Nat):Int) by omega,FE, ←List.getLast?_eq_getElem?,h]
theorem Wu {s:List UInt8} {F:Nat} (hl:s.length≤1000000) (hF:s.length<F):jo F s=some (s.all Cz):=by
 unfold jo
 have hh:=scan (s:=s) (body:=eg s) (mk:=fun i=>(false,(i:Int))) (p:=Cz) (rr:=fun _=>false) (tt:=()) ?_ ?_ ?_ hF
 · cases ha:s.all Cz with
   |true=>have:=hh.1 ha;rw [show ((0:Nat):Int)=0 from rfl] at this;rw [this];rfl
   |false=>obtain ⟨j,hj⟩:=hh.2 ha;rw [show ((0:Nat):Int)=0 from rfl] at hj;rw [hj];rfl
 · intro i x hx hp
   have hi:=(List.getElem?_eq_some_iff.1 hx).1
   simp only [eg]
   rw [if_pos (by simpa using hi),bJ hx,Option.bind_some,LI,Option.bind_some,hp,wi (by omega)];rfl
 · intro i x hx hp
   have hi:=(List.getElem?_eq_some_iff.1 hx).1
   simp only [eg]
   rw [if_pos (by simpa using hi),bJ hx,Option.bind_some,LI,Option.bind_some,hp];rfl
 · simp [eg]
theorem Wv {s:List UInt8} {F:Nat} (hl:s.length≤1000000) (hF:s.length<F):n5 F s=some (mN s):=by
 unfold n5 me mN
 cases s with
 |nil=>simp
 |cons c r=>
  obtain ⟨x,hx⟩:∃x,(c::r).getLast?=some x:=Bt c r
  rw [xE hx hl,Wu hl hF,hx]
  have h0:idx (c::r) 0=some c:=by simp [idx]
  rw [h0]
  by_cases h1:c=45
  · simp [h1]
  · by_cases h2:x=45
    · simp [h1,h2]
    · simp [h1,h2]
theorem Hs {x:List UInt8} (hx:x.length≤100000):jn x=some (!jB x):=by simp [jn,OI hx]
theorem Ht {F:Nat} {x:List UInt8} (hx:x.length≤100000) (hF:x.length<F):jq F x=some (!mN x):=by simp [jq,Wv (by omega:x.length≤1000000) hF]
theorem LO {l:List (List UInt8)} {F:Nat} (hl:l.length≤1000000) (hF:l.length<F) (hx:∀x∈l,x.length≤100000):ef F l=some (!l.all jB):=by
 unfold ef gL
 have hh:=scan (s:=l) (body:=cQ l) (mk:=fun i=>(0,(i:Int))) (p:=jB) (rr:=fun i=>(i:Int)) (tt:=()) ?_ ?_ ?_ hF
 · cases ha:l.all jB with
   |true=>have:=hh.1 ha;rw [show ((0:Nat):Int)=0 from rfl] at this;rw [this];rfl
   |false=>obtain ⟨j,hj⟩:=hh.2 ha;rw [show ((0:Nat):Int)=0 from rfl] at hj;rw [hj];simp
 · intro i x hx' hp
   have hi:=(List.getElem?_eq_some_iff.1 hx').1
   simp only [cQ]
   rw [if_pos (by simpa using hi),bJ hx',Option.bind_some,Hs (hx x (List.mem_of_getElem? hx')),Option.bind_some,hp,wi (by omega)];rfl
 · intro i x hx' hp
   have hi:=(List.getElem?_eq_some_iff.1 hx').1
   simp only [cQ]
   rw [if_pos (by simpa using hi),bJ hx',Option.bind_some,Hs (hx x (List.mem_of_getElem? hx')),Option.bind_some,hp];rfl
 · simp [cQ]
theorem LP {l:List (List UInt8)} {F:Nat} (hl:l.length≤1000000) (hF:l.length<F) (hx:∀x∈l,x.length≤100000∧x.length<F):dO F l=some (!l.all mN):=by
 unfold dO gu
 have hh:=scan (s:=l) (body:=cH F l) (mk:=fun i=>(0,(i:Int))) (p:=mN) (rr:=fun i=>(i:Int)) (tt:=()) ?_ ?_ ?_ hF
 · cases ha:l.all mN with
   |true=>have:=hh.1 ha;rw [show ((0:Nat):Int)=0 from rfl] at this;rw [this];rfl
   |false=>obtain ⟨j,hj⟩:=hh.2 ha;rw [show ((0:Nat):Int)=0 from rfl] at hj;rw [hj];simp
 · intro i x hx' hp
   have hi:=(List.getElem?_eq_some_iff.1 hx').1
   obtain ⟨ha,hb⟩:=hx x (List.mem_of_getElem? hx')
   simp only [cH]
   rw [if_pos (by simpa using hi),bJ hx',Option.bind_some,Ht ha hb,Option.bind_some,hp,wi (by omega)];rfl
 · intro i x hx' hp
   have hi:=(List.getElem?_eq_some_iff.1 hx').1
   obtain ⟨ha,hb⟩:=hx x (List.mem_of_getElem? hx')
   simp only [cH]
   rw [if_pos (by simpa using hi),bJ hx',Option.bind_some,Ht ha hb,Option.bind_some,hp];rfl
 · simp [cH]
theorem LQ {l:List (List UInt8)} {F:Nat} (hl:l.length≤1000000) (hF:l.length<F):dH F l=some (!l.all fun p=>decide (p.length≤63)):=by
 unfold dH gf
 have hh:=scan (s:=l) (body:=cB l) (mk:=fun i=>(0,(i:Int))) (p:=fun p=>decide (p.length≤63)) (rr:=fun i=>(i:Int)) (tt:=()) ?_ ?_ ?_ hF
 · cases ha:l.all fun p=>decide (p.length≤63) with
   |true=>have:=hh.1 ha;rw [show ((0:Nat):Int)=0 from rfl] at this;rw [this];rfl
   |false=>obtain ⟨j,hj⟩:=hh.2 ha;rw [show ((0:Nat):Int)=0 from rfl] at hj;rw [hj];simp
 · intro i x hx' hp
   have hi:=(List.getElem?_eq_some_iff.1 hx').1
   simp only [cB]
   rw [if_pos (by simpa using hi),bJ hx',Option.bind_some,js,Option.bind_some,if_neg (by simp at hp ⊢;omega),wi (by omega)]
 · intro i x hx' hp
   have hi:=(List.getElem?_eq_some_iff.1 hx').1
   simp only [cB]
   rw [if_pos (by simpa using hi),bJ hx',Option.bind_some,js,Option.bind_some,if_pos (by simp at hp ⊢;omega)]
 · simp [cB]
theorem sG {s:List UInt8} (h:s.length≤1000000):strings_Split s [46]=some (bl s):=by
 unfold strings_Split;rw [if_pos (by simp;omega),CA]
theorem OJ {s:List UInt8} {F:Nat} (hl:s.length≤99000) (hF:s.length+1<F):mh F s=some (mO s):=by
 have hp1:iH s=some (s5 s):=by
  unfold iH s5
  by_cases h1:1<s.length
  · cases s with
    |nil=>simp at h1
    |cons c r=>
     obtain ⟨x,hx⟩:∃x,(c::r).getLast?=some x:=Bt c r
     rw [if_pos (by simp at h1 ⊢;omega),xE hx (by omega),hx,show idx (c::r) 0=some c by simp [idx]]
     rw [decide_eq_true h1]
     by_cases h2:c=91
     · simp [h2];rfl
     · simp [h2]
  · rw [if_neg (by simp;omega)];simp [h1]
 unfold mh mO
 rw [hp1,Option.bind_some]
 cases hi:s5 s with
 |true=>
  have h1:1<s.length:=by simp [s5] at hi;omega
  simp only [if_true]
  rw [wr (by omega) (by omega)]
  have hsub:sub s 1 ((s.length:Int) - 1)=some (inner s):=by
   rw [show (1:Int)=((1:Nat):Int) from rfl,show (s.length:Int) - ((1:Nat):Int)=((s.length - 1:Nat):Int) by omega,uI (by omega) (by omega)]
   congr 1
   unfold inner
   rw [List.dropLast_eq_take,List.length_drop,List.drop_take]
  have hil:(inner s).length+2=s.length:=by simp [inner];omega
  rw [hsub,Option.bind_some,sG (by omega),Option.bind_some]
  unfold kV
  have hn:=xC (inner s)
  by_cases h4:(bl (inner s)).length=4
  · rw [if_pos (by simpa using by omega),LO (by omega) (by omega) fun x hx=>by have:=oq _ x hx;omega]
    simp [h4]
  · rw [if_neg (by simpa using by omega)]
    simp [h4]
 |false=>
  have hn:=xC s
  simp only [Bool.false_eq_true,if_false]
  rw [sG (by omega),Option.bind_some,LP (by omega) (by omega) fun x hx=>by have:=oq _ x hx;omega]
  simp
theorem ab4 {s:List UInt8} {F:Nat} (hl:s.length≤99000) (hF:s.length+1<F):mj F s=some (j5 s):=by
 unfold mj kW j5
 by_cases h:s.length≤255
 · rw [if_pos (by simpa using by omega),OJ hl hF]
   have hn:=xC s
   cases mO s with
   |true=>simp only [Option.bind_some,if_true];rw [sG (by omega),Option.bind_some,LQ (by omega) (by omega)];simp [h]
   |false=>simp
 · rw [if_neg (by simpa using by omega)];simp [h]
end Go.Proofs.cF
end
section
set_option maxRecDepth 100000
namespace Go.Proofs.cF
open Go Go.Am Go.Proofs
def C5:List UInt8:=(List.range 10).map fun n=>UInt8.ofNat (48+n)
theorem ab5 (n:Nat):C5.all (fun a=>decide (eS (n+10) [a]=some (C4 [a])))=true:=by kernel_rfl
theorem ab6 (n:Nat):C5.all (fun a=>C5.all fun b=>decide (eS (n+10) [a,b]=some (C4 [a,b])))=true:=by kernel_rfl
theorem ab7 (n:Nat):C5.all (fun a=>C5.all fun b=>C5.all fun c=>decide (eS (n+10) [a,b,c]=some (C4 [a,b,c])))=true:=by kernel_rfl
theorem pP {c:UInt8} (h:uJ c=true):c∈C5:=by
 have:=nV (p:=fun c=> !uJ c||C5.contains c) (by kernel_rfl) c
 simpa [h] using this
theorem S1 {s:List UInt8} {F:Nat} (hF:10≤F) (hl:s.length≤100000):eS F s=some (jB s):=by
 by_cases h3:3<s.length
 · have hn:jB s=false:=by
    cases h:jB s with
    |false=>rfl
    |true=>have:=(uK h).1;omega
   have hne:s≠[]:=by intro h;subst h;simp at h3
   unfold eS fk
   simp only [hne,decide_false,Bool.false_eq_true,if_false]
   rw [if_pos (by simp;omega),hn];rfl
 · by_cases hd:s.all uJ=true
   · obtain ⟨G,rfl⟩:∃G,F=G+10:=⟨F - 10,by omega⟩
     rw [List.all_eq_true] at hd
     rw [Zu]
     match s,h3,hd with
     |[],_,_=>rw [show C4 []=false by kernel_rfl];simp [eS,fk]
     |[a],_,hd=>exact of_decide_eq_true (List.all_eq_true.1 (ab5 G) a (pP (hd a (by simp))))
     |[a,b],_,hd=>exact of_decide_eq_true (List.all_eq_true.1 (List.all_eq_true.1 (ab6 G) a (pP (hd a (by simp)))) b (pP (hd b (by simp))))
     |[a,b,c],_,hd=>exact of_decide_eq_true (List.all_eq_true.1 (List.all_eq_true.1 (List.all_eq_true.1 (ab7 G) a (pP (hd a (by simp)))) b (pP (hd b (by simp)))) c (pP (hd c (by simp))))
     |a::b::c::d::r,h3,_=>simp at h3
   · have hn:jB s=false:=by
      cases h:jB s with
      |false=>rfl
      |true=>exact absurd (uK h).2.1 hd
     rw [hn]
     have hp:∃b,fk s=some b:=by
      unfold fk
      cases s with
      |nil=>simp
      |cons c r=>
       rw [show idx (c::r) 0=some c by simp [idx]]
       simp only [Option.bind_some]
       repeat' split
       all_goals exact ⟨_,rfl⟩
     obtain ⟨b,hb⟩:=hp
     unfold eS
     rw [hb,Option.bind_some]
     cases b with
     |true=>rfl
     |false=>
      simp only [Bool.false_eq_true,if_false]
      have ab8:∀(r:List UInt8) (i F:Nat) (n:Int),s.drop i=r→i+r.length=s.length→r.length<F→r.all uJ=false→iter (gq s) F (n,(i:Int))=some (.inl false):=by
       intro r
       induction r with
       |nil=>intro i F n _ _ _ h;simp at h
       |cons x r ih=>
        intro i F n hdr hlr hF ha
        obtain ⟨G,rfl⟩:=cN hF
        obtain ⟨hi,hx,hr⟩:=drop_cons hdr
        simp only [List.length_cons] at hlr hF
        have hstep:gq s (n,(i:Int))=if (!uJ x)=true then some (.ret false) else some (.cK ((IntKind.wrap .i64 ((IntKind.wrap .i64 (10*n))+(IntKind.wrap .i64 ((x - 48).toNat:Int)))),((i+1:Nat):Int))):=by
         simp only [gq]
         rw [if_pos (by simpa using hi),bJ hx,Option.bind_some,FF,Option.bind_some,wi (by omega)]
        cases hx':uJ x with
        |false=>rw [hx'] at hstep;exact iX (by rw [hstep];rfl)
        |true=>
         rw [hx'] at hstep
         rw [cP (by rw [hstep];rfl)]
         exact ih (i+1) G _ hr (by omega) (by omega) (by simpa [hx'] using ha)
      rw [show (0,(0:Int))=((0:Int),((0:Nat):Int)) from rfl,ab8 s 0 F 0 rfl (by simp) (by omega) (by simpa using hd)]
      rfl
def Hu (s:List UInt8):Bool:=mN s&&decide (s.length≤63)
theorem Ww {s:List UInt8} {F:Nat} (hl:s.length≤100000) (hF:s.length<F):mG F s=some (Hu s):=by
 unfold mG kY Hu mN
 cases s with
 |nil=>simp
 |cons c r=>
  obtain ⟨x,hx⟩:=Bt c r
  rw [xE hx (by omega),hx,show idx (c::r) 0=some c by simp [idx]]
  by_cases h0:63<(c::r).length
  · rw [if_neg (by simp),if_pos (by simp at h0 ⊢;omega)]
    have:decide ((c::r).length≤63)=false:=by simp at h0 ⊢;omega
    rw [this];simp
  · have h0':decide ((c::r).length≤63)=true:=by simp at h0 ⊢;omega
    rw [if_neg (by simp),if_neg (by simp at h0 ⊢;omega),h0']
    by_cases h1:c=45
    · simp [h1]
    · by_cases h2:x=45
      · simp [h1,h2]
      · have hh:=scan (s:=c::r) (body:=fm (c::r)) (mk:=fun i=>(i:Int)) (p:=Cz) (rr:=fun _=>false) (tt:=()) ?_ ?_ ?_ hF
        · simp only [Option.bind_some,h1,h2,decide_false,Bool.false_eq_true,if_false]
          cases ha:(c::r).all Cz with
          |true=>have:=hh.1 ha;rw [show ((0:Nat):Int)=0 from rfl] at this;rw [this];simp [h1,h2]
          |false=>obtain ⟨j,hj⟩:=hh.2 ha;rw [show ((0:Nat):Int)=0 from rfl] at hj;rw [hj];simp [h1,h2]
        · intro i y hy hp
          have hi:=(List.getElem?_eq_some_iff.1 hy).1
          simp only [fm,iM]
          rw [if_pos (by simp at hi ⊢;omega),bJ hy,Option.bind_some,Hr,Option.bind_some,FF,Option.bind_some,wi (by omega)]
          simp only [Cz] at hp
          cases h1:Jx y<;>cases h2:uJ y<;>simp [h1,h2] at hp ⊢
          exact hp
        · intro i y hy hp
          have hi:=(List.getElem?_eq_some_iff.1 hy).1
          simp only [fm,iM]
          rw [if_pos (by simp at hi ⊢;omega),bJ hy,Option.bind_some,Hr,Option.bind_some,FF,Option.bind_some]
          simp only [Cz] at hp
          cases h1:Jx y<;>cases h2:uJ y<;>simp [h1,h2] at hp ⊢
          exact hp
        · simp [fm]
end Go.Proofs.cF
end
section
set_option maxRecDepth 100000
namespace Go.Proofs.cF
open Go Go.Am Go.Proofs
def Jy (num:Bool) (s:List UInt8):Bool:=if num then jB s else Hu s
theorem Wy {F:Nat} {x:UInt8} {s:List UInt8} {a i:Nat} (h:a≤i) (hi:i≤s.length) (hl:s.length≤99000) (hF:s.length+10<F):
 gV F x s (a:Int) (i:Int)=some (!Jy (x==91) ((s.take i).drop a)):=by
 have hlen:((s.take i).drop a).length≤s.length:=by simp;omega
 unfold gV Jy
 rw [uI h hi]
 by_cases hx:x=91
 · rw [if_pos (by simpa using hx)]
   simp only [Option.bind_some]
   rw [S1 (by omega) (by omega)]
   simp only [Option.bind_some,hx,beq_self_eq_true,if_true]
   cases jB ((s.take i).drop a)<;>rfl
 · rw [if_neg (by simpa using hx)]
   simp only [Option.bind_some]
   rw [Ww (by omega) (by omega)]
   have:(x==91)=false:=by simpa using hx
   simp [this]
theorem Hv {F:Nat} {x:UInt8} {s:List UInt8} (hl:s.length≤99000) (Zv:s.length+10<F):∀(r cur:List UInt8) (a k i G:Nat),(∀c∈cur,c≠46)→s.drop a=cur++r→a+cur.length=i→i+r.length=s.length→r.length+1<G→k≤i→
 iter (cy F s x) G ((a:Int),(k:Int),(i:Int))=some (if (bl (cur++r)).all (Jy (x==91)) then .inr ((k+(bl (cur++r)).length:Nat):Int) else .inl false):=by
 have xF:∀(cur r:List UInt8) (a i:Nat),s.drop a=cur++r→a+cur.length=i→(s.take i).drop a=cur:=by
  intro cur r a i h hi
  rw [List.drop_take,h, ←hi,Nat.add_sub_cancel_left,List.take_left' rfl]
 intro r
 induction r with
 |nil=>
  intro cur a k i G hc hd ha hi hG hk
  obtain ⟨G,rfl⟩:=cN (show 0<G by omega)
  obtain ⟨G,rfl⟩:=cN (show 0<G by simp at hG;omega)
  have hie:i=s.length:=by simpa using hi
  have hstep:cy F s x ((a:Int),(k:Int),(i:Int))=if (!Jy (x==91) cur)=true then some (.ret false) else some (.cK (((i+1:Nat):Int),((k+1:Nat):Int),((i+1:Nat):Int))):=by
   simp only [cy]
   rw [if_pos (by simp;omega)]
   have:eO (i:Int) s=some false:=by unfold eO;rw [if_neg (by simp;omega)]
   rw [this,Option.bind_some]
   simp only [Bool.false_eq_true,if_false]
   rw [Wy (by omega) (by omega) hl Zv,Option.bind_some,xF cur [] a i hd ha,wi (by omega),wi (by omega)]
  rw [List.append_nil,LL hc]
  cases hx:Jy (x==91) cur with
  |false=>rw [hx] at hstep;rw [iX (by rw [hstep];rfl)];simp [hx]
  |true=>
   rw [hx] at hstep
   rw [cP (by rw [hstep];rfl)]
   have:cy F s x (((i+1:Nat):Int),((k+1:Nat):Int),((i+1:Nat):Int))=some (.fF ((k+1:Nat):Int)):=by
    simp only [cy]
    rw [if_neg (by simp;omega)]
   rw [dF this]
   simp [hx]
 |cons c r ih=>
  intro cur a k i G hc hd ha hi hG hk
  obtain ⟨G,rfl⟩:=cN (show 0<G by omega)
  simp only [List.length_cons] at hi hG
  have hci:s[i]? =some c:=by
   have:(s.drop a)[cur.length]? =some c:=by rw [hd];simp
   rw [List.getElem?_drop,ha] at this;exact this
  have hp4:eO (i:Int) s=some (!decide (c=46)):=by unfold eO;rw [if_pos (by simp;omega),bJ hci];rfl
  by_cases Wz:c=46
  · subst Wz
    have hstep:cy F s x ((a:Int),(k:Int),(i:Int))=if (!Jy (x==91) cur)=true then some (.ret false) else some (.cK (((i+1:Nat):Int),((k+1:Nat):Int),((i+1:Nat):Int))):=by
     simp only [cy]
     rw [if_pos (by simp;omega),hp4,Option.bind_some]
     simp only [decide_true,Bool.not_true,Bool.false_eq_true,if_false]
     rw [Wy (by omega) (by omega) hl Zv,Option.bind_some,xF cur _ a i hd ha,wi (by omega),wi (by omega)]
    rw [LK hc]
    cases hx:Jy (x==91) cur with
    |false=>rw [hx] at hstep;rw [iX (by rw [hstep];rfl)];simp [hx]
    |true=>
     rw [hx] at hstep
     rw [cP (by rw [hstep];rfl)]
     have hd':s.drop (i+1)=r:=by
      have:(s.drop a).drop (cur.length+1)=r:=by rw [hd,List.drop_append];simp
      rw [List.drop_drop] at this
      rw [←this];congr 1;omega
     have:=ih [] (i+1) (k+1) (i+1) G (by simp) (by simpa using hd') (by simp) (by omega) (by omega) (by omega)
     rw [List.nil_append] at this
     rw [this]
     simp only [List.all_cons,hx,Bool.true_and,List.length_cons]
     congr 3
     omega
  · have hstep:cy F s x ((a:Int),(k:Int),(i:Int))=some (.cK ((a:Int),(k:Int),((i+1:Nat):Int))):=by
     simp only [cy]
     rw [if_pos (by simp;omega),hp4,Option.bind_some]
     simp only [Wz,decide_false,Bool.not_false,if_true]
     rw [wi (by omega)]
    rw [cP hstep]
    have:=ih (cur++[c]) a k (i+1) G (by intro y hy;rcases List.mem_append.1 hy with h|h;exact hc y h;simp at h;subst h;exact Wz) (by rw [hd];simp) (by simp;omega) (by omega) (by omega) (by omega)
    rw [this]
    simp
theorem S3 (l:List (List UInt8)):l.all Hu=(l.all mN&&l.all fun p=>decide (p.length≤63)):=by
 induction l with
 |nil=>rfl
 |cons a l ih=>simp only [List.all_cons,ih,Hu];cases mN a<;>cases decide (a.length≤63)<;>simp
theorem LR (s:List UInt8):((bl s).map List.length).sum+(bl s).length=s.length+1:=by
 induction s with
 |nil=>simp [bl]
 |cons c r ih=>
  unfold bl
  split
  · simp;omega
  · cases h:bl r with
    |nil=>exact absurd h (gH r)
    |cons a t=>rw [h] at ih;simp at ih ⊢;omega
theorem four {l:List (List UInt8)} (h4:l.length=4) (h:∀p∈l,p.length≤3):(l.map List.length).sum≤12:=by
 match l,h4 with
 |[a,b,c,d],_=>
  have ha:=h a (by simp);have hb:=h b (by simp);have hc:=h c (by simp);have hd:=h d (by simp)
  simp;omega
theorem OK (r:List UInt8):(bl (91::r)).all mN=false:=by
 have h1:∀t:List UInt8,mN (91::t)=false:=by
  intro t
  have:Cz 91=false:=by decide
  simp [mN,this]
 simp only [bl]
 rw [if_neg (by decide)]
 split
 · simp [h1]
 · simp [h1]
theorem ab9 {s:List UInt8} {F:Nat} (hl:s.length≤99000) (hF:s.length+10<F):fL F s=some (j5 s):=by
 cases s with
 |nil=>simp [fL,j5,mO,s5,bl,mN]
 |cons c r=>
  unfold fL
  by_cases PU:255<(c::r).length
  · rw [if_pos (by simp at PU ⊢;omega)]
    have:decide ((c::r).length≤255)=false:=by simp at PU ⊢;omega
    unfold j5;rw [this];rfl
  · have WA:decide ((c::r).length≤255)=true:=by simp at PU ⊢;omega
    rw [if_neg (by simp at PU ⊢;omega),show idx (c::r) 0=some c by simp [idx],Option.bind_some]
    obtain ⟨x,hx⟩:=Bt c r
    by_cases hc:c=91
    · subst hc
      unfold gU jR
      rw [if_pos (by rfl),xE hx (by omega),Option.bind_some]
      by_cases hin:s5 (91::r)=true
      · have My:x=93:=by rw [s5,hx] at hin;simpa using (by simp at hin;exact hin.2)
        have h1:1<(91::r).length:=by rw [s5] at hin;simp at hin ⊢;exact hin.1
        subst My
        rw [if_neg (by simp)]
        have:decide ((((91::r).length:Nat):Int)<2)=false:=by simp at h1 ⊢;omega
        rw [this]
        simp only [Option.bind_some,Bool.false_eq_true,if_false]
        have hsub:sub (91::r) 1 (IntKind.wrap .i64 ((((91::r).length:Nat):Int) - 1))=some (inner (91::r)):=by
         rw [wr (by omega) (by omega),show (1:Int)=((1:Nat):Int) from rfl,show (((91::r).length:Nat):Int) - ((1:Nat):Int)=(((91::r).length - 1:Nat):Int) by omega,uI (by omega) (by omega)]
         congr 1
         unfold inner
         rw [List.dropLast_eq_take,List.length_drop,List.drop_take]
        rw [hsub]
        simp only [Option.bind_some]
        have hil:(inner (91::r)).length≤(91::r).length:=by simp [inner];omega
        have WC:=Hv (F:=F) (x:=91) (s:=inner (91::r)) (by omega) (by omega) (inner (91::r)) [] 0 0 0 F (by simp) (by simp) (by simp) (by simp) (by omega) (Nat.le_refl _)
        simp only [List.nil_append,Int.natCast_zero,Nat.zero_add] at WC
        rw [show ((0:Int),(0:Int),(0:Int))=(((0:Nat):Int),((0:Nat):Int),((0:Nat):Int)) from rfl]
        rw [show (((0:Nat):Int),((0:Nat):Int),((0:Nat):Int))=((0:Int),(0:Int),(0:Int)) from rfl,WC]
        have WD:(bl (inner (91::r))).all (Jy ((91:UInt8)==91))=(bl (inner (91::r))).all jB:=by congr 1
        rw [WD]
        unfold j5 mO
        rw [WA,hin]
        simp only [if_true,Bool.true_and]
        cases hall:(bl (inner (91::r))).all jB with
        |false=>simp
        |true=>
         by_cases h4:(bl (inner (91::r))).length=4
         · have hsum:=four h4 fun p hp=>(uK (List.all_eq_true.1 hall p hp)).1
           have htot:=LR (inner (91::r))
           have hlen:(91::r).length=(inner (91::r)).length+2:=by simp [inner];simp at h1;omega
           have:(bl (91::r)).all (fun p=>decide (p.length≤63))=true:=by
            rw [List.all_eq_true]
            intro p hp
            have:=oq _ p hp
            simp only [decide_eq_true_eq]
            omega
           rw [this]
           simp [h4]
         · simp [h4];omega
      · have aek:s5 (91::r)=false:=by simpa using hin
        have hdf:j5 (91::r)=false:=by unfold j5 mO;rw [aek];simp only [Bool.false_eq_true,if_false,OK];simp
        rw [hdf]
        by_cases aah:x=93
        · subst aah
          have h1:¬1<(91::r).length:=by intro h;rw [s5,hx,decide_eq_true h] at hin;simp at hin
          rw [if_neg (by simp),decide_eq_true (by omega)]
          rfl
        · rw [if_pos (by simpa using aah)];rfl
    · unfold gU
      rw [if_neg (by simpa using hc)]
      simp only [Option.bind_some]
      have WC:=Hv (F:=F) (x:=c) (s:=c::r) hl hF (c::r) [] 0 0 0 F (by simp) (by simp) (by simp) (by simp) (by omega) (Nat.le_refl _)
      simp only [List.nil_append,Int.natCast_zero,Nat.zero_add] at WC
      rw [WC]
      have V4:(c==91)=false:=by simpa using hc
      have WD:(bl (c::r)).all (Jy (c==91))=(bl (c::r)).all Hu:=by rw [V4];congr 1
      rw [WD,S3]
      have hin:s5 (c::r)=false:=by unfold s5;simp [hc]
      unfold j5 mO
      rw [WA,hin]
      simp only [Bool.false_eq_true,if_false,Bool.true_and]
      cases (bl (c::r)).all mN<;>cases (bl (c::r)).all (fun p=>decide (p.length≤63))<;>simp [hc]
end Go.Proofs.cF
end
section
set_option maxRecDepth 100000
namespace Go.Proofs.cF
open Go Go.Am Go.Proofs
theorem aai (a b:List UInt8):bl (a++46::b)=bl a++bl b:=by
 induction a with
 |nil=>simp [bl]
 |cons c a ih=>
  simp only [List.cons_append,bl,ih]
  by_cases hc:c=46
  · simp [hc]
  · simp only [if_neg hc]
    cases h:bl a with
    |nil=>exact absurd h (gH a)
    |cons x t=>simp
theorem z6 (s:List UInt8):∀c∈s,c=46∨∃p∈bl s,c∈p:=by
 induction s with
 |nil=>simp
 |cons a r ih=>
  intro c hc
  simp only [bl]
  rcases List.mem_cons.1 hc with rfl|hc
  · by_cases h:c=46
    · exact .inl h
    · right
      rw [if_neg h]
      cases hs:bl r with
      |nil=>exact absurd hs (gH r)
      |cons x t=>exact ⟨c::x,by simp,by simp⟩
  · rcases ih c hc with h|⟨p,hp,jG⟩
    · exact .inl h
    · right
      by_cases ha:a=46
      · rw [if_pos ha];exact ⟨p,by simp [hp],jG⟩
      · rw [if_neg ha]
        cases hs:bl r with
        |nil=>exact absurd hs (gH r)
        |cons x t=>
         rw [hs] at hp
         rcases List.mem_cons.1 hp with rfl|hp
         · exact ⟨a::p,by simp,by simp [jG]⟩
         · exact ⟨p,by simp [hp],jG⟩
theorem aeP {s:List UInt8} (h:s.head?≠some 91):s5 s=false:=by
 unfold s5
 have:(s.head?==some 91)=false:=by simpa using h
 rw [this];simp
theorem ael {s:List UInt8} (h:s.getLast?≠some 93):s5 s=false:=by
 unfold s5
 have:(s.getLast?==some 93)=false:=by simpa using h
 rw [this];simp
theorem aem {s:List UInt8} (hi:s5 s=false) {p:List UInt8} (hp:p∈bl s) (hl:mN p=false):j5 s=false:=by
 unfold j5 mO
 rw [hi]
 have:(bl s).all mN=false:=by
  rw [List.all_eq_false]
  exact ⟨p,hp,by simp [hl]⟩
 simp [this]
end Go.Proofs.cF
end
section
set_option maxRecDepth 100000
namespace Go.Proofs.cF
open Go Go.Am Go.Proofs
def uL (c:UInt8):Bool:=Jx c||uJ c||c==45||c==46||c==91||c==93
def lD (c:UInt8):Bool:=decide (32≤c)&&decide (c≤126)
def eC (c:UInt8):Bool:=Jx c||uJ c||([33,35,36,37,38,39,42,43,45,47,61,63,94,95,96,123,124,125,126]:List UInt8).contains c
def z7 (c:UInt8):Bool:=c==46||eC c
theorem PV (c:UInt8):qh c=some (eC c):=by
 have:=nV (p:=fun c=>decide (qh c=some (eC c))) (by kernel_rfl) c
 simpa using this
structure At (s:List UInt8) (n:Nat) (r:List UInt8):Prop where
 le:n≤s.length
 dr:s.drop n=r
 sm:s.length≤90000
def nx:List UInt8→UInt8
 |[]=>0
 |c::_=>c
theorem At.len {s r:List UInt8} {n:Nat} (h:At s n r):n+r.length=s.length:=by
 rw [←h.dr,List.length_drop];have:=h.le;omega
theorem At.next {s r:List UInt8} {n:Nat} {c:UInt8} (h:At s n (c::r)):At s (n+1) r:=by
 obtain ⟨h1,h2,h3⟩:=drop_cons h.dr
 exact ⟨h1,h3,h.sm⟩
theorem Jz (q:UInt8→Bool) (r:List UInt8):(r.takeWhile q).length≤r.length:=(List.takeWhile_prefix q).length_le
theorem At.skip {s r:List UInt8} {n:Nat} (h:At s n r) (q:UInt8→Bool):At s (n+(r.takeWhile q).length) (r.dropWhile q):=by
 have h1:(r.takeWhile q).length≤r.length:=Jz _ _
 have h2:=h.len
 refine ⟨by omega, ?_,h.sm⟩
 rw [←List.drop_drop,h.dr]
 conv=>lhs;rw [←List.takeWhile_append_dropWhile (p:=q) (l:=r)]
 rw [List.takeWhile_append_dropWhile]
 conv=>lhs;arg 2;rw [←List.takeWhile_append_dropWhile (p:=q) (l:=r)]
 exact List.drop_left ..
theorem acd {s r:List UInt8} {n:Nat} (h:At s n r) (q:UInt8→Bool):sub s (n:Int) ((n+(r.takeWhile q).length:Nat):Int)=some (r.takeWhile q):=by
 have h1:=(h.skip q).le
 rw [uI (by omega) h1,List.drop_take,h.dr,Nat.add_sub_cancel_left]
 congr 1
 conv=>lhs;arg 2;rw [←List.takeWhile_append_dropWhile (p:=q) (l:=r)]
 exact List.take_left ..
def jg (s:List UInt8):Bool:=(bl s).all fun p=>p !=[]&&p.all eC
theorem S4 {s:List UInt8} {F:Nat} (hl:s.length≤1000000) (hF:s.length<F):iI F s=some (s.all eC):=by
 unfold iI
 have hh:=scan (s:=s) (body:=dL s) (mk:=fun i=>(false,(i:Int))) (p:=eC) (rr:=fun _=>false) (tt:=()) ?_ ?_ ?_ hF
 · cases ha:s.all eC with
   |true=>have:=hh.1 ha;rw [show ((0:Nat):Int)=0 from rfl] at this;rw [this];rfl
   |false=>obtain ⟨j,hj⟩:=hh.2 ha;rw [show ((0:Nat):Int)=0 from rfl] at hj;rw [hj];rfl
 · intro i x hx hp
   have hi:=(List.getElem?_eq_some_iff.1 hx).1
   simp only [dL]
   rw [if_pos (by simpa using hi),bJ hx,Option.bind_some,PV,Option.bind_some,hp,wi (by omega)];rfl
 · intro i x hx hp
   have hi:=(List.getElem?_eq_some_iff.1 hx).1
   simp only [dL]
   rw [if_pos (by simpa using hi),bJ hx,Option.bind_some,PV,Option.bind_some,hp];rfl
 · simp [dL]
theorem LS {x:List UInt8} {F:Nat} (hl:x.length≤1000000) (hF:x.length<F):kF F x=some (!(x !=[]&&x.all eC)):=by
 unfold kF jM
 by_cases hx:x=[]
 · subst hx;rfl
 · rw [if_neg (by simpa using hx),S4 hl hF]
   simp [hx]
theorem S5 {s:List UInt8} {F:Nat} (hl:s.length≤90000) (hF:s.length+1<F):n7 F s=some (jg s):=by
 have hn:=xC s
 unfold n7
 rw [sG (by omega),Option.bind_some]
 unfold eD fG
 have hh:=scan (s:=bl s) (F:=F) (body:=cw F (bl s)) (mk:=fun i=>(0,(i:Int))) (p:=fun p=>p !=[]&&p.all eC) (rr:=fun i=>(i:Int)) (tt:=()) ?_ ?_ ?_ (by omega)
 · unfold jg
   cases ha:(bl s).all fun p=>p !=[]&&p.all eC with
   |true=>have:=hh.1 ha;rw [show ((0:Nat):Int)=0 from rfl] at this;rw [this];rfl
   |false=>obtain ⟨j,hj⟩:=hh.2 ha;rw [show ((0:Nat):Int)=0 from rfl] at hj;rw [hj];simp
 · intro i x hx' hp
   have hi:=(List.getElem?_eq_some_iff.1 hx').1
   have hxl:=oq s x (List.mem_of_getElem? hx')
   simp only [cw]
   rw [if_pos (by simpa using hi),bJ hx',Option.bind_some,LS (by omega) (by omega),Option.bind_some,hp,wi (by omega)];rfl
 · intro i x hx' hp
   have hi:=(List.getElem?_eq_some_iff.1 hx').1
   have hxl:=oq s x (List.mem_of_getElem? hx')
   simp only [cw]
   rw [if_pos (by simpa using hi),bJ hx',Option.bind_some,LS (by omega) (by omega),Option.bind_some,hp];rfl
 · simp [cw]
def qL:List UInt8→Option (List UInt8×List UInt8)
 |[]=>none
 |c::r=>if c=34 then some ([],r)
  else if c=92 then (match r with
   |[]=>none
   |d::r'=>if lD d then (qL r').map fun x=>(d::x.1,x.2) else none)
  else if lD c then (qL r).map fun x=>(c::x.1,x.2) else none
theorem Bu (c:UInt8) (r:List UInt8):qL (c::r)=if c=34 then some ([],r)
 else if c=92 then (match r with
  |[]=>none
  |d::r'=>if lD d then (qL r').map fun x=>(d::x.1,x.2) else none)
 else if lD c then (qL r).map fun x=>(c::x.1,x.2) else none:=by
 cases r<;>rfl
theorem WI (c:UInt8):nN c=some (lD c):=rfl
theorem afw:lD 0=false:=by decide
def uM (r:List UInt8):Option (List UInt8×List UInt8):=
 if nx r=34 then (match qL (r.drop 1) with|some (b,rest)=>if b=[] then none else some (b,rest)|none=>none)
 else if jg (r.takeWhile z7) then some (r.takeWhile z7,r.dropWhile z7) else none
def ot (r:List UInt8):Option (List UInt8×List UInt8):=if mO (r.takeWhile uL) then some (r.takeWhile uL,r.dropWhile uL) else none
end Go.Proofs.cF
end
section
set_option maxRecDepth 100000
namespace Go.Proofs.cF
open Go Go.Am Go.Proofs
def PW:Nat→List UInt8→Option (List UInt8)
 |0,_=>none
 |k+1,r=>if nx r=64 then (match ot (r.drop 1) with
   |none=>none
   |some (_,r2)=>if nx r2=44 then PW k (r2.drop 1) else if nx r2=58 then some (r2.drop 1) else none) else none
def Bv (r:List UInt8):Option (List UInt8):=if nx r=64 then PW (r.length+1) r else some r
theorem aen {r:List UInt8} {c:UInt8} (h:nx r=c) (hc:c≠0):∃t,r=c::t:=by
 cases r with
 |nil=>exact absurd h.symm hc
 |cons a t=>exact ⟨t,by rw [←h];rfl⟩
theorem JA {r b t:List UInt8} (h:ot r=some (b,t)):t.length≤r.length:=by
 unfold ot at h
 split at h
 · injection h with h;injection h with _ h;subst h;exact (List.dropWhile_suffix _).length_le
 · cases h
def Hw (r:List UInt8):Option (aH×List UInt8):=
 match Bv r with
 |none=>none
 |some r1=>match uM r1 with
  |none=>none
  |some (l,r2)=>if nx r2=64 then (match ot (r2.drop 1) with
   |none=>none
   |some (d,r3)=>if nx r3=62 then some (⟨l,d⟩,r3.drop 1) else none) else none
def WJ (s:List UInt8):Option (aH×List UInt8):=
 if nx s=60 then (if nx (s.drop 1)=62 then some (⟨[],[]⟩,s.drop 2) else Hw (s.drop 1)) else none
def esc (l:List UInt8):List UInt8:=l.flatMap fun c=>if c=34∨c=92 then [92,c] else [c]
def uN (a:aH):List UInt8:=if jg a.au then 60::(a.au++64::(a.domain++[62])) else 60::34::(esc a.au++34::64::(a.domain++[62]))
def yL (s:List UInt8):Bool:=s !=[]&&decide (s.length≤64)&&s.all lD
def gI (a:aH):Bool:=decide (a.au=[])&&decide (a.domain=[])
def dB (a:aH):Bool:=gI a||(yL a.au&&j5 a.domain&&decide ((uN a).length≤256))
theorem LU (l:List UInt8):(esc l).length≤2*l.length:=by
 induction l with
 |nil=>simp [esc]
 |cons c l ih=>
  simp only [esc,List.flatMap_cons,List.length_append,List.length_cons] at ih ⊢
  split<;>simp only [List.length_cons,List.length_nil]<;>omega
theorem OL {s:List UInt8} {F:Nat} (hl:s.length≤1000000) (hF:s.length<F):kD F s=some (s.all lD):=by
 unfold kD
 have hh:=scan (s:=s) (body:=eJ s) (mk:=fun i=>(false,(i:Int))) (p:=lD) (rr:=fun _=>false) (tt:=()) ?_ ?_ ?_ hF
 · cases ha:s.all lD with
   |true=>have:=hh.1 ha;rw [show ((0:Nat):Int)=0 from rfl] at this;rw [this];rfl
   |false=>obtain ⟨j,hj⟩:=hh.2 ha;rw [show ((0:Nat):Int)=0 from rfl] at hj;rw [hj];rfl
 · intro i x hx hp
   have hi:=(List.getElem?_eq_some_iff.1 hx).1
   simp only [eJ]
   rw [if_pos (by simpa using hi),bJ hx,Option.bind_some,WI,Option.bind_some,hp,wi (by omega)];rfl
 · intro i x hx hp
   have hi:=(List.getElem?_eq_some_iff.1 hx).1
   simp only [eJ]
   rw [if_pos (by simpa using hi),bJ hx,Option.bind_some,WI,Option.bind_some,hp];rfl
 · simp [eJ]
theorem WK {s:List UInt8} {F:Nat} (hF:s.length<F):nZ F s=some (yL s):=by
 unfold nZ mc yL
 by_cases h:s=[]
 · subst h;rfl
 · by_cases h2:s.length≤64
   · rw [if_pos (by simpa using h),if_pos (by simp;omega),OL (by omega) hF]
     simp [h,h2]
   · rw [if_pos (by simpa using h),if_neg (by simp;omega)]
     simp [h2]
theorem OM {a:aH} (hl:a.au.length≤80000):∀(r:List UInt8) (i F:Nat) (b:List UInt8),a.au.drop i=r→i+r.length=a.au.length→b.length≤2*i+1→r.length<F→
 iter (gF a) F (b,(i:Int))=some (.inr (b++esc r)):=by
 intro r
 induction r with
 |nil=>
  intro i F b hd hi hb hF
  obtain ⟨G,rfl⟩:=cN hF
  rw [dF (t:=b) (by simp only [gF];rw [if_neg (by simp at hi ⊢;omega)])]
  simp [esc]
 |cons c r ih=>
  intro i F b hd hi hb hF
  obtain ⟨G,rfl⟩:=cN (show 0<F by omega)
  obtain ⟨h1,h2,h3⟩:=drop_cons hd
  simp only [List.length_cons] at hi hF
  have hst:gF a (b,(i:Int))=some (.cK (b++(if c=34∨c=92 then [92,c] else [c]),((i+1:Nat):Int))):=by
   simp only [gF,nO]
   rw [if_pos (by simpa using h1),bJ h2]
   simp only [Option.bind_some]
   by_cases JB:c=34
   · subst JB
     simp only [decide_true,if_true,Option.bind_some,true_or]
     rw [cA (by simp;omega) (by omega),Option.bind_some,cA (by simp;omega) (by omega),Option.bind_some,wi (by omega)]
     simp
   · by_cases OO:c=92
     · subst OO
       rw [if_neg (by decide)]
       simp only [decide_true,Option.bind_some,if_true,or_true]
       rw [cA (by simp;omega) (by omega),Option.bind_some,cA (by simp;omega) (by omega),Option.bind_some,wi (by omega)]
       simp
     · rw [if_neg (by simpa using JB)]
       simp only [Option.bind_some]
       rw [if_neg (by simpa using OO),cA (by simp;omega) (by omega),Option.bind_some,wi (by omega),if_neg (by simp [JB,OO])]
  rw [cP hst,ih (i+1) G _ h3 (by omega) (by split<;>simp<;>omega) (by omega)]
  simp [esc]
theorem WN {a:aH} {F:Nat} (hl:a.au.length≤80000) (hd:a.domain.length≤80000) (hF:a.au.length+1<F):qj F a=some (uN a):=by
 have he:=LU a.au
 unfold qj uN
 rw [S5 (by omega) hF,Option.bind_some]
 cases jg a.au with
 |true=>
  simp only [Bool.not_true,Bool.false_eq_true,if_false,if_true]
  rw [iC (by simp;omega),Option.bind_some,iC (by simp;omega),Option.bind_some,iC (by simp;omega),Option.bind_some,iC (by simp;omega),Option.bind_some]
  simp
 |false=>
  simp only [Bool.not_false,if_true,Bool.false_eq_true,if_false]
  rw [show (([34]:List UInt8),(0:Int))=(([34]:List UInt8),((0:Nat):Int)) from rfl,OM hl a.au 0 F [34] (by simp) (by simp) (by simp) (by omega)]
  simp only [Option.bind_some]
  rw [cA (by simp;omega) (by omega),Option.bind_some,iC (by simp;omega),Option.bind_some,iC (by simp;omega),Option.bind_some,iC (by simp;omega),Option.bind_some,iC (by simp;omega),Option.bind_some]
  simp
theorem Hx {a:aH} {F:Nat} (hl:a.au.length≤80000) (hd:a.domain.length≤80000) (hF:a.au.length+a.domain.length+1<F):lJ F a=some (dB a):=by
 unfold lJ mw p8 dB
 simp only [Option.bind_some]
 cases hn:gI a with
 |true=>rw [gI] at hn;rw [hn];rfl
 |false=>
  rw [gI] at hn
  rw [hn]
  simp only [Bool.false_eq_true,if_false,Bool.false_or]
  rw [WK (by omega),Option.bind_some]
  cases hlb:yL a.au with
  |false=>rfl
  |true=>
   simp only [if_true,Bool.true_and]
   rw [ab4 (by omega) (by omega),Option.bind_some]
   cases hdb:j5 a.domain with
   |false=>rfl
   |true=>
    simp only [if_true,Bool.true_and]
    rw [WN hl hd (by omega)]
    simp
    omega
theorem aeQ (a:aH):p8 a=some (gI a):=rfl
def CB (s:List UInt8):aH×List UInt8×Int:=
 match WJ s with
 |none=>(⟨[],[]⟩,[],3)
 |some (a,rest)=>if dB a then (a,rest,0) else (⟨[],[]⟩,[],5)
theorem At.zero {s:List UInt8} (h:s.length≤90000):At s 0 s:=⟨Nat.zero_le _,rfl,h⟩
theorem ace {s:List UInt8} {a:aH} {rest:List UInt8} {n:Nat} {t:List UInt8}:True:=trivial
end Go.Proofs.cF
end
section
set_option maxRecDepth 100000
namespace Go.Proofs.cF
open Go Go.Am Go.Proofs
theorem Zw:∀(k:Nat) (r b rest:List UInt8),r.length≤k→qL r=some (b,rest)→b.length+rest.length≤r.length:=by
 intro k
 induction k with
 |zero=>
  intro r b rest hk h
  have hr:r=[]:=List.length_eq_zero_iff.1 (by omega)
  subst hr;cases h
 |succ k ih=>
  intro r b rest hk h
  match r,hk,h with
  |[],hk,h=>cases h
  |c::r,hk,h=>
   rw [Bu] at h
   simp only [List.length_cons] at hk ⊢
   split at h
   · injection h with h;injection h with h1 h2;subst h1 h2;simp
   · split at h
     · match r,hk,h with
       |[],hk,h=>cases h
       |d::r',hk,h=>
        simp only at h
        split at h
        · simp only [Option.map_eq_some_iff] at h
          obtain ⟨⟨b',rest'⟩,h1,h2⟩:=h
          injection h2 with h2 h3
          subst h2 h3
          have:=ih r' b' rest' (by simp at hk;omega) h1
          simp;omega
        · cases h
     · split at h
       · simp only [Option.map_eq_some_iff] at h
         obtain ⟨⟨b',rest'⟩,h1,h2⟩:=h
         injection h2 with h2 h3
         subst h2 h3
         have:=ih r b' rest' (by omega) h1
         simp;omega
       · cases h
theorem Zx (q:UInt8→Bool) (r:List UInt8):(r.dropWhile q).length≤r.length:=(List.dropWhile_suffix q).length_le
theorem LV {r b t:List UInt8} (h:uM r=some (b,t)):b.length≤r.length∧t.length≤r.length:=by
 unfold uM at h
 split at h
 · split at h
   · rename_i b' rest' hq
     have:=Zw _ _ _ _ (Nat.le_refl _) hq
     have hd:(r.drop 1).length≤r.length:=by simp
     split at h
     · cases h
     · injection h with h;injection h with h1 h2;subst h1 h2;omega
   · cases h
 · split at h
   · injection h with h;injection h with h1 h2;subst h1 h2
     exact ⟨Jz _ _,Zx _ _⟩
   · cases h
theorem GU {r b t:List UInt8} (h:ot r=some (b,t)):b.length≤r.length:=by
 unfold ot at h
 split at h
 · injection h with h;injection h with h1 _;subst h1;exact Jz _ _
 · cases h
theorem S6:∀(k:Nat) (r r':List UInt8),PW k r=some r'→r'.length≤r.length:=by
 intro k
 induction k with
 |zero=>intro r r' h;cases h
 |succ k ih=>
  intro r r' h
  simp only [PW] at h
  split at h
  · split at h
    · cases h
    · rename_i b r2 hd
      have h1:=JA hd
      have h2:(r.drop 1).length≤r.length:=by simp
      have h3:(r2.drop 1).length≤r2.length:=by simp
      split at h
      · have:=ih _ _ h;omega
      · split at h
        · injection h with h;subst h;omega
        · cases h
  · cases h
theorem LW {r r':List UInt8} (h:Bv r=some r'):r'.length≤r.length:=by
 unfold Bv at h
 split at h
 · exact S6 _ _ _ h
 · injection h with h;subst h;exact Nat.le_refl _
theorem acM {r rest:List UInt8} {a:aH} (h:Hw r=some (a,rest)):a.au.length≤r.length∧a.domain.length≤r.length:=by
 unfold Hw at h
 split at h
 · cases h
 · rename_i r1 hr
   have h1:=LW hr
   split at h
   · cases h
   · rename_i l r2 hl
     have h2:=LV hl
     split at h
     · split at h
       · cases h
       · rename_i d r3 hd
         have h3:=GU hd
         have h4:(r2.drop 1).length≤r2.length:=by simp
         split at h
         · injection h with h;injection h with h5 _;subst h5;simp only;omega
         · cases h
     · cases h
def aeR (s:List UInt8):aH×Int:=if (CB s).2.2=0∧(CB s).2.1≠[] then (⟨[],[]⟩,3) else ((CB s).1,(CB s).2.2)
theorem PX {q:UInt8→Bool} {l:List UInt8} {x:UInt8} (hx:q x=false) (h:∀c∈l,q c=true) (t:List UInt8):(l++x::t).takeWhile q=l∧(l++x::t).dropWhile q=x::t:=by
 induction l with
 |nil=>simp [hx]
 |cons c l ih=>
  obtain ⟨h1,h2⟩:=ih fun y hy=>h y (by simp [hy])
  have:=h c (by simp)
  simp [this,h1,h2]
theorem FH (c:UInt8):eC c=true→z7 c=true∧c≠62∧c≠64∧c≠34:=by
 have:=nV (p:=fun c=> !eC c||(z7 c&&c !=62&&c !=64&&c !=34)) (by kernel_rfl) c
 intro h
 rw [h] at this
 simp at this
 exact ⟨this.1.1.1,this.1.1.2,this.1.2,this.2⟩
theorem OP {l:List UInt8} (h:jg l=true):∀c∈l,z7 c=true:=by
 intro c hc
 rcases z6 l c hc with rfl|⟨p,hp,jG⟩
 · decide
 · have:=List.all_eq_true.1 h p hp
   simp only [Bool.and_eq_true] at this
   exact (FH c (List.all_eq_true.1 this.2 c jG)).1
theorem LX {l:List UInt8} (h:jg l=true):∃c t,l=c::t∧eC c=true:=by
 cases l with
 |nil=>simp [jg,bl] at h
 |cons c t=>
  refine ⟨c,t,rfl, ?_⟩
  unfold jg at h
  simp only [bl] at h
  by_cases hc:c=46
  · rw [if_pos hc] at h;simp at h
  · rw [if_neg hc] at h
    cases hs:bl t with
    |nil=>exact absurd hs (gH t)
    |cons x y=>rw [hs] at h;simp at h;exact h.1.1
theorem WO (c:UInt8):(Cz c=true→uL c=true)∧(uJ c=true→uL c=true):=by
 have:=nV (p:=fun c=>(!Cz c||uL c)&&(!uJ c||uL c)) (by kernel_rfl) c
 simp at this
 exact ⟨fun h=>by simpa [h] using this.1,fun h=>by simpa [h] using this.2⟩
theorem OQ {l:List UInt8} {x:UInt8} (h:l.getLast?=some x):l.dropLast++[x]=l:=by
 have hne:l≠[]:=by intro h0;subst h0;cases h
 have h2:=List.dropLast_concat_getLast hne
 rw [List.getLast?_eq_some_getLast hne] at h
 injection h with h
 rw [←h];exact h2
theorem WQ {d:List UInt8} (h:s5 d=true):d=91::(inner d++[93]):=by
 simp only [s5,Bool.and_eq_true,decide_eq_true_eq,beq_iff_eq] at h
 cases d with
 |nil=>simp at h
 |cons c r=>
  obtain ⟨⟨h1,h2⟩,h3⟩:=h
  simp at h2
  subst h2
  cases r with
  |nil=>simp at h1
  |cons a t=>
   rw [List.getLast?_cons_cons] at h3
   simp only [inner,List.drop_succ_cons,List.drop_zero]
   rw [OQ h3]
theorem OS {d:List UInt8} (h:j5 d=true):∀c∈d,uL c=true:=by
 intro c hc
 simp only [j5,Bool.and_eq_true] at h
 have hs:=h.1.2
 unfold mO at hs
 by_cases hi:s5 d=true
 · rw [if_pos hi] at hs
   simp only [Bool.and_eq_true] at hs
   rw [WQ hi] at hc
   rcases List.mem_cons.1 hc with rfl|hc
   · decide
   · rcases List.mem_append.1 hc with hc|hc
     · rcases z6 _ c hc with rfl|⟨p,hp,jG⟩
       · decide
       · exact (WO c).2 (List.all_eq_true.1 (uK (List.all_eq_true.1 hs.2 p hp)).2.1 c jG)
     · simp at hc;subst hc;decide
 · rw [if_neg hi] at hs
   rcases z6 _ c hc with rfl|⟨p,hp,jG⟩
   · decide
   · have:=List.all_eq_true.1 hs p hp
     simp only [mN,Bool.and_eq_true] at this
     exact (WO c).1 (List.all_eq_true.1 this.2 c jG)
theorem Bw {d:List UInt8} (h:j5 d=true) {x:UInt8} (hx:uL x=false) (t:List UInt8):ot (d++x::t)=some (d,x::t):=by
 obtain ⟨h1,h2⟩:=PX hx (OS h) t
 unfold ot
 rw [h1,h2,if_pos]
 simp only [j5,Bool.and_eq_true] at h
 exact h.1.2
theorem Zy {l:List UInt8} (h:l.all lD=true) (rest:List UInt8):qL (esc l++34::rest)=some (l,rest):=by
 induction l with
 |nil=>simp [esc,Bu]
 |cons c l ih=>
  simp only [List.all_cons,Bool.and_eq_true] at h
  have ih:=ih h.2
  simp only [esc,List.flatMap_cons,List.append_assoc] at ih ⊢
  by_cases hc:c=34∨c=92
  · rw [if_pos hc]
    simp only [List.cons_append,List.nil_append]
    rw [Bu,if_neg (by decide),if_pos rfl]
    simp only [h.1,if_true,ih,Option.map_some]
  · rw [if_neg hc]
    simp only [List.cons_append,List.nil_append]
    rw [Bu,if_neg fun h=>hc (.inl h),if_neg fun h=>hc (.inr h)]
    simp only [h.1,if_true,ih,Option.map_some]
theorem S7 {a:aH} (hn:gI a=false) (h:dB a=true) (more:List UInt8):∃r,uN a=60::r∧nx r≠62∧nx r≠64∧(∀r',Bv r'=some (r++more)→Hw r'=some (a,more)):=by
 simp only [dB,hn,Bool.false_or,Bool.and_eq_true] at h
 obtain ⟨⟨hl,hd⟩, -⟩:=h
 simp only [yL,Bool.and_eq_true] at hl
 unfold uN
 cases hp:jg a.au with
 |true=>
  obtain ⟨c,t,ht,hc⟩:=LX hp
  obtain ⟨-,h62,h64,JB⟩:=FH c hc
  refine ⟨a.au++64::(a.domain++[62]),by simp, ?_, ?_, ?_⟩
  · rw [ht];simpa [nx] using h62
  · rw [ht];simpa [nx] using h64
  · intro r' hr'
    have e:(a.au++64::(a.domain++[62]))++more=a.au++64::(a.domain++62::more):=by simp
    obtain ⟨h1,h2⟩:=PX (q:=z7) (x:=64) (by decide) (OP hp) (a.domain++62::more)
    unfold Hw
    rw [hr',e]
    have WR:uM (a.au++64::(a.domain++62::more))=some (a.au,64::(a.domain++62::more)):=by
     unfold uM
     rw [if_neg (by rw [ht];simpa [nx] using JB),h1,h2,if_pos hp]
    simp only [WR]
    rw [if_pos (show nx (64::(a.domain++62::more))=64 from rfl)]
    simp only [List.drop_succ_cons,List.drop_zero]
    rw [Bw hd (by decide)]
    rfl
 |false=>
  refine ⟨34::(esc a.au++34::64::(a.domain++[62])),by simp,by simp [nx],by simp [nx], ?_⟩
  intro r' hr'
  have e:(34::(esc a.au++34::64::(a.domain++[62])))++more=34::(esc a.au++34::64::(a.domain++62::more)):=by simp
  unfold Hw
  rw [hr',e]
  have WR:uM (34::(esc a.au++34::64::(a.domain++62::more)))=some (a.au,64::(a.domain++62::more)):=by
   unfold uM
   rw [if_pos (show nx (34::(esc a.au++34::64::(a.domain++62::more)))=34 from rfl)]
   simp only [List.drop_succ_cons,List.drop_zero]
   rw [Zy hl.2]
   simp only
   rw [if_neg (by simpa using hl.1.1)]
  simp only [WR]
  rw [if_pos (show nx (64::(a.domain++62::more))=64 from rfl)]
  simp only [List.drop_succ_cons,List.drop_zero]
  rw [Bw hd (by decide)]
  rfl
theorem acf {a:aH} (hn:gI a=false) (h:dB a=true) (more:List UInt8):CB (uN a++more)=(a,more,0):=by
 obtain ⟨r,hr,h62,h64,hb⟩:=S7 hn h more
 have aeo:r≠[]:=by
  intro hr0
  subst hr0
  unfold uN at hr
  split at hr
  · injection hr with _ hr;simp at hr
  · injection hr with _ hr;simp at hr
 have LY:nx (r++more)=nx r:=by
  cases r with
  |nil=>exact absurd rfl aeo
  |cons=>rfl
 unfold CB WJ
 rw [hr,List.cons_append,if_pos (show nx (60::(r++more))=60 from rfl)]
 simp only [List.drop_succ_cons,List.drop_zero]
 rw [if_neg (by rw [LY];exact h62),hb (r++more) (by unfold Bv;rw [if_neg (by rw [LY];exact h64)])]
 simp only
 rw [if_pos h]
end Go.Proofs.cF
end
section
set_option maxRecDepth 100000
namespace Go.Proofs.cF
open Go Go.Am Go.Proofs
theorem OT (n:Nat):(List.range 256).all (fun m=>decide (jS (n+30) (UInt8.ofNat m)=some (eC (UInt8.ofNat m))))=true:=by kernel_rfl
theorem WT {F:Nat} (hF:30≤F) (c:UInt8):jS F c=some (eC c):=by
 obtain ⟨n,rfl⟩:∃n,F=n+30:=⟨F - 30,by omega⟩
 have:=nV (p:=fun c=>decide (jS (n+30) c=some (eC c))) (OT n) c
 simpa using this
def pr:Bool→List UInt8→Bool
 |_,[]=>true
 |p,c::r=>(if c=46 then p&&decide (r≠[]) else eC c)&&pr (decide (c≠46)) r
theorem LZ {F:Nat} {s:List UInt8} (hs:s.length≤90000) (Zv:30≤F):∀(r:List UInt8) (i G:Nat) (p:Bool),s.drop i=r→i+r.length=s.length→r.length<G→
 (if 0<i then ∃x,s[i - 1]? =some x∧p= !decide (x=46) else p=false)→iter (fo F s) G (i:Int)=some (if pr p r then .inr () else .inl false):=by
 intro r
 induction r with
 |nil=>
  intro i G p hd hi hG hp
  obtain ⟨G,rfl⟩:=cN hG
  rw [dF (t:=()) (by simp only [fo];rw [if_neg (by simp at hi ⊢;omega)])]
  rfl
 |cons c r ih=>
  intro i G p hd hi hG hp
  obtain ⟨G,rfl⟩:=cN (show 0<G by omega)
  obtain ⟨h1,h2,h3⟩:=drop_cons hd
  simp only [List.length_cons] at hi hG
  have hp1:iN s (i:Int)=some (decide (c=46)&&p&&decide (r≠[])):=by
   unfold iN
   rw [bJ h2,Option.bind_some]
   by_cases hc:c=46
   · rw [if_pos (by simpa using hc)]
     by_cases h0:0<i
     · rw [if_pos h0] at hp
       obtain ⟨x,hx,hpx⟩:=hp
       rw [if_pos (by simpa using h0),wi (by omega)]
       by_cases hr:r=[]
       · rw [if_neg (by subst hr;simp at hi ⊢;omega)];simp [hr]
       · rw [if_pos (by have:0<r.length:=List.length_pos_iff.2 hr
                        simp;omega),wr (by omega) (by omega),show (i:Int) - 1=((i - 1:Nat):Int) by omega,bJ hx,Option.bind_some,hpx]
         simp [hc,hr]
     · rw [if_neg h0] at hp
       rw [if_neg (by simpa using h0),hp];simp
   · rw [if_neg (by simpa using hc)];simp [hc]
  have hst:fo F s (i:Int)=if (if c=46 then p&&decide (r≠[]) else eC c)=true then some (.cK ((i+1:Nat):Int)) else some (.ret false):=by
   simp only [fo]
   rw [if_pos (by simpa using h1),hp1,Option.bind_some]
   unfold kZ
   rw [bJ h2]
   simp only [Option.bind_some,WT Zv]
   by_cases hc:c=46
   · have h46:eC c=false:=by subst hc;decide
     simp only [hc,decide_true,Bool.true_and,if_true]
     subst hc
     cases hpp:(p&&decide (r≠[])) with
     |true=>simp only [Bool.not_true,Bool.false_eq_true,if_false,Option.bind_some,if_true];rw [wi (by omega)]
     |false=>simp only [Bool.not_false,if_true,Option.bind_some,h46,Bool.false_eq_true,if_false]
   · simp only [hc,decide_false,Bool.false_and,Bool.not_false,if_true,if_false,Option.bind_some]
     cases eC c with
     |true=>simp only [Bool.not_true,Bool.false_eq_true,if_false,if_true];rw [wi (by omega)]
     |false=>simp
  have hpr:pr p (c::r)=((if c=46 then p&&decide (r≠[]) else eC c)&&pr (decide (c≠46)) r):=rfl
  rw [hpr]
  obtain ⟨q,hq⟩:∃q,q=(if c=46 then p&&decide (r≠[]) else eC c):=⟨_,rfl⟩
  rw [←hq] at hst ⊢
  cases q with
  |false=>
   have WX:=hst.trans (if_neg (by decide))
   rw [iX WX]
   simp
  |true=>
   have WX:=hst.trans (if_pos rfl)
   rw [cP WX,ih (i+1) G (decide (c≠46)) h3 (by omega) (by omega) (by rw [if_pos (by omega)];exact ⟨c,by simpa using h2,by simp⟩)]
   simp
theorem S8:∀(r:List UInt8) (p:Bool),r≠[]→pr p r=match bl r with|[]=>false|h::t=>h.all eC&&(p||h !=[])&&t.all fun q=>q !=[]&&q.all eC:=by
 intro r
 induction r with
 |nil=>intro p h;exact absurd rfl h
 |cons c r ih=>
  intro p _
  simp only [pr,bl]
  by_cases hc:c=46
  · simp only [if_pos hc]
    by_cases hr:r=[]
    · subst hr;simp [bl]
    · have h2:=ih false hr
      have hd:decide (c≠46)=false:=by simpa using hc
      rw [hd,h2]
      cases hs:bl r with
      |nil=>exact absurd hs (gH r)
      |cons h t=>
       simp only [hr,ne_eq,not_false_eq_true,decide_true,Bool.and_true,List.all_nil,Bool.true_and,List.all_cons,Bool.false_or]
       cases p<;>cases h.all eC<;>cases (h !=[])<;>simp
  · simp only [if_neg hc]
    have hd:decide (c≠46)=true:=by simpa using hc
    rw [hd]
    by_cases hr:r=[]
    · subst hr;simp [bl,pr]
    · rw [ih true hr]
      cases hs:bl r with
      |nil=>exact absurd hs (gH r)
      |cons h t=>
       simp only [List.all_cons,Bool.true_or,Bool.and_true]
       have:(c::h !=[])=true:=rfl
       rw [this]
       cases eC c<;>cases p<;>simp
theorem WY {F:Nat} {s:List UInt8} (hs:s.length≤80000) (hF:s.length+30<F):mJ F s=some (jg s):=by
 unfold mJ
 rw [show (0:Int)=((0:Nat):Int) from rfl,LZ (by omega) (by omega) s 0 F false rfl (by simp) (by omega) (by simp)]
 simp only [Option.bind_some]
 by_cases h:s=[]
 · subst h;simp [pr,jg,bl]
 · rw [S8 s false h]
   unfold jg
   cases hsp:bl s with
   |nil=>exact absurd hsp (gH s)
   |cons a t=>
    simp only [Bool.false_or,List.all_cons]
    cases h1:a.all eC<;>cases h2:(a !=[])<;>cases h3:(t.all fun q=>q !=[]&&q.all eC)<;>simp [h]
theorem WZ (x:UInt8):(if decide (x<32)=true then some true else some (decide (126<x)))=some (!lD x):=by
 have:=nV (p:=fun x=>decide ((if decide (x<32)=true then some true else some (decide (126<x)))=some (!lD x))) (by kernel_rfl) x
 exact of_decide_eq_true this
theorem W0 {s:List UInt8} {F:Nat} (hF:65<F):mE F s=some (yL s):=by
 unfold mE yL
 by_cases h:s=[]
 · subst h;rfl
 · by_cases h2:64<s.length
   · rw [if_pos (by simp;omega),decide_eq_false (by omega)];simp
   · rw [if_neg (by simp [h];omega),decide_eq_true (by omega)]
     have hh:=scan (s:=s) (F:=F) (body:=fj s) (mk:=fun i=>(i:Int)) (p:=lD) (rr:=fun _=>false) (tt:=()) ?_ ?_ ?_ (by omega)
     · cases ha:s.all lD with
       |true=>have:=hh.1 ha;rw [show ((0:Nat):Int)=0 from rfl] at this;rw [this];simp [h]
       |false=>obtain ⟨j,hj⟩:=hh.2 ha;rw [show ((0:Nat):Int)=0 from rfl] at hj;rw [hj];simp
     · intro i x hx hp
       have hi:=(List.getElem?_eq_some_iff.1 hx).1
       simp only [fj,iL]
       rw [if_pos (by simpa using hi),bJ hx,Option.bind_some,WZ,Option.bind_some,hp,wi (by omega)];rfl
     · intro i x hx hp
       have hi:=(List.getElem?_eq_some_iff.1 hx).1
       simp only [fj,iL]
       rw [if_pos (by simpa using hi),bJ hx,Option.bind_some,WZ,Option.bind_some,hp];rfl
     · simp [fj]
theorem Zz {s:List UInt8} {F:Nat} (hF:99010<F):fL F s=some (j5 s):=by
 by_cases h:s.length≤99000
 · exact ab9 h (by omega)
 · unfold fL j5
   rw [if_pos (by simp;omega),decide_eq_false (by omega)]
   rfl
theorem OU {a:aH} (hl:a.au.length≤80000):∀(r:List UInt8) (i F:Nat) (b:List UInt8),a.au.drop i=r→i+r.length=a.au.length→b.length≤2*i+2→r.length<F→
 iter (fY a) F (b,(i:Int))=some (.inr (b++esc r)):=by
 intro r
 induction r with
 |nil=>
  intro i F b hd hi hb hF
  obtain ⟨G,rfl⟩:=cN hF
  rw [dF (t:=b) (by simp only [fY];rw [if_neg (by simp at hi ⊢;omega)])]
  simp [esc]
 |cons c r ih=>
  intro i F b hd hi hb hF
  obtain ⟨G,rfl⟩:=cN (show 0<F by omega)
  obtain ⟨h1,h2,h3⟩:=drop_cons hd
  simp only [List.length_cons] at hi hF
  have hst:fY a (b,(i:Int))=some (.cK (b++(if c=34∨c=92 then [92,c] else [c]),((i+1:Nat):Int))):=by
   simp only [fY,mK]
   rw [if_pos (by simpa using h1),bJ h2]
   simp only [Option.bind_some]
   by_cases JB:c=34
   · subst JB
     simp only [decide_true,if_true,Option.bind_some,true_or]
     rw [cA (by simp;omega) (by omega),Option.bind_some,cA (by simp;omega) (by omega),Option.bind_some,wi (by omega)]
     simp
   · by_cases OO:c=92
     · subst OO
       rw [if_neg (by decide)]
       simp only [decide_true,Option.bind_some,if_true,or_true]
       rw [cA (by simp;omega) (by omega),Option.bind_some,cA (by simp;omega) (by omega),Option.bind_some,wi (by omega)]
       simp
     · rw [if_neg (by simpa using JB)]
       simp only [Option.bind_some]
       rw [if_neg (by simpa using OO),cA (by simp;omega) (by omega),Option.bind_some,wi (by omega),if_neg (by simp [JB,OO])]
  rw [cP hst,ih (i+1) G _ h3 (by omega) (by split<;>simp<;>omega) (by omega)]
  simp [esc]
theorem ZA {a:aH} {F:Nat} (hn:gI a=false) (hl:a.au.length≤80000) (hd:a.domain.length≤80000) (hF:a.au.length+30<F):og F a=some (uN a):=by
 have he:=LU a.au
 unfold og uN
 rw [gI] at hn
 rw [hn,WY hl hF]
 simp only [Bool.false_eq_true,if_false,Option.bind_some]
 cases jg a.au with
 |true=>
  simp only [if_true]
  rw [iC (by simp;omega),Option.bind_some,iC (by simp;omega),Option.bind_some,iC (by simp;omega),Option.bind_some,iC (by simp;omega),Option.bind_some]
  simp
 |false=>
  simp only [Bool.false_eq_true,if_false]
  rw [show (([60,34]:List UInt8),(0:Int))=(([60,34]:List UInt8),((0:Nat):Int)) from rfl,OU hl a.au 0 F [60,34] (by simp) (by simp) (by simp) (by omega)]
  simp only [Option.bind_some]
  try unfold mL
  rw [cA (by simp;omega) (by omega),Option.bind_some,iC (by simp;omega),Option.bind_some,iC (by simp;omega),Option.bind_some,iC (by simp;omega),Option.bind_some]
  simp
theorem L0 {a:aH} {F:Nat} (hl:a.au.length≤80000) (hd:a.domain.length≤80000) (hF:99010<F):jT F a=some (dB a):=by
 unfold jT k7 dB
 cases hn:gI a with
 |true=>rw [gI] at hn;rw [hn];rfl
 |false=>
  have hn':=hn
  rw [gI] at hn
  rw [hn]
  simp only [Bool.false_eq_true,if_false,Bool.false_or]
  rw [W0 (by omega),Option.bind_some]
  cases hlb:yL a.au with
  |false=>rfl
  |true=>
   simp only [if_true,Bool.true_and]
   rw [Zz hF,Option.bind_some]
   cases hdb:j5 a.domain with
   |false=>rfl
   |true=>
    simp only [if_true,Bool.true_and]
    rw [ZA hn' hl hd (by omega)]
    simp
    omega
end Go.Proofs.cF
end
section
namespace Go.Am
open Go
def xe {α A ρ:Type} (step:A→α→Except ρ A):A→List α→Except ρ A
 |a,[]=> .ok a
 |a,x::r=>match step a x with
  | .ok a'=>xe step a' r
  | .error e=> .error e
theorem lp {α ρ τ σ A:Type} {s:List α} {body:σ→Option (St ρ τ σ)} {mk:A→Nat→σ} {step:A→α→Except ρ A} {tt:A→τ} (I:A→Nat→Prop)
 (h1:∀a i x,s[i]? =some x→I a i→match step a x with
  | .ok a'=>body (mk a i)=some (.cK (mk a' (i+1)))∧I a' (i+1)
  | .error r=>body (mk a i)=some (.ret r))
 (h3:∀a,I a s.length→body (mk a s.length)=some (.fF (tt a))) {F:Nat} {a:A} (hF:s.length<F) (h0:I a 0):
 iter body F (mk a 0)=some (match xe step a s with| .ok a'=> .inr (tt a')| .error r=> .inl r)∧∀a',xe step a s= .ok a'→I a' s.length:=by
 suffices h:∀(r:List α) (i F:Nat) (a:A),s.drop i=r→i+r.length=s.length→r.length<F→I a i→
  iter body F (mk a i)=some (match xe step a r with| .ok a'=> .inr (tt a')| .error r=> .inl r)∧∀a',xe step a r= .ok a'→I a' s.length from h s 0 F a rfl (by simp) hF h0
 intro r
 induction r with
 |nil=>
  intro i F a hd hl hF h0
  obtain ⟨G,rfl⟩:=cN hF
  have:i=s.length:=by simpa using hl
  subst this
  exact ⟨dF (h3 a h0),fun a' h=>by cases h;exact h0⟩
 |cons x r ih=>
  intro i F a hd hl hF h0
  obtain ⟨G,rfl⟩:=cN hF
  obtain ⟨hi,hx,hr⟩:=drop_cons hd
  simp only [List.length_cons] at hl hF
  have:=h1 a i x hx h0
  simp only [xe]
  cases hs:step a x with
  |ok a'=>
   rw [hs] at this
   rw [cP this.1]
   exact ih (i+1) G a' hr (by omega) (by omega) this.2
  |error e=>
   rw [hs] at this
   rw [iX this]
   exact ⟨rfl,fun a' h=>by cases h⟩
theorem lpo {α ρ τ σ A:Type} {s:List α} {body:σ→Option (St ρ τ σ)} {mk:A→Nat→σ} {step:A→α→A} {tt:A→τ} (I:A→Nat→Prop)
 (h1:∀a i x,s[i]? =some x→I a i→body (mk a i)=some (.cK (mk (step a x) (i+1)))∧I (step a x) (i+1))
 (h3:∀a,I a s.length→body (mk a s.length)=some (.fF (tt a))) {F:Nat} {a:A} (hF:s.length<F) (h0:I a 0):
 iter body F (mk a 0)=some (.inr (tt (s.foldl step a)))∧I (s.foldl step a) s.length:=by
 have key:∀(r:List α) (a:A),xe (ρ:=ρ) (fun a x=> .ok (step a x)) a r= .ok (r.foldl step a):=by
  intro r
  induction r with
  |nil=>intro a;rfl
  |cons x r ih=>intro a;simp only [xe,List.foldl_cons];exact ih _
 have:=lp (s:=s) (body:=body) (mk:=mk) (step:=fun a x=> .ok (step a x)) (tt:=tt) I (fun a i x hx h=>h1 a i x hx h) h3 hF h0
 rw [key] at this
 exact ⟨this.1,this.2 _ rfl⟩
theorem afx {a b:Int} (h0:0≤a) (h1:a≤4000000000000000000) (h2:0≤b) (h3:b≤4000000000000000000):IntKind.wrap .i64 (a+b)=a+b:=wr (by omega) (by omega)
theorem qO {n:Nat} (h:n≤1000000000):IntKind.wrap .i64 ((n:Int)+1)=((n+1:Nat):Int):=by rw [wr (by omega) (by omega)];simp
theorem OV {α ρ τ σ:Type} {s:List α} {body:σ→Option (St ρ τ σ)} {mk:Nat→σ} {p:α→Bool} {rr:Nat→ρ} {tt:τ}
 (h1:∀i x,s[i]? =some x→p x=true→body (mk i)=some (.cK (mk (i+1)))) (h2:∀i x,s[i]? =some x→p x=false→body (mk i)=some (.ret (rr i)))
 (h3:body (mk s.length)=some (.fF tt)) {F:Nat} (hF:s.length<F):
 (s.all p=true→iter body F (mk 0)=some (.inr tt))∧(s.all p=false→∃j,iter body F (mk 0)=some (.inl (rr j))):=by
 suffices h:∀(r:List α) (i F:Nat),s.drop i=r→i+r.length=s.length→r.length<F→
  (r.all p=true→iter body F (mk i)=some (.inr tt))∧(r.all p=false→∃j,iter body F (mk i)=some (.inl (rr j))) from h s 0 F rfl (by simp) hF
 intro r
 induction r with
 |nil=>
  intro i F hd hl hF
  obtain ⟨G,rfl⟩:=cN hF
  have:i=s.length:=by simpa using hl
  subst this
  exact ⟨fun _=>dF h3,fun h=>by simp at h⟩
 |cons x r ih=>
  intro i F hd hl hF
  obtain ⟨G,rfl⟩:=cN hF
  obtain ⟨hi,hx,hr⟩:=drop_cons hd
  simp only [List.length_cons] at hl hF
  cases hp:p x with
  |true=>
   rw [cP (h1 i x hx hp)]
   simp only [List.all_cons,hp,Bool.true_and]
   exact ih (i+1) G hr (by omega) (by omega)
  |false=>
   rw [iX (h2 i x hx hp)]
   simp only [List.all_cons,hp,Bool.false_and]
   exact ⟨fun h=>by simp at h,fun _=>⟨i,rfl⟩⟩
end Go.Am
end
section
set_option maxRecDepth 100000
namespace Go.Proofs.cF
open Go Go.Am Go.Proofs
def gX (v lo hi:Int):Bool:=decide (lo≤v)&&decide (v≤hi)
def kq (r:aW):Bool:=(decide (r.code=0)||gX r.code 200 599)&&(dB r.cv&&(!gI r.cv&&(gX r.state 1 5&&(gX r.tries 0 255&&(gX r.next 0 2147483647&&decide (r.why.length≤100))))))
def qP (a:aH):Prop:=a.au.length≤400∧a.domain.length≤600
def sH (a:aH):Prop:=a.au.length≤70000∧a.domain.length≤70000
theorem L1 {a:aH} (h:dB a=true):qP a:=by
 simp only [dB,gI,yL,j5,Bool.or_eq_true,Bool.and_eq_true,decide_eq_true_eq] at h
 rcases h with ⟨h1,h2⟩|⟨⟨h1,h2⟩, -⟩
 · simp [qP,h1,h2]
 · exact ⟨by have:=h1.1.2;omega,by have:=h2.1.1;omega⟩
def fM (e:ak):Bool:=dB e.av&&(gX e.born 0 2147483647&&(gX e.size 0 2147483647&&(decide (1≤e.az.length)&&(decide (e.az.length≤100)&&e.az.all kq))))
theorem tight {a:aH} (h:dB a=true):a.au.length≤64∧a.domain.length≤255:=by
 simp only [dB,gI,yL,j5,Bool.or_eq_true,Bool.and_eq_true,decide_eq_true_eq] at h
 rcases h with ⟨h1,h2⟩|⟨⟨h1,h2⟩, -⟩
 · simp [h1,h2]
 · exact ⟨by have:=h1.1.2;omega,by have:=h2.1.1;omega⟩
theorem W3 (v lo hi:Int):eR v lo hi=some (gX v lo hi):=rfl
theorem W4 (v hi:Int):nI v hi=some (gX v 0 hi):=rfl
theorem PY {r:aW} {F:Nat} (h:sH r.cv) (hF:199010<F):qk F r=some (kq r):=by
 unfold qk nP nQ kq
 rw [Hx (by have:=h.1;omega) (by have:=h.2;omega) (by have:=h.1;have:=h.2;omega)]
 simp only [W3,Option.bind_some]
 have hn:(decide (r.cv.au=([]:List UInt8))&&decide (r.cv.domain=([]:List UInt8)))=gI r.cv:=rfl
 rw [hn]
 by_cases c:r.code=0
 · rw [if_pos (by simpa using c)]
   simp only [Option.bind_some,c,decide_true,Bool.true_or,Bool.true_and,if_true]
   cases dB r.cv<;>cases gI r.cv<;>cases gX r.state 1 5<;>cases gX r.tries 0 255<;>cases gX r.next 0 2147483647<;>simp<;>omega
 · rw [if_neg (by simpa using c)]
   simp only [Option.bind_some,c,decide_false,Bool.false_or]
   cases gX r.code 200 599<;>cases dB r.cv<;>cases gI r.cv<;>cases gX r.state 1 5<;>cases gX r.tries 0 255<;>cases gX r.next 0 2147483647<;>simp<;>omega
theorem PZ {r:aW} {F:Nat} (h:sH r.cv) (hF:199010<F):om F r=some (kq r):=by
 unfold om mM kq
 rw [L0 (by have:=h.1;omega) (by have:=h.2;omega) (by omega)]
 have hn:oh r.cv=some (gI r.cv):=by
  unfold oh
  rfl
 rw [hn]
 simp only [W4,Option.bind_some]
 have hs:gX r.state 1 5=(decide (1≤r.state)&&decide (r.state≤5)):=rfl
 have hc:gX r.code 200 599=(decide (200≤r.code)&&decide (r.code≤599)):=rfl
 have hw:decide ((r.why.length:Int)≤100)=decide (r.why.length≤100):=by
  rw [Bool.eq_iff_iff];simp only [decide_eq_true_eq];omega
 rw [hs,hc,hw]
 cases dB r.cv<;>cases gI r.cv<;>cases gX r.tries 0 255<;>cases gX r.next 0 2147483647<;>cases decide (1≤r.state)<;>cases decide (r.state≤5)<;>cases decide (r.code=0)<;>cases decide (200≤r.code)<;>cases decide (r.code≤599)<;>simp
theorem ZB {l:List aW} {F:Nat} (hl:l.length≤1000) (hr:∀r∈l,sH r.cv) (hF:199010<F):dc F l=some (!l.all kq):=by
 unfold dc eZ
 have hh:=OV (s:=l) (body:=cq F l) (mk:=fun i=>((0:Int),(i:Int))) (p:=kq) (rr:=fun i=>(i:Int)) (tt:=()) (F:=F) ?_ ?_ ?_ (by omega)
 · cases h:l.all kq with
   |true=>
    have:=hh.1 h
    rw [show ((0:Int),(0:Int))=(0,((0:Nat):Int)) from rfl,this];rfl
   |false=>
    obtain ⟨j,this⟩:=hh.2 h
    rw [show ((0:Int),(0:Int))=(0,((0:Nat):Int)) from rfl,this]
    simp
 · intro i x hx hp
   have hi:=(List.getElem?_eq_some_iff.1 hx).1
   simp only [cq,mz]
   rw [if_pos (by simpa using hi),bJ hx]
   simp only [Option.bind_some]
   rw [PY (hr x (List.mem_of_getElem? hx)) hF,hp]
   simp only [Option.bind_some,Bool.not_true,Bool.false_eq_true,if_false]
   rw [qO (by omega)]
 · intro i x hx hp
   have hi:=(List.getElem?_eq_some_iff.1 hx).1
   simp only [cq,mz]
   rw [if_pos (by simpa using hi),bJ hx]
   simp only [Option.bind_some]
   rw [PY (hr x (List.mem_of_getElem? hx)) hF,hp]
   rfl
 · simp only [cq]
   rw [if_neg (by simp)]
def Bx (e:ak):Prop:=e.az.length≤1000∧sH e.av∧∀r∈e.az,sH r.cv
theorem xg {e:ak} {F:Nat} (h:Bx e) (hF:199010<F):iw F e=some (fM e):=by
 obtain ⟨h1,h2,h3⟩:=h
 unfold iw nR fM
 rw [Hx (by have:=h2.1;omega) (by have:=h2.2;omega) (by have:=h2.1;have:=h2.2;omega),ZB h1 h3 hF]
 simp only [W3,Option.bind_some]
 have hb:gX (e.az.length:Int) 1 100=(decide (1≤e.az.length)&&decide (e.az.length≤100)):=by
  unfold gX
  rw [Bool.eq_iff_iff];simp only [Bool.and_eq_true,decide_eq_true_eq];omega
 rw [hb]
 cases dB e.av<;>cases gX e.born 0 2147483647<;>cases gX e.size 0 2147483647<;>cases decide (1≤e.az.length)<;>cases decide (e.az.length≤100)<;>simp
theorem CC {e:ak} {F:Nat} (h:Bx e) (hF:199010<F):gy F e=some (fM e):=by
 obtain ⟨h1,h2,h3⟩:=h
 have hp:iO F e=some (!(dB e.av&&(gX e.born 0 2147483647&&(gX e.size 0 2147483647&&(decide (1≤e.az.length)&&decide (e.az.length≤100)))))):=by
  unfold iO
  rw [L0 (by have:=h2.1;omega) (by have:=h2.2;omega) (by omega)]
  simp only [W4,Option.bind_some]
  have a1:decide ((e.az.length:Int)<1)= !decide (1≤e.az.length):=by
   rw [Bool.eq_iff_iff];simp only [Bool.not_eq_true',decide_eq_true_eq,decide_eq_false_iff_not];omega
  have a2:decide (100<(e.az.length:Int))= !decide (e.az.length≤100):=by
   rw [Bool.eq_iff_iff];simp only [Bool.not_eq_true',decide_eq_true_eq,decide_eq_false_iff_not];omega
  rw [a1,a2]
  cases dB e.av<;>cases gX e.born 0 2147483647<;>cases gX e.size 0 2147483647<;>cases decide (1≤e.az.length)<;>cases decide (e.az.length≤100)<;>simp
 have hh:=OV (s:=e.az) (body:=fq F e) (mk:=fun i=>(i:Int)) (p:=kq) (rr:=fun _=>false) (tt:=()) (F:=F) ?_ ?_ ?_ (by omega)
 · unfold gy fM
   rw [hp]
   simp only [Option.bind_some]
   cases h:(dB e.av&&(gX e.born 0 2147483647&&(gX e.size 0 2147483647&&(decide (1≤e.az.length)&&decide (e.az.length≤100))))) with
   |false=>
    simp only [Bool.not_false,if_true]
    revert h
    cases dB e.av<;>cases gX e.born 0 2147483647<;>cases gX e.size 0 2147483647<;>cases decide (1≤e.az.length)<;>cases decide (e.az.length≤100)<;>simp
   |true=>
    simp only [Bool.and_eq_true] at h
    obtain ⟨k1,k2,k3,k4,k5⟩:=h
    simp only [Bool.not_true,Bool.false_eq_true,if_false,k1,k2,k3,k4,k5,Bool.true_and]
    cases ha:e.az.all kq with
    |true=>rw [show (0:Int)=((0:Nat):Int) from rfl,hh.1 ha];rfl
    |false=>
     obtain ⟨j,hj⟩:=hh.2 ha
     rw [show (0:Int)=((0:Nat):Int) from rfl,hj];rfl
 · intro i x hx hp
   have hi:=(List.getElem?_eq_some_iff.1 hx).1
   simp only [fq]
   rw [if_pos (by simpa using hi),bJ hx]
   simp only [Option.bind_some]
   rw [PZ (h3 x (List.mem_of_getElem? hx)) hF,hp]
   simp only [Option.bind_some,Bool.not_true,Bool.false_eq_true,if_false]
   rw [qO (by omega)]
 · intro i x hx hp
   have hi:=(List.getElem?_eq_some_iff.1 hx).1
   simp only [fq]
   rw [if_pos (by simpa using hi),bJ hx]
   simp only [Option.bind_some]
   rw [PZ (h3 x (List.mem_of_getElem? hx)) hF,hp]
   rfl
 · simp only [fq]
   rw [if_neg (by simp)]
end Go.Proofs.cF
end
section
namespace Go.Proofs.Crc
abbrev W:=BitVec 32
def pol:W:=0xEDB88320#32
def f (v:W):W:=(v >>> 1) ^^^ (if v.getLsbD 0 then pol else 0#32)
def half:List W:=[0x00000000#32,0x1DB71064#32,0x3B6E20C8#32,0x26D930AC#32,0x76DC4190#32,0x6B6B51F4#32,0x4DB26158#32,0x5005713C#32,0xEDB88320#32,0xF00F9344#32,0xD6D6A3E8#32,0xCB61B38C#32,0x9B64C2B0#32,0x86D3D2D4#32,0xA00AE278#32,0xBDBDF21C#32]
theorem JC (a b:W):f (a ^^^ b)=f a ^^^ f b:=by
 unfold f
 apply BitVec.eq_of_getLsbD_eq
 intro i hi
 simp only [BitVec.getLsbD_xor,BitVec.getLsbD_ushiftRight]
 cases a.getLsbD 0<;>cases b.getLsbD 0<;>simp<;>cases a.getLsbD (1+i)<;>cases b.getLsbD (1+i)<;>cases pol.getLsbD i<;>rfl
theorem D4 {a:W} (h:a.getLsbD 0=false):f a=a >>> 1:=by
 unfold f;rw [h];simp
theorem ZC:(List.range 16).all (fun n=>decide (f (f (f (f (BitVec.ofNat 32 n))))=half.getD n 0#32))=true:=by kernel_rfl
theorem f4 (v:W):f (f (f (f v)))=(v >>> 4) ^^^ half.getD (v &&& 15#32).toNat 0#32:=by
 have hv:v=(v &&& ~~~15#32) ^^^ (v &&& 15#32):=by
  apply BitVec.eq_of_getLsbD_eq
  intro i hi
  simp only [BitVec.getLsbD_xor,BitVec.getLsbD_and,BitVec.getLsbD_not,hi,decide_true,Bool.true_and]
  cases v.getLsbD i<;>cases (15#32).getLsbD i<;>rfl
 obtain ⟨w,hw⟩:∃w,w=v &&& ~~~15#32:=⟨_,rfl⟩
 obtain ⟨u,hu⟩:∃u,u=v &&& 15#32:=⟨_,rfl⟩
 have hz:∀i,i<4→w.getLsbD i=false:=by
  intro i hi
  have:(~~~15#32).getLsbD i=false:=by
   match i,hi with
   |0,_=>rfl
   |1,_=>rfl
   |2,_=>rfl
   |3,_=>rfl
  rw [hw,BitVec.getLsbD_and,this];simp
 have e1:f w=w >>> 1:=D4 (hz 0 (by omega))
 have e2:f (w >>> 1)=w >>> 2:=by rw [D4 (by rw [BitVec.getLsbD_ushiftRight];exact hz 1 (by omega)), ←BitVec.shiftRight_add]
 have e3:f (w >>> 2)=w >>> 3:=by rw [D4 (by rw [BitVec.getLsbD_ushiftRight];exact hz 2 (by omega)), ←BitVec.shiftRight_add]
 have e4:f (w >>> 3)=w >>> 4:=by rw [D4 (by rw [BitVec.getLsbD_ushiftRight];exact hz 3 (by omega)), ←BitVec.shiftRight_add]
 have hsh:w >>> 4=v >>> 4:=by
  rw [hw]
  apply BitVec.eq_of_getLsbD_eq
  intro i hi
  rw [BitVec.getLsbD_ushiftRight,BitVec.getLsbD_ushiftRight,BitVec.getLsbD_and]
  by_cases h:4+i<32
  · have:(~~~15#32).getLsbD (4+i)=true:=by
     rw [BitVec.getLsbD_not,decide_eq_true h]
     have:(15#32).getLsbD (4+i)=false:=by
      rw [BitVec.getLsbD_ofNat]
      have:Nat.testBit 15 (4+i)=false:=by
       apply Nat.testBit_lt_two_pow
       have:2 ^ 4≤2 ^ (4+i):=Nat.pow_le_pow_right (by omega) (by omega)
       omega
      simp [this]
     rw [this];rfl
    rw [this];simp
  · rw [BitVec.getLsbD_of_ge _ _ (by omega)];simp
 have hlt:u.toNat<16:=by
  rw [hu,BitVec.toNat_and]
  exact Nat.lt_of_le_of_lt Nat.and_le_right (by decide)
 have hu4:f (f (f (f u)))=half.getD u.toNat 0#32:=by
  have:=of_decide_eq_true (List.all_eq_true.1 ZC u.toNat (by simpa using hlt))
  rwa [BitVec.ofNat_toNat,BitVec.setWidth_eq] at this
 conv=>lhs;rw [hv, ←hw, ←hu]
 rw [JC,JC,JC,JC,e1,e2,e3,e4,hsh,hu4,hu]
end Go.Proofs.Crc
end
section
set_option maxRecDepth 100000
namespace Go.Proofs.cF
open Go Go.Am Go.Proofs
open Go.Proofs.Crc (f half f4)
abbrev W:=BitVec 32
abbrev I (v:W):Int:=(v.toNat:Int)
theorem Hy {n:Nat} (h:n<4294967296):IntKind.wrap .u32 (n:Int)=(n:Int):=by
 simp only [IntKind.wrap,IntKind.bits,IntKind.signed,Bool.false_and,Bool.false_eq_true,if_false,Int.reducePow]
 omega
theorem P0 (v:W):v.toNat<4294967296:=v.isLt
theorem W5 (v:W):BitVec.ofInt (IntKind.u32).bits (I v)=v:=by
 show BitVec.ofInt 32 (v.toNat:Int)=v
 rw [BitVec.ofInt_natCast,BitVec.ofNat_toNat,BitVec.setWidth_eq]
theorem FI (a b:W):tC .u32 (I a) (I b)=I (a ^^^ b):=by
 unfold tC
 rw [W5,W5]
 exact Hy (P0 _)
theorem W6 (a b:W):yB .u32 (I a) (I b)=I (a &&& b):=by
 unfold yB
 rw [W5,W5]
 exact Hy (P0 _)
theorem P1 (a:W):shr .u32 (I a) 4=I (a >>> 4):=by
 show Int.fdiv (a.toNat:Int) (2 ^ (min 4 32))=_
 have:(a >>> 4).toNat=a.toNat / 16:=by simp [BitVec.toNat_ushiftRight,Nat.shiftRight_eq_div_pow]
 unfold I
 rw [this]
 simp
 rw [Int.fdiv_eq_ediv_of_nonneg _ (by decide)]
theorem ZD (a:W):shr .u32 (I a) 1=I (a >>> 1):=by
 show Int.fdiv (a.toNat:Int) (2 ^ (min 1 32))=_
 have:(a >>> 1).toNat=a.toNat / 2:=by simp [BitVec.toNat_ushiftRight,Nat.shiftRight_eq_div_pow]
 unfold I
 rw [this]
 simp
 rw [Int.fdiv_eq_ediv_of_nonneg _ (by decide)]
def byt (c:UInt8):W:=BitVec.ofNat 32 c.toNat
theorem W7 (c:UInt8):IntKind.wrap .u32 (c.toNat:Int)=I (byt c):=by
 have:c.toNat<256:=c.toNat_lt
 rw [Hy (by omega)]
 simp [byt,I]
def g (v:W) (c:UInt8):W:=f (f (f (f (f (f (f (f (v ^^^ byt c))))))))
def crc (b:List UInt8):W:=b.foldl g 0xFFFFFFFF#32
theorem W8:∀n:Nat,n<16→fP[n]? =some (I (half.getD n 0#32)):=by decide
theorem W9 (v:W):Ay 16 (yB .u32 (I v) 15)=some (v &&& 15#32).toNat:=by
 rw [show (15:Int)=I 15#32 from rfl,W6]
 unfold Ay I
 have:(v &&& 15#32).toNat<16:=by
  rw [BitVec.toNat_and]
  exact Nat.lt_of_le_of_lt Nat.and_le_right (by decide)
 rw [if_pos (by omega)];simp
theorem P2 (v:W):(v &&& 15#32).toNat<16:=by
 rw [BitVec.toNat_and]
 exact Nat.lt_of_le_of_lt Nat.and_le_right (by decide)
theorem Xa {b:List UInt8} {F:Nat} (hb:b.length≤1000000) (hF:b.length<F):nv F b=some (wC .u32 (I (crc b))):=by
 unfold nv
 have hh:=lpo (ρ:=Int) (s:=b) (body:=iU b) (mk:=fun (v:W) i=>(I v,(i:Int))) (tt:=fun v=>I v) (step:=g) (fun _ _=>True) ?_ ?_ (F:=F) (a:=0xFFFFFFFF#32) hF trivial
 · rw [show ((4294967295:Int),(0:Int))=(I 0xFFFFFFFF#32,((0:Nat):Int)) from rfl,hh.1];rfl
 · intro v i c hc _
   have hi:=(List.getElem?_eq_some_iff.1 hc).1
   refine ⟨?_,trivial⟩
   simp only [iU]
   rw [if_pos (by simpa using hi),bJ hc]
   simp only [Option.bind_some]
   rw [W7,FI,W9]
   simp only [Option.bind_some]
   rw [W8 _ (P2 _)]
   simp only [Option.bind_some]
   rw [P1,FI,W9]
   simp only [Option.bind_some]
   rw [W8 _ (P2 _)]
   simp only [Option.bind_some]
   rw [P1,FI,qO (by omega), ←f4, ←f4]
   rfl
 · intro v _
   simp only [iU]
   rw [if_neg (by simp)]
theorem acg (v:W):decide (yB .u32 (I v) 1=1)=v.getLsbD 0:=by
 rw [show (1:Int)=I 1#32 from rfl,W6,Bool.eq_iff_iff,decide_eq_true_eq]
 unfold I
 constructor
 · intro h
   have h2:v &&& 1#32=1#32:=BitVec.eq_of_toNat_eq (by omega)
   have:=congrArg (fun x:W=>x.getLsbD 0) h2
   simpa using this
 · intro h
   have h2:v &&& 1#32=1#32:=by
    apply BitVec.eq_of_getLsbD_eq
    intro i hi
    by_cases h0:i=0
    · subst h0;simp [h]
    · simp [BitVec.getLsbD_one,h0]
   rw [h2]
theorem eight {v:W} {F:Nat} (hF:10<F):iter gz F (I v,0)=some (.inr (I (f (f (f (f (f (f (f (f v)))))))))):=by
 have key:∀(n k G:Nat) (v:W),k+n=8→n<G→iter gz G (I v,(k:Int))=some (.inr (I (Nat.repeat f n v))):=by
  intro n
  induction n with
  |zero=>
   intro k G v hk hG
   obtain ⟨G,rfl⟩:=cN hG
   refine dF ?_
   simp only [gz]
   rw [if_neg (by simp;omega)];rfl
  |succ n ih=>
   intro k G v hk hG
   obtain ⟨G,rfl⟩:=cN hG
   have hb:gz (I v,(k:Int))=some (.cK (I (f v),((k+1:Nat):Int))):=by
    simp only [gz]
    rw [if_pos (by simp;omega),acg,qO (by omega),ZD,show (3988292384:Int)=I 0xEDB88320#32 from rfl,FI]
    unfold f
    cases v.getLsbD 0<;>simp [Go.Proofs.Crc.pol]
   rw [cP hb,ih (k+1) G (f v) (by omega) (by omega)]
   congr 3
   clear ih hb hk hG
   induction n generalizing v with
   |zero=>rfl
   |succ n ih=>show f (Nat.repeat f n (f v))=f (Nat.repeat f (n+1) v);rw [ih]
 exact key 8 0 F v rfl (by omega)
theorem ach {b:List UInt8} {F:Nat} (hb:b.length≤1000000) (hF:b.length+10<F):tW F b=some (wC .u32 (I (crc b))):=by
 unfold tW
 have hh:=lpo (ρ:=Int) (s:=b) (body:=jU F b) (mk:=fun (v:W) i=>(I v,(i:Int))) (tt:=fun v=>I v) (step:=g) (fun _ _=>True) ?_ ?_ (F:=F) (a:=0xFFFFFFFF#32) (by omega) trivial
 · rw [show ((4294967295:Int),(0:Int))=(I 0xFFFFFFFF#32,((0:Nat):Int)) from rfl,hh.1];rfl
 · intro v i c hc _
   have hi:=(List.getElem?_eq_some_iff.1 hc).1
   refine ⟨?_,trivial⟩
   simp only [jU]
   rw [if_pos (by simpa using hi),bJ hc]
   simp only [Option.bind_some]
   rw [W7,FI,eight (by omega)]
   simp only [Option.bind_some]
   rw [qO (by omega)]
   rfl
 · intro v _
   simp only [jU]
   rw [if_neg (by simp)]
end Go.Proofs.cF
end
section
set_option maxRecDepth 100000
namespace Go.Proofs.cF
open Go Go.Am Go.Proofs
def nb (n k:Nat):UInt8:=UInt8.ofNat (n / 2 ^ (8*k))
def gi (n:Nat):List UInt8:=[nb n 0]
def FJ (n:Nat):List UInt8:=[nb n 0,nb n 1]
def cW (n:Nat):List UInt8:=[nb n 0,nb n 1,nb n 2,nb n 3]
def gJ (s:List UInt8):List UInt8:=cW s.length++s
def z8 (r:aW):List UInt8:=gJ r.cv.au++(gJ r.cv.domain++(gi r.state.toNat++(gi r.tries.toNat++(cW r.next.toNat++(FJ r.code.toNat++gJ r.why)))))
def gK:List aW→List UInt8
 |[]=>[]
 |r::l=>z8 r++gK l
def lP (e:ak):List UInt8:=gi 1++(gJ e.av.au++(gJ e.av.domain++(cW e.born.toNat++(cW e.size.toNat++(cW e.sum.toNat++(gi e.az.length++gK e.az))))))
theorem lE (m:Nat):UInt8.ofInt (m:Int)=UInt8.ofNat m:=by
 apply UInt8.toNat_inj.1
 simp [UInt8.ofInt]
 omega
theorem CD (n k:Nat) (h:n<4611686018427387904):UInt8.ofInt (shr .i64 (n:Int) ((8*k:Nat):Int))=nb n k∨8≤k:=by
 by_cases hk:8≤k
 · exact .inr hk
 · left
   unfold shr nb
   have:min ((8*k:Nat):Int).toNat (IntKind.i64).bits=8*k:=by simp [IntKind.bits];omega
   rw [this,Int.fdiv_eq_ediv_of_nonneg _ (Int.pow_nonneg (by decide))]
   rw [show ((n:Int) / (2:Int) ^ (8*k))=((n / 2 ^ (8*k):Nat):Int) by simp,lE]
theorem FK (n:Nat):UInt8.ofInt (n:Int)=nb n 0:=by rw [lE];simp [nb]
theorem sh8 {n:Nat} (h:n<4611686018427387904):UInt8.ofInt (shr .i64 (n:Int) 8)=nb n 1:=(CD n 1 h).resolve_right (by decide)
theorem aep {n:Nat} (h:n<4611686018427387904):UInt8.ofInt (shr .i64 (n:Int) 16)=nb n 2:=(CD n 2 h).resolve_right (by decide)
theorem aeq {n:Nat} (h:n<4611686018427387904):UInt8.ofInt (shr .i64 (n:Int) 24)=nb n 3:=(CD n 3 h).resolve_right (by decide)
theorem w8 {w:List UInt8} {n:Nat} (h:w.length≤1000000) (hn:n<4611686018427387904):dP ⟨w⟩ (n:Int)=some ⟨w++gi n⟩:=by
 unfold dP
 rw [FK,cA (by simp;omega) (by omega)];rfl
theorem w16 {w:List UInt8} {n:Nat} (h:w.length≤1000000) (hn:n<4611686018427387904):gw ⟨w⟩ (n:Int)=some ⟨w++FJ n⟩:=by
 unfold gw
 rw [FK,sh8 hn,cA (by simp;omega) (by omega)];rfl
theorem S9 {w:List UInt8} {n:Nat} (h:w.length≤1000000) (hn:n<4611686018427387904):dA ⟨w⟩ (n:Int)=some ⟨w++cW n⟩:=by
 unfold dA
 rw [FK,sh8 hn,aep hn,aeq hn,cA (by simp;omega) (by omega)];rfl
theorem wby {w s:List UInt8} (h:w.length≤900000) (hs:s.length≤90000):fB ⟨w⟩ s=some ⟨w++gJ s⟩:=by
 unfold fB
 rw [S9 (by omega) (by omega)]
 simp only [Option.bind_some]
 rw [cA (by simp [cW];omega) (by omega)]
 simp [gJ]
end Go.Proofs.cF
end
section
set_option maxRecDepth 100000
namespace Go.Proofs.cF
open Go Go.Am Go.Proofs
theorem aer (n:Nat):(cW n).length=4:=rfl
theorem cO (s:List UInt8):(gJ s).length=4+s.length:=by simp [gJ,cW];omega
theorem FM {r:aW} (h:qP r.cv) (hw:r.why.length≤100):(z8 r).length≤1200:=by
 have h1:=h.1;have h2:=h.2
 simp [z8,cO,gi,FJ,cW];omega
theorem Hz:∀ {l:List aW},(∀r∈l,qP r.cv∧r.why.length≤100)→(gK l).length≤1200*l.length:=by
 intro l
 induction l with
 |nil=>intro _;simp [gK]
 |cons r l ih=>
  intro h
  have h1:=FM (h r (by simp)).1 (h r (by simp)).2
  have h2:=ih fun r hr=>h r (by simp [hr])
  simp [gK];omega
theorem Xb {s w:List UInt8} (h:w.length≤900000) (hs:s.length≤90000):ff s ⟨w⟩=some ⟨w++gJ s⟩:=by
 unfold ff;rw [wby h hs];rfl
theorem aaj {a:aH} {w:List UInt8} (h:w.length≤800000) (ha:qP a):gm a ⟨w⟩=some ⟨w++(gJ a.au++gJ a.domain)⟩:=by
 have h1:=ha.1;have h2:=ha.2
 unfold gm
 rw [Xb (by omega) (by omega)]
 simp only [Option.bind_some]
 rw [Xb (by simp [cO];omega) (by omega)]
 simp
theorem Xc {r:aW} {w:List UInt8} {e:ak} {i:Nat} (hi:e.az[i]? =some r) (hl:e.az.length≤1000) (h:w.length≤700000) (ha:qP r.cv) (hb:kq r=true):
 eW e ((i:Int),⟨w⟩)=some (.cK (((i+1:Nat):Int),⟨w++z8 r⟩)):=by
 have hlt:=(List.getElem?_eq_some_iff.1 hi).1
 have h1:=ha.1;have h2:=ha.2
 simp only [kq,gX,Bool.and_eq_true,Bool.or_eq_true,decide_eq_true_eq] at hb
 obtain ⟨hc, -, -,hs,ht,hn,hw⟩:=hb
 obtain ⟨st,hst⟩:∃n:Nat,r.state=(n:Int):=⟨r.state.toNat,by omega⟩
 obtain ⟨tr,Xd⟩:∃n:Nat,r.tries=(n:Int):=⟨r.tries.toNat,by omega⟩
 obtain ⟨nx,LY⟩:∃n:Nat,r.next=(n:Int):=⟨r.next.toNat,by omega⟩
 obtain ⟨cd,hcd⟩:∃n:Nat,r.code=(n:Int):=⟨r.code.toNat,by omega⟩
 simp only [eW]
 rw [if_pos (by simpa using hlt),bJ hi]
 simp only [Option.bind_some]
 rw [aaj (by omega) ha]
 simp only [Option.bind_some]
 rw [hst,w8 (by simp [cO];omega) (by omega)]
 simp only [Option.bind_some]
 rw [Xd,w8 (by simp [cO,gi];omega) (by omega)]
 simp only [Option.bind_some]
 rw [LY,S9 (by simp [cO,gi];omega) (by omega)]
 simp only [Option.bind_some]
 rw [hcd,w16 (by simp [cO,gi,cW];omega) (by omega)]
 simp only [Option.bind_some]
 rw [Xb (by simp [cO,gi,cW,FJ];omega) (by omega)]
 simp only [Option.bind_some]
 rw [qO (by omega)]
 simp [z8,hst,Xd,LY,hcd]
theorem acN:∀(l m:List aW),gK (l++m)=gK l++gK m:=by
 intro l
 induction l with
 |nil=>intro m;rfl
 |cons r l ih=>intro m;simp [gK,ih]
theorem Ta {e:ak} {w:List UInt8} {F:Nat} (hl:e.az.length≤100) (h:w.length≤5000) (ha:∀r∈e.az,qP r.cv) (hb:e.az.all kq=true) (hF:1000<F):
 iter (eW e) F (0,⟨w⟩)=some (.inr ⟨w++gK e.az⟩):=by
 have OW:∀r∈e.az,qP r.cv∧r.why.length≤100:=by
  intro r hr
  have:=List.all_eq_true.1 hb r hr
  simp only [kq,Bool.and_eq_true,decide_eq_true_eq] at this
  exact ⟨ha r hr,this.2.2.2.2.2.2⟩
 have hh:=lpo (ρ:=List UInt8) (s:=e.az) (body:=eW e) (mk:=fun (v:List UInt8) i=>((i:Int),(⟨v⟩:aT))) (tt:=fun v=>(⟨v⟩:aT)) (step:=fun v r=>v++z8 r) (fun v i=>v.length≤5000+1200*i) ?_ ?_ (F:=F) (a:=w) (by omega) (by simpa using h)
 · rw [show ((0:Int),(⟨w⟩:aT))=(((0:Nat):Int),⟨w⟩) from rfl,hh.1]
   congr 3
   clear hh OW hb ha hl h
   generalize e.az=l
   induction l generalizing w with
   |nil=>simp [gK]
   |cons r l ih=>simp only [List.foldl_cons];rw [ih];simp [gK]
 · intro v i r hr hI
   have hi:=(List.getElem?_eq_some_iff.1 hr).1
   have hm:=List.mem_of_getElem? hr
   have hk:=FM (OW r hm).1 (OW r hm).2
   exact ⟨Xc hr (by omega) (by omega) (ha r hm) (List.all_eq_true.1 hb r hm),by simp;omega⟩
 · intro v hI
   simp only [eW]
   rw [if_neg (by simp)]
theorem tY {b:List UInt8} (h:b.length≤1000000):fK b=some b:=by
 unfold fK;rw [cA (by simp;omega) (by omega)];rfl
def C6 (b:List UInt8):Nat:=(wC .u32 (I (crc b))).toNat
theorem ZE (v:W):∃u:W,wC .u32 (I v)=I u:=by
 refine ⟨BitVec.ofInt 32 4294967295 ^^^ v, ?_⟩
 unfold wC
 rw [W5]
 show IntKind.wrap .u32 (((BitVec.ofInt 32 (IntKind.u32).max ^^^ v:W).toNat:Nat):Int)=_
 rw [Hy (P0 _)]
 rfl
theorem sum_nat (b:List UInt8):wC .u32 (I (crc b))=(C6 b:Int)∧C6 b<4294967296:=by
 unfold C6
 obtain ⟨u,hu⟩:=ZE (crc b)
 rw [hu]
 have:=P0 u
 unfold I
 omega
def eP (b:List UInt8):List UInt8:=b++cW (C6 b)
theorem ZF {b:List UInt8} {F:Nat} (h:b.length≤800000) (hF:b.length<F):oc F b=some (eP b):=by
 obtain ⟨h1,h2⟩:=sum_nat b
 unfold oc fO
 simp only [Option.bind_some]
 rw [tY (by omega)]
 simp only [Option.bind_some]
 rw [Xa (by omega) hF]
 simp only [Option.bind_some]
 rw [h1,wr (by omega) (by omega),S9 (by omega) (by omega)]
 rfl
theorem JD {e:ak} (hb:fM e=true):qP e.av∧∀r∈e.az,qP r.cv:=by
 simp only [fM,Bool.and_eq_true] at hb
 refine ⟨L1 hb.1,fun r hr=> ?_⟩
 have:=List.all_eq_true.1 hb.2.2.2.2.2 r hr
 simp only [kq,Bool.and_eq_true] at this
 exact L1 this.2.1
theorem OX {e:ak} {F:Nat} (h:Bx e) (hs:0≤e.sum∧e.sum≤4294967295) (hF:200000<F):jx F e=some (if fM e then eP (lP e) else []):=by
 unfold jx
 rw [xg h (by omega)]
 simp only [Option.bind_some]
 cases hb:fM e with
 |false=>simp
 |true=>
  have FN:=hb
  simp only [fM,gX,Bool.and_eq_true,decide_eq_true_eq] at FN
  obtain ⟨k0,ri,hsi,k1,k2,k3⟩:=FN
  obtain ⟨h2,h3⟩:=JD hb
  have XI:=h2.1;have Au:=h2.2
  obtain ⟨bo,L2⟩:∃n:Nat,e.born=(n:Int):=⟨e.born.toNat,by omega⟩
  obtain ⟨si,L3⟩:∃n:Nat,e.size=(n:Int):=⟨e.size.toNat,by omega⟩
  obtain ⟨su,Xe⟩:∃n:Nat,e.sum=(n:Int):=⟨e.sum.toNat,by omega⟩
  simp only [Bool.not_true,Bool.false_eq_true,if_false,if_true]
  unfold fO
  simp only [Option.bind_some]
  rw [show (1:Int)=((1:Nat):Int) from rfl,w8 (by simp) (by omega)]
  simp only [Option.bind_some]
  rw [aaj (by simp [gi]) h2]
  simp only [Option.bind_some]
  have l1:iter (cT e) F (0,(⟨([]++gi 1)++(gJ e.av.au++gJ e.av.domain)⟩:aT))=some (.inr ⟨(([]++gi 1)++(gJ e.av.au++gJ e.av.domain))++(cW bo++(cW si++cW su))⟩):=by
   obtain ⟨G,rfl⟩:∃G,F=G+1+1+1+1:=⟨F - 4,by omega⟩
   have hw:(([]:List UInt8)++gi 1++(gJ e.av.au++gJ e.av.domain)).length≤2000:=by simp [cO,gi];omega
   generalize (([]:List UInt8)++gi 1++(gJ e.av.au++gJ e.av.domain))=w at hw
   have hx:[e.born,e.size,IntKind.wrap .i64 e.sum]=[(bo:Int),(si:Int),(su:Int)]:=by rw [L2,L3,Xe,wr (by omega) (by omega)]
   have b0:cT e (0,⟨w⟩)=some (.cK (1,⟨w++cW bo⟩)):=by
    simp only [cT];rw [if_pos (by decide),hx]
    rw [show idx [(bo:Int),(si:Int),(su:Int)] 0=some (bo:Int) from rfl]
    simp only [Option.bind_some];rw [S9 (by omega) (by omega)];rfl
   have b1:cT e (1,⟨w++cW bo⟩)=some (.cK (2,⟨w++cW bo++cW si⟩)):=by
    simp only [cT];rw [if_pos (by decide),hx]
    rw [show idx [(bo:Int),(si:Int),(su:Int)] 1=some (si:Int) from rfl]
    simp only [Option.bind_some];rw [S9 (by simp [cW];omega) (by omega)];rfl
   have b2:cT e (2,⟨w++cW bo++cW si⟩)=some (.cK (3,⟨w++cW bo++cW si++cW su⟩)):=by
    simp only [cT];rw [if_pos (by decide),hx]
    rw [show idx [(bo:Int),(si:Int),(su:Int)] 2=some (su:Int) from rfl]
    simp only [Option.bind_some];rw [S9 (by simp [cW];omega) (by omega)];rfl
   rw [cP b0,cP b1,cP b2]
   have b3:cT e (3,⟨w++cW bo++cW si++cW su⟩)=some (.fF ⟨w++cW bo++cW si++cW su⟩):=by
    simp only [cT];rw [if_neg (by decide)]
   rw [dF b3]
   simp
  rw [l1]
  simp only [Option.bind_some]
  rw [w8 (by simp [cO,gi,cW];omega) (by omega)]
  simp only [Option.bind_some]
  rw [Ta k2 (by simp [cO,gi,cW];omega) h3 k3 (by omega)]
  simp only [Option.bind_some]
  have hlen:((([]++gi 1)++(gJ e.av.au++gJ e.av.domain))++(cW bo++(cW si++cW su))++gi e.az.length++gK e.az).length≤150000:=by
   have hr:(gK e.az).length≤1200*e.az.length:=Hz fun r hr=>by
    have:=List.all_eq_true.1 k3 r hr
    simp only [kq,Bool.and_eq_true,decide_eq_true_eq] at this
    exact ⟨h3 r hr,this.2.2.2.2.2.2⟩
   simp [cO,gi,cW];omega
  have aes:(([]++gi 1)++(gJ e.av.au++gJ e.av.domain))++(cW bo++(cW si++cW su))++gi e.az.length++gK e.az=lP e:=by
   simp [lP,L2,L3,Xe]
  rw [aes] at hlen ⊢
  unfold iy
  rw [tY (by show (lP e).length≤1000000;omega)]
  simp only [Option.bind_some]
  rw [ZF (by omega) (by omega)]
  rfl
end Go.Proofs.cF
end
section
set_option maxRecDepth 100000
namespace Go.Proofs.cF
open Go Go.Am Go.Proofs
def Xf (n:Nat):Nat→Nat→List UInt8
 |_,0=>[]
 |i,k+1=>nb n i::Xf n (i+1) k
theorem Tb {n b:Nat}:∀(k i G:Nat) (w:List UInt8),i+k=b→b≤8→w.length+k≤1000000→k<G→
 iter (cR (b:Int)) G (((n / 2 ^ (8*i):Nat):Int),(i:Int),⟨w⟩)=some (.inr ⟨w++Xf n i k⟩):=by
 intro k
 induction k with
 |zero=>
  intro i G w hb hb8 hw hG
  obtain ⟨G,rfl⟩:=cN hG
  refine dF ?_
  simp only [cR]
  rw [if_neg (by simp;omega)]
  simp [Xf]
 |succ k ih=>
  intro i G w hb hb8 hw hG
  obtain ⟨G,rfl⟩:=cN hG
  have Db:cR (b:Int) (((n / 2 ^ (8*i):Nat):Int),(i:Int),⟨w⟩)=some (.cK (((n / 2 ^ (8*(i+1)):Nat):Int),((i+1:Nat):Int),⟨w++[nb n i]⟩)):=by
   simp only [cR]
   rw [if_pos (by simp;omega),lE,cA (by simp;omega) (by omega)]
   simp only [Option.bind_some]
   have hs:shr .u64 ((n / 2 ^ (8*i):Nat):Int) 8=((n / 2 ^ (8*(i+1)):Nat):Int):=by
    show Int.fdiv ((n / 2 ^ (8*i):Nat):Int) (2 ^ (min 8 64))=_
    rw [Int.fdiv_eq_ediv_of_nonneg _ (by decide)]
    rw [show (2:Int) ^ (min 8 64)=((256:Nat):Int) by decide, ←Int.natCast_ediv,Nat.div_div_eq_div_mul]
    congr 2
    rw [show 8*(i+1)=8*i+8 by omega,Nat.pow_add]
   rw [hs,qO (by omega)]
   rfl
  rw [cP Db,ih (i+1) G _ (by omega) hb8 (by simp;omega) (by omega)]
  simp [Xf]
theorem wrU {n:Nat} (h:n<4611686018427387904):IntKind.wrap .u64 (n:Int)=(n:Int):=by
 simp only [IntKind.wrap,IntKind.bits,IntKind.signed,Bool.false_and,Bool.false_eq_true,if_false,Int.reducePow]
 omega
theorem OY {n b F:Nat} {w:List UInt8} (hn:n<4611686018427387904) (hb:b≤8) (hw:w.length≤900000) (hF:100<F):bF F ⟨w⟩ (n:Int) (b:Int)=some ⟨w++Xf n 0 b⟩:=by
 unfold bF
 rw [wrU hn]
 have:=Tb (n:=n) (b:=b) b 0 F w (by omega) hb (by omega) (by omega)
 simp only [Nat.mul_zero,Nat.pow_zero,Nat.div_one] at this
 rw [show (((n:Nat):Int),(0:Int),(⟨w⟩:aT))=(((n:Nat):Int),((0:Nat):Int),⟨w⟩) from rfl,this]
 rfl
theorem n8 {n F:Nat} {w:List UInt8} (hn:n<4611686018427387904) (hw:w.length≤900000) (hF:100<F):bF F ⟨w⟩ (n:Int) 1=some ⟨w++gi n⟩:=OY (b:=1) hn (by omega) hw hF
theorem n16 {n F:Nat} {w:List UInt8} (hn:n<4611686018427387904) (hw:w.length≤900000) (hF:100<F):bF F ⟨w⟩ (n:Int) 2=some ⟨w++FJ n⟩:=OY (b:=2) hn (by omega) hw hF
theorem n32 {n F:Nat} {w:List UInt8} (hn:n<4611686018427387904) (hw:w.length≤900000) (hF:100<F):bF F ⟨w⟩ (n:Int) 4=some ⟨w++cW n⟩:=OY (b:=4) hn (by omega) hw hF
theorem nby {w s:List UInt8} {F:Nat} (h:w.length≤800000) (hs:s.length≤90000) (hF:100<F):dM F ⟨w⟩ s=some ⟨w++gJ s⟩:=by
 unfold dM
 rw [n32 (by omega) (by omega) hF]
 simp only [Option.bind_some]
 rw [cA (by simp [cW];omega) (by omega)]
 simp [gJ]
theorem P3 {a:aH} {w:List UInt8} {F:Nat} (h:w.length≤700000) (ha:qP a) (hF:100<F):lO F ⟨w⟩ a=some ⟨w++(gJ a.au++gJ a.domain)⟩:=by
 have h1:=ha.1;have h2:=ha.2
 unfold lO
 rw [nby (by omega) (by omega) hF]
 simp only [Option.bind_some]
 rw [nby (by simp [cO];omega) (by omega) hF]
 simp
theorem OZ {r:aW} {w:List UInt8} {e:ak} {i F:Nat} (hi:e.az[i]? =some r) (hl:e.az.length≤1000) (h:w.length≤600000) (ha:qP r.cv) (hb:kq r=true) (hF:100<F):
 dS F e ((i:Int),⟨w⟩)=some (.cK (((i+1:Nat):Int),⟨w++z8 r⟩)):=by
 have hlt:=(List.getElem?_eq_some_iff.1 hi).1
 have h1:=ha.1;have h2:=ha.2
 simp only [kq,gX,Bool.and_eq_true,Bool.or_eq_true,decide_eq_true_eq] at hb
 obtain ⟨hc, -, -,hs,ht,hn,hw⟩:=hb
 obtain ⟨st,hst⟩:∃n:Nat,r.state=(n:Int):=⟨r.state.toNat,by omega⟩
 obtain ⟨tr,Xd⟩:∃n:Nat,r.tries=(n:Int):=⟨r.tries.toNat,by omega⟩
 obtain ⟨nx,LY⟩:∃n:Nat,r.next=(n:Int):=⟨r.next.toNat,by omega⟩
 obtain ⟨cd,hcd⟩:∃n:Nat,r.code=(n:Int):=⟨r.code.toNat,by omega⟩
 simp only [dS]
 rw [if_pos (by simpa using hlt),bJ hi]
 simp only [Option.bind_some]
 rw [P3 (by omega) ha hF]
 simp only [Option.bind_some]
 rw [hst,n8 (by omega) (by simp [cO];omega) hF]
 simp only [Option.bind_some]
 rw [Xd,n8 (by omega) (by simp [cO,gi];omega) hF]
 simp only [Option.bind_some]
 rw [LY,n32 (by omega) (by simp [cO,gi];omega) hF]
 simp only [Option.bind_some]
 rw [hcd,n16 (by omega) (by simp [cO,gi,cW];omega) hF]
 simp only [Option.bind_some]
 rw [nby (by simp [cO,gi,cW,FJ];omega) (by omega) hF]
 simp only [Option.bind_some]
 rw [qO (by omega)]
 simp [z8,hst,Xd,LY,hcd]
theorem L4 {e:ak} {w:List UInt8} {F:Nat} (hl:e.az.length≤100) (h:w.length≤5000) (ha:∀r∈e.az,qP r.cv) (hb:e.az.all kq=true) (hF:1000<F):
 iter (dS F e) F (0,⟨w⟩)=some (.inr ⟨w++gK e.az⟩):=by
 have OW:∀r∈e.az,qP r.cv∧r.why.length≤100:=by
  intro r hr
  have:=List.all_eq_true.1 hb r hr
  simp only [kq,Bool.and_eq_true,decide_eq_true_eq] at this
  exact ⟨ha r hr,this.2.2.2.2.2.2⟩
 have hh:=lpo (ρ:=List UInt8) (s:=e.az) (body:=dS F e) (mk:=fun (v:List UInt8) i=>((i:Int),(⟨v⟩:aT))) (tt:=fun v=>(⟨v⟩:aT)) (step:=fun v r=>v++z8 r) (fun v i=>v.length≤5000+1200*i) ?_ ?_ (F:=F) (a:=w) (by omega) (by simpa using h)
 · rw [show ((0:Int),(⟨w⟩:aT))=(((0:Nat):Int),⟨w⟩) from rfl,hh.1]
   congr 3
   clear hh OW hb ha hl h
   generalize e.az=l
   induction l generalizing w with
   |nil=>simp [gK]
   |cons r l ih=>simp only [List.foldl_cons];rw [ih];simp [gK]
 · intro v i r hr hI
   have hi:=(List.getElem?_eq_some_iff.1 hr).1
   have hm:=List.mem_of_getElem? hr
   have hk:=FM (OW r hm).1 (OW r hm).2
   exact ⟨OZ hr (by omega) (by omega) (ha r hm) (List.all_eq_true.1 hb r hm) (by omega),by simp;omega⟩
 · intro v hI
   simp only [dS]
   rw [if_neg (by simp)]
theorem Xg (n j:Nat) (hj:j≤32):shr .u32 (n:Int) (j:Int)=((n / 2 ^ j:Nat):Int):=by
 show Int.fdiv (n:Int) (2 ^ (min (j:Int).toNat 32))=_
 rw [show min (j:Int).toNat 32=j by simp;omega,Int.fdiv_eq_ediv_of_nonneg _ (Int.pow_nonneg (by decide))]
 simp
theorem P4 {b:List UInt8} {F:Nat} (h:b.length≤800000) (hF:b.length+10<F):nJ F b=some (eP b):=by
 obtain ⟨h1,h2⟩:=sum_nat b
 unfold nJ
 rw [ach (by omega) hF]
 simp only [Option.bind_some]
 rw [cA (by simp;omega) (by omega)]
 simp only [Option.bind_some,List.nil_append]
 rw [h1,show (8:Int)=((8:Nat):Int) from rfl,show (16:Int)=((16:Nat):Int) from rfl,show (24:Int)=((24:Nat):Int) from rfl,Xg _ 8 (by omega),Xg _ 16 (by omega),Xg _ 24 (by omega),lE,lE,lE,lE,cA (by simp;omega) (by omega)]
 simp [eP,cW,nb]
theorem Xh {e:ak} {F:Nat} (h:Bx e) (hs:0≤e.sum∧e.sum≤4294967295) (hF:200000<F):iW F e=some (if fM e then eP (lP e) else []):=by
 unfold iW
 rw [CC h (by omega)]
 simp only [Option.bind_some]
 cases hb:fM e with
 |false=>simp
 |true=>
  have FN:=hb
  simp only [fM,gX,Bool.and_eq_true,decide_eq_true_eq] at FN
  obtain ⟨k0,ri,hsi,k1,k2,k3⟩:=FN
  obtain ⟨h2,h3⟩:=JD hb
  have XI:=h2.1;have Au:=h2.2
  obtain ⟨bo,L2⟩:∃n:Nat,e.born=(n:Int):=⟨e.born.toNat,by omega⟩
  obtain ⟨si,L3⟩:∃n:Nat,e.size=(n:Int):=⟨e.size.toNat,by omega⟩
  obtain ⟨su,Xe⟩:∃n:Nat,e.sum=(n:Int):=⟨e.sum.toNat,by omega⟩
  simp only [Bool.not_true,Bool.false_eq_true,if_false,if_true]
  have n1:=n8 (n:=1) (F:=F) (w:=[]) (by omega) (by simp) (by omega)
  rw [show ((1:Nat):Int)=1 from rfl] at n1
  rw [n1]
  simp only [Option.bind_some]
  rw [P3 (by simp [gi]) h2 (by omega)]
  simp only [Option.bind_some]
  rw [L2,n32 (by omega) (by simp [cO,gi];omega) (by omega)]
  simp only [Option.bind_some]
  rw [L3,n32 (by omega) (by simp [cO,gi,cW];omega) (by omega)]
  simp only [Option.bind_some]
  rw [Xe,wr (by omega) (by omega),n32 (by omega) (by simp [cO,gi,cW];omega) (by omega)]
  simp only [Option.bind_some]
  rw [n8 (by omega) (by simp [cO,gi,cW];omega) (by omega)]
  simp only [Option.bind_some]
  rw [L4 k2 (by simp [cO,gi,cW];omega) h3 k3 (by omega)]
  simp only [Option.bind_some]
  have hr:(gK e.az).length≤1200*e.az.length:=Hz fun r hr=>by
   have:=List.all_eq_true.1 k3 r hr
   simp only [kq,Bool.and_eq_true,decide_eq_true_eq] at this
   exact ⟨h3 r hr,this.2.2.2.2.2.2⟩
  rw [P4 (by simp [cO,gi,cW];omega) (by simp [cO,gi,cW];omega)]
  simp [lP,L2,L3,Xe]
end Go.Proofs.cF
end
section
set_option maxRecDepth 100000
namespace Go.Proofs.cF
open Go Go.Am Go.Proofs
def val:List UInt8→Nat
 |[]=>0
 |c::r=>c.toNat+256*val r
theorem By:∀l:List UInt8,val l<256 ^ l.length:=by
 intro l
 induction l with
 |nil=>simp [val]
 |cons c r ih=>
  have:=c.toNat_lt
  simp only [val,List.length_cons,Nat.pow_succ]
  omega
theorem P5 {a c i:Nat} (h:a<2 ^ i):a ||| (c*2 ^ i)=a+c*2 ^ i:=by
 have:=Nat.two_pow_add_eq_or_of_lt h c
 rw [Nat.or_comm,Nat.mul_comm c, ←this,Nat.add_comm]
theorem L5 {a b:Nat} (ha:a<4611686018427387904) (hb:b<4611686018427387904):Kn .i64 (a:Int) (b:Int)=((a ||| b:Nat):Int):=by
 unfold Kn
 have hx:∀n:Nat,n<4611686018427387904→(BitVec.ofInt (IntKind.i64).bits (n:Int)).toNat=n:=by
  intro n hn
  show (BitVec.ofInt 64 (n:Int)).toNat=n
  rw [BitVec.ofInt_natCast,BitVec.toNat_ofNat]
  omega
 rw [BitVec.toNat_or,hx a ha,hx b hb]
 have:a ||| b<4611686018427387904:=Nat.or_lt_two_pow (n:=62) ha hb
 rw [wr (by omega) (by omega)]
theorem aci {l:List UInt8} (hl:l.length≤4):∀(r pre:List UInt8) (G:Nat),pre++r=l→r.length<G→
 iter (cI l) G (((val pre:Nat):Int),(pre.length:Int))=some (.inr ((val l:Nat):Int)):=by
 have aet:∀(p:List UInt8) (c:UInt8),val (p++[c])=val p+c.toNat*256 ^ p.length:=by
  intro p
  induction p with
  |nil=>intro c;simp [val]
  |cons d q ih=>intro c;simp only [List.cons_append,val,ih,List.length_cons,Nat.pow_succ];rw [Nat.mul_add,Nat.add_assoc];congr 2;rw [Nat.mul_comm 256,Nat.mul_assoc]
 intro r
 induction r with
 |nil=>
  intro pre G h hG
  obtain ⟨G,rfl⟩:=cN hG
  simp at h
  subst h
  refine dF ?_
  simp only [cI]
  rw [if_neg (by simp)]
 |cons c r ih=>
  intro pre G h hG
  obtain ⟨G,rfl⟩:=cN hG
  have hc:l[pre.length]? =some c:=by rw [←h];simp
  have hp:pre.length<l.length:=by rw [←h];simp
  have hpv:=By pre
  have hcl:=c.toNat_lt
  have L6:(256:Nat) ^ pre.length=2 ^ (8*pre.length):=by rw [Nat.pow_mul]
  have hpw:(256:Nat) ^ pre.length≤256 ^ 3:=Nat.pow_le_pow_right (by decide) (by omega)
  have hmul:c.toNat*256 ^ pre.length≤255*256 ^ 3:=Nat.mul_le_mul (by omega) hpw
  have hb:cI l (((val pre:Nat):Int),(pre.length:Int))=some (.cK (((val (pre++[c]):Nat):Int),((pre++[c]).length:Int))):=by
   simp only [cI]
   rw [if_pos (by simpa using hp),bJ hc]
   simp only [Option.bind_some]
   rw [wr (by omega) (by omega),wr (by omega) (by omega)]
   have hs:Ll .i64 (c.toNat:Int) (8*(pre.length:Int))=some ((c.toNat*256 ^ pre.length:Nat):Int):=by
    unfold Ll
    rw [if_neg (by omega)]
    have:min (8*(pre.length:Int)).toNat (IntKind.i64).bits=8*pre.length:=by simp [IntKind.bits];omega
    rw [this,L6,show ((c.toNat:Int)*2 ^ (8*pre.length))=((c.toNat*2 ^ (8*pre.length):Nat):Int) by simp]
    rw [←L6,wr (by omega) (by omega)]
   rw [hs]
   simp only [Option.bind_some]
   rw [L5 (by omega) (by omega),L6,P5 (by rw [←L6];exact hpv),qO (by omega),aet,L6]
   simp
  rw [cP hb,ih (pre++[c]) G (by rw [←h];simp) (by simp at hG;omega)]
def oP (r:aN) (n:Int):List UInt8×aN:=
 if r.err≠0 then ([],r) else if n<0 then ([],⟨r.b,1⟩) else if (r.b.length:Int)<n then ([],⟨r.b,2⟩) else (r.b.take n.toNat,⟨r.b.drop n.toNat,r.err⟩)
theorem Xi {r:aN} {n:Int} (hr:r.b.length≤1000000):eM r n=some (oP r n):=by
 unfold eM
 by_cases h1:r.err=0
 · rw [if_neg (by simpa using h1)]
   by_cases h2:n<0
   · rw [if_pos (by simpa using h2)];simp [oP,h1,h2]
   · rw [if_neg (by simpa using h2)]
     by_cases h3:(r.b.length:Int)<n
     · rw [if_pos (by simpa using h3)];simp [oP,h1,h2,h3]
     · rw [if_neg (by simpa using h3)]
       obtain ⟨m,rfl⟩:∃m:Nat,n=(m:Int):=⟨n.toNat,by omega⟩
       have e3:wB r.b 0 (m:Int) (m:Int)=some (r.b.take m):=by
        unfold wB
        rw [if_pos rfl,Jw (by omega)]
       rw [e3]
       simp only [Option.bind_some]
       rw [Br (by omega)]
       simp [oP,h1,h3]
 · rw [if_pos (by simpa using h1)];simp [oP,h1]
end Go.Proofs.cF
end
