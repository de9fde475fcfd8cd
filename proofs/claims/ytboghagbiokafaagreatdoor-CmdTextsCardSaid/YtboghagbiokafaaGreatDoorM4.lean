import Derived.Test.YtboghagbiokafaaGreatDoorM3
set_option linter.unusedSimpArgs false
set_option linter.unusedVariables false
set_option linter.unusedSectionVars false
set_option linter.defProp false
section
set_option maxRecDepth 100000
namespace Go.Proofs.cY
open Go Go.Am Go.Proofs
open Nat renaming reduceEqDiff→nA,reduceLT→nB,reduceLeDiff→nC,reduceAdd→nD,reduceSub→nE,reduceMul→nF,reduceBEq→nG
set_option maxHeartbeats 2000000
abbrev uE:av:=(.rg [(au 16 0),(au 17 4),(aj 18 (.ixs (.t 16) (.t 17))),(aj 19 (.bin .lss (.t 18) (.c (b8 32)))),(au 20 19),(ay 21 (.mv (.t 0)) 20 false),(ay 22 (.mv (.t 4)) 20 false),(ay 23 (.ixs (.t 21) (.t 22)) 20 false),(ay 24 (.bin .gtr (.t 23) (.c (b8 126))) 20 false),(aj 25 (.pick (.t 20) (.c (.bool true)) (.t 24)))])
abbrev sU:av:=(.seq (.rg [(aj 14 (.bin .lss (.t 13) (.t 12)))]) (.seq (.cond (.t 14) .skip (.exit 0)) (.seq (.blk 1 (.seq (.rg [(au 15 13),(aR 4 15)]) (.seq (.sem (erase uE)) (.cond (.t 25) (.seq (.rg [(aj 26 (.build [(.int .i64 0),(.str []),(.str []),(.str []),(.int .i64 0)] [])),(cZ (.st (.t 2) (.t 26) 5)),(aj 3 (.aO (.c (.int .i64 500))))]) .ret) .skip)))) (.rg [(aj 27 (.bin .add (.t 13) (.c (.int .i64 1)))),(au 13 27)]))))
abbrev uF:av:=(.cond (.t 59) .skip (.rg [(aj 61 (.bin .eql (.t 43) (.c (.int .i64 2)))),(aR 59 61)]))
abbrev uG:av:=(.cond (.t 64) .skip (.seq (.rg [(aj 66 (.bin .eql (.t 43) (.c (.int .i64 6)))),(aR 64 66)]) (.cond (.t 64) .skip (.rg [(aj 67 (.bin .eql (.t 43) (.c (.int .i64 8)))),(aR 64 67)]))))
abbrev uH:av:=(.cond (.t 59) (.rg [(au 62 6),(aj 63 (.call (.c (.fn 25 [])) [(.t 62)])),(aR 10 63)]) (.seq (.seq (.rg [(aj 65 (.bin .eql (.t 43) (.c (.int .i64 5)))),(aR 64 65)]) (.sem (erase uG))) (.cond (.t 64) (.rg [(au 68 7),(aj 69 (.un .not (.t 68))),(aR 10 69)]) (.seq (.rg [(aj 71 (.bin .eql (.t 43) (.c (.int .i64 9)))),(aR 70 71)]) (.cond (.t 70) (.rg [(au 72 6),(aj 73 (.bin .neq (.t 72) (.c (.str [])))),(aR 10 73)]) .skip)))))
abbrev Hl:av:=(.seq (.rg [(aj 2 (.alloc [(.int .i64 0),(.str []),(.str []),(.str []),(.int .i64 0)])),(aj 3 (.aO (.c (.int .i64 0))))]) (.seq (.seq (.rg [(au 11 0),(aj 12 (.lens (.t 11))),(aj 13 (.mv (.c (.int .i64 0))))]) (.blk 0 (.loop (erase sU)))) (.seq (.rg [(au 28 0),(aj 29 (.call (.c (.fn 19 [])) [(.t 28),(.c (.str [32]))])),(aR 0 29)]) (.seq (.rg [(au 31 0),(aj 32 (.call (.c (.fn 20 [])) [(.t 31),(.c (.str [32]))])),(au 30 32),(aj 33 (.ext (.t 30) 0)),(aj 34 (.ext (.t 30) 1)),(aj 35 (.ext (.t 30) 2)),(aR 5 33),(aR 6 34),(aR 7 35)]) (.seq (.rg [(au 36 5),(aj 37 (.call (.c (.fn 22 [])) [(.t 36)])),(aj 38 (.call (.c (.fn 21 [])) [(.t 37)])),(aR 8 38)]) (.seq (.rg [(au 39 0),(au 40 5),(aj 41 (.lens (.t 40))),(aj 42 (.gT (.t 39) (some (.t 41)) none)),(aR 9 42)]) (.seq (.rg [(aj 10 (.aO (.c (.bool true))))]) (.seq (.seq (.rg [(au 43 8)]) (.blk 2 (.seq (.rg [(aj 45 (.bin .eql (.t 43) (.c (.int .i64 0)))),(aR 44 45)]) (.cond (.t 44) (.seq (.rg [(aj 46 (.build [(.int .i64 0),(.str []),(.str []),(.str []),(.int .i64 0)] [])),(cZ (.st (.t 2) (.t 46) 5)),(aj 3 (.aO (.c (.int .i64 500))))]) .ret) (.seq (.rg [(aj 48 (.bin .eql (.t 43) (.c (.int .i64 3)))),(aR 47 48)]) (.cond (.t 47) (.seq (.rg [(au 49 9),(aj 50 (.call (.c (.fn 23 [])) [(.t 49)])),(aj 51 (.ext (.t 50) 0)),(aj 52 (.ext (.t 50) 1)),(cZ (.st (.t 2) (.t 51) 5)),(aR 3 52)]) .ret) (.seq (.rg [(aj 54 (.bin .eql (.t 43) (.c (.int .i64 4)))),(aR 53 54)]) (.cond (.t 53) (.seq (.rg [(au 55 9),(aj 56 (.call (.c (.fn 24 [])) [(.t 55)])),(aj 57 (.ext (.t 56) 0)),(aj 58 (.ext (.t 56) 1)),(cZ (.st (.t 2) (.t 57) 5)),(aR 3 58)]) .ret) (.seq (.seq (.rg [(aj 60 (.bin .eql (.t 43) (.c (.int .i64 1)))),(aR 59 60)]) (.sem (erase uF))) (.sem (erase uH))))))))))) (.seq (.seq (.rg [(au 74 10),(aj 75 (.un .not (.t 74)))]) (.cond (.t 75) (.seq (.rg [(aj 76 (.build [(.int .i64 0),(.str []),(.str []),(.str []),(.int .i64 0)] [])),(cZ (.st (.t 2) (.t 76) 5)),(aj 3 (.aO (.c (.int .i64 501))))]) .ret) .skip)) (.seq (.rg [(au 77 8),(au 78 6),(aj 79 (.build [(.int .i64 0),(.str []),(.str []),(.str []),(.int .i64 0)] [(0,(1,(.t 77))),(1,(1,(.t 78)))])),(cZ (.st (.t 2) (.t 79) 5)),(aj 3 (.aO (.c (.int .i64 0))))]) .ret))))))))))
theorem Ho:bQ Tryz.prog 8 80 [(.cell 2 26),(.tmp 3)] (erase Hl):=⟨Tryz.f8,_,rfl,by decide,rfl,by kernel_rfl,rfl,rfl⟩
abbrev jB:List Nat:=[0,2,3,4,5,6,7,8,9,10,12,13,14,25,43,44,47,53,59,64,70,75]
def kB (s1:List UInt8) (t3:Int):Option (Bool):=
 (idx s1 t3).bind fun x6=>
 (if (decide (x6<32)) then
  some true
 else
  some (decide (126<x6)))
def fk (s1:List UInt8):(Int×aH)→Option (St (aH×Int) aH (Int×aH))
 |(t3,s4)=>
  (if (decide (t3<(s1.length:Int))) then
   (kB s1 t3).bind fun t8=>
   (if t8 then
    some (.ret ((aH.mk 0 ([]:List UInt8) (aC.mk ([]:List UInt8) ([]:List UInt8)) 0),500))
   else
    some (.cB ((IntKind.wrap .i64 (t3+1)),s4)))
  else
   some (.eg s4))
def mL (fX:Int):Option (Bool):=
 (if (decide (fX=1)) then
  some (decide (fX=1))
 else
  some (decide (fX=2)))
def mM (fX:Int):Option (Bool):=
 (if (decide (fX=5)) then
  some (decide (fX=5))
 else
  (if (decide (fX=6)) then
   some (decide (fX=6))
  else
   some (decide (fX=8))))
def mN (F:Nat) (t26:Bool) (gv:List UInt8) (fX:Int) (r16:Bool):Option (Bool):=
 (if t26 then
  (gN F gv).bind fun r28=>some r28
 else
  (mM fX).bind fun t31=>
  (if t31 then
   some (!r16)
  else
   (if (decide (fX=9)) then
    some (!decide (gv=([]:List UInt8)))
   else
    some true)))
def gO (F:Nat) (s1:List UInt8):Option (aH×Int):=
 ((iter (fk s1) F (0,(aH.mk 0 ([]:List UInt8) (aC.mk ([]:List UInt8) ([]:List UInt8)) 0))).bind fun T3=>
 match T3 with
 | .inr aY=>
   (fq s1 ([32]:List UInt8)).bind fun mb=>
   (strings_Cut mb ([32]:List UInt8)).bind fun (iO,gv,r16)=>
   (fT F iO).bind fun T4=>
   (sE F T4).bind fun fX=>
   (sub mb (iO.length:Int) (mb.length:Int)).bind fun AK=>
   (if (decide (fX=0)) then
    some ((aH.mk 0 ([]:List UInt8) (aC.mk ([]:List UInt8) ([]:List UInt8)) 0),500)
   else
    (if (decide (fX=3)) then
     (sQ F AK).bind fun (mV,lK)=>some (mV,lK)
    else
     (if (decide (fX=4)) then
      (sS F AK).bind fun (BS,JH)=>some (BS,JH)
     else
      (mL fX).bind fun t26=>
      (mN F t26 gv fX r16).bind fun XT=>
      (if (!XT) then
       some ((aH.mk 0 ([]:List UInt8) (aC.mk ([]:List UInt8) ([]:List UInt8)) 0),501)
      else
       some ((aH.mk fX gv (aC.mk ([]:List UInt8) ([]:List UInt8)) 0),0)))))
 | .inl (BT,QD)=>
   some (BT,QD))
theorem AP {s1:List UInt8} {t3:Int} {q5:Nat} {s4:aH} {H0 H:AH} (hfr:Fr H0 H0.length [] H) (ai:H[q5]? =some [(.int .i64 s4.kind),(.str s4.arg),(.str s4.path.ax),(.str s4.path.domain),(.int .i64 s4.size)]) (dZ:H0.length≤q5) {K:Exit→Env→AH→Prop} {t7:Bool}
 (h:kB s1 t3=some t7)
 (kn:∀H':AH,Fr H0 H0.length [] H'→H'[q5]? =some [(.int .i64 s4.kind),(.str s4.arg),(.str s4.path.ax),(.str s4.path.domain),(.int .i64 s4.size)]→K .normal [(0,(.str s1)),(2,(.ptr q5 0)),(12,(.int .i64 (s1.length:Int))),(13,(.int .i64 t3)),(25,(.bool t7))] H'):
 AX Tryz.prog jB 80 H0.length (erase uE) K [(0,(.str s1)),(2,(.ptr q5 0)),(4,(.int .i64 t3)),(12,(.int .i64 (s1.length:Int))),(13,(.int .i64 t3))] H:=by
 refine b7 fun K' hK=> ?_
 have hle:=hfr.le
 have aM:=aQ ai
 rw [kB.eq_1] at h
 obtain ⟨x6,hy2,h⟩:=aq h
 refine az (aI hy2 ai) ?_
 refine bV h (fun hy3 h=> ?_) fun hy3 h=> ?_
 · refine az (aI hy3 ai) ?_
   obtain rfl:=aB h
   exact hK _ _ _ _ _ aJ ak (kn _ hfr (ai.trans rfl))
 · refine az (aI hy3 (aI hy2 ai)) ?_
   obtain rfl:=aB h
   exact hK _ _ _ _ _ aJ ak (kn _ hfr (ai.trans rfl))
theorem AQ {F:Nat} {t3:Int} {s1:List UInt8} {s4:aH} {q2:Nat} {H0 H:AH} (hfr:Fr H0 H0.length [] H) (ai:H[q2]? =some [(.int .i64 s4.kind),(.str s4.arg),(.str s4.path.ax),(.str s4.path.domain),(.int .i64 s4.size)]) (dZ:H0.length≤q2) {K:Exit→Env→AH→Prop} {o:(aH×Int)⊕(aH)}
 (h:iter (fk s1) F (t3,s4)=some o)
 (dD:∀o':aH,o= .inr o'→∀H':AH,Fr H0 H0.length [] H'→H'[q2]? =some [(.int .i64 o'.kind),(.str o'.arg),(.str o'.path.ax),(.str o'.path.domain),(.int .i64 o'.size)]→K (.exit 0) [(0,(.str s1)),(2,(.ptr q2 0))] H')
 (kr:∀o':aH×Int,o= .inl o'→∀H':AH,Fr H0 H0.length [] H'→H'[q2]? =some [(.int .i64 o'.1.kind),(.str o'.1.arg),(.str o'.1.path.ax),(.str o'.1.path.domain),(.int .i64 o'.1.size)]→K .ret [(2,(.ptr q2 0)),(3,(.int .i64 o'.2))] H'):
 AX Tryz.prog jB 80 H0.length (.loop (erase sU)) K [(0,(.str s1)),(2,(.ptr q2 0)),(12,(.int .i64 (s1.length:Int))),(13,(.int .i64 t3))] H:=by
 refine iY (fun s e H1=>match s with|(t3,s4)=>e=[(0,(.str s1)),(2,(.ptr q2 0)),(12,(.int .i64 (s1.length:Int))),(13,(.int .i64 t3))]∧Fr H0 H0.length [] H1∧H1[q2]? =some [(.int .i64 s4.kind),(.str s4.arg),(.str s4.path.ax),(.str s4.path.domain),(.int .i64 s4.size)]) h ⟨rfl,hfr,ai⟩ ?_
 rintro K' ⟨t3,s4⟩ st e H ⟨rfl,hfr,ai⟩ h hN hB hR hX
 have hle:=hfr.le
 have aM:=aQ ai
 rw [fk.eq_1] at h
 refine az ai ?_
 refine bn h (fun hy1 h=> ?_) fun hy1 h=> ?_
 · refine az ai ?_
   obtain ⟨t8,hy4,h⟩:=aq h
   refine bB ak (AP (s4:=s4) (q5:=q2) hfr (ai.trans rfl) ct hy4 ?_)
   intro H hfr ai
   have hle:=hfr.le
   have aM:=aQ ai
   refine az ai ?_
   refine bn h (fun bM h=> ?_) fun bM h=> ?_
   · refine az ai ?_
     obtain rfl:=aB h
     exact hX _ _ _ _ _ dB aJ ak (kr _ (hR _ rfl) _ (cj _ hfr) cD)
   · refine az ai ?_
     obtain rfl:=aB h
     exact hN _ rfl _ _ _ _ aJ ak ⟨rfl,hfr,(ai.trans rfl)⟩
 · refine az ai ?_
   obtain rfl:=aB h
   exact hX _ _ _ _ _ dB aJ ak (dD _ (hB _ rfl) _ hfr (ai.trans rfl))
theorem AR {fX:Int} {AS:Nat} {gv:List UInt8} {r16:Bool} {aY:aH} {H0 H:AH} (hfr:Fr H0 H0.length [] H) (ai:H[AS]? =some [(.int .i64 aY.kind),(.str aY.arg),(.str aY.path.ax),(.str aY.path.domain),(.int .i64 aY.size)]) (dZ:H0.length≤AS) {K:Exit→Env→AH→Prop} {t25:Bool}
 (h:mL fX=some t25)
 (kn:∀H':AH,Fr H0 H0.length [] H'→H'[AS]? =some [(.int .i64 aY.kind),(.str aY.arg),(.str aY.path.ax),(.str aY.path.domain),(.int .i64 aY.size)]→K .normal [(2,(.ptr AS 0)),(6,(.str gv)),(7,(.bool r16)),(8,(.int .i64 fX)),(10,(.bool true)),(43,(.int .i64 fX)),(59,(.bool t25))] H'):
 AX Tryz.prog jB 80 H0.length (erase uF) K [(2,(.ptr AS 0)),(6,(.str gv)),(7,(.bool r16)),(8,(.int .i64 fX)),(10,(.bool true)),(43,(.int .i64 fX)),(59,(.bool (decide (fX=1))))] H:=by
 refine b7 fun K' hK=> ?_
 have hle:=hfr.le
 have aM:=aQ ai
 rw [mL.eq_1] at h
 refine az ai ?_
 refine bn h (fun ko h=> ?_) fun ko h=> ?_
 · refine az ai ?_
   obtain rfl:=aB h
   exact hK _ _ _ _ _ aJ ak (kn _ hfr (ai.trans rfl))
 · refine az ai ?_
   obtain rfl:=aB h
   exact hK _ _ _ _ _ aJ ak (kn _ hfr (ai.trans rfl))
theorem AT {fX:Int} {QE:Nat} {gv:List UInt8} {r16:Bool} {aY:aH} {H0 H:AH} (hfr:Fr H0 H0.length [] H) (ai:H[QE]? =some [(.int .i64 aY.kind),(.str aY.arg),(.str aY.path.ax),(.str aY.path.domain),(.int .i64 aY.size)]) (dZ:H0.length≤QE) {K:Exit→Env→AH→Prop} {t30:Bool}
 (h:mM fX=some t30)
 (kn:∀H':AH,Fr H0 H0.length [] H'→H'[QE]? =some [(.int .i64 aY.kind),(.str aY.arg),(.str aY.path.ax),(.str aY.path.domain),(.int .i64 aY.size)]→K .normal [(2,(.ptr QE 0)),(6,(.str gv)),(7,(.bool r16)),(8,(.int .i64 fX)),(10,(.bool true)),(43,(.int .i64 fX)),(64,(.bool t30))] H'):
 AX Tryz.prog jB 80 H0.length (erase uG) K [(2,(.ptr QE 0)),(6,(.str gv)),(7,(.bool r16)),(8,(.int .i64 fX)),(10,(.bool true)),(43,(.int .i64 fX)),(64,(.bool (decide (fX=5))))] H:=by
 refine b7 fun K' hK=> ?_
 have hle:=hfr.le
 have aM:=aQ ai
 rw [mM.eq_1] at h
 refine az ai ?_
 refine bn h (fun jh h=> ?_) fun jh h=> ?_
 · refine az ai ?_
   obtain rfl:=aB h
   exact hK _ _ _ _ _ aJ ak (kn _ hfr (ai.trans rfl))
 · refine az ai ?_
   refine bn h (fun ku h=> ?_) fun ku h=> ?_
   · refine az ai ?_
     obtain rfl:=aB h
     exact hK _ _ _ _ _ aJ ak (kn _ hfr (ai.trans rfl))
   · refine az ai ?_
     obtain rfl:=aB h
     exact hK _ _ _ _ _ aJ ak (kn _ hfr (ai.trans rfl))
theorem AU {F:Nat} {t26:Bool} {gv:List UInt8} {fX:Int} {r16:Bool} {Mt:Nat} {aY:aH} {H0 H:AH} (hfr:Fr H0 H0.length [] H) (ai:H[Mt]? =some [(.int .i64 aY.kind),(.str aY.arg),(.str aY.path.ax),(.str aY.path.domain),(.int .i64 aY.size)]) (dZ:H0.length≤Mt) {K:Exit→Env→AH→Prop} {XU:Bool}
 (h:mN F t26 gv fX r16=some XU)
 (kn:∀H':AH,Fr H0 H0.length [] H'→H'[Mt]? =some [(.int .i64 aY.kind),(.str aY.arg),(.str aY.path.ax),(.str aY.path.domain),(.int .i64 aY.size)]→K .normal [(2,(.ptr Mt 0)),(6,(.str gv)),(8,(.int .i64 fX)),(10,(.bool XU))] H'):
 AX Tryz.prog jB 80 H0.length (erase uH) K [(2,(.ptr Mt 0)),(6,(.str gv)),(7,(.bool r16)),(8,(.int .i64 fX)),(10,(.bool true)),(43,(.int .i64 fX)),(59,(.bool t26))] H:=by
 refine b7 fun K' hK=> ?_
 have hle:=hfr.le
 have aM:=aQ ai
 rw [mN.eq_1] at h
 refine az ai ?_
 refine bn h (fun gZ h=> ?_) fun gZ h=> ?_
 · refine az ai ?_
   obtain ⟨r28,kq,h⟩:=aq h
   refine bE ak (uA kq) ?_
   refine az ai ?_
   obtain rfl:=aB h
   exact hK _ _ _ _ _ aJ ak (kn _ hfr (ai.trans rfl))
 · refine az ai ?_
   obtain ⟨t31,lG,h⟩:=aq h
   refine bB ak (AT (gv:=gv) (r16:=r16) (aY:=aY) (QE:=Mt) hfr (ai.trans rfl) ct lG ?_)
   intro H hfr ai
   have hle:=hfr.le
   have aM:=aQ ai
   refine az ai ?_
   refine bn h (fun jU h=> ?_) fun jU h=> ?_
   · refine az ai ?_
     obtain rfl:=aB h
     exact hK _ _ _ _ _ aJ ak (kn _ hfr (ai.trans rfl))
   · refine az ai ?_
     refine bn h (fun kz h=> ?_) fun kz h=> ?_
     · refine az ai ?_
       obtain rfl:=aB h
       exact hK _ _ _ _ _ aJ ak (kn _ hfr (ai.trans rfl))
     · refine az ai ?_
       obtain rfl:=aB h
       exact hK _ _ _ _ _ aJ ak (kn _ hfr (ai.trans rfl))
theorem kC {F:Nat} {s1:List UInt8} {H0:AH} {aP:aH} {eL:Int} (h:gO F s1=some (aP,eL)):
 aF Tryz.prog 8 [(.str s1)] H0 fun v H'=>v=(.bz [(.agg [(.int .i64 aP.kind),(.str aP.arg),(.str aP.path.ax),(.str aP.path.domain),(.int .i64 aP.size)]),(.int .i64 eL)])∧H'=H0:=by
 refine nk Ho jB [] fun hcl K0 aN H hH hfr=> ?_
 clear hH
 have hle:=hfr.le
 rw [gO.eq_1] at h
 refine ei ?_
 obtain ⟨q2,kU⟩:∃q:Nat,H.length=q:=⟨_,rfl⟩
 try rw [kU]
 obtain ⟨T3,cc,h⟩:=aq h
 refine bB ak (AQ (q2:=q2) (Fr.app hfr) uR ct cc ?_ ?_)
 · rintro aY rfl H hfr ai
   try dsimp only at h ai
   have hle:=hfr.le
   have aM:=aQ ai
   refine az ai ?_
   obtain ⟨mb,cO,h⟩:=aq h
   refine bE ak (uT (s1:=s1) (s2:=([32]:List UInt8)) cO) ?_
   refine az ai ?_
   obtain ⟨⟨iO,gv,r16⟩,cC,h⟩:=aq h
   dsimp only at h
   refine bE ak (BB (s1:=mb) (s2:=([32]:List UInt8)) cC) ?_
   refine az ai ?_
   obtain ⟨T4,cX,h⟩:=aq h
   refine bE ak (lB cX) ?_
   refine az ai ?_
   obtain ⟨fX,cx,h⟩:=aq h
   refine bE ak (G2 cx) ?_
   refine az ai ?_
   obtain ⟨AK,cJ,h⟩:=aq h
   refine az (aI cJ ai) ?_
   refine bn h (fun cV h=> ?_) fun cV h=> ?_
   · refine az ai ?_
     obtain ⟨rfl,rfl⟩:=cE h
     exact aN _ _ _ bk (aV (cj _ hfr) hcl (bh (cs:=[(.int .i64 0),(.str ([]:List UInt8)),(.str ([]:List UInt8)),(.str ([]:List UInt8)),(.int .i64 0)]) (v:=(.agg [(.int .i64 0),(.str ([]:List UInt8)),(.str ([]:List UInt8)),(.str ([]:List UInt8)),(.int .i64 0)])) (by kernel_rfl) (n:=(some 5)) (by kernel_rfl) rfl cD (by simp [bG,bF,dM,aU,AV.flat,bX,cz,AV.br,Tg.sh]) (aX bf (.int .i64 500))) bg aZ ⟨rfl,rfl⟩)
   · refine az ai ?_
     refine bn h (fun cS h=> ?_) fun cS h=> ?_
     · refine az ai ?_
       obtain ⟨⟨mV,lK⟩,eI,h⟩:=aq h
       dsimp only at h
       refine bE ak (Hi eI) ?_
       refine az ai ?_
       obtain ⟨rfl,rfl⟩:=cE h
       exact aN _ _ _ bk (aV (cj _ hfr) hcl (bh (cs:=[(.int .i64 mV.kind),(.str mV.arg),(.str mV.path.ax),(.str mV.path.domain),(.int .i64 mV.size)]) (v:=(.agg [(.int .i64 mV.kind),(.str mV.arg),(.str mV.path.ax),(.str mV.path.domain),(.int .i64 mV.size)])) (by kernel_rfl) (n:=(some 5)) (by kernel_rfl) rfl cD (by simp [bG,bF,dM,aU,AV.flat,bX,cz,AV.br,Tg.sh]) (aX bf (.int .i64 lK))) bg aZ ⟨rfl,rfl⟩)
     · refine az ai ?_
       refine bn h (fun fW h=> ?_) fun fW h=> ?_
       · refine az ai ?_
         obtain ⟨⟨BS,JH⟩,eM,h⟩:=aq h
         dsimp only at h
         refine bE ak (Hj eM) ?_
         refine az ai ?_
         obtain ⟨rfl,rfl⟩:=cE h
         exact aN _ _ _ bk (aV (cj _ hfr) hcl (bh (cs:=[(.int .i64 BS.kind),(.str BS.arg),(.str BS.path.ax),(.str BS.path.domain),(.int .i64 BS.size)]) (v:=(.agg [(.int .i64 BS.kind),(.str BS.arg),(.str BS.path.ax),(.str BS.path.domain),(.int .i64 BS.size)])) (by kernel_rfl) (n:=(some 5)) (by kernel_rfl) rfl cD (by simp [bG,bF,dM,aU,AV.flat,bX,cz,AV.br,Tg.sh]) (aX bf (.int .i64 JH))) bg aZ ⟨rfl,rfl⟩)
       · refine az ai ?_
         obtain ⟨t26,jg,h⟩:=aq h
         refine bB ak (AR (gv:=gv) (r16:=r16) (aY:=aY) (AS:=q2) hfr (ai.trans rfl) ct jg ?_)
         intro H hfr ai
         have hle:=hfr.le
         have aM:=aQ ai
         refine az ai ?_
         obtain ⟨XT,mU,h⟩:=aq h
         refine bB ak (AU (aY:=aY) (Mt:=q2) hfr (ai.trans rfl) ct mU ?_)
         intro H hfr ai
         have hle:=hfr.le
         have aM:=aQ ai
         refine az ai ?_
         refine bn h (fun vW h=> ?_) fun vW h=> ?_
         · refine az ai ?_
           obtain ⟨rfl,rfl⟩:=cE h
           exact aN _ _ _ bk (aV (cj _ hfr) hcl (bh (cs:=[(.int .i64 0),(.str ([]:List UInt8)),(.str ([]:List UInt8)),(.str ([]:List UInt8)),(.int .i64 0)]) (v:=(.agg [(.int .i64 0),(.str ([]:List UInt8)),(.str ([]:List UInt8)),(.str ([]:List UInt8)),(.int .i64 0)])) (by kernel_rfl) (n:=(some 5)) (by kernel_rfl) rfl cD (by simp [bG,bF,dM,aU,AV.flat,bX,cz,AV.br,Tg.sh]) (aX bf (.int .i64 501))) bg aZ ⟨rfl,rfl⟩)
         · refine az ai ?_
           obtain ⟨rfl,rfl⟩:=cE h
           exact aN _ _ _ bk (aV (cj _ hfr) hcl (bh (cs:=[(.int .i64 fX),(.str gv),(.str ([]:List UInt8)),(.str ([]:List UInt8)),(.int .i64 0)]) (v:=(.agg [(.int .i64 fX),(.str gv),(.str ([]:List UInt8)),(.str ([]:List UInt8)),(.int .i64 0)])) (by kernel_rfl) (n:=(some 5)) (by kernel_rfl) rfl cD (by simp [bG,bF,dM,aU,AV.flat,bX,cz,AV.br,Tg.sh]) (aX bf (.int .i64 0))) bg aZ ⟨rfl,rfl⟩)
 · rintro ⟨BT,QD⟩ rfl H hfr ai
   try dsimp only at h ai
   have hle:=hfr.le
   have aM:=aQ ai
   refine az ai ?_
   obtain ⟨rfl,rfl⟩:=cE h
   exact aN _ _ _ bk (aV hfr hcl (bh (cs:=[(.int .i64 BT.kind),(.str BT.arg),(.str BT.path.ax),(.str BT.path.domain),(.int .i64 BT.size)]) (v:=(.agg [(.int .i64 BT.kind),(.str BT.arg),(.str BT.path.ax),(.str BT.path.domain),(.int .i64 BT.size)])) (by kernel_rfl) (n:=(some 5)) (by kernel_rfl) rfl (ai.trans rfl) (by simp [bG,bF,dM,aU,AV.flat,bX,cz,AV.br,Tg.sh]) (aX bf (.int .i64 QD))) bg aZ ⟨rfl,rfl⟩)
abbrev EM:av:=(.seq (.rg [(aj 1 (.box (.t 0))),(aj 2 (.aO (.c (.str []))))]) (.seq (.blk 0 (.seq (.rg [(aj 4 (.ld (.t 1) (some 2))),(aj 5 (.call (.c (.fn 30 [])) [(.t 4)])),(aR 3 5)]) (.cond (.t 3) (.seq (.rg [(aj 2 (.aO (.c (.str [60,62]))))]) .ret) (.seq (.rg [(aj 7 (.ld (.t 1) (some 2))),(aj 8 (.call (.c (.fn 10 [])) [(.t 7)])),(aj 9 (.un .not (.t 8))),(aR 6 9)]) (.cond (.t 6) (.seq (.rg [(aj 2 (.aO (.c (.str []))))]) .ret) .skip))))) (.seq (.rg [(aj 10 (.ld (.t 1) (some 2))),(aj 11 (.call (.c (.fn 32 [])) [(.t 10)])),(aR 2 11)]) .ret)))
theorem EN:bQ Tryz.prog 11 12 [(.tmp 2)] (erase EM):=⟨Tryz.f11,_,rfl,by decide,rfl,by kernel_rfl,rfl,rfl⟩
abbrev EO:List Nat:=[0,1,2,3,6]
def k6 (F:Nat) (a1:aC):Option ((List UInt8)):=
 (mD a1).bind fun r2=>
 (if r2 then
  some ([60,62]:List UInt8)
 else
  (k5 F a1).bind fun r3=>
  (if (!r3) then
   some ([]:List UInt8)
  else
   (mE F a1).bind fun r4=>some r4))
theorem vX {F:Nat} {a1:aC} {H0:AH} {aP:List UInt8} (h:k6 F a1=some aP):
 aF Tryz.prog 11 [(.agg [(.str a1.ax),(.str a1.domain)])] H0 fun v H'=>v=(.str aP)∧H'=H0:=by
 refine nk EN EO [] fun hcl K0 aN H hH hfr=> ?_
 clear hH
 have hle:=hfr.le
 rw [k6.eq_1] at h
 refine ei ?_
 obtain ⟨r2,hy1,h⟩:=aq h
 refine bE ak (xb hy1) ?_
 refine ei ?_
 refine bn h (fun hy2 h=> ?_) fun hy2 h=> ?_
 · refine ei ?_
   obtain rfl:=aB h
   exact aN _ _ _ bk (aV (Fr.app hfr) hcl (aX bf (.str ([60,62]:List UInt8))) bg aZ ⟨rfl,rfl⟩)
 · refine ei ?_
   obtain ⟨r3,hy3,h⟩:=aq h
   refine bE ak (vN hy3) ?_
   refine ei ?_
   refine bn h (fun hy4 h=> ?_) fun hy4 h=> ?_
   · refine ei ?_
     obtain rfl:=aB h
     exact aN _ _ _ bk (aV (Fr.app hfr) hcl (aX bf (.str ([]:List UInt8))) bg aZ ⟨rfl,rfl⟩)
   · refine ei ?_
     obtain ⟨r4,bM,h⟩:=aq h
     refine bE ak (xe bM) ?_
     refine ei ?_
     obtain rfl:=aB h
     exact aN _ _ _ bk (aV (Fr.app hfr) hcl (aX bf (.str r4)) bg aZ ⟨rfl,rfl⟩)
abbrev uI:av:=(.cond (.t 15) .skip (.seq (.rg [(aj 17 (.bin .eql (.t 8) (.c (.int .i64 2)))),(aR 15 17)]) (.cond (.t 15) .skip (.rg [(aj 18 (.bin .eql (.t 8) (.c (.int .i64 9)))),(aR 15 18)]))))
abbrev uJ:av:=(.cond (.t 27) (.rg [(au 28 3),(aj 29 (.cR (.t 1) 4)),(aj 30 (.ld (.t 29) none)),(aj 31 (.call (.c (.fn 34 [])) [(.t 30)])),(aj 32 (.bin .add (.c (.str [32,83,73,90,69,61])) (.t 31))),(aj 33 (.bin .add (.t 28) (.t 32))),(aR 3 33)]) .skip)
abbrev Hp:av:=(.seq (.rg [(aj 1 (.box (.t 0))),(aj 2 (.aO (.c (.str []))))]) (.seq (.rg [(aj 4 (.cR (.t 1) 0)),(aj 5 (.ld (.t 4) none)),(aj 6 (.call (.c (.fn 33 [])) [(.t 5)])),(aR 3 6)]) (.seq (.seq (.rg [(aj 7 (.cR (.t 1) 0)),(aj 8 (.ld (.t 7) none))]) (.blk 0 (.seq (.blk 4 (.seq (.blk 3 (.seq (.blk 2 (.seq (.blk 1 (.seq (.seq (.seq (.rg [(aj 10 (.bin .eql (.t 8) (.c (.int .i64 3)))),(aR 9 10)]) (.cond (.t 9) (.exit 1) .skip)) (.seq (.seq (.rg [(aj 12 (.bin .eql (.t 8) (.c (.int .i64 4)))),(aR 11 12)]) (.cond (.t 11) (.exit 2) .skip)) (.seq (.seq (.rg [(aj 14 (.bin .eql (.t 8) (.c (.int .i64 7)))),(aR 13 14)]) (.cond (.t 13) (.exit 3) .skip)) (.seq (.seq (.rg [(aj 16 (.bin .eql (.t 8) (.c (.int .i64 1)))),(aR 15 16)]) (.sem (erase uI))) (.cond (.t 15) (.exit 4) .skip))))) (.exit 0))) (.seq (.seq (.rg [(au 19 3),(aj 20 (.cR (.t 1) 2)),(aj 21 (.ld (.t 20) (some 2))),(aj 22 (.call (.c (.fn 11 [])) [(.t 21)])),(aj 23 (.bin .add (.c (.str [32,70,82,79,77,58])) (.t 22))),(aj 24 (.bin .add (.t 19) (.t 23))),(aR 3 24)]) (.seq (.rg [(aj 25 (.cR (.t 1) 4)),(aj 26 (.ld (.t 25) none)),(aj 27 (.bin .neq (.t 26) (.c (.int .i64 (-1)))))]) (.sem (erase uJ)))) (.exit 0)))) (.seq (.rg [(au 34 3),(aj 35 (.cR (.t 1) 2)),(aj 36 (.ld (.t 35) (some 2))),(aj 37 (.call (.c (.fn 11 [])) [(.t 36)])),(aj 38 (.bin .add (.c (.str [32,84,79,58])) (.t 37))),(aj 39 (.bin .add (.t 34) (.t 38))),(aR 3 39)]) (.exit 0)))) (.seq (.rg [(aj 40 (.cR (.t 1) 1)),(aj 41 (.ld (.t 40) none)),(aj 42 (.bin .eql (.t 41) (.c (.str []))))]) (.cond (.t 42) (.exit 0) .skip)))) (.seq (.rg [(au 43 3),(aj 44 (.cR (.t 1) 1)),(aj 45 (.ld (.t 44) none)),(aj 46 (.bin .add (.c (.str [32])) (.t 45))),(aj 47 (.bin .add (.t 43) (.t 46))),(aR 3 47)]) (.exit 0))))) (.seq (.rg [(au 48 3),(aR 2 48)]) .ret))))
theorem Hq:bQ Tryz.prog 14 49 [(.tmp 2)] (erase Hp):=⟨Tryz.f14,_,rfl,by decide,rfl,by kernel_rfl,rfl,rfl⟩
abbrev ue:List Nat:=[0,1,2,3,8,9,11,13,15,27,42]
def si (c1:aH) (x5:List UInt8):Option ((List UInt8)):=
 (if (!decide (c1.size=(-1))) then
  (strconv_Itoa c1.size).bind fun r7=>
  (cat ([32,83,73,90,69,61]:List UInt8) r7).bind fun x8=>(cat x5 x8).bind fun x9=>some x9
 else
  some x5)
def sj (c1:aH):Option (Bool):=
 (if (decide (c1.kind=1)) then
  some (decide (c1.kind=1))
 else
  (if (decide (c1.kind=2)) then
   some (decide (c1.kind=2))
  else
   some (decide (c1.kind=9))))
def xF (F:Nat) (c1:aH):Option ((List UInt8)):=
 (ow c1.kind).bind fun r2=>
 (if (decide (c1.kind=3)) then
  (k6 F c1.path).bind fun r3=>
  (cat ([32,70,82,79,77,58]:List UInt8) r3).bind fun x4=>
  (cat r2 x4).bind fun x5=>(si c1 x5).bind fun oO=>
  some oO
 else
  (if (decide (c1.kind=4)) then
   (k6 F c1.path).bind fun iM=>
   (cat ([32,84,79,58]:List UInt8) iM).bind fun kj=>(cat r2 kj).bind fun Mr=>some Mr
  else
   (if (decide (c1.kind=7)) then
    (if (decide (c1.arg=([]:List UInt8))) then
     some r2
    else
     (cat ([32]:List UInt8) c1.arg).bind fun nu=>(cat r2 nu).bind fun j8=>some j8)
   else
    (sj c1).bind fun t19=>
    (if t19 then
     (cat ([32]:List UInt8) c1.arg).bind fun nH=>(cat r2 nH).bind fun EH=>some EH
    else
     some r2))))
theorem AY {c1:aH} {x5:List UInt8} {q6:Nat} {H0 H:AH} (hfr:Fr H0 H0.length [] H) (ai:H[q6]? =some [(.int .i64 c1.kind),(.str c1.arg),(.str c1.path.ax),(.str c1.path.domain),(.int .i64 c1.size)]) (dZ:H0.length≤q6) {K:Exit→Env→AH→Prop} {T0:List UInt8}
 (h:si c1 x5=some T0)
 (kn:∀H':AH,Fr H0 H0.length [] H'→H'[q6]? =some [(.int .i64 c1.kind),(.str c1.arg),(.str c1.path.ax),(.str c1.path.domain),(.int .i64 c1.size)]→K .normal [(3,(.str T0))] H'):
 AX Tryz.prog ue 49 H0.length (erase uJ) K [(1,(.ptr q6 0)),(3,(.str x5)),(27,(.bool (!decide (c1.size=(-1)))))] H:=by
 refine b7 fun K' hK=> ?_
 have hle:=hfr.le
 have aM:=aQ ai
 rw [si.eq_1] at h
 refine az ai ?_
 refine bn h (fun cc h=> ?_) fun cc h=> ?_
 · refine az ai ?_
   obtain ⟨r7,cO,h⟩:=aq h
   refine bE ak (sC (i1:=c1.size) cO) ?_
   refine az ai ?_
   obtain ⟨x8,cC,h⟩:=aq h
   obtain ⟨x9,cX,h⟩:=aq h
   refine az (aI cC (aI cX ai)) ?_
   obtain rfl:=aB h
   exact hK _ _ _ _ _ aJ ak (kn _ hfr (ai.trans rfl))
 · refine az ai ?_
   obtain rfl:=aB h
   exact hK _ _ _ _ _ aJ ak (kn _ hfr (ai.trans rfl))
theorem AZ {c1:aH} {uf:Nat} {r2:List UInt8} {H0 H:AH} (hfr:Fr H0 H0.length [] H) (ai:H[uf]? =some [(.int .i64 c1.kind),(.str c1.arg),(.str c1.path.ax),(.str c1.path.domain),(.int .i64 c1.size)]) (dZ:H0.length≤uf) {K:Exit→Env→AH→Prop} {t18:Bool}
 (h:sj c1=some t18)
 (kn:∀H':AH,Fr H0 H0.length [] H'→H'[uf]? =some [(.int .i64 c1.kind),(.str c1.arg),(.str c1.path.ax),(.str c1.path.domain),(.int .i64 c1.size)]→K .normal [(1,(.ptr uf 0)),(3,(.str r2)),(15,(.bool t18))] H'):
 AX Tryz.prog ue 49 H0.length (erase uI) K [(1,(.ptr uf 0)),(3,(.str r2)),(8,(.int .i64 c1.kind)),(15,(.bool (decide (c1.kind=1))))] H:=by
 refine b7 fun K' hK=> ?_
 have hle:=hfr.le
 have aM:=aQ ai
 rw [sj.eq_1] at h
 refine az ai ?_
 refine bn h (fun gZ h=> ?_) fun gZ h=> ?_
 · refine az ai ?_
   obtain rfl:=aB h
   exact hK _ _ _ _ _ aJ ak (kn _ hfr (ai.trans rfl))
 · refine az ai ?_
   refine bn h (fun kq h=> ?_) fun kq h=> ?_
   · refine az ai ?_
     obtain rfl:=aB h
     exact hK _ _ _ _ _ aJ ak (kn _ hfr (ai.trans rfl))
   · refine az ai ?_
     obtain rfl:=aB h
     exact hK _ _ _ _ _ aJ ak (kn _ hfr (ai.trans rfl))
theorem EP {F:Nat} {c1:aH} {H0:AH} {aP:List UInt8} (h:xF F c1=some aP):
 aF Tryz.prog 14 [(.agg [(.int .i64 c1.kind),(.str c1.arg),(.str c1.path.ax),(.str c1.path.domain),(.int .i64 c1.size)])] H0 fun v H'=>v=(.str aP)∧H'=H0:=by
 refine nk Hq ue [] fun hcl K0 aN H hH hfr=> ?_
 clear hH
 have hle:=hfr.le
 rw [xF.eq_1] at h
 refine ei ?_
 obtain ⟨r2,hy1,h⟩:=aq h
 refine bE ak (zi hy1) ?_
 refine ei ?_
 refine bn h (fun hy2 h=> ?_) fun hy2 h=> ?_
 · refine ei ?_
   obtain ⟨r3,hy3,h⟩:=aq h
   refine bE ak (vX hy3) ?_
   refine ei ?_
   obtain ⟨x4,hy4,h⟩:=aq h
   obtain ⟨x5,bM,h⟩:=aq h
   refine az (aI hy4 bM) ?_
   obtain ⟨q6,xD⟩:∃q:Nat,H.length=q:=⟨_,rfl⟩
   try rw [xD]
   obtain ⟨oO,cx,h⟩:=aq h
   refine bB ak (AY (q6:=q6) (Fr.app hfr) uR ct cx ?_)
   intro H hfr ai
   have hle:=hfr.le
   have aM:=aQ ai
   refine az ai ?_
   obtain rfl:=aB h
   exact aN _ _ _ bk (aV hfr hcl (aX bf (.str oO)) bg aZ ⟨rfl,rfl⟩)
 · refine ei ?_
   refine bn h (fun cJ h=> ?_) fun cJ h=> ?_
   · refine ei ?_
     obtain ⟨iM,cV,h⟩:=aq h
     refine bE ak (vX cV) ?_
     refine ei ?_
     obtain ⟨kj,cS,h⟩:=aq h
     obtain ⟨Mr,eI,h⟩:=aq h
     refine az (aI cS eI) ?_
     obtain rfl:=aB h
     exact aN _ _ _ bk (aV (Fr.app hfr) hcl (aX bf (.str Mr)) bg aZ ⟨rfl,rfl⟩)
   · refine ei ?_
     refine bn h (fun fW h=> ?_) fun fW h=> ?_
     · refine ei ?_
       refine bn h (fun eM h=> ?_) fun eM h=> ?_
       · refine ei ?_
         obtain rfl:=aB h
         exact aN _ _ _ bk (aV (Fr.app hfr) hcl (aX bf (.str r2)) bg aZ ⟨rfl,rfl⟩)
       · obtain ⟨nu,ko,h⟩:=aq h
         obtain ⟨j8,jg,h⟩:=aq h
         refine az (aI ko jg) ?_
         obtain rfl:=aB h
         exact aN _ _ _ bk (aV (Fr.app hfr) hcl (aX bf (.str j8)) bg aZ ⟨rfl,rfl⟩)
     · refine ei ?_
       obtain ⟨uf,Hr⟩:∃q:Nat,H.length=q:=⟨_,rfl⟩
       try rw [Hr]
       obtain ⟨t19,jh,h⟩:=aq h
       refine bB ak (AZ (r2:=r2) (uf:=uf) (Fr.app hfr) uR ct jh ?_)
       intro H hfr ai
       have hle:=hfr.le
       have aM:=aQ ai
       refine az ai ?_
       refine bn h (fun ku h=> ?_) fun ku h=> ?_
       · obtain ⟨nH,lG,h⟩:=aq h
         obtain ⟨EH,jU,h⟩:=aq h
         refine az (aI lG (aI jU ai)) ?_
         obtain rfl:=aB h
         exact aN _ _ _ bk (aV hfr hcl (aX bf (.str EH)) bg aZ ⟨rfl,rfl⟩)
       · refine az ai ?_
         obtain rfl:=aB h
         exact aN _ _ _ bk (aV hfr hcl (aX bf (.str r2)) bg aZ ⟨rfl,rfl⟩)
abbrev qA:av:=(.rg ((au 25 2)::(aj 26 (.bin .eql (.t 25) (.c (.int .i64 0))))::(au 27 26)::(ay 28 (.cR (.t 1) 0) 27 true)::(ay 29 (.ld (.t 28) none) 27 true)::(ay 30 (.bin .eql (.t 29) (.c (.int .i64 3))) 27 true)::(aj 31 (.pick (.t 27) (.t 30) (.c (.bool false))))::(au 32 31)::(ay 33 (.cR (.t 1) 4) 32 true)::(ay 34 (.ld (.t 33) none) 32 true)::(ay 35 (.bin .eql (.t 34) (.c (.int .i64 12))) 32 true)::(aj 36 (.pick (.t 32) (.t 35) (.c (.bool false))))::(au 37 36)::(ay 38 (.cR (.t 1) 2) 37 true)::(ay 39 (.cR (.t 38) 0) 37 true)::(ay 40 (.ld (.t 39) none) 37 true)::(ay 41 (.bin .eql (.t 40) (.c (.str [97]))) 37 true)::(aj 42 (.pick (.t 37) (.t 41) (.c (.bool false))))::(au 43 42)::(ay 44 (.mv (.t 4)) 43 true)::(ay 45 (.bin .eql (.t 44) (.c (.int .i64 501))) 43 true)::(aj 46 (.pick (.t 43) (.t 45) (.c (.bool false))))::(au 47 46)::(ay 48 (.mv (.t 6)) 47 true)::(ay 49 (.bin .eql (.t 48) (.c (.int .i64 555))) 47 true)::(aj 50 (.pick (.t 47) (.t 49) (.c (.bool false))))::(au 51 50)::(ay 52 (.mv (.t 8)) 51 true)::(ay 53 (.bin .eql (.t 52) (.c (.int .i64 500))) 51 true)::(aj 54 (.pick (.t 51) (.t 53) (.c (.bool false))))::(au 55 54)::(ay 56 (.ld (.t 1) (some 5)) 55 true)::(ay 57 (.call (.c (.fn 14 [])) [(.t 56)]) 55 true)::(ay 58 (.bin .eql (.t 57) (.c (.str [77,65,73,76,32,70,82,79,77,58,60,97,64,98,62,32,83,73,90,69,61,49,50]))) 55 true)::(aj 59 (.pick (.t 55) (.t 58) (.c (.bool false))))::(aR 0 59)::[]))
abbrev Dj:av:=(.seq (.rg [(aj 0 (.aO (.c (.bool false))))]) (.seq (.rg [(aj 10 (.call (.c (.fn 8 [])) [(.c (.str [109,97,105,108,32,70,82,79,77,58,60,97,64,98,62,32,83,73,90,69,61,49,50,32,32]))])),(au 9 10),(aj 11 (.ext (.t 9) 0)),(aj 12 (.ext (.t 9) 1)),(aj 1 (.alloc [(.int .i64 0),(.str []),(.str []),(.str []),(.int .i64 0)])),(cZ (.st (.t 1) (.t 11) 5)),(aR 2 12)]) (.seq (.rg [(aj 14 (.call (.c (.fn 8 [])) [(.c (.str [82,67,80,84,32,84,79,58,60,62]))])),(au 13 14),(aj 15 (.ext (.t 13) 0)),(aj 16 (.ext (.t 13) 1)),(aj 3 (.alloc [(.int .i64 0),(.str []),(.str []),(.str []),(.int .i64 0)])),(cZ (.st (.t 3) (.t 15) 5)),(aR 4 16)]) (.seq (.rg [(aj 18 (.call (.c (.fn 8 [])) [(.c (.str [77,65,73,76,32,70,82,79,77,58,60,97,64,98,62,32,66,79,68,89,61,56,66,73,84]))])),(au 17 18),(aj 19 (.ext (.t 17) 0)),(aj 20 (.ext (.t 17) 1)),(aj 5 (.alloc [(.int .i64 0),(.str []),(.str []),(.str []),(.int .i64 0)])),(cZ (.st (.t 5) (.t 19) 5)),(aR 6 20)]) (.seq (.rg [(aj 22 (.call (.c (.fn 8 [])) [(.c (.str [70,79,79]))])),(au 21 22),(aj 23 (.ext (.t 21) 0)),(aj 24 (.ext (.t 21) 1)),(aj 7 (.alloc [(.int .i64 0),(.str []),(.str []),(.str []),(.int .i64 0)])),(cZ (.st (.t 7) (.t 23) 5)),(aR 8 24)]) (.seq (.sem (erase qA)) .ret))))))
theorem Dk:bQ Tryz.prog 7 60 [(.tmp 0)] (erase Dj):=⟨Tryz.f7,_,rfl,by decide,rfl,by kernel_rfl,rfl,rfl⟩
abbrev vY:List Nat:=[0,1,2,4,6,8]
def nI (F:Nat) (r2:Int) (r1:aH) (r4:Int) (r6:Int) (r8:Int):Option (Bool):=
 (if (decide (r2=0)) then
  (if (decide (r1.kind=3)) then
   (if (decide (r1.size=12)) then
    (if (decide (r1.path.ax=([97]:List UInt8))) then
     (if (decide (r4=501)) then
      (if (decide (r6=555)) then
       (if (decide (r8=500)) then
        (xF F r1).bind fun dK=>
        some (decide (dK=([77,65,73,76,32,70,82,79,77,58,60,97,64,98,62,32,83,73,90,69,61,49,50]:List UInt8)))
       else
        some false)
      else
       some false)
     else
      some false)
    else
     some false)
   else
    some false)
  else
   some false)
 else
  some false)
def oe (F:Nat):Option (Bool):=
 (gO F ([109,97,105,108,32,70,82,79,77,58,60,97,64,98,62,32,83,73,90,69,61,49,50,32,32]:List UInt8)).bind fun (r1,r2)=>
 (gO F ([82,67,80,84,32,84,79,58,60,62]:List UInt8)).bind fun (r3,r4)=>
 (gO F ([77,65,73,76,32,70,82,79,77,58,60,97,64,98,62,32,66,79,68,89,61,56,66,73,84]:List UInt8)).bind fun (r5,r6)=>
 (gO F ([70,79,79]:List UInt8)).bind fun (r7,r8)=>(nI F r2 r1 r4 r6 r8).bind fun t12=>
 some t12
theorem xG {F:Nat} {r2:Int} {r1:aH} {r4:Int} {r6:Int} {r8:Int} {q9:Nat} {H0 H:AH} (hfr:Fr H0 H0.length [] H) (ai:H[q9]? =some [(.int .i64 r1.kind),(.str r1.arg),(.str r1.path.ax),(.str r1.path.domain),(.int .i64 r1.size)]) (dZ:H0.length≤q9) {K:Exit→Env→AH→Prop} {t11:Bool}
 (h:nI F r2 r1 r4 r6 r8=some t11)
 (kn:∀H':AH,Fr H0 H0.length [] H'→H'[q9]? =some [(.int .i64 r1.kind),(.str r1.arg),(.str r1.path.ax),(.str r1.path.domain),(.int .i64 r1.size)]→K .normal [(0,(.bool t11))] H'):
 AX Tryz.prog vY 60 H0.length (erase qA) K [(0,(.bool false)),(1,(.ptr q9 0)),(2,(.int .i64 r2)),(4,(.int .i64 r4)),(6,(.int .i64 r6)),(8,(.int .i64 r8))] H:=by
 refine b7 fun K' hK=> ?_
 have hle:=hfr.le
 have aM:=aQ ai
 rw [nI.eq_1] at h
 refine az ai ?_
 refine bV h (fun bM h=> ?_) fun bM h=> ?_
 · refine az (aI bM ai) ?_
   refine bV h (fun cc h=> ?_) fun cc h=> ?_
   · refine az (aI cc ai) ?_
     refine bV h (fun cO h=> ?_) fun cO h=> ?_
     · refine az (aI cO ai) ?_
       refine bV h (fun cC h=> ?_) fun cC h=> ?_
       · refine az (aI cC ai) ?_
         refine bV h (fun cX h=> ?_) fun cX h=> ?_
         · refine az (aI cX ai) ?_
           refine bV h (fun cx h=> ?_) fun cx h=> ?_
           · refine az (aI cx ai) ?_
             refine bV h (fun cJ h=> ?_) fun cJ h=> ?_
             · refine az (aI cJ ai) ?_
               obtain ⟨dK,cV,h⟩:=aq h
               refine bE ak (EP cV) ?_
               refine az ai ?_
               obtain rfl:=aB h
               exact hK _ _ _ _ _ aJ ak (kn _ hfr (ai.trans rfl))
             · refine az (aI cJ ai) ?_
               obtain rfl:=aB h
               exact hK _ _ _ _ _ aJ ak (kn _ hfr (ai.trans rfl))
           · refine az (aI cx ai) ?_
             obtain rfl:=aB h
             exact hK _ _ _ _ _ aJ ak (kn _ hfr (ai.trans rfl))
         · refine az (aI cX ai) ?_
           obtain rfl:=aB h
           exact hK _ _ _ _ _ aJ ak (kn _ hfr (ai.trans rfl))
       · refine az (aI cC ai) ?_
         obtain rfl:=aB h
         exact hK _ _ _ _ _ aJ ak (kn _ hfr (ai.trans rfl))
     · refine az (aI cO ai) ?_
       obtain rfl:=aB h
       exact hK _ _ _ _ _ aJ ak (kn _ hfr (ai.trans rfl))
   · refine az (aI cc ai) ?_
     obtain rfl:=aB h
     exact hK _ _ _ _ _ aJ ak (kn _ hfr (ai.trans rfl))
 · refine az (aI bM ai) ?_
   obtain rfl:=aB h
   exact hK _ _ _ _ _ aJ ak (kn _ hfr (ai.trans rfl))
theorem BU {F:Nat} {H0:AH} {aP:Bool} (h:oe F=some aP):
 aF Tryz.prog 7 [] H0 fun v H'=>v=(.bool aP)∧H'=H0:=by
 refine nk Dk vY [] fun hcl K0 aN H hH hfr=> ?_
 clear hH
 have hle:=hfr.le
 rw [oe.eq_1] at h
 refine ei ?_
 obtain ⟨⟨r1,r2⟩,hy1,h⟩:=aq h
 dsimp only at h
 refine bE ak (kC hy1) ?_
 refine ei ?_
 obtain ⟨⟨r3,r4⟩,hy2,h⟩:=aq h
 dsimp only at h
 refine bE ak (kC hy2) ?_
 refine ei ?_
 obtain ⟨⟨r5,r6⟩,hy3,h⟩:=aq h
 dsimp only at h
 refine bE ak (kC hy3) ?_
 refine ei ?_
 obtain ⟨⟨r7,r8⟩,hy4,h⟩:=aq h
 dsimp only at h
 refine bE ak (kC hy4) ?_
 refine ei ?_
 obtain ⟨q9,Z3⟩:∃q:Nat,H.length=q:=⟨_,rfl⟩
 try rw [Z3]
 obtain ⟨t12,cS,h⟩:=aq h
 refine bB ak (xG (q9:=q9) (cj _ (Fr.app (cj _ (Fr.app (cj _ (Fr.app (cj _ (Fr.app hfr)))))))) (mz (BA (mz (BA (mz (BA cD)))))) ct cS ?_)
 intro H hfr ai
 have hle:=hfr.le
 have aM:=aQ ai
 refine az ai ?_
 obtain rfl:=aB h
 exact aN _ _ _ bk (aV hfr hcl (aX bf (.bool t12)) bg aZ ⟨rfl,rfl⟩)
abbrev qB:av:=(.rg [(au 13 3),(au 14 4),(aj 15 (.wI 1 (.t 13) (.t 14))),(aj 16 (.ld (.t 15) none)),(aj 17 (.bin .geq (.t 16) (.c (b8 65)))),(au 18 17),(ay 19 (.mv (.t 3)) 18 true),(ay 20 (.mv (.t 4)) 18 true),(ay 21 (.wI 1 (.t 19) (.t 20)) 18 true),(ay 22 (.ld (.t 21) none) 18 true),(ay 23 (.bin .leq (.t 22) (.c (b8 90))) 18 true),(aj 24 (.pick (.t 18) (.t 23) (.c (.bool false))))])
abbrev o6:av:=(.seq (.seq (.rg [(au 7 4),(au 8 3),(aj 9 (.len (.t 8))),(aj 10 (.bin .lss (.t 7) (.t 9)))]) (.cond (.t 10) .skip (.exit 0))) (.seq (.blk 1 (.seq (.sem (erase qB)) (.cond (.t 24) (.rg [(au 25 3),(au 26 4),(au 27 3),(au 28 4),(aj 29 (.wI 1 (.t 27) (.t 28))),(aj 30 (.ld (.t 29) none)),(aj 31 (.bin .add (.t 30) (.c (b8 32)))),(aj 32 (.wI 1 (.t 25) (.t 26))),(cZ (.st (.t 32) (.t 31) 1))]) .skip))) (.rg [(au 11 4),(aj 12 (.bin .add (.t 11) (.c (.int .i64 1)))),(aR 4 12)])))
abbrev Dl:av:=(.seq (.rg [(aj 2 (.aO (.c (.str []))))]) (.seq (.rg [(au 5 0),(aj 6 (.qn (.t 5))),(aR 3 6)]) (.seq (.seq (.rg [(aj 4 (.aO (.c (.int .i64 0))))]) (.blk 0 (.loop (erase o6)))) (.seq (.rg [(au 33 3),(aj 34 (.mj .bs (.t 33))),(aR 2 34)]) .ret))))
theorem Dm:bQ Tryz.prog 27 35 [(.tmp 2)] (erase Dl):=⟨Tryz.f27,_,rfl,by decide,rfl,by kernel_rfl,rfl,rfl⟩
abbrev pg:List Nat:=[0,2,3,4,10,24]
def hM (s1:List UInt8) (i3:Int) (s4:List UInt8):Option (Bool):=
 (Al s1.length i3).bind fun j6=>
 (s4[j6]?).bind fun x7=>
 (if (decide (65≤x7)) then
  some (decide (x7≤90))
 else
  some false)
def eO (s1:List UInt8):(Int×(List UInt8))→Option (St (List UInt8) (List UInt8) (Int×(List UInt8)))
 |(i3,s4)=>
  (if (decide (i3<(s1.length:Int))) then
   (hM s1 i3 s4).bind fun t9=>
   (if t9 then
    (Al s1.length i3).bind fun Z4=>
    (s4[Z4]?).bind fun gf=>
    (Fo s4 Z4 (gf+32)).bind fun aY=>some (.cB ((IntKind.wrap .i64 (i3+1)),aY))
   else
    some (.cB ((IntKind.wrap .i64 (i3+1)),s4)))
  else
   some (.eg s4))
def jC (F:Nat) (s1:List UInt8):Option ((List UInt8)):=
 ((iter (eO s1) F (0,s1)).bind fun Ju=>
 match Ju with
 | .inr gh=>
   (sub gh 0 (s1.length:Int)).bind fun nu=>some nu
 | .inl _=>none)
theorem xH {s1:List UInt8} {i3:Int} {s4:List UInt8} {q5:Nat} {H0 H:AH} (hfr:Fr H0 H0.length [] H) (ai:H[q5]? =some (ml b8 s4)) (dZ:H0.length≤q5) {K:Exit→Env→AH→Prop} {t8:Bool}
 (h:hM s1 i3 s4=some t8)
 (kn:∀H':AH,Fr H0 H0.length [] H'→H'[q5]? =some (ml b8 s4)→K .normal [(3,(.cA q5 1 0 s1.length)),(4,(.int .i64 i3)),(24,(.bool t8))] H'):
 AX Tryz.prog pg 35 H0.length (erase qB) K [(3,(.cA q5 1 0 s1.length)),(4,(.int .i64 i3))] H:=by
 refine b7 fun K' hK=> ?_
 have hle:=hfr.le
 have aM:=aQ ai
 rw [hM.eq_1] at h
 obtain ⟨j6,hy2,h⟩:=aq h
 obtain ⟨x7,hy3,h⟩:=aq h
 refine az (aI hy2 (aI hy3 ai)) ?_
 refine bV h (fun hy4 h=> ?_) fun hy4 h=> ?_
 · refine az (aI hy4 (aI hy2 (aI hy3 ai))) ?_
   obtain rfl:=aB h
   exact hK _ _ _ _ _ aJ ak (kn _ hfr (ai.trans rfl))
 · refine az (aI hy4 ai) ?_
   obtain rfl:=aB h
   exact hK _ _ _ _ _ aJ ak (kn _ hfr (ai.trans rfl))
theorem xI {F:Nat} {i3:Int} {s1:List UInt8} {s4:List UInt8} {q2:Nat} {H0 H:AH} (hfr:Fr H0 H0.length [] H) (ai:H[q2]? =some (ml b8 s4)) (dZ:H0.length≤q2) {K:Exit→Env→AH→Prop} {o:((List UInt8))⊕((List UInt8))}
 (h:iter (eO s1) F (i3,s4)=some o)
 (dD:∀o':(List UInt8),o= .inr o'→∀H':AH,Fr H0 H0.length [] H'→H'[q2]? =some (ml b8 o')→K (.exit 0) [(3,(.cA q2 1 0 s1.length))] H'):
 AX Tryz.prog pg 35 H0.length (.loop (erase o6)) K [(3,(.cA q2 1 0 s1.length)),(4,(.int .i64 i3))] H:=by
 refine iY (fun s e H1=>match s with|(i3,s4)=>e=[(3,(.cA q2 1 0 s1.length)),(4,(.int .i64 i3))]∧Fr H0 H0.length [] H1∧H1[q2]? =some (ml b8 s4)) h ⟨rfl,hfr,ai⟩ ?_
 rintro K' ⟨i3,s4⟩ st e H ⟨rfl,hfr,ai⟩ h hN hB hR hX
 have hle:=hfr.le
 have aM:=aQ ai
 rw [eO.eq_1] at h
 refine az ai ?_
 refine bn h (fun hy1 h=> ?_) fun hy1 h=> ?_
 · refine az ai ?_
   obtain ⟨t9,bM,h⟩:=aq h
   refine bB ak (xH (q5:=q2) hfr (ai.trans rfl) ct bM ?_)
   intro H hfr ai
   have hle:=hfr.le
   have aM:=aQ ai
   refine az ai ?_
   refine bn h (fun cc h=> ?_) fun cc h=> ?_
   · obtain ⟨Z4,cO,h⟩:=aq h
     obtain ⟨gf,cC,h⟩:=aq h
     obtain ⟨aY,cX,h⟩:=aq h
     refine az (aI cO (aI cC (aI cO (aI cX ai)))) ?_
     obtain rfl:=aB h
     exact hN _ rfl _ _ _ _ aJ ak ⟨rfl,(cj _ hfr),cD⟩
   · refine az ai ?_
     obtain rfl:=aB h
     exact hN _ rfl _ _ _ _ aJ ak ⟨rfl,hfr,(ai.trans rfl)⟩
 · refine az ai ?_
   obtain rfl:=aB h
   exact hX _ _ _ _ _ dB aJ ak (dD _ (hB _ rfl) _ hfr (ai.trans rfl))
theorem uK {F:Nat} {s1:List UInt8} {H0:AH} {aP:List UInt8} (h:jC F s1=some aP):
 aF Tryz.prog 27 [(.str s1)] H0 fun v H'=>v=(.str aP)∧H'=H0:=by
 refine nk Dm pg [] fun hcl K0 aN H hH hfr=> ?_
 clear hH
 have hle:=hfr.le
 rw [jC.eq_1] at h
 refine ei ?_
 obtain ⟨q2,kU⟩:∃q:Nat,H.length=q:=⟨_,rfl⟩
 try rw [kU]
 obtain ⟨Ju,cx,h⟩:=aq h
 refine bB ak (xI (q2:=q2) (Fr.app hfr) uR ct cx ?_)
 · rintro gh rfl H hfr ai
   try dsimp only at h ai
   have hle:=hfr.le
   have aM:=aQ ai
   refine ei ?_
   obtain ⟨nu,cJ,h⟩:=aq h
   refine az (aI cJ ai) ?_
   obtain rfl:=aB h
   exact aN _ _ _ bk (aV hfr hcl (aX bf (.str nu)) bg aZ ⟨rfl,rfl⟩)
abbrev qC:av:=(.seq (.seq (.rg [(au 6 4),(au 7 3),(aj 8 (.len (.t 7))),(aj 9 (.bin .lss (.t 6) (.t 8)))]) (.cond (.t 9) .skip (.exit 0))) (.seq (.blk 1 (.seq (.rg [(au 12 3),(au 13 4),(aj 14 (.wI 1 (.t 12) (.t 13))),(aj 15 (.ld (.t 14) none)),(au 16 0),(aj 17 (.bin .eql (.t 15) (.t 16)))]) (.cond (.t 17) (.seq (.rg [(au 18 4),(aR 2 18)]) .ret) .skip))) (.rg [(au 10 4),(aj 11 (.bin .add (.t 10) (.c (.int .i64 1)))),(aR 4 11)])))
abbrev ER:av:=(.seq (.rg [(aj 2 (.aO (.c (.int .i64 0))))]) (.seq (.rg [(aj 5 (.ve 1 [(.c (.str [])),(.c (.str [104,101,108,111])),(.c (.str [101,104,108,111])),(.c (.str [109,97,105,108])),(.c (.str [114,99,112,116])),(.c (.str [100,97,116,97])),(.c (.str [114,115,101,116])),(.c (.str [110,111,111,112])),(.c (.str [113,117,105,116])),(.c (.str [118,114,102,121]))])),(aR 3 5)]) (.seq (.seq (.rg [(aj 4 (.aO (.c (.int .i64 1))))]) (.blk 0 (.loop (erase qC)))) (.seq (.rg [(aj 2 (.aO (.c (.int .i64 0))))]) .ret))))
theorem ES:bQ Tryz.prog 26 19 [(.tmp 2)] (erase ER):=⟨Tryz.f26,_,rfl,by decide,rfl,by kernel_rfl,rfl,rfl⟩
abbrev xh:List Nat:=[0,2,3,4,9,17]
def gw (w1:List UInt8):(Int×Int)→Option (St Int Unit (Int×Int))
 |(t2,i3)=>
  (if (decide (i3<((10:Nat):Int))) then
   (idx ([([]:List UInt8),([104,101,108,111]:List UInt8),([101,104,108,111]:List UInt8),([109,97,105,108]:List UInt8),([114,99,112,116]:List UInt8),([100,97,116,97]:List UInt8),([114,115,101,116]:List UInt8),([110,111,111,112]:List UInt8),([113,117,105,116]:List UInt8),([118,114,102,121]:List UInt8)]:List (List UInt8)) i3).bind fun x4=>
   (if (decide (x4=w1)) then
    some (.ret i3)
   else
    some (.cB (t2,(IntKind.wrap .i64 (i3+1)))))
  else
   some (.eg ()))
def mW (F:Nat) (w1:List UInt8):Option (Int):=
 ((iter (gw w1) F (0,1)).bind fun o7=>
 match o7 with
 | .inr ()=>
   some 0
 | .inl r6=>
   some r6)
theorem zz {F:Nat} {i3:Int} {w1:List UInt8} {t2:Int} {H:AH} {K:Exit→Env→AH→Prop} {o:(Int)⊕(Unit)}
 (h:iter (gw w1) F (t2,i3)=some o)
 (dD:∀o':Unit,o= .inr o'→K (.exit 0) [] H)
 (kr:∀o':Int,o= .inl o'→K .ret [(2,(.int .i64 o'))] H):
 AX Tryz.prog xh 19 H.length (.loop (erase qC)) K [(0,(.str w1)),(2,(.int .i64 t2)),(3,(.sl .ex 1 [(.str ([]:List UInt8)),(.str ([104,101,108,111]:List UInt8)),(.str ([101,104,108,111]:List UInt8)),(.str ([109,97,105,108]:List UInt8)),(.str ([114,99,112,116]:List UInt8)),(.str ([100,97,116,97]:List UInt8)),(.str ([114,115,101,116]:List UInt8)),(.str ([110,111,111,112]:List UInt8)),(.str ([113,117,105,116]:List UInt8)),(.str ([118,114,102,121]:List UInt8))])),(4,(.int .i64 i3))] H:=by
 refine iY (fun s e H1=>match s with|(t2,i3)=>e=[(0,(.str w1)),(2,(.int .i64 t2)),(3,(.sl .ex 1 [(.str ([]:List UInt8)),(.str ([104,101,108,111]:List UInt8)),(.str ([101,104,108,111]:List UInt8)),(.str ([109,97,105,108]:List UInt8)),(.str ([114,99,112,116]:List UInt8)),(.str ([100,97,116,97]:List UInt8)),(.str ([114,115,101,116]:List UInt8)),(.str ([110,111,111,112]:List UInt8)),(.str ([113,117,105,116]:List UInt8)),(.str ([118,114,102,121]:List UInt8))])),(4,(.int .i64 i3))]∧H1=H) h ⟨rfl,rfl⟩ ?_
 rintro K' ⟨t2,i3⟩ st e H ⟨rfl,rfl⟩ h hN hB hR hX
 rw [gw.eq_1] at h
 refine aD ?_
 refine bn h (fun hy1 h=> ?_) fun hy1 h=> ?_
 · obtain ⟨x4,hy2,h⟩:=aq h
   have hy3:idx [(.str ([]:List UInt8)),(.str ([104,101,108,111]:List UInt8)),(.str ([101,104,108,111]:List UInt8)),(.str ([109,97,105,108]:List UInt8)),(.str ([114,99,112,116]:List UInt8)),(.str ([100,97,116,97]:List UInt8)),(.str ([114,115,101,116]:List UInt8)),(.str ([110,111,111,112]:List UInt8)),(.str ([113,117,105,116]:List UInt8)),(.str ([118,114,102,121]:List UInt8))] i3=some (AV.str x4):=ZU (f:=AV.str) hy2
   refine aW hy3 ?_
   refine bn h (fun hy4 h=> ?_) fun hy4 h=> ?_
   · refine aD ?_
     obtain rfl:=aB h
     exact hX _ _ _ _ _ dB aJ ak (kr _ (hR _ rfl))
   · refine aD ?_
     obtain rfl:=aB h
     exact hN _ rfl _ _ _ _ aJ ak ⟨rfl,rfl⟩
 · refine aD ?_
   obtain rfl:=aB h
   exact hX _ _ _ _ _ dB WE.nil ak (dD _ (hB _ rfl))
theorem Dn {F:Nat} {w1:List UInt8} {H0:AH} {aP:Int} (h:mW F w1=some aP):
 aF Tryz.prog 26 [(.str w1)] H0 fun v H'=>v=(.int .i64 aP)∧H'=H0:=by
 refine fL ES xh fun hcl K0 aN=> ?_
 rw [mW.eq_1] at h
 refine aD ?_
 obtain ⟨o7,bM,h⟩:=aq h
 refine bB ak (zz bM ?_ ?_)
 · rintro ⟨⟩ rfl
   try dsimp only at h
   refine aD ?_
   obtain rfl:=aB h
   exact aN _ _ _ bk (aK hcl (aX bf (.int .i64 0)) bg aZ ⟨rfl,rfl⟩)
 · rintro r6 rfl
   try dsimp only at h
   refine aD ?_
   obtain rfl:=aB h
   exact aN _ _ _ bk (aK hcl (aX bf (.int .i64 r6)) bg aZ ⟨rfl,rfl⟩)
abbrev qD:av:=(.rg [(au 3 0),(aj 4 (.bin .geq (.t 3) (.c (b8 48)))),(au 5 4),(ay 6 (.mv (.t 0)) 5 true),(ay 7 (.bin .leq (.t 6) (.c (b8 57))) 5 true),(aj 8 (.pick (.t 5) (.t 7) (.c (.bool false)))),(aR 2 8)])
abbrev Dp:av:=(.seq (.rg [(aj 2 (.aO (.c (.bool false))))]) (.seq (.sem (erase qD)) .ret))
theorem Dq:bQ Tryz.prog 74 9 [(.tmp 2)] (erase Dp):=⟨Tryz.f74,_,rfl,by decide,rfl,by kernel_rfl,rfl,rfl⟩
abbrev vZ:List Nat:=[0,2]
def fe (c1:UInt8):Option (Bool):=
 some ((decide (48≤c1))&&(decide (c1≤57)))
theorem xJ {c1:UInt8} {H:AH} {K:Exit→Env→AH→Prop}
 (kn:K .normal [(2,(.bool ((decide (48≤c1))&&(decide (c1≤57)))))] H):
 AX Tryz.prog vZ 9 H.length (erase qD) K [(0,(b8 c1)),(2,(.bool false))] H:=by
 refine b7 fun K' hK=> ?_
 refine aD ?_
 refine nj (fun hy1=> ?_) fun hy1=> ?_
 · refine aW hy1 ?_
   exact hK _ _ _ _ _ (fI hy1) ak kn
 · refine aW hy1 ?_
   exact hK _ _ _ _ _ (fI hy1) ak kn
theorem hO {c1:UInt8} {H0:AH} {aP:Bool} (h:fe c1=some aP):
 aF Tryz.prog 74 [(b8 c1)] H0 fun v H'=>v=(.bool aP)∧H'=H0:=by
 refine fL Dq vZ fun hcl K0 aN=> ?_
 rw [fe.eq_1] at h
 refine aD ?_
 refine bB ak (xJ (c1:=c1) ?_)
 refine aD ?_
 obtain rfl:=aB h
 exact aN _ _ _ bk (aK hcl (aX bf (.bool ((decide (48≤c1))&&(decide (c1≤57))))) bg aZ ⟨rfl,rfl⟩)
abbrev qE:av:=(.rg [(au 5 0),(aj 6 (.bin .eql (.t 5) (.c (.str [])))),(au 7 6),(ay 8 (.mv (.t 0)) 7 false),(ay 9 (.lens (.t 8)) 7 false),(ay 10 (.bin .gtr (.t 9) (.c (.int .i64 3))) 7 false),(aj 11 (.pick (.t 7) (.c (.bool true)) (.t 10))),(au 12 11),(ay 13 (.mv (.t 0)) 12 false),(ay 14 (.ixs (.t 13) (.c (.int .i64 0))) 12 false),(ay 15 (.bin .eql (.t 14) (.c (b8 48))) 12 false),(ay 16 (.mv (.t 15)) 12 false),(ay 17 (.mv (.t 0)) 16 true),(ay 18 (.lens (.t 17)) 16 true),(ay 19 (.bin .gtr (.t 18) (.c (.int .i64 1))) 16 true),(ay 20 (.pick (.t 16) (.t 19) (.c (.bool false))) 12 false),(aj 21 (.pick (.t 12) (.c (.bool true)) (.t 20)))])
abbrev pn:av:=(.seq (.seq (.rg [(au 22 4),(au 23 0),(aj 24 (.lens (.t 23))),(aj 25 (.bin .lss (.t 22) (.t 24)))]) (.cond (.t 25) .skip (.exit 0))) (.seq (.blk 1 (.seq (.seq (.rg [(au 28 0),(au 29 4),(aj 30 (.ixs (.t 28) (.t 29))),(aj 31 (.call (.c (.fn 74 [])) [(.t 30)])),(aj 32 (.un .not (.t 31)))]) (.cond (.t 32) (.seq (.rg [(aj 2 (.aO (.c (.bool false))))]) .ret) .skip)) (.rg [(au 33 3),(aj 34 (.bin .mul (.c (.int .i64 10)) (.t 33))),(au 35 0),(au 36 4),(aj 37 (.ixs (.t 35) (.t 36))),(aj 38 (.bin .sub (.t 37) (.c (b8 48)))),(aj 39 (.mj (.int .i64) (.t 38))),(aj 40 (.bin .add (.t 34) (.t 39))),(aR 3 40)]))) (.rg [(au 26 4),(aj 27 (.bin .add (.t 26) (.c (.int .i64 1)))),(aR 4 27)])))
abbrev Dr:av:=(.seq (.rg [(aj 2 (.aO (.c (.bool false))))]) (.seq (.seq (.sem (erase qE)) (.cond (.t 21) (.seq (.rg [(aj 2 (.aO (.c (.bool false))))]) .ret) .skip)) (.seq (.rg [(aj 3 (.aO (.c (.int .i64 0))))]) (.seq (.seq (.rg [(aj 4 (.aO (.c (.int .i64 0))))]) (.blk 0 (.loop (erase pn)))) (.seq (.rg [(au 41 3),(aj 42 (.bin .leq (.t 41) (.c (.int .i64 255)))),(aR 2 42)]) .ret)))))
theorem Ds:bQ Tryz.prog 48 43 [(.tmp 2)] (erase Dr):=⟨Tryz.f48,_,rfl,by decide,rfl,by kernel_rfl,rfl,rfl⟩
abbrev pz:List Nat:=[0,2,3,4,21,25,32]
def eP (s1:List UInt8):Option (Bool):=
 (if (decide (s1=([]:List UInt8))) then
  some true
 else
  (if (decide (3<(s1.length:Int))) then
   some true
  else
   (idx s1 0).bind fun x2=>
   (if (decide (x2=48)) then
    some (decide (1<(s1.length:Int)))
   else
    some false)))
def fN (s1:List UInt8):(Int×Int)→Option (St Bool Int (Int×Int))
 |(JI,i6)=>
  (if (decide (i6<(s1.length:Int))) then
   (idx s1 i6).bind fun x7=>
   (fe x7).bind fun r8=>
   (if (!r8) then
    some (.ret false)
   else
    some (.cB ((IntKind.wrap .i64 ((IntKind.wrap .i64 (10*JI))+(IntKind.wrap .i64 ((x7 - 48).toNat:Int)))),(IntKind.wrap .i64 (i6+1)))))
  else
   some (.eg JI))
def eG (F:Nat) (s1:List UInt8):Option (Bool):=
 (eP s1).bind fun t4=>
 (if t4 then
  some false
 else
  ((iter (fN s1) F (0,0)).bind fun T5=>
  match T5 with
  | .inr sR=>
    some (decide (sR≤255))
  | .inl iM=>
    some iM))
theorem xK {s1:List UInt8} {H:AH} {K:Exit→Env→AH→Prop} {t3:Bool}
 (h:eP s1=some t3)
 (kn:K .normal [(0,(.str s1)),(21,(.bool t3))] H):
 AX Tryz.prog pz 43 H.length (erase qE) K [(0,(.str s1))] H:=by
 refine b7 fun K' hK=> ?_
 rw [eP.eq_1] at h
 refine aD ?_
 refine bV h (fun hy1 h=> ?_) fun hy1 h=> ?_
 · refine aW hy1 ?_
   obtain rfl:=aB h
   exact hK _ _ _ _ _ aJ ak kn
 · refine aW hy1 ?_
   refine bV h (fun hy2 h=> ?_) fun hy2 h=> ?_
   · refine aW hy2 ?_
     obtain rfl:=aB h
     exact hK _ _ _ _ _ aJ ak kn
   · obtain ⟨x2,hy3,h⟩:=aq h
     refine aW (aI hy2 hy3) ?_
     refine bV h (fun hy4 h=> ?_) fun hy4 h=> ?_
     · refine aW hy4 ?_
       obtain rfl:=aB h
       exact hK _ _ _ _ _ aJ ak kn
     · refine aW hy4 ?_
       obtain rfl:=aB h
       exact hK _ _ _ _ _ aJ ak kn
theorem xL {F:Nat} {i6:Int} {s1:List UInt8} {JI:Int} {H:AH} {K:Exit→Env→AH→Prop} {o:(Bool)⊕(Int)}
 (h:iter (fN s1) F (JI,i6)=some o)
 (dD:∀o':Int,o= .inr o'→K (.exit 0) [(3,(.int .i64 o'))] H)
 (kr:∀o':Bool,o= .inl o'→K .ret [(2,(.bool o'))] H):
 AX Tryz.prog pz 43 H.length (.loop (erase pn)) K [(0,(.str s1)),(3,(.int .i64 JI)),(4,(.int .i64 i6))] H:=by
 refine iY (fun s e H1=>match s with|(JI,i6)=>e=[(0,(.str s1)),(3,(.int .i64 JI)),(4,(.int .i64 i6))]∧H1=H) h ⟨rfl,rfl⟩ ?_
 rintro K' ⟨JI,i6⟩ st e H ⟨rfl,rfl⟩ h hN hB hR hX
 rw [fN.eq_1] at h
 refine aD ?_
 refine bn h (fun cO h=> ?_) fun cO h=> ?_
 · obtain ⟨x7,cC,h⟩:=aq h
   refine aW cC ?_
   obtain ⟨r8,cX,h⟩:=aq h
   refine bE ak (hO cX) ?_
   refine aD ?_
   refine bn h (fun cx h=> ?_) fun cx h=> ?_
   · refine aD ?_
     obtain rfl:=aB h
     exact hX _ _ _ _ _ dB aJ ak (kr _ (hR _ rfl))
   · refine aW cC ?_
     obtain rfl:=aB h
     exact hN _ rfl _ _ _ _ aJ ak ⟨rfl,rfl⟩
 · refine aD ?_
   obtain rfl:=aB h
   exact hX _ _ _ _ _ dB aJ ak (dD _ (hB _ rfl))
theorem BV {F:Nat} {s1:List UInt8} {H0:AH} {aP:Bool} (h:eG F s1=some aP):
 aF Tryz.prog 48 [(.str s1)] H0 fun v H'=>v=(.bool aP)∧H'=H0:=by
 refine fL Ds pz fun hcl K0 aN=> ?_
 rw [eG.eq_1] at h
 refine aD ?_
 obtain ⟨t4,bM,h⟩:=aq h
 refine bB ak (xK bM ?_)
 refine aD ?_
 refine bn h (fun cc h=> ?_) fun cc h=> ?_
 · refine aD ?_
   obtain rfl:=aB h
   exact aN _ _ _ bk (aK hcl (aX bf (.bool false)) bg aZ ⟨rfl,rfl⟩)
 · refine aD ?_
   obtain ⟨T5,cJ,h⟩:=aq h
   refine bB ak (xL cJ ?_ ?_)
   · rintro sR rfl
     try dsimp only at h
     refine aD ?_
     obtain rfl:=aB h
     exact aN _ _ _ bk (aK hcl (aX bf (.bool (decide (sR≤255)))) bg aZ ⟨rfl,rfl⟩)
   · rintro iM rfl
     try dsimp only at h
     refine aD ?_
     obtain rfl:=aB h
     exact aN _ _ _ bk (aK hcl (aX bf (.bool iM)) bg aZ ⟨rfl,rfl⟩)
abbrev pE:av:=(.rg [(au 3 0),(aj 4 (.bin .geq (.t 3) (.c (b8 65)))),(au 5 4),(ay 6 (.mv (.t 0)) 5 true),(ay 7 (.bin .leq (.t 6) (.c (b8 90))) 5 true),(aj 8 (.pick (.t 5) (.t 7) (.c (.bool false)))),(au 9 8),(ay 10 (.mv (.t 0)) 9 false),(ay 11 (.bin .geq (.t 10) (.c (b8 97))) 9 false),(ay 12 (.mv (.t 11)) 9 false),(ay 13 (.mv (.t 0)) 12 true),(ay 14 (.bin .leq (.t 13) (.c (b8 122))) 12 true),(ay 15 (.pick (.t 12) (.t 14) (.c (.bool false))) 9 false),(aj 16 (.pick (.t 9) (.c (.bool true)) (.t 15))),(aR 2 16)])
abbrev BW:av:=(.seq (.rg [(aj 2 (.aO (.c (.bool false))))]) (.seq (.sem (erase pE)) .ret))
theorem BX:bQ Tryz.prog 75 17 [(.tmp 2)] (erase BW):=⟨Tryz.f75,_,rfl,by decide,rfl,by kernel_rfl,rfl,rfl⟩
abbrev uL:List Nat:=[0,2]
def fm (c1:UInt8):Option (Bool):=
 some (((decide (65≤c1))&&(decide (c1≤90)))||((decide (97≤c1))&&(decide (c1≤122))))
theorem wP {c1:UInt8} {H:AH} {K:Exit→Env→AH→Prop}
 (kn:K .normal [(2,(.bool (((decide (65≤c1))&&(decide (c1≤90)))||((decide (97≤c1))&&(decide (c1≤122))))))] H):
 AX Tryz.prog uL 17 H.length (erase pE) K [(0,(b8 c1)),(2,(.bool false))] H:=by
 refine b7 fun K' hK=> ?_
 refine aD ?_
 refine nj (fun hy1=> ?_) fun hy1=> ?_
 · refine aW hy1 ?_
   refine nj (fun hy2=> ?_) fun hy2=> ?_
   · refine aW hy2 ?_
     exact hK _ _ _ _ _ (fI (aI hy1 hy2)) ak kn
   · refine aW hy2 ?_
     refine nj (fun hy3=> ?_) fun hy3=> ?_
     · refine aW hy3 ?_
       exact hK _ _ _ _ _ (fI (aI hy1 (aI hy2 hy3))) ak kn
     · refine aW hy3 ?_
       exact hK _ _ _ _ _ (fI (aI hy1 (aI hy2 hy3))) ak kn
 · refine aW hy1 ?_
   refine nj (fun hy4=> ?_) fun hy4=> ?_
   · refine aW hy4 ?_
     exact hK _ _ _ _ _ (fI (aI hy1 hy4)) ak kn
   · refine aW hy4 ?_
     exact hK _ _ _ _ _ (fI (aI hy1 hy4)) ak kn
theorem jD {c1:UInt8} {H0:AH} {aP:Bool} (h:fm c1=some aP):
 aF Tryz.prog 75 [(b8 c1)] H0 fun v H'=>v=(.bool aP)∧H'=H0:=by
 refine fL BX uL fun hcl K0 aN=> ?_
 rw [fm.eq_1] at h
 refine aD ?_
 refine bB ak (wP (c1:=c1) ?_)
 refine aD ?_
 obtain rfl:=aB h
 exact aN _ _ _ bk (aK hcl (aX bf (.bool (((decide (65≤c1))&&(decide (c1≤90)))||((decide (97≤c1))&&(decide (c1≤122)))))) bg aZ ⟨rfl,rfl⟩)
abbrev qF:av:=(.rg [(au 4 0),(aj 5 (.bin .eql (.t 4) (.c (.str [])))),(au 6 5),(ay 7 (.mv (.t 0)) 6 false),(ay 8 (.lens (.t 7)) 6 false),(ay 9 (.bin .gtr (.t 8) (.c (.int .i64 63))) 6 false),(aj 10 (.pick (.t 6) (.c (.bool true)) (.t 9))),(au 11 10),(ay 12 (.mv (.t 0)) 11 false),(ay 13 (.ixs (.t 12) (.c (.int .i64 0))) 11 false),(ay 14 (.bin .eql (.t 13) (.c (b8 45))) 11 false),(aj 15 (.pick (.t 11) (.c (.bool true)) (.t 14))),(au 16 15),(ay 17 (.mv (.t 0)) 16 false),(ay 18 (.mv (.t 0)) 16 false),(ay 19 (.lens (.t 18)) 16 false),(ay 20 (.bin .sub (.t 19) (.c (.int .i64 1))) 16 false),(ay 21 (.ixs (.t 17) (.t 20)) 16 false),(ay 22 (.bin .eql (.t 21) (.c (b8 45))) 16 false),(aj 23 (.pick (.t 16) (.c (.bool true)) (.t 22)))])
abbrev qG:av:=(.rg [(au 30 0),(au 31 3),(aj 32 (.ixs (.t 30) (.t 31))),(aj 33 (.call (.c (.fn 75 [])) [(.t 32)])),(aj 34 (.un .not (.t 33))),(au 35 34),(ay 36 (.mv (.t 0)) 35 true),(ay 37 (.mv (.t 3)) 35 true),(ay 38 (.ixs (.t 36) (.t 37)) 35 true),(ay 39 (.call (.c (.fn 74 [])) [(.t 38)]) 35 true),(ay 40 (.un .not (.t 39)) 35 true),(aj 41 (.pick (.t 35) (.t 40) (.c (.bool false)))),(au 42 41),(ay 43 (.mv (.t 0)) 42 true),(ay 44 (.mv (.t 3)) 42 true),(ay 45 (.ixs (.t 43) (.t 44)) 42 true),(ay 46 (.bin .neq (.t 45) (.c (b8 45))) 42 true),(aj 47 (.pick (.t 42) (.t 46) (.c (.bool false))))])
abbrev pF:av:=(.seq (.seq (.rg [(au 24 3),(au 25 0),(aj 26 (.lens (.t 25))),(aj 27 (.bin .lss (.t 24) (.t 26)))]) (.cond (.t 27) .skip (.exit 0))) (.seq (.blk 1 (.seq (.sem (erase qG)) (.cond (.t 47) (.seq (.rg [(aj 2 (.aO (.c (.bool false))))]) .ret) .skip))) (.rg [(au 28 3),(aj 29 (.bin .add (.t 28) (.c (.int .i64 1)))),(aR 3 29)])))
abbrev Dt:av:=(.seq (.rg [(aj 2 (.aO (.c (.bool false))))]) (.seq (.seq (.sem (erase qF)) (.cond (.t 23) (.seq (.rg [(aj 2 (.aO (.c (.bool false))))]) .ret) .skip)) (.seq (.seq (.rg [(aj 3 (.aO (.c (.int .i64 0))))]) (.blk 0 (.loop (erase pF)))) (.seq (.rg [(aj 2 (.aO (.c (.bool true))))]) .ret))))
theorem Du:bQ Tryz.prog 49 48 [(.tmp 2)] (erase Dt):=⟨Tryz.f49,_,rfl,by decide,rfl,by kernel_rfl,rfl,rfl⟩
abbrev lM:List Nat:=[0,2,3,23,27,47]
def kH (s1:List UInt8):Option (Bool):=
 (if (decide (s1=([]:List UInt8))) then
  some true
 else
  (if (decide (63<(s1.length:Int))) then
   some true
  else
   (idx s1 0).bind fun x2=>
   (if (decide (x2=45)) then
    some true
   else
    (idx s1 (IntKind.wrap .i64 ((s1.length:Int) - 1))).bind fun x3=>some (decide (x3=45)))))
def ia (s1:List UInt8) (i6:Int):Option (Bool):=
 (idx s1 i6).bind fun x7=>
 (fm x7).bind fun r8=>
 (if (!r8) then
  (fe x7).bind fun r9=>(if (!r9) then
   some (!decide (x7=45))
  else
   some false)
 else
  some false)
def eR (s1:List UInt8):Int→Option (St Bool Unit Int)
 |i6=>
  (if (decide (i6<(s1.length:Int))) then
   (ia s1 i6).bind fun t11=>
   (if t11 then
    some (.ret false)
   else
    some (.cB (IntKind.wrap .i64 (i6+1))))
  else
   some (.eg ()))
def lN (F:Nat) (s1:List UInt8):Option (Bool):=
 (kH s1).bind fun t5=>
 (if t5 then
  some false
 else
  ((iter (eR s1) F 0).bind fun o14=>
  match o14 with
  | .inr ()=>
    some true
  | .inl mb=>
    some mb))
theorem xM {s1:List UInt8} {H:AH} {K:Exit→Env→AH→Prop} {t4:Bool}
 (h:kH s1=some t4)
 (kn:K .normal [(0,(.str s1)),(23,(.bool t4))] H):
 AX Tryz.prog lM 48 H.length (erase qF) K [(0,(.str s1))] H:=by
 refine b7 fun K' hK=> ?_
 rw [kH.eq_1] at h
 refine aD ?_
 refine bV h (fun hy1 h=> ?_) fun hy1 h=> ?_
 · refine aW hy1 ?_
   obtain rfl:=aB h
   exact hK _ _ _ _ _ aJ ak kn
 · refine aW hy1 ?_
   refine bV h (fun hy2 h=> ?_) fun hy2 h=> ?_
   · refine aW hy2 ?_
     obtain rfl:=aB h
     exact hK _ _ _ _ _ aJ ak kn
   · obtain ⟨x2,hy3,h⟩:=aq h
     refine aW (aI hy2 hy3) ?_
     refine bV h (fun hy4 h=> ?_) fun hy4 h=> ?_
     · refine aW hy4 ?_
       obtain rfl:=aB h
       exact hK _ _ _ _ _ aJ ak kn
     · obtain ⟨x3,bM,h⟩:=aq h
       refine aW (aI hy4 bM) ?_
       obtain rfl:=aB h
       exact hK _ _ _ _ _ aJ ak kn
theorem xN {s1:List UInt8} {i6:Int} {H:AH} {K:Exit→Env→AH→Prop} {t10:Bool}
 (h:ia s1 i6=some t10)
 (kn:K .normal [(0,(.str s1)),(3,(.int .i64 i6)),(47,(.bool t10))] H):
 AX Tryz.prog lM 48 H.length (erase qG) K [(0,(.str s1)),(3,(.int .i64 i6))] H:=by
 refine b7 fun K' hK=> ?_
 rw [ia.eq_1] at h
 obtain ⟨x7,cX,h⟩:=aq h
 refine aW cX ?_
 obtain ⟨r8,cx,h⟩:=aq h
 refine bE ak (jD cx) ?_
 refine aD ?_
 refine bV h (fun cJ h=> ?_) fun cJ h=> ?_
 · refine aW (aI cJ cX) ?_
   obtain ⟨r9,cV,h⟩:=aq h
   refine bE ak (hO cV) ?_
   refine aD ?_
   refine bV h (fun cS h=> ?_) fun cS h=> ?_
   · refine aW (aI cS cX) ?_
     obtain rfl:=aB h
     exact hK _ _ _ _ _ aJ ak kn
   · refine aW cS ?_
     obtain rfl:=aB h
     exact hK _ _ _ _ _ aJ ak kn
 · refine aW cJ ?_
   obtain rfl:=aB h
   exact hK _ _ _ _ _ aJ ak kn
theorem xO {F:Nat} {i6:Int} {s1:List UInt8} {H:AH} {K:Exit→Env→AH→Prop} {o:(Bool)⊕(Unit)}
 (h:iter (eR s1) F i6=some o)
 (dD:∀o':Unit,o= .inr o'→K (.exit 0) [] H)
 (kr:∀o':Bool,o= .inl o'→K .ret [(2,(.bool o'))] H):
 AX Tryz.prog lM 48 H.length (.loop (erase pF)) K [(0,(.str s1)),(3,(.int .i64 i6))] H:=by
 refine iY (fun s e H1=>match s with|i6=>e=[(0,(.str s1)),(3,(.int .i64 i6))]∧H1=H) h ⟨rfl,rfl⟩ ?_
 rintro K' i6 st e H ⟨rfl,rfl⟩ h hN hB hR hX
 rw [eR.eq_1] at h
 refine aD ?_
 refine bn h (fun cC h=> ?_) fun cC h=> ?_
 · refine aD ?_
   obtain ⟨t11,eI,h⟩:=aq h
   refine bB ak (xN eI ?_)
   refine aD ?_
   refine bn h (fun fW h=> ?_) fun fW h=> ?_
   · refine aD ?_
     obtain rfl:=aB h
     exact hX _ _ _ _ _ dB aJ ak (kr _ (hR _ rfl))
   · refine aD ?_
     obtain rfl:=aB h
     exact hN _ rfl _ _ _ _ aJ ak ⟨rfl,rfl⟩
 · refine aD ?_
   obtain rfl:=aB h
   exact hX _ _ _ _ _ dB WE.nil ak (dD _ (hB _ rfl))
theorem BY {F:Nat} {s1:List UInt8} {H0:AH} {aP:Bool} (h:lN F s1=some aP):
 aF Tryz.prog 49 [(.str s1)] H0 fun v H'=>v=(.bool aP)∧H'=H0:=by
 refine fL Du lM fun hcl K0 aN=> ?_
 rw [lN.eq_1] at h
 refine aD ?_
 obtain ⟨t5,cc,h⟩:=aq h
 refine bB ak (xM cc ?_)
 refine aD ?_
 refine bn h (fun cO h=> ?_) fun cO h=> ?_
 · refine aD ?_
   obtain rfl:=aB h
   exact aN _ _ _ bk (aK hcl (aX bf (.bool false)) bg aZ ⟨rfl,rfl⟩)
 · refine aD ?_
   obtain ⟨o14,eM,h⟩:=aq h
   refine bB ak (xO eM ?_ ?_)
   · rintro ⟨⟩ rfl
     try dsimp only at h
     refine aD ?_
     obtain rfl:=aB h
     exact aN _ _ _ bk (aK hcl (aX bf (.bool true)) bg aZ ⟨rfl,rfl⟩)
   · rintro mb rfl
     try dsimp only at h
     refine aD ?_
     obtain rfl:=aB h
     exact aN _ _ _ bk (aK hcl (aX bf (.bool mb)) bg aZ ⟨rfl,rfl⟩)
abbrev pG:av:=(.rg [(au 7 0),(aj 8 (.bin .eql (.t 7) (.c (.str [])))),(au 9 8),(ay 10 (.mv (.t 0)) 9 false),(ay 11 (.lens (.t 10)) 9 false),(ay 12 (.bin .gtr (.t 11) (.c (.int .i64 255))) 9 false),(aj 13 (.pick (.t 9) (.c (.bool true)) (.t 12)))])
abbrev pH:av:=(.rg [(au 18 0),(au 19 0),(aj 20 (.lens (.t 19))),(aj 21 (.bin .sub (.t 20) (.c (.int .i64 1)))),(aj 22 (.ixs (.t 18) (.t 21))),(aj 23 (.bin .neq (.t 22) (.c (b8 93)))),(au 24 23),(ay 25 (.mv (.t 0)) 24 false),(ay 26 (.lens (.t 25)) 24 false),(ay 27 (.bin .lss (.t 26) (.c (.int .i64 2))) 24 false),(aj 28 (.pick (.t 24) (.c (.bool true)) (.t 27)))])
abbrev pI:av:=(.cond (.t 17) (.seq (.seq (.sem (erase pH)) (.cond (.t 28) (.seq (.rg [(aj 2 (.aO (.c (.bool false))))]) .ret) .skip)) (.rg [(au 29 0),(au 30 0),(aj 31 (.lens (.t 30))),(aj 32 (.bin .sub (.t 31) (.c (.int .i64 1)))),(aj 33 (.gT (.t 29) (some (.c (.int .i64 1))) (some (.t 32)))),(aR 0 33)])) .skip)
abbrev pJ:av:=(.rg [(au 40 6),(au 41 0),(aj 42 (.lens (.t 41))),(aj 43 (.bin .lss (.t 40) (.t 42))),(au 44 43),(ay 45 (.mv (.t 0)) 44 true),(ay 46 (.mv (.t 6)) 44 true),(ay 47 (.ixs (.t 45) (.t 46)) 44 true),(ay 48 (.bin .neq (.t 47) (.c (b8 46))) 44 true),(aj 49 (.pick (.t 44) (.t 48) (.c (.bool false))))])
abbrev pK:av:=(.rg [(au 50 3),(au 51 50),(ay 52 (.mv (.t 0)) 51 true),(ay 53 (.mv (.t 4)) 51 true),(ay 54 (.mv (.t 6)) 51 true),(ay 55 (.gT (.t 52) (some (.t 53)) (some (.t 54))) 51 true),(ay 56 (.call (.c (.fn 48 [])) [(.t 55)]) 51 true),(ay 57 (.un .not (.t 56)) 51 true),(aj 58 (.pick (.t 51) (.t 57) (.c (.bool false)))),(au 59 58),(ay 60 (.mv (.t 3)) 59 false),(ay 61 (.un .not (.t 60)) 59 false),(ay 62 (.mv (.t 61)) 59 false),(ay 63 (.mv (.t 0)) 62 true),(ay 64 (.mv (.t 4)) 62 true),(ay 65 (.mv (.t 6)) 62 true),(ay 66 (.gT (.t 63) (some (.t 64)) (some (.t 65))) 62 true),(ay 67 (.call (.c (.fn 49 [])) [(.t 66)]) 62 true),(ay 68 (.un .not (.t 67)) 62 true),(ay 69 (.pick (.t 62) (.t 68) (.c (.bool false))) 59 false),(aj 70 (.pick (.t 59) (.c (.bool true)) (.t 69)))])
abbrev nQ:av:=(.seq (.seq (.rg [(au 34 6),(au 35 0),(aj 36 (.lens (.t 35))),(aj 37 (.bin .leq (.t 34) (.t 36)))]) (.cond (.t 37) .skip (.exit 0))) (.seq (.blk 1 (.seq (.seq (.sem (erase pJ)) (.cond (.t 49) (.exit 1) .skip)) (.seq (.seq (.sem (erase pK)) (.cond (.t 70) (.seq (.rg [(aj 2 (.aO (.c (.bool false))))]) .ret) .skip)) (.seq (.rg [(au 71 5),(aj 72 (.bin .add (.t 71) (.c (.int .i64 1)))),(aR 5 72)]) (.rg [(au 73 6),(aj 74 (.bin .add (.t 73) (.c (.int .i64 1)))),(aR 4 74)]))))) (.rg [(au 38 6),(aj 39 (.bin .add (.t 38) (.c (.int .i64 1)))),(aR 6 39)])))
abbrev pL:av:=(.rg [(au 75 3),(aj 76 (.un .not (.t 75))),(au 77 76),(ay 78 (.mv (.t 5)) 77 false),(ay 79 (.bin .eql (.t 78) (.c (.int .i64 4))) 77 false),(aj 80 (.pick (.t 77) (.c (.bool true)) (.t 79))),(aR 2 80)])
abbrev BZ:av:=(.seq (.rg [(aj 2 (.aO (.c (.bool false))))]) (.seq (.seq (.sem (erase pG)) (.cond (.t 13) (.seq (.rg [(aj 2 (.aO (.c (.bool false))))]) .ret) .skip)) (.seq (.rg [(au 14 0),(aj 15 (.ixs (.t 14) (.c (.int .i64 0)))),(aj 16 (.bin .eql (.t 15) (.c (b8 91)))),(aR 3 16)]) (.seq (.seq (.rg [(au 17 3)]) (.sem (erase pI))) (.seq (.rg [(aj 4 (.aO (.c (.int .i64 0))))]) (.seq (.rg [(aj 5 (.aO (.c (.int .i64 0))))]) (.seq (.seq (.rg [(aj 6 (.aO (.c (.int .i64 0))))]) (.blk 0 (.loop (erase nQ)))) (.seq (.sem (erase pL)) .ret))))))))
theorem B0:bQ Tryz.prog 28 81 [(.tmp 2)] (erase BZ):=⟨Tryz.f28,_,rfl,by decide,rfl,by kernel_rfl,rfl,rfl⟩
abbrev ec:List Nat:=[0,2,3,4,5,6,13,17,28,37,49,70]
def jE (s1:List UInt8):Option (Bool):=
 (idx s1 (IntKind.wrap .i64 ((s1.length:Int) - 1))).bind fun x3=>
 (if (!decide (x3=93)) then
  some true
 else
  some (decide ((s1.length:Int)<2)))
def gx (x2:UInt8) (s1:List UInt8):Option (St Bool Unit (List UInt8)):=
 (if (decide (x2=91)) then
  (jE s1).bind fun t5=>
  (if t5 then
   some (.ret false)
  else
   (sub s1 1 (IntKind.wrap .i64 ((s1.length:Int) - 1))).bind fun x6=>some (.cB x6))
 else
  some (.cB s1))
def eC (i12:Int) (s9:List UInt8):Option (Bool):=
 (if (decide (i12<(s9.length:Int))) then
  (idx s9 i12).bind fun kj=>some (!decide (kj=46))
 else
  some false)
def gy (F:Nat) (x2:UInt8) (s9:List UInt8) (lO:Int) (i12:Int):Option (Bool):=
 (if (decide (x2=91)) then
  (sub s9 lO i12).bind fun j8=>
  (eG F j8).bind fun T4=>(if (!T4) then
   some true
  else
   some false)
 else
  (sub s9 lO i12).bind fun He=>(lN F He).bind fun Jx=>some (!Jx))
def cu (F:Nat) (s9:List UInt8) (x2:UInt8):(Int×Int×Int)→Option (St Bool Int (Int×Int×Int))
 |(lO,dV,i12)=>
  (if (decide (i12≤(s9.length:Int))) then
   (eC i12 s9).bind fun t15=>
   (if t15 then
    some (.cB (lO,dV,(IntKind.wrap .i64 (i12+1))))
   else
    (gy F x2 s9 lO i12).bind fun t21=>
    (if t21 then
     some (.ret false)
    else
     some (.cB ((IntKind.wrap .i64 (i12+1)),(IntKind.wrap .i64 (dV+1)),(IntKind.wrap .i64 (i12+1))))))
  else
   some (.eg dV))
def cW (F:Nat) (s1:List UInt8):Option (Bool):=
 (if ((decide (s1=([]:List UInt8)))||(decide (255<(s1.length:Int)))) then
  some false
 else
  (idx s1 0).bind fun x2=>
  ((gx x2 s1).bind fun T6=>
  match T6 with
  | .cB s9=>
    ((iter (cu F s9 x2) F (0,0,0)).bind fun T7=>
    match T7 with
    | .inr mX=>
      some ((!(decide (x2=91)))||(decide (mX=4)))
    | .inl Mu=>
      some Mu)
  | .ret Z5=>
    some Z5
  | .eg _=>none))
theorem wQ {s1:List UInt8} {H:AH} {K:Exit→Env→AH→Prop}
 (kn:K .normal [(0,(.str s1)),(13,(.bool ((decide (s1=([]:List UInt8)))||(decide (255<(s1.length:Int))))))] H):
 AX Tryz.prog ec 81 H.length (erase pG) K [(0,(.str s1))] H:=by
 refine b7 fun K' hK=> ?_
 refine aD ?_
 refine nj (fun hy1=> ?_) fun hy1=> ?_
 · refine aW hy1 ?_
   exact hK _ _ _ _ _ (fI hy1) ak kn
 · refine aW hy1 ?_
   exact hK _ _ _ _ _ (fI hy1) ak kn
theorem wR {s1:List UInt8} {x2:UInt8} {H:AH} {K:Exit→Env→AH→Prop} {t4:Bool}
 (h:jE s1=some t4)
 (kn:K .normal [(0,(.str s1)),(3,(.bool (decide (x2=91)))),(28,(.bool t4))] H):
 AX Tryz.prog ec 81 H.length (erase pH) K [(0,(.str s1)),(3,(.bool (decide (x2=91))))] H:=by
 refine b7 fun K' hK=> ?_
 rw [jE.eq_1] at h
 obtain ⟨x3,bM,h⟩:=aq h
 refine aW bM ?_
 refine bV h (fun cc h=> ?_) fun cc h=> ?_
 · refine aW cc ?_
   obtain rfl:=aB h
   exact hK _ _ _ _ _ aJ ak kn
 · refine aW cc ?_
   obtain rfl:=aB h
   exact hK _ _ _ _ _ aJ ak kn
theorem wS {x2:UInt8} {s1:List UInt8} {H:AH} {K:Exit→Env→AH→Prop} {o:St Bool Unit (List UInt8)}
 (h:gx x2 s1=some o)
 (kn:∀o':(List UInt8),o= .cB o'→K .normal [(0,(.str o')),(3,(.bool (decide (x2=91))))] H)
 (kr:∀o':Bool,o= .ret o'→K .ret [(2,(.bool o'))] H):
 AX Tryz.prog ec 81 H.length (erase pI) K [(0,(.str s1)),(3,(.bool (decide (x2=91)))),(17,(.bool (decide (x2=91))))] H:=by
 refine b7 fun K' hK=> ?_
 rw [gx.eq_1] at h
 refine aD ?_
 refine bn h (fun hy4 h=> ?_) fun hy4 h=> ?_
 · refine aD ?_
   obtain ⟨t5,cO,h⟩:=aq h
   refine bB ak (wR (x2:=x2) cO ?_)
   refine aD ?_
   refine bn h (fun cC h=> ?_) fun cC h=> ?_
   · refine aD ?_
     obtain rfl:=aB h
     exact hK _ _ _ _ _ aJ ak (kr _ rfl)
   · obtain ⟨x6,cX,h⟩:=aq h
     refine aW cX ?_
     obtain rfl:=aB h
     exact hK _ _ _ _ _ aJ ak (kn _ rfl)
 · refine aD ?_
   obtain rfl:=aB h
   exact hK _ _ _ _ _ aJ ak (kn _ rfl)
theorem wT {i12:Int} {s9:List UInt8} {x2:UInt8} {lO:Int} {dV:Int} {H:AH} {K:Exit→Env→AH→Prop} {t14:Bool}
 (h:eC i12 s9=some t14)
 (kn:K .normal [(0,(.str s9)),(3,(.bool (decide (x2=91)))),(4,(.int .i64 lO)),(5,(.int .i64 dV)),(6,(.int .i64 i12)),(49,(.bool t14))] H):
 AX Tryz.prog ec 81 H.length (erase pJ) K [(0,(.str s9)),(3,(.bool (decide (x2=91)))),(4,(.int .i64 lO)),(5,(.int .i64 dV)),(6,(.int .i64 i12))] H:=by
 refine b7 fun K' hK=> ?_
 rw [eC.eq_1] at h
 refine aD ?_
 refine bV h (fun cV h=> ?_) fun cV h=> ?_
 · obtain ⟨kj,cS,h⟩:=aq h
   refine aW (aI cV cS) ?_
   obtain rfl:=aB h
   exact hK _ _ _ _ _ aJ ak kn
 · refine aW cV ?_
   obtain rfl:=aB h
   exact hK _ _ _ _ _ aJ ak kn
theorem wU {F:Nat} {x2:UInt8} {s9:List UInt8} {lO:Int} {i12:Int} {dV:Int} {H:AH} {K:Exit→Env→AH→Prop} {t20:Bool}
 (h:gy F x2 s9 lO i12=some t20)
 (kn:K .normal [(0,(.str s9)),(3,(.bool (decide (x2=91)))),(5,(.int .i64 dV)),(6,(.int .i64 i12)),(70,(.bool t20))] H):
 AX Tryz.prog ec 81 H.length (erase pK) K [(0,(.str s9)),(3,(.bool (decide (x2=91)))),(4,(.int .i64 lO)),(5,(.int .i64 dV)),(6,(.int .i64 i12))] H:=by
 refine b7 fun K' hK=> ?_
 rw [gy.eq_1] at h
 refine aD ?_
 refine bV h (fun eM h=> ?_) fun eM h=> ?_
 · obtain ⟨j8,ko,h⟩:=aq h
   refine aW (aI eM ko) ?_
   obtain ⟨T4,jg,h⟩:=aq h
   refine bE ak (BV jg) ?_
   refine aD ?_
   refine bV h (fun gZ h=> ?_) fun gZ h=> ?_
   · refine aW gZ ?_
     obtain rfl:=aB h
     exact hK _ _ _ _ _ (fI (aI eM gZ)) ak kn
   · refine aW gZ ?_
     obtain rfl:=aB h
     exact hK _ _ _ _ _ (fI (aI eM gZ)) ak kn
 · obtain ⟨He,kq,h⟩:=aq h
   refine aW (aI eM kq) ?_
   obtain ⟨Jx,jh,h⟩:=aq h
   refine bE ak (BY jh) ?_
   refine aD ?_
   obtain rfl:=aB h
   exact hK _ _ _ _ _ (fI eM) ak kn
theorem wV {F:Nat} {i12:Int} {s9:List UInt8} {lO:Int} {dV:Int} {x2:UInt8} {H:AH} {K:Exit→Env→AH→Prop} {o:(Bool)⊕(Int)}
 (h:iter (cu F s9 x2) F (lO,dV,i12)=some o)
 (dD:∀o':Int,o= .inr o'→K (.exit 0) [(3,(.bool (decide (x2=91)))),(5,(.int .i64 o'))] H)
 (kr:∀o':Bool,o= .inl o'→K .ret [(2,(.bool o'))] H):
 AX Tryz.prog ec 81 H.length (.loop (erase nQ)) K [(0,(.str s9)),(3,(.bool (decide (x2=91)))),(4,(.int .i64 lO)),(5,(.int .i64 dV)),(6,(.int .i64 i12))] H:=by
 refine iY (fun s e H1=>match s with|(lO,dV,i12)=>e=[(0,(.str s9)),(3,(.bool (decide (x2=91)))),(4,(.int .i64 lO)),(5,(.int .i64 dV)),(6,(.int .i64 i12))]∧H1=H) h ⟨rfl,rfl⟩ ?_
 rintro K' ⟨lO,dV,i12⟩ st e H ⟨rfl,rfl⟩ h hN hB hR hX
 rw [cu.eq_1] at h
 refine aD ?_
 refine bn h (fun cJ h=> ?_) fun cJ h=> ?_
 · refine aD ?_
   obtain ⟨t15,eI,h⟩:=aq h
   refine bB ak (wT (x2:=x2) (lO:=lO) (dV:=dV) eI ?_)
   refine aD ?_
   refine bn h (fun fW h=> ?_) fun fW h=> ?_
   · refine aD ?_
     obtain rfl:=aB h
     exact hN _ rfl _ _ _ _ aJ ak ⟨rfl,rfl⟩
   · refine aD ?_
     obtain ⟨t21,ku,h⟩:=aq h
     refine bB ak (wU (dV:=dV) ku ?_)
     refine aD ?_
     refine bn h (fun lG h=> ?_) fun lG h=> ?_
     · refine aD ?_
       obtain rfl:=aB h
       exact hX _ _ _ _ _ dB aJ ak (kr _ (hR _ rfl))
     · refine aD ?_
       obtain rfl:=aB h
       exact hN _ rfl _ _ _ _ aJ ak ⟨rfl,rfl⟩
 · refine aD ?_
   obtain rfl:=aB h
   exact hX _ _ _ _ _ dB aJ ak (dD _ (hB _ rfl))
theorem wW {x2:UInt8} {mX:Int} {H:AH} {K:Exit→Env→AH→Prop}
 (kn:K .normal [(2,(.bool ((!(decide (x2=91)))||(decide (mX=4)))))] H):
 AX Tryz.prog ec 81 H.length (erase pL) K [(3,(.bool (decide (x2=91)))),(5,(.int .i64 mX))] H:=by
 refine b7 fun K' hK=> ?_
 refine aD ?_
 refine nj (fun kz=> ?_) fun kz=> ?_
 · refine aW kz ?_
   exact hK _ _ _ _ _ (fI kz) ak kn
 · refine aW kz ?_
   exact hK _ _ _ _ _ (fI kz) ak kn
theorem mH {F:Nat} {s1:List UInt8} {H0:AH} {aP:Bool} (h:cW F s1=some aP):
 aF Tryz.prog 28 [(.str s1)] H0 fun v H'=>v=(.bool aP)∧H'=H0:=by
 refine fL B0 ec fun hcl K0 aN=> ?_
 rw [cW.eq_1] at h
 refine aD ?_
 refine bB ak (wQ (s1:=s1) ?_)
 refine aD ?_
 refine bn h (fun hy2 h=> ?_) fun hy2 h=> ?_
 · refine aD ?_
   obtain rfl:=aB h
   exact aN _ _ _ bk (aK hcl (aX bf (.bool false)) bg aZ ⟨rfl,rfl⟩)
 · obtain ⟨x2,hy3,h⟩:=aq h
   refine aW hy3 ?_
   obtain ⟨T6,cx,h⟩:=aq h
   refine bB ak (wS cx ?_ ?_)
   · rintro s9 rfl
     try dsimp only at h
     refine aD ?_
     obtain ⟨T7,jU,h⟩:=aq h
     refine bB ak (wV jU ?_ ?_)
     · rintro mX rfl
       try dsimp only at h
       refine aD ?_
       refine bB ak (wW (x2:=x2) (mX:=mX) ?_)
       refine aD ?_
       obtain rfl:=aB h
       exact aN _ _ _ bk (aK hcl (aX bf (.bool ((!(decide (x2=91)))||(decide (mX=4))))) bg aZ ⟨rfl,rfl⟩)
     · rintro Mu rfl
       try dsimp only at h
       refine aD ?_
       obtain rfl:=aB h
       exact aN _ _ _ bk (aK hcl (aX bf (.bool Mu)) bg aZ ⟨rfl,rfl⟩)
   · rintro Z5 rfl
     try dsimp only at h
     refine aD ?_
     obtain rfl:=aB h
     exact aN _ _ _ bk (aK hcl (aX bf (.bool Z5)) bg aZ ⟨rfl,rfl⟩)
abbrev qH:av:=(.rg [(au 5 0),(aj 6 (.lens (.t 5))),(au 7 1),(aj 8 (.lens (.t 7))),(aj 9 (.bin .geq (.t 6) (.t 8))),(au 10 9),(ay 11 (.mv (.t 0)) 10 true),(ay 12 (.mv (.t 1)) 10 true),(ay 13 (.lens (.t 12)) 10 true),(ay 14 (.gT (.t 11) none (some (.t 13))) 10 true),(ay 15 (.call (.c (.fn 27 [])) [(.t 14)]) 10 true),(ay 16 (.mv (.t 1)) 10 true),(ay 17 (.bin .eql (.t 15) (.t 16)) 10 true),(aj 18 (.pick (.t 10) (.t 17) (.c (.bool false)))),(aR 4 18)])
abbrev Dv:av:=(.seq (.rg [(aj 4 (.aO (.c (.bool false))))]) (.seq (.sem (erase qH)) .ret))
theorem Dw:bQ Tryz.prog 50 19 [(.tmp 4)] (erase Dv):=⟨Tryz.f50,_,rfl,by decide,rfl,by kernel_rfl,rfl,rfl⟩
abbrev v7:List Nat:=[0,1,4]
def kI (F:Nat) (pM:List UInt8) (s1:List UInt8):Option (Bool):=
 (if (decide ((pM.length:Int)≤(s1.length:Int))) then
  (sub s1 0 (pM.length:Int)).bind fun x3=>(jC F x3).bind fun r4=>some (decide (r4=pM))
 else
  some false)
def jF (F:Nat) (s1:List UInt8) (pM:List UInt8):Option (Bool):=
 (kI F pM s1).bind fun t6=>
 some t6
theorem xP {F:Nat} {pM:List UInt8} {s1:List UInt8} {H:AH} {K:Exit→Env→AH→Prop} {t5:Bool}
 (h:kI F pM s1=some t5)
 (kn:K .normal [(4,(.bool t5))] H):
 AX Tryz.prog v7 19 H.length (erase qH) K [(0,(.str s1)),(1,(.str pM)),(4,(.bool false))] H:=by
 refine b7 fun K' hK=> ?_
 rw [kI.eq_1] at h
 refine aD ?_
 refine bV h (fun hy1 h=> ?_) fun hy1 h=> ?_
 · obtain ⟨x3,hy2,h⟩:=aq h
   refine aW (aI hy1 hy2) ?_
   obtain ⟨r4,hy3,h⟩:=aq h
   refine bE ak (uK hy3) ?_
   refine aD ?_
   obtain rfl:=aB h
   exact hK _ _ _ _ _ aJ ak kn
 · refine aW hy1 ?_
   obtain rfl:=aB h
   exact hK _ _ _ _ _ aJ ak kn
theorem uM {F:Nat} {s1:List UInt8} {pM:List UInt8} {H0:AH} {aP:Bool} (h:jF F s1 pM=some aP):
 aF Tryz.prog 50 [(.str s1),(.str pM)] H0 fun v H'=>v=(.bool aP)∧H'=H0:=by
 refine fL Dw v7 fun hcl K0 aN=> ?_
 rw [jF.eq_1] at h
 refine aD ?_
 obtain ⟨t6,hy4,h⟩:=aq h
 refine bB ak (xP hy4 ?_)
 refine aD ?_
 obtain rfl:=aB h
 exact aN _ _ _ bk (aK hcl (aX bf (.bool t6)) bg aZ ⟨rfl,rfl⟩)
abbrev sV:av:=(.rg [(au 3 0),(aj 4 (.bin .neq (.t 3) (.c (.str [])))),(au 5 4),(ay 6 (.mv (.t 0)) 5 true),(ay 7 (.ixs (.t 6) (.c (.int .i64 0))) 5 true),(ay 8 (.bin .eql (.t 7) (.c (b8 32))) 5 true),(aj 9 (.pick (.t 5) (.t 8) (.c (.bool false))))])
abbrev qI:av:=(.seq (.seq (.sem (erase sV)) (.cond (.t 9) .skip (.exit 0))) (.blk 1 (.rg [(au 10 0),(aj 11 (.gT (.t 10) (some (.c (.int .i64 1))) none)),(aR 0 11)])))
abbrev ET:av:=(.seq (.rg [(aj 2 (.aO (.c (.str []))))]) (.seq (.blk 0 (.loop (erase qI))) (.seq (.rg [(au 12 0),(aR 2 12)]) .ret)))
theorem EU:bQ Tryz.prog 52 13 [(.tmp 2)] (erase ET):=⟨Tryz.f52,_,rfl,by decide,rfl,by kernel_rfl,rfl,rfl⟩
abbrev sn:List Nat:=[0,2,9]
def gA (s2:List UInt8):Option (Bool):=
 (if (!decide (s2=([]:List UInt8))) then
  (idx s2 0).bind fun x3=>some (decide (x3=32))
 else
  some false)
def dW:(List UInt8)→Option (St (List UInt8) (List UInt8) (List UInt8))
 |s2=>
  (gA s2).bind fun t5=>
  (if t5 then
   (sub s2 1 (s2.length:Int)).bind fun x6=>some (.cB x6)
  else
   some (.eg s2))
def mY (F:Nat) (s1:List UInt8):Option ((List UInt8)):=
 ((iter dW F s1).bind fun o9=>
 match o9 with
 | .inr s8=>
   some s8
 | .inl _=>none)
theorem zA {s2:List UInt8} {H:AH} {K:Exit→Env→AH→Prop} {t4:Bool}
 (h:gA s2=some t4)
 (kn:K .normal [(0,(.str s2)),(9,(.bool t4))] H):
 AX Tryz.prog sn 13 H.length (erase sV) K [(0,(.str s2))] H:=by
 refine b7 fun K' hK=> ?_
 rw [gA.eq_1] at h
 refine aD ?_
 refine bV h (fun hy1 h=> ?_) fun hy1 h=> ?_
 · obtain ⟨x3,hy2,h⟩:=aq h
   refine aW (aI hy1 hy2) ?_
   obtain rfl:=aB h
   exact hK _ _ _ _ _ aJ ak kn
 · refine aW hy1 ?_
   obtain rfl:=aB h
   exact hK _ _ _ _ _ aJ ak kn
theorem zB {F:Nat} {s2:List UInt8} {H:AH} {K:Exit→Env→AH→Prop} {o:((List UInt8))⊕((List UInt8))}
 (h:iter dW F s2=some o)
 (dD:∀o':(List UInt8),o= .inr o'→K (.exit 0) [(0,(.str o'))] H):
 AX Tryz.prog sn 13 H.length (.loop (erase qI)) K [(0,(.str s2))] H:=by
 refine iY (fun s e H1=>match s with|s2=>e=[(0,(.str s2))]∧H1=H) h ⟨rfl,rfl⟩ ?_
 rintro K' s2 st e H ⟨rfl,rfl⟩ h hN hB hR hX
 rw [dW.eq_1] at h
 refine aD ?_
 obtain ⟨t5,hy3,h⟩:=aq h
 refine bB ak (zA hy3 ?_)
 refine aD ?_
 refine bn h (fun hy4 h=> ?_) fun hy4 h=> ?_
 · obtain ⟨x6,bM,h⟩:=aq h
   refine aW bM ?_
   obtain rfl:=aB h
   exact hN _ rfl _ _ _ _ aJ ak ⟨rfl,rfl⟩
 · refine aD ?_
   obtain rfl:=aB h
   exact hX _ _ _ _ _ dB aJ ak (dD _ (hB _ rfl))
theorem Dx {F:Nat} {s1:List UInt8} {H0:AH} {aP:List UInt8} (h:mY F s1=some aP):
 aF Tryz.prog 52 [(.str s1)] H0 fun v H'=>v=(.str aP)∧H'=H0:=by
 refine fL EU sn fun hcl K0 aN=> ?_
 rw [mY.eq_1] at h
 refine aD ?_
 obtain ⟨o9,cc,h⟩:=aq h
 refine bB ak (zB cc ?_)
 · rintro s8 rfl
   try dsimp only at h
   refine aD ?_
   obtain rfl:=aB h
   exact aN _ _ _ bk (aK hcl (aX bf (.str s8)) bg aZ ⟨rfl,rfl⟩)
abbrev pN:av:=(.rg ((au 4 3)::(au 5 0)::(aj 6 (.lens (.t 5)))::(aj 7 (.bin .lss (.t 4) (.t 6)))::(au 8 7)::(ay 9 (.mv (.t 0)) 8 true)::(ay 10 (.mv (.t 3)) 8 true)::(ay 11 (.ixs (.t 9) (.t 10)) 8 true)::(ay 12 (.call (.c (.fn 75 [])) [(.t 11)]) 8 true)::(ay 13 (.mv (.t 12)) 8 true)::(ay 14 (.mv (.t 0)) 13 false)::(ay 15 (.mv (.t 3)) 13 false)::(ay 16 (.ixs (.t 14) (.t 15)) 13 false)::(ay 17 (.call (.c (.fn 74 [])) [(.t 16)]) 13 false)::(ay 18 (.pick (.t 13) (.c (.bool true)) (.t 17)) 8 true)::(ay 19 (.mv (.t 18)) 8 true)::(ay 20 (.mv (.t 0)) 19 false)::(ay 21 (.mv (.t 3)) 19 false)::(ay 22 (.ixs (.t 20) (.t 21)) 19 false)::(ay 23 (.bin .eql (.t 22) (.c (b8 45))) 19 false)::(ay 24 (.pick (.t 19) (.c (.bool true)) (.t 23)) 8 true)::(ay 25 (.mv (.t 24)) 8 true)::(ay 26 (.mv (.t 0)) 25 false)::(ay 27 (.mv (.t 3)) 25 false)::(ay 28 (.ixs (.t 26) (.t 27)) 25 false)::(ay 29 (.bin .eql (.t 28) (.c (b8 46))) 25 false)::(ay 30 (.pick (.t 25) (.c (.bool true)) (.t 29)) 8 true)::(ay 31 (.mv (.t 30)) 8 true)::(ay 32 (.mv (.t 0)) 31 false)::(ay 33 (.mv (.t 3)) 31 false)::(ay 34 (.ixs (.t 32) (.t 33)) 31 false)::(ay 35 (.bin .eql (.t 34) (.c (b8 91))) 31 false)::(ay 36 (.pick (.t 31) (.c (.bool true)) (.t 35)) 8 true)::(ay 37 (.mv (.t 36)) 8 true)::(ay 38 (.mv (.t 0)) 37 false)::(ay 39 (.mv (.t 3)) 37 false)::(ay 40 (.ixs (.t 38) (.t 39)) 37 false)::(ay 41 (.bin .eql (.t 40) (.c (b8 93))) 37 false)::(ay 42 (.pick (.t 37) (.c (.bool true)) (.t 41)) 8 true)::(aj 43 (.pick (.t 8) (.t 42) (.c (.bool false))))::[]))
abbrev nR:av:=(.seq (.seq (.sem (erase pN)) (.cond (.t 43) .skip (.exit 0))) (.blk 1 (.rg [(au 44 3),(aj 45 (.bin .add (.t 44) (.c (.int .i64 1)))),(aR 3 45)])))
abbrev B1:av:=(.seq (.rg [(aj 2 (.aO (.c (.int .i64 0))))]) (.seq (.rg [(aj 3 (.aO (.c (.int .i64 0))))]) (.seq (.blk 0 (.loop (erase nR))) (.seq (.rg [(au 46 3),(aR 2 46)]) .ret))))
theorem B2:bQ Tryz.prog 78 47 [(.tmp 2)] (erase B1):=⟨Tryz.f78,_,rfl,by decide,rfl,by kernel_rfl,rfl,rfl⟩
abbrev nJ:List Nat:=[0,2,3,43]
def gB (wX:Int) (s1:List UInt8):Option (Bool):=
 (if (decide (wX<(s1.length:Int))) then
  (idx s1 wX).bind fun x3=>
  (fm x3).bind fun r4=>
  (if r4 then
   some true
  else
   (fe x3).bind fun r5=>
   (if r5 then
    some true
   else
    (if (decide (x3=45)) then
     some true
    else
     (if (decide (x3=46)) then
      some true
     else
      (if (decide (x3=91)) then
       some true
      else
       some (decide (x3=93)))))))
 else
  some false)
def eD (s1:List UInt8):Int→Option (St Int Int Int)
 |wX=>
  (gB wX s1).bind fun t7=>
  (if t7 then
   some (.cB (IntKind.wrap .i64 (wX+1)))
  else
   some (.eg wX))
def iH (F:Nat) (s1:List UInt8):Option (Int):=
 ((iter (eD s1) F 0).bind fun T8=>
 match T8 with
 | .inr QC=>
   some QC
 | .inl _=>none)
theorem wY {wX:Int} {s1:List UInt8} {H:AH} {K:Exit→Env→AH→Prop} {t6:Bool}
 (h:gB wX s1=some t6)
 (kn:K .normal [(0,(.str s1)),(3,(.int .i64 wX)),(43,(.bool t6))] H):
 AX Tryz.prog nJ 47 H.length (erase pN) K [(0,(.str s1)),(3,(.int .i64 wX))] H:=by
 refine b7 fun K' hK=> ?_
 rw [gB.eq_1] at h
 refine aD ?_
 refine bV h (fun hy1 h=> ?_) fun hy1 h=> ?_
 · obtain ⟨x3,hy2,h⟩:=aq h
   refine aW (aI hy1 hy2) ?_
   obtain ⟨r4,hy3,h⟩:=aq h
   refine bE ak (jD hy3) ?_
   refine aD ?_
   refine bV h (fun hy4 h=> ?_) fun hy4 h=> ?_
   · refine aW hy4 ?_
     obtain rfl:=aB h
     exact hK _ _ _ _ _ aJ ak kn
   · refine aW (aI hy4 hy2) ?_
     obtain ⟨r5,bM,h⟩:=aq h
     refine bE ak (hO bM) ?_
     refine aD ?_
     refine bV h (fun cc h=> ?_) fun cc h=> ?_
     · refine aW cc ?_
       obtain rfl:=aB h
       exact hK _ _ _ _ _ aJ ak kn
     · refine aW (aI cc hy2) ?_
       refine bV h (fun cO h=> ?_) fun cO h=> ?_
       · refine aW cO ?_
         obtain rfl:=aB h
         exact hK _ _ _ _ _ aJ ak kn
       · refine aW (aI cO hy2) ?_
         refine bV h (fun cC h=> ?_) fun cC h=> ?_
         · refine aW cC ?_
           obtain rfl:=aB h
           exact hK _ _ _ _ _ aJ ak kn
         · refine aW (aI cC hy2) ?_
           refine bV h (fun cX h=> ?_) fun cX h=> ?_
           · refine aW cX ?_
             obtain rfl:=aB h
             exact hK _ _ _ _ _ aJ ak kn
           · refine aW (aI cX hy2) ?_
             obtain rfl:=aB h
             exact hK _ _ _ _ _ aJ ak kn
 · refine aW hy1 ?_
   obtain rfl:=aB h
   exact hK _ _ _ _ _ aJ ak kn
theorem wZ {F:Nat} {wX:Int} {s1:List UInt8} {H:AH} {K:Exit→Env→AH→Prop} {o:(Int)⊕(Int)}
 (h:iter (eD s1) F wX=some o)
 (dD:∀o':Int,o= .inr o'→K (.exit 0) [(3,(.int .i64 o'))] H):
 AX Tryz.prog nJ 47 H.length (.loop (erase nR)) K [(0,(.str s1)),(3,(.int .i64 wX))] H:=by
 refine iY (fun s e H1=>match s with|wX=>e=[(0,(.str s1)),(3,(.int .i64 wX))]∧H1=H) h ⟨rfl,rfl⟩ ?_
 rintro K' wX st e H ⟨rfl,rfl⟩ h hN hB hR hX
 rw [eD.eq_1] at h
 refine aD ?_
 obtain ⟨t7,cx,h⟩:=aq h
 refine bB ak (wY cx ?_)
 refine aD ?_
 refine bn h (fun cJ h=> ?_) fun cJ h=> ?_
 · refine aD ?_
   obtain rfl:=aB h
   exact hN _ rfl _ _ _ _ aJ ak ⟨rfl,rfl⟩
 · refine aD ?_
   obtain rfl:=aB h
   exact hX _ _ _ _ _ dB aJ ak (dD _ (hB _ rfl))
theorem sW {F:Nat} {s1:List UInt8} {H0:AH} {aP:Int} (h:iH F s1=some aP):
 aF Tryz.prog 78 [(.str s1)] H0 fun v H'=>v=(.int .i64 aP)∧H'=H0:=by
 refine fL B2 nJ fun hcl K0 aN=> ?_
 rw [iH.eq_1] at h
 refine aD ?_
 obtain ⟨T8,cV,h⟩:=aq h
 refine bB ak (wZ cV ?_)
 · rintro QC rfl
   try dsimp only at h
   refine aD ?_
   obtain rfl:=aB h
   exact aN _ _ _ bk (aK hcl (aX bf (.int .i64 QC)) bg aZ ⟨rfl,rfl⟩)
abbrev qJ:av:=(.rg [(au 9 0),(aj 10 (.bin .eql (.t 9) (.c (.str [])))),(au 11 10),(ay 12 (.mv (.t 0)) 11 false),(ay 13 (.ixs (.t 12) (.c (.int .i64 0))) 11 false),(ay 14 (.bin .eql (.t 13) (.c (b8 91))) 11 false),(aj 15 (.pick (.t 11) (.c (.bool true)) (.t 14)))])
abbrev qK:av:=(.rg [(au 22 4),(au 23 0),(aj 24 (.lens (.t 23))),(aj 25 (.bin .lss (.t 22) (.t 24))),(au 26 25),(ay 27 (.mv (.t 0)) 26 true),(ay 28 (.mv (.t 4)) 26 true),(ay 29 (.ixs (.t 27) (.t 28)) 26 true),(ay 30 (.bin .neq (.t 29) (.c (b8 46))) 26 true),(aj 31 (.pick (.t 26) (.t 30) (.c (.bool false))))])
abbrev qM:av:=(.rg [(au 36 5),(aj 37 (.bin .eql (.t 36) (.c (.str [])))),(au 38 37),(ay 39 (.mv (.t 5)) 38 false),(ay 40 (.ixs (.t 39) (.c (.int .i64 0))) 38 false),(ay 41 (.bin .eql (.t 40) (.c (b8 45))) 38 false),(aj 42 (.pick (.t 38) (.c (.bool true)) (.t 41))),(au 43 42),(ay 44 (.mv (.t 5)) 43 false),(ay 45 (.mv (.t 5)) 43 false),(ay 46 (.lens (.t 45)) 43 false),(ay 47 (.bin .sub (.t 46) (.c (.int .i64 1))) 43 false),(ay 48 (.ixs (.t 44) (.t 47)) 43 false),(ay 49 (.bin .eql (.t 48) (.c (b8 45))) 43 false),(aj 50 (.pick (.t 43) (.c (.bool true)) (.t 49)))])
abbrev qN:av:=(.rg [(au 57 5),(au 58 6),(aj 59 (.ixs (.t 57) (.t 58))),(aj 60 (.call (.c (.fn 75 [])) [(.t 59)])),(aj 61 (.un .not (.t 60))),(au 62 61),(ay 63 (.mv (.t 5)) 62 true),(ay 64 (.mv (.t 6)) 62 true),(ay 65 (.ixs (.t 63) (.t 64)) 62 true),(ay 66 (.call (.c (.fn 74 [])) [(.t 65)]) 62 true),(ay 67 (.un .not (.t 66)) 62 true),(aj 68 (.pick (.t 62) (.t 67) (.c (.bool false)))),(au 69 68),(ay 70 (.mv (.t 5)) 69 true),(ay 71 (.mv (.t 6)) 69 true),(ay 72 (.ixs (.t 70) (.t 71)) 69 true),(ay 73 (.bin .neq (.t 72) (.c (b8 45))) 69 true),(aj 74 (.pick (.t 69) (.t 73) (.c (.bool false))))])
abbrev pO:av:=(.seq (.seq (.rg [(au 51 6),(au 52 5),(aj 53 (.lens (.t 52))),(aj 54 (.bin .lss (.t 51) (.t 53)))]) (.cond (.t 54) .skip (.exit 2))) (.seq (.blk 3 (.seq (.sem (erase qN)) (.cond (.t 74) (.seq (.rg [(aj 2 (.aO (.c (.bool false))))]) .ret) .skip))) (.rg [(au 55 6),(aj 56 (.bin .add (.t 55) (.c (.int .i64 1)))),(aR 6 56)])))
abbrev pP:av:=(.seq (.seq (.rg [(au 16 4),(au 17 0),(aj 18 (.lens (.t 17))),(aj 19 (.bin .leq (.t 16) (.t 18)))]) (.cond (.t 19) .skip (.exit 0))) (.seq (.blk 1 (.seq (.seq (.sem (erase qK)) (.cond (.t 31) (.exit 1) .skip)) (.seq (.rg [(au 32 0),(au 33 3),(au 34 4),(aj 35 (.gT (.t 32) (some (.t 33)) (some (.t 34)))),(aR 5 35)]) (.seq (.seq (.sem (erase qM)) (.cond (.t 50) (.seq (.rg [(aj 2 (.aO (.c (.bool false))))]) .ret) .skip)) (.seq (.seq (.rg [(aj 6 (.aO (.c (.int .i64 0))))]) (.blk 2 (.loop (erase pO)))) (.rg [(au 75 4),(aj 76 (.bin .add (.t 75) (.c (.int .i64 1)))),(aR 3 76)])))))) (.rg [(au 20 4),(aj 21 (.bin .add (.t 20) (.c (.int .i64 1)))),(aR 4 21)])))
abbrev Dy:av:=(.seq (.rg [(aj 2 (.aO (.c (.bool false))))]) (.seq (.seq (.rg [(au 7 0),(aj 8 (.call (.c (.fn 28 [])) [(.t 7)]))]) (.cond (.t 8) (.seq (.rg [(aj 2 (.aO (.c (.bool true))))]) .ret) .skip)) (.seq (.seq (.sem (erase qJ)) (.cond (.t 15) (.seq (.rg [(aj 2 (.aO (.c (.bool false))))]) .ret) .skip)) (.seq (.rg [(aj 3 (.aO (.c (.int .i64 0))))]) (.seq (.seq (.rg [(aj 4 (.aO (.c (.int .i64 0))))]) (.blk 0 (.loop (erase pP)))) (.seq (.rg [(aj 2 (.aO (.c (.bool true))))]) .ret))))))
theorem Dz:bQ Tryz.prog 79 77 [(.tmp 2)] (erase Dy):=⟨Tryz.f79,_,rfl,by decide,rfl,by kernel_rfl,rfl,rfl⟩
abbrev fz:List Nat:=[0,2,3,4,5,6,8,15,19,31,50,54,74]
def ic (s1:List UInt8):Option (Bool):=
 (if (decide (s1=([]:List UInt8))) then
  some true
 else
  (idx s1 0).bind fun x3=>some (decide (x3=91)))
def eS (i7:Int) (s1:List UInt8):Option (Bool):=
 (if (decide (i7<(s1.length:Int))) then
  (idx s1 i7).bind fun x8=>some (!decide (x8=46))
 else
  some false)
def fO (gf:List UInt8):Option (Bool):=
 (if (decide (gf=([]:List UInt8))) then
  some true
 else
  (idx gf 0).bind fun rU=>
  (if (decide (rU=45)) then
   some true
  else
   (idx gf (IntKind.wrap .i64 ((gf.length:Int) - 1))).bind fun kj=>some (decide (kj=45))))
def ie (gf:List UInt8) (pQ:Int):Option (Bool):=
 (idx gf pQ).bind fun mF=>
 (fm mF).bind fun fX=>
 (if (!fX) then
  (fe mF).bind fun Jx=>
  (if (!Jx) then
   some (!decide (mF=45))
  else
   some false)
 else
  some false)
def dj (gf:List UInt8):Int→Option (St Bool Unit Int)
 |pQ=>
  (if (decide (pQ<(gf.length:Int))) then
   (ie gf pQ).bind fun t21=>
   (if t21 then
    some (.ret false)
   else
    some (.cB (IntKind.wrap .i64 (pQ+1))))
  else
   some (.eg ()))
def dm (F:Nat) (s1:List UInt8):(Int×Int)→Option (St Bool Unit (Int×Int))
 |(A1,i7)=>
  (if (decide (i7≤(s1.length:Int))) then
   (eS i7 s1).bind fun t10=>
   (if t10 then
    some (.cB (A1,(IntKind.wrap .i64 (i7+1))))
   else
    (sub s1 A1 i7).bind fun gf=>
    (fO gf).bind fun t15=>
    (if t15 then
     some (.ret false)
    else
     ((iter (dj gf) F 0).bind fun W3=>
     match W3 with
     | .inr ()=>
       some (.cB ((IntKind.wrap .i64 (i7+1)),(IntKind.wrap .i64 (i7+1))))
     | .inl JH=>
       some (.ret JH))))
  else
   some (.eg ()))
def jG (F:Nat) (s1:List UInt8):Option (Bool):=
 (cW F s1).bind fun r2=>
 (if r2 then
  some true
 else
  (ic s1).bind fun t5=>
  (if t5 then
   some false
  else
   ((iter (dm F s1) F (0,0)).bind fun o27=>
   match o27 with
   | .inr ()=>
     some true
   | .inl Z6=>
     some Z6)))
theorem xQ {s1:List UInt8} {H:AH} {K:Exit→Env→AH→Prop} {t4:Bool}
 (h:ic s1=some t4)
 (kn:K .normal [(0,(.str s1)),(15,(.bool t4))] H):
 AX Tryz.prog fz 77 H.length (erase qJ) K [(0,(.str s1))] H:=by
 refine b7 fun K' hK=> ?_
 rw [ic.eq_1] at h
 refine aD ?_
 refine bV h (fun hy3 h=> ?_) fun hy3 h=> ?_
 · refine aW hy3 ?_
   obtain rfl:=aB h
   exact hK _ _ _ _ _ aJ ak kn
 · obtain ⟨x3,hy4,h⟩:=aq h
   refine aW (aI hy3 hy4) ?_
   obtain rfl:=aB h
   exact hK _ _ _ _ _ aJ ak kn
theorem xR {i7:Int} {s1:List UInt8} {A1:Int} {H:AH} {K:Exit→Env→AH→Prop} {t9:Bool}
 (h:eS i7 s1=some t9)
 (kn:K .normal [(0,(.str s1)),(3,(.int .i64 A1)),(4,(.int .i64 i7)),(31,(.bool t9))] H):
 AX Tryz.prog fz 77 H.length (erase qK) K [(0,(.str s1)),(3,(.int .i64 A1)),(4,(.int .i64 i7))] H:=by
 refine b7 fun K' hK=> ?_
 rw [eS.eq_1] at h
 refine aD ?_
 refine bV h (fun cC h=> ?_) fun cC h=> ?_
 · obtain ⟨x8,cX,h⟩:=aq h
   refine aW (aI cC cX) ?_
   obtain rfl:=aB h
   exact hK _ _ _ _ _ aJ ak kn
 · refine aW cC ?_
   obtain rfl:=aB h
   exact hK _ _ _ _ _ aJ ak kn
theorem xS {gf:List UInt8} {s1:List UInt8} {i7:Int} {H:AH} {K:Exit→Env→AH→Prop} {t14:Bool}
 (h:fO gf=some t14)
 (kn:K .normal [(0,(.str s1)),(4,(.int .i64 i7)),(5,(.str gf)),(50,(.bool t14))] H):
 AX Tryz.prog fz 77 H.length (erase qM) K [(0,(.str s1)),(4,(.int .i64 i7)),(5,(.str gf))] H:=by
 refine b7 fun K' hK=> ?_
 rw [fO.eq_1] at h
 refine aD ?_
 refine bV h (fun cS h=> ?_) fun cS h=> ?_
 · refine aW cS ?_
   obtain rfl:=aB h
   exact hK _ _ _ _ _ aJ ak kn
 · obtain ⟨rU,eI,h⟩:=aq h
   refine aW (aI cS eI) ?_
   refine bV h (fun fW h=> ?_) fun fW h=> ?_
   · refine aW fW ?_
     obtain rfl:=aB h
     exact hK _ _ _ _ _ aJ ak kn
   · obtain ⟨kj,eM,h⟩:=aq h
     refine aW (aI fW eM) ?_
     obtain rfl:=aB h
     exact hK _ _ _ _ _ aJ ak kn
theorem xT {gf:List UInt8} {pQ:Int} {s1:List UInt8} {i7:Int} {H:AH} {K:Exit→Env→AH→Prop} {t20:Bool}
 (h:ie gf pQ=some t20)
 (kn:K .normal [(0,(.str s1)),(4,(.int .i64 i7)),(5,(.str gf)),(6,(.int .i64 pQ)),(74,(.bool t20))] H):
 AX Tryz.prog fz 77 H.length (erase qN) K [(0,(.str s1)),(4,(.int .i64 i7)),(5,(.str gf)),(6,(.int .i64 pQ))] H:=by
 refine b7 fun K' hK=> ?_
 rw [ie.eq_1] at h
 obtain ⟨mF,kq,h⟩:=aq h
 refine aW kq ?_
 obtain ⟨fX,jh,h⟩:=aq h
 refine bE ak (jD jh) ?_
 refine aD ?_
 refine bV h (fun ku h=> ?_) fun ku h=> ?_
 · refine aW (aI ku kq) ?_
   obtain ⟨Jx,lG,h⟩:=aq h
   refine bE ak (hO lG) ?_
   refine aD ?_
   refine bV h (fun jU h=> ?_) fun jU h=> ?_
   · refine aW (aI jU kq) ?_
     obtain rfl:=aB h
     exact hK _ _ _ _ _ aJ ak kn
   · refine aW jU ?_
     obtain rfl:=aB h
     exact hK _ _ _ _ _ aJ ak kn
 · refine aW ku ?_
   obtain rfl:=aB h
   exact hK _ _ _ _ _ aJ ak kn
theorem xU {F:Nat} {pQ:Int} {gf:List UInt8} {s1:List UInt8} {i7:Int} {H:AH} {K:Exit→Env→AH→Prop} {o:(Bool)⊕(Unit)}
 (h:iter (dj gf) F pQ=some o)
 (T9:∀o':Unit,o= .inr o'→K (.exit 2) [(0,(.str s1)),(4,(.int .i64 i7))] H)
 (kr:∀o':Bool,o= .inl o'→K .ret [(2,(.bool o'))] H):
 AX Tryz.prog fz 77 H.length (.loop (erase pO)) K [(0,(.str s1)),(4,(.int .i64 i7)),(5,(.str gf)),(6,(.int .i64 pQ))] H:=by
 refine iY (fun s e H1=>match s with|pQ=>e=[(0,(.str s1)),(4,(.int .i64 i7)),(5,(.str gf)),(6,(.int .i64 pQ))]∧H1=H) h ⟨rfl,rfl⟩ ?_
 rintro K' pQ st e H ⟨rfl,rfl⟩ h hN hB hR hX
 rw [dj.eq_1] at h
 refine aD ?_
 refine bn h (fun gZ h=> ?_) fun gZ h=> ?_
 · refine aD ?_
   obtain ⟨t21,kz,h⟩:=aq h
   refine bB ak (xT (s1:=s1) (i7:=i7) kz ?_)
   refine aD ?_
   refine bn h (fun mU h=> ?_) fun mU h=> ?_
   · refine aD ?_
     obtain rfl:=aB h
     exact hX _ _ _ _ _ dB aJ ak (kr _ (hR _ rfl))
   · refine aD ?_
     obtain rfl:=aB h
     exact hN _ rfl _ _ _ _ aJ ak ⟨rfl,rfl⟩
 · refine aD ?_
   obtain rfl:=aB h
   exact hX _ _ _ _ _ dB aJ ak (T9 _ (hB _ rfl))
theorem xV {F:Nat} {i7:Int} {s1:List UInt8} {A1:Int} {H:AH} {K:Exit→Env→AH→Prop} {o:(Bool)⊕(Unit)}
 (h:iter (dm F s1) F (A1,i7)=some o)
 (dD:∀o':Unit,o= .inr o'→K (.exit 0) [] H)
 (kr:∀o':Bool,o= .inl o'→K .ret [(2,(.bool o'))] H):
 AX Tryz.prog fz 77 H.length (.loop (erase pP)) K [(0,(.str s1)),(3,(.int .i64 A1)),(4,(.int .i64 i7))] H:=by
 refine iY (fun s e H1=>match s with|(A1,i7)=>e=[(0,(.str s1)),(3,(.int .i64 A1)),(4,(.int .i64 i7))]∧H1=H) h ⟨rfl,rfl⟩ ?_
 rintro K' ⟨A1,i7⟩ st e H ⟨rfl,rfl⟩ h hN hB hR hX
 rw [dm.eq_1] at h
 refine aD ?_
 refine bn h (fun cO h=> ?_) fun cO h=> ?_
 · refine aD ?_
   obtain ⟨t10,cx,h⟩:=aq h
   refine bB ak (xR (A1:=A1) cx ?_)
   refine aD ?_
   refine bn h (fun cJ h=> ?_) fun cJ h=> ?_
   · refine aD ?_
     obtain rfl:=aB h
     exact hN _ rfl _ _ _ _ aJ ak ⟨rfl,rfl⟩
   · obtain ⟨gf,cV,h⟩:=aq h
     refine aW cV ?_
     obtain ⟨t15,ko,h⟩:=aq h
     refine bB ak (xS (s1:=s1) (i7:=i7) ko ?_)
     refine aD ?_
     refine bn h (fun jg h=> ?_) fun jg h=> ?_
     · refine aD ?_
       obtain rfl:=aB h
       exact hX _ _ _ _ _ dB aJ ak (kr _ (hR _ rfl))
     · refine aD ?_
       obtain ⟨W3,vW,h⟩:=aq h
       refine bB ak (xU (s1:=s1) (i7:=i7) vW ?_ ?_)
       · rintro ⟨⟩ rfl
         try dsimp only at h
         refine aD ?_
         obtain rfl:=aB h
         exact hN _ rfl _ _ _ _ aJ ak ⟨rfl,rfl⟩
       · rintro JH rfl
         try dsimp only at h
         refine aD ?_
         obtain rfl:=aB h
         exact hX _ _ _ _ _ dB aJ ak (kr _ (hR _ rfl))
 · refine aD ?_
   obtain rfl:=aB h
   exact hX _ _ _ _ _ dB WE.nil ak (dD _ (hB _ rfl))
theorem uN {F:Nat} {s1:List UInt8} {H0:AH} {aP:Bool} (h:jG F s1=some aP):
 aF Tryz.prog 79 [(.str s1)] H0 fun v H'=>v=(.bool aP)∧H'=H0:=by
 refine fL Dz fz fun hcl K0 aN=> ?_
 rw [jG.eq_1] at h
 refine aD ?_
 obtain ⟨r2,hy1,h⟩:=aq h
 refine bE ak (mH hy1) ?_
 refine aD ?_
 refine bn h (fun hy2 h=> ?_) fun hy2 h=> ?_
 · refine aD ?_
   obtain rfl:=aB h
   exact aN _ _ _ bk (aK hcl (aX bf (.bool true)) bg aZ ⟨rfl,rfl⟩)
 · refine aD ?_
   obtain ⟨t5,bM,h⟩:=aq h
   refine bB ak (xQ bM ?_)
   refine aD ?_
   refine bn h (fun cc h=> ?_) fun cc h=> ?_
   · refine aD ?_
     obtain rfl:=aB h
     exact aN _ _ _ bk (aK hcl (aX bf (.bool false)) bg aZ ⟨rfl,rfl⟩)
   · refine aD ?_
     obtain ⟨o27,zC,h⟩:=aq h
     refine bB ak (xV zC ?_ ?_)
     · rintro ⟨⟩ rfl
       try dsimp only at h
       refine aD ?_
       obtain rfl:=aB h
       exact aN _ _ _ bk (aK hcl (aX bf (.bool true)) bg aZ ⟨rfl,rfl⟩)
     · rintro Z6 rfl
       try dsimp only at h
       refine aD ?_
       obtain rfl:=aB h
       exact aN _ _ _ bk (aK hcl (aX bf (.bool Z6)) bg aZ ⟨rfl,rfl⟩)
abbrev qO:av:=(.rg [(au 5 0),(aj 6 (.bin .eql (.t 5) (.c (.str [])))),(au 7 6),(ay 8 (.mv (.t 0)) 7 false),(ay 9 (.ixs (.t 8) (.c (.int .i64 0))) 7 false),(ay 10 (.bin .neq (.t 9) (.c (b8 64))) 7 false),(aj 11 (.pick (.t 7) (.c (.bool true)) (.t 10)))])
abbrev qP:av:=(.rg [(au 12 3),(au 13 0),(aj 14 (.lens (.t 13))),(aj 15 (.bin .lss (.t 12) (.t 14))),(au 16 15),(ay 17 (.mv (.t 0)) 16 true),(ay 18 (.mv (.t 3)) 16 true),(ay 19 (.ixs (.t 17) (.t 18)) 16 true),(ay 20 (.bin .eql (.t 19) (.c (b8 64))) 16 true),(aj 21 (.pick (.t 16) (.t 20) (.c (.bool false))))])
abbrev qQ:av:=(.rg [(au 41 3),(au 42 0),(aj 43 (.lens (.t 42))),(aj 44 (.bin .lss (.t 41) (.t 43))),(au 45 44),(ay 46 (.mv (.t 0)) 45 true),(ay 47 (.mv (.t 3)) 45 true),(ay 48 (.ixs (.t 46) (.t 47)) 45 true),(ay 49 (.bin .eql (.t 48) (.c (b8 58))) 45 true),(aj 50 (.pick (.t 45) (.t 49) (.c (.bool false))))])
abbrev qR:av:=(.rg [(au 53 3),(au 54 0),(aj 55 (.lens (.t 54))),(aj 56 (.bin .geq (.t 53) (.t 55))),(au 57 56),(ay 58 (.mv (.t 0)) 57 false),(ay 59 (.mv (.t 3)) 57 false),(ay 60 (.ixs (.t 58) (.t 59)) 57 false),(ay 61 (.bin .neq (.t 60) (.c (b8 44))) 57 false),(aj 62 (.pick (.t 57) (.c (.bool true)) (.t 61)))])
abbrev pR:av:=(.seq (.seq (.sem (erase qP)) (.cond (.t 21) .skip (.exit 0))) (.blk 1 (.seq (.rg [(au 22 0),(au 23 3),(aj 24 (.bin .add (.t 23) (.c (.int .i64 1)))),(aj 25 (.gT (.t 22) (some (.t 24)) none)),(aj 26 (.call (.c (.fn 78 [])) [(.t 25)])),(aR 4 26)]) (.seq (.seq (.rg [(au 27 0),(au 28 3),(aj 29 (.bin .add (.t 28) (.c (.int .i64 1)))),(au 30 3),(aj 31 (.bin .add (.t 30) (.c (.int .i64 1)))),(au 32 4),(aj 33 (.bin .add (.t 31) (.t 32))),(aj 34 (.gT (.t 27) (some (.t 29)) (some (.t 33)))),(aj 35 (.call (.c (.fn 79 [])) [(.t 34)])),(aj 36 (.un .not (.t 35)))]) (.cond (.t 36) (.seq (.rg [(aj 2 (.aO (.c (.int .i64 (-1)))))]) .ret) .skip)) (.seq (.rg [(au 37 3),(aj 38 (.bin .add (.t 37) (.c (.int .i64 1)))),(au 39 4),(aj 40 (.bin .add (.t 38) (.t 39))),(aR 3 40)]) (.seq (.seq (.sem (erase qQ)) (.cond (.t 50) (.seq (.rg [(au 51 3),(aj 52 (.bin .add (.t 51) (.c (.int .i64 1)))),(aR 2 52)]) .ret) .skip)) (.seq (.seq (.sem (erase qR)) (.cond (.t 62) (.seq (.rg [(aj 2 (.aO (.c (.int .i64 (-1)))))]) .ret) .skip)) (.rg [(au 63 3),(aj 64 (.bin .add (.t 63) (.c (.int .i64 1)))),(aR 3 64)]))))))))
abbrev DA:av:=(.seq (.rg [(aj 2 (.aO (.c (.int .i64 0))))]) (.seq (.seq (.sem (erase qO)) (.cond (.t 11) (.seq (.rg [(aj 2 (.aO (.c (.int .i64 0))))]) .ret) .skip)) (.seq (.rg [(aj 3 (.aO (.c (.int .i64 0))))]) (.seq (.blk 0 (.loop (erase pR))) (.seq (.rg [(aj 2 (.aO (.c (.int .i64 (-1)))))]) .ret)))))
theorem DB:bQ Tryz.prog 76 65 [(.tmp 2)] (erase DA):=⟨Tryz.f76,_,rfl,by decide,rfl,by kernel_rfl,rfl,rfl⟩
abbrev gC:List Nat:=[0,2,3,4,11,21,36,50,62]
def ig (s1:List UInt8):Option (Bool):=
 (if (decide (s1=([]:List UInt8))) then
  some true
 else
  (idx s1 0).bind fun x2=>some (!decide (x2=64)))
def ij (i5:Int) (s1:List UInt8):Option (Bool):=
 (if (decide (i5<(s1.length:Int))) then
  (idx s1 i5).bind fun x6=>some (decide (x6=64))
 else
  some false)
def iu (i5:Int) (dK:Int) (s1:List UInt8):Option (Bool):=
 (if (decide ((IntKind.wrap .i64 ((IntKind.wrap .i64 (i5+1))+dK))<(s1.length:Int))) then
  (idx s1 (IntKind.wrap .i64 ((IntKind.wrap .i64 (i5+1))+dK))).bind fun kj=>some (decide (kj=58))
 else
  some false)
def iw (s1:List UInt8) (i5:Int) (dK:Int):Option (Bool):=
 (if (decide ((s1.length:Int)≤(IntKind.wrap .i64 ((IntKind.wrap .i64 (i5+1))+dK)))) then
  some true
 else
  (idx s1 (IntKind.wrap .i64 ((IntKind.wrap .i64 (i5+1))+dK))).bind fun j8=>some (!decide (j8=44)))
def dn (F:Nat) (s1:List UInt8):Int→Option (St Int Unit Int)
 |i5=>
  (ij i5 s1).bind fun t8=>
  (if t8 then
   (sub s1 (IntKind.wrap .i64 (i5+1)) (s1.length:Int)).bind fun x9=>
   (iH F x9).bind fun dK=>
   (sub s1 (IntKind.wrap .i64 (i5+1)) (IntKind.wrap .i64 ((IntKind.wrap .i64 (i5+1))+dK))).bind fun gf=>
   (jG F gf).bind fun iM=>
   (if (!iM) then
    some (.ret (-1))
   else
    (iu i5 dK s1).bind fun t15=>
    (if t15 then
     some (.ret (IntKind.wrap .i64 ((IntKind.wrap .i64 ((IntKind.wrap .i64 (i5+1))+dK))+1)))
    else
     (iw s1 i5 dK).bind fun t18=>
     (if t18 then
      some (.ret (-1))
     else
      some (.cB (IntKind.wrap .i64 ((IntKind.wrap .i64 ((IntKind.wrap .i64 (i5+1))+dK))+1))))))
  else
   some (.eg ()))
def jH (F:Nat) (s1:List UInt8):Option (Int):=
 (ig s1).bind fun t4=>
 (if t4 then
  some 0
 else
  ((iter (dn F s1) F 0).bind fun o21=>
  match o21 with
  | .inr ()=>
    some (-1)
  | .inl mV=>
    some mV))
theorem xW {s1:List UInt8} {H:AH} {K:Exit→Env→AH→Prop} {t3:Bool}
 (h:ig s1=some t3)
 (kn:K .normal [(0,(.str s1)),(11,(.bool t3))] H):
 AX Tryz.prog gC 65 H.length (erase qO) K [(0,(.str s1))] H:=by
 refine b7 fun K' hK=> ?_
 rw [ig.eq_1] at h
 refine aD ?_
 refine bV h (fun hy1 h=> ?_) fun hy1 h=> ?_
 · refine aW hy1 ?_
   obtain rfl:=aB h
   exact hK _ _ _ _ _ aJ ak kn
 · obtain ⟨x2,hy2,h⟩:=aq h
   refine aW (aI hy1 hy2) ?_
   obtain rfl:=aB h
   exact hK _ _ _ _ _ aJ ak kn
theorem xX {i5:Int} {s1:List UInt8} {H:AH} {K:Exit→Env→AH→Prop} {t7:Bool}
 (h:ij i5 s1=some t7)
 (kn:K .normal [(0,(.str s1)),(3,(.int .i64 i5)),(21,(.bool t7))] H):
 AX Tryz.prog gC 65 H.length (erase qP) K [(0,(.str s1)),(3,(.int .i64 i5))] H:=by
 refine b7 fun K' hK=> ?_
 rw [ij.eq_1] at h
 refine aD ?_
 refine bV h (fun bM h=> ?_) fun bM h=> ?_
 · obtain ⟨x6,cc,h⟩:=aq h
   refine aW (aI bM cc) ?_
   obtain rfl:=aB h
   exact hK _ _ _ _ _ aJ ak kn
 · refine aW bM ?_
   obtain rfl:=aB h
   exact hK _ _ _ _ _ aJ ak kn
theorem xY {i5:Int} {dK:Int} {s1:List UInt8} {H:AH} {K:Exit→Env→AH→Prop} {t14:Bool}
 (h:iu i5 dK s1=some t14)
 (kn:K .normal [(0,(.str s1)),(3,(.int .i64 (IntKind.wrap .i64 ((IntKind.wrap .i64 (i5+1))+dK)))),(50,(.bool t14))] H):
 AX Tryz.prog gC 65 H.length (erase qQ) K [(0,(.str s1)),(3,(.int .i64 (IntKind.wrap .i64 ((IntKind.wrap .i64 (i5+1))+dK))))] H:=by
 refine b7 fun K' hK=> ?_
 rw [iu.eq_1] at h
 refine aD ?_
 refine bV h (fun eI h=> ?_) fun eI h=> ?_
 · obtain ⟨kj,fW,h⟩:=aq h
   refine aW (aI eI fW) ?_
   obtain rfl:=aB h
   exact hK _ _ _ _ _ aJ ak kn
 · refine aW eI ?_
   obtain rfl:=aB h
   exact hK _ _ _ _ _ aJ ak kn
theorem xZ {s1:List UInt8} {i5:Int} {dK:Int} {H:AH} {K:Exit→Env→AH→Prop} {t17:Bool}
 (h:iw s1 i5 dK=some t17)
 (kn:K .normal [(0,(.str s1)),(3,(.int .i64 (IntKind.wrap .i64 ((IntKind.wrap .i64 (i5+1))+dK)))),(62,(.bool t17))] H):
 AX Tryz.prog gC 65 H.length (erase qR) K [(0,(.str s1)),(3,(.int .i64 (IntKind.wrap .i64 ((IntKind.wrap .i64 (i5+1))+dK))))] H:=by
 refine b7 fun K' hK=> ?_
 rw [iw.eq_1] at h
 refine aD ?_
 refine bV h (fun jg h=> ?_) fun jg h=> ?_
 · refine aW jg ?_
   obtain rfl:=aB h
   exact hK _ _ _ _ _ aJ ak kn
 · obtain ⟨j8,gZ,h⟩:=aq h
   refine aW (aI jg gZ) ?_
   obtain rfl:=aB h
   exact hK _ _ _ _ _ aJ ak kn
theorem ya {F:Nat} {i5:Int} {s1:List UInt8} {H:AH} {K:Exit→Env→AH→Prop} {o:(Int)⊕(Unit)}
 (h:iter (dn F s1) F i5=some o)
 (dD:∀o':Unit,o= .inr o'→K (.exit 0) [] H)
 (kr:∀o':Int,o= .inl o'→K .ret [(2,(.int .i64 o'))] H):
 AX Tryz.prog gC 65 H.length (.loop (erase pR)) K [(0,(.str s1)),(3,(.int .i64 i5))] H:=by
 refine iY (fun s e H1=>match s with|i5=>e=[(0,(.str s1)),(3,(.int .i64 i5))]∧H1=H) h ⟨rfl,rfl⟩ ?_
 rintro K' i5 st e H ⟨rfl,rfl⟩ h hN hB hR hX
 rw [dn.eq_1] at h
 refine aD ?_
 obtain ⟨t8,cO,h⟩:=aq h
 refine bB ak (xX cO ?_)
 refine aD ?_
 refine bn h (fun cC h=> ?_) fun cC h=> ?_
 · obtain ⟨x9,cX,h⟩:=aq h
   refine aW cX ?_
   obtain ⟨dK,cx,h⟩:=aq h
   refine bE ak (sW cx) ?_
   refine aD ?_
   obtain ⟨gf,cJ,h⟩:=aq h
   refine aW cJ ?_
   obtain ⟨iM,cV,h⟩:=aq h
   refine bE ak (uN cV) ?_
   refine aD ?_
   refine bn h (fun cS h=> ?_) fun cS h=> ?_
   · refine aD ?_
     obtain rfl:=aB h
     exact hX _ _ _ _ _ dB aJ ak (kr _ (hR _ rfl))
   · refine aD ?_
     obtain ⟨t15,eM,h⟩:=aq h
     refine bB ak (xY eM ?_)
     refine aD ?_
     refine bn h (fun ko h=> ?_) fun ko h=> ?_
     · refine aD ?_
       obtain rfl:=aB h
       exact hX _ _ _ _ _ dB aJ ak (kr _ (hR _ rfl))
     · refine aD ?_
       obtain ⟨t18,kq,h⟩:=aq h
       refine bB ak (xZ kq ?_)
       refine aD ?_
       refine bn h (fun jh h=> ?_) fun jh h=> ?_
       · refine aD ?_
         obtain rfl:=aB h
         exact hX _ _ _ _ _ dB aJ ak (kr _ (hR _ rfl))
       · refine aD ?_
         obtain rfl:=aB h
         exact hN _ rfl _ _ _ _ aJ ak ⟨rfl,rfl⟩
 · refine aD ?_
   obtain rfl:=aB h
   exact hX _ _ _ _ _ dB WE.nil ak (dD _ (hB _ rfl))
theorem B3 {F:Nat} {s1:List UInt8} {H0:AH} {aP:Int} (h:jH F s1=some aP):
 aF Tryz.prog 76 [(.str s1)] H0 fun v H'=>v=(.int .i64 aP)∧H'=H0:=by
 refine fL DB gC fun hcl K0 aN=> ?_
 rw [jH.eq_1] at h
 refine aD ?_
 obtain ⟨t4,hy3,h⟩:=aq h
 refine bB ak (xW hy3 ?_)
 refine aD ?_
 refine bn h (fun hy4 h=> ?_) fun hy4 h=> ?_
 · refine aD ?_
   obtain rfl:=aB h
   exact aN _ _ _ bk (aK hcl (aX bf (.int .i64 0)) bg aZ ⟨rfl,rfl⟩)
 · refine aD ?_
   obtain ⟨o21,ku,h⟩:=aq h
   refine bB ak (ya ku ?_ ?_)
   · rintro ⟨⟩ rfl
     try dsimp only at h
     refine aD ?_
     obtain rfl:=aB h
     exact aN _ _ _ bk (aK hcl (aX bf (.int .i64 (-1))) bg aZ ⟨rfl,rfl⟩)
   · rintro mV rfl
     try dsimp only at h
     refine aD ?_
     obtain rfl:=aB h
     exact aN _ _ _ bk (aK hcl (aX bf (.int .i64 mV)) bg aZ ⟨rfl,rfl⟩)
abbrev qS:av:=(.rg [(au 5 0),(aj 6 (.call (.c (.fn 75 [])) [(.t 5)])),(au 7 6),(ay 8 (.mv (.t 0)) 7 false),(ay 9 (.call (.c (.fn 74 [])) [(.t 8)]) 7 false),(aj 10 (.pick (.t 7) (.c (.bool true)) (.t 9)))])
abbrev pS:av:=(.seq (.seq (.rg [(au 11 4),(au 12 3),(aj 13 (.lens (.t 12))),(aj 14 (.bin .lss (.t 11) (.t 13)))]) (.cond (.t 14) .skip (.exit 0))) (.seq (.blk 1 (.seq (.rg [(au 17 3),(au 18 4),(aj 19 (.ixs (.t 17) (.t 18))),(au 20 0),(aj 21 (.bin .eql (.t 19) (.t 20)))]) (.cond (.t 21) (.seq (.rg [(aj 2 (.aO (.c (.bool true))))]) .ret) .skip))) (.rg [(au 15 4),(aj 16 (.bin .add (.t 15) (.c (.int .i64 1)))),(aR 4 16)])))
abbrev DC:av:=(.seq (.rg [(aj 2 (.aO (.c (.bool false))))]) (.seq (.seq (.sem (erase qS)) (.cond (.t 10) (.seq (.rg [(aj 2 (.aO (.c (.bool true))))]) .ret) .skip)) (.seq (.rg [(aj 3 (.aO (.c (.str [33,35,36,37,38,39,42,43,45,47,61,63,94,95,123,124,125,126]))))]) (.seq (.seq (.rg [(aj 4 (.aO (.c (.int .i64 0))))]) (.blk 0 (.loop (erase pS)))) (.seq (.rg [(au 22 0),(aj 23 (.bin .eql (.t 22) (.c (b8 96)))),(aR 2 23)]) .ret)))))
theorem DD:bQ Tryz.prog 107 24 [(.tmp 2)] (erase DC):=⟨Tryz.f107,_,rfl,by decide,rfl,by kernel_rfl,rfl,rfl⟩
abbrev pT:List Nat:=[0,2,3,4,10,14,21]
def nK (c1:UInt8):Option (Bool):=
 (fm c1).bind fun r2=>
 (if r2 then
  some true
 else
  (fe c1).bind fun r3=>some r3)
def nL (c1:UInt8):Int→Option (St Bool Unit Int)
 |i6=>
  (if (decide (i6<(([33,35,36,37,38,39,42,43,45,47,61,63,94,95,123,124,125,126]:List UInt8).length:Int))) then
   (idx ([33,35,36,37,38,39,42,43,45,47,61,63,94,95,123,124,125,126]:List UInt8) i6).bind fun x7=>
   (if (decide (x7=c1)) then
    some (.ret true)
   else
    some (.cB (IntKind.wrap .i64 (i6+1))))
  else
   some (.eg ()))
def gP (F:Nat) (c1:UInt8):Option (Bool):=
 (nK c1).bind fun t5=>
 (if t5 then
  some true
 else
  ((iter (nL c1) F 0).bind fun T8=>
  match T8 with
  | .inr ()=>
    some (decide (c1=96))
  | .inl r9=>
    some r9))
theorem yb {c1:UInt8} {H:AH} {K:Exit→Env→AH→Prop} {t4:Bool}
 (h:nK c1=some t4)
 (kn:K .normal [(0,(b8 c1)),(10,(.bool t4))] H):
 AX Tryz.prog pT 24 H.length (erase qS) K [(0,(b8 c1))] H:=by
 refine b7 fun K' hK=> ?_
 rw [nK.eq_1] at h
 refine aD ?_
 obtain ⟨r2,hy1,h⟩:=aq h
 refine bE ak (jD hy1) ?_
 refine aD ?_
 refine bV h (fun hy2 h=> ?_) fun hy2 h=> ?_
 · refine aW hy2 ?_
   obtain rfl:=aB h
   exact hK _ _ _ _ _ aJ ak kn
 · refine aW hy2 ?_
   obtain ⟨r3,hy3,h⟩:=aq h
   refine bE ak (hO hy3) ?_
   refine aD ?_
   obtain rfl:=aB h
   exact hK _ _ _ _ _ aJ ak kn
theorem yc {F:Nat} {i6:Int} {c1:UInt8} {H:AH} {K:Exit→Env→AH→Prop} {o:(Bool)⊕(Unit)}
 (h:iter (nL c1) F i6=some o)
 (dD:∀o':Unit,o= .inr o'→K (.exit 0) [(0,(b8 c1))] H)
 (kr:∀o':Bool,o= .inl o'→K .ret [(2,(.bool o'))] H):
 AX Tryz.prog pT 24 H.length (.loop (erase pS)) K [(0,(b8 c1)),(3,(.str ([33,35,36,37,38,39,42,43,45,47,61,63,94,95,123,124,125,126]:List UInt8))),(4,(.int .i64 i6))] H:=by
 refine iY (fun s e H1=>match s with|i6=>e=[(0,(b8 c1)),(3,(.str ([33,35,36,37,38,39,42,43,45,47,61,63,94,95,123,124,125,126]:List UInt8))),(4,(.int .i64 i6))]∧H1=H) h ⟨rfl,rfl⟩ ?_
 rintro K' i6 st e H ⟨rfl,rfl⟩ h hN hB hR hX
 rw [nL.eq_1] at h
 refine aD ?_
 refine bn h (fun cc h=> ?_) fun cc h=> ?_
 · obtain ⟨x7,cO,h⟩:=aq h
   refine aW cO ?_
   refine bn h (fun cC h=> ?_) fun cC h=> ?_
   · refine aD ?_
     obtain rfl:=aB h
     exact hX _ _ _ _ _ dB aJ ak (kr _ (hR _ rfl))
   · refine aD ?_
     obtain rfl:=aB h
     exact hN _ rfl _ _ _ _ aJ ak ⟨rfl,rfl⟩
 · refine aD ?_
   obtain rfl:=aB h
   exact hX _ _ _ _ _ dB aJ ak (dD _ (hB _ rfl))
theorem uO {F:Nat} {c1:UInt8} {H0:AH} {aP:Bool} (h:gP F c1=some aP):
 aF Tryz.prog 107 [(b8 c1)] H0 fun v H'=>v=(.bool aP)∧H'=H0:=by
 refine fL DD pT fun hcl K0 aN=> ?_
 rw [gP.eq_1] at h
 refine aD ?_
 obtain ⟨t5,hy4,h⟩:=aq h
 refine bB ak (yb hy4 ?_)
 refine aD ?_
 refine bn h (fun bM h=> ?_) fun bM h=> ?_
 · refine aD ?_
   obtain rfl:=aB h
   exact aN _ _ _ bk (aK hcl (aX bf (.bool true)) bg aZ ⟨rfl,rfl⟩)
 · refine aD ?_
   obtain ⟨T8,cX,h⟩:=aq h
   refine bB ak (yc cX ?_ ?_)
   · rintro ⟨⟩ rfl
     try dsimp only at h
     refine aD ?_
     obtain rfl:=aB h
     exact aN _ _ _ bk (aK hcl (aX bf (.bool (decide (c1=96)))) bg aZ ⟨rfl,rfl⟩)
   · rintro r9 rfl
     try dsimp only at h
     refine aD ?_
     obtain rfl:=aB h
     exact aN _ _ _ bk (aK hcl (aX bf (.bool r9)) bg aZ ⟨rfl,rfl⟩)
abbrev qT:av:=(.rg [(au 11 0),(au 12 3),(aj 13 (.ixs (.t 11) (.t 12))),(aj 14 (.bin .eql (.t 13) (.c (b8 46)))),(au 15 14),(ay 16 (.mv (.t 3)) 15 true),(ay 17 (.bin .gtr (.t 16) (.c (.int .i64 0))) 15 true),(aj 18 (.pick (.t 15) (.t 17) (.c (.bool false)))),(au 19 18),(ay 20 (.mv (.t 3)) 19 true),(ay 21 (.bin .add (.t 20) (.c (.int .i64 1))) 19 true),(ay 22 (.mv (.t 0)) 19 true),(ay 23 (.lens (.t 22)) 19 true),(ay 24 (.bin .lss (.t 21) (.t 23)) 19 true),(aj 25 (.pick (.t 19) (.t 24) (.c (.bool false)))),(au 26 25),(ay 27 (.mv (.t 0)) 26 true),(ay 28 (.mv (.t 3)) 26 true),(ay 29 (.bin .sub (.t 28) (.c (.int .i64 1))) 26 true),(ay 30 (.ixs (.t 27) (.t 29)) 26 true),(ay 31 (.bin .neq (.t 30) (.c (b8 46))) 26 true),(aj 32 (.pick (.t 26) (.t 31) (.c (.bool false)))),(aR 4 32)])
abbrev qU:av:=(.rg [(au 33 4),(aj 34 (.un .not (.t 33))),(au 35 34),(ay 36 (.mv (.t 0)) 35 true),(ay 37 (.mv (.t 3)) 35 true),(ay 38 (.ixs (.t 36) (.t 37)) 35 true),(ay 39 (.call (.c (.fn 107 [])) [(.t 38)]) 35 true),(ay 40 (.un .not (.t 39)) 35 true),(aj 41 (.pick (.t 35) (.t 40) (.c (.bool false))))])
abbrev pU:av:=(.seq (.seq (.rg [(au 5 3),(au 6 0),(aj 7 (.lens (.t 6))),(aj 8 (.bin .lss (.t 5) (.t 7)))]) (.cond (.t 8) .skip (.exit 0))) (.seq (.blk 1 (.seq (.sem (erase qT)) (.seq (.sem (erase qU)) (.cond (.t 41) (.seq (.rg [(aj 2 (.aO (.c (.bool false))))]) .ret) .skip)))) (.rg [(au 9 3),(aj 10 (.bin .add (.t 9) (.c (.int .i64 1)))),(aR 3 10)])))
abbrev DE:av:=(.seq (.rg [(aj 2 (.aO (.c (.bool false))))]) (.seq (.seq (.rg [(aj 3 (.aO (.c (.int .i64 0))))]) (.blk 0 (.loop (erase pU)))) (.seq (.rg [(au 42 0),(aj 43 (.bin .neq (.t 42) (.c (.str [])))),(aR 2 43)]) .ret)))
theorem DF:bQ Tryz.prog 84 44 [(.tmp 2)] (erase DE):=⟨Tryz.f84,_,rfl,by decide,rfl,by kernel_rfl,rfl,rfl⟩
abbrev lP:List Nat:=[0,2,3,4,8,41]
def iy (s1:List UInt8) (i2:Int):Option (Bool):=
 (idx s1 i2).bind fun x3=>
 (if (decide (x3=46)) then
  (if (decide (0<i2)) then
   (if (decide ((IntKind.wrap .i64 (i2+1))<(s1.length:Int))) then
    (idx s1 (IntKind.wrap .i64 (i2 - 1))).bind fun x4=>some (!decide (x4=46))
   else
    some false)
  else
   some false)
 else
  some false)
def kJ (F:Nat) (DG:Bool) (s1:List UInt8) (i2:Int):Option (Bool):=
 (if (!DG) then
  (idx s1 i2).bind fun x7=>(gP F x7).bind fun r8=>some (!r8)
 else
  some false)
def eT (F:Nat) (s1:List UInt8):Int→Option (St Bool Unit Int)
 |i2=>
  (if (decide (i2<(s1.length:Int))) then
   (iy s1 i2).bind fun DG=>
   (kJ F DG s1 i2).bind fun t10=>
   (if t10 then
    some (.ret false)
   else
    some (.cB (IntKind.wrap .i64 (i2+1))))
  else
   some (.eg ()))
def jI (F:Nat) (s1:List UInt8):Option (Bool):=
 ((iter (eT F s1) F 0).bind fun T5=>
 match T5 with
 | .inr ()=>
   some (!decide (s1=([]:List UInt8)))
 | .inl iM=>
   some iM)
theorem yd {s1:List UInt8} {i2:Int} {H:AH} {K:Exit→Env→AH→Prop} {XV:Bool}
 (h:iy s1 i2=some XV)
 (kn:K .normal [(0,(.str s1)),(3,(.int .i64 i2)),(4,(.bool XV))] H):
 AX Tryz.prog lP 44 H.length (erase qT) K [(0,(.str s1)),(3,(.int .i64 i2))] H:=by
 refine b7 fun K' hK=> ?_
 rw [iy.eq_1] at h
 obtain ⟨x3,hy2,h⟩:=aq h
 refine aW hy2 ?_
 refine bV h (fun hy3 h=> ?_) fun hy3 h=> ?_
 · refine aW hy3 ?_
   refine bV h (fun hy4 h=> ?_) fun hy4 h=> ?_
   · refine aW hy4 ?_
     refine bV h (fun bM h=> ?_) fun bM h=> ?_
     · obtain ⟨x4,cc,h⟩:=aq h
       refine aW (aI bM cc) ?_
       obtain rfl:=aB h
       exact hK _ _ _ _ _ aJ ak kn
     · refine aW bM ?_
       obtain rfl:=aB h
       exact hK _ _ _ _ _ aJ ak kn
   · refine aW hy4 ?_
     obtain rfl:=aB h
     exact hK _ _ _ _ _ aJ ak kn
 · refine aW hy3 ?_
   obtain rfl:=aB h
   exact hK _ _ _ _ _ aJ ak kn
theorem ye {F:Nat} {DG:Bool} {s1:List UInt8} {i2:Int} {H:AH} {K:Exit→Env→AH→Prop} {t9:Bool}
 (h:kJ F DG s1 i2=some t9)
 (kn:K .normal [(0,(.str s1)),(3,(.int .i64 i2)),(41,(.bool t9))] H):
 AX Tryz.prog lP 44 H.length (erase qU) K [(0,(.str s1)),(3,(.int .i64 i2)),(4,(.bool DG))] H:=by
 refine b7 fun K' hK=> ?_
 rw [kJ.eq_1] at h
 refine aD ?_
 refine bV h (fun cC h=> ?_) fun cC h=> ?_
 · obtain ⟨x7,cX,h⟩:=aq h
   refine aW (aI cC cX) ?_
   obtain ⟨r8,cx,h⟩:=aq h
   refine bE ak (uO cx) ?_
   refine aD ?_
   obtain rfl:=aB h
   exact hK _ _ _ _ _ aJ ak kn
 · refine aW cC ?_
   obtain rfl:=aB h
   exact hK _ _ _ _ _ aJ ak kn
theorem yf {F:Nat} {i2:Int} {s1:List UInt8} {H:AH} {K:Exit→Env→AH→Prop} {o:(Bool)⊕(Unit)}
 (h:iter (eT F s1) F i2=some o)
 (dD:∀o':Unit,o= .inr o'→K (.exit 0) [(0,(.str s1))] H)
 (kr:∀o':Bool,o= .inl o'→K .ret [(2,(.bool o'))] H):
 AX Tryz.prog lP 44 H.length (.loop (erase pU)) K [(0,(.str s1)),(3,(.int .i64 i2))] H:=by
 refine iY (fun s e H1=>match s with|i2=>e=[(0,(.str s1)),(3,(.int .i64 i2))]∧H1=H) h ⟨rfl,rfl⟩ ?_
 rintro K' i2 st e H ⟨rfl,rfl⟩ h hN hB hR hX
 rw [eT.eq_1] at h
 refine aD ?_
 refine bn h (fun hy1 h=> ?_) fun hy1 h=> ?_
 · refine aD ?_
   obtain ⟨DG,cO,h⟩:=aq h
   refine bB ak (yd cO ?_)
   refine aD ?_
   obtain ⟨t10,cJ,h⟩:=aq h
   refine bB ak (ye cJ ?_)
   refine aD ?_
   refine bn h (fun cV h=> ?_) fun cV h=> ?_
   · refine aD ?_
     obtain rfl:=aB h
     exact hX _ _ _ _ _ dB aJ ak (kr _ (hR _ rfl))
   · refine aD ?_
     obtain rfl:=aB h
     exact hN _ rfl _ _ _ _ aJ ak ⟨rfl,rfl⟩
 · refine aD ?_
   obtain rfl:=aB h
   exact hX _ _ _ _ _ dB aJ ak (dD _ (hB _ rfl))
theorem uP {F:Nat} {s1:List UInt8} {H0:AH} {aP:Bool} (h:jI F s1=some aP):
 aF Tryz.prog 84 [(.str s1)] H0 fun v H'=>v=(.bool aP)∧H'=H0:=by
 refine fL DF lP fun hcl K0 aN=> ?_
 rw [jI.eq_1] at h
 refine aD ?_
 obtain ⟨T5,cS,h⟩:=aq h
 refine bB ak (yf cS ?_ ?_)
 · rintro ⟨⟩ rfl
   try dsimp only at h
   refine aD ?_
   obtain rfl:=aB h
   exact aN _ _ _ bk (aK hcl (aX bf (.bool (!decide (s1=([]:List UInt8))))) bg aZ ⟨rfl,rfl⟩)
 · rintro iM rfl
   try dsimp only at h
   refine aD ?_
   obtain rfl:=aB h
   exact aN _ _ _ bk (aK hcl (aX bf (.bool iM)) bg aZ ⟨rfl,rfl⟩)
abbrev qV:av:=(.rg [(au 7 0),(aj 8 (.bin .neq (.t 7) (.c (.str [])))),(au 9 8),(ay 10 (.mv (.t 0)) 9 true),(ay 11 (.ixs (.t 10) (.c (.int .i64 0))) 9 true),(ay 12 (.bin .eql (.t 11) (.c (b8 34))) 9 true),(aj 13 (.pick (.t 9) (.t 12) (.c (.bool false))))])
abbrev qW:av:=(.rg [(au 14 5),(au 15 0),(aj 16 (.lens (.t 15))),(aj 17 (.bin .lss (.t 14) (.t 16))),(au 18 17),(ay 19 (.mv (.t 0)) 18 true),(ay 20 (.mv (.t 5)) 18 true),(ay 21 (.ixs (.t 19) (.t 20)) 18 true),(ay 22 (.bin .neq (.t 21) (.c (b8 34))) 18 true),(aj 23 (.pick (.t 18) (.t 22) (.c (.bool false))))])
abbrev qX:av:=(.cond (.t 27) (.rg [(au 28 5),(aj 29 (.bin .add (.t 28) (.c (.int .i64 1)))),(aR 5 29)]) .skip)
abbrev qY:av:=(.rg [(au 30 5),(au 31 0),(aj 32 (.lens (.t 31))),(aj 33 (.bin .geq (.t 30) (.t 32))),(au 34 33),(ay 35 (.mv (.t 0)) 34 false),(ay 36 (.mv (.t 5)) 34 false),(ay 37 (.ixs (.t 35) (.t 36)) 34 false),(ay 38 (.bin .lss (.t 37) (.c (b8 32))) 34 false),(aj 39 (.pick (.t 34) (.c (.bool true)) (.t 38))),(au 40 39),(ay 41 (.mv (.t 0)) 40 false),(ay 42 (.mv (.t 5)) 40 false),(ay 43 (.ixs (.t 41) (.t 42)) 40 false),(ay 44 (.bin .gtr (.t 43) (.c (b8 126))) 40 false),(aj 45 (.pick (.t 40) (.c (.bool true)) (.t 44)))])
abbrev pV:av:=(.seq (.seq (.sem (erase qW)) (.cond (.t 23) .skip (.exit 0))) (.blk 1 (.seq (.seq (.rg [(au 24 0),(au 25 5),(aj 26 (.ixs (.t 24) (.t 25))),(aj 27 (.bin .eql (.t 26) (.c (b8 92))))]) (.sem (erase qX))) (.seq (.seq (.sem (erase qY)) (.cond (.t 45) (.seq (.rg [(aj 2 (.aO (.c (.str [])))),(aj 3 (.aO (.c (.int .i64 (-1)))))]) .ret) .skip)) (.seq (.rg [(au 46 4),(au 47 0),(au 48 5),(aj 49 (.ixs (.t 47) (.t 48))),(aj 50 (.ve 1 [(.t 49)])),(aj 51 (.app 1 1 (.t 46) (.t 50))),(aR 4 51)]) (.rg [(au 52 5),(aj 53 (.bin .add (.t 52) (.c (.int .i64 1)))),(aR 5 53)]))))))
abbrev qZ:av:=(.rg [(au 54 5),(au 55 0),(aj 56 (.lens (.t 55))),(aj 57 (.bin .geq (.t 54) (.t 56))),(au 58 57),(ay 59 (.mv (.t 4)) 58 false),(ay 60 (.len (.t 59)) 58 false),(ay 61 (.bin .eql (.t 60) (.c (.int .i64 0))) 58 false),(aj 62 (.pick (.t 58) (.c (.bool true)) (.t 61)))])
abbrev ri:av:=(.rg [(au 67 6),(au 68 0),(aj 69 (.lens (.t 68))),(aj 70 (.bin .lss (.t 67) (.t 69))),(au 71 70),(ay 72 (.mv (.t 0)) 71 true),(ay 73 (.mv (.t 6)) 71 true),(ay 74 (.ixs (.t 72) (.t 73)) 71 true),(ay 75 (.call (.c (.fn 107 [])) [(.t 74)]) 71 true),(ay 76 (.mv (.t 75)) 71 true),(ay 77 (.mv (.t 0)) 76 false),(ay 78 (.mv (.t 6)) 76 false),(ay 79 (.ixs (.t 77) (.t 78)) 76 false),(ay 80 (.bin .eql (.t 79) (.c (b8 46))) 76 false),(ay 81 (.pick (.t 76) (.c (.bool true)) (.t 80)) 71 true),(aj 82 (.pick (.t 71) (.t 81) (.c (.bool false))))])
abbrev pW:av:=(.seq (.seq (.sem (erase ri)) (.cond (.t 82) .skip (.exit 2))) (.blk 3 (.rg [(au 83 6),(aj 84 (.bin .add (.t 83) (.c (.int .i64 1)))),(aR 6 84)])))
abbrev DH:av:=(.seq (.rg [(aj 2 (.aO (.c (.str [])))),(aj 3 (.aO (.c (.int .i64 0))))]) (.seq (.seq (.sem (erase qV)) (.cond (.t 13) (.seq (.rg [(aj 4 (.aO (.c (.sl .ex 1 []))))]) (.seq (.rg [(aj 5 (.aO (.c (.int .i64 1))))]) (.seq (.blk 0 (.loop (erase pV))) (.seq (.seq (.sem (erase qZ)) (.cond (.t 62) (.seq (.rg [(aj 2 (.aO (.c (.str [])))),(aj 3 (.aO (.c (.int .i64 (-1)))))]) .ret) .skip)) (.seq (.rg [(au 63 4),(aj 64 (.mj .bs (.t 63))),(au 65 5),(aj 66 (.bin .add (.t 65) (.c (.int .i64 1)))),(aR 2 64),(aR 3 66)]) .ret))))) .skip)) (.seq (.rg [(aj 6 (.aO (.c (.int .i64 0))))]) (.seq (.blk 2 (.loop (erase pW))) (.seq (.seq (.rg [(au 85 0),(au 86 6),(aj 87 (.gT (.t 85) none (some (.t 86)))),(aj 88 (.call (.c (.fn 84 [])) [(.t 87)])),(aj 89 (.un .not (.t 88)))]) (.cond (.t 89) (.seq (.rg [(aj 2 (.aO (.c (.str [])))),(aj 3 (.aO (.c (.int .i64 (-1)))))]) .ret) .skip)) (.seq (.rg [(au 90 0),(au 91 6),(aj 92 (.gT (.t 90) none (some (.t 91)))),(au 93 6),(aR 2 92),(aR 3 93)]) .ret))))))
theorem DI:bQ Tryz.prog 77 94 [(.tmp 2),(.tmp 3)] (erase DH):=⟨Tryz.f77,_,rfl,by decide,rfl,by kernel_rfl,rfl,rfl⟩
abbrev dX:List Nat:=[0,2,3,4,5,6,13,23,27,45,62,82,89]
def iz (s1:List UInt8):Option (Bool):=
 (if (!decide (s1=([]:List UInt8))) then
  (idx s1 0).bind fun x2=>some (decide (x2=34))
 else
  some false)
def fP (i6:Int) (s1:List UInt8):Option (Bool):=
 (if (decide (i6<(s1.length:Int))) then
  (idx s1 i6).bind fun x7=>some (!decide (x7=34))
 else
  some false)
def iA (wO:UInt8) (i6:Int):Option (Int):=
 (if (decide (wO=92)) then
  some (IntKind.wrap .i64 (i6+1))
 else
  some i6)
def eU (s1:List UInt8) (i12:Int):Option (Bool):=
 (if (decide ((s1.length:Int)≤i12)) then
  some true
 else
  (idx s1 i12).bind fun kj=>
  (if (decide (kj<32)) then
   some true
  else
   some (decide (126<kj))))
def bO (s1:List UInt8):((List UInt8)×Int)→Option (St ((List UInt8)×Int) ((List UInt8)×Int) ((List UInt8)×Int))
 |(b5,i6)=>
  (fP i6 s1).bind fun t9=>
  (if t9 then
   (idx s1 i6).bind fun wO=>
   (iA wO i6).bind fun i12=>
   (eU s1 i12).bind fun t15=>
   (if t15 then
    some (.ret (([]:List UInt8),(-1)))
   else
    (idx s1 i12).bind fun j8=>
    (eE 1 b5 ([j8]:List UInt8)).bind fun mF=>some (.cB (mF,(IntKind.wrap .i64 (i12+1)))))
  else
   some (.eg (b5,i6)))
def iB (F:Nat) (nS:Int) (s1:List UInt8):Option (Bool):=
 (if (decide (nS<(s1.length:Int))) then
  (idx s1 nS).bind fun A2=>
  (gP F A2).bind fun Ua=>(if Ua then
   some true
  else
   some (decide (A2=46)))
 else
  some false)
def eV (F:Nat) (s1:List UInt8):Int→Option (St ((List UInt8)×Int) Int Int)
 |nS=>
  (iB F nS s1).bind fun t31=>
  (if t31 then
   some (.cB (IntKind.wrap .i64 (nS+1)))
  else
   some (.eg nS))
def jJ (F:Nat) (s1:List UInt8):Option ((List UInt8)×Int):=
 (iz s1).bind fun t4=>
 (if t4 then
  ((iter (bO s1) F (([]:List UInt8),1)).bind fun T7=>
  match T7 with
  | .inr (EV,i23)=>
    (if ((decide ((s1.length:Int)≤i23))||(decide ((EV.length:Int)=0))) then
     some (([]:List UInt8),(-1))
    else
     some (EV,(IntKind.wrap .i64 (i23+1))))
  | .inl (QF,Mu)=>
    some (QF,Mu))
 else
  ((iter (eV F s1) F 0).bind fun T3=>
  match T3 with
  | .inr NF=>
    (sub s1 0 NF).bind fun W4=>
    (jI F W4).bind fun QD=>
    (if (!QD) then
     some (([]:List UInt8),(-1))
    else
     some (W4,NF))
  | .inl _=>none))
theorem yg {s1:List UInt8} {H:AH} {K:Exit→Env→AH→Prop} {t3:Bool}
 (h:iz s1=some t3)
 (kn:K .normal [(0,(.str s1)),(13,(.bool t3))] H):
 AX Tryz.prog dX 94 H.length (erase qV) K [(0,(.str s1))] H:=by
 refine b7 fun K' hK=> ?_
 rw [iz.eq_1] at h
 refine aD ?_
 refine bV h (fun hy1 h=> ?_) fun hy1 h=> ?_
 · obtain ⟨x2,hy2,h⟩:=aq h
   refine aW (aI hy1 hy2) ?_
   obtain rfl:=aB h
   exact hK _ _ _ _ _ aJ ak kn
 · refine aW hy1 ?_
   obtain rfl:=aB h
   exact hK _ _ _ _ _ aJ ak kn
theorem yh {i6:Int} {s1:List UInt8} {b5:List UInt8} {H:AH} {K:Exit→Env→AH→Prop} {t8:Bool}
 (h:fP i6 s1=some t8)
 (kn:K .normal [(0,(.str s1)),(4,(.sl .own 1 (ml b8 b5))),(5,(.int .i64 i6)),(23,(.bool t8))] H):
 AX Tryz.prog dX 94 H.length (erase qW) K [(0,(.str s1)),(4,(.sl .own 1 (ml b8 b5))),(5,(.int .i64 i6))] H:=by
 refine b7 fun K' hK=> ?_
 rw [fP.eq_1] at h
 refine aD ?_
 refine bV h (fun bM h=> ?_) fun bM h=> ?_
 · obtain ⟨x7,cc,h⟩:=aq h
   refine aW (aI bM cc) ?_
   obtain rfl:=aB h
   exact hK _ _ _ _ _ aJ ak kn
 · refine aW bM ?_
   obtain rfl:=aB h
   exact hK _ _ _ _ _ aJ ak kn
theorem yj {wO:UInt8} {i6:Int} {s1:List UInt8} {b5:List UInt8} {H:AH} {K:Exit→Env→AH→Prop} {i11:Int}
 (h:iA wO i6=some i11)
 (kn:K .normal [(0,(.str s1)),(4,(.sl .own 1 (ml b8 b5))),(5,(.int .i64 i11))] H):
 AX Tryz.prog dX 94 H.length (erase qX) K [(0,(.str s1)),(4,(.sl .own 1 (ml b8 b5))),(5,(.int .i64 i6)),(27,(.bool (decide (wO=92))))] H:=by
 refine b7 fun K' hK=> ?_
 rw [iA.eq_1] at h
 refine aD ?_
 refine bn h (fun cx h=> ?_) fun cx h=> ?_
 · refine aD ?_
   obtain rfl:=aB h
   exact hK _ _ _ _ _ aJ ak kn
 · refine aD ?_
   obtain rfl:=aB h
   exact hK _ _ _ _ _ aJ ak kn
theorem yl {s1:List UInt8} {i12:Int} {b5:List UInt8} {H:AH} {K:Exit→Env→AH→Prop} {t14:Bool}
 (h:eU s1 i12=some t14)
 (kn:K .normal [(0,(.str s1)),(4,(.sl .own 1 (ml b8 b5))),(5,(.int .i64 i12)),(45,(.bool t14))] H):
 AX Tryz.prog dX 94 H.length (erase qY) K [(0,(.str s1)),(4,(.sl .own 1 (ml b8 b5))),(5,(.int .i64 i12))] H:=by
 refine b7 fun K' hK=> ?_
 rw [eU.eq_1] at h
 refine aD ?_
 refine bV h (fun cV h=> ?_) fun cV h=> ?_
 · refine aW cV ?_
   obtain rfl:=aB h
   exact hK _ _ _ _ _ aJ ak kn
 · obtain ⟨kj,cS,h⟩:=aq h
   refine aW (aI cV cS) ?_
   refine bV h (fun eI h=> ?_) fun eI h=> ?_
   · refine aW eI ?_
     obtain rfl:=aB h
     exact hK _ _ _ _ _ aJ ak kn
   · refine aW (aI eI cS) ?_
     obtain rfl:=aB h
     exact hK _ _ _ _ _ aJ ak kn
theorem ym {F:Nat} {i6:Int} {s1:List UInt8} {b5:List UInt8} {H:AH} {K:Exit→Env→AH→Prop} {o:((List UInt8)×Int)⊕((List UInt8)×Int)}
 (h:iter (bO s1) F (b5,i6)=some o)
 (dD:∀o':(List UInt8)×Int,o= .inr o'→K (.exit 0) [(0,(.str s1)),(4,(.sl .own 1 (ml b8 o'.1))),(5,(.int .i64 o'.2))] H)
 (kr:∀o':(List UInt8)×Int,o= .inl o'→K .ret [(2,(.str o'.1)),(3,(.int .i64 o'.2))] H):
 AX Tryz.prog dX 94 H.length (.loop (erase pV)) K [(0,(.str s1)),(4,(.sl .own 1 (ml b8 b5))),(5,(.int .i64 i6))] H:=by
 refine iY (fun s e H1=>match s with|(b5,i6)=>e=[(0,(.str s1)),(4,(.sl .own 1 (ml b8 b5))),(5,(.int .i64 i6))]∧H1=H) h ⟨rfl,rfl⟩ ?_
 rintro K' ⟨b5,i6⟩ st e H ⟨rfl,rfl⟩ h hN hB hR hX
 rw [bO.eq_1] at h
 refine aD ?_
 obtain ⟨t9,cO,h⟩:=aq h
 refine bB ak (yh (b5:=b5) cO ?_)
 refine aD ?_
 refine bn h (fun cC h=> ?_) fun cC h=> ?_
 · obtain ⟨wO,cX,h⟩:=aq h
   refine aW cX ?_
   obtain ⟨i12,cJ,h⟩:=aq h
   refine bB ak (yj (s1:=s1) (b5:=b5) cJ ?_)
   refine aD ?_
   obtain ⟨t15,fW,h⟩:=aq h
   refine bB ak (yl (b5:=b5) fW ?_)
   refine aD ?_
   refine bn h (fun eM h=> ?_) fun eM h=> ?_
   · refine aD ?_
     obtain rfl:=aB h
     exact hX _ _ _ _ _ dB aJ ak (kr _ (hR _ rfl))
   · obtain ⟨j8,ko,h⟩:=aq h
     obtain ⟨mF,jg,h⟩:=aq h
     have gZ:eE 1 (ml b8 b5) [(b8 j8)]=some (ml b8 mF):=mJ (f:=b8) jg
     refine aW (aI ko gZ) ?_
     obtain rfl:=aB h
     exact hN _ rfl _ _ _ _ aJ ak ⟨rfl,rfl⟩
 · refine aD ?_
   obtain rfl:=aB h
   exact hX _ _ _ _ _ dB aJ ak (dD _ (hB _ rfl))
theorem yo {s1:List UInt8} {EV:List UInt8} {i23:Int} {H:AH} {K:Exit→Env→AH→Prop}
 (kn:K .normal [(4,(.sl .own 1 (ml b8 EV))),(5,(.int .i64 i23)),(62,(.bool ((decide ((s1.length:Int)≤i23))||(decide ((EV.length:Int)=0)))))] H):
 AX Tryz.prog dX 94 H.length (erase qZ) K [(0,(.str s1)),(4,(.sl .own 1 (ml b8 EV))),(5,(.int .i64 i23))] H:=by
 refine b7 fun K' hK=> ?_
 refine aD ?_
 refine nj (fun jh=> ?_) fun jh=> ?_
 · refine aW jh ?_
   exact hK _ _ _ _ _ (fI jh) ak kn
 · refine aW jh ?_
   exact hK _ _ _ _ _ (fI jh) ak kn
theorem yp {F:Nat} {nS:Int} {s1:List UInt8} {H:AH} {K:Exit→Env→AH→Prop} {t30:Bool}
 (h:iB F nS s1=some t30)
 (kn:K .normal [(0,(.str s1)),(6,(.int .i64 nS)),(82,(.bool t30))] H):
 AX Tryz.prog dX 94 H.length (erase ri) K [(0,(.str s1)),(6,(.int .i64 nS))] H:=by
 refine b7 fun K' hK=> ?_
 rw [iB.eq_1] at h
 refine aD ?_
 refine bV h (fun lG h=> ?_) fun lG h=> ?_
 · obtain ⟨A2,jU,h⟩:=aq h
   refine aW (aI lG jU) ?_
   obtain ⟨Ua,kz,h⟩:=aq h
   refine bE ak (uO kz) ?_
   refine aD ?_
   refine bV h (fun mU h=> ?_) fun mU h=> ?_
   · refine aW mU ?_
     obtain rfl:=aB h
     exact hK _ _ _ _ _ aJ ak kn
   · refine aW (aI mU jU) ?_
     obtain rfl:=aB h
     exact hK _ _ _ _ _ aJ ak kn
 · refine aW lG ?_
   obtain rfl:=aB h
   exact hK _ _ _ _ _ aJ ak kn
theorem yq {F:Nat} {nS:Int} {s1:List UInt8} {H:AH} {K:Exit→Env→AH→Prop} {o:((List UInt8)×Int)⊕(Int)}
 (h:iter (eV F s1) F nS=some o)
 (T9:∀o':Int,o= .inr o'→K (.exit 2) [(0,(.str s1)),(6,(.int .i64 o'))] H):
 AX Tryz.prog dX 94 H.length (.loop (erase pW)) K [(0,(.str s1)),(6,(.int .i64 nS))] H:=by
 refine iY (fun s e H1=>match s with|nS=>e=[(0,(.str s1)),(6,(.int .i64 nS))]∧H1=H) h ⟨rfl,rfl⟩ ?_
 rintro K' nS st e H ⟨rfl,rfl⟩ h hN hB hR hX
 rw [eV.eq_1] at h
 refine aD ?_
 obtain ⟨t31,vW,h⟩:=aq h
 refine bB ak (yp vW ?_)
 refine aD ?_
 refine bn h (fun zC h=> ?_) fun zC h=> ?_
 · refine aD ?_
   obtain rfl:=aB h
   exact hN _ rfl _ _ _ _ aJ ak ⟨rfl,rfl⟩
 · refine aD ?_
   obtain rfl:=aB h
   exact hX _ _ _ _ _ dB aJ ak (T9 _ (hB _ rfl))
theorem B4 {F:Nat} {s1:List UInt8} {H0:AH} {aP:List UInt8} {eL:Int} (h:jJ F s1=some (aP,eL)):
 aF Tryz.prog 77 [(.str s1)] H0 fun v H'=>v=(.bz [(.str aP),(.int .i64 eL)])∧H'=H0:=by
 refine fL DI dX fun hcl K0 aN=> ?_
 rw [jJ.eq_1] at h
 refine aD ?_
 obtain ⟨t4,hy3,h⟩:=aq h
 refine bB ak (yg hy3 ?_)
 refine aD ?_
 refine bn h (fun hy4 h=> ?_) fun hy4 h=> ?_
 · refine aD ?_
   obtain ⟨T7,kq,h⟩:=aq h
   refine bB ak (ym kq ?_ ?_)
   · rintro ⟨EV,i23⟩ rfl
     try dsimp only at h
     refine aD ?_
     refine bB ak (yo (s1:=s1) (EV:=EV) (i23:=i23) ?_)
     refine aD ?_
     refine bn h (fun ku h=> ?_) fun ku h=> ?_
     · refine aD ?_
       obtain ⟨rfl,rfl⟩:=cE h
       exact aN _ _ _ bk (aK hcl (aX (aX bf (.int .i64 (-1))) (.str ([]:List UInt8))) bg aZ ⟨rfl,rfl⟩)
     · refine aD ?_
       obtain ⟨rfl,rfl⟩:=cE h
       exact aN _ _ _ bk (aK hcl (aX (aX bf (.int .i64 (IntKind.wrap .i64 (i23+1)))) (.str EV)) bg aZ ⟨rfl,rfl⟩)
   · rintro ⟨QF,Mu⟩ rfl
     try dsimp only at h
     refine aD ?_
     obtain ⟨rfl,rfl⟩:=cE h
     exact aN _ _ _ bk (aK hcl (aX (aX bf (.int .i64 Mu)) (.str QF)) bg aZ ⟨rfl,rfl⟩)
 · refine aD ?_
   obtain ⟨T3,JJ,h⟩:=aq h
   refine bB ak (yq JJ ?_)
   · rintro NF rfl
     try dsimp only at h
     refine aD ?_
     obtain ⟨W4,Ft,h⟩:=aq h
     refine aW Ft ?_
     obtain ⟨QD,JK,h⟩:=aq h
     refine bE ak (uP JK) ?_
     refine aD ?_
     refine bn h (fun JL h=> ?_) fun JL h=> ?_
     · refine aD ?_
       obtain ⟨rfl,rfl⟩:=cE h
       exact aN _ _ _ bk (aK hcl (aX (aX bf (.int .i64 (-1))) (.str ([]:List UInt8))) bg aZ ⟨rfl,rfl⟩)
     · refine aW Ft ?_
       obtain ⟨rfl,rfl⟩:=cE h
       exact aN _ _ _ bk (aK hcl (aX (aX bf (.int .i64 NF)) (.str W4)) bg aZ ⟨rfl,rfl⟩)
abbrev rj:av:=(.rg [(au 4 0),(aj 5 (.bin .eql (.t 4) (.c (.str [])))),(au 6 5),(ay 7 (.mv (.t 0)) 6 false),(ay 8 (.lens (.t 7)) 6 false),(ay 9 (.bin .gtr (.t 8) (.c (.int .i64 64))) 6 false),(aj 10 (.pick (.t 6) (.c (.bool true)) (.t 9)))])
abbrev rq:av:=(.rg [(au 17 0),(au 18 3),(aj 19 (.ixs (.t 17) (.t 18))),(aj 20 (.bin .lss (.t 19) (.c (b8 32)))),(au 21 20),(ay 22 (.mv (.t 0)) 21 false),(ay 23 (.mv (.t 3)) 21 false),(ay 24 (.ixs (.t 22) (.t 23)) 21 false),(ay 25 (.bin .gtr (.t 24) (.c (b8 126))) 21 false),(aj 26 (.pick (.t 21) (.c (.bool true)) (.t 25)))])
abbrev pX:av:=(.seq (.seq (.rg [(au 11 3),(au 12 0),(aj 13 (.lens (.t 12))),(aj 14 (.bin .lss (.t 11) (.t 13)))]) (.cond (.t 14) .skip (.exit 0))) (.seq (.blk 1 (.seq (.sem (erase rq)) (.cond (.t 26) (.seq (.rg [(aj 2 (.aO (.c (.bool false))))]) .ret) .skip))) (.rg [(au 15 3),(aj 16 (.bin .add (.t 15) (.c (.int .i64 1)))),(aR 3 16)])))
abbrev DJ:av:=(.seq (.rg [(aj 2 (.aO (.c (.bool false))))]) (.seq (.seq (.sem (erase rj)) (.cond (.t 10) (.seq (.rg [(aj 2 (.aO (.c (.bool false))))]) .ret) .skip)) (.seq (.seq (.rg [(aj 3 (.aO (.c (.int .i64 0))))]) (.blk 0 (.loop (erase pX)))) (.seq (.rg [(aj 2 (.aO (.c (.bool true))))]) .ret))))
theorem DK:bQ Tryz.prog 83 27 [(.tmp 2)] (erase DJ):=⟨Tryz.f83,_,rfl,by decide,rfl,by kernel_rfl,rfl,rfl⟩
abbrev lQ:List Nat:=[0,2,3,10,14,26]
def iC (s1:List UInt8) (i2:Int):Option (Bool):=
 (idx s1 i2).bind fun x3=>
 (if (decide (x3<32)) then
  some true
 else
  some (decide (126<x3)))
def eW (s1:List UInt8):Int→Option (St Bool Unit Int)
 |i2=>
  (if (decide (i2<(s1.length:Int))) then
   (iC s1 i2).bind fun t5=>
   (if t5 then
    some (.ret false)
   else
    some (.cB (IntKind.wrap .i64 (i2+1))))
  else
   some (.eg ()))
def lR (F:Nat) (s1:List UInt8):Option (Bool):=
 (if ((decide (s1=([]:List UInt8)))||(decide (64<(s1.length:Int)))) then
  some false
 else
  ((iter (eW s1) F 0).bind fun o8=>
  match o8 with
  | .inr ()=>
    some true
  | .inl r7=>
    some r7))
theorem yt {s1:List UInt8} {H:AH} {K:Exit→Env→AH→Prop}
 (kn:K .normal [(0,(.str s1)),(10,(.bool ((decide (s1=([]:List UInt8)))||(decide (64<(s1.length:Int))))))] H):
 AX Tryz.prog lQ 27 H.length (erase rj) K [(0,(.str s1))] H:=by
 refine b7 fun K' hK=> ?_
 refine aD ?_
 refine nj (fun hy1=> ?_) fun hy1=> ?_
 · refine aW hy1 ?_
   exact hK _ _ _ _ _ (fI hy1) ak kn
 · refine aW hy1 ?_
   exact hK _ _ _ _ _ (fI hy1) ak kn
theorem yu {s1:List UInt8} {i2:Int} {H:AH} {K:Exit→Env→AH→Prop} {t4:Bool}
 (h:iC s1 i2=some t4)
 (kn:K .normal [(0,(.str s1)),(3,(.int .i64 i2)),(26,(.bool t4))] H):
 AX Tryz.prog lQ 27 H.length (erase rq) K [(0,(.str s1)),(3,(.int .i64 i2))] H:=by
 refine b7 fun K' hK=> ?_
 rw [iC.eq_1] at h
 obtain ⟨x3,hy4,h⟩:=aq h
 refine aW hy4 ?_
 refine bV h (fun bM h=> ?_) fun bM h=> ?_
 · refine aW bM ?_
   obtain rfl:=aB h
   exact hK _ _ _ _ _ aJ ak kn
 · refine aW (aI bM hy4) ?_
   obtain rfl:=aB h
   exact hK _ _ _ _ _ aJ ak kn
theorem yw {F:Nat} {i2:Int} {s1:List UInt8} {H:AH} {K:Exit→Env→AH→Prop} {o:(Bool)⊕(Unit)}
 (h:iter (eW s1) F i2=some o)
 (dD:∀o':Unit,o= .inr o'→K (.exit 0) [] H)
 (kr:∀o':Bool,o= .inl o'→K .ret [(2,(.bool o'))] H):
 AX Tryz.prog lQ 27 H.length (.loop (erase pX)) K [(0,(.str s1)),(3,(.int .i64 i2))] H:=by
 refine iY (fun s e H1=>match s with|i2=>e=[(0,(.str s1)),(3,(.int .i64 i2))]∧H1=H) h ⟨rfl,rfl⟩ ?_
 rintro K' i2 st e H ⟨rfl,rfl⟩ h hN hB hR hX
 rw [eW.eq_1] at h
 refine aD ?_
 refine bn h (fun hy3 h=> ?_) fun hy3 h=> ?_
 · refine aD ?_
   obtain ⟨t5,cc,h⟩:=aq h
   refine bB ak (yu cc ?_)
   refine aD ?_
   refine bn h (fun cO h=> ?_) fun cO h=> ?_
   · refine aD ?_
     obtain rfl:=aB h
     exact hX _ _ _ _ _ dB aJ ak (kr _ (hR _ rfl))
   · refine aD ?_
     obtain rfl:=aB h
     exact hN _ rfl _ _ _ _ aJ ak ⟨rfl,rfl⟩
 · refine aD ?_
   obtain rfl:=aB h
   exact hX _ _ _ _ _ dB WE.nil ak (dD _ (hB _ rfl))
theorem B5 {F:Nat} {s1:List UInt8} {H0:AH} {aP:Bool} (h:lR F s1=some aP):
 aF Tryz.prog 83 [(.str s1)] H0 fun v H'=>v=(.bool aP)∧H'=H0:=by
 refine fL DK lQ fun hcl K0 aN=> ?_
 rw [lR.eq_1] at h
 refine aD ?_
 refine bB ak (yt (s1:=s1) ?_)
 refine aD ?_
 refine bn h (fun hy2 h=> ?_) fun hy2 h=> ?_
 · refine aD ?_
   obtain rfl:=aB h
   exact aN _ _ _ bk (aK hcl (aX bf (.bool false)) bg aZ ⟨rfl,rfl⟩)
 · refine aD ?_
   obtain ⟨o8,cC,h⟩:=aq h
   refine bB ak (yw cC ?_ ?_)
   · rintro ⟨⟩ rfl
     try dsimp only at h
     refine aD ?_
     obtain rfl:=aB h
     exact aN _ _ _ bk (aK hcl (aX bf (.bool true)) bg aZ ⟨rfl,rfl⟩)
   · rintro r7 rfl
     try dsimp only at h
     refine aD ?_
     obtain rfl:=aB h
     exact aN _ _ _ bk (aK hcl (aX bf (.bool r7)) bg aZ ⟨rfl,rfl⟩)
abbrev sX:av:=(.rg [(aj 5 (.cR (.t 1) 0)),(aj 6 (.ld (.t 5) none)),(aj 7 (.bin .eql (.t 6) (.c (.str [])))),(au 8 7),(ay 9 (.cR (.t 1) 1) 8 true),(ay 10 (.ld (.t 9) none) 8 true),(ay 11 (.bin .eql (.t 10) (.c (.str []))) 8 true),(aj 12 (.pick (.t 8) (.t 11) (.c (.bool false))))])
abbrev sY:av:=(.rg [(aj 32 (.cR (.t 1) 0)),(aj 33 (.ld (.t 32) none)),(au 34 4),(aj 35 (.ixs (.t 33) (.t 34))),(aj 36 (.bin .eql (.t 35) (.c (b8 34)))),(au 37 36),(ay 38 (.cR (.t 1) 0) 37 false),(ay 39 (.ld (.t 38) none) 37 false),(ay 40 (.mv (.t 4)) 37 false),(ay 41 (.ixs (.t 39) (.t 40)) 37 false),(ay 42 (.bin .eql (.t 41) (.c (b8 92))) 37 false),(aj 43 (.pick (.t 37) (.c (.bool true)) (.t 42)))])
abbrev ru:av:=(.seq (.seq (.rg [(au 25 4),(aj 26 (.cR (.t 1) 0)),(aj 27 (.ld (.t 26) none)),(aj 28 (.lens (.t 27))),(aj 29 (.bin .lss (.t 25) (.t 28)))]) (.cond (.t 29) .skip (.exit 0))) (.seq (.blk 1 (.seq (.seq (.sem (erase sY)) (.cond (.t 43) (.rg [(au 44 3),(aj 45 (.ve 1 [(.c (b8 92))])),(aj 46 (.app 1 1 (.t 44) (.t 45))),(aR 3 46)]) .skip)) (.rg [(au 47 3),(aj 48 (.cR (.t 1) 0)),(aj 49 (.ld (.t 48) none)),(au 50 4),(aj 51 (.ixs (.t 49) (.t 50))),(aj 52 (.ve 1 [(.t 51)])),(aj 53 (.app 1 1 (.t 47) (.t 52))),(aR 3 53)]))) (.rg [(au 30 4),(aj 31 (.bin .add (.t 30) (.c (.int .i64 1)))),(aR 4 31)])))
abbrev sZ:av:=(.rg [(au 54 3),(aj 59 (.cR (.t 1) 1)),(aj 60 (.Ea (.t 59) none)),(aj 55 (.ve 1 [(.c (b8 34))])),(aj 56 (.app 1 1 (.t 54) (.t 55))),(aj 57 (.HI (.t 56))),(aj 58 (.bin .add (.t 57) (.c (.str [64])))),(aj 61 (.bin .add (.t 58) (.t 60))),(aj 62 (.bin .add (.t 61) (.c (.str [62])))),(aR 2 62)])
abbrev EW:av:=(.seq (.rg [(aj 1 (.box (.t 0))),(aj 2 (.aO (.c (.str []))))]) (.seq (.seq (.sem (erase sX)) (.cond (.t 12) (.seq (.rg [(aj 2 (.aO (.c (.str [60,62]))))]) .ret) .skip)) (.seq (.seq (.rg [(aj 13 (.cR (.t 1) 0)),(aj 14 (.ld (.t 13) none)),(aj 15 (.call (.c (.fn 84 [])) [(.t 14)]))]) (.cond (.t 15) (.seq (.rg [(aj 16 (.cR (.t 1) 0)),(aj 17 (.ld (.t 16) none)),(aj 18 (.bin .add (.c (.str [60])) (.t 17))),(aj 19 (.bin .add (.t 18) (.c (.str [64])))),(aj 20 (.cR (.t 1) 1)),(aj 21 (.ld (.t 20) none)),(aj 22 (.bin .add (.t 19) (.t 21))),(aj 23 (.bin .add (.t 22) (.c (.str [62])))),(aR 2 23)]) .ret) .skip)) (.seq (.rg [(aj 24 (.ve 1 [(.c (b8 60)),(.c (b8 34))])),(aR 3 24)]) (.seq (.seq (.rg [(aj 4 (.aO (.c (.int .i64 0))))]) (.blk 0 (.loop (erase ru)))) (.seq (.sem (erase sZ)) .ret))))))
theorem EX:bQ Tryz.prog 59 63 [(.tmp 2)] (erase EW):=⟨Tryz.f59,_,rfl,by decide,rfl,by kernel_rfl,rfl,rfl⟩
abbrev kD:List Nat:=[0,1,2,3,4,12,15,29,43]
def lS (a1:aC) (i10:Int):Option (Bool):=
 (idx a1.ax i10).bind fun rU=>
 (if (decide (rU=34)) then
  some true
 else
  some (decide (rU=92)))
def fA (a1:aC):((List UInt8)×Int)→Option (St (List UInt8) (List UInt8) ((List UInt8)×Int))
 |(b9,i10)=>
  (if (decide (i10<(a1.ax.length:Int))) then
   (lS a1 i10).bind fun t14=>
   (if t14 then
    (eE 1 b9 ([92]:List UInt8)).bind fun nu=>
    (idx a1.ax i10).bind fun j8=>
    (eE 1 nu ([j8]:List UInt8)).bind fun mF=>some (.cB (mF,(IntKind.wrap .i64 (i10+1))))
   else
    (idx a1.ax i10).bind fun He=>
    (eE 1 b9 ([He]:List UInt8)).bind fun AK=>some (.cB (AK,(IntKind.wrap .i64 (i10+1)))))
  else
   some (.eg b9))
def lT (JM:List UInt8) (a1:aC):Option ((List UInt8)):=
 (eE 1 JM ([34]:List UInt8)).bind fun Z7=>
 (cat Z7 ([64]:List UInt8)).bind fun Jv=>
 (cat Jv a1.domain).bind fun Jw=>(cat Jw ([62]:List UInt8)).bind fun De=>some De
def mZ (F:Nat) (a1:aC):Option ((List UInt8)):=
 (if ((decide (a1.ax=([]:List UInt8)))&&(decide (a1.domain=([]:List UInt8)))) then
  some ([60,62]:List UInt8)
 else
  (jI F a1.ax).bind fun r3=>
  (if r3 then
   (cat ([60]:List UInt8) a1.ax).bind fun x4=>
   (cat x4 ([64]:List UInt8)).bind fun x5=>
   (cat x5 a1.domain).bind fun x6=>(cat x6 ([62]:List UInt8)).bind fun x7=>some x7
  else
   ((iter (fA a1) F (([60,34]:List UInt8),0)).bind fun T6=>
   match T6 with
   | .inr JM=>
     (lT JM a1).bind fun t27=>
     some t27
   | .inl _=>none)))
theorem zD {q2:Nat} {a1:aC} {H0 H:AH} (hfr:Fr H0 H0.length [] H) (ai:H[q2]? =some [(.str a1.ax),(.str a1.domain)]) (dZ:H0.length≤q2) {K:Exit→Env→AH→Prop}
 (kn:∀H':AH,Fr H0 H0.length [] H'→H'[q2]? =some [(.str a1.ax),(.str a1.domain)]→K .normal [(1,(.ptr q2 0)),(12,(.bool ((decide (a1.ax=([]:List UInt8)))&&(decide (a1.domain=([]:List UInt8))))))] H'):
 AX Tryz.prog kD 63 H0.length (erase sX) K [(1,(.ptr q2 0))] H:=by
 refine b7 fun K' hK=> ?_
 have hle:=hfr.le
 have aM:=aQ ai
 refine az ai ?_
 refine nj (fun hy1=> ?_) fun hy1=> ?_
 · refine az (aI hy1 ai) ?_
   exact hK _ _ _ _ _ (fI hy1) ak (kn _ hfr (ai.trans rfl))
 · refine az (aI hy1 ai) ?_
   exact hK _ _ _ _ _ (fI hy1) ak (kn _ hfr (ai.trans rfl))
theorem zE {a1:aC} {i10:Int} {QG:Nat} {b9:List UInt8} {H0 H:AH} (hfr:Fr H0 H0.length [] H) (ai:H[QG]? =some [(.str a1.ax),(.str a1.domain)]) (dZ:H0.length≤QG) {K:Exit→Env→AH→Prop} {t13:Bool}
 (h:lS a1 i10=some t13)
 (kn:∀H':AH,Fr H0 H0.length [] H'→H'[QG]? =some [(.str a1.ax),(.str a1.domain)]→K .normal [(1,(.ptr QG 0)),(3,(.sl .own 1 (ml b8 b9))),(4,(.int .i64 i10)),(43,(.bool t13))] H'):
 AX Tryz.prog kD 63 H0.length (erase sY) K [(1,(.ptr QG 0)),(3,(.sl .own 1 (ml b8 b9))),(4,(.int .i64 i10))] H:=by
 refine b7 fun K' hK=> ?_
 have hle:=hfr.le
 have aM:=aQ ai
 rw [lS.eq_1] at h
 obtain ⟨rU,cx,h⟩:=aq h
 refine az (aI cx ai) ?_
 refine bV h (fun cJ h=> ?_) fun cJ h=> ?_
 · refine az (aI cJ ai) ?_
   obtain rfl:=aB h
   exact hK _ _ _ _ _ aJ ak (kn _ hfr (ai.trans rfl))
 · refine az (aI cJ (aI cx ai)) ?_
   obtain rfl:=aB h
   exact hK _ _ _ _ _ aJ ak (kn _ hfr (ai.trans rfl))
theorem zF {F:Nat} {i10:Int} {a1:aC} {b9:List UInt8} {q8:Nat} {H0 H:AH} (hfr:Fr H0 H0.length [] H) (ai:H[q8]? =some [(.str a1.ax),(.str a1.domain)]) (dZ:H0.length≤q8) {K:Exit→Env→AH→Prop} {o:((List UInt8))⊕((List UInt8))}
 (h:iter (fA a1) F (b9,i10)=some o)
 (dD:∀o':(List UInt8),o= .inr o'→∀H':AH,Fr H0 H0.length [] H'→H'[q8]? =some [(.str a1.ax),(.str a1.domain)]→K (.exit 0) [(1,(.ptr q8 0)),(3,(.sl .own 1 (ml b8 o')))] H'):
 AX Tryz.prog kD 63 H0.length (.loop (erase ru)) K [(1,(.ptr q8 0)),(3,(.sl .own 1 (ml b8 b9))),(4,(.int .i64 i10))] H:=by
 refine iY (fun s e H1=>match s with|(b9,i10)=>e=[(1,(.ptr q8 0)),(3,(.sl .own 1 (ml b8 b9))),(4,(.int .i64 i10))]∧Fr H0 H0.length [] H1∧H1[q8]? =some [(.str a1.ax),(.str a1.domain)]) h ⟨rfl,hfr,ai⟩ ?_
 rintro K' ⟨b9,i10⟩ st e H ⟨rfl,hfr,ai⟩ h hN hB hR hX
 have hle:=hfr.le
 have aM:=aQ ai
 rw [fA.eq_1] at h
 refine az ai ?_
 refine bn h (fun cX h=> ?_) fun cX h=> ?_
 · refine az ai ?_
   obtain ⟨t14,cV,h⟩:=aq h
   refine bB ak (zE (b9:=b9) (QG:=q8) hfr (ai.trans rfl) ct cV ?_)
   intro H hfr ai
   have hle:=hfr.le
   have aM:=aQ ai
   refine az ai ?_
   refine bn h (fun cS h=> ?_) fun cS h=> ?_
   · obtain ⟨nu,eI,h⟩:=aq h
     have fW:eE 1 (ml b8 b9) [(b8 92)]=some (ml b8 nu):=mJ (f:=b8) eI
     obtain ⟨j8,eM,h⟩:=aq h
     obtain ⟨mF,ko,h⟩:=aq h
     have jg:eE 1 (ml b8 nu) [(b8 j8)]=some (ml b8 mF):=mJ (f:=b8) ko
     refine az (aI fW (aI eM (aI jg ai))) ?_
     obtain rfl:=aB h
     exact hN _ rfl _ _ _ _ aJ ak ⟨rfl,hfr,(ai.trans rfl)⟩
   · obtain ⟨He,gZ,h⟩:=aq h
     obtain ⟨AK,kq,h⟩:=aq h
     have jh:eE 1 (ml b8 b9) [(b8 He)]=some (ml b8 AK):=mJ (f:=b8) kq
     refine az (aI gZ (aI jh ai)) ?_
     obtain rfl:=aB h
     exact hN _ rfl _ _ _ _ aJ ak ⟨rfl,hfr,(ai.trans rfl)⟩
 · refine az ai ?_
   obtain rfl:=aB h
   exact hX _ _ _ _ _ dB aJ ak (dD _ (hB _ rfl) _ hfr (ai.trans rfl))
theorem zG {JM:List UInt8} {a1:aC} {H0 H:AH} (hfr:Fr H0 H0.length [] H) {K:Exit→Env→AH→Prop} {t26:List UInt8}
 (h:lT JM a1=some t26)
 (kn:∀H':AH,Fr H0 H0.length [] H'→K .normal [(2,(.str t26))] H'):
 AX Tryz.prog kD 63 H0.length (erase sZ) K [(1,(.ep (.agg [(.str a1.ax),(.str a1.domain)]) 0)),(3,(.sl .own 1 (ml b8 JM)))] H:=by
 refine b7 fun K' hK=> ?_
 have hle:=hfr.le
 rw [lT.eq_1] at h
 obtain ⟨Z7,lG,h⟩:=aq h
 have jU:eE 1 (ml b8 JM) [(b8 34)]=some (ml b8 Z7):=mJ (f:=b8) lG
 obtain ⟨Jv,kz,h⟩:=aq h
 obtain ⟨Jw,mU,h⟩:=aq h
 obtain ⟨De,vW,h⟩:=aq h
 refine az (aI jU (aI kz (aI mU vW))) ?_
 obtain rfl:=aB h
 exact hK _ _ _ _ _ aJ ak (kn _ hfr)
theorem DL {F:Nat} {a1:aC} {H0:AH} {aP:List UInt8} (h:mZ F a1=some aP):
 aF Tryz.prog 59 [(.agg [(.str a1.ax),(.str a1.domain)])] H0 fun v H'=>v=(.str aP)∧H'=H0:=by
 refine nk EX kD [] fun hcl K0 aN H hH hfr=> ?_
 clear hH
 have hle:=hfr.le
 rw [mZ.eq_1] at h
 refine ei ?_
 obtain ⟨q2,kU⟩:∃q:Nat,H.length=q:=⟨_,rfl⟩
 try rw [kU]
 refine bB ak (zD (q2:=q2) (a1:=a1) (Fr.app hfr) uR ct ?_)
 intro H hfr ai
 have hle:=hfr.le
 have aM:=aQ ai
 refine az ai ?_
 refine bn h (fun hy2 h=> ?_) fun hy2 h=> ?_
 · refine az ai ?_
   obtain rfl:=aB h
   exact aN _ _ _ bk (aV hfr hcl (aX bf (.str ([60,62]:List UInt8))) bg aZ ⟨rfl,rfl⟩)
 · refine az ai ?_
   obtain ⟨r3,hy3,h⟩:=aq h
   refine bE ak (uP hy3) ?_
   refine az ai ?_
   refine bn h (fun hy4 h=> ?_) fun hy4 h=> ?_
   · obtain ⟨x4,bM,h⟩:=aq h
     obtain ⟨x5,cc,h⟩:=aq h
     obtain ⟨x6,cO,h⟩:=aq h
     obtain ⟨x7,cC,h⟩:=aq h
     refine az (aI bM (aI cc (aI cO (aI cC ai)))) ?_
     obtain rfl:=aB h
     exact aN _ _ _ bk (aV hfr hcl (aX bf (.str x7)) bg aZ ⟨rfl,rfl⟩)
   · refine az ai ?_
     obtain ⟨T6,ku,h⟩:=aq h
     refine bB ak (zF (q8:=q2) hfr (ai.trans rfl) ct ku ?_)
     · rintro JM rfl H hfr ai
       try dsimp only at h ai
       have hle:=hfr.le
       have aM:=aQ ai
       refine az ai ?_
       refine W0 ?_
       apply AX.freeze (s:=q2) (cs:=[(.str a1.ax),(.str a1.domain)]) (by exact (ai.trans rfl)) (gV.same (gV.same (gV.nil))) (by simp) rfl
       · repeat (first|exact FZ.nil|apply FZ.ep|apply FZ.same)
       refine ZY ?_
       obtain ⟨t27,zC,h⟩:=aq h
       refine bB ak (zG (cj _ hfr) zC ?_)
       intro H hfr
       have hle:=hfr.le
       refine ei ?_
       obtain rfl:=aB h
       exact aN _ _ _ bk (aV hfr hcl (aX bf (.str t27)) bg aZ ⟨rfl,rfl⟩)
abbrev ry:av:=(.rg [(aj 3 (.cR (.t 1) 0)),(aj 4 (.ld (.t 3) none)),(aj 5 (.bin .eql (.t 4) (.c (.str [])))),(au 6 5),(ay 7 (.cR (.t 1) 1) 6 true),(ay 8 (.ld (.t 7) none) 6 true),(ay 9 (.bin .eql (.t 8) (.c (.str []))) 6 true),(aj 10 (.pick (.t 6) (.t 9) (.c (.bool false))))])
abbrev rz:av:=(.rg [(aj 11 (.cR (.t 1) 0)),(aj 12 (.ld (.t 11) none)),(aj 13 (.call (.c (.fn 83 [])) [(.t 12)])),(au 14 13),(ay 15 (.cR (.t 1) 1) 14 true),(ay 16 (.ld (.t 15) none) 14 true),(ay 17 (.call (.c (.fn 28 [])) [(.t 16)]) 14 true),(aj 18 (.pick (.t 14) (.t 17) (.c (.bool false)))),(au 19 18),(ay 20 (.ld (.t 1) (some 2)) 19 true),(ay 21 (.call (.c (.fn 59 [])) [(.t 20)]) 19 true),(ay 22 (.lens (.t 21)) 19 true),(ay 23 (.bin .leq (.t 22) (.c (.int .i64 256))) 19 true),(aj 24 (.pick (.t 19) (.t 23) (.c (.bool false)))),(aR 2 24)])
abbrev DM:av:=(.seq (.rg [(aj 1 (.box (.t 0))),(aj 2 (.aO (.c (.bool false))))]) (.seq (.seq (.sem (erase ry)) (.cond (.t 10) (.seq (.rg [(aj 2 (.aO (.c (.bool true))))]) .ret) .skip)) (.seq (.sem (erase rz)) .ret)))
theorem DN:bQ Tryz.prog 58 25 [(.tmp 2)] (erase DM):=⟨Tryz.f58,_,rfl,by decide,rfl,by kernel_rfl,rfl,rfl⟩
abbrev pY:List Nat:=[0,1,2,10]
def kK (F:Nat) (a1:aC):Option (Bool):=
 (lR F a1.ax).bind fun r4=>
 (if r4 then
  (cW F a1.domain).bind fun r5=>
  (if r5 then
   (mZ F a1).bind fun r6=>some (decide ((r6.length:Int)≤256))
  else
   some false)
 else
  some false)
def lU (F:Nat) (a1:aC):Option (Bool):=
 (if ((decide (a1.ax=([]:List UInt8)))&&(decide (a1.domain=([]:List UInt8)))) then
  some true
 else
  (kK F a1).bind fun t8=>
  some t8)
theorem yx {q2:Nat} {a1:aC} {H0 H:AH} (hfr:Fr H0 H0.length [] H) (ai:H[q2]? =some [(.str a1.ax),(.str a1.domain)]) (dZ:H0.length≤q2) {K:Exit→Env→AH→Prop}
 (kn:∀H':AH,Fr H0 H0.length [] H'→H'[q2]? =some [(.str a1.ax),(.str a1.domain)]→K .normal [(1,(.ptr q2 0)),(10,(.bool ((decide (a1.ax=([]:List UInt8)))&&(decide (a1.domain=([]:List UInt8))))))] H'):
 AX Tryz.prog pY 25 H0.length (erase ry) K [(1,(.ptr q2 0))] H:=by
 refine b7 fun K' hK=> ?_
 have hle:=hfr.le
 have aM:=aQ ai
 refine az ai ?_
 refine nj (fun hy1=> ?_) fun hy1=> ?_
 · refine az (aI hy1 ai) ?_
   exact hK _ _ _ _ _ (fI hy1) ak (kn _ hfr (ai.trans rfl))
 · refine az (aI hy1 ai) ?_
   exact hK _ _ _ _ _ (fI hy1) ak (kn _ hfr (ai.trans rfl))
theorem yy {F:Nat} {a1:aC} {q3:Nat} {H0 H:AH} (hfr:Fr H0 H0.length [] H) (ai:H[q3]? =some [(.str a1.ax),(.str a1.domain)]) (dZ:H0.length≤q3) {K:Exit→Env→AH→Prop} {t7:Bool}
 (h:kK F a1=some t7)
 (kn:∀H':AH,Fr H0 H0.length [] H'→H'[q3]? =some [(.str a1.ax),(.str a1.domain)]→K .normal [(2,(.bool t7))] H'):
 AX Tryz.prog pY 25 H0.length (erase rz) K [(1,(.ptr q3 0))] H:=by
 refine b7 fun K' hK=> ?_
 have hle:=hfr.le
 have aM:=aQ ai
 rw [kK.eq_1] at h
 refine az ai ?_
 obtain ⟨r4,hy3,h⟩:=aq h
 refine bE ak (B5 hy3) ?_
 refine az ai ?_
 refine bV h (fun hy4 h=> ?_) fun hy4 h=> ?_
 · refine az (aI hy4 ai) ?_
   obtain ⟨r5,bM,h⟩:=aq h
   refine bE ak (mH bM) ?_
   refine az ai ?_
   refine bV h (fun cc h=> ?_) fun cc h=> ?_
   · refine az (aI cc ai) ?_
     obtain ⟨r6,cO,h⟩:=aq h
     refine bE ak (DL cO) ?_
     refine az ai ?_
     obtain rfl:=aB h
     exact hK _ _ _ _ _ aJ ak (kn _ hfr (ai.trans rfl))
   · refine az (aI cc ai) ?_
     obtain rfl:=aB h
     exact hK _ _ _ _ _ aJ ak (kn _ hfr (ai.trans rfl))
 · refine az (aI hy4 ai) ?_
   obtain rfl:=aB h
   exact hK _ _ _ _ _ aJ ak (kn _ hfr (ai.trans rfl))
theorem B6 {F:Nat} {a1:aC} {H0:AH} {aP:Bool} (h:lU F a1=some aP):
 aF Tryz.prog 58 [(.agg [(.str a1.ax),(.str a1.domain)])] H0 fun v H'=>v=(.bool aP)∧H'=H0:=by
 refine nk DN pY [] fun hcl K0 aN H hH hfr=> ?_
 clear hH
 have hle:=hfr.le
 rw [lU.eq_1] at h
 refine ei ?_
 obtain ⟨q2,kU⟩:∃q:Nat,H.length=q:=⟨_,rfl⟩
 try rw [kU]
 refine bB ak (yx (q2:=q2) (a1:=a1) (Fr.app hfr) uR ct ?_)
 intro H hfr ai
 have hle:=hfr.le
 have aM:=aQ ai
 refine az ai ?_
 refine bn h (fun hy2 h=> ?_) fun hy2 h=> ?_
 · refine az ai ?_
   obtain rfl:=aB h
   exact aN _ _ _ bk (aV hfr hcl (aX bf (.bool true)) bg aZ ⟨rfl,rfl⟩)
 · refine az ai ?_
   obtain ⟨t8,cC,h⟩:=aq h
   refine bB ak (yy (q3:=q2) hfr (ai.trans rfl) ct cC ?_)
   intro H hfr ai
   have hle:=hfr.le
   have aM:=aQ ai
   refine az ai ?_
   obtain rfl:=aB h
   exact aN _ _ _ bk (aV hfr hcl (aX bf (.bool t8)) bg aZ ⟨rfl,rfl⟩)
end Go.Proofs.cY
end
section
set_option maxRecDepth 100000
namespace Go.Proofs.cY
open Go Go.Am Go.Proofs
open Nat renaming reduceEqDiff→nA,reduceLT→nB,reduceLeDiff→nC,reduceAdd→nD,reduceSub→nE,reduceMul→nF,reduceBEq→nG
set_option maxHeartbeats 2000000
abbrev s3:av:=(.rg [(au 11 0),(aj 12 (.bin .eql (.t 11) (.c (.str [])))),(au 13 12),(ay 14 (.mv (.t 0)) 13 false),(ay 15 (.ixs (.t 14) (.c (.int .i64 0))) 13 false),(ay 16 (.bin .neq (.t 15) (.c (b8 60))) 13 false),(aj 17 (.pick (.t 13) (.c (.bool true)) (.t 16)))])
abbrev s6:av:=(.rg [(au 19 0),(aj 20 (.lens (.t 19))),(aj 21 (.bin .gtr (.t 20) (.c (.int .i64 1)))),(au 22 21),(ay 23 (.mv (.t 0)) 22 true),(ay 24 (.ixs (.t 23) (.c (.int .i64 1))) 22 true),(ay 25 (.bin .eql (.t 24) (.c (b8 62))) 22 true),(aj 26 (.pick (.t 22) (.t 25) (.c (.bool false))))])
abbrev s7:av:=(.rg [(au 45 8),(aj 46 (.bin .lss (.t 45) (.c (.int .i64 0)))),(au 47 46),(ay 48 (.mv (.t 8)) 47 false),(ay 49 (.mv (.t 6)) 47 false),(ay 50 (.lens (.t 49)) 47 false),(ay 51 (.bin .geq (.t 48) (.t 50)) 47 false),(aj 52 (.pick (.t 47) (.c (.bool true)) (.t 51))),(au 53 52),(ay 54 (.mv (.t 6)) 53 false),(ay 55 (.mv (.t 8)) 53 false),(ay 56 (.ixs (.t 54) (.t 55)) 53 false),(ay 57 (.bin .neq (.t 56) (.c (b8 64))) 53 false),(aj 58 (.pick (.t 53) (.c (.bool true)) (.t 57)))])
abbrev td:av:=(.rg [(au 66 6),(au 67 9),(aj 68 (.gT (.t 66) none (some (.t 67)))),(aj 69 (.call (.c (.fn 79 [])) [(.t 68)])),(aj 70 (.un .not (.t 69))),(au 71 70),(ay 72 (.mv (.t 9)) 71 false),(ay 73 (.mv (.t 6)) 71 false),(ay 74 (.lens (.t 73)) 71 false),(ay 75 (.bin .geq (.t 72) (.t 74)) 71 false),(aj 76 (.pick (.t 71) (.c (.bool true)) (.t 75))),(au 77 76),(ay 78 (.mv (.t 6)) 77 false),(ay 79 (.mv (.t 9)) 77 false),(ay 80 (.ixs (.t 78) (.t 79)) 77 false),(ay 81 (.bin .neq (.t 80) (.c (b8 62))) 77 false),(aj 82 (.pick (.t 77) (.c (.bool true)) (.t 81)))])
abbrev tf:av:=(.rg [(aj 93 (.Ea (.t 10) (some 2))),(au 94 6),(au 95 9),(aj 96 (.bin .add (.t 95) (.c (.int .i64 1)))),(aj 97 (.gT (.t 94) (some (.t 96)) none)),(cZ (.st (.t 2) (.t 93) 2)),(aR 3 97),(aj 4 (.aO (.c (.int .i64 0))))])
abbrev EY:av:=(.seq (.rg [(aj 2 (.alloc [(.str []),(.str [])])),(aj 3 (.aO (.c (.str [])))),(aj 4 (.aO (.c (.int .i64 0))))]) (.seq (.seq (.sem (erase s3)) (.cond (.t 17) (.seq (.rg [(aj 18 (.build [(.str []),(.str [])] [])),(cZ (.st (.t 2) (.t 18) 2)),(aj 3 (.aO (.c (.str [])))),(aj 4 (.aO (.c (.int .i64 3))))]) .ret) .skip)) (.seq (.seq (.sem (erase s6)) (.cond (.t 26) (.seq (.rg [(aj 27 (.build [(.str []),(.str [])] [])),(au 28 0),(aj 29 (.gT (.t 28) (some (.c (.int .i64 2))) none)),(cZ (.st (.t 2) (.t 27) 2)),(aR 3 29),(aj 4 (.aO (.c (.int .i64 0))))]) .ret) .skip)) (.seq (.rg [(au 30 0),(aj 31 (.gT (.t 30) (some (.c (.int .i64 1))) none)),(aj 32 (.call (.c (.fn 76 [])) [(.t 31)])),(aR 5 32)]) (.seq (.seq (.rg [(au 33 5),(aj 34 (.bin .lss (.t 33) (.c (.int .i64 0))))]) (.cond (.t 34) (.seq (.rg [(aj 35 (.build [(.str []),(.str [])] [])),(cZ (.st (.t 2) (.t 35) 2)),(aj 3 (.aO (.c (.str [])))),(aj 4 (.aO (.c (.int .i64 3))))]) .ret) .skip)) (.seq (.rg [(au 36 0),(au 37 5),(aj 38 (.bin .add (.c (.int .i64 1)) (.t 37))),(aj 39 (.gT (.t 36) (some (.t 38)) none)),(aR 6 39)]) (.seq (.rg [(au 41 6),(aj 42 (.call (.c (.fn 77 [])) [(.t 41)])),(au 40 42),(aj 43 (.ext (.t 40) 0)),(aj 44 (.ext (.t 40) 1)),(aR 7 43),(aR 8 44)]) (.seq (.seq (.sem (erase s7)) (.cond (.t 58) (.seq (.rg [(aj 59 (.build [(.str []),(.str [])] [])),(cZ (.st (.t 2) (.t 59) 2)),(aj 3 (.aO (.c (.str [])))),(aj 4 (.aO (.c (.int .i64 3))))]) .ret) .skip)) (.seq (.rg [(au 60 6),(au 61 8),(aj 62 (.bin .add (.t 61) (.c (.int .i64 1)))),(aj 63 (.gT (.t 60) (some (.t 62)) none)),(aR 6 63)]) (.seq (.rg [(au 64 6),(aj 65 (.call (.c (.fn 78 [])) [(.t 64)])),(aR 9 65)]) (.seq (.seq (.sem (erase td)) (.cond (.t 82) (.seq (.rg [(aj 83 (.build [(.str []),(.str [])] [])),(cZ (.st (.t 2) (.t 83) 2)),(aj 3 (.aO (.c (.str [])))),(aj 4 (.aO (.c (.int .i64 3))))]) .ret) .skip)) (.seq (.rg [(au 84 7),(au 85 6),(au 86 9),(aj 87 (.gT (.t 85) none (some (.t 86)))),(aj 88 (.build [(.str []),(.str [])] [(0,(1,(.t 84))),(1,(1,(.t 87)))])),(aj 10 (.alloc [(.str []),(.str [])])),(cZ (.st (.t 10) (.t 88) 2))]) (.seq (.seq (.rg [(aj 89 (.ld (.t 10) (some 2))),(aj 90 (.call (.c (.fn 58 [])) [(.t 89)])),(aj 91 (.un .not (.t 90)))]) (.cond (.t 91) (.seq (.rg [(aj 92 (.build [(.str []),(.str [])] [])),(cZ (.st (.t 2) (.t 92) 2)),(aj 3 (.aO (.c (.str [])))),(aj 4 (.aO (.c (.int .i64 5))))]) .ret) .skip)) (.seq (.sem (erase tf)) .ret))))))))))))))
theorem EZ:bQ Tryz.prog 51 98 [(.cell 2 24),(.tmp 3),(.tmp 4)] (erase EY):=⟨Tryz.f51,_,rfl,by decide,rfl,by kernel_rfl,rfl,rfl⟩
abbrev iI:List Nat:=[0,2,3,4,5,6,7,8,9,10,17,26,34,58,82,91]
def ji (s1:List UInt8):Option (Bool):=
 (if (decide (s1=([]:List UInt8))) then
  some true
 else
  (idx s1 0).bind fun x3=>some (!decide (x3=60)))
def jj (s1:List UInt8):Option (Bool):=
 (if (decide (1<(s1.length:Int))) then
  (idx s1 1).bind fun x7=>some (decide (x7=62))
 else
  some false)
def jk (gv:Int) (kj:List UInt8):Option (Bool):=
 (if (decide (gv<0)) then
  some true
 else
  (if (decide ((kj.length:Int)≤gv)) then
   some true
  else
   (idx kj gv).bind fun mF=>some (!decide (mF=64))))
def jl (F:Nat) (nH:List UInt8) (lK:Int):Option (Bool):=
 (sub nH 0 lK).bind fun Jv=>
 (jG F Jv).bind fun QF=>
 (if (!QF) then
  some true
 else
  (if (decide ((nH.length:Int)≤lK)) then
   some true
  else
   (idx nH lK).bind fun De=>some (!decide (De=62))))
def lV (nH:List UInt8) (lK:Int) (iO:List UInt8) (A2:List UInt8):Option ((List UInt8)×Int×aC):=
 (sub nH (IntKind.wrap .i64 (lK+1)) (nH.length:Int)).bind fun x31=>some (x31,0,(aC.mk iO A2))
def nc (F:Nat) (s1:List UInt8):Option (aC×(List UInt8)×Int):=
 (ji s1).bind fun t5=>
 (if t5 then
  some ((aC.mk ([]:List UInt8) ([]:List UInt8)),([]:List UInt8),3)
 else
  (jj s1).bind fun t9=>
  (if t9 then
   (sub s1 2 (s1.length:Int)).bind fun wO=>
   some ((aC.mk ([]:List UInt8) ([]:List UInt8)),wO,0)
  else
   (sub s1 1 (s1.length:Int)).bind fun gf=>
   (jH F gf).bind fun iM=>
   (if (decide (iM<0)) then
    some ((aC.mk ([]:List UInt8) ([]:List UInt8)),([]:List UInt8),3)
   else
    (sub s1 (IntKind.wrap .i64 (1+iM)) (s1.length:Int)).bind fun kj=>
    (jJ F kj).bind fun (iO,gv)=>
    (jk gv kj).bind fun t19=>
    (if t19 then
     some ((aC.mk ([]:List UInt8) ([]:List UInt8)),([]:List UInt8),3)
    else
     (sub kj (IntKind.wrap .i64 (gv+1)) (kj.length:Int)).bind fun nH=>
     (iH F nH).bind fun lK=>
     (jl F nH lK).bind fun t27=>
     (if t27 then
      some ((aC.mk ([]:List UInt8) ([]:List UInt8)),([]:List UInt8),3)
     else
      (sub nH 0 lK).bind fun A2=>
      (lU F (aC.mk iO A2)).bind fun Ua=>
      (if (!Ua) then
       some ((aC.mk ([]:List UInt8) ([]:List UInt8)),([]:List UInt8),5)
      else
       (lV nH lK iO A2).bind fun (t35,t36,QH)=>
       some (QH,t35,t36)))))))
theorem zH {s1:List UInt8} {q2:Nat} {H0 H:AH} (hfr:Fr H0 H0.length [] H) (ai:H[q2]? =some [(.str ([]:List UInt8)),(.str ([]:List UInt8))]) (dZ:H0.length≤q2) {K:Exit→Env→AH→Prop} {t4:Bool}
 (h:ji s1=some t4)
 (kn:∀H':AH,Fr H0 H0.length [] H'→H'[q2]? =some [(.str ([]:List UInt8)),(.str ([]:List UInt8))]→K .normal [(0,(.str s1)),(2,(.ptr q2 0)),(17,(.bool t4))] H'):
 AX Tryz.prog iI 98 H0.length (erase s3) K [(0,(.str s1)),(2,(.ptr q2 0))] H:=by
 refine b7 fun K' hK=> ?_
 have hle:=hfr.le
 have aM:=aQ ai
 rw [ji.eq_1] at h
 refine az ai ?_
 refine bV h (fun hy1 h=> ?_) fun hy1 h=> ?_
 · refine az (aI hy1 ai) ?_
   obtain rfl:=aB h
   exact hK _ _ _ _ _ aJ ak (kn _ hfr (ai.trans rfl))
 · obtain ⟨x3,hy2,h⟩:=aq h
   refine az (aI hy1 (aI hy2 ai)) ?_
   obtain rfl:=aB h
   exact hK _ _ _ _ _ aJ ak (kn _ hfr (ai.trans rfl))
theorem zI {s1:List UInt8} {q6:Nat} {H0 H:AH} (hfr:Fr H0 H0.length [] H) (ai:H[q6]? =some [(.str ([]:List UInt8)),(.str ([]:List UInt8))]) (dZ:H0.length≤q6) {K:Exit→Env→AH→Prop} {t8:Bool}
 (h:jj s1=some t8)
 (kn:∀H':AH,Fr H0 H0.length [] H'→H'[q6]? =some [(.str ([]:List UInt8)),(.str ([]:List UInt8))]→K .normal [(0,(.str s1)),(2,(.ptr q6 0)),(26,(.bool t8))] H'):
 AX Tryz.prog iI 98 H0.length (erase s6) K [(0,(.str s1)),(2,(.ptr q6 0))] H:=by
 refine b7 fun K' hK=> ?_
 have hle:=hfr.le
 have aM:=aQ ai
 rw [jj.eq_1] at h
 refine az ai ?_
 refine bV h (fun bM h=> ?_) fun bM h=> ?_
 · obtain ⟨x7,cc,h⟩:=aq h
   refine az (aI bM (aI cc ai)) ?_
   obtain rfl:=aB h
   exact hK _ _ _ _ _ aJ ak (kn _ hfr (ai.trans rfl))
 · refine az (aI bM ai) ?_
   obtain rfl:=aB h
   exact hK _ _ _ _ _ aJ ak (kn _ hfr (ai.trans rfl))
theorem zJ {gv:Int} {kj:List UInt8} {zK:Nat} {iO:List UInt8} {H0 H:AH} (hfr:Fr H0 H0.length [] H) (ai:H[zK]? =some [(.str ([]:List UInt8)),(.str ([]:List UInt8))]) (dZ:H0.length≤zK) {K:Exit→Env→AH→Prop} {t18:Bool}
 (h:jk gv kj=some t18)
 (kn:∀H':AH,Fr H0 H0.length [] H'→H'[zK]? =some [(.str ([]:List UInt8)),(.str ([]:List UInt8))]→K .normal [(2,(.ptr zK 0)),(6,(.str kj)),(7,(.str iO)),(8,(.int .i64 gv)),(58,(.bool t18))] H'):
 AX Tryz.prog iI 98 H0.length (erase s7) K [(2,(.ptr zK 0)),(6,(.str kj)),(7,(.str iO)),(8,(.int .i64 gv))] H:=by
 refine b7 fun K' hK=> ?_
 have hle:=hfr.le
 have aM:=aQ ai
 rw [jk.eq_1] at h
 refine az ai ?_
 refine bV h (fun fW h=> ?_) fun fW h=> ?_
 · refine az (aI fW ai) ?_
   obtain rfl:=aB h
   exact hK _ _ _ _ _ aJ ak (kn _ hfr (ai.trans rfl))
 · refine az (aI fW ai) ?_
   refine bV h (fun eM h=> ?_) fun eM h=> ?_
   · refine az (aI eM ai) ?_
     obtain rfl:=aB h
     exact hK _ _ _ _ _ aJ ak (kn _ hfr (ai.trans rfl))
   · obtain ⟨mF,ko,h⟩:=aq h
     refine az (aI eM (aI ko ai)) ?_
     obtain rfl:=aB h
     exact hK _ _ _ _ _ aJ ak (kn _ hfr (ai.trans rfl))
theorem zL {F:Nat} {nH:List UInt8} {lK:Int} {og:Nat} {iO:List UInt8} {H0 H:AH} (hfr:Fr H0 H0.length [] H) (ai:H[og]? =some [(.str ([]:List UInt8)),(.str ([]:List UInt8))]) (dZ:H0.length≤og) {K:Exit→Env→AH→Prop} {t26:Bool}
 (h:jl F nH lK=some t26)
 (kn:∀H':AH,Fr H0 H0.length [] H'→H'[og]? =some [(.str ([]:List UInt8)),(.str ([]:List UInt8))]→K .normal [(2,(.ptr og 0)),(6,(.str nH)),(7,(.str iO)),(9,(.int .i64 lK)),(82,(.bool t26))] H'):
 AX Tryz.prog iI 98 H0.length (erase td) K [(2,(.ptr og 0)),(6,(.str nH)),(7,(.str iO)),(9,(.int .i64 lK))] H:=by
 refine b7 fun K' hK=> ?_
 have hle:=hfr.le
 have aM:=aQ ai
 rw [jl.eq_1] at h
 obtain ⟨Jv,ku,h⟩:=aq h
 refine az (aI ku ai) ?_
 obtain ⟨QF,lG,h⟩:=aq h
 refine bE ak (uN lG) ?_
 refine az ai ?_
 refine bV h (fun jU h=> ?_) fun jU h=> ?_
 · refine az (aI jU ai) ?_
   obtain rfl:=aB h
   exact hK _ _ _ _ _ aJ ak (kn _ hfr (ai.trans rfl))
 · refine az (aI jU ai) ?_
   refine bV h (fun kz h=> ?_) fun kz h=> ?_
   · refine az (aI kz ai) ?_
     obtain rfl:=aB h
     exact hK _ _ _ _ _ aJ ak (kn _ hfr (ai.trans rfl))
   · obtain ⟨De,mU,h⟩:=aq h
     refine az (aI kz (aI mU ai)) ?_
     obtain rfl:=aB h
     exact hK _ _ _ _ _ aJ ak (kn _ hfr (ai.trans rfl))
theorem zM {nH:List UInt8} {lK:Int} {iO:List UInt8} {A2:List UInt8} {QI:Nat} {H0 H:AH} (hfr:Fr H0 H0.length [] H) (ai:H[QI]? =some [(.str ([]:List UInt8)),(.str ([]:List UInt8))]) (dZ:H0.length≤QI) {K:Exit→Env→AH→Prop} {t32:List UInt8} {t33:Int} {Z8:aC}
 (h:lV nH lK iO A2=some (t32,t33,Z8))
 (kn:∀H':AH,Fr H0 H0.length [] H'→H'[QI]? =some [(.str Z8.ax),(.str Z8.domain)]→K .normal [(2,(.ptr QI 0)),(3,(.str t32)),(4,(.int .i64 t33))] H'):
 AX Tryz.prog iI 98 H0.length (erase tf) K [(2,(.ptr QI 0)),(6,(.str nH)),(9,(.int .i64 lK)),(10,(.ep (.agg [(.str iO),(.str A2)]) 0))] H:=by
 refine b7 fun K' hK=> ?_
 have hle:=hfr.le
 have aM:=aQ ai
 rw [lV.eq_1] at h
 obtain ⟨x31,JL,h⟩:=aq h
 refine az (aI JL ai) ?_
 obtain ⟨rfl,rfl,rfl⟩:=oI h
 exact hK _ _ _ _ _ aJ ak (kn _ (cj _ hfr) cD)
theorem DO {F:Nat} {s1:List UInt8} {H0:AH} {aP:aC} {eL:List UInt8} {Jy:Int} (h:nc F s1=some (aP,eL,Jy)):
 aF Tryz.prog 51 [(.str s1)] H0 fun v H'=>v=(.bz [(.agg [(.str aP.ax),(.str aP.domain)]),(.str eL),(.int .i64 Jy)])∧H'=H0:=by
 refine nk EZ iI [] fun hcl K0 aN H hH hfr=> ?_
 clear hH
 have hle:=hfr.le
 rw [nc.eq_1] at h
 refine ei ?_
 obtain ⟨q2,kU⟩:∃q:Nat,H.length=q:=⟨_,rfl⟩
 try rw [kU]
 obtain ⟨t5,hy3,h⟩:=aq h
 refine bB ak (zH (q2:=q2) (Fr.app hfr) uR ct hy3 ?_)
 intro H hfr ai
 have hle:=hfr.le
 have aM:=aQ ai
 refine az ai ?_
 refine bn h (fun hy4 h=> ?_) fun hy4 h=> ?_
 · refine az ai ?_
   obtain ⟨rfl,rfl,rfl⟩:=oI h
   exact aN _ _ _ bk (aV (cj _ hfr) hcl (bh (cs:=[(.str ([]:List UInt8)),(.str ([]:List UInt8))]) (v:=(.agg [(.str ([]:List UInt8)),(.str ([]:List UInt8))])) (by kernel_rfl) (n:=(some 2)) (by kernel_rfl) rfl cD (by simp [bG,bF,dM,aU,AV.flat,bX,cz,AV.br,Tg.sh]) (aX (aX bf (.int .i64 3)) (.str ([]:List UInt8)))) bg aZ ⟨rfl,rfl⟩)
 · refine az ai ?_
   obtain ⟨t9,cO,h⟩:=aq h
   refine bB ak (zI (q6:=q2) hfr (ai.trans rfl) ct cO ?_)
   intro H hfr ai
   have hle:=hfr.le
   have aM:=aQ ai
   refine az ai ?_
   refine bn h (fun cC h=> ?_) fun cC h=> ?_
   · obtain ⟨wO,cX,h⟩:=aq h
     refine az (aI cX ai) ?_
     obtain ⟨rfl,rfl,rfl⟩:=oI h
     exact aN _ _ _ bk (aV (cj _ hfr) hcl (bh (cs:=[(.str ([]:List UInt8)),(.str ([]:List UInt8))]) (v:=(.agg [(.str ([]:List UInt8)),(.str ([]:List UInt8))])) (by kernel_rfl) (n:=(some 2)) (by kernel_rfl) rfl cD (by simp [bG,bF,dM,aU,AV.flat,bX,cz,AV.br,Tg.sh]) (aX (aX bf (.int .i64 0)) (.str wO))) bg aZ ⟨rfl,rfl⟩)
   · obtain ⟨gf,cx,h⟩:=aq h
     refine az (aI cx ai) ?_
     obtain ⟨iM,cJ,h⟩:=aq h
     refine bE ak (B3 cJ) ?_
     refine az ai ?_
     refine bn h (fun cV h=> ?_) fun cV h=> ?_
     · refine az ai ?_
       obtain ⟨rfl,rfl,rfl⟩:=oI h
       exact aN _ _ _ bk (aV (cj _ hfr) hcl (bh (cs:=[(.str ([]:List UInt8)),(.str ([]:List UInt8))]) (v:=(.agg [(.str ([]:List UInt8)),(.str ([]:List UInt8))])) (by kernel_rfl) (n:=(some 2)) (by kernel_rfl) rfl cD (by simp [bG,bF,dM,aU,AV.flat,bX,cz,AV.br,Tg.sh]) (aX (aX bf (.int .i64 3)) (.str ([]:List UInt8)))) bg aZ ⟨rfl,rfl⟩)
     · obtain ⟨kj,cS,h⟩:=aq h
       refine az (aI cS ai) ?_
       obtain ⟨⟨iO,gv⟩,eI,h⟩:=aq h
       dsimp only at h
       refine bE ak (B4 eI) ?_
       refine az ai ?_
       obtain ⟨t19,jg,h⟩:=aq h
       refine bB ak (zJ (iO:=iO) (zK:=q2) hfr (ai.trans rfl) ct jg ?_)
       intro H hfr ai
       have hle:=hfr.le
       have aM:=aQ ai
       refine az ai ?_
       refine bn h (fun gZ h=> ?_) fun gZ h=> ?_
       · refine az ai ?_
         obtain ⟨rfl,rfl,rfl⟩:=oI h
         exact aN _ _ _ bk (aV (cj _ hfr) hcl (bh (cs:=[(.str ([]:List UInt8)),(.str ([]:List UInt8))]) (v:=(.agg [(.str ([]:List UInt8)),(.str ([]:List UInt8))])) (by kernel_rfl) (n:=(some 2)) (by kernel_rfl) rfl cD (by simp [bG,bF,dM,aU,AV.flat,bX,cz,AV.br,Tg.sh]) (aX (aX bf (.int .i64 3)) (.str ([]:List UInt8)))) bg aZ ⟨rfl,rfl⟩)
       · obtain ⟨nH,kq,h⟩:=aq h
         refine az (aI kq ai) ?_
         obtain ⟨lK,jh,h⟩:=aq h
         refine bE ak (sW jh) ?_
         refine az ai ?_
         obtain ⟨t27,vW,h⟩:=aq h
         refine bB ak (zL (iO:=iO) (og:=q2) hfr (ai.trans rfl) ct vW ?_)
         intro H hfr ai
         have hle:=hfr.le
         have aM:=aQ ai
         refine az ai ?_
         refine bn h (fun zC h=> ?_) fun zC h=> ?_
         · refine az ai ?_
           obtain ⟨rfl,rfl,rfl⟩:=oI h
           exact aN _ _ _ bk (aV (cj _ hfr) hcl (bh (cs:=[(.str ([]:List UInt8)),(.str ([]:List UInt8))]) (v:=(.agg [(.str ([]:List UInt8)),(.str ([]:List UInt8))])) (by kernel_rfl) (n:=(some 2)) (by kernel_rfl) rfl cD (by simp [bG,bF,dM,aU,AV.flat,bX,cz,AV.br,Tg.sh]) (aX (aX bf (.int .i64 3)) (.str ([]:List UInt8)))) bg aZ ⟨rfl,rfl⟩)
         · obtain ⟨A2,JJ,h⟩:=aq h
           refine az (aI JJ ai) ?_
           obtain ⟨Ua,Ft,h⟩:=aq h
           refine bE ak (B6 Ft) ?_
           refine az ai ?_
           refine bn h (fun JK h=> ?_) fun JK h=> ?_
           · refine az ai ?_
             obtain ⟨rfl,rfl,rfl⟩:=oI h
             exact aN _ _ _ bk (aV (cj _ (cj _ (Fr.app hfr))) hcl (bh (cs:=[(.str ([]:List UInt8)),(.str ([]:List UInt8))]) (v:=(.agg [(.str ([]:List UInt8)),(.str ([]:List UInt8))])) (by kernel_rfl) (n:=(some 2)) (by kernel_rfl) rfl cD (by simp [bG,bF,dM,aU,AV.flat,bX,cz,AV.br,Tg.sh]) (aX (aX bf (.int .i64 5)) (.str ([]:List UInt8)))) bg aZ ⟨rfl,rfl⟩)
           · refine az ai ?_
             refine W0 ?_
             apply AX.freeze (s:=H.length) (cs:=[(.str iO),(.str A2)]) (by exact cD) (gV.same (gV.same (gV.nil))) (by simp) rfl
             · repeat (first|exact FZ.nil|apply FZ.ep|apply FZ.same)
             refine ZY ?_
             obtain ⟨⟨t35,t36,QH⟩,Ub,h⟩:=aq h
             dsimp only at h
             refine bB ak (zM (QI:=q2) (cj _ (cj _ (Fr.app hfr))) (mz (mz (BA (ai.trans rfl)))) ct Ub ?_)
             intro H hfr ai
             have hle:=hfr.le
             have aM:=aQ ai
             refine az ai ?_
             obtain ⟨rfl,rfl,rfl⟩:=oI h
             exact aN _ _ _ bk (aV hfr hcl (bh (cs:=[(.str QH.ax),(.str QH.domain)]) (v:=(.agg [(.str QH.ax),(.str QH.domain)])) (by kernel_rfl) (n:=(some 2)) (by kernel_rfl) rfl (ai.trans rfl) (by simp [bG,bF,dM,aU,AV.flat,bX,cz,AV.br,Tg.sh]) (aX (aX bf (.int .i64 t36)) (.str t35))) bg aZ ⟨rfl,rfl⟩)
abbrev th:av:=(.rg [(au 12 4),(aj 13 (.bin .eql (.t 12) (.c (.str [])))),(au 14 13),(ay 15 (.mv (.t 4)) 14 false),(ay 16 (.lens (.t 15)) 14 false),(ay 17 (.bin .gtr (.t 16) (.c (.int .i64 9))) 14 false),(aj 18 (.pick (.t 14) (.c (.bool true)) (.t 17)))])
abbrev tj:av:=(.rg [(au 25 4),(au 26 6),(aj 27 (.ixs (.t 25) (.t 26))),(aj 28 (.bin .lss (.t 27) (.c (b8 48)))),(au 29 28),(ay 30 (.mv (.t 4)) 29 false),(ay 31 (.mv (.t 6)) 29 false),(ay 32 (.ixs (.t 30) (.t 31)) 29 false),(ay 33 (.bin .gtr (.t 32) (.c (b8 57))) 29 false),(aj 34 (.pick (.t 29) (.c (.bool true)) (.t 33)))])
abbrev rA:av:=(.seq (.seq (.rg [(au 19 6),(au 20 4),(aj 21 (.lens (.t 20))),(aj 22 (.bin .lss (.t 19) (.t 21)))]) (.cond (.t 22) .skip (.exit 0))) (.seq (.blk 1 (.seq (.seq (.sem (erase tj)) (.cond (.t 34) (.seq (.rg [(aj 2 (.aO (.c (.int .i64 0)))),(aj 3 (.aO (.c (.bool false))))]) .ret) .skip)) (.rg [(au 35 5),(aj 36 (.bin .mul (.c (.int .i64 10)) (.t 35))),(au 37 4),(au 38 6),(aj 39 (.ixs (.t 37) (.t 38))),(aj 40 (.bin .sub (.t 39) (.c (b8 48)))),(aj 41 (.mj (.int .i64) (.t 40))),(aj 42 (.bin .add (.t 36) (.t 41))),(aR 5 42)]))) (.rg [(au 23 6),(aj 24 (.bin .add (.t 23) (.c (.int .i64 1)))),(aR 6 24)])))
abbrev E0:av:=(.seq (.rg [(aj 2 (.aO (.c (.int .i64 0)))),(aj 3 (.aO (.c (.bool false))))]) (.seq (.seq (.rg [(au 7 0),(aj 8 (.call (.c (.fn 50 [])) [(.t 7),(.c (.str [32,115,105,122,101,61]))])),(aj 9 (.un .not (.t 8)))]) (.cond (.t 9) (.seq (.rg [(aj 2 (.aO (.c (.int .i64 0)))),(aj 3 (.aO (.c (.bool false))))]) .ret) .skip)) (.seq (.rg [(au 10 0),(aj 11 (.gT (.t 10) (some (.c (.int .i64 6))) none)),(aR 4 11)]) (.seq (.seq (.sem (erase th)) (.cond (.t 18) (.seq (.rg [(aj 2 (.aO (.c (.int .i64 0)))),(aj 3 (.aO (.c (.bool false))))]) .ret) .skip)) (.seq (.rg [(aj 5 (.aO (.c (.int .i64 0))))]) (.seq (.seq (.rg [(aj 6 (.aO (.c (.int .i64 0))))]) (.blk 0 (.loop (erase rA)))) (.seq (.rg [(au 43 5),(aR 2 43),(aj 3 (.aO (.c (.bool true))))]) .ret)))))))
theorem E1:bQ Tryz.prog 53 44 [(.tmp 2),(.tmp 3)] (erase E0):=⟨Tryz.f53,_,rfl,by decide,rfl,by kernel_rfl,rfl,rfl⟩
abbrev mO:List Nat:=[0,2,3,4,5,6,9,18,22,34]
def lW (x3:List UInt8) (i5:Int):Option (Bool):=
 (idx x3 i5).bind fun x6=>
 (if (decide (x6<48)) then
  some true
 else
  some (decide (57<x6)))
def eJ (x3:List UInt8):(Int×Int)→Option (St (Int×Bool) Int (Int×Int))
 |(A3,i5)=>
  (if (decide (i5<(x3.length:Int))) then
   (lW x3 i5).bind fun t8=>
   (if t8 then
    some (.ret (0,false))
   else
    (idx x3 i5).bind fun x9=>
    some (.cB ((IntKind.wrap .i64 ((IntKind.wrap .i64 (10*A3))+(IntKind.wrap .i64 ((x9 - 48).toNat:Int)))),(IntKind.wrap .i64 (i5+1)))))
  else
   some (.eg A3))
def ng (F:Nat) (s1:List UInt8):Option (Int×Bool):=
 (jF F s1 ([32,115,105,122,101,61]:List UInt8)).bind fun r2=>
 (if (!r2) then
  some (0,false)
 else
  (sub s1 6 (s1.length:Int)).bind fun x3=>
  (if ((decide (x3=([]:List UInt8)))||(decide (9<(x3.length:Int)))) then
   some (0,false)
  else
   ((iter (eJ x3) F (0,0)).bind fun Ju=>
   match Ju with
   | .inr Uc=>
     some (Uc,true)
   | .inl (iO,gv)=>
     some (iO,gv))))
theorem zN {x3:List UInt8} {H:AH} {K:Exit→Env→AH→Prop}
 (kn:K .normal [(4,(.str x3)),(18,(.bool ((decide (x3=([]:List UInt8)))||(decide (9<(x3.length:Int))))))] H):
 AX Tryz.prog mO 44 H.length (erase th) K [(4,(.str x3))] H:=by
 refine b7 fun K' hK=> ?_
 refine aD ?_
 refine nj (fun hy4=> ?_) fun hy4=> ?_
 · refine aW hy4 ?_
   exact hK _ _ _ _ _ (fI hy4) ak kn
 · refine aW hy4 ?_
   exact hK _ _ _ _ _ (fI hy4) ak kn
theorem zO {x3:List UInt8} {i5:Int} {A3:Int} {H:AH} {K:Exit→Env→AH→Prop} {t7:Bool}
 (h:lW x3 i5=some t7)
 (kn:K .normal [(4,(.str x3)),(5,(.int .i64 A3)),(6,(.int .i64 i5)),(34,(.bool t7))] H):
 AX Tryz.prog mO 44 H.length (erase tj) K [(4,(.str x3)),(5,(.int .i64 A3)),(6,(.int .i64 i5))] H:=by
 refine b7 fun K' hK=> ?_
 rw [lW.eq_1] at h
 obtain ⟨x6,cO,h⟩:=aq h
 refine aW cO ?_
 refine bV h (fun cC h=> ?_) fun cC h=> ?_
 · refine aW cC ?_
   obtain rfl:=aB h
   exact hK _ _ _ _ _ aJ ak kn
 · refine aW (aI cC cO) ?_
   obtain rfl:=aB h
   exact hK _ _ _ _ _ aJ ak kn
theorem zP {F:Nat} {i5:Int} {x3:List UInt8} {A3:Int} {H:AH} {K:Exit→Env→AH→Prop} {o:(Int×Bool)⊕(Int)}
 (h:iter (eJ x3) F (A3,i5)=some o)
 (dD:∀o':Int,o= .inr o'→K (.exit 0) [(5,(.int .i64 o'))] H)
 (kr:∀o':Int×Bool,o= .inl o'→K .ret [(2,(.int .i64 o'.1)),(3,(.bool o'.2))] H):
 AX Tryz.prog mO 44 H.length (.loop (erase rA)) K [(4,(.str x3)),(5,(.int .i64 A3)),(6,(.int .i64 i5))] H:=by
 refine iY (fun s e H1=>match s with|(A3,i5)=>e=[(4,(.str x3)),(5,(.int .i64 A3)),(6,(.int .i64 i5))]∧H1=H) h ⟨rfl,rfl⟩ ?_
 rintro K' ⟨A3,i5⟩ st e H ⟨rfl,rfl⟩ h hN hB hR hX
 rw [eJ.eq_1] at h
 refine aD ?_
 refine bn h (fun cc h=> ?_) fun cc h=> ?_
 · refine aD ?_
   obtain ⟨t8,cX,h⟩:=aq h
   refine bB ak (zO (A3:=A3) cX ?_)
   refine aD ?_
   refine bn h (fun cx h=> ?_) fun cx h=> ?_
   · refine aD ?_
     obtain rfl:=aB h
     exact hX _ _ _ _ _ dB aJ ak (kr _ (hR _ rfl))
   · obtain ⟨x9,cJ,h⟩:=aq h
     refine aW cJ ?_
     obtain rfl:=aB h
     exact hN _ rfl _ _ _ _ aJ ak ⟨rfl,rfl⟩
 · refine aD ?_
   obtain rfl:=aB h
   exact hX _ _ _ _ _ dB aJ ak (dD _ (hB _ rfl))
theorem DP {F:Nat} {s1:List UInt8} {H0:AH} {aP:Int} {eL:Bool} (h:ng F s1=some (aP,eL)):
 aF Tryz.prog 53 [(.str s1)] H0 fun v H'=>v=(.bz [(.int .i64 aP),(.bool eL)])∧H'=H0:=by
 refine fL E1 mO fun hcl K0 aN=> ?_
 rw [ng.eq_1] at h
 refine aD ?_
 obtain ⟨r2,hy1,h⟩:=aq h
 refine bE ak (uM hy1) ?_
 refine aD ?_
 refine bn h (fun hy2 h=> ?_) fun hy2 h=> ?_
 · refine aD ?_
   obtain ⟨rfl,rfl⟩:=cE h
   exact aN _ _ _ bk (aK hcl (aX (aX bf (.bool false)) (.int .i64 0)) bg aZ ⟨rfl,rfl⟩)
 · obtain ⟨x3,hy3,h⟩:=aq h
   refine aW hy3 ?_
   refine bB ak (zN (x3:=x3) ?_)
   refine aD ?_
   refine bn h (fun bM h=> ?_) fun bM h=> ?_
   · refine aD ?_
     obtain ⟨rfl,rfl⟩:=cE h
     exact aN _ _ _ bk (aK hcl (aX (aX bf (.bool false)) (.int .i64 0)) bg aZ ⟨rfl,rfl⟩)
   · refine aD ?_
     obtain ⟨Ju,cV,h⟩:=aq h
     refine bB ak (zP cV ?_ ?_)
     · rintro Uc rfl
       try dsimp only at h
       refine aD ?_
       obtain ⟨rfl,rfl⟩:=cE h
       exact aN _ _ _ bk (aK hcl (aX (aX bf (.bool true)) (.int .i64 Uc)) bg aZ ⟨rfl,rfl⟩)
     · rintro ⟨iO,gv⟩ rfl
       try dsimp only at h
       refine aD ?_
       obtain ⟨rfl,rfl⟩:=cE h
       exact aN _ _ _ bk (aK hcl (aX (aX bf (.bool gv)) (.int .i64 iO)) bg aZ ⟨rfl,rfl⟩)
abbrev tq:av:=(.cond (.t 15) (.rg [(aj 6 (.aO (.c (.str [32,116,111,58]))))]) .skip)
abbrev tr:av:=(.rg [(aj 31 (.cR (.t 7) 0)),(aj 32 (.ld (.t 31) none)),(aj 33 (.bin .eql (.t 32) (.c (.str [])))),(au 34 33),(ay 35 (.cR (.t 7) 1) 34 true),(ay 36 (.ld (.t 35) none) 34 true),(ay 37 (.bin .eql (.t 36) (.c (.str []))) 34 true),(aj 38 (.pick (.t 34) (.t 37) (.c (.bool false)))),(aR 10 38)])
abbrev tu:av:=(.rg [(au 39 9),(aj 40 (.bin .neq (.t 39) (.c (.int .i64 0)))),(au 41 40),(ay 42 (.mv (.t 0)) 41 false),(ay 43 (.bin .eql (.t 42) (.c (.int .i64 4))) 41 false),(ay 44 (.mv (.t 43)) 41 false),(ay 45 (.mv (.t 10)) 44 true),(ay 46 (.pick (.t 44) (.t 45) (.c (.bool false))) 41 false),(aj 47 (.pick (.t 41) (.c (.bool true)) (.t 46)))])
abbrev tw:av:=(.cond (.t 53) (.rg [(aj 54 (.cR (.t 11) 4)),(cZ (.st (.t 54) (.c (.int .i64 (-1))) 1))]) .skip)
abbrev tA:av:=(.rg [(au 63 13),(au 64 63),(ay 65 (.mv (.t 0)) 64 true),(ay 66 (.bin .eql (.t 65) (.c (.int .i64 3))) 64 true),(aj 67 (.pick (.t 64) (.t 66) (.c (.bool false))))])
abbrev E2:av:=(.seq (.rg [(aj 4 (.alloc [(.int .i64 0),(.str []),(.str []),(.str []),(.int .i64 0)])),(aj 5 (.aO (.c (.int .i64 0))))]) (.seq (.rg [(aj 6 (.aO (.c (.str [32,102,114,111,109,58]))))]) (.seq (.seq (.rg [(au 14 0),(aj 15 (.bin .eql (.t 14) (.c (.int .i64 4))))]) (.sem (erase tq))) (.seq (.seq (.rg [(au 16 1),(au 17 6),(aj 18 (.call (.c (.fn 50 [])) [(.t 16),(.t 17)])),(aj 19 (.un .not (.t 18)))]) (.cond (.t 19) (.seq (.rg [(aj 20 (.build [(.int .i64 0),(.str []),(.str []),(.str []),(.int .i64 0)] [])),(cZ (.st (.t 4) (.t 20) 5)),(aj 5 (.aO (.c (.int .i64 501))))]) .ret) .skip)) (.seq (.rg [(au 22 1),(au 23 6),(aj 24 (.lens (.t 23))),(aj 25 (.gT (.t 22) (some (.t 24)) none)),(aj 26 (.call (.c (.fn 52 [])) [(.t 25)])),(aj 27 (.call (.c (.fn 51 [])) [(.t 26)])),(au 21 27),(aj 28 (.ext (.t 21) 0)),(aj 29 (.ext (.t 21) 1)),(aj 30 (.ext (.t 21) 2)),(aj 7 (.alloc [(.str []),(.str [])])),(cZ (.st (.t 7) (.t 28) 2)),(aR 8 29),(aR 9 30)]) (.seq (.sem (erase tr)) (.seq (.seq (.sem (erase tu)) (.cond (.t 47) (.seq (.rg [(aj 48 (.build [(.int .i64 0),(.str []),(.str []),(.str []),(.int .i64 0)] [])),(cZ (.st (.t 4) (.t 48) 5)),(aj 5 (.aO (.c (.int .i64 501))))]) .ret) .skip)) (.seq (.rg [(au 49 0),(aj 50 (.ld (.t 7) (some 2))),(aj 51 (.build [(.int .i64 0),(.str []),(.str []),(.str []),(.int .i64 0)] [(0,(1,(.t 49))),(2,(2,(.t 50)))])),(aj 11 (.alloc [(.int .i64 0),(.str []),(.str []),(.str []),(.int .i64 0)])),(cZ (.st (.t 11) (.t 51) 5))]) (.seq (.seq (.rg [(au 52 0),(aj 53 (.bin .eql (.t 52) (.c (.int .i64 3))))]) (.sem (erase tw))) (.seq (.seq (.rg [(au 55 8),(aj 56 (.bin .eql (.t 55) (.c (.str []))))]) (.cond (.t 56) (.seq (.rg [(aj 57 (.ld (.t 11) (some 5))),(cZ (.st (.t 4) (.t 57) 5)),(aj 5 (.aO (.c (.int .i64 0))))]) .ret) .skip)) (.seq (.rg [(au 59 8),(aj 60 (.call (.c (.fn 53 [])) [(.t 59)])),(au 58 60),(aj 61 (.ext (.t 58) 0)),(aj 62 (.ext (.t 58) 1)),(aR 12 61),(aR 13 62)]) (.seq (.seq (.sem (erase tA)) (.cond (.t 67) (.seq (.rg [(au 68 12),(aj 69 (.cR (.t 11) 4)),(cZ (.st (.t 69) (.t 68) 1))]) (.seq (.rg [(aj 70 (.ld (.t 11) (some 5))),(cZ (.st (.t 4) (.t 70) 5)),(aj 5 (.aO (.c (.int .i64 0))))]) .ret)) .skip)) (.seq (.seq (.rg [(au 71 8),(aj 72 (.ixs (.t 71) (.c (.int .i64 0)))),(aj 73 (.bin .eql (.t 72) (.c (b8 32))))]) (.cond (.t 73) (.seq (.rg [(aj 74 (.build [(.int .i64 0),(.str []),(.str []),(.str []),(.int .i64 0)] [])),(cZ (.st (.t 4) (.t 74) 5)),(aj 5 (.aO (.c (.int .i64 555))))]) .ret) .skip)) (.seq (.rg [(aj 75 (.build [(.int .i64 0),(.str []),(.str []),(.str []),(.int .i64 0)] [])),(cZ (.st (.t 4) (.t 75) 5)),(aj 5 (.aO (.c (.int .i64 501))))]) .ret))))))))))))))
theorem E3:bQ Tryz.prog 29 76 [(.cell 4 29),(.tmp 5)] (erase E2):=⟨Tryz.f29,_,rfl,by decide,rfl,by kernel_rfl,rfl,rfl⟩
abbrev iJ:List Nat:=[0,1,4,5,6,7,8,9,10,11,12,13,15,19,47,53,56,67,73]
def jm (gE:Int):Option ((List UInt8)):=
 (if (decide (gE=4)) then
  some ([32,116,111,58]:List UInt8)
 else
  some ([32,102,114,111,109,58]:List UInt8))
def jn (gE:Int) (r9:aC):Option (aH):=
 (if (decide (gE=3)) then
  some (aH.mk gE ([]:List UInt8) r9 (-1))
 else
  some (aH.mk gE ([]:List UInt8) r9 0))
def jo (F:Nat) (gE:Int) (pZ:List UInt8):Option (aH×Int):=
 (jm gE).bind fun Mv=>
 (jF F pZ Mv).bind fun r6=>
 (if (!r6) then
  some ((aH.mk 0 ([]:List UInt8) (aC.mk ([]:List UInt8) ([]:List UInt8)) 0),501)
 else
  (sub pZ (Mv.length:Int) (pZ.length:Int)).bind fun x7=>
  (mY F x7).bind fun r8=>
  (nc F r8).bind fun (r9,dK,mB)=>
  (if ((!decide (mB=0))||((decide (gE=4))&&((decide (r9.ax=([]:List UInt8)))&&(decide (r9.domain=([]:List UInt8)))))) then
   some ((aH.mk 0 ([]:List UInt8) (aC.mk ([]:List UInt8) ([]:List UInt8)) 0),501)
  else
   (jn gE r9).bind fun iU=>
   (if (decide (dK=([]:List UInt8))) then
    some (iU,0)
   else
    (ng F dK).bind fun (mV,lK)=>
    (if (lK&&(decide (gE=3))) then
     some ((aH.mk iU.kind iU.arg iU.path mV),0)
    else
     (idx dK 0).bind fun Jw=>
     (if (decide (Jw=32)) then
      some ((aH.mk 0 ([]:List UInt8) (aC.mk ([]:List UInt8) ([]:List UInt8)) 0),555)
     else
      some ((aH.mk 0 ([]:List UInt8) (aC.mk ([]:List UInt8) ([]:List UInt8)) 0),501))))))
theorem zQ {gE:Int} {pZ:List UInt8} {q3:Nat} {H0 H:AH} (hfr:Fr H0 H0.length [] H) (ai:H[q3]? =some [(.int .i64 0),(.str ([]:List UInt8)),(.str ([]:List UInt8)),(.str ([]:List UInt8)),(.int .i64 0)]) (dZ:H0.length≤q3) {K:Exit→Env→AH→Prop} {Ud:List UInt8}
 (h:jm gE=some Ud)
 (kn:∀H':AH,Fr H0 H0.length [] H'→H'[q3]? =some [(.int .i64 0),(.str ([]:List UInt8)),(.str ([]:List UInt8)),(.str ([]:List UInt8)),(.int .i64 0)]→K .normal [(0,(.int .i64 gE)),(1,(.str pZ)),(4,(.ptr q3 0)),(6,(.str Ud))] H'):
 AX Tryz.prog iJ 76 H0.length (erase tq) K [(0,(.int .i64 gE)),(1,(.str pZ)),(4,(.ptr q3 0)),(6,(.str ([32,102,114,111,109,58]:List UInt8))),(15,(.bool (decide (gE=4))))] H:=by
 refine b7 fun K' hK=> ?_
 have hle:=hfr.le
 have aM:=aQ ai
 rw [jm.eq_1] at h
 refine az ai ?_
 refine bn h (fun hy1 h=> ?_) fun hy1 h=> ?_
 · refine az ai ?_
   obtain rfl:=aB h
   exact hK _ _ _ _ _ aJ ak (kn _ hfr (ai.trans rfl))
 · refine az ai ?_
   obtain rfl:=aB h
   exact hK _ _ _ _ _ aJ ak (kn _ hfr (ai.trans rfl))
theorem zR {gE:Int} {Mw:Nat} {mc:Nat} {dK:List UInt8} {mB:Int} {r9:aC} {H0 H:AH} (hfr:Fr H0 H0.length [] H) (ai:H[Mw]? =some [(.int .i64 0),(.str ([]:List UInt8)),(.str ([]:List UInt8)),(.str ([]:List UInt8)),(.int .i64 0)]) (aS:H[mc]? =some [(.str r9.ax),(.str r9.domain)]) (dZ:H0.length≤Mw) (hi1:H0.length≤mc) (hi2:Mw≠mc) {K:Exit→Env→AH→Prop}
 (kn:∀H':AH,Fr H0 H0.length [] H'→H'[Mw]? =some [(.int .i64 0),(.str ([]:List UInt8)),(.str ([]:List UInt8)),(.str ([]:List UInt8)),(.int .i64 0)]→H'[mc]? =some [(.str r9.ax),(.str r9.domain)]→K .normal [(0,(.int .i64 gE)),(4,(.ptr Mw 0)),(7,(.ptr mc 0)),(8,(.str dK)),(9,(.int .i64 mB)),(10,(.bool ((decide (r9.ax=([]:List UInt8)))&&(decide (r9.domain=([]:List UInt8))))))] H'):
 AX Tryz.prog iJ 76 H0.length (erase tr) K [(0,(.int .i64 gE)),(4,(.ptr Mw 0)),(7,(.ptr mc 0)),(8,(.str dK)),(9,(.int .i64 mB))] H:=by
 refine b7 fun K' hK=> ?_
 have hle:=hfr.le
 have aM:=aQ ai
 have mG:=aQ aS
 refine az (aI ai aS) ?_
 refine nj (fun cC=> ?_) fun cC=> ?_
 · refine az (aI cC (aI ai aS)) ?_
   exact hK _ _ _ _ _ (fI cC) ak (kn _ hfr (ai.trans rfl) (aS.trans rfl))
 · refine az (aI cC (aI ai aS)) ?_
   exact hK _ _ _ _ _ (fI cC) ak (kn _ hfr (ai.trans rfl) (aS.trans rfl))
theorem zS {gE:Int} {xE:Nat} {zT:Nat} {dK:List UInt8} {mB:Int} {r9:aC} {H0 H:AH} (hfr:Fr H0 H0.length [] H) (ai:H[xE]? =some [(.int .i64 0),(.str ([]:List UInt8)),(.str ([]:List UInt8)),(.str ([]:List UInt8)),(.int .i64 0)]) (aS:H[zT]? =some [(.str r9.ax),(.str r9.domain)]) (dZ:H0.length≤xE) (hi1:H0.length≤zT) (hi2:xE≠zT) {K:Exit→Env→AH→Prop}
 (kn:∀H':AH,Fr H0 H0.length [] H'→H'[xE]? =some [(.int .i64 0),(.str ([]:List UInt8)),(.str ([]:List UInt8)),(.str ([]:List UInt8)),(.int .i64 0)]→H'[zT]? =some [(.str r9.ax),(.str r9.domain)]→K .normal [(0,(.int .i64 gE)),(4,(.ptr xE 0)),(7,(.ptr zT 0)),(8,(.str dK)),(47,(.bool ((!decide (mB=0))||((decide (gE=4))&&((decide (r9.ax=([]:List UInt8)))&&(decide (r9.domain=([]:List UInt8))))))))] H'):
 AX Tryz.prog iJ 76 H0.length (erase tu) K [(0,(.int .i64 gE)),(4,(.ptr xE 0)),(7,(.ptr zT 0)),(8,(.str dK)),(9,(.int .i64 mB)),(10,(.bool ((decide (r9.ax=([]:List UInt8)))&&(decide (r9.domain=([]:List UInt8))))))] H:=by
 refine b7 fun K' hK=> ?_
 have hle:=hfr.le
 have aM:=aQ ai
 have mG:=aQ aS
 refine az (aI ai aS) ?_
 refine nj (fun cX=> ?_) fun cX=> ?_
 · refine az (aI cX (aI ai aS)) ?_
   exact hK _ _ _ _ _ (fI cX) ak (kn _ hfr (ai.trans rfl) (aS.trans rfl))
 · refine az (aI cX (aI ai aS)) ?_
   refine nj (fun cx=> ?_) fun cx=> ?_
   · refine az (aI cx (aI ai aS)) ?_
     exact hK _ _ _ _ _ (fI (aI cX cx)) ak (kn _ hfr (ai.trans rfl) (aS.trans rfl))
   · refine az (aI cx (aI ai aS)) ?_
     exact hK _ _ _ _ _ (fI (aI cX cx)) ak (kn _ hfr (ai.trans rfl) (aS.trans rfl))
theorem zU {gE:Int} {r9:aC} {zK:Nat} {dK:List UInt8} {uf:Nat} {H0 H:AH} (hfr:Fr H0 H0.length [] H) (ai:H[zK]? =some [(.int .i64 0),(.str ([]:List UInt8)),(.str ([]:List UInt8)),(.str ([]:List UInt8)),(.int .i64 0)]) (cm:H[uf]? =some [(.int .i64 gE),(.str ([]:List UInt8)),(.str r9.ax),(.str r9.domain),(.int .i64 0)]) (dZ:H0.length≤zK) (hi1:H0.length≤uf) (hi2:zK≠uf) {K:Exit→Env→AH→Prop} {rY:aH}
 (h:jn gE r9=some rY)
 (kn:∀H':AH,Fr H0 H0.length [] H'→H'[zK]? =some [(.int .i64 0),(.str ([]:List UInt8)),(.str ([]:List UInt8)),(.str ([]:List UInt8)),(.int .i64 0)]→H'[uf]? =some [(.int .i64 rY.kind),(.str rY.arg),(.str rY.path.ax),(.str rY.path.domain),(.int .i64 rY.size)]→K .normal [(0,(.int .i64 gE)),(4,(.ptr zK 0)),(8,(.str dK)),(11,(.ptr uf 0))] H'):
 AX Tryz.prog iJ 76 H0.length (erase tw) K [(0,(.int .i64 gE)),(4,(.ptr zK 0)),(8,(.str dK)),(11,(.ptr uf 0)),(53,(.bool (decide (gE=3))))] H:=by
 refine b7 fun K' hK=> ?_
 have hle:=hfr.le
 have aM:=aQ ai
 have Dg:=aQ cm
 rw [jn.eq_1] at h
 refine az (aI ai cm) ?_
 refine bn h (fun cV h=> ?_) fun cV h=> ?_
 · refine az (aI ai cm) ?_
   obtain rfl:=aB h
   exact hK _ _ _ _ _ aJ ak (kn _ (cj _ hfr) (mz (ai.trans rfl)) cD)
 · refine az (aI ai cm) ?_
   obtain rfl:=aB h
   exact hK _ _ _ _ _ aJ ak (kn _ hfr (ai.trans rfl) (cm.trans rfl))
theorem zV {gE:Int} {og:Nat} {dK:List UInt8} {Mx:Nat} {mV:Int} {lK:Bool} {iU:aH} {H0 H:AH} (hfr:Fr H0 H0.length [] H) (ai:H[og]? =some [(.int .i64 0),(.str ([]:List UInt8)),(.str ([]:List UInt8)),(.str ([]:List UInt8)),(.int .i64 0)]) (cm:H[Mx]? =some [(.int .i64 iU.kind),(.str iU.arg),(.str iU.path.ax),(.str iU.path.domain),(.int .i64 iU.size)]) (dZ:H0.length≤og) (hi1:H0.length≤Mx) (hi2:og≠Mx) {K:Exit→Env→AH→Prop}
 (kn:∀H':AH,Fr H0 H0.length [] H'→H'[og]? =some [(.int .i64 0),(.str ([]:List UInt8)),(.str ([]:List UInt8)),(.str ([]:List UInt8)),(.int .i64 0)]→H'[Mx]? =some [(.int .i64 iU.kind),(.str iU.arg),(.str iU.path.ax),(.str iU.path.domain),(.int .i64 iU.size)]→K .normal [(4,(.ptr og 0)),(8,(.str dK)),(11,(.ptr Mx 0)),(12,(.int .i64 mV)),(67,(.bool (lK&&(decide (gE=3)))))] H'):
 AX Tryz.prog iJ 76 H0.length (erase tA) K [(0,(.int .i64 gE)),(4,(.ptr og 0)),(8,(.str dK)),(11,(.ptr Mx 0)),(12,(.int .i64 mV)),(13,(.bool lK))] H:=by
 refine b7 fun K' hK=> ?_
 have hle:=hfr.le
 have aM:=aQ ai
 have Dg:=aQ cm
 refine az (aI ai cm) ?_
 refine nj (fun eM=> ?_) fun eM=> ?_
 · refine az (aI eM (aI ai cm)) ?_
   exact hK _ _ _ _ _ (fI eM) ak (kn _ hfr (ai.trans rfl) (cm.trans rfl))
 · refine az (aI eM (aI ai cm)) ?_
   exact hK _ _ _ _ _ (fI eM) ak (kn _ hfr (ai.trans rfl) (cm.trans rfl))
theorem DQ {F:Nat} {gE:Int} {pZ:List UInt8} {H0:AH} {aP:aH} {eL:Int} (h:jo F gE pZ=some (aP,eL)):
 aF Tryz.prog 29 [(.int .i64 gE),(.str pZ)] H0 fun v H'=>v=(.bz [(.agg [(.int .i64 aP.kind),(.str aP.arg),(.str aP.path.ax),(.str aP.path.domain),(.int .i64 aP.size)]),(.int .i64 eL)])∧H'=H0:=by
 refine nk E3 iJ [] fun hcl K0 aN H hH hfr=> ?_
 clear hH
 have hle:=hfr.le
 rw [jo.eq_1] at h
 refine ei ?_
 obtain ⟨q3,Df⟩:∃q:Nat,H.length=q:=⟨_,rfl⟩
 try rw [Df]
 obtain ⟨Mv,hy2,h⟩:=aq h
 refine bB ak (zQ (pZ:=pZ) (q3:=q3) (Fr.app hfr) uR ct hy2 ?_)
 intro H hfr ai
 have hle:=hfr.le
 have aM:=aQ ai
 refine az ai ?_
 obtain ⟨r6,hy3,h⟩:=aq h
 refine bE ak (uM hy3) ?_
 refine az ai ?_
 refine bn h (fun hy4 h=> ?_) fun hy4 h=> ?_
 · refine az ai ?_
   obtain ⟨rfl,rfl⟩:=cE h
   exact aN _ _ _ bk (aV (cj _ hfr) hcl (bh (cs:=[(.int .i64 0),(.str ([]:List UInt8)),(.str ([]:List UInt8)),(.str ([]:List UInt8)),(.int .i64 0)]) (v:=(.agg [(.int .i64 0),(.str ([]:List UInt8)),(.str ([]:List UInt8)),(.str ([]:List UInt8)),(.int .i64 0)])) (by kernel_rfl) (n:=(some 5)) (by kernel_rfl) rfl cD (by simp [bG,bF,dM,aU,AV.flat,bX,cz,AV.br,Tg.sh]) (aX bf (.int .i64 501))) bg aZ ⟨rfl,rfl⟩)
 · obtain ⟨x7,bM,h⟩:=aq h
   refine az (aI bM ai) ?_
   obtain ⟨r8,cc,h⟩:=aq h
   refine bE ak (Dx cc) ?_
   refine az ai ?_
   obtain ⟨⟨r9,dK,mB⟩,cO,h⟩:=aq h
   dsimp only at h
   refine bE ak (DO cO) ?_
   refine az ai ?_
   obtain ⟨mc,W5⟩:∃q:Nat,H.length=q:=⟨_,rfl⟩
   try rw [W5]
   refine bB ak (zR (gE:=gE) (Mw:=q3) (mc:=mc) (dK:=dK) (mB:=mB) (r9:=r9) (cj _ (Fr.app hfr)) (mz (BA (ai.trans rfl))) cD ct ct ct ?_)
   intro H hfr ai aS
   have hle:=hfr.le
   have aM:=aQ ai
   have mG:=aQ aS
   refine az (aI ai aS) ?_
   refine bB ak (zS (gE:=gE) (xE:=q3) (zT:=mc) (dK:=dK) (mB:=mB) (r9:=r9) hfr (ai.trans rfl) (aS.trans rfl) ct ct ct ?_)
   intro H hfr ai aS
   have hle:=hfr.le
   have aM:=aQ ai
   have mG:=aQ aS
   refine az (aI ai aS) ?_
   refine bn h (fun cJ h=> ?_) fun cJ h=> ?_
   · refine az (aI ai aS) ?_
     obtain ⟨rfl,rfl⟩:=cE h
     exact aN _ _ _ bk (aV (cj _ hfr) hcl (bh (cs:=[(.int .i64 0),(.str ([]:List UInt8)),(.str ([]:List UInt8)),(.str ([]:List UInt8)),(.int .i64 0)]) (v:=(.agg [(.int .i64 0),(.str ([]:List UInt8)),(.str ([]:List UInt8)),(.str ([]:List UInt8)),(.int .i64 0)])) (by kernel_rfl) (n:=(some 5)) (by kernel_rfl) rfl cD (by simp [bG,bF,dM,aU,AV.flat,bX,cz,AV.br,Tg.sh]) (aX bf (.int .i64 501))) bg aZ ⟨rfl,rfl⟩)
   · refine az (aI ai aS) ?_
     obtain ⟨uf,Hr⟩:∃q:Nat,H.length=q:=⟨_,rfl⟩
     try rw [Hr]
     obtain ⟨iU,cS,h⟩:=aq h
     refine bB ak (zU (dK:=dK) (zK:=q3) (uf:=uf) (cj _ (Fr.app hfr)) (mz (BA (ai.trans rfl))) cD ct ct ct cS ?_)
     intro H hfr ai cm
     have hle:=hfr.le
     have aM:=aQ ai
     have Dg:=aQ cm
     refine az (aI ai cm) ?_
     refine bn h (fun eI h=> ?_) fun eI h=> ?_
     · refine az (aI ai cm) ?_
       obtain ⟨rfl,rfl⟩:=cE h
       exact aN _ _ _ bk (aV (cj _ hfr) hcl (bh (cs:=[(.int .i64 iU.kind),(.str iU.arg),(.str iU.path.ax),(.str iU.path.domain),(.int .i64 iU.size)]) (v:=(.agg [(.int .i64 iU.kind),(.str iU.arg),(.str iU.path.ax),(.str iU.path.domain),(.int .i64 iU.size)])) (by kernel_rfl) (n:=(some 5)) (by kernel_rfl) rfl cD (by simp [bG,bF,dM,aU,AV.flat,bX,cz,AV.br,Tg.sh]) (aX bf (.int .i64 0))) bg aZ ⟨rfl,rfl⟩)
     · refine az (aI ai cm) ?_
       obtain ⟨⟨mV,lK⟩,fW,h⟩:=aq h
       dsimp only at h
       refine bE ak (DP fW) ?_
       refine az (aI ai cm) ?_
       refine bB ak (zV (gE:=gE) (og:=q3) (dK:=dK) (Mx:=uf) (mV:=mV) (lK:=lK) (iU:=iU) hfr (ai.trans rfl) (cm.trans rfl) ct ct ct ?_)
       intro H hfr ai cm
       have hle:=hfr.le
       have aM:=aQ ai
       have Dg:=aQ cm
       refine az (aI ai cm) ?_
       refine bn h (fun ko h=> ?_) fun ko h=> ?_
       · refine az (aI ai cm) ?_
         obtain ⟨rfl,rfl⟩:=cE h
         exact aN _ _ _ bk (aV (cj _ (cj _ hfr)) hcl (bh (cs:=[(.int .i64 iU.kind),(.str iU.arg),(.str iU.path.ax),(.str iU.path.domain),(.int .i64 mV)]) (v:=(.agg [(.int .i64 iU.kind),(.str iU.arg),(.str iU.path.ax),(.str iU.path.domain),(.int .i64 mV)])) (by kernel_rfl) (n:=(some 5)) (by kernel_rfl) rfl cD (by simp [bG,bF,dM,aU,AV.flat,bX,cz,AV.br,Tg.sh]) (aX bf (.int .i64 0))) bg aZ ⟨rfl,rfl⟩)
       · obtain ⟨Jw,jg,h⟩:=aq h
         refine az (aI jg (aI ai cm)) ?_
         refine bn h (fun gZ h=> ?_) fun gZ h=> ?_
         · refine az (aI ai cm) ?_
           obtain ⟨rfl,rfl⟩:=cE h
           exact aN _ _ _ bk (aV (cj _ hfr) hcl (bh (cs:=[(.int .i64 0),(.str ([]:List UInt8)),(.str ([]:List UInt8)),(.str ([]:List UInt8)),(.int .i64 0)]) (v:=(.agg [(.int .i64 0),(.str ([]:List UInt8)),(.str ([]:List UInt8)),(.str ([]:List UInt8)),(.int .i64 0)])) (by kernel_rfl) (n:=(some 5)) (by kernel_rfl) rfl cD (by simp [bG,bF,dM,aU,AV.flat,bX,cz,AV.br,Tg.sh]) (aX bf (.int .i64 555))) bg aZ ⟨rfl,rfl⟩)
         · refine az (aI ai cm) ?_
           obtain ⟨rfl,rfl⟩:=cE h
           exact aN _ _ _ bk (aV (cj _ hfr) hcl (bh (cs:=[(.int .i64 0),(.str ([]:List UInt8)),(.str ([]:List UInt8)),(.str ([]:List UInt8)),(.int .i64 0)]) (v:=(.agg [(.int .i64 0),(.str ([]:List UInt8)),(.str ([]:List UInt8)),(.str ([]:List UInt8)),(.int .i64 0)])) (by kernel_rfl) (n:=(some 5)) (by kernel_rfl) rfl cD (by simp [bG,bF,dM,aU,AV.flat,bX,cz,AV.br,Tg.sh]) (aX bf (.int .i64 501))) bg aZ ⟨rfl,rfl⟩)
abbrev rB:av:=(.rg [(au 14 0),(au 15 4),(aj 16 (.ixs (.t 14) (.t 15))),(aj 17 (.bin .lss (.t 16) (.c (b8 32)))),(au 18 17),(ay 19 (.mv (.t 0)) 18 false),(ay 20 (.mv (.t 4)) 18 false),(ay 21 (.ixs (.t 19) (.t 20)) 18 false),(ay 22 (.bin .gtr (.t 21) (.c (b8 126))) 18 false),(aj 23 (.pick (.t 18) (.c (.bool true)) (.t 22)))])
abbrev p6:av:=(.seq (.seq (.rg [(au 8 4),(au 9 0),(aj 10 (.lens (.t 9))),(aj 11 (.bin .lss (.t 8) (.t 10)))]) (.cond (.t 11) .skip (.exit 0))) (.seq (.blk 1 (.seq (.sem (erase rB)) (.cond (.t 23) (.seq (.rg [(aj 24 (.build [(.int .i64 0),(.str []),(.str []),(.str []),(.int .i64 0)] [])),(cZ (.st (.t 2) (.t 24) 5)),(aj 3 (.aO (.c (.int .i64 500))))]) .ret) .skip))) (.rg [(au 12 4),(aj 13 (.bin .add (.t 12) (.c (.int .i64 1)))),(aR 4 13)])))
abbrev rC:av:=(.rg [(au 25 0),(aj 26 (.bin .neq (.t 25) (.c (.str [])))),(au 27 26),(ay 28 (.mv (.t 0)) 27 true),(ay 29 (.mv (.t 0)) 27 true),(ay 30 (.lens (.t 29)) 27 true),(ay 31 (.bin .sub (.t 30) (.c (.int .i64 1))) 27 true),(ay 32 (.ixs (.t 28) (.t 31)) 27 true),(ay 33 (.bin .eql (.t 32) (.c (b8 32))) 27 true),(aj 34 (.pick (.t 27) (.t 33) (.c (.bool false))))])
abbrev p7:av:=(.seq (.seq (.sem (erase rC)) (.cond (.t 34) .skip (.exit 2))) (.blk 3 (.rg [(au 35 0),(au 36 0),(aj 37 (.lens (.t 36))),(aj 38 (.bin .sub (.t 37) (.c (.int .i64 1)))),(aj 39 (.gT (.t 35) none (some (.t 38)))),(aR 0 39)])))
abbrev rD:av:=(.rg [(au 40 5),(au 41 0),(aj 42 (.lens (.t 41))),(aj 43 (.bin .lss (.t 40) (.t 42))),(au 44 43),(ay 45 (.mv (.t 0)) 44 true),(ay 46 (.mv (.t 5)) 44 true),(ay 47 (.ixs (.t 45) (.t 46)) 44 true),(ay 48 (.bin .neq (.t 47) (.c (b8 32))) 44 true),(aj 49 (.pick (.t 44) (.t 48) (.c (.bool false))))])
abbrev p8:av:=(.seq (.seq (.sem (erase rD)) (.cond (.t 49) .skip (.exit 4))) (.blk 5 (.rg [(au 50 5),(aj 51 (.bin .add (.t 50) (.c (.int .i64 1)))),(aR 5 51)])))
abbrev rE:av:=(.cond (.t 64) .skip (.rg [(aj 66 (.bin .eql (.t 60) (.c (.int .i64 2)))),(aR 64 66)]))
abbrev rF:av:=(.rg [(au 67 7),(aj 68 (.bin .eql (.t 67) (.c (.str [])))),(au 69 68),(ay 70 (.mv (.t 7)) 69 false),(ay 71 (.gT (.t 70) (some (.c (.int .i64 1))) none) 69 false),(ay 72 (.call (.c (.fn 28 [])) [(.t 71)]) 69 false),(ay 73 (.un .not (.t 72)) 69 false),(aj 74 (.pick (.t 69) (.c (.bool true)) (.t 73)))])
abbrev rG:av:=(.cond (.t 80) .skip (.rg [(aj 82 (.bin .eql (.t 60) (.c (.int .i64 4)))),(aR 80 82)]))
abbrev rH:av:=(.cond (.t 88) .skip (.rg [(aj 90 (.bin .eql (.t 60) (.c (.int .i64 9)))),(aR 88 90)]))
abbrev rI:av:=(.rg [(au 91 7),(aj 92 (.bin .eql (.t 91) (.c (.str [])))),(au 93 92),(ay 94 (.mv (.t 6)) 93 true),(ay 95 (.bin .eql (.t 94) (.c (.int .i64 9))) 93 true),(aj 96 (.pick (.t 93) (.t 95) (.c (.bool false))))])
abbrev DR:av:=(.seq (.rg [(aj 2 (.alloc [(.int .i64 0),(.str []),(.str []),(.str []),(.int .i64 0)])),(aj 3 (.aO (.c (.int .i64 0))))]) (.seq (.seq (.rg [(aj 4 (.aO (.c (.int .i64 0))))]) (.blk 0 (.loop (erase p6)))) (.seq (.blk 2 (.loop (erase p7))) (.seq (.rg [(aj 5 (.aO (.c (.int .i64 0))))]) (.seq (.blk 4 (.loop (erase p8))) (.seq (.rg [(au 52 0),(au 53 5),(aj 54 (.gT (.t 52) none (some (.t 53)))),(aj 55 (.call (.c (.fn 27 [])) [(.t 54)])),(aj 56 (.call (.c (.fn 26 [])) [(.t 55)])),(aR 6 56)]) (.seq (.rg [(au 57 0),(au 58 5),(aj 59 (.gT (.t 57) (some (.t 58)) none)),(aR 7 59)]) (.seq (.seq (.rg [(au 60 6)]) (.blk 6 (.seq (.rg [(aj 62 (.bin .eql (.t 60) (.c (.int .i64 0)))),(aR 61 62)]) (.cond (.t 61) (.seq (.rg [(aj 63 (.build [(.int .i64 0),(.str []),(.str []),(.str []),(.int .i64 0)] [])),(cZ (.st (.t 2) (.t 63) 5)),(aj 3 (.aO (.c (.int .i64 500))))]) .ret) (.seq (.seq (.rg [(aj 65 (.bin .eql (.t 60) (.c (.int .i64 1)))),(aR 64 65)]) (.sem (erase rE))) (.cond (.t 64) (.seq (.seq (.sem (erase rF)) (.cond (.t 74) (.seq (.rg [(aj 75 (.build [(.int .i64 0),(.str []),(.str []),(.str []),(.int .i64 0)] [])),(cZ (.st (.t 2) (.t 75) 5)),(aj 3 (.aO (.c (.int .i64 501))))]) .ret) .skip)) (.seq (.rg [(au 76 6),(au 77 7),(aj 78 (.gT (.t 77) (some (.c (.int .i64 1))) none)),(aj 79 (.build [(.int .i64 0),(.str []),(.str []),(.str []),(.int .i64 0)] [(0,(1,(.t 76))),(1,(1,(.t 78)))])),(cZ (.st (.t 2) (.t 79) 5)),(aj 3 (.aO (.c (.int .i64 0))))]) .ret)) (.seq (.seq (.rg [(aj 81 (.bin .eql (.t 60) (.c (.int .i64 3)))),(aR 80 81)]) (.sem (erase rG))) (.cond (.t 80) (.seq (.rg [(au 83 6),(au 84 7),(aj 85 (.call (.c (.fn 29 [])) [(.t 83),(.t 84)])),(aj 86 (.ext (.t 85) 0)),(aj 87 (.ext (.t 85) 1)),(cZ (.st (.t 2) (.t 86) 5)),(aR 3 87)]) .ret) (.seq (.seq (.rg [(aj 89 (.bin .eql (.t 60) (.c (.int .i64 7)))),(aR 88 89)]) (.sem (erase rH))) (.cond (.t 88) (.seq (.seq (.sem (erase rI)) (.cond (.t 96) (.seq (.rg [(aj 97 (.build [(.int .i64 0),(.str []),(.str []),(.str []),(.int .i64 0)] [])),(cZ (.st (.t 2) (.t 97) 5)),(aj 3 (.aO (.c (.int .i64 501))))]) .ret) .skip)) (.seq (.seq (.rg [(au 98 7),(aj 99 (.bin .eql (.t 98) (.c (.str []))))]) (.cond (.t 99) (.seq (.rg [(au 100 6),(aj 101 (.build [(.int .i64 0),(.str []),(.str []),(.str []),(.int .i64 0)] [(0,(1,(.t 100)))])),(cZ (.st (.t 2) (.t 101) 5)),(aj 3 (.aO (.c (.int .i64 0))))]) .ret) .skip)) (.seq (.rg [(au 102 6),(au 103 7),(aj 104 (.gT (.t 103) (some (.c (.int .i64 1))) none)),(aj 105 (.build [(.int .i64 0),(.str []),(.str []),(.str []),(.int .i64 0)] [(0,(1,(.t 102))),(1,(1,(.t 104)))])),(cZ (.st (.t 2) (.t 105) 5)),(aj 3 (.aO (.c (.int .i64 0))))]) .ret))) .skip)))))))))) (.seq (.seq (.rg [(au 106 7),(aj 107 (.bin .neq (.t 106) (.c (.str []))))]) (.cond (.t 107) (.seq (.rg [(aj 108 (.build [(.int .i64 0),(.str []),(.str []),(.str []),(.int .i64 0)] [])),(cZ (.st (.t 2) (.t 108) 5)),(aj 3 (.aO (.c (.int .i64 501))))]) .ret) .skip)) (.seq (.rg [(au 109 6),(aj 110 (.build [(.int .i64 0),(.str []),(.str []),(.str []),(.int .i64 0)] [(0,(1,(.t 109)))])),(cZ (.st (.t 2) (.t 110) 5)),(aj 3 (.aO (.c (.int .i64 0))))]) .ret))))))))))
theorem DS:bQ Tryz.prog 9 111 [(.cell 2 29),(.tmp 3)] (erase DR):=⟨Tryz.f9,_,rfl,by decide,rfl,by kernel_rfl,rfl,rfl⟩
abbrev cP:List Nat:=[0,2,3,4,5,6,7,11,23,34,49,60,61,64,74,80,88,96,99,107]
def iD (s1:List UInt8) (i3:Int):Option (Bool):=
 (idx s1 i3).bind fun x6=>
 (if (decide (x6<32)) then
  some true
 else
  some (decide (126<x6)))
def ef (s1:List UInt8):(Int×aH)→Option (St (aH×Int) aH (Int×aH))
 |(i3,s4)=>
  (if (decide (i3<(s1.length:Int))) then
   (iD s1 i3).bind fun t8=>
   (if t8 then
    some (.ret ((aH.mk 0 ([]:List UInt8) (aC.mk ([]:List UInt8) ([]:List UInt8)) 0),500))
   else
    some (.cB ((IntKind.wrap .i64 (i3+1)),s4)))
  else
   some (.eg s4))
def fQ (gh:List UInt8):Option (Bool):=
 (if (!decide (gh=([]:List UInt8))) then
  (idx gh (IntKind.wrap .i64 ((gh.length:Int) - 1))).bind fun j8=>some (decide (j8=32))
 else
  some false)
def dw:(List UInt8)→Option (St (aH×Int) (List UInt8) (List UInt8))
 |gh=>
  (fQ gh).bind fun t18=>
  (if t18 then
   (sub gh 0 (IntKind.wrap .i64 ((gh.length:Int) - 1))).bind fun AK=>some (.cB AK)
  else
   some (.eg gh))
def fR (nT:Int) (n4:List UInt8):Option (Bool):=
 (if (decide (nT<(n4.length:Int))) then
  (idx n4 nT).bind fun De=>some (!decide (De=32))
 else
  some false)
def dx (n4:List UInt8):Int→Option (St (aH×Int) Int Int)
 |nT=>
  (fR nT n4).bind fun t27=>
  (if t27 then
   some (.cB (IntKind.wrap .i64 (nT+1)))
  else
   some (.eg nT))
def kL (r32:Int):Option (Bool):=
 (if (decide (r32=1)) then
  some (decide (r32=1))
 else
  some (decide (r32=2)))
def kM (F:Nat) (gQ:List UInt8):Option (Bool):=
 (if (decide (gQ=([]:List UInt8))) then
  some true
 else
  (sub gQ 1 (gQ.length:Int)).bind fun x38=>(cW F x38).bind fun r39=>some (!r39))
def kN (r32:Int):Option (Bool):=
 (if (decide (r32=3)) then
  some (decide (r32=3))
 else
  some (decide (r32=4)))
def kO (r32:Int):Option (Bool):=
 (if (decide (r32=7)) then
  some (decide (r32=7))
 else
  some (decide (r32=9)))
def lZ (F:Nat) (s1:List UInt8):Option (aH×Int):=
 ((iter (ef s1) F (0,(aH.mk 0 ([]:List UInt8) (aC.mk ([]:List UInt8) ([]:List UInt8)) 0))).bind fun o57=>
 match o57 with
 | .inr aY=>
   ((iter dw F s1).bind fun o54=>
   match o54 with
   | .inr n4=>
     ((iter (dx n4) F 0).bind fun o53=>
     match o53 with
     | .inr Ue=>
       (sub n4 0 Ue).bind fun x30=>
       (jC F x30).bind fun r31=>
       (mW F r31).bind fun r32=>
       (sub n4 Ue (n4.length:Int)).bind fun gQ=>
       (if (decide (r32=0)) then
        some ((aH.mk 0 ([]:List UInt8) (aC.mk ([]:List UInt8) ([]:List UInt8)) 0),500)
       else
        (kL r32).bind fun t36=>
        (if t36 then
         (kM F gQ).bind fun t41=>
         (if t41 then
          some ((aH.mk 0 ([]:List UInt8) (aC.mk ([]:List UInt8) ([]:List UInt8)) 0),501)
         else
          (sub gQ 1 (gQ.length:Int)).bind fun W6=>
          some ((aH.mk r32 W6 (aC.mk ([]:List UInt8) ([]:List UInt8)) 0),0))
        else
         (kN r32).bind fun t45=>
         (if t45 then
          (jo F r32 gQ).bind fun (B7,Z9)=>some (B7,Z9)
         else
          (kO r32).bind fun t50=>
          (if t50 then
           (if ((decide (gQ=([]:List UInt8)))&&(decide (r32=9))) then
            some ((aH.mk 0 ([]:List UInt8) (aC.mk ([]:List UInt8) ([]:List UInt8)) 0),501)
           else
            (if (decide (gQ=([]:List UInt8))) then
             some ((aH.mk r32 ([]:List UInt8) (aC.mk ([]:List UInt8) ([]:List UInt8)) 0),0)
            else
             (sub gQ 1 (gQ.length:Int)).bind fun W7=>
             some ((aH.mk r32 W7 (aC.mk ([]:List UInt8) ([]:List UInt8)) 0),0)))
          else
           (if (!decide (gQ=([]:List UInt8))) then
            some ((aH.mk 0 ([]:List UInt8) (aC.mk ([]:List UInt8) ([]:List UInt8)) 0),501)
           else
            some ((aH.mk r32 ([]:List UInt8) (aC.mk ([]:List UInt8) ([]:List UInt8)) 0),0))))))
     | .inl _=>none)
   | .inl _=>none)
 | .inl (B8,r56)=>
   some (B8,r56))
theorem yz {s1:List UInt8} {i3:Int} {q5:Nat} {s4:aH} {H0 H:AH} (hfr:Fr H0 H0.length [] H) (ai:H[q5]? =some [(.int .i64 s4.kind),(.str s4.arg),(.str s4.path.ax),(.str s4.path.domain),(.int .i64 s4.size)]) (dZ:H0.length≤q5) {K:Exit→Env→AH→Prop} {t7:Bool}
 (h:iD s1 i3=some t7)
 (kn:∀H':AH,Fr H0 H0.length [] H'→H'[q5]? =some [(.int .i64 s4.kind),(.str s4.arg),(.str s4.path.ax),(.str s4.path.domain),(.int .i64 s4.size)]→K .normal [(0,(.str s1)),(2,(.ptr q5 0)),(4,(.int .i64 i3)),(23,(.bool t7))] H'):
 AX Tryz.prog cP 111 H0.length (erase rB) K [(0,(.str s1)),(2,(.ptr q5 0)),(4,(.int .i64 i3))] H:=by
 refine b7 fun K' hK=> ?_
 have hle:=hfr.le
 have aM:=aQ ai
 rw [iD.eq_1] at h
 obtain ⟨x6,hy2,h⟩:=aq h
 refine az (aI hy2 ai) ?_
 refine bV h (fun hy3 h=> ?_) fun hy3 h=> ?_
 · refine az (aI hy3 ai) ?_
   obtain rfl:=aB h
   exact hK _ _ _ _ _ aJ ak (kn _ hfr (ai.trans rfl))
 · refine az (aI hy3 (aI hy2 ai)) ?_
   obtain rfl:=aB h
   exact hK _ _ _ _ _ aJ ak (kn _ hfr (ai.trans rfl))
theorem yA {F:Nat} {i3:Int} {s1:List UInt8} {s4:aH} {q2:Nat} {H0 H:AH} (hfr:Fr H0 H0.length [] H) (ai:H[q2]? =some [(.int .i64 s4.kind),(.str s4.arg),(.str s4.path.ax),(.str s4.path.domain),(.int .i64 s4.size)]) (dZ:H0.length≤q2) {K:Exit→Env→AH→Prop} {o:(aH×Int)⊕(aH)}
 (h:iter (ef s1) F (i3,s4)=some o)
 (dD:∀o':aH,o= .inr o'→∀H':AH,Fr H0 H0.length [] H'→H'[q2]? =some [(.int .i64 o'.kind),(.str o'.arg),(.str o'.path.ax),(.str o'.path.domain),(.int .i64 o'.size)]→K (.exit 0) [(0,(.str s1)),(2,(.ptr q2 0))] H')
 (kr:∀o':aH×Int,o= .inl o'→∀H':AH,Fr H0 H0.length [] H'→H'[q2]? =some [(.int .i64 o'.1.kind),(.str o'.1.arg),(.str o'.1.path.ax),(.str o'.1.path.domain),(.int .i64 o'.1.size)]→K .ret [(2,(.ptr q2 0)),(3,(.int .i64 o'.2))] H'):
 AX Tryz.prog cP 111 H0.length (.loop (erase p6)) K [(0,(.str s1)),(2,(.ptr q2 0)),(4,(.int .i64 i3))] H:=by
 refine iY (fun s e H1=>match s with|(i3,s4)=>e=[(0,(.str s1)),(2,(.ptr q2 0)),(4,(.int .i64 i3))]∧Fr H0 H0.length [] H1∧H1[q2]? =some [(.int .i64 s4.kind),(.str s4.arg),(.str s4.path.ax),(.str s4.path.domain),(.int .i64 s4.size)]) h ⟨rfl,hfr,ai⟩ ?_
 rintro K' ⟨i3,s4⟩ st e H ⟨rfl,hfr,ai⟩ h hN hB hR hX
 have hle:=hfr.le
 have aM:=aQ ai
 rw [ef.eq_1] at h
 refine az ai ?_
 refine bn h (fun hy1 h=> ?_) fun hy1 h=> ?_
 · refine az ai ?_
   obtain ⟨t8,hy4,h⟩:=aq h
   refine bB ak (yz (s4:=s4) (q5:=q2) hfr (ai.trans rfl) ct hy4 ?_)
   intro H hfr ai
   have hle:=hfr.le
   have aM:=aQ ai
   refine az ai ?_
   refine bn h (fun bM h=> ?_) fun bM h=> ?_
   · refine az ai ?_
     obtain rfl:=aB h
     exact hX _ _ _ _ _ dB aJ ak (kr _ (hR _ rfl) _ (cj _ hfr) cD)
   · refine az ai ?_
     obtain rfl:=aB h
     exact hN _ rfl _ _ _ _ aJ ak ⟨rfl,hfr,(ai.trans rfl)⟩
 · refine az ai ?_
   obtain rfl:=aB h
   exact hX _ _ _ _ _ dB aJ ak (dD _ (hB _ rfl) _ hfr (ai.trans rfl))
theorem yB {gh:List UInt8} {zT:Nat} {aY:aH} {H0 H:AH} (hfr:Fr H0 H0.length [] H) (ai:H[zT]? =some [(.int .i64 aY.kind),(.str aY.arg),(.str aY.path.ax),(.str aY.path.domain),(.int .i64 aY.size)]) (dZ:H0.length≤zT) {K:Exit→Env→AH→Prop} {t17:Bool}
 (h:fQ gh=some t17)
 (kn:∀H':AH,Fr H0 H0.length [] H'→H'[zT]? =some [(.int .i64 aY.kind),(.str aY.arg),(.str aY.path.ax),(.str aY.path.domain),(.int .i64 aY.size)]→K .normal [(0,(.str gh)),(2,(.ptr zT 0)),(34,(.bool t17))] H'):
 AX Tryz.prog cP 111 H0.length (erase rC) K [(0,(.str gh)),(2,(.ptr zT 0))] H:=by
 refine b7 fun K' hK=> ?_
 have hle:=hfr.le
 have aM:=aQ ai
 rw [fQ.eq_1] at h
 refine az ai ?_
 refine bV h (fun cO h=> ?_) fun cO h=> ?_
 · obtain ⟨j8,cC,h⟩:=aq h
   refine az (aI cO (aI cC ai)) ?_
   obtain rfl:=aB h
   exact hK _ _ _ _ _ aJ ak (kn _ hfr (ai.trans rfl))
 · refine az (aI cO ai) ?_
   obtain rfl:=aB h
   exact hK _ _ _ _ _ aJ ak (kn _ hfr (ai.trans rfl))
theorem yC {F:Nat} {gh:List UInt8} {mc:Nat} {aY:aH} {H0 H:AH} (hfr:Fr H0 H0.length [] H) (ai:H[mc]? =some [(.int .i64 aY.kind),(.str aY.arg),(.str aY.path.ax),(.str aY.path.domain),(.int .i64 aY.size)]) (dZ:H0.length≤mc) {K:Exit→Env→AH→Prop} {o:(aH×Int)⊕((List UInt8))}
 (h:iter dw F gh=some o)
 (T9:∀o':(List UInt8),o= .inr o'→∀H':AH,Fr H0 H0.length [] H'→H'[mc]? =some [(.int .i64 aY.kind),(.str aY.arg),(.str aY.path.ax),(.str aY.path.domain),(.int .i64 aY.size)]→K (.exit 2) [(0,(.str o')),(2,(.ptr mc 0))] H'):
 AX Tryz.prog cP 111 H0.length (.loop (erase p7)) K [(0,(.str gh)),(2,(.ptr mc 0))] H:=by
 refine iY (fun s e H1=>match s with|gh=>e=[(0,(.str gh)),(2,(.ptr mc 0))]∧Fr H0 H0.length [] H1∧H1[mc]? =some [(.int .i64 aY.kind),(.str aY.arg),(.str aY.path.ax),(.str aY.path.domain),(.int .i64 aY.size)]) h ⟨rfl,hfr,ai⟩ ?_
 rintro K' gh st e H ⟨rfl,hfr,ai⟩ h hN hB hR hX
 have hle:=hfr.le
 have aM:=aQ ai
 rw [dw.eq_1] at h
 refine az ai ?_
 obtain ⟨t18,cX,h⟩:=aq h
 refine bB ak (yB (aY:=aY) (zT:=mc) hfr (ai.trans rfl) ct cX ?_)
 intro H hfr ai
 have hle:=hfr.le
 have aM:=aQ ai
 refine az ai ?_
 refine bn h (fun cx h=> ?_) fun cx h=> ?_
 · obtain ⟨AK,cJ,h⟩:=aq h
   refine az (aI cJ ai) ?_
   obtain rfl:=aB h
   exact hN _ rfl _ _ _ _ aJ ak ⟨rfl,hfr,(ai.trans rfl)⟩
 · refine az ai ?_
   obtain rfl:=aB h
   exact hX _ _ _ _ _ dB aJ ak (T9 _ (hB _ rfl) _ hfr (ai.trans rfl))
theorem yD {nT:Int} {n4:List UInt8} {AS:Nat} {aY:aH} {H0 H:AH} (hfr:Fr H0 H0.length [] H) (ai:H[AS]? =some [(.int .i64 aY.kind),(.str aY.arg),(.str aY.path.ax),(.str aY.path.domain),(.int .i64 aY.size)]) (dZ:H0.length≤AS) {K:Exit→Env→AH→Prop} {t26:Bool}
 (h:fR nT n4=some t26)
 (kn:∀H':AH,Fr H0 H0.length [] H'→H'[AS]? =some [(.int .i64 aY.kind),(.str aY.arg),(.str aY.path.ax),(.str aY.path.domain),(.int .i64 aY.size)]→K .normal [(0,(.str n4)),(2,(.ptr AS 0)),(5,(.int .i64 nT)),(49,(.bool t26))] H'):
 AX Tryz.prog cP 111 H0.length (erase rD) K [(0,(.str n4)),(2,(.ptr AS 0)),(5,(.int .i64 nT))] H:=by
 refine b7 fun K' hK=> ?_
 have hle:=hfr.le
 have aM:=aQ ai
 rw [fR.eq_1] at h
 refine az ai ?_
 refine bV h (fun cS h=> ?_) fun cS h=> ?_
 · obtain ⟨De,eI,h⟩:=aq h
   refine az (aI cS (aI eI ai)) ?_
   obtain rfl:=aB h
   exact hK _ _ _ _ _ aJ ak (kn _ hfr (ai.trans rfl))
 · refine az (aI cS ai) ?_
   obtain rfl:=aB h
   exact hK _ _ _ _ _ aJ ak (kn _ hfr (ai.trans rfl))
theorem yE {F:Nat} {nT:Int} {n4:List UInt8} {og:Nat} {aY:aH} {H0 H:AH} (hfr:Fr H0 H0.length [] H) (ai:H[og]? =some [(.int .i64 aY.kind),(.str aY.arg),(.str aY.path.ax),(.str aY.path.domain),(.int .i64 aY.size)]) (dZ:H0.length≤og) {K:Exit→Env→AH→Prop} {o:(aH×Int)⊕(Int)}
 (h:iter (dx n4) F nT=some o)
 (kb4:∀o':Int,o= .inr o'→∀H':AH,Fr H0 H0.length [] H'→H'[og]? =some [(.int .i64 aY.kind),(.str aY.arg),(.str aY.path.ax),(.str aY.path.domain),(.int .i64 aY.size)]→K (.exit 4) [(0,(.str n4)),(2,(.ptr og 0)),(5,(.int .i64 o'))] H'):
 AX Tryz.prog cP 111 H0.length (.loop (erase p8)) K [(0,(.str n4)),(2,(.ptr og 0)),(5,(.int .i64 nT))] H:=by
 refine iY (fun s e H1=>match s with|nT=>e=[(0,(.str n4)),(2,(.ptr og 0)),(5,(.int .i64 nT))]∧Fr H0 H0.length [] H1∧H1[og]? =some [(.int .i64 aY.kind),(.str aY.arg),(.str aY.path.ax),(.str aY.path.domain),(.int .i64 aY.size)]) h ⟨rfl,hfr,ai⟩ ?_
 rintro K' nT st e H ⟨rfl,hfr,ai⟩ h hN hB hR hX
 have hle:=hfr.le
 have aM:=aQ ai
 rw [dx.eq_1] at h
 refine az ai ?_
 obtain ⟨t27,fW,h⟩:=aq h
 refine bB ak (yD (aY:=aY) (AS:=og) hfr (ai.trans rfl) ct fW ?_)
 intro H hfr ai
 have hle:=hfr.le
 have aM:=aQ ai
 refine az ai ?_
 refine bn h (fun eM h=> ?_) fun eM h=> ?_
 · refine az ai ?_
   obtain rfl:=aB h
   exact hN _ rfl _ _ _ _ aJ ak ⟨rfl,hfr,(ai.trans rfl)⟩
 · refine az ai ?_
   obtain rfl:=aB h
   exact hX _ _ _ _ _ dB aJ ak (kb4 _ (hB _ rfl) _ hfr (ai.trans rfl))
theorem yF {r32:Int} {QJ:Nat} {gQ:List UInt8} {aY:aH} {H0 H:AH} (hfr:Fr H0 H0.length [] H) (ai:H[QJ]? =some [(.int .i64 aY.kind),(.str aY.arg),(.str aY.path.ax),(.str aY.path.domain),(.int .i64 aY.size)]) (dZ:H0.length≤QJ) {K:Exit→Env→AH→Prop} {t35:Bool}
 (h:kL r32=some t35)
 (kn:∀H':AH,Fr H0 H0.length [] H'→H'[QJ]? =some [(.int .i64 aY.kind),(.str aY.arg),(.str aY.path.ax),(.str aY.path.domain),(.int .i64 aY.size)]→K .normal [(2,(.ptr QJ 0)),(6,(.int .i64 r32)),(7,(.str gQ)),(60,(.int .i64 r32)),(64,(.bool t35))] H'):
 AX Tryz.prog cP 111 H0.length (erase rE) K [(2,(.ptr QJ 0)),(6,(.int .i64 r32)),(7,(.str gQ)),(60,(.int .i64 r32)),(64,(.bool (decide (r32=1))))] H:=by
 refine b7 fun K' hK=> ?_
 have hle:=hfr.le
 have aM:=aQ ai
 rw [kL.eq_1] at h
 refine az ai ?_
 refine bn h (fun lG h=> ?_) fun lG h=> ?_
 · refine az ai ?_
   obtain rfl:=aB h
   exact hK _ _ _ _ _ aJ ak (kn _ hfr (ai.trans rfl))
 · refine az ai ?_
   obtain rfl:=aB h
   exact hK _ _ _ _ _ aJ ak (kn _ hfr (ai.trans rfl))
theorem yG {F:Nat} {gQ:List UInt8} {QK:Nat} {r32:Int} {aY:aH} {H0 H:AH} (hfr:Fr H0 H0.length [] H) (ai:H[QK]? =some [(.int .i64 aY.kind),(.str aY.arg),(.str aY.path.ax),(.str aY.path.domain),(.int .i64 aY.size)]) (dZ:H0.length≤QK) {K:Exit→Env→AH→Prop} {t40:Bool}
 (h:kM F gQ=some t40)
 (kn:∀H':AH,Fr H0 H0.length [] H'→H'[QK]? =some [(.int .i64 aY.kind),(.str aY.arg),(.str aY.path.ax),(.str aY.path.domain),(.int .i64 aY.size)]→K .normal [(2,(.ptr QK 0)),(6,(.int .i64 r32)),(7,(.str gQ)),(74,(.bool t40))] H'):
 AX Tryz.prog cP 111 H0.length (erase rF) K [(2,(.ptr QK 0)),(6,(.int .i64 r32)),(7,(.str gQ))] H:=by
 refine b7 fun K' hK=> ?_
 have hle:=hfr.le
 have aM:=aQ ai
 rw [kM.eq_1] at h
 refine az ai ?_
 refine bV h (fun mU h=> ?_) fun mU h=> ?_
 · refine az (aI mU ai) ?_
   obtain rfl:=aB h
   exact hK _ _ _ _ _ aJ ak (kn _ hfr (ai.trans rfl))
 · obtain ⟨x38,vW,h⟩:=aq h
   refine az (aI mU (aI vW ai)) ?_
   obtain ⟨r39,zC,h⟩:=aq h
   refine bE ak (mH zC) ?_
   refine az ai ?_
   obtain rfl:=aB h
   exact hK _ _ _ _ _ aJ ak (kn _ hfr (ai.trans rfl))
theorem yH {r32:Int} {QL:Nat} {gQ:List UInt8} {aY:aH} {H0 H:AH} (hfr:Fr H0 H0.length [] H) (ai:H[QL]? =some [(.int .i64 aY.kind),(.str aY.arg),(.str aY.path.ax),(.str aY.path.domain),(.int .i64 aY.size)]) (dZ:H0.length≤QL) {K:Exit→Env→AH→Prop} {t44:Bool}
 (h:kN r32=some t44)
 (kn:∀H':AH,Fr H0 H0.length [] H'→H'[QL]? =some [(.int .i64 aY.kind),(.str aY.arg),(.str aY.path.ax),(.str aY.path.domain),(.int .i64 aY.size)]→K .normal [(2,(.ptr QL 0)),(6,(.int .i64 r32)),(7,(.str gQ)),(60,(.int .i64 r32)),(80,(.bool t44))] H'):
 AX Tryz.prog cP 111 H0.length (erase rG) K [(2,(.ptr QL 0)),(6,(.int .i64 r32)),(7,(.str gQ)),(60,(.int .i64 r32)),(80,(.bool (decide (r32=3))))] H:=by
 refine b7 fun K' hK=> ?_
 have hle:=hfr.le
 have aM:=aQ ai
 rw [kN.eq_1] at h
 refine az ai ?_
 refine bn h (fun JL h=> ?_) fun JL h=> ?_
 · refine az ai ?_
   obtain rfl:=aB h
   exact hK _ _ _ _ _ aJ ak (kn _ hfr (ai.trans rfl))
 · refine az ai ?_
   obtain rfl:=aB h
   exact hK _ _ _ _ _ aJ ak (kn _ hfr (ai.trans rfl))
theorem yI {r32:Int} {QM:Nat} {gQ:List UInt8} {aY:aH} {H0 H:AH} (hfr:Fr H0 H0.length [] H) (ai:H[QM]? =some [(.int .i64 aY.kind),(.str aY.arg),(.str aY.path.ax),(.str aY.path.domain),(.int .i64 aY.size)]) (dZ:H0.length≤QM) {K:Exit→Env→AH→Prop} {t49:Bool}
 (h:kO r32=some t49)
 (kn:∀H':AH,Fr H0 H0.length [] H'→H'[QM]? =some [(.int .i64 aY.kind),(.str aY.arg),(.str aY.path.ax),(.str aY.path.domain),(.int .i64 aY.size)]→K .normal [(2,(.ptr QM 0)),(6,(.int .i64 r32)),(7,(.str gQ)),(88,(.bool t49))] H'):
 AX Tryz.prog cP 111 H0.length (erase rH) K [(2,(.ptr QM 0)),(6,(.int .i64 r32)),(7,(.str gQ)),(60,(.int .i64 r32)),(88,(.bool (decide (r32=7))))] H:=by
 refine b7 fun K' hK=> ?_
 have hle:=hfr.le
 have aM:=aQ ai
 rw [kO.eq_1] at h
 refine az ai ?_
 refine bn h (fun ab3 h=> ?_) fun ab3 h=> ?_
 · refine az ai ?_
   obtain rfl:=aB h
   exact hK _ _ _ _ _ aJ ak (kn _ hfr (ai.trans rfl))
 · refine az ai ?_
   obtain rfl:=aB h
   exact hK _ _ _ _ _ aJ ak (kn _ hfr (ai.trans rfl))
theorem yJ {QN:Nat} {r32:Int} {gQ:List UInt8} {aY:aH} {H0 H:AH} (hfr:Fr H0 H0.length [] H) (ai:H[QN]? =some [(.int .i64 aY.kind),(.str aY.arg),(.str aY.path.ax),(.str aY.path.domain),(.int .i64 aY.size)]) (dZ:H0.length≤QN) {K:Exit→Env→AH→Prop}
 (kn:∀H':AH,Fr H0 H0.length [] H'→H'[QN]? =some [(.int .i64 aY.kind),(.str aY.arg),(.str aY.path.ax),(.str aY.path.domain),(.int .i64 aY.size)]→K .normal [(2,(.ptr QN 0)),(6,(.int .i64 r32)),(7,(.str gQ)),(96,(.bool ((decide (gQ=([]:List UInt8)))&&(decide (r32=9)))))] H'):
 AX Tryz.prog cP 111 H0.length (erase rI) K [(2,(.ptr QN 0)),(6,(.int .i64 r32)),(7,(.str gQ))] H:=by
 refine b7 fun K' hK=> ?_
 have hle:=hfr.le
 have aM:=aQ ai
 refine az ai ?_
 refine nj (fun JN=> ?_) fun JN=> ?_
 · refine az (aI JN ai) ?_
   exact hK _ _ _ _ _ (fI JN) ak (kn _ hfr (ai.trans rfl))
 · refine az (aI JN ai) ?_
   exact hK _ _ _ _ _ (fI JN) ak (kn _ hfr (ai.trans rfl))
theorem B9 {F:Nat} {s1:List UInt8} {H0:AH} {aP:aH} {eL:Int} (h:lZ F s1=some (aP,eL)):
 aF Tryz.prog 9 [(.str s1)] H0 fun v H'=>v=(.bz [(.agg [(.int .i64 aP.kind),(.str aP.arg),(.str aP.path.ax),(.str aP.path.domain),(.int .i64 aP.size)]),(.int .i64 eL)])∧H'=H0:=by
 refine nk DS cP [] fun hcl K0 aN H hH hfr=> ?_
 clear hH
 have hle:=hfr.le
 rw [lZ.eq_1] at h
 refine ei ?_
 obtain ⟨q2,kU⟩:∃q:Nat,H.length=q:=⟨_,rfl⟩
 try rw [kU]
 obtain ⟨o57,cc,h⟩:=aq h
 refine bB ak (yA (q2:=q2) (Fr.app hfr) uR ct cc ?_ ?_)
 · rintro aY rfl H hfr ai
   try dsimp only at h ai
   have hle:=hfr.le
   have aM:=aQ ai
   refine az ai ?_
   obtain ⟨o54,cV,h⟩:=aq h
   refine bB ak (yC (aY:=aY) (mc:=q2) hfr (ai.trans rfl) ct cV ?_)
   · rintro n4 rfl H hfr ai
     try dsimp only at h ai
     have hle:=hfr.le
     have aM:=aQ ai
     refine az ai ?_
     obtain ⟨o53,ko,h⟩:=aq h
     refine bB ak (yE (aY:=aY) (og:=q2) hfr (ai.trans rfl) ct ko ?_)
     · rintro Ue rfl H hfr ai
       try dsimp only at h ai
       have hle:=hfr.le
       have aM:=aQ ai
       refine az ai ?_
       obtain ⟨x30,jg,h⟩:=aq h
       refine az (aI jg ai) ?_
       obtain ⟨r31,gZ,h⟩:=aq h
       refine bE ak (uK gZ) ?_
       refine az ai ?_
       obtain ⟨r32,kq,h⟩:=aq h
       refine bE ak (Dn kq) ?_
       refine az ai ?_
       obtain ⟨gQ,jh,h⟩:=aq h
       refine az (aI jh ai) ?_
       refine bn h (fun ku h=> ?_) fun ku h=> ?_
       · refine az ai ?_
         obtain ⟨rfl,rfl⟩:=cE h
         exact aN _ _ _ bk (aV (cj _ hfr) hcl (bh (cs:=[(.int .i64 0),(.str ([]:List UInt8)),(.str ([]:List UInt8)),(.str ([]:List UInt8)),(.int .i64 0)]) (v:=(.agg [(.int .i64 0),(.str ([]:List UInt8)),(.str ([]:List UInt8)),(.str ([]:List UInt8)),(.int .i64 0)])) (by kernel_rfl) (n:=(some 5)) (by kernel_rfl) rfl cD (by simp [bG,bF,dM,aU,AV.flat,bX,cz,AV.br,Tg.sh]) (aX bf (.int .i64 500))) bg aZ ⟨rfl,rfl⟩)
       · refine az ai ?_
         obtain ⟨t36,jU,h⟩:=aq h
         refine bB ak (yF (gQ:=gQ) (aY:=aY) (QJ:=q2) hfr (ai.trans rfl) ct jU ?_)
         intro H hfr ai
         have hle:=hfr.le
         have aM:=aQ ai
         refine az ai ?_
         refine bn h (fun kz h=> ?_) fun kz h=> ?_
         · refine az ai ?_
           obtain ⟨t41,JJ,h⟩:=aq h
           refine bB ak (yG (r32:=r32) (aY:=aY) (QK:=q2) hfr (ai.trans rfl) ct JJ ?_)
           intro H hfr ai
           have hle:=hfr.le
           have aM:=aQ ai
           refine az ai ?_
           refine bn h (fun Ft h=> ?_) fun Ft h=> ?_
           · refine az ai ?_
             obtain ⟨rfl,rfl⟩:=cE h
             exact aN _ _ _ bk (aV (cj _ hfr) hcl (bh (cs:=[(.int .i64 0),(.str ([]:List UInt8)),(.str ([]:List UInt8)),(.str ([]:List UInt8)),(.int .i64 0)]) (v:=(.agg [(.int .i64 0),(.str ([]:List UInt8)),(.str ([]:List UInt8)),(.str ([]:List UInt8)),(.int .i64 0)])) (by kernel_rfl) (n:=(some 5)) (by kernel_rfl) rfl cD (by simp [bG,bF,dM,aU,AV.flat,bX,cz,AV.br,Tg.sh]) (aX bf (.int .i64 501))) bg aZ ⟨rfl,rfl⟩)
           · obtain ⟨W6,JK,h⟩:=aq h
             refine az (aI JK ai) ?_
             obtain ⟨rfl,rfl⟩:=cE h
             exact aN _ _ _ bk (aV (cj _ hfr) hcl (bh (cs:=[(.int .i64 r32),(.str W6),(.str ([]:List UInt8)),(.str ([]:List UInt8)),(.int .i64 0)]) (v:=(.agg [(.int .i64 r32),(.str W6),(.str ([]:List UInt8)),(.str ([]:List UInt8)),(.int .i64 0)])) (by kernel_rfl) (n:=(some 5)) (by kernel_rfl) rfl cD (by simp [bG,bF,dM,aU,AV.flat,bX,cz,AV.br,Tg.sh]) (aX bf (.int .i64 0))) bg aZ ⟨rfl,rfl⟩)
         · refine az ai ?_
           obtain ⟨t45,Ub,h⟩:=aq h
           refine bB ak (yH (gQ:=gQ) (aY:=aY) (QL:=q2) hfr (ai.trans rfl) ct Ub ?_)
           intro H hfr ai
           have hle:=hfr.le
           have aM:=aQ ai
           refine az ai ?_
           refine bn h (fun ab4 h=> ?_) fun ab4 h=> ?_
           · refine az ai ?_
             obtain ⟨⟨B7,Z9⟩,ab5,h⟩:=aq h
             dsimp only at h
             refine bE ak (DQ ab5) ?_
             refine az ai ?_
             obtain ⟨rfl,rfl⟩:=cE h
             exact aN _ _ _ bk (aV (cj _ hfr) hcl (bh (cs:=[(.int .i64 B7.kind),(.str B7.arg),(.str B7.path.ax),(.str B7.path.domain),(.int .i64 B7.size)]) (v:=(.agg [(.int .i64 B7.kind),(.str B7.arg),(.str B7.path.ax),(.str B7.path.domain),(.int .i64 B7.size)])) (by kernel_rfl) (n:=(some 5)) (by kernel_rfl) rfl cD (by simp [bG,bF,dM,aU,AV.flat,bX,cz,AV.br,Tg.sh]) (aX bf (.int .i64 Z9))) bg aZ ⟨rfl,rfl⟩)
           · refine az ai ?_
             obtain ⟨t50,ab6,h⟩:=aq h
             refine bB ak (yI (gQ:=gQ) (aY:=aY) (QM:=q2) hfr (ai.trans rfl) ct ab6 ?_)
             intro H hfr ai
             have hle:=hfr.le
             have aM:=aQ ai
             refine az ai ?_
             refine bn h (fun ab7 h=> ?_) fun ab7 h=> ?_
             · refine az ai ?_
               refine bB ak (yJ (QN:=q2) (r32:=r32) (gQ:=gQ) (aY:=aY) hfr (ai.trans rfl) ct ?_)
               intro H hfr ai
               have hle:=hfr.le
               have aM:=aQ ai
               refine az ai ?_
               refine bn h (fun ab8 h=> ?_) fun ab8 h=> ?_
               · refine az ai ?_
                 obtain ⟨rfl,rfl⟩:=cE h
                 exact aN _ _ _ bk (aV (cj _ hfr) hcl (bh (cs:=[(.int .i64 0),(.str ([]:List UInt8)),(.str ([]:List UInt8)),(.str ([]:List UInt8)),(.int .i64 0)]) (v:=(.agg [(.int .i64 0),(.str ([]:List UInt8)),(.str ([]:List UInt8)),(.str ([]:List UInt8)),(.int .i64 0)])) (by kernel_rfl) (n:=(some 5)) (by kernel_rfl) rfl cD (by simp [bG,bF,dM,aU,AV.flat,bX,cz,AV.br,Tg.sh]) (aX bf (.int .i64 501))) bg aZ ⟨rfl,rfl⟩)
               · refine az ai ?_
                 refine bn h (fun ab9 h=> ?_) fun ab9 h=> ?_
                 · refine az ai ?_
                   obtain ⟨rfl,rfl⟩:=cE h
                   exact aN _ _ _ bk (aV (cj _ hfr) hcl (bh (cs:=[(.int .i64 r32),(.str ([]:List UInt8)),(.str ([]:List UInt8)),(.str ([]:List UInt8)),(.int .i64 0)]) (v:=(.agg [(.int .i64 r32),(.str ([]:List UInt8)),(.str ([]:List UInt8)),(.str ([]:List UInt8)),(.int .i64 0)])) (by kernel_rfl) (n:=(some 5)) (by kernel_rfl) rfl cD (by simp [bG,bF,dM,aU,AV.flat,bX,cz,AV.br,Tg.sh]) (aX bf (.int .i64 0))) bg aZ ⟨rfl,rfl⟩)
                 · obtain ⟨W7,acd,h⟩:=aq h
                   refine az (aI acd ai) ?_
                   obtain ⟨rfl,rfl⟩:=cE h
                   exact aN _ _ _ bk (aV (cj _ hfr) hcl (bh (cs:=[(.int .i64 r32),(.str W7),(.str ([]:List UInt8)),(.str ([]:List UInt8)),(.int .i64 0)]) (v:=(.agg [(.int .i64 r32),(.str W7),(.str ([]:List UInt8)),(.str ([]:List UInt8)),(.int .i64 0)])) (by kernel_rfl) (n:=(some 5)) (by kernel_rfl) rfl cD (by simp [bG,bF,dM,aU,AV.flat,bX,cz,AV.br,Tg.sh]) (aX bf (.int .i64 0))) bg aZ ⟨rfl,rfl⟩)
             · refine az ai ?_
               refine bn h (fun ace h=> ?_) fun ace h=> ?_
               · refine az ai ?_
                 obtain ⟨rfl,rfl⟩:=cE h
                 exact aN _ _ _ bk (aV (cj _ hfr) hcl (bh (cs:=[(.int .i64 0),(.str ([]:List UInt8)),(.str ([]:List UInt8)),(.str ([]:List UInt8)),(.int .i64 0)]) (v:=(.agg [(.int .i64 0),(.str ([]:List UInt8)),(.str ([]:List UInt8)),(.str ([]:List UInt8)),(.int .i64 0)])) (by kernel_rfl) (n:=(some 5)) (by kernel_rfl) rfl cD (by simp [bG,bF,dM,aU,AV.flat,bX,cz,AV.br,Tg.sh]) (aX bf (.int .i64 501))) bg aZ ⟨rfl,rfl⟩)
               · refine az ai ?_
                 obtain ⟨rfl,rfl⟩:=cE h
                 exact aN _ _ _ bk (aV (cj _ hfr) hcl (bh (cs:=[(.int .i64 r32),(.str ([]:List UInt8)),(.str ([]:List UInt8)),(.str ([]:List UInt8)),(.int .i64 0)]) (v:=(.agg [(.int .i64 r32),(.str ([]:List UInt8)),(.str ([]:List UInt8)),(.str ([]:List UInt8)),(.int .i64 0)])) (by kernel_rfl) (n:=(some 5)) (by kernel_rfl) rfl cD (by simp [bG,bF,dM,aU,AV.flat,bX,cz,AV.br,Tg.sh]) (aX bf (.int .i64 0))) bg aZ ⟨rfl,rfl⟩)
 · rintro ⟨B8,r56⟩ rfl H hfr ai
   try dsimp only at h ai
   have hle:=hfr.le
   have aM:=aQ ai
   refine az ai ?_
   obtain ⟨rfl,rfl⟩:=cE h
   exact aN _ _ _ bk (aV hfr hcl (bh (cs:=[(.int .i64 B8.kind),(.str B8.arg),(.str B8.path.ax),(.str B8.path.domain),(.int .i64 B8.size)]) (v:=(.agg [(.int .i64 B8.kind),(.str B8.arg),(.str B8.path.ax),(.str B8.path.domain),(.int .i64 B8.size)])) (by kernel_rfl) (n:=(some 5)) (by kernel_rfl) rfl (ai.trans rfl) (by simp [bG,bF,dM,aU,AV.flat,bX,cz,AV.br,Tg.sh]) (aX bf (.int .i64 r56))) bg aZ ⟨rfl,rfl⟩)
end Go.Proofs.cY
end
section
namespace Go.Am
open Go
theorem wr {n:Int} (h1: -9223372036854775808≤n) (h2:n≤9223372036854775807):IntKind.wrap .i64 n=n:=by
 simp only [IntKind.wrap,IntKind.bits,IntKind.signed,Bool.true_and,decide_eq_true_eq,Int.reducePow,Nat.reduceSub,ge_iff_le]
 split<;>omega
theorem zW {α:Type} (l:List α) (n:Nat):idx l (n:Int)=l[n]? :=by simp [idx]
theorem bt {α:Type} {l:List α} {n:Nat} {x:α} (h:l[n]? =some x):idx l (n:Int)=some x:=by rw [zW,h]
theorem W8 {α:Type} {l:List α} {n:Nat} (h:n<l.length):idx l (n:Int)=some l[n]:=by rw [zW,List.getElem?_eq_getElem h]
theorem acF {α:Type} {l:List α} {i:Int} (h0:0≤i) (h1:i<l.length):∃x,idx l i=some x∧l[i.toNat]? =some x:=by
 obtain ⟨n,rfl⟩:=Int.eq_ofNat_of_zero_le h0
 have hn:n<l.length:=by omega
 exact ⟨l[n],W8 hn,by simp [List.getElem?_eq_getElem hn]⟩
theorem oh {α:Type} {l:List α} {i j:Nat} (h:i≤j) (h2:j≤l.length):sub l (i:Int) (j:Int)=some ((l.take j).drop i):=by
 unfold sub;rw [if_pos (by omega)];simp
theorem fB {α:Type} {l:List α} {i:Nat} (h:i≤l.length):sub l (i:Int) (l.length:Int)=some (l.drop i):=by
 rw [oh h (Nat.le_refl _),List.take_length]
theorem om {α:Type} {l:List α} {j:Nat} (h:j≤l.length):sub l 0 (j:Int)=some (l.take j):=by
 have:=oh (l:=l) (i:=0) (Nat.zero_le j) h
 simpa using this
theorem acf {α:Type} {l:List α} {i:Int} (h0:0≤i) (h:i≤l.length):sub l i (l.length:Int)=some (l.drop i.toNat):=by
 obtain ⟨n,rfl⟩:=Int.eq_ofNat_of_zero_le h0
 rw [fB (by omega)];simp
theorem sub_one {α:Type} {l:List α} {c:α} {r:List α} (h:l=c::r):sub l 1 (l.length:Int)=some r:=by
 have:=fB (l:=l) (i:=1) (by rw [h];simp)
 rw [h] at this ⊢;simpa using this
theorem e5 {α:Type} {b:Nat} {xs ys:List α} (h:xs.length+ys.length≤1000000000) (hb:b≤1000):eE b xs ys=some (xs++ys):=by
 unfold eE
 rw [if_pos]
 refine ⟨?_,by omega⟩
 calc (xs.length+ys.length)*b≤1000000000*1000:=Nat.mul_le_mul h hb
  _≤_:=by omega
theorem gR {l m:List UInt8} (h:l.length+m.length≤1000000000):cat l m=some (l++m):=by
 unfold cat;rw [if_pos (by omega)]
theorem bW {ρ τ σ:Type} {body:σ→Option (St ρ τ σ)} {F:Nat} {s s':σ} (h:body s=some (.cB s')):iter body (F+1) s=iter body F s':=by simp only [iter,h]
theorem bA {ρ τ σ:Type} {body:σ→Option (St ρ τ σ)} {F:Nat} {s:σ} {t:τ} (h:body s=some (.eg t)):iter body (F+1) s=some (.inr t):=by simp only [iter,h]
theorem cK {ρ τ σ:Type} {body:σ→Option (St ρ τ σ)} {F:Nat} {s:σ} {r:ρ} (h:body s=some (.ret r)):iter body (F+1) s=some (.inl r):=by simp only [iter,h]
theorem aax {ρ τ σ:Type} {body:σ→Option (St ρ τ σ)} (I:σ→Prop) (m:σ→Nat) (post:ρ⊕τ→Prop)
 (step:∀s,I s→(∃r,body s=some (.ret r)∧post (.inl r))∨(∃t,body s=some (.eg t)∧post (.inr t))∨∃s',body s=some (.cB s')∧I s'∧m s'<m s):
 ∀(F:Nat) (s:σ),I s→m s<F→∃o,iter body F s=some o∧post o:=by
 intro F
 induction F with
 |zero=>intro s _ h;omega
 |succ F ih=>
  intro s hI hm
  rcases step s hI with ⟨r,h,hp⟩|⟨t,h,hp⟩|⟨s',h,hI',hlt⟩
  · exact ⟨_,cK h,hp⟩
  · exact ⟨_,bA h,hp⟩
  · obtain ⟨o,ho,hp⟩:=ih s' hI' (by omega)
    exact ⟨o,by rw [bW h];exact ho,hp⟩
theorem drop_cons {α:Type} {l r:List α} {i:Nat} {c:α} (h:l.drop i=c::r):i<l.length∧l[i]? =some c∧l.drop (i+1)=r:=by
 have hlt:i<l.length:=by
  rcases Nat.lt_or_ge i l.length with h1|h1
  · exact h1
  · rw [List.drop_eq_nil_of_le h1] at h;cases h
 rw [List.drop_eq_getElem_cons hlt] at h
 injection h with h1 h2
 exact ⟨hlt,by rw [List.getElem?_eq_getElem hlt,h1],h2⟩
theorem W9 {α:Type} {l:List α} {i:Nat} (h:l.drop i=[]):l.length≤i:=List.drop_eq_nil_iff.1 h
theorem bN {n F:Nat} (h:n<F):∃G,F=G+1:=⟨F - 1,by omega⟩
end Go.Am
end
section
set_option maxRecDepth 100000
namespace Go.Proofs.cY
open Go Go.Am Go.Proofs
theorem fH {p:UInt8→Bool} (h:(List.range 256).all (fun n=>p (UInt8.ofNat n))=true) (c:UInt8):p c=true:=by
 have:=List.all_eq_true.1 h c.toNat (by simpa using c.toNat_lt)
 simpa using this
theorem scan {α ρ τ σ:Type} {s:List α} {body:σ→Option (St ρ τ σ)} {mk:Nat→σ} {p:α→Bool} {rr:Nat→ρ} {tt:τ}
 (h1:∀i x,s[i]? =some x→p x=true→body (mk i)=some (.cB (mk (i+1)))) (h2:∀i x,s[i]? =some x→p x=false→body (mk i)=some (.ret (rr i)))
 (h3:body (mk s.length)=some (.eg tt)) {F:Nat} (hF:s.length<F):
 (s.all p=true→iter body F (mk 0)=some (.inr tt))∧(s.all p=false→∃j,iter body F (mk 0)=some (.inl (rr j))):=by
 suffices h:∀(r:List α) (i F:Nat),s.drop i=r→i+r.length=s.length→r.length<F→
  (r.all p=true→iter body F (mk i)=some (.inr tt))∧(r.all p=false→∃j,iter body F (mk i)=some (.inl (rr j))) from h s 0 F rfl (by simp) hF
 intro r
 induction r with
 |nil=>
  intro i F hd hl hF
  obtain ⟨G,rfl⟩:=bN hF
  have:i=s.length:=by simpa using hl
  subst this
  exact ⟨fun _=>bA h3,fun h=>by simp at h⟩
 |cons x r ih=>
  intro i F hd hl hF
  obtain ⟨G,rfl⟩:=bN hF
  obtain ⟨hi,hx,hr⟩:=drop_cons hd
  simp only [List.length_cons] at hl hF
  cases hp:p x with
  |true=>
   rw [bW (h1 i x hx hp)]
   simp only [List.all_cons,hp,Bool.true_and]
   exact ih (i+1) G hr (by omega) (by omega)
  |false=>
   rw [cK (h2 i x hx hp)]
   simp only [List.all_cons,hp,Bool.false_and]
   exact ⟨fun h=>by simp at h,fun _=>⟨i,rfl⟩⟩
theorem wi {n:Nat} (h:n≤1000000000):IntKind.wrap .i64 ((n:Int)+1)=((n+1:Nat):Int):=by rw [wr (by omega) (by omega)];simp
def Ca (c:UInt8):Bool:=(decide (65≤c)&&decide (c≤90))||(decide (97≤c)&&decide (c≤122))
def eK (c:UInt8):Bool:=decide (48≤c)&&decide (c≤57)
def v8 (c:UInt8):Bool:=Ca c||eK c||c==45
theorem aay (c:UInt8):gM c=some (Ca c||eK c):=by
 have:=fH (p:=fun c=>decide (gM c=some (Ca c||eK c))) (by kernel_rfl) c
 simpa using this
theorem JO (c:UInt8):j0 c=some (v8 c):=by
 have:=fH (p:=fun c=>decide (j0 c=some (v8 c))) (by kernel_rfl) c
 simpa using this
theorem tB (c:UInt8):fm c=some (Ca c):=by
 have:=fH (p:=fun c=>decide (fm c=some (Ca c))) (by kernel_rfl) c
 simpa using this
theorem tC (c:UInt8):fe c=some (eK c):=by
 have:=fH (p:=fun c=>decide (fe c=some (eK c))) (by kernel_rfl) c
 simpa using this
def aT:List UInt8→List (List UInt8)
 |[]=>[[]]
 |c::r=>if c=46 then []::aT r else match aT r with|[]=>[[c]]|h::t=>(c::h)::t
theorem gb:∀s,aT s≠[]
 |[]=>by simp [aT]
 |c::r=>by
  unfold aT
  split
  · simp
  · split<;>simp
theorem My (r:List UInt8):Lib.split (46::r) [46]=[]::Lib.split r [46]:=by
 have hi:Lib.index (46::r) [46]=((0:Nat):Int):=by unfold Lib.index;rw [if_pos (by simp [List.isPrefixOf])];rfl
 have hc:=Lib.count_hit (by simp) hi
 unfold Lib.split
 rw [hc,Nat.add_comm]
 simp only [Lib.splitK,hi]
 rfl
theorem JP {c:UInt8} (hc:c≠46) (r:List UInt8):Lib.split (c::r) [46]=match Lib.split r [46] with|[]=>[[c]]|h::t=>(c::h)::t:=by
 have hp:([46]:List UInt8).isPrefixOf (c::r)=false:=by simp [List.isPrefixOf];exact fun h=>hc h.symm
 have hi:Lib.index (c::r) [46]=if Lib.index r [46]== -1 then -1 else Lib.index r [46]+1:=by
  conv=>lhs;unfold Lib.index
  rw [if_neg (by rw [hp];simp)]
 rcases Lib.index_spec r [46] with ⟨h, -⟩|⟨i,h, -, -, -⟩
 · rw [h] at hi
   unfold Lib.split
   rw [Lib.count_miss h,Lib.count_miss hi]
   rfl
 · have hne:(((i:Nat):Int)== -1)=false:=by rw [beq_eq_false_iff_ne];omega
   rw [h,hne] at hi
   have hi':Lib.index (c::r) [46]=((i+1:Nat):Int):=by rw [hi];simp
   unfold Lib.split
   rw [Lib.count_hit (by simp) h,Lib.count_hit (by simp) hi',Nat.add_comm 1,Nat.add_comm 1]
   have vo:(((i+1:Nat):Int)== -1)=false:=by rw [beq_eq_false_iff_ne];omega
   simp only [Lib.splitK,h,hi',hne,vo,Bool.false_eq_true,if_false,Int.toNat_natCast,Nat.add_zero,List.take_succ_cons,List.length_cons,List.length_nil,Nat.zero_add,List.drop_succ_cons]
theorem A4:∀s:List UInt8,Lib.split s [46]=aT s
 |[]=>by rfl
 |c::r=>by
  by_cases hc:c=46
  · subst hc;rw [My,A4 r];simp [aT]
  · rw [JP hc,A4 r];simp only [aT,if_neg hc]
theorem k7 (s:List UInt8):∀p∈aT s,p.length≤s.length:=by
 induction s with
 |nil=>simp [aT]
 |cons c r ih=>
  unfold aT
  split
  · intro p hp
    rcases List.mem_cons.1 hp with rfl|hp
    · simp
    · have:=ih p hp;simp;omega
  · cases hs:aT r with
    |nil=>exact absurd hs (gb r)
    |cons h t=>
     simp only
     intro p hp
     rcases List.mem_cons.1 hp with rfl|hp
     · have:=ih h (by rw [hs];simp);simp;omega
     · have:=ih p (by rw [hs];simp [hp]);simp;omega
theorem wE (s:List UInt8):(aT s).length≤s.length+1:=by
 induction s with
 |nil=>simp [aT]
 |cons c r ih=>
  unfold aT
  split
  · simp;omega
  · cases hs:aT r with
    |nil=>exact absurd hs (gb r)
    |cons h t=>rw [hs] at ih;simp at ih ⊢;omega
theorem Bp {p:List UInt8} (hp:∀c∈p,c≠46) (r:List UInt8):aT (p++46::r)=p::aT r:=by
 induction p with
 |nil=>simp [aT]
 |cons c p ih=>
  simp only [List.cons_append,aT,if_neg (hp c (by simp)),ih fun x hx=>hp x (by simp [hx])]
theorem Bq {p:List UInt8} (hp:∀c∈p,c≠46):aT p=[p]:=by
 induction p with
 |nil=>simp [aT]
 |cons c p ih=>
  simp only [aT,if_neg (hp c (by simp)),ih fun x hx=>hp x (by simp [hx])]
def Uf:List (List UInt8):=(List.range 256).map fun n:Nat=>Lib.itoa (n:Int)
def jq (s:List UInt8):Bool:=Uf.contains s
theorem JQ:(List.range 256).all (fun n:Nat=>decide (jx (Lib.itoa (n:Int))=some true))=true:=by kernel_rfl
theorem QO:Uf.all (fun s=>decide (s.length≤3∧s.all eK=true∧s≠[]∧(s.head?=some 48→s.length≤1)))=true:=by kernel_rfl
theorem wF {s:List UInt8}:jq s=true↔∃n:Nat,n<256∧Lib.itoa (n:Int)=s:=by
 simp [jq,Uf]
theorem p9 {s:List UInt8} (h:jq s=true):s.length≤3∧s.all eK=true∧s≠[]∧(s.head?=some 48→s.length≤1):=by
 have:=List.all_eq_true.1 QO s (by simpa [jq] using h)
 exact of_decide_eq_true this
def Br (s:List UInt8):Nat:=s.foldl (fun a c=>10*a+(c.toNat - 48)) 0
theorem QS:(List.range 256).all (fun n:Nat=>decide (Br (Lib.itoa (n:Int))=n))=true:=by kernel_rfl
def Bs (s:List UInt8):Bool:=decide (Br s<256)&&decide (Lib.itoa (Br s:Int)=s)
theorem Xa (s:List UInt8):jq s=Bs s:=by
 cases h:jq s with
 |true=>
  obtain ⟨n,hn,rfl⟩:=wF.1 h
  have hv:Br (Lib.itoa (n:Int))=n:=of_decide_eq_true (List.all_eq_true.1 QS n (by simpa using hn))
  unfold Bs
  rw [hv]
  simp [hn]
 |false=>
  cases h':Bs s with
  |false=>rfl
  |true=>
   simp only [Bs,Bool.and_eq_true,decide_eq_true_eq] at h'
   rw [wF.2 ⟨Br s,h'.1,h'.2⟩] at h;cases h
theorem Mz {s:List UInt8} (hs:s.length≤100000):jx s=some (jq s):=by
 cases hn:jq s with
 |true=>
  obtain ⟨n,hlt,rfl⟩:=wF.1 hn
  have:=List.all_eq_true.1 JQ n (by simpa using hlt)
  simpa using this
 |false=>
  unfold jx strconv_Atoi
  rw [if_pos (by omega)]
  rcases xu:Lib.atoiAll s with v|_|_
  · simp only [Option.bind_some,fM,Bool.not_false,if_true,decide_eq_true_eq]
    by_cases h0:0≤v
    · by_cases h1:v≤255
      · rw [if_pos h0,if_pos h1]
        unfold strconv_Itoa
        rw [if_pos (by omega)]
        simp only [Option.bind_some,Option.some.injEq,decide_eq_false_iff_not]
        intro he
        have:jq s=true:=wF.2 ⟨v.toNat,by omega,by rw [←he];congr 1;omega⟩
        rw [hn] at this;cases this
      · rw [if_pos h0,if_neg h1];rfl
    · rw [if_neg h0];rfl
  · simp [fM]
  · simp [fM]
end Go.Proofs.cY
end
section
set_option maxRecDepth 100000
namespace Go.Proofs.cY
open Go Go.Am Go.Proofs
def fJ (s:List UInt8):Bool:=s !=[]&&s.head? !=some 45&&s.getLast? !=some 45&&s.all v8
def nM (s:List UInt8):Bool:=decide (1<s.length)&&s.head?==some 91&&s.getLast?==some 93
def inner (s:List UInt8):List UInt8:=(s.drop 1).dropLast
def dy (s:List UInt8):Bool:=if nM s then decide ((aT (inner s)).length=4)&&(aT (inner s)).all jq else (aT s).all fJ
def e6 (s:List UInt8):Bool:=decide (s.length≤255)&&dy s&&(aT s).all fun p=>decide (p.length≤63)
theorem we (c:UInt8) (r:List UInt8):∃x,(c::r).getLast?=some x:=by
 cases h:(c::r).getLast? with
 |none=>simp at h
 |some x=>exact ⟨x,rfl⟩
theorem tD {s:List UInt8} {x:UInt8} (h:s.getLast?=some x) (hl:s.length≤1000000):idx s (IntKind.wrap .i64 ((s.length:Int) - 1))=some x:=by
 have hp:0<s.length:=by cases s with|nil=>simp at h|cons=>simp
 rw [wr (by omega) (by omega),show (s.length:Int) - 1=((s.length - 1:Nat):Int) by omega,zW, ←List.getLast?_eq_getElem?,h]
theorem Ug {s:List UInt8} {F:Nat} (hl:s.length≤1000000) (hF:s.length<F):j3 F s=some (s.all v8):=by
 unfold j3
 have hh:=scan (s:=s) (body:=eB s) (mk:=fun i=>(false,(i:Int))) (p:=v8) (rr:=fun _=>false) (tt:=()) ?_ ?_ ?_ hF
 · cases ha:s.all v8 with
   |true=>have:=hh.1 ha;rw [show ((0:Nat):Int)=0 from rfl] at this;rw [this];rfl
   |false=>obtain ⟨j,hj⟩:=hh.2 ha;rw [show ((0:Nat):Int)=0 from rfl] at hj;rw [hj];rfl
 · intro i x hx hp
   have hi:=(List.getElem?_eq_some_iff.1 hx).1
   simp only [eB]
   rw [if_pos (by simpa using hi),bt hx,Option.bind_some,JO,Option.bind_some,hp,wi (by omega)];rfl
 · intro i x hx hp
   have hi:=(List.getElem?_eq_some_iff.1 hx).1
   simp only [eB]
   rw [if_pos (by simpa using hi),bt hx,Option.bind_some,JO,Option.bind_some,hp];rfl
 · simp [eB]
theorem Uh {s:List UInt8} {F:Nat} (hl:s.length≤1000000) (hF:s.length<F):mR F s=some (fJ s):=by
 unfold mR lD fJ
 cases s with
 |nil=>simp
 |cons c r=>
  obtain ⟨x,hx⟩:∃x,(c::r).getLast?=some x:=we c r
  rw [tD hx hl,Ug hl hF,hx]
  have h0:idx (c::r) 0=some c:=by simp [idx]
  rw [h0]
  by_cases h1:c=45
  · simp [h1]
  · by_cases h2:x=45
    · simp [h1,h2]
    · simp [h1,h2]
theorem Fu {x:List UInt8} (hx:x.length≤100000):iZ x=some (!jq x):=by simp [iZ,Mz hx]
theorem Fv {F:Nat} {x:List UInt8} (hx:x.length≤100000) (hF:x.length<F):ja F x=some (!fJ x):=by simp [ja,Uh (by omega:x.length≤1000000) hF]
theorem JR {l:List (List UInt8)} {F:Nat} (hl:l.length≤1000000) (hF:l.length<F) (hx:∀x∈l,x.length≤100000):dP F l=some (!l.all jq):=by
 unfold dP gj
 have hh:=scan (s:=l) (body:=cM l) (mk:=fun i=>(0,(i:Int))) (p:=jq) (rr:=fun i=>(i:Int)) (tt:=()) ?_ ?_ ?_ hF
 · cases ha:l.all jq with
   |true=>have:=hh.1 ha;rw [show ((0:Nat):Int)=0 from rfl] at this;rw [this];rfl
   |false=>obtain ⟨j,hj⟩:=hh.2 ha;rw [show ((0:Nat):Int)=0 from rfl] at hj;rw [hj];simp
 · intro i x hx' hp
   have hi:=(List.getElem?_eq_some_iff.1 hx').1
   simp only [cM]
   rw [if_pos (by simpa using hi),bt hx',Option.bind_some,Fu (hx x (List.mem_of_getElem? hx')),Option.bind_some,hp,wi (by omega)];rfl
 · intro i x hx' hp
   have hi:=(List.getElem?_eq_some_iff.1 hx').1
   simp only [cM]
   rw [if_pos (by simpa using hi),bt hx',Option.bind_some,Fu (hx x (List.mem_of_getElem? hx')),Option.bind_some,hp];rfl
 · simp [cM]
theorem JS {l:List (List UInt8)} {F:Nat} (hl:l.length≤1000000) (hF:l.length<F) (hx:∀x∈l,x.length≤100000∧x.length<F):dF F l=some (!l.all fJ):=by
 unfold dF fU
 have hh:=scan (s:=l) (body:=cF F l) (mk:=fun i=>(0,(i:Int))) (p:=fJ) (rr:=fun i=>(i:Int)) (tt:=()) ?_ ?_ ?_ hF
 · cases ha:l.all fJ with
   |true=>have:=hh.1 ha;rw [show ((0:Nat):Int)=0 from rfl] at this;rw [this];rfl
   |false=>obtain ⟨j,hj⟩:=hh.2 ha;rw [show ((0:Nat):Int)=0 from rfl] at hj;rw [hj];simp
 · intro i x hx' hp
   have hi:=(List.getElem?_eq_some_iff.1 hx').1
   obtain ⟨ha,hb⟩:=hx x (List.mem_of_getElem? hx')
   simp only [cF]
   rw [if_pos (by simpa using hi),bt hx',Option.bind_some,Fv ha hb,Option.bind_some,hp,wi (by omega)];rfl
 · intro i x hx' hp
   have hi:=(List.getElem?_eq_some_iff.1 hx').1
   obtain ⟨ha,hb⟩:=hx x (List.mem_of_getElem? hx')
   simp only [cF]
   rw [if_pos (by simpa using hi),bt hx',Option.bind_some,Fv ha hb,Option.bind_some,hp];rfl
 · simp [cF]
theorem JT {l:List (List UInt8)} {F:Nat} (hl:l.length≤1000000) (hF:l.length<F):c6 F l=some (!l.all fun p=>decide (p.length≤63)):=by
 unfold c6 fc
 have hh:=scan (s:=l) (body:=cr l) (mk:=fun i=>(0,(i:Int))) (p:=fun p=>decide (p.length≤63)) (rr:=fun i=>(i:Int)) (tt:=()) ?_ ?_ ?_ hF
 · cases ha:l.all fun p=>decide (p.length≤63) with
   |true=>have:=hh.1 ha;rw [show ((0:Nat):Int)=0 from rfl] at this;rw [this];rfl
   |false=>obtain ⟨j,hj⟩:=hh.2 ha;rw [show ((0:Nat):Int)=0 from rfl] at hj;rw [hj];simp
 · intro i x hx' hp
   have hi:=(List.getElem?_eq_some_iff.1 hx').1
   simp only [cr]
   rw [if_pos (by simpa using hi),bt hx',Option.bind_some,jf,Option.bind_some,if_neg (by simp at hp ⊢;omega),wi (by omega)]
 · intro i x hx' hp
   have hi:=(List.getElem?_eq_some_iff.1 hx').1
   simp only [cr]
   rw [if_pos (by simpa using hi),bt hx',Option.bind_some,jf,Option.bind_some,if_pos (by simp at hp ⊢;omega)]
 · simp [cr]
theorem rJ {s:List UInt8} (h:s.length≤1000000):strings_Split s [46]=some (aT s):=by
 unfold strings_Split;rw [if_pos (by simp;omega),A4]
theorem DT {s:List UInt8} {F:Nat} (hl:s.length≤99000) (hF:s.length+1<F):jy F s=some (dy s):=by
 have Hs:gW s=some (nM s):=by
  unfold gW nM
  by_cases h1:1<s.length
  · cases s with
    |nil=>simp at h1
    |cons c r=>
     obtain ⟨x,hx⟩:∃x,(c::r).getLast?=some x:=we c r
     rw [if_pos (by simp at h1 ⊢;omega),tD hx (by omega),hx,show idx (c::r) 0=some c by simp [idx]]
     rw [decide_eq_true h1]
     by_cases h2:c=91
     · simp [h2];rfl
     · simp [h2]
  · rw [if_neg (by simp;omega)];simp [h1]
 unfold jy dy
 rw [Hs,Option.bind_some]
 cases hi:nM s with
 |true=>
  have h1:1<s.length:=by simp [nM] at hi;omega
  simp only [if_true]
  rw [wr (by omega) (by omega)]
  have hsub:sub s 1 ((s.length:Int) - 1)=some (inner s):=by
   rw [show (1:Int)=((1:Nat):Int) from rfl,show (s.length:Int) - ((1:Nat):Int)=((s.length - 1:Nat):Int) by omega,oh (by omega) (by omega)]
   congr 1
   unfold inner
   rw [List.dropLast_eq_take,List.length_drop,List.drop_take]
  have hil:(inner s).length+2=s.length:=by simp [inner];omega
  rw [hsub,Option.bind_some,rJ (by omega),Option.bind_some]
  unfold kE
  have hn:=wE (inner s)
  by_cases h4:(aT (inner s)).length=4
  · rw [if_pos (by simpa using by omega),JR (by omega) (by omega) fun x hx=>by have:=k7 _ x hx;omega]
    simp [h4]
  · rw [if_neg (by simpa using by omega)]
    simp [h4]
 |false=>
  have hn:=wE s
  simp only [Bool.false_eq_true,if_false]
  rw [rJ (by omega),Option.bind_some,JS (by omega) (by omega) fun x hx=>by have:=k7 _ x hx;omega]
  simp
theorem Ui {s:List UInt8} {F:Nat} (hl:s.length≤99000) (hF:s.length+1<F):gN F s=some (e6 s):=by
 unfold gN kG e6
 by_cases h:s.length≤255
 · rw [if_pos (by simpa using by omega),DT hl hF]
   have hn:=wE s
   cases dy s with
   |true=>simp only [Option.bind_some,if_true];rw [rJ (by omega),Option.bind_some,JT (by omega) (by omega)];simp [h]
   |false=>simp
 · rw [if_neg (by simpa using by omega)];simp [h]
end Go.Proofs.cY
end
section
set_option maxRecDepth 100000
namespace Go.Proofs.cY
open Go Go.Am Go.Proofs
def Bt:List UInt8:=(List.range 10).map fun n=>UInt8.ofNat (48+n)
theorem aaa (n:Nat):Bt.all (fun a=>decide (eG (n+10) [a]=some (Bs [a])))=true:=by kernel_rfl
theorem aab (n:Nat):Bt.all (fun a=>Bt.all fun b=>decide (eG (n+10) [a,b]=some (Bs [a,b])))=true:=by kernel_rfl
theorem aac (n:Nat):Bt.all (fun a=>Bt.all fun b=>Bt.all fun c=>decide (eG (n+10) [a,b,c]=some (Bs [a,b,c])))=true:=by kernel_rfl
theorem oy {c:UInt8} (h:eK c=true):c∈Bt:=by
 have:=fH (p:=fun c=> !eK c||Bt.contains c) (by kernel_rfl) c
 simpa [h] using this
theorem QT {s:List UInt8} {F:Nat} (hF:10≤F) (hl:s.length≤100000):eG F s=some (jq s):=by
 by_cases h3:3<s.length
 · have hn:jq s=false:=by
    cases h:jq s with
    |false=>rfl
    |true=>have:=(p9 h).1;omega
   have hne:s≠[]:=by intro h;subst h;simp at h3
   unfold eG eP
   simp only [hne,decide_false,Bool.false_eq_true,if_false]
   rw [if_pos (by simp;omega),hn];rfl
 · by_cases hd:s.all eK=true
   · obtain ⟨G,rfl⟩:∃G,F=G+10:=⟨F - 10,by omega⟩
     rw [List.all_eq_true] at hd
     rw [Xa]
     match s,h3,hd with
     |[],_,_=>rw [show Bs []=false by kernel_rfl];simp [eG,eP]
     |[a],_,hd=>exact of_decide_eq_true (List.all_eq_true.1 (aaa G) a (oy (hd a (by simp))))
     |[a,b],_,hd=>exact of_decide_eq_true (List.all_eq_true.1 (List.all_eq_true.1 (aab G) a (oy (hd a (by simp)))) b (oy (hd b (by simp))))
     |[a,b,c],_,hd=>exact of_decide_eq_true (List.all_eq_true.1 (List.all_eq_true.1 (List.all_eq_true.1 (aac G) a (oy (hd a (by simp)))) b (oy (hd b (by simp)))) c (oy (hd c (by simp))))
     |a::b::c::d::r,h3,_=>simp at h3
   · have hn:jq s=false:=by
      cases h:jq s with
      |false=>rfl
      |true=>exact absurd (p9 h).2.1 hd
     rw [hn]
     have hp:∃b,eP s=some b:=by
      unfold eP
      cases s with
      |nil=>simp
      |cons c r=>
       rw [show idx (c::r) 0=some c by simp [idx]]
       simp only [Option.bind_some]
       repeat' split
       all_goals exact ⟨_,rfl⟩
     obtain ⟨b,hb⟩:=hp
     unfold eG
     rw [hb,Option.bind_some]
     cases b with
     |true=>rfl
     |false=>
      simp only [Bool.false_eq_true,if_false]
      have DU:∀(r:List UInt8) (i F:Nat) (n:Int),s.drop i=r→i+r.length=s.length→r.length<F→r.all eK=false→iter (fN s) F (n,(i:Int))=some (.inl false):=by
       intro r
       induction r with
       |nil=>intro i F n _ _ _ h;simp at h
       |cons x r ih=>
        intro i F n hdr hlr hF ha
        obtain ⟨G,rfl⟩:=bN hF
        obtain ⟨hi,hx,hr⟩:=drop_cons hdr
        simp only [List.length_cons] at hlr hF
        have hstep:fN s (n,(i:Int))=if (!eK x)=true then some (.ret false) else some (.cB ((IntKind.wrap .i64 ((IntKind.wrap .i64 (10*n))+(IntKind.wrap .i64 ((x - 48).toNat:Int)))),((i+1:Nat):Int))):=by
         simp only [fN]
         rw [if_pos (by simpa using hi),bt hx,Option.bind_some,tC,Option.bind_some,wi (by omega)]
        cases hx':eK x with
        |false=>rw [hx'] at hstep;exact cK (by rw [hstep];rfl)
        |true=>
         rw [hx'] at hstep
         rw [bW (by rw [hstep];rfl)]
         exact ih (i+1) G _ hr (by omega) (by omega) (by simpa [hx'] using ha)
      rw [show (0,(0:Int))=((0:Int),((0:Nat):Int)) from rfl,DU s 0 F 0 rfl (by simp) (by omega) (by simpa using hd)]
      rfl
def Fw (s:List UInt8):Bool:=fJ s&&decide (s.length≤63)
theorem Uj {s:List UInt8} {F:Nat} (hl:s.length≤100000) (hF:s.length<F):lN F s=some (Fw s):=by
 unfold lN kH Fw fJ
 cases s with
 |nil=>simp
 |cons c r=>
  obtain ⟨x,hx⟩:=we c r
  rw [tD hx (by omega),hx,show idx (c::r) 0=some c by simp [idx]]
  by_cases h0:63<(c::r).length
  · rw [if_neg (by simp),if_pos (by simp at h0 ⊢;omega)]
    have:decide ((c::r).length≤63)=false:=by simp at h0 ⊢;omega
    rw [this];simp
  · have h0':decide ((c::r).length≤63)=true:=by simp at h0 ⊢;omega
    rw [if_neg (by simp),if_neg (by simp at h0 ⊢;omega),h0']
    by_cases h1:c=45
    · simp [h1]
    · by_cases h2:x=45
      · simp [h1,h2]
      · have hh:=scan (s:=c::r) (body:=eR (c::r)) (mk:=fun i=>(i:Int)) (p:=v8) (rr:=fun _=>false) (tt:=()) ?_ ?_ ?_ hF
        · simp only [Option.bind_some,h1,h2,decide_false,Bool.false_eq_true,if_false]
          cases ha:(c::r).all v8 with
          |true=>have:=hh.1 ha;rw [show ((0:Nat):Int)=0 from rfl] at this;rw [this];simp [h1,h2]
          |false=>obtain ⟨j,hj⟩:=hh.2 ha;rw [show ((0:Nat):Int)=0 from rfl] at hj;rw [hj];simp [h1,h2]
        · intro i y hy hp
          have hi:=(List.getElem?_eq_some_iff.1 hy).1
          simp only [eR,ia]
          rw [if_pos (by simp at hi ⊢;omega),bt hy,Option.bind_some,tB,Option.bind_some,tC,Option.bind_some,wi (by omega)]
          simp only [v8] at hp
          cases h1:Ca y<;>cases h2:eK y<;>simp [h1,h2] at hp ⊢
          exact hp
        · intro i y hy hp
          have hi:=(List.getElem?_eq_some_iff.1 hy).1
          simp only [eR,ia]
          rw [if_pos (by simp at hi ⊢;omega),bt hy,Option.bind_some,tB,Option.bind_some,tC,Option.bind_some]
          simp only [v8] at hp
          cases h1:Ca y<;>cases h2:eK y<;>simp [h1,h2] at hp ⊢
          exact hp
        · simp [eR]
end Go.Proofs.cY
end
section
set_option maxRecDepth 100000
namespace Go.Proofs.cY
open Go Go.Am Go.Proofs
def Ht (num:Bool) (s:List UInt8):Bool:=if num then jq s else Fw s
theorem Uk {F:Nat} {x:UInt8} {s:List UInt8} {a i:Nat} (h:a≤i) (hi:i≤s.length) (hl:s.length≤99000) (hF:s.length+10<F):
 gy F x s (a:Int) (i:Int)=some (!Ht (x==91) ((s.take i).drop a)):=by
 have hlen:((s.take i).drop a).length≤s.length:=by simp;omega
 unfold gy Ht
 rw [oh h hi]
 by_cases hx:x=91
 · rw [if_pos (by simpa using hx)]
   simp only [Option.bind_some]
   rw [QT (by omega) (by omega)]
   simp only [Option.bind_some,hx,beq_self_eq_true,if_true]
   cases jq ((s.take i).drop a)<;>rfl
 · rw [if_neg (by simpa using hx)]
   simp only [Option.bind_some]
   rw [Uj (by omega) (by omega)]
   have:(x==91)=false:=by simpa using hx
   simp [this]
theorem Fx {F:Nat} {x:UInt8} {s:List UInt8} (hl:s.length≤99000) (A5:s.length+10<F):∀(r cur:List UInt8) (a k i G:Nat),(∀c∈cur,c≠46)→s.drop a=cur++r→a+cur.length=i→i+r.length=s.length→r.length+1<G→k≤i→
 iter (cu F s x) G ((a:Int),(k:Int),(i:Int))=some (if (aT (cur++r)).all (Ht (x==91)) then .inr ((k+(aT (cur++r)).length:Nat):Int) else .inl false):=by
 have uQ:∀(cur r:List UInt8) (a i:Nat),s.drop a=cur++r→a+cur.length=i→(s.take i).drop a=cur:=by
  intro cur r a i h hi
  rw [List.drop_take,h, ←hi,Nat.add_sub_cancel_left,List.take_left' rfl]
 intro r
 induction r with
 |nil=>
  intro cur a k i G hc hd ha hi hG hk
  obtain ⟨G,rfl⟩:=bN (show 0<G by omega)
  obtain ⟨G,rfl⟩:=bN (show 0<G by simp at hG;omega)
  have hie:i=s.length:=by simpa using hi
  have hstep:cu F s x ((a:Int),(k:Int),(i:Int))=if (!Ht (x==91) cur)=true then some (.ret false) else some (.cB (((i+1:Nat):Int),((k+1:Nat):Int),((i+1:Nat):Int))):=by
   simp only [cu]
   rw [if_pos (by simp;omega)]
   have:eC (i:Int) s=some false:=by unfold eC;rw [if_neg (by simp;omega)]
   rw [this,Option.bind_some]
   simp only [Bool.false_eq_true,if_false]
   rw [Uk (by omega) (by omega) hl A5,Option.bind_some,uQ cur [] a i hd ha,wi (by omega),wi (by omega)]
  rw [List.append_nil,Bq hc]
  cases hx:Ht (x==91) cur with
  |false=>rw [hx] at hstep;rw [cK (by rw [hstep];rfl)];simp [hx]
  |true=>
   rw [hx] at hstep
   rw [bW (by rw [hstep];rfl)]
   have:cu F s x (((i+1:Nat):Int),((k+1:Nat):Int),((i+1:Nat):Int))=some (.eg ((k+1:Nat):Int)):=by
    simp only [cu]
    rw [if_neg (by simp;omega)]
   rw [bA this]
   simp [hx]
 |cons c r ih=>
  intro cur a k i G hc hd ha hi hG hk
  obtain ⟨G,rfl⟩:=bN (show 0<G by omega)
  simp only [List.length_cons] at hi hG
  have hci:s[i]? =some c:=by
   have:(s.drop a)[cur.length]? =some c:=by rw [hd];simp
   rw [List.getElem?_drop,ha] at this;exact this
  have hp4:eC (i:Int) s=some (!decide (c=46)):=by unfold eC;rw [if_pos (by simp;omega),bt hci];rfl
  by_cases DV:c=46
  · subst DV
    have hstep:cu F s x ((a:Int),(k:Int),(i:Int))=if (!Ht (x==91) cur)=true then some (.ret false) else some (.cB (((i+1:Nat):Int),((k+1:Nat):Int),((i+1:Nat):Int))):=by
     simp only [cu]
     rw [if_pos (by simp;omega),hp4,Option.bind_some]
     simp only [decide_true,Bool.not_true,Bool.false_eq_true,if_false]
     rw [Uk (by omega) (by omega) hl A5,Option.bind_some,uQ cur _ a i hd ha,wi (by omega),wi (by omega)]
    rw [Bp hc]
    cases hx:Ht (x==91) cur with
    |false=>rw [hx] at hstep;rw [cK (by rw [hstep];rfl)];simp [hx]
    |true=>
     rw [hx] at hstep
     rw [bW (by rw [hstep];rfl)]
     have hd':s.drop (i+1)=r:=by
      have:(s.drop a).drop (cur.length+1)=r:=by rw [hd,List.drop_append];simp
      rw [List.drop_drop] at this
      rw [←this];congr 1;omega
     have:=ih [] (i+1) (k+1) (i+1) G (by simp) (by simpa using hd') (by simp) (by omega) (by omega) (by omega)
     rw [List.nil_append] at this
     rw [this]
     simp only [List.all_cons,hx,Bool.true_and,List.length_cons]
     congr 3
     omega
  · have hstep:cu F s x ((a:Int),(k:Int),(i:Int))=some (.cB ((a:Int),(k:Int),((i+1:Nat):Int))):=by
     simp only [cu]
     rw [if_pos (by simp;omega),hp4,Option.bind_some]
     simp only [DV,decide_false,Bool.not_false,if_true]
     rw [wi (by omega)]
    rw [bW hstep]
    have:=ih (cur++[c]) a k (i+1) G (by intro y hy;rcases List.mem_append.1 hy with h|h;exact hc y h;simp at h;subst h;exact DV) (by rw [hd];simp) (by simp;omega) (by omega) (by omega) (by omega)
    rw [this]
    simp
theorem QU (l:List (List UInt8)):l.all Fw=(l.all fJ&&l.all fun p=>decide (p.length≤63)):=by
 induction l with
 |nil=>rfl
 |cons a l ih=>simp only [List.all_cons,ih,Fw];cases fJ a<;>cases decide (a.length≤63)<;>simp
theorem Bu (s:List UInt8):((aT s).map List.length).sum+(aT s).length=s.length+1:=by
 induction s with
 |nil=>simp [aT]
 |cons c r ih=>
  unfold aT
  split
  · simp;omega
  · cases h:aT r with
    |nil=>exact absurd h (gb r)
    |cons a t=>rw [h] at ih;simp at ih ⊢;omega
theorem four {l:List (List UInt8)} (h4:l.length=4) (h:∀p∈l,p.length≤3):(l.map List.length).sum≤12:=by
 match l,h4 with
 |[a,b,c,d],_=>
  have ha:=h a (by simp);have hb:=h b (by simp);have hc:=h c (by simp);have hd:=h d (by simp)
  simp;omega
theorem DW (r:List UInt8):(aT (91::r)).all fJ=false:=by
 have h1:∀t:List UInt8,fJ (91::t)=false:=by
  intro t
  have:v8 91=false:=by decide
  simp [fJ,this]
 simp only [aT]
 rw [if_neg (by decide)]
 split
 · simp [h1]
 · simp [h1]
theorem aad {s:List UInt8} {F:Nat} (hl:s.length≤99000) (hF:s.length+10<F):cW F s=some (e6 s):=by
 cases s with
 |nil=>simp [cW,e6,dy,nM,aT,fJ]
 |cons c r=>
  unfold cW
  by_cases NH:255<(c::r).length
  · rw [if_pos (by simp at NH ⊢;omega)]
    have:decide ((c::r).length≤255)=false:=by simp at NH ⊢;omega
    unfold e6;rw [this];rfl
  · have Ul:decide ((c::r).length≤255)=true:=by simp at NH ⊢;omega
    rw [if_neg (by simp at NH ⊢;omega),show idx (c::r) 0=some c by simp [idx],Option.bind_some]
    obtain ⟨x,hx⟩:=we c r
    by_cases hc:c=91
    · subst hc
      unfold gx jE
      rw [if_pos (by rfl),tD hx (by omega),Option.bind_some]
      by_cases hin:nM (91::r)=true
      · have Ry:x=93:=by rw [nM,hx] at hin;simpa using (by simp at hin;exact hin.2)
        have h1:1<(91::r).length:=by rw [nM] at hin;simp at hin ⊢;exact hin.1
        subst Ry
        rw [if_neg (by simp)]
        have:decide ((((91::r).length:Nat):Int)<2)=false:=by simp at h1 ⊢;omega
        rw [this]
        simp only [Option.bind_some,Bool.false_eq_true,if_false]
        have hsub:sub (91::r) 1 (IntKind.wrap .i64 ((((91::r).length:Nat):Int) - 1))=some (inner (91::r)):=by
         rw [wr (by omega) (by omega),show (1:Int)=((1:Nat):Int) from rfl,show (((91::r).length:Nat):Int) - ((1:Nat):Int)=(((91::r).length - 1:Nat):Int) by omega,oh (by omega) (by omega)]
         congr 1
         unfold inner
         rw [List.dropLast_eq_take,List.length_drop,List.drop_take]
        rw [hsub]
        simp only [Option.bind_some]
        have hil:(inner (91::r)).length≤(91::r).length:=by simp [inner];omega
        have Um:=Fx (F:=F) (x:=91) (s:=inner (91::r)) (by omega) (by omega) (inner (91::r)) [] 0 0 0 F (by simp) (by simp) (by simp) (by simp) (by omega) (Nat.le_refl _)
        simp only [List.nil_append,Int.natCast_zero,Nat.zero_add] at Um
        rw [show ((0:Int),(0:Int),(0:Int))=(((0:Nat):Int),((0:Nat):Int),((0:Nat):Int)) from rfl]
        rw [show (((0:Nat):Int),((0:Nat):Int),((0:Nat):Int))=((0:Int),(0:Int),(0:Int)) from rfl,Um]
        have Un:(aT (inner (91::r))).all (Ht ((91:UInt8)==91))=(aT (inner (91::r))).all jq:=by congr 1
        rw [Un]
        unfold e6 dy
        rw [Ul,hin]
        simp only [if_true,Bool.true_and]
        cases hall:(aT (inner (91::r))).all jq with
        |false=>simp
        |true=>
         by_cases h4:(aT (inner (91::r))).length=4
         · have hsum:=four h4 fun p hp=>(p9 (List.all_eq_true.1 hall p hp)).1
           have htot:=Bu (inner (91::r))
           have hlen:(91::r).length=(inner (91::r)).length+2:=by simp [inner];simp at h1;omega
           have:(aT (91::r)).all (fun p=>decide (p.length≤63))=true:=by
            rw [List.all_eq_true]
            intro p hp
            have:=k7 _ p hp
            simp only [decide_eq_true_eq]
            omega
           rw [this]
           simp [h4]
         · simp [h4];omega
      · have acg:nM (91::r)=false:=by simpa using hin
        have hdf:e6 (91::r)=false:=by unfold e6 dy;rw [acg];simp only [Bool.false_eq_true,if_false,DW];simp
        rw [hdf]
        by_cases XW:x=93
        · subst XW
          have h1:¬1<(91::r).length:=by intro h;rw [nM,hx,decide_eq_true h] at hin;simp at hin
          rw [if_neg (by simp),decide_eq_true (by omega)]
          rfl
        · rw [if_pos (by simpa using XW)];rfl
    · unfold gx
      rw [if_neg (by simpa using hc)]
      simp only [Option.bind_some]
      have Um:=Fx (F:=F) (x:=c) (s:=c::r) hl hF (c::r) [] 0 0 0 F (by simp) (by simp) (by simp) (by simp) (by omega) (Nat.le_refl _)
      simp only [List.nil_append,Int.natCast_zero,Nat.zero_add] at Um
      rw [Um]
      have TQ:(c==91)=false:=by simpa using hc
      have Un:(aT (c::r)).all (Ht (c==91))=(aT (c::r)).all Fw:=by rw [TQ];congr 1
      rw [Un,QU]
      have hin:nM (c::r)=false:=by unfold nM;simp [hc]
      unfold e6 dy
      rw [Ul,hin]
      simp only [Bool.false_eq_true,if_false,Bool.true_and]
      cases (aT (c::r)).all fJ<;>cases (aT (c::r)).all (fun p=>decide (p.length≤63))<;>simp [hc]
end Go.Proofs.cY
end
section
set_option maxRecDepth 100000
namespace Go.Proofs.cY
open Go Go.Am Go.Proofs
theorem XX (a b:List UInt8):aT (a++46::b)=aT a++aT b:=by
 induction a with
 |nil=>simp [aT]
 |cons c a ih=>
  simp only [List.cons_append,aT,ih]
  by_cases hc:c=46
  · simp [hc]
  · simp only [if_neg hc]
    cases h:aT a with
    |nil=>exact absurd h (gb a)
    |cons x t=>simp
theorem yK (s:List UInt8):∀c∈s,c=46∨∃p∈aT s,c∈p:=by
 induction s with
 |nil=>simp
 |cons a r ih=>
  intro c hc
  simp only [aT]
  rcases List.mem_cons.1 hc with rfl|hc
  · by_cases h:c=46
    · exact .inl h
    · right
      rw [if_neg h]
      cases hs:aT r with
      |nil=>exact absurd hs (gb r)
      |cons x t=>exact ⟨c::x,by simp,by simp⟩
  · rcases ih c hc with h|⟨p,hp,js⟩
    · exact .inl h
    · right
      by_cases ha:a=46
      · rw [if_pos ha];exact ⟨p,by simp [hp],js⟩
      · rw [if_neg ha]
        cases hs:aT r with
        |nil=>exact absurd hs (gb r)
        |cons x t=>
         rw [hs] at hp
         rcases List.mem_cons.1 hp with rfl|hp
         · exact ⟨a::p,by simp,by simp [js]⟩
         · exact ⟨p,by simp [hp],js⟩
theorem Xb {s:List UInt8} (h:s.head?≠some 91):nM s=false:=by
 unfold nM
 have:(s.head?==some 91)=false:=by simpa using h
 rw [this];simp
theorem ach {s:List UInt8} (h:s.getLast?≠some 93):nM s=false:=by
 unfold nM
 have:(s.getLast?==some 93)=false:=by simpa using h
 rw [this];simp
theorem aci {s:List UInt8} (hi:nM s=false) {p:List UInt8} (hp:p∈aT s) (hl:fJ p=false):e6 s=false:=by
 unfold e6 dy
 rw [hi]
 have:(aT s).all fJ=false:=by
  rw [List.all_eq_false]
  exact ⟨p,hp,by simp [hl]⟩
 simp [this]
end Go.Proofs.cY
end
