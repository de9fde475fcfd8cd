import Derived.Test.YtboghagbiokafaaGreatDoorM3
set_option linter.unusedSimpArgs false
set_option linter.unusedVariables false
set_option linter.unusedSectionVars false
set_option linter.defProp false
section
set_option maxRecDepth 100000
namespace Go.Proofs.dO
open Go Go.Am Go.Proofs
open Nat renaming reduceEqDiff→nA,reduceLT→nB,reduceLeDiff→nC,reduceAdd→nD,reduceSub→nE,reduceMul→nF,reduceBEq→nG
set_option maxHeartbeats 2000000
abbrev vm:ax:=(.rg [(au 16 0),(au 17 4),(aj 18 (.ixs (.t 16) (.t 17))),(aj 19 (.bin .lss (.t 18) (.c (b8 32)))),(au 20 19),(ay 21 (.mv (.t 0)) 20 false),(ay 22 (.mv (.t 4)) 20 false),(ay 23 (.ixs (.t 21) (.t 22)) 20 false),(ay 24 (.bin .gtr (.t 23) (.c (b8 126))) 20 false),(aj 25 (.pick (.t 20) (.c (.bool true)) (.t 24)))])
abbrev tO:ax:=(.seq (.rg [(aj 14 (.bin .lss (.t 13) (.t 12)))]) (.seq (.cond (.t 14) .skip (.exit 0)) (.seq (.blk 1 (.seq (.rg [(au 15 13),(aR 4 15)]) (.seq (.sem (erase vm)) (.cond (.t 25) (.seq (.rg [(aj 26 (.build [(.int .i64 0),(.str []),(.str []),(.str []),(.int .i64 0)] [])),(cR (.st (.t 2) (.t 26) 5)),(aj 3 (.aP (.c (.int .i64 500))))]) .ret) .skip)))) (.rg [(aj 27 (.bin .add (.t 13) (.c (.int .i64 1)))),(au 13 27)]))))
abbrev vn:ax:=(.cond (.t 59) .skip (.rg [(aj 61 (.bin .eql (.t 43) (.c (.int .i64 2)))),(aR 59 61)]))
abbrev vo:ax:=(.cond (.t 64) .skip (.seq (.rg [(aj 66 (.bin .eql (.t 43) (.c (.int .i64 6)))),(aR 64 66)]) (.cond (.t 64) .skip (.rg [(aj 67 (.bin .eql (.t 43) (.c (.int .i64 8)))),(aR 64 67)]))))
abbrev vp:ax:=(.cond (.t 59) (.rg [(au 62 6),(aj 63 (.call (.c (.fn 25 [])) [(.t 62)])),(aR 10 63)]) (.seq (.seq (.rg [(aj 65 (.bin .eql (.t 43) (.c (.int .i64 5)))),(aR 64 65)]) (.sem (erase vo))) (.cond (.t 64) (.rg [(au 68 7),(aj 69 (.un .not (.t 68))),(aR 10 69)]) (.seq (.rg [(aj 71 (.bin .eql (.t 43) (.c (.int .i64 9)))),(aR 70 71)]) (.cond (.t 70) (.rg [(au 72 6),(aj 73 (.bin .neq (.t 72) (.c (.str [])))),(aR 10 73)]) .skip)))))
abbrev Ip:ax:=(.seq (.rg [(aj 2 (.alloc [(.int .i64 0),(.str []),(.str []),(.str []),(.int .i64 0)])),(aj 3 (.aP (.c (.int .i64 0))))]) (.seq (.seq (.rg [(au 11 0),(aj 12 (.lens (.t 11))),(aj 13 (.mv (.c (.int .i64 0))))]) (.blk 0 (.loop (erase tO)))) (.seq (.rg [(au 28 0),(aj 29 (.call (.c (.fn 19 [])) [(.t 28),(.c (.str [32]))])),(aR 0 29)]) (.seq (.rg [(au 31 0),(aj 32 (.call (.c (.fn 20 [])) [(.t 31),(.c (.str [32]))])),(au 30 32),(aj 33 (.ext (.t 30) 0)),(aj 34 (.ext (.t 30) 1)),(aj 35 (.ext (.t 30) 2)),(aR 5 33),(aR 6 34),(aR 7 35)]) (.seq (.rg [(au 36 5),(aj 37 (.call (.c (.fn 22 [])) [(.t 36)])),(aj 38 (.call (.c (.fn 21 [])) [(.t 37)])),(aR 8 38)]) (.seq (.rg [(au 39 0),(au 40 5),(aj 41 (.lens (.t 40))),(aj 42 (.gR (.t 39) (some (.t 41)) none)),(aR 9 42)]) (.seq (.rg [(aj 10 (.aP (.c (.bool true))))]) (.seq (.seq (.rg [(au 43 8)]) (.blk 2 (.seq (.rg [(aj 45 (.bin .eql (.t 43) (.c (.int .i64 0)))),(aR 44 45)]) (.cond (.t 44) (.seq (.rg [(aj 46 (.build [(.int .i64 0),(.str []),(.str []),(.str []),(.int .i64 0)] [])),(cR (.st (.t 2) (.t 46) 5)),(aj 3 (.aP (.c (.int .i64 500))))]) .ret) (.seq (.rg [(aj 48 (.bin .eql (.t 43) (.c (.int .i64 3)))),(aR 47 48)]) (.cond (.t 47) (.seq (.rg [(au 49 9),(aj 50 (.call (.c (.fn 23 [])) [(.t 49)])),(aj 51 (.ext (.t 50) 0)),(aj 52 (.ext (.t 50) 1)),(cR (.st (.t 2) (.t 51) 5)),(aR 3 52)]) .ret) (.seq (.rg [(aj 54 (.bin .eql (.t 43) (.c (.int .i64 4)))),(aR 53 54)]) (.cond (.t 53) (.seq (.rg [(au 55 9),(aj 56 (.call (.c (.fn 24 [])) [(.t 55)])),(aj 57 (.ext (.t 56) 0)),(aj 58 (.ext (.t 56) 1)),(cR (.st (.t 2) (.t 57) 5)),(aR 3 58)]) .ret) (.seq (.seq (.rg [(aj 60 (.bin .eql (.t 43) (.c (.int .i64 1)))),(aR 59 60)]) (.sem (erase vn))) (.sem (erase vp))))))))))) (.seq (.seq (.rg [(au 74 10),(aj 75 (.un .not (.t 74)))]) (.cond (.t 75) (.seq (.rg [(aj 76 (.build [(.int .i64 0),(.str []),(.str []),(.str []),(.int .i64 0)] [])),(cR (.st (.t 2) (.t 76) 5)),(aj 3 (.aP (.c (.int .i64 501))))]) .ret) .skip)) (.seq (.rg [(au 77 8),(au 78 6),(aj 79 (.build [(.int .i64 0),(.str []),(.str []),(.str []),(.int .i64 0)] [(0,(1,(.t 77))),(1,(1,(.t 78)))])),(cR (.st (.t 2) (.t 79) 5)),(aj 3 (.aP (.c (.int .i64 0))))]) .ret))))))))))
theorem Iq:bN Tryz.prog 8 80 [(.cell 2 26),(.tmp 3)] (erase Ip):=⟨Tryz.f8,_,rfl,by decide,rfl,by kernel_rfl,rfl,rfl⟩
abbrev je:List Nat:=[0,2,3,4,5,6,7,8,9,10,12,13,14,25,43,44,47,53,59,64,70,75]
def jL (s1:List UInt8) (t3:Int):Option (Bool):=
 (idx s1 t3).bind fun x6=>
 (if (decide (x6<32)) then
  some true
 else
  some (decide (126<x6)))
def fh (s1:List UInt8):(Int×aF)→Option (St (aF×Int) aF (Int×aF))
 |(t3,s4)=>
  (if (decide (t3<(s1.length:Int))) then
   (jL s1 t3).bind fun t8=>
   (if t8 then
    some (.ret ((aF.mk 0 ([]:List UInt8) (aB.mk ([]:List UInt8) ([]:List UInt8)) 0),500))
   else
    some (.cY ((IntKind.wrap .i64 (t3+1)),s4)))
  else
   some (.dR s4))
def lT (dj:Int):Option (Bool):=
 (if (decide (dj=1)) then
  some (decide (dj=1))
 else
  some (decide (dj=2)))
def lU (dj:Int):Option (Bool):=
 (if (decide (dj=5)) then
  some (decide (dj=5))
 else
  (if (decide (dj=6)) then
   some (decide (dj=6))
  else
   some (decide (dj=8))))
def lV (F:Nat) (t26:Bool) (fm:List UInt8) (dj:Int) (r16:Bool):Option (Bool):=
 (if t26 then
  (gN F fm).bind fun XU=>some XU
 else
  (lU dj).bind fun t31=>
  (if t31 then
   some (!r16)
  else
   (if (decide (dj=9)) then
    some (!decide (fm=([]:List UInt8)))
   else
    some true)))
def cZ (F:Nat) (s1:List UInt8):Option (aF×Int):=
 ((iter (fh s1) F (0,(aF.mk 0 ([]:List UInt8) (aB.mk ([]:List UInt8) ([]:List UInt8)) 0))).bind fun UP=>
 match UP with
 | .inr aY=>
   (fq s1 ([32]:List UInt8)).bind fun kX=>
   (strings_Cut kX ([32]:List UInt8)).bind fun (iB,fm,r16)=>
   (fP F iB).bind fun BQ=>
   (tw F BQ).bind fun dj=>
   (sub kX (iB.length:Int) (kX.length:Int)).bind fun BK=>
   (if (decide (dj=0)) then
    some ((aF.mk 0 ([]:List UInt8) (aB.mk ([]:List UInt8) ([]:List UInt8)) 0),500)
   else
    (if (decide (dj=3)) then
     (tL F BK).bind fun (mc,kI)=>some (mc,kI)
    else
     (if (decide (dj=4)) then
      (tN F BK).bind fun (CU,Ir)=>some (CU,Ir)
     else
      (lT dj).bind fun t26=>
      (lV F t26 fm dj r16).bind fun YT=>
      (if (!YT) then
       some ((aF.mk 0 ([]:List UInt8) (aB.mk ([]:List UInt8) ([]:List UInt8)) 0),501)
      else
       some ((aF.mk dj fm (aB.mk ([]:List UInt8) ([]:List UInt8)) 0),0)))))
 | .inl (tP,Rn)=>
   some (tP,Rn))
theorem BR {s1:List UInt8} {t3:Int} {q5:Nat} {s4:aF} {H0 H:AH} (hfr:Fr H0 H0.length [] H) (ai:H[q5]? =some [(.int .i64 s4.kind),(.str s4.arg),(.str s4.path.av),(.str s4.path.domain),(.int .i64 s4.size)]) (dL:H0.length≤q5) {K:Exit→Env→AH→Prop} {t7:Bool}
 (h:jL s1 t3=some t7)
 (kn:∀H':AH,Fr H0 H0.length [] H'→H'[q5]? =some [(.int .i64 s4.kind),(.str s4.arg),(.str s4.path.av),(.str s4.path.domain),(.int .i64 s4.size)]→K .normal [(0,(.str s1)),(2,(.ptr q5 0)),(12,(.int .i64 (s1.length:Int))),(13,(.int .i64 t3)),(25,(.bool t7))] H'):
 AX Tryz.prog je 80 H0.length (erase vm) K [(0,(.str s1)),(2,(.ptr q5 0)),(4,(.int .i64 t3)),(12,(.int .i64 (s1.length:Int))),(13,(.int .i64 t3))] H:=by
 refine bY fun K' hK=> ?_
 have hle:=hfr.le
 have aM:=aQ ai
 rw [jL.eq_1] at h
 obtain ⟨x6,hy2,h⟩:=aq h
 refine az (aA hy2 ai) ?_
 refine bP h (fun hy3 h=> ?_) fun hy3 h=> ?_
 · refine az (aA hy3 ai) ?_
   obtain rfl:=aC h
   exact hK _ _ _ _ _ aJ ak (kn _ hfr (ai.trans rfl))
 · refine az (aA hy3 (aA hy2 ai)) ?_
   obtain rfl:=aC h
   exact hK _ _ _ _ _ aJ ak (kn _ hfr (ai.trans rfl))
theorem BS {F:Nat} {t3:Int} {s1:List UInt8} {s4:aF} {q2:Nat} {H0 H:AH} (hfr:Fr H0 H0.length [] H) (ai:H[q2]? =some [(.int .i64 s4.kind),(.str s4.arg),(.str s4.path.av),(.str s4.path.domain),(.int .i64 s4.size)]) (dL:H0.length≤q2) {K:Exit→Env→AH→Prop} {o:(aF×Int)⊕(aF)}
 (h:iter (fh s1) F (t3,s4)=some o)
 (dc:∀o':aF,o= .inr o'→∀H':AH,Fr H0 H0.length [] H'→H'[q2]? =some [(.int .i64 o'.kind),(.str o'.arg),(.str o'.path.av),(.str o'.path.domain),(.int .i64 o'.size)]→K (.exit 0) [(0,(.str s1)),(2,(.ptr q2 0))] H')
 (kr:∀o':aF×Int,o= .inl o'→∀H':AH,Fr H0 H0.length [] H'→H'[q2]? =some [(.int .i64 o'.1.kind),(.str o'.1.arg),(.str o'.1.path.av),(.str o'.1.path.domain),(.int .i64 o'.1.size)]→K .ret [(2,(.ptr q2 0)),(3,(.int .i64 o'.2))] H'):
 AX Tryz.prog je 80 H0.length (.loop (erase tO)) K [(0,(.str s1)),(2,(.ptr q2 0)),(12,(.int .i64 (s1.length:Int))),(13,(.int .i64 t3))] H:=by
 refine gL (fun s e H1=>match s with|(t3,s4)=>e=[(0,(.str s1)),(2,(.ptr q2 0)),(12,(.int .i64 (s1.length:Int))),(13,(.int .i64 t3))]∧Fr H0 H0.length [] H1∧H1[q2]? =some [(.int .i64 s4.kind),(.str s4.arg),(.str s4.path.av),(.str s4.path.domain),(.int .i64 s4.size)]) h ⟨rfl,hfr,ai⟩ ?_
 rintro K' ⟨t3,s4⟩ st e H ⟨rfl,hfr,ai⟩ h hN hB hR hX
 have hle:=hfr.le
 have aM:=aQ ai
 rw [fh.eq_1] at h
 refine az ai ?_
 refine bk h (fun hy1 h=> ?_) fun hy1 h=> ?_
 · refine az ai ?_
   obtain ⟨t8,hy4,h⟩:=aq h
   refine bz ak (BR (s4:=s4) (q5:=q2) hfr (ai.trans rfl) bX hy4 ?_)
   intro H hfr ai
   have hle:=hfr.le
   have aM:=aQ ai
   refine az ai ?_
   refine bk h (fun bJ h=> ?_) fun bJ h=> ?_
   · refine az ai ?_
     obtain rfl:=aC h
     exact hX _ _ _ _ _ dm aJ ak (kr _ (hR _ rfl) _ (bW _ hfr) cA)
   · refine az ai ?_
     obtain rfl:=aC h
     exact hN _ rfl _ _ _ _ aJ ak ⟨rfl,hfr,(ai.trans rfl)⟩
 · refine az ai ?_
   obtain rfl:=aC h
   exact hX _ _ _ _ _ dm aJ ak (dc _ (hB _ rfl) _ hfr (ai.trans rfl))
theorem BT {dj:Int} {BU:Nat} {fm:List UInt8} {r16:Bool} {aY:aF} {H0 H:AH} (hfr:Fr H0 H0.length [] H) (ai:H[BU]? =some [(.int .i64 aY.kind),(.str aY.arg),(.str aY.path.av),(.str aY.path.domain),(.int .i64 aY.size)]) (dL:H0.length≤BU) {K:Exit→Env→AH→Prop} {t25:Bool}
 (h:lT dj=some t25)
 (kn:∀H':AH,Fr H0 H0.length [] H'→H'[BU]? =some [(.int .i64 aY.kind),(.str aY.arg),(.str aY.path.av),(.str aY.path.domain),(.int .i64 aY.size)]→K .normal [(2,(.ptr BU 0)),(6,(.str fm)),(7,(.bool r16)),(8,(.int .i64 dj)),(10,(.bool true)),(43,(.int .i64 dj)),(59,(.bool t25))] H'):
 AX Tryz.prog je 80 H0.length (erase vn) K [(2,(.ptr BU 0)),(6,(.str fm)),(7,(.bool r16)),(8,(.int .i64 dj)),(10,(.bool true)),(43,(.int .i64 dj)),(59,(.bool (decide (dj=1))))] H:=by
 refine bY fun K' hK=> ?_
 have hle:=hfr.le
 have aM:=aQ ai
 rw [lT.eq_1] at h
 refine az ai ?_
 refine bk h (fun gY h=> ?_) fun gY h=> ?_
 · refine az ai ?_
   obtain rfl:=aC h
   exact hK _ _ _ _ _ aJ ak (kn _ hfr (ai.trans rfl))
 · refine az ai ?_
   obtain rfl:=aC h
   exact hK _ _ _ _ _ aJ ak (kn _ hfr (ai.trans rfl))
theorem BV {dj:Int} {Ro:Nat} {fm:List UInt8} {r16:Bool} {aY:aF} {H0 H:AH} (hfr:Fr H0 H0.length [] H) (ai:H[Ro]? =some [(.int .i64 aY.kind),(.str aY.arg),(.str aY.path.av),(.str aY.path.domain),(.int .i64 aY.size)]) (dL:H0.length≤Ro) {K:Exit→Env→AH→Prop} {t30:Bool}
 (h:lU dj=some t30)
 (kn:∀H':AH,Fr H0 H0.length [] H'→H'[Ro]? =some [(.int .i64 aY.kind),(.str aY.arg),(.str aY.path.av),(.str aY.path.domain),(.int .i64 aY.size)]→K .normal [(2,(.ptr Ro 0)),(6,(.str fm)),(7,(.bool r16)),(8,(.int .i64 dj)),(10,(.bool true)),(43,(.int .i64 dj)),(64,(.bool t30))] H'):
 AX Tryz.prog je 80 H0.length (erase vo) K [(2,(.ptr Ro 0)),(6,(.str fm)),(7,(.bool r16)),(8,(.int .i64 dj)),(10,(.bool true)),(43,(.int .i64 dj)),(64,(.bool (decide (dj=5))))] H:=by
 refine bY fun K' hK=> ?_
 have hle:=hfr.le
 have aM:=aQ ai
 rw [lU.eq_1] at h
 refine az ai ?_
 refine bk h (fun gr h=> ?_) fun gr h=> ?_
 · refine az ai ?_
   obtain rfl:=aC h
   exact hK _ _ _ _ _ aJ ak (kn _ hfr (ai.trans rfl))
 · refine az ai ?_
   refine bk h (fun gZ h=> ?_) fun gZ h=> ?_
   · refine az ai ?_
     obtain rfl:=aC h
     exact hK _ _ _ _ _ aJ ak (kn _ hfr (ai.trans rfl))
   · refine az ai ?_
     obtain rfl:=aC h
     exact hK _ _ _ _ _ aJ ak (kn _ hfr (ai.trans rfl))
theorem BW {F:Nat} {t26:Bool} {fm:List UInt8} {dj:Int} {r16:Bool} {Nh:Nat} {aY:aF} {H0 H:AH} (hfr:Fr H0 H0.length [] H) (ai:H[Nh]? =some [(.int .i64 aY.kind),(.str aY.arg),(.str aY.path.av),(.str aY.path.domain),(.int .i64 aY.size)]) (dL:H0.length≤Nh) {K:Exit→Env→AH→Prop} {YU:Bool}
 (h:lV F t26 fm dj r16=some YU)
 (kn:∀H':AH,Fr H0 H0.length [] H'→H'[Nh]? =some [(.int .i64 aY.kind),(.str aY.arg),(.str aY.path.av),(.str aY.path.domain),(.int .i64 aY.size)]→K .normal [(2,(.ptr Nh 0)),(6,(.str fm)),(8,(.int .i64 dj)),(10,(.bool YU))] H'):
 AX Tryz.prog je 80 H0.length (erase vp) K [(2,(.ptr Nh 0)),(6,(.str fm)),(7,(.bool r16)),(8,(.int .i64 dj)),(10,(.bool true)),(43,(.int .i64 dj)),(59,(.bool t26))] H:=by
 refine bY fun K' hK=> ?_
 have hle:=hfr.le
 have aM:=aQ ai
 rw [lV.eq_1] at h
 refine az ai ?_
 refine bk h (fun fS h=> ?_) fun fS h=> ?_
 · refine az ai ?_
   obtain ⟨XU,fT,h⟩:=aq h
   refine bC ak (vi fT) ?_
   refine az ai ?_
   obtain rfl:=aC h
   exact hK _ _ _ _ _ aJ ak (kn _ hfr (ai.trans rfl))
 · refine az ai ?_
   obtain ⟨t31,iQ,h⟩:=aq h
   refine bz ak (BV (fm:=fm) (r16:=r16) (aY:=aY) (Ro:=Nh) hfr (ai.trans rfl) bX iQ ?_)
   intro H hfr ai
   have hle:=hfr.le
   have aM:=aQ ai
   refine az ai ?_
   refine bk h (fun gD h=> ?_) fun gD h=> ?_
   · refine az ai ?_
     obtain rfl:=aC h
     exact hK _ _ _ _ _ aJ ak (kn _ hfr (ai.trans rfl))
   · refine az ai ?_
     refine bk h (fun hM h=> ?_) fun hM h=> ?_
     · refine az ai ?_
       obtain rfl:=aC h
       exact hK _ _ _ _ _ aJ ak (kn _ hfr (ai.trans rfl))
     · refine az ai ?_
       obtain rfl:=aC h
       exact hK _ _ _ _ _ aJ ak (kn _ hfr (ai.trans rfl))
theorem cQ {F:Nat} {s1:List UInt8} {H0:AH} {aS:aF} {eL:Int} (h:cZ F s1=some (aS,eL)):
 aG Tryz.prog 8 [(.str s1)] H0 fun v H'=>v=(.bB [(.agg [(.int .i64 aS.kind),(.str aS.arg),(.str aS.path.av),(.str aS.path.domain),(.int .i64 aS.size)]),(.int .i64 eL)])∧H'=H0:=by
 refine l7 Iq je [] fun hcl K0 aO H hH hfr=> ?_
 clear hH
 have hle:=hfr.le
 rw [cZ.eq_1] at h
 refine cM ?_
 obtain ⟨q2,jX⟩:∃q:Nat,H.length=q:=⟨_,rfl⟩
 try rw [jX]
 obtain ⟨UP,b6,h⟩:=aq h
 refine bz ak (BS (q2:=q2) (Fr.app hfr) uC bX b6 ?_ ?_)
 · rintro aY rfl H hfr ai
   try dsimp only at h ai
   have hle:=hfr.le
   have aM:=aQ ai
   refine az ai ?_
   obtain ⟨kX,cC,h⟩:=aq h
   refine bC ak (vH (s1:=s1) (s2:=([32]:List UInt8)) cC) ?_
   refine az ai ?_
   obtain ⟨⟨iB,fm,r16⟩,cr,h⟩:=aq h
   dsimp only at h
   refine bC ak (CC (s1:=kX) (s2:=([32]:List UInt8)) cr) ?_
   refine az ai ?_
   obtain ⟨BQ,cP,h⟩:=aq h
   refine bC ak (kA cP) ?_
   refine az ai ?_
   obtain ⟨dj,ck,h⟩:=aq h
   refine bC ak (H8 ck) ?_
   refine az ai ?_
   obtain ⟨BK,cx,h⟩:=aq h
   refine az (aA cx ai) ?_
   refine bk h (fun cN h=> ?_) fun cN h=> ?_
   · refine az ai ?_
     obtain ⟨rfl,rfl⟩:=cB h
     exact aO _ _ _ bh (aT (bW _ hfr) hcl (bn (cs:=[(.int .i64 0),(.str ([]:List UInt8)),(.str ([]:List UInt8)),(.str ([]:List UInt8)),(.int .i64 0)]) (v:=(.agg [(.int .i64 0),(.str ([]:List UInt8)),(.str ([]:List UInt8)),(.str ([]:List UInt8)),(.int .i64 0)])) (by kernel_rfl) (n:=(some 5)) (by kernel_rfl) rfl cA (by simp [bG,bF,dP,aU,AV.flat,bZ,cy,AV.bu,Tg.sh]) (aW aZ (.int .i64 500))) bf aX ⟨rfl,rfl⟩)
   · refine az ai ?_
     refine bk h (fun cH h=> ?_) fun cH h=> ?_
     · refine az ai ?_
       obtain ⟨⟨mc,kI⟩,dV,h⟩:=aq h
       dsimp only at h
       refine bC ak (Im dV) ?_
       refine az ai ?_
       obtain ⟨rfl,rfl⟩:=cB h
       exact aO _ _ _ bh (aT (bW _ hfr) hcl (bn (cs:=[(.int .i64 mc.kind),(.str mc.arg),(.str mc.path.av),(.str mc.path.domain),(.int .i64 mc.size)]) (v:=(.agg [(.int .i64 mc.kind),(.str mc.arg),(.str mc.path.av),(.str mc.path.domain),(.int .i64 mc.size)])) (by kernel_rfl) (n:=(some 5)) (by kernel_rfl) rfl cA (by simp [bG,bF,dP,aU,AV.flat,bZ,cy,AV.bu,Tg.sh]) (aW aZ (.int .i64 kI))) bf aX ⟨rfl,rfl⟩)
     · refine az ai ?_
       refine bk h (fun eT h=> ?_) fun eT h=> ?_
       · refine az ai ?_
         obtain ⟨⟨CU,Ir⟩,ei,h⟩:=aq h
         dsimp only at h
         refine bC ak (Io ei) ?_
         refine az ai ?_
         obtain ⟨rfl,rfl⟩:=cB h
         exact aO _ _ _ bh (aT (bW _ hfr) hcl (bn (cs:=[(.int .i64 CU.kind),(.str CU.arg),(.str CU.path.av),(.str CU.path.domain),(.int .i64 CU.size)]) (v:=(.agg [(.int .i64 CU.kind),(.str CU.arg),(.str CU.path.av),(.str CU.path.domain),(.int .i64 CU.size)])) (by kernel_rfl) (n:=(some 5)) (by kernel_rfl) rfl cA (by simp [bG,bF,dP,aU,AV.flat,bZ,cy,AV.bu,Tg.sh]) (aW aZ (.int .i64 Ir))) bf aX ⟨rfl,rfl⟩)
       · refine az ai ?_
         obtain ⟨t26,gq,h⟩:=aq h
         refine bz ak (BT (fm:=fm) (r16:=r16) (aY:=aY) (BU:=q2) hfr (ai.trans rfl) bX gq ?_)
         intro H hfr ai
         have hle:=hfr.le
         have aM:=aQ ai
         refine az ai ?_
         obtain ⟨YT,jJ,h⟩:=aq h
         refine bz ak (BW (aY:=aY) (Nh:=q2) hfr (ai.trans rfl) bX jJ ?_)
         intro H hfr ai
         have hle:=hfr.le
         have aM:=aQ ai
         refine az ai ?_
         refine bk h (fun pJ h=> ?_) fun pJ h=> ?_
         · refine az ai ?_
           obtain ⟨rfl,rfl⟩:=cB h
           exact aO _ _ _ bh (aT (bW _ hfr) hcl (bn (cs:=[(.int .i64 0),(.str ([]:List UInt8)),(.str ([]:List UInt8)),(.str ([]:List UInt8)),(.int .i64 0)]) (v:=(.agg [(.int .i64 0),(.str ([]:List UInt8)),(.str ([]:List UInt8)),(.str ([]:List UInt8)),(.int .i64 0)])) (by kernel_rfl) (n:=(some 5)) (by kernel_rfl) rfl cA (by simp [bG,bF,dP,aU,AV.flat,bZ,cy,AV.bu,Tg.sh]) (aW aZ (.int .i64 501))) bf aX ⟨rfl,rfl⟩)
         · refine az ai ?_
           obtain ⟨rfl,rfl⟩:=cB h
           exact aO _ _ _ bh (aT (bW _ hfr) hcl (bn (cs:=[(.int .i64 dj),(.str fm),(.str ([]:List UInt8)),(.str ([]:List UInt8)),(.int .i64 0)]) (v:=(.agg [(.int .i64 dj),(.str fm),(.str ([]:List UInt8)),(.str ([]:List UInt8)),(.int .i64 0)])) (by kernel_rfl) (n:=(some 5)) (by kernel_rfl) rfl cA (by simp [bG,bF,dP,aU,AV.flat,bZ,cy,AV.bu,Tg.sh]) (aW aZ (.int .i64 0))) bf aX ⟨rfl,rfl⟩)
 · rintro ⟨tP,Rn⟩ rfl H hfr ai
   try dsimp only at h ai
   have hle:=hfr.le
   have aM:=aQ ai
   refine az ai ?_
   obtain ⟨rfl,rfl⟩:=cB h
   exact aO _ _ _ bh (aT hfr hcl (bn (cs:=[(.int .i64 tP.kind),(.str tP.arg),(.str tP.path.av),(.str tP.path.domain),(.int .i64 tP.size)]) (v:=(.agg [(.int .i64 tP.kind),(.str tP.arg),(.str tP.path.av),(.str tP.path.domain),(.int .i64 tP.size)])) (by kernel_rfl) (n:=(some 5)) (by kernel_rfl) rfl (ai.trans rfl) (by simp [bG,bF,dP,aU,AV.flat,bZ,cy,AV.bu,Tg.sh]) (aW aZ (.int .i64 Rn))) bf aX ⟨rfl,rfl⟩)
abbrev FN:ax:=(.seq (.rg [(aj 1 (.box (.t 0))),(aj 2 (.aP (.c (.str []))))]) (.seq (.blk 0 (.seq (.rg [(aj 4 (.ld (.t 1) (some 2))),(aj 5 (.call (.c (.fn 30 [])) [(.t 4)])),(aR 3 5)]) (.cond (.t 3) (.seq (.rg [(aj 2 (.aP (.c (.str [60,62]))))]) .ret) (.seq (.rg [(aj 7 (.ld (.t 1) (some 2))),(aj 8 (.call (.c (.fn 10 [])) [(.t 7)])),(aj 9 (.un .not (.t 8))),(aR 6 9)]) (.cond (.t 6) (.seq (.rg [(aj 2 (.aP (.c (.str []))))]) .ret) .skip))))) (.seq (.rg [(aj 10 (.ld (.t 1) (some 2))),(aj 11 (.call (.c (.fn 32 [])) [(.t 10)])),(aR 2 11)]) .ret)))
theorem FO:bN Tryz.prog 11 12 [(.tmp 2)] (erase FN):=⟨Tryz.f11,_,rfl,by decide,rfl,by kernel_rfl,rfl,rfl⟩
abbrev FP:List Nat:=[0,1,2,3,6]
def iS (F:Nat) (a1:aB):Option ((List UInt8)):=
 (lG a1).bind fun r2=>
 (if r2 then
  some ([60,62]:List UInt8)
 else
  (iR F a1).bind fun r3=>
  (if (!r3) then
   some ([]:List UInt8)
  else
   (lH F a1).bind fun r4=>some r4))
theorem pK {F:Nat} {a1:aB} {H0:AH} {aS:List UInt8} (h:iS F a1=some aS):
 aG Tryz.prog 11 [(.agg [(.str a1.av),(.str a1.domain)])] H0 fun v H'=>v=(.str aS)∧H'=H0:=by
 refine l7 FO FP [] fun hcl K0 aO H hH hfr=> ?_
 clear hH
 have hle:=hfr.le
 rw [iS.eq_1] at h
 refine cM ?_
 obtain ⟨r2,hy1,h⟩:=aq h
 refine bC ak (yh hy1) ?_
 refine cM ?_
 refine bk h (fun hy2 h=> ?_) fun hy2 h=> ?_
 · refine cM ?_
   obtain rfl:=aC h
   exact aO _ _ _ bh (aT (Fr.app hfr) hcl (aW aZ (.str ([60,62]:List UInt8))) bf aX ⟨rfl,rfl⟩)
 · refine cM ?_
   obtain ⟨r3,hy3,h⟩:=aq h
   refine bC ak (pH hy3) ?_
   refine cM ?_
   refine bk h (fun hy4 h=> ?_) fun hy4 h=> ?_
   · refine cM ?_
     obtain rfl:=aC h
     exact aO _ _ _ bh (aT (Fr.app hfr) hcl (aW aZ (.str ([]:List UInt8))) bf aX ⟨rfl,rfl⟩)
   · refine cM ?_
     obtain ⟨r4,bJ,h⟩:=aq h
     refine bC ak (yl bJ) ?_
     refine cM ?_
     obtain rfl:=aC h
     exact aO _ _ _ bh (aT (Fr.app hfr) hcl (aW aZ (.str r4)) bf aX ⟨rfl,rfl⟩)
abbrev vq:ax:=(.cond (.t 15) .skip (.seq (.rg [(aj 17 (.bin .eql (.t 8) (.c (.int .i64 2)))),(aR 15 17)]) (.cond (.t 15) .skip (.rg [(aj 18 (.bin .eql (.t 8) (.c (.int .i64 9)))),(aR 15 18)]))))
abbrev vt:ax:=(.cond (.t 27) (.rg [(au 28 3),(aj 29 (.cF (.t 1) 4)),(aj 30 (.ld (.t 29) none)),(aj 31 (.call (.c (.fn 34 [])) [(.t 30)])),(aj 32 (.bin .add (.c (.str [32,83,73,90,69,61])) (.t 31))),(aj 33 (.bin .add (.t 28) (.t 32))),(aR 3 33)]) .skip)
abbrev Is:ax:=(.seq (.rg [(aj 1 (.box (.t 0))),(aj 2 (.aP (.c (.str []))))]) (.seq (.rg [(aj 4 (.cF (.t 1) 0)),(aj 5 (.ld (.t 4) none)),(aj 6 (.call (.c (.fn 33 [])) [(.t 5)])),(aR 3 6)]) (.seq (.seq (.rg [(aj 7 (.cF (.t 1) 0)),(aj 8 (.ld (.t 7) none))]) (.blk 0 (.seq (.blk 4 (.seq (.blk 3 (.seq (.blk 2 (.seq (.blk 1 (.seq (.seq (.seq (.rg [(aj 10 (.bin .eql (.t 8) (.c (.int .i64 3)))),(aR 9 10)]) (.cond (.t 9) (.exit 1) .skip)) (.seq (.seq (.rg [(aj 12 (.bin .eql (.t 8) (.c (.int .i64 4)))),(aR 11 12)]) (.cond (.t 11) (.exit 2) .skip)) (.seq (.seq (.rg [(aj 14 (.bin .eql (.t 8) (.c (.int .i64 7)))),(aR 13 14)]) (.cond (.t 13) (.exit 3) .skip)) (.seq (.seq (.rg [(aj 16 (.bin .eql (.t 8) (.c (.int .i64 1)))),(aR 15 16)]) (.sem (erase vq))) (.cond (.t 15) (.exit 4) .skip))))) (.exit 0))) (.seq (.seq (.rg [(au 19 3),(aj 20 (.cF (.t 1) 2)),(aj 21 (.ld (.t 20) (some 2))),(aj 22 (.call (.c (.fn 11 [])) [(.t 21)])),(aj 23 (.bin .add (.c (.str [32,70,82,79,77,58])) (.t 22))),(aj 24 (.bin .add (.t 19) (.t 23))),(aR 3 24)]) (.seq (.rg [(aj 25 (.cF (.t 1) 4)),(aj 26 (.ld (.t 25) none)),(aj 27 (.bin .neq (.t 26) (.c (.int .i64 (-1)))))]) (.sem (erase vt)))) (.exit 0)))) (.seq (.rg [(au 34 3),(aj 35 (.cF (.t 1) 2)),(aj 36 (.ld (.t 35) (some 2))),(aj 37 (.call (.c (.fn 11 [])) [(.t 36)])),(aj 38 (.bin .add (.c (.str [32,84,79,58])) (.t 37))),(aj 39 (.bin .add (.t 34) (.t 38))),(aR 3 39)]) (.exit 0)))) (.seq (.rg [(aj 40 (.cF (.t 1) 1)),(aj 41 (.ld (.t 40) none)),(aj 42 (.bin .eql (.t 41) (.c (.str []))))]) (.cond (.t 42) (.exit 0) .skip)))) (.seq (.rg [(au 43 3),(aj 44 (.cF (.t 1) 1)),(aj 45 (.ld (.t 44) none)),(aj 46 (.bin .add (.c (.str [32])) (.t 45))),(aj 47 (.bin .add (.t 43) (.t 46))),(aR 3 47)]) (.exit 0))))) (.seq (.rg [(au 48 3),(aR 2 48)]) .ret))))
theorem Iu:bN Tryz.prog 14 49 [(.tmp 2)] (erase Is):=⟨Tryz.f14,_,rfl,by decide,rfl,by kernel_rfl,rfl,rfl⟩
abbrev uQ:List Nat:=[0,1,2,3,8,9,11,13,15,27,42]
def sY (c1:aF) (x5:List UInt8):Option ((List UInt8)):=
 (if (!decide (c1.size=(-1))) then
  (strconv_Itoa c1.size).bind fun r7=>
  (cat ([32,83,73,90,69,61]:List UInt8) r7).bind fun x8=>(cat x5 x8).bind fun x9=>some x9
 else
  some x5)
def sZ (c1:aF):Option (Bool):=
 (if (decide (c1.kind=1)) then
  some (decide (c1.kind=1))
 else
  (if (decide (c1.kind=2)) then
   some (decide (c1.kind=2))
  else
   some (decide (c1.kind=9))))
def yK (F:Nat) (c1:aF):Option ((List UInt8)):=
 (oE c1.kind).bind fun r2=>
 (if (decide (c1.kind=3)) then
  (iS F c1.path).bind fun r3=>
  (cat ([32,70,82,79,77,58]:List UInt8) r3).bind fun x4=>
  (cat r2 x4).bind fun x5=>(sY c1 x5).bind fun oW=>
  some oW
 else
  (if (decide (c1.kind=4)) then
   (iS F c1.path).bind fun iz=>
   (cat ([32,84,79,58]:List UInt8) iz).bind fun gX=>(cat r2 gX).bind fun FI=>some FI
  else
   (if (decide (c1.kind=7)) then
    (if (decide (c1.arg=([]:List UInt8))) then
     some r2
    else
     (cat ([32]:List UInt8) c1.arg).bind fun kY=>(cat r2 kY).bind fun lE=>some lE)
   else
    (sZ c1).bind fun t19=>
    (if t19 then
     (cat ([32]:List UInt8) c1.arg).bind fun kZ=>(cat r2 kZ).bind fun BL=>some BL
    else
     some r2))))
theorem BX {c1:aF} {x5:List UInt8} {q6:Nat} {H0 H:AH} (hfr:Fr H0 H0.length [] H) (ai:H[q6]? =some [(.int .i64 c1.kind),(.str c1.arg),(.str c1.path.av),(.str c1.path.domain),(.int .i64 c1.size)]) (dL:H0.length≤q6) {K:Exit→Env→AH→Prop} {UO:List UInt8}
 (h:sY c1 x5=some UO)
 (kn:∀H':AH,Fr H0 H0.length [] H'→H'[q6]? =some [(.int .i64 c1.kind),(.str c1.arg),(.str c1.path.av),(.str c1.path.domain),(.int .i64 c1.size)]→K .normal [(3,(.str UO))] H'):
 AX Tryz.prog uQ 49 H0.length (erase vt) K [(1,(.ptr q6 0)),(3,(.str x5)),(27,(.bool (!decide (c1.size=(-1)))))] H:=by
 refine bY fun K' hK=> ?_
 have hle:=hfr.le
 have aM:=aQ ai
 rw [sY.eq_1] at h
 refine az ai ?_
 refine bk h (fun b6 h=> ?_) fun b6 h=> ?_
 · refine az ai ?_
   obtain ⟨r7,cC,h⟩:=aq h
   refine bC ak (tr (i1:=c1.size) cC) ?_
   refine az ai ?_
   obtain ⟨x8,cr,h⟩:=aq h
   obtain ⟨x9,cP,h⟩:=aq h
   refine az (aA cr (aA cP ai)) ?_
   obtain rfl:=aC h
   exact hK _ _ _ _ _ aJ ak (kn _ hfr (ai.trans rfl))
 · refine az ai ?_
   obtain rfl:=aC h
   exact hK _ _ _ _ _ aJ ak (kn _ hfr (ai.trans rfl))
theorem BY {c1:aF} {uR:Nat} {r2:List UInt8} {H0 H:AH} (hfr:Fr H0 H0.length [] H) (ai:H[uR]? =some [(.int .i64 c1.kind),(.str c1.arg),(.str c1.path.av),(.str c1.path.domain),(.int .i64 c1.size)]) (dL:H0.length≤uR) {K:Exit→Env→AH→Prop} {t18:Bool}
 (h:sZ c1=some t18)
 (kn:∀H':AH,Fr H0 H0.length [] H'→H'[uR]? =some [(.int .i64 c1.kind),(.str c1.arg),(.str c1.path.av),(.str c1.path.domain),(.int .i64 c1.size)]→K .normal [(1,(.ptr uR 0)),(3,(.str r2)),(15,(.bool t18))] H'):
 AX Tryz.prog uQ 49 H0.length (erase vq) K [(1,(.ptr uR 0)),(3,(.str r2)),(8,(.int .i64 c1.kind)),(15,(.bool (decide (c1.kind=1))))] H:=by
 refine bY fun K' hK=> ?_
 have hle:=hfr.le
 have aM:=aQ ai
 rw [sZ.eq_1] at h
 refine az ai ?_
 refine bk h (fun fS h=> ?_) fun fS h=> ?_
 · refine az ai ?_
   obtain rfl:=aC h
   exact hK _ _ _ _ _ aJ ak (kn _ hfr (ai.trans rfl))
 · refine az ai ?_
   refine bk h (fun fT h=> ?_) fun fT h=> ?_
   · refine az ai ?_
     obtain rfl:=aC h
     exact hK _ _ _ _ _ aJ ak (kn _ hfr (ai.trans rfl))
   · refine az ai ?_
     obtain rfl:=aC h
     exact hK _ _ _ _ _ aJ ak (kn _ hfr (ai.trans rfl))
theorem FQ {F:Nat} {c1:aF} {H0:AH} {aS:List UInt8} (h:yK F c1=some aS):
 aG Tryz.prog 14 [(.agg [(.int .i64 c1.kind),(.str c1.arg),(.str c1.path.av),(.str c1.path.domain),(.int .i64 c1.size)])] H0 fun v H'=>v=(.str aS)∧H'=H0:=by
 refine l7 Iu uQ [] fun hcl K0 aO H hH hfr=> ?_
 clear hH
 have hle:=hfr.le
 rw [yK.eq_1] at h
 refine cM ?_
 obtain ⟨r2,hy1,h⟩:=aq h
 refine bC ak (Aj hy1) ?_
 refine cM ?_
 refine bk h (fun hy2 h=> ?_) fun hy2 h=> ?_
 · refine cM ?_
   obtain ⟨r3,hy3,h⟩:=aq h
   refine bC ak (pK hy3) ?_
   refine cM ?_
   obtain ⟨x4,hy4,h⟩:=aq h
   obtain ⟨x5,bJ,h⟩:=aq h
   refine az (aA hy4 bJ) ?_
   obtain ⟨q6,yH⟩:∃q:Nat,H.length=q:=⟨_,rfl⟩
   try rw [yH]
   obtain ⟨oW,ck,h⟩:=aq h
   refine bz ak (BX (q6:=q6) (Fr.app hfr) uC bX ck ?_)
   intro H hfr ai
   have hle:=hfr.le
   have aM:=aQ ai
   refine az ai ?_
   obtain rfl:=aC h
   exact aO _ _ _ bh (aT hfr hcl (aW aZ (.str oW)) bf aX ⟨rfl,rfl⟩)
 · refine cM ?_
   refine bk h (fun cx h=> ?_) fun cx h=> ?_
   · refine cM ?_
     obtain ⟨iz,cN,h⟩:=aq h
     refine bC ak (pK cN) ?_
     refine cM ?_
     obtain ⟨gX,cH,h⟩:=aq h
     obtain ⟨FI,dV,h⟩:=aq h
     refine az (aA cH dV) ?_
     obtain rfl:=aC h
     exact aO _ _ _ bh (aT (Fr.app hfr) hcl (aW aZ (.str FI)) bf aX ⟨rfl,rfl⟩)
   · refine cM ?_
     refine bk h (fun eT h=> ?_) fun eT h=> ?_
     · refine cM ?_
       refine bk h (fun ei h=> ?_) fun ei h=> ?_
       · refine cM ?_
         obtain rfl:=aC h
         exact aO _ _ _ bh (aT (Fr.app hfr) hcl (aW aZ (.str r2)) bf aX ⟨rfl,rfl⟩)
       · obtain ⟨kY,gY,h⟩:=aq h
         obtain ⟨lE,gq,h⟩:=aq h
         refine az (aA gY gq) ?_
         obtain rfl:=aC h
         exact aO _ _ _ bh (aT (Fr.app hfr) hcl (aW aZ (.str lE)) bf aX ⟨rfl,rfl⟩)
     · refine cM ?_
       obtain ⟨uR,Iv⟩:∃q:Nat,H.length=q:=⟨_,rfl⟩
       try rw [Iv]
       obtain ⟨t19,gr,h⟩:=aq h
       refine bz ak (BY (r2:=r2) (uR:=uR) (Fr.app hfr) uC bX gr ?_)
       intro H hfr ai
       have hle:=hfr.le
       have aM:=aQ ai
       refine az ai ?_
       refine bk h (fun gZ h=> ?_) fun gZ h=> ?_
       · obtain ⟨kZ,iQ,h⟩:=aq h
         obtain ⟨BL,gD,h⟩:=aq h
         refine az (aA iQ (aA gD ai)) ?_
         obtain rfl:=aC h
         exact aO _ _ _ bh (aT hfr hcl (aW aZ (.str BL)) bf aX ⟨rfl,rfl⟩)
       · refine az ai ?_
         obtain rfl:=aC h
         exact aO _ _ _ bh (aT hfr hcl (aW aZ (.str r2)) bf aX ⟨rfl,rfl⟩)
abbrev rz:ax:=(.rg ((au 25 2)::(aj 26 (.bin .eql (.t 25) (.c (.int .i64 0))))::(au 27 26)::(ay 28 (.cF (.t 1) 0) 27 true)::(ay 29 (.ld (.t 28) none) 27 true)::(ay 30 (.bin .eql (.t 29) (.c (.int .i64 3))) 27 true)::(aj 31 (.pick (.t 27) (.t 30) (.c (.bool false))))::(au 32 31)::(ay 33 (.cF (.t 1) 4) 32 true)::(ay 34 (.ld (.t 33) none) 32 true)::(ay 35 (.bin .eql (.t 34) (.c (.int .i64 12))) 32 true)::(aj 36 (.pick (.t 32) (.t 35) (.c (.bool false))))::(au 37 36)::(ay 38 (.cF (.t 1) 2) 37 true)::(ay 39 (.cF (.t 38) 0) 37 true)::(ay 40 (.ld (.t 39) none) 37 true)::(ay 41 (.bin .eql (.t 40) (.c (.str [97]))) 37 true)::(aj 42 (.pick (.t 37) (.t 41) (.c (.bool false))))::(au 43 42)::(ay 44 (.mv (.t 4)) 43 true)::(ay 45 (.bin .eql (.t 44) (.c (.int .i64 501))) 43 true)::(aj 46 (.pick (.t 43) (.t 45) (.c (.bool false))))::(au 47 46)::(ay 48 (.mv (.t 6)) 47 true)::(ay 49 (.bin .eql (.t 48) (.c (.int .i64 555))) 47 true)::(aj 50 (.pick (.t 47) (.t 49) (.c (.bool false))))::(au 51 50)::(ay 52 (.mv (.t 8)) 51 true)::(ay 53 (.bin .eql (.t 52) (.c (.int .i64 500))) 51 true)::(aj 54 (.pick (.t 51) (.t 53) (.c (.bool false))))::(au 55 54)::(ay 56 (.ld (.t 1) (some 5)) 55 true)::(ay 57 (.call (.c (.fn 14 [])) [(.t 56)]) 55 true)::(ay 58 (.bin .eql (.t 57) (.c (.str [77,65,73,76,32,70,82,79,77,58,60,97,64,98,62,32,83,73,90,69,61,49,50]))) 55 true)::(aj 59 (.pick (.t 55) (.t 58) (.c (.bool false))))::(aR 0 59)::[]))
abbrev Ec:ax:=(.seq (.rg [(aj 0 (.aP (.c (.bool false))))]) (.seq (.rg [(aj 10 (.call (.c (.fn 8 [])) [(.c (.str [109,97,105,108,32,70,82,79,77,58,60,97,64,98,62,32,83,73,90,69,61,49,50,32,32]))])),(au 9 10),(aj 11 (.ext (.t 9) 0)),(aj 12 (.ext (.t 9) 1)),(aj 1 (.alloc [(.int .i64 0),(.str []),(.str []),(.str []),(.int .i64 0)])),(cR (.st (.t 1) (.t 11) 5)),(aR 2 12)]) (.seq (.rg [(aj 14 (.call (.c (.fn 8 [])) [(.c (.str [82,67,80,84,32,84,79,58,60,62]))])),(au 13 14),(aj 15 (.ext (.t 13) 0)),(aj 16 (.ext (.t 13) 1)),(aj 3 (.alloc [(.int .i64 0),(.str []),(.str []),(.str []),(.int .i64 0)])),(cR (.st (.t 3) (.t 15) 5)),(aR 4 16)]) (.seq (.rg [(aj 18 (.call (.c (.fn 8 [])) [(.c (.str [77,65,73,76,32,70,82,79,77,58,60,97,64,98,62,32,66,79,68,89,61,56,66,73,84]))])),(au 17 18),(aj 19 (.ext (.t 17) 0)),(aj 20 (.ext (.t 17) 1)),(aj 5 (.alloc [(.int .i64 0),(.str []),(.str []),(.str []),(.int .i64 0)])),(cR (.st (.t 5) (.t 19) 5)),(aR 6 20)]) (.seq (.rg [(aj 22 (.call (.c (.fn 8 [])) [(.c (.str [70,79,79]))])),(au 21 22),(aj 23 (.ext (.t 21) 0)),(aj 24 (.ext (.t 21) 1)),(aj 7 (.alloc [(.int .i64 0),(.str []),(.str []),(.str []),(.int .i64 0)])),(cR (.st (.t 7) (.t 23) 5)),(aR 8 24)]) (.seq (.sem (erase rz)) .ret))))))
theorem Ed:bN Tryz.prog 7 60 [(.tmp 0)] (erase Ec):=⟨Tryz.f7,_,rfl,by decide,rfl,by kernel_rfl,rfl,rfl⟩
abbrev w7:List Nat:=[0,1,2,4,6,8]
def mG (F:Nat) (r2:Int) (r1:aF) (r4:Int) (r6:Int) (r8:Int):Option (Bool):=
 (if (decide (r2=0)) then
  (if (decide (r1.kind=3)) then
   (if (decide (r1.size=12)) then
    (if (decide (r1.path.av=([97]:List UInt8))) then
     (if (decide (r4=501)) then
      (if (decide (r6=555)) then
       (if (decide (r8=500)) then
        (yK F r1).bind fun dM=>
        some (decide (dM=([77,65,73,76,32,70,82,79,77,58,60,97,64,98,62,32,83,73,90,69,61,49,50]:List UInt8)))
       else
        some false)
      else
       some false)
     else
      some false)
    else
     some false)
   else
    some false)
  else
   some false)
 else
  some false)
def kJ (F:Nat):Option (Bool):=
 (cZ F ([109,97,105,108,32,70,82,79,77,58,60,97,64,98,62,32,83,73,90,69,61,49,50,32,32]:List UInt8)).bind fun (r1,r2)=>
 (cZ F ([82,67,80,84,32,84,79,58,60,62]:List UInt8)).bind fun (r3,r4)=>
 (cZ F ([77,65,73,76,32,70,82,79,77,58,60,97,64,98,62,32,66,79,68,89,61,56,66,73,84]:List UInt8)).bind fun (r5,r6)=>
 (cZ F ([70,79,79]:List UInt8)).bind fun (r7,r8)=>(mG F r2 r1 r4 r6 r8).bind fun t12=>
 some t12
theorem yL {F:Nat} {r2:Int} {r1:aF} {r4:Int} {r6:Int} {r8:Int} {q9:Nat} {H0 H:AH} (hfr:Fr H0 H0.length [] H) (ai:H[q9]? =some [(.int .i64 r1.kind),(.str r1.arg),(.str r1.path.av),(.str r1.path.domain),(.int .i64 r1.size)]) (dL:H0.length≤q9) {K:Exit→Env→AH→Prop} {t11:Bool}
 (h:mG F r2 r1 r4 r6 r8=some t11)
 (kn:∀H':AH,Fr H0 H0.length [] H'→H'[q9]? =some [(.int .i64 r1.kind),(.str r1.arg),(.str r1.path.av),(.str r1.path.domain),(.int .i64 r1.size)]→K .normal [(0,(.bool t11))] H'):
 AX Tryz.prog w7 60 H0.length (erase rz) K [(0,(.bool false)),(1,(.ptr q9 0)),(2,(.int .i64 r2)),(4,(.int .i64 r4)),(6,(.int .i64 r6)),(8,(.int .i64 r8))] H:=by
 refine bY fun K' hK=> ?_
 have hle:=hfr.le
 have aM:=aQ ai
 rw [mG.eq_1] at h
 refine az ai ?_
 refine bP h (fun bJ h=> ?_) fun bJ h=> ?_
 · refine az (aA bJ ai) ?_
   refine bP h (fun b6 h=> ?_) fun b6 h=> ?_
   · refine az (aA b6 ai) ?_
     refine bP h (fun cC h=> ?_) fun cC h=> ?_
     · refine az (aA cC ai) ?_
       refine bP h (fun cr h=> ?_) fun cr h=> ?_
       · refine az (aA cr ai) ?_
         refine bP h (fun cP h=> ?_) fun cP h=> ?_
         · refine az (aA cP ai) ?_
           refine bP h (fun ck h=> ?_) fun ck h=> ?_
           · refine az (aA ck ai) ?_
             refine bP h (fun cx h=> ?_) fun cx h=> ?_
             · refine az (aA cx ai) ?_
               obtain ⟨dM,cN,h⟩:=aq h
               refine bC ak (FQ cN) ?_
               refine az ai ?_
               obtain rfl:=aC h
               exact hK _ _ _ _ _ aJ ak (kn _ hfr (ai.trans rfl))
             · refine az (aA cx ai) ?_
               obtain rfl:=aC h
               exact hK _ _ _ _ _ aJ ak (kn _ hfr (ai.trans rfl))
           · refine az (aA ck ai) ?_
             obtain rfl:=aC h
             exact hK _ _ _ _ _ aJ ak (kn _ hfr (ai.trans rfl))
         · refine az (aA cP ai) ?_
           obtain rfl:=aC h
           exact hK _ _ _ _ _ aJ ak (kn _ hfr (ai.trans rfl))
       · refine az (aA cr ai) ?_
         obtain rfl:=aC h
         exact hK _ _ _ _ _ aJ ak (kn _ hfr (ai.trans rfl))
     · refine az (aA cC ai) ?_
       obtain rfl:=aC h
       exact hK _ _ _ _ _ aJ ak (kn _ hfr (ai.trans rfl))
   · refine az (aA b6 ai) ?_
     obtain rfl:=aC h
     exact hK _ _ _ _ _ aJ ak (kn _ hfr (ai.trans rfl))
 · refine az (aA bJ ai) ?_
   obtain rfl:=aC h
   exact hK _ _ _ _ _ aJ ak (kn _ hfr (ai.trans rfl))
theorem vu {F:Nat} {H0:AH} {aS:Bool} (h:kJ F=some aS):
 aG Tryz.prog 7 [] H0 fun v H'=>v=(.bool aS)∧H'=H0:=by
 refine l7 Ed w7 [] fun hcl K0 aO H hH hfr=> ?_
 clear hH
 have hle:=hfr.le
 rw [kJ.eq_1] at h
 refine cM ?_
 obtain ⟨⟨r1,r2⟩,hy1,h⟩:=aq h
 dsimp only at h
 refine bC ak (cQ hy1) ?_
 refine cM ?_
 obtain ⟨⟨r3,r4⟩,hy2,h⟩:=aq h
 dsimp only at h
 refine bC ak (cQ hy2) ?_
 refine cM ?_
 obtain ⟨⟨r5,r6⟩,hy3,h⟩:=aq h
 dsimp only at h
 refine bC ak (cQ hy3) ?_
 refine cM ?_
 obtain ⟨⟨r7,r8⟩,hy4,h⟩:=aq h
 dsimp only at h
 refine bC ak (cQ hy4) ?_
 refine cM ?_
 obtain ⟨q9,aaU⟩:∃q:Nat,H.length=q:=⟨_,rfl⟩
 try rw [aaU]
 obtain ⟨t12,cH,h⟩:=aq h
 refine bz ak (yL (q9:=q9) (bW _ (Fr.app (bW _ (Fr.app (bW _ (Fr.app (bW _ (Fr.app hfr)))))))) (fN (kz (fN (kz (fN (kz cA)))))) bX cH ?_)
 intro H hfr ai
 have hle:=hfr.le
 have aM:=aQ ai
 refine az ai ?_
 obtain rfl:=aC h
 exact aO _ _ _ bh (aT hfr hcl (aW aZ (.bool t12)) bf aX ⟨rfl,rfl⟩)
abbrev rA:ax:=(.rg [(au 13 3),(au 14 4),(aj 15 (.vF 1 (.t 13) (.t 14))),(aj 16 (.ld (.t 15) none)),(aj 17 (.bin .geq (.t 16) (.c (b8 65)))),(au 18 17),(ay 19 (.mv (.t 3)) 18 true),(ay 20 (.mv (.t 4)) 18 true),(ay 21 (.vF 1 (.t 19) (.t 20)) 18 true),(ay 22 (.ld (.t 21) none) 18 true),(ay 23 (.bin .leq (.t 22) (.c (b8 90))) 18 true),(aj 24 (.pick (.t 18) (.t 23) (.c (.bool false))))])
abbrev pL:ax:=(.seq (.seq (.rg [(au 7 4),(au 8 3),(aj 9 (.len (.t 8))),(aj 10 (.bin .lss (.t 7) (.t 9)))]) (.cond (.t 10) .skip (.exit 0))) (.seq (.blk 1 (.seq (.sem (erase rA)) (.cond (.t 24) (.rg [(au 25 3),(au 26 4),(au 27 3),(au 28 4),(aj 29 (.vF 1 (.t 27) (.t 28))),(aj 30 (.ld (.t 29) none)),(aj 31 (.bin .add (.t 30) (.c (b8 32)))),(aj 32 (.vF 1 (.t 25) (.t 26))),(cR (.st (.t 32) (.t 31) 1))]) .skip))) (.rg [(au 11 4),(aj 12 (.bin .add (.t 11) (.c (.int .i64 1)))),(aR 4 12)])))
abbrev Ee:ax:=(.seq (.rg [(aj 2 (.aP (.c (.str []))))]) (.seq (.rg [(au 5 0),(aj 6 (.qT (.t 5))),(aR 3 6)]) (.seq (.seq (.rg [(aj 4 (.aP (.c (.int .i64 0))))]) (.blk 0 (.loop (erase pL)))) (.seq (.rg [(au 33 3),(aj 34 (.jt .bs (.t 33))),(aR 2 34)]) .ret))))
theorem Ef:bN Tryz.prog 27 35 [(.tmp 2)] (erase Ee):=⟨Tryz.f27,_,rfl,by decide,rfl,by kernel_rfl,rfl,rfl⟩
abbrev pM:List Nat:=[0,2,3,4,10,24]
def mH (s1:List UInt8) (i3:Int) (s4:List UInt8):Option (Bool):=
 (Bq s1.length i3).bind fun j6=>
 (s4[j6]?).bind fun x7=>
 (if (decide (65≤x7)) then
  some (decide (x7≤90))
 else
  some false)
def mI (s1:List UInt8):(Int×(List UInt8))→Option (St (List UInt8) (List UInt8) (Int×(List UInt8)))
 |(i3,s4)=>
  (if (decide (i3<(s1.length:Int))) then
   (mH s1 i3 s4).bind fun t9=>
   (if t9 then
    (Bq s1.length i3).bind fun j10=>
    (s4[j10]?).bind fun ga=>
    (Gl s4 j10 (ga+32)).bind fun aY=>some (.cY ((IntKind.wrap .i64 (i3+1)),aY))
   else
    some (.cY ((IntKind.wrap .i64 (i3+1)),s4)))
  else
   some (.dR s4))
def ou (F:Nat) (s1:List UInt8):Option ((List UInt8)):=
 ((iter (mI s1) F (0,s1)).bind fun Kp=>
 match Kp with
 | .inr gb=>
   (sub gb 0 (s1.length:Int)).bind fun kY=>some kY
 | .inl _=>none)
theorem yM {s1:List UInt8} {i3:Int} {s4:List UInt8} {q5:Nat} {H0 H:AH} (hfr:Fr H0 H0.length [] H) (ai:H[q5]? =some (ml b8 s4)) (dL:H0.length≤q5) {K:Exit→Env→AH→Prop} {t8:Bool}
 (h:mH s1 i3 s4=some t8)
 (kn:∀H':AH,Fr H0 H0.length [] H'→H'[q5]? =some (ml b8 s4)→K .normal [(3,(.cz q5 1 0 s1.length)),(4,(.int .i64 i3)),(24,(.bool t8))] H'):
 AX Tryz.prog pM 35 H0.length (erase rA) K [(3,(.cz q5 1 0 s1.length)),(4,(.int .i64 i3))] H:=by
 refine bY fun K' hK=> ?_
 have hle:=hfr.le
 have aM:=aQ ai
 rw [mH.eq_1] at h
 obtain ⟨j6,hy2,h⟩:=aq h
 obtain ⟨x7,hy3,h⟩:=aq h
 refine az (aA hy2 (aA hy3 ai)) ?_
 refine bP h (fun hy4 h=> ?_) fun hy4 h=> ?_
 · refine az (aA hy4 (aA hy2 (aA hy3 ai))) ?_
   obtain rfl:=aC h
   exact hK _ _ _ _ _ aJ ak (kn _ hfr (ai.trans rfl))
 · refine az (aA hy4 ai) ?_
   obtain rfl:=aC h
   exact hK _ _ _ _ _ aJ ak (kn _ hfr (ai.trans rfl))
theorem yN {F:Nat} {i3:Int} {s1:List UInt8} {s4:List UInt8} {q2:Nat} {H0 H:AH} (hfr:Fr H0 H0.length [] H) (ai:H[q2]? =some (ml b8 s4)) (dL:H0.length≤q2) {K:Exit→Env→AH→Prop} {o:((List UInt8))⊕((List UInt8))}
 (h:iter (mI s1) F (i3,s4)=some o)
 (dc:∀o':(List UInt8),o= .inr o'→∀H':AH,Fr H0 H0.length [] H'→H'[q2]? =some (ml b8 o')→K (.exit 0) [(3,(.cz q2 1 0 s1.length))] H'):
 AX Tryz.prog pM 35 H0.length (.loop (erase pL)) K [(3,(.cz q2 1 0 s1.length)),(4,(.int .i64 i3))] H:=by
 refine gL (fun s e H1=>match s with|(i3,s4)=>e=[(3,(.cz q2 1 0 s1.length)),(4,(.int .i64 i3))]∧Fr H0 H0.length [] H1∧H1[q2]? =some (ml b8 s4)) h ⟨rfl,hfr,ai⟩ ?_
 rintro K' ⟨i3,s4⟩ st e H ⟨rfl,hfr,ai⟩ h hN hB hR hX
 have hle:=hfr.le
 have aM:=aQ ai
 rw [mI.eq_1] at h
 refine az ai ?_
 refine bk h (fun hy1 h=> ?_) fun hy1 h=> ?_
 · refine az ai ?_
   obtain ⟨t9,bJ,h⟩:=aq h
   refine bz ak (yM (q5:=q2) hfr (ai.trans rfl) bX bJ ?_)
   intro H hfr ai
   have hle:=hfr.le
   have aM:=aQ ai
   refine az ai ?_
   refine bk h (fun b6 h=> ?_) fun b6 h=> ?_
   · obtain ⟨j10,cC,h⟩:=aq h
     obtain ⟨ga,cr,h⟩:=aq h
     obtain ⟨aY,cP,h⟩:=aq h
     refine az (aA cC (aA cr (aA cC (aA cP ai)))) ?_
     obtain rfl:=aC h
     exact hN _ rfl _ _ _ _ aJ ak ⟨rfl,(bW _ hfr),cA⟩
   · refine az ai ?_
     obtain rfl:=aC h
     exact hN _ rfl _ _ _ _ aJ ak ⟨rfl,hfr,(ai.trans rfl)⟩
 · refine az ai ?_
   obtain rfl:=aC h
   exact hX _ _ _ _ _ dm aJ ak (dc _ (hB _ rfl) _ hfr (ai.trans rfl))
theorem vv {F:Nat} {s1:List UInt8} {H0:AH} {aS:List UInt8} (h:ou F s1=some aS):
 aG Tryz.prog 27 [(.str s1)] H0 fun v H'=>v=(.str aS)∧H'=H0:=by
 refine l7 Ef pM [] fun hcl K0 aO H hH hfr=> ?_
 clear hH
 have hle:=hfr.le
 rw [ou.eq_1] at h
 refine cM ?_
 obtain ⟨q2,jX⟩:∃q:Nat,H.length=q:=⟨_,rfl⟩
 try rw [jX]
 obtain ⟨Kp,ck,h⟩:=aq h
 refine bz ak (yN (q2:=q2) (Fr.app hfr) uC bX ck ?_)
 · rintro gb rfl H hfr ai
   try dsimp only at h ai
   have hle:=hfr.le
   have aM:=aQ ai
   refine cM ?_
   obtain ⟨kY,cx,h⟩:=aq h
   refine az (aA cx ai) ?_
   obtain rfl:=aC h
   exact aO _ _ _ bh (aT hfr hcl (aW aZ (.str kY)) bf aX ⟨rfl,rfl⟩)
abbrev rB:ax:=(.seq (.seq (.rg [(au 6 4),(au 7 3),(aj 8 (.len (.t 7))),(aj 9 (.bin .lss (.t 6) (.t 8)))]) (.cond (.t 9) .skip (.exit 0))) (.seq (.blk 1 (.seq (.rg [(au 12 3),(au 13 4),(aj 14 (.vF 1 (.t 12) (.t 13))),(aj 15 (.ld (.t 14) none)),(au 16 0),(aj 17 (.bin .eql (.t 15) (.t 16)))]) (.cond (.t 17) (.seq (.rg [(au 18 4),(aR 2 18)]) .ret) .skip))) (.rg [(au 10 4),(aj 11 (.bin .add (.t 10) (.c (.int .i64 1)))),(aR 4 11)])))
abbrev FR:ax:=(.seq (.rg [(aj 2 (.aP (.c (.int .i64 0))))]) (.seq (.rg [(aj 5 (.qD 1 [(.c (.str [])),(.c (.str [104,101,108,111])),(.c (.str [101,104,108,111])),(.c (.str [109,97,105,108])),(.c (.str [114,99,112,116])),(.c (.str [100,97,116,97])),(.c (.str [114,115,101,116])),(.c (.str [110,111,111,112])),(.c (.str [113,117,105,116])),(.c (.str [118,114,102,121]))])),(aR 3 5)]) (.seq (.seq (.rg [(aj 4 (.aP (.c (.int .i64 1))))]) (.blk 0 (.loop (erase rB)))) (.seq (.rg [(aj 2 (.aP (.c (.int .i64 0))))]) .ret))))
theorem FT:bN Tryz.prog 26 19 [(.tmp 2)] (erase FR):=⟨Tryz.f26,_,rfl,by decide,rfl,by kernel_rfl,rfl,rfl⟩
abbrev yo:List Nat:=[0,2,3,4,9,17]
def pN (w1:List UInt8):(Int×Int)→Option (St Int Unit (Int×Int))
 |(t2,i3)=>
  (if (decide (i3<((10:Nat):Int))) then
   (idx ([([]:List UInt8),([104,101,108,111]:List UInt8),([101,104,108,111]:List UInt8),([109,97,105,108]:List UInt8),([114,99,112,116]:List UInt8),([100,97,116,97]:List UInt8),([114,115,101,116]:List UInt8),([110,111,111,112]:List UInt8),([113,117,105,116]:List UInt8),([118,114,102,121]:List UInt8)]:List (List UInt8)) i3).bind fun x4=>
   (if (decide (x4=w1)) then
    some (.ret i3)
   else
    some (.cY (t2,(IntKind.wrap .i64 (i3+1)))))
  else
   some (.dR ()))
def w9 (F:Nat) (w1:List UInt8):Option (Int):=
 ((iter (pN w1) F (0,1)).bind fun o7=>
 match o7 with
 | .inr ()=>
   some 0
 | .inl r6=>
   some r6)
theorem Ay {F:Nat} {i3:Int} {w1:List UInt8} {t2:Int} {H:AH} {K:Exit→Env→AH→Prop} {o:(Int)⊕(Unit)}
 (h:iter (pN w1) F (t2,i3)=some o)
 (dc:∀o':Unit,o= .inr o'→K (.exit 0) [] H)
 (kr:∀o':Int,o= .inl o'→K .ret [(2,(.int .i64 o'))] H):
 AX Tryz.prog yo 19 H.length (.loop (erase rB)) K [(0,(.str w1)),(2,(.int .i64 t2)),(3,(.sl .ex 1 [(.str ([]:List UInt8)),(.str ([104,101,108,111]:List UInt8)),(.str ([101,104,108,111]:List UInt8)),(.str ([109,97,105,108]:List UInt8)),(.str ([114,99,112,116]:List UInt8)),(.str ([100,97,116,97]:List UInt8)),(.str ([114,115,101,116]:List UInt8)),(.str ([110,111,111,112]:List UInt8)),(.str ([113,117,105,116]:List UInt8)),(.str ([118,114,102,121]:List UInt8))])),(4,(.int .i64 i3))] H:=by
 refine gL (fun s e H1=>match s with|(t2,i3)=>e=[(0,(.str w1)),(2,(.int .i64 t2)),(3,(.sl .ex 1 [(.str ([]:List UInt8)),(.str ([104,101,108,111]:List UInt8)),(.str ([101,104,108,111]:List UInt8)),(.str ([109,97,105,108]:List UInt8)),(.str ([114,99,112,116]:List UInt8)),(.str ([100,97,116,97]:List UInt8)),(.str ([114,115,101,116]:List UInt8)),(.str ([110,111,111,112]:List UInt8)),(.str ([113,117,105,116]:List UInt8)),(.str ([118,114,102,121]:List UInt8))])),(4,(.int .i64 i3))]∧H1=H) h ⟨rfl,rfl⟩ ?_
 rintro K' ⟨t2,i3⟩ st e H ⟨rfl,rfl⟩ h hN hB hR hX
 rw [pN.eq_1] at h
 refine aE ?_
 refine bk h (fun hy1 h=> ?_) fun hy1 h=> ?_
 · obtain ⟨x4,hy2,h⟩:=aq h
   have hy3:idx [(.str ([]:List UInt8)),(.str ([104,101,108,111]:List UInt8)),(.str ([101,104,108,111]:List UInt8)),(.str ([109,97,105,108]:List UInt8)),(.str ([114,99,112,116]:List UInt8)),(.str ([100,97,116,97]:List UInt8)),(.str ([114,115,101,116]:List UInt8)),(.str ([110,111,111,112]:List UInt8)),(.str ([113,117,105,116]:List UInt8)),(.str ([118,114,102,121]:List UInt8))] i3=some (AV.str x4):=Nf (f:=AV.str) hy2
   refine aV hy3 ?_
   refine bk h (fun hy4 h=> ?_) fun hy4 h=> ?_
   · refine aE ?_
     obtain rfl:=aC h
     exact hX _ _ _ _ _ dm aJ ak (kr _ (hR _ rfl))
   · refine aE ?_
     obtain rfl:=aC h
     exact hN _ rfl _ _ _ _ aJ ak ⟨rfl,rfl⟩
 · refine aE ?_
   obtain rfl:=aC h
   exact hX _ _ _ _ _ dm WE.nil ak (dc _ (hB _ rfl))
theorem Eg {F:Nat} {w1:List UInt8} {H0:AH} {aS:Int} (h:w9 F w1=some aS):
 aG Tryz.prog 26 [(.str w1)] H0 fun v H'=>v=(.int .i64 aS)∧H'=H0:=by
 refine fF FT yo fun hcl K0 aO=> ?_
 rw [w9.eq_1] at h
 refine aE ?_
 obtain ⟨o7,bJ,h⟩:=aq h
 refine bz ak (Ay bJ ?_ ?_)
 · rintro ⟨⟩ rfl
   try dsimp only at h
   refine aE ?_
   obtain rfl:=aC h
   exact aO _ _ _ bh (aK hcl (aW aZ (.int .i64 0)) bf aX ⟨rfl,rfl⟩)
 · rintro r6 rfl
   try dsimp only at h
   refine aE ?_
   obtain rfl:=aC h
   exact aO _ _ _ bh (aK hcl (aW aZ (.int .i64 r6)) bf aX ⟨rfl,rfl⟩)
abbrev rC:ax:=(.rg [(au 3 0),(aj 4 (.bin .geq (.t 3) (.c (b8 48)))),(au 5 4),(ay 6 (.mv (.t 0)) 5 true),(ay 7 (.bin .leq (.t 6) (.c (b8 57))) 5 true),(aj 8 (.pick (.t 5) (.t 7) (.c (.bool false)))),(aR 2 8)])
abbrev Eh:ax:=(.seq (.rg [(aj 2 (.aP (.c (.bool false))))]) (.seq (.sem (erase rC)) .ret))
theorem Ei:bN Tryz.prog 74 9 [(.tmp 2)] (erase Eh):=⟨Tryz.f74,_,rfl,by decide,rfl,by kernel_rfl,rfl,rfl⟩
abbrev xb:List Nat:=[0,2]
def e7 (c1:UInt8):Option (Bool):=
 some ((decide (48≤c1))&&(decide (c1≤57)))
theorem yO {c1:UInt8} {H:AH} {K:Exit→Env→AH→Prop}
 (kn:K .normal [(2,(.bool ((decide (48≤c1))&&(decide (c1≤57)))))] H):
 AX Tryz.prog xb 9 H.length (erase rC) K [(0,(b8 c1)),(2,(.bool false))] H:=by
 refine bY fun K' hK=> ?_
 refine aE ?_
 refine gK (fun hy1=> ?_) fun hy1=> ?_
 · refine aV hy1 ?_
   exact hK _ _ _ _ _ (dy hy1) ak kn
 · refine aV hy1 ?_
   exact hK _ _ _ _ _ (dy hy1) ak kn
theorem hO {c1:UInt8} {H0:AH} {aS:Bool} (h:e7 c1=some aS):
 aG Tryz.prog 74 [(b8 c1)] H0 fun v H'=>v=(.bool aS)∧H'=H0:=by
 refine fF Ei xb fun hcl K0 aO=> ?_
 rw [e7.eq_1] at h
 refine aE ?_
 refine bz ak (yO (c1:=c1) ?_)
 refine aE ?_
 obtain rfl:=aC h
 exact aO _ _ _ bh (aK hcl (aW aZ (.bool ((decide (48≤c1))&&(decide (c1≤57))))) bf aX ⟨rfl,rfl⟩)
abbrev rD:ax:=(.rg [(au 5 0),(aj 6 (.bin .eql (.t 5) (.c (.str [])))),(au 7 6),(ay 8 (.mv (.t 0)) 7 false),(ay 9 (.lens (.t 8)) 7 false),(ay 10 (.bin .gtr (.t 9) (.c (.int .i64 3))) 7 false),(aj 11 (.pick (.t 7) (.c (.bool true)) (.t 10))),(au 12 11),(ay 13 (.mv (.t 0)) 12 false),(ay 14 (.ixs (.t 13) (.c (.int .i64 0))) 12 false),(ay 15 (.bin .eql (.t 14) (.c (b8 48))) 12 false),(ay 16 (.mv (.t 15)) 12 false),(ay 17 (.mv (.t 0)) 16 true),(ay 18 (.lens (.t 17)) 16 true),(ay 19 (.bin .gtr (.t 18) (.c (.int .i64 1))) 16 true),(ay 20 (.pick (.t 16) (.t 19) (.c (.bool false))) 12 false),(aj 21 (.pick (.t 12) (.c (.bool true)) (.t 20)))])
abbrev pO:ax:=(.seq (.seq (.rg [(au 22 4),(au 23 0),(aj 24 (.lens (.t 23))),(aj 25 (.bin .lss (.t 22) (.t 24)))]) (.cond (.t 25) .skip (.exit 0))) (.seq (.blk 1 (.seq (.seq (.rg [(au 28 0),(au 29 4),(aj 30 (.ixs (.t 28) (.t 29))),(aj 31 (.call (.c (.fn 74 [])) [(.t 30)])),(aj 32 (.un .not (.t 31)))]) (.cond (.t 32) (.seq (.rg [(aj 2 (.aP (.c (.bool false))))]) .ret) .skip)) (.rg [(au 33 3),(aj 34 (.bin .mul (.c (.int .i64 10)) (.t 33))),(au 35 0),(au 36 4),(aj 37 (.ixs (.t 35) (.t 36))),(aj 38 (.bin .sub (.t 37) (.c (b8 48)))),(aj 39 (.jt (.int .i64) (.t 38))),(aj 40 (.bin .add (.t 34) (.t 39))),(aR 3 40)]))) (.rg [(au 26 4),(aj 27 (.bin .add (.t 26) (.c (.int .i64 1)))),(aR 4 27)])))
abbrev Ej:ax:=(.seq (.rg [(aj 2 (.aP (.c (.bool false))))]) (.seq (.seq (.sem (erase rD)) (.cond (.t 21) (.seq (.rg [(aj 2 (.aP (.c (.bool false))))]) .ret) .skip)) (.seq (.rg [(aj 3 (.aP (.c (.int .i64 0))))]) (.seq (.seq (.rg [(aj 4 (.aP (.c (.int .i64 0))))]) (.blk 0 (.loop (erase pO)))) (.seq (.rg [(au 41 3),(aj 42 (.bin .leq (.t 41) (.c (.int .i64 255)))),(aR 2 42)]) .ret)))))
theorem Ek:bN Tryz.prog 48 43 [(.tmp 2)] (erase Ej):=⟨Tryz.f48,_,rfl,by decide,rfl,by kernel_rfl,rfl,rfl⟩
abbrev pP:List Nat:=[0,2,3,4,21,25,32]
def eO (s1:List UInt8):Option (Bool):=
 (if (decide (s1=([]:List UInt8))) then
  some true
 else
  (if (decide (3<(s1.length:Int))) then
   some true
  else
   (idx s1 0).bind fun x2=>
   (if (decide (x2=48)) then
    some (decide (1<(s1.length:Int)))
   else
    some false)))
def fL (s1:List UInt8):(Int×Int)→Option (St Bool Int (Int×Int))
 |(Kz,i6)=>
  (if (decide (i6<(s1.length:Int))) then
   (idx s1 i6).bind fun x7=>
   (e7 x7).bind fun r8=>
   (if (!r8) then
    some (.ret false)
   else
    some (.cY ((IntKind.wrap .i64 ((IntKind.wrap .i64 (10*Kz))+(IntKind.wrap .i64 ((x7 - 48).toNat:Int)))),(IntKind.wrap .i64 (i6+1)))))
  else
   some (.dR Kz))
def eI (F:Nat) (s1:List UInt8):Option (Bool):=
 (eO s1).bind fun t4=>
 (if t4 then
  some false
 else
  ((iter (fL s1) F (0,0)).bind fun UQ=>
  match UQ with
  | .inr tM=>
    some (decide (tM≤255))
  | .inl iz=>
    some iz))
theorem yP {s1:List UInt8} {H:AH} {K:Exit→Env→AH→Prop} {t3:Bool}
 (h:eO s1=some t3)
 (kn:K .normal [(0,(.str s1)),(21,(.bool t3))] H):
 AX Tryz.prog pP 43 H.length (erase rD) K [(0,(.str s1))] H:=by
 refine bY fun K' hK=> ?_
 rw [eO.eq_1] at h
 refine aE ?_
 refine bP h (fun hy1 h=> ?_) fun hy1 h=> ?_
 · refine aV hy1 ?_
   obtain rfl:=aC h
   exact hK _ _ _ _ _ aJ ak kn
 · refine aV hy1 ?_
   refine bP h (fun hy2 h=> ?_) fun hy2 h=> ?_
   · refine aV hy2 ?_
     obtain rfl:=aC h
     exact hK _ _ _ _ _ aJ ak kn
   · obtain ⟨x2,hy3,h⟩:=aq h
     refine aV (aA hy2 hy3) ?_
     refine bP h (fun hy4 h=> ?_) fun hy4 h=> ?_
     · refine aV hy4 ?_
       obtain rfl:=aC h
       exact hK _ _ _ _ _ aJ ak kn
     · refine aV hy4 ?_
       obtain rfl:=aC h
       exact hK _ _ _ _ _ aJ ak kn
theorem yQ {F:Nat} {i6:Int} {s1:List UInt8} {Kz:Int} {H:AH} {K:Exit→Env→AH→Prop} {o:(Bool)⊕(Int)}
 (h:iter (fL s1) F (Kz,i6)=some o)
 (dc:∀o':Int,o= .inr o'→K (.exit 0) [(3,(.int .i64 o'))] H)
 (kr:∀o':Bool,o= .inl o'→K .ret [(2,(.bool o'))] H):
 AX Tryz.prog pP 43 H.length (.loop (erase pO)) K [(0,(.str s1)),(3,(.int .i64 Kz)),(4,(.int .i64 i6))] H:=by
 refine gL (fun s e H1=>match s with|(Kz,i6)=>e=[(0,(.str s1)),(3,(.int .i64 Kz)),(4,(.int .i64 i6))]∧H1=H) h ⟨rfl,rfl⟩ ?_
 rintro K' ⟨Kz,i6⟩ st e H ⟨rfl,rfl⟩ h hN hB hR hX
 rw [fL.eq_1] at h
 refine aE ?_
 refine bk h (fun cC h=> ?_) fun cC h=> ?_
 · obtain ⟨x7,cr,h⟩:=aq h
   refine aV cr ?_
   obtain ⟨r8,cP,h⟩:=aq h
   refine bC ak (hO cP) ?_
   refine aE ?_
   refine bk h (fun ck h=> ?_) fun ck h=> ?_
   · refine aE ?_
     obtain rfl:=aC h
     exact hX _ _ _ _ _ dm aJ ak (kr _ (hR _ rfl))
   · refine aV cr ?_
     obtain rfl:=aC h
     exact hN _ rfl _ _ _ _ aJ ak ⟨rfl,rfl⟩
 · refine aE ?_
   obtain rfl:=aC h
   exact hX _ _ _ _ _ dm aJ ak (dc _ (hB _ rfl))
theorem CV {F:Nat} {s1:List UInt8} {H0:AH} {aS:Bool} (h:eI F s1=some aS):
 aG Tryz.prog 48 [(.str s1)] H0 fun v H'=>v=(.bool aS)∧H'=H0:=by
 refine fF Ek pP fun hcl K0 aO=> ?_
 rw [eI.eq_1] at h
 refine aE ?_
 obtain ⟨t4,bJ,h⟩:=aq h
 refine bz ak (yP bJ ?_)
 refine aE ?_
 refine bk h (fun b6 h=> ?_) fun b6 h=> ?_
 · refine aE ?_
   obtain rfl:=aC h
   exact aO _ _ _ bh (aK hcl (aW aZ (.bool false)) bf aX ⟨rfl,rfl⟩)
 · refine aE ?_
   obtain ⟨UQ,cx,h⟩:=aq h
   refine bz ak (yQ cx ?_ ?_)
   · rintro tM rfl
     try dsimp only at h
     refine aE ?_
     obtain rfl:=aC h
     exact aO _ _ _ bh (aK hcl (aW aZ (.bool (decide (tM≤255)))) bf aX ⟨rfl,rfl⟩)
   · rintro iz rfl
     try dsimp only at h
     refine aE ?_
     obtain rfl:=aC h
     exact aO _ _ _ bh (aK hcl (aW aZ (.bool iz)) bf aX ⟨rfl,rfl⟩)
abbrev pQ:ax:=(.rg [(au 3 0),(aj 4 (.bin .geq (.t 3) (.c (b8 65)))),(au 5 4),(ay 6 (.mv (.t 0)) 5 true),(ay 7 (.bin .leq (.t 6) (.c (b8 90))) 5 true),(aj 8 (.pick (.t 5) (.t 7) (.c (.bool false)))),(au 9 8),(ay 10 (.mv (.t 0)) 9 false),(ay 11 (.bin .geq (.t 10) (.c (b8 97))) 9 false),(ay 12 (.mv (.t 11)) 9 false),(ay 13 (.mv (.t 0)) 12 true),(ay 14 (.bin .leq (.t 13) (.c (b8 122))) 12 true),(ay 15 (.pick (.t 12) (.t 14) (.c (.bool false))) 9 false),(aj 16 (.pick (.t 9) (.c (.bool true)) (.t 15))),(aR 2 16)])
abbrev CW:ax:=(.seq (.rg [(aj 2 (.aP (.c (.bool false))))]) (.seq (.sem (erase pQ)) .ret))
theorem CX:bN Tryz.prog 75 17 [(.tmp 2)] (erase CW):=⟨Tryz.f75,_,rfl,by decide,rfl,by kernel_rfl,rfl,rfl⟩
abbrev vw:List Nat:=[0,2]
def fj (c1:UInt8):Option (Bool):=
 some (((decide (65≤c1))&&(decide (c1≤90)))||((decide (97≤c1))&&(decide (c1≤122))))
theorem xR {c1:UInt8} {H:AH} {K:Exit→Env→AH→Prop}
 (kn:K .normal [(2,(.bool (((decide (65≤c1))&&(decide (c1≤90)))||((decide (97≤c1))&&(decide (c1≤122))))))] H):
 AX Tryz.prog vw 17 H.length (erase pQ) K [(0,(b8 c1)),(2,(.bool false))] H:=by
 refine bY fun K' hK=> ?_
 refine aE ?_
 refine gK (fun hy1=> ?_) fun hy1=> ?_
 · refine aV hy1 ?_
   refine gK (fun hy2=> ?_) fun hy2=> ?_
   · refine aV hy2 ?_
     exact hK _ _ _ _ _ (dy (aA hy1 hy2)) ak kn
   · refine aV hy2 ?_
     refine gK (fun hy3=> ?_) fun hy3=> ?_
     · refine aV hy3 ?_
       exact hK _ _ _ _ _ (dy (aA hy1 (aA hy2 hy3))) ak kn
     · refine aV hy3 ?_
       exact hK _ _ _ _ _ (dy (aA hy1 (aA hy2 hy3))) ak kn
 · refine aV hy1 ?_
   refine gK (fun hy4=> ?_) fun hy4=> ?_
   · refine aV hy4 ?_
     exact hK _ _ _ _ _ (dy (aA hy1 hy4)) ak kn
   · refine aV hy4 ?_
     exact hK _ _ _ _ _ (dy (aA hy1 hy4)) ak kn
theorem jf {c1:UInt8} {H0:AH} {aS:Bool} (h:fj c1=some aS):
 aG Tryz.prog 75 [(b8 c1)] H0 fun v H'=>v=(.bool aS)∧H'=H0:=by
 refine fF CX vw fun hcl K0 aO=> ?_
 rw [fj.eq_1] at h
 refine aE ?_
 refine bz ak (xR (c1:=c1) ?_)
 refine aE ?_
 obtain rfl:=aC h
 exact aO _ _ _ bh (aK hcl (aW aZ (.bool (((decide (65≤c1))&&(decide (c1≤90)))||((decide (97≤c1))&&(decide (c1≤122)))))) bf aX ⟨rfl,rfl⟩)
abbrev rE:ax:=(.rg [(au 4 0),(aj 5 (.bin .eql (.t 4) (.c (.str [])))),(au 6 5),(ay 7 (.mv (.t 0)) 6 false),(ay 8 (.lens (.t 7)) 6 false),(ay 9 (.bin .gtr (.t 8) (.c (.int .i64 63))) 6 false),(aj 10 (.pick (.t 6) (.c (.bool true)) (.t 9))),(au 11 10),(ay 12 (.mv (.t 0)) 11 false),(ay 13 (.ixs (.t 12) (.c (.int .i64 0))) 11 false),(ay 14 (.bin .eql (.t 13) (.c (b8 45))) 11 false),(aj 15 (.pick (.t 11) (.c (.bool true)) (.t 14))),(au 16 15),(ay 17 (.mv (.t 0)) 16 false),(ay 18 (.mv (.t 0)) 16 false),(ay 19 (.lens (.t 18)) 16 false),(ay 20 (.bin .sub (.t 19) (.c (.int .i64 1))) 16 false),(ay 21 (.ixs (.t 17) (.t 20)) 16 false),(ay 22 (.bin .eql (.t 21) (.c (b8 45))) 16 false),(aj 23 (.pick (.t 16) (.c (.bool true)) (.t 22)))])
abbrev rF:ax:=(.rg [(au 30 0),(au 31 3),(aj 32 (.ixs (.t 30) (.t 31))),(aj 33 (.call (.c (.fn 75 [])) [(.t 32)])),(aj 34 (.un .not (.t 33))),(au 35 34),(ay 36 (.mv (.t 0)) 35 true),(ay 37 (.mv (.t 3)) 35 true),(ay 38 (.ixs (.t 36) (.t 37)) 35 true),(ay 39 (.call (.c (.fn 74 [])) [(.t 38)]) 35 true),(ay 40 (.un .not (.t 39)) 35 true),(aj 41 (.pick (.t 35) (.t 40) (.c (.bool false)))),(au 42 41),(ay 43 (.mv (.t 0)) 42 true),(ay 44 (.mv (.t 3)) 42 true),(ay 45 (.ixs (.t 43) (.t 44)) 42 true),(ay 46 (.bin .neq (.t 45) (.c (b8 45))) 42 true),(aj 47 (.pick (.t 42) (.t 46) (.c (.bool false))))])
abbrev pR:ax:=(.seq (.seq (.rg [(au 24 3),(au 25 0),(aj 26 (.lens (.t 25))),(aj 27 (.bin .lss (.t 24) (.t 26)))]) (.cond (.t 27) .skip (.exit 0))) (.seq (.blk 1 (.seq (.sem (erase rF)) (.cond (.t 47) (.seq (.rg [(aj 2 (.aP (.c (.bool false))))]) .ret) .skip))) (.rg [(au 28 3),(aj 29 (.bin .add (.t 28) (.c (.int .i64 1)))),(aR 3 29)])))
abbrev El:ax:=(.seq (.rg [(aj 2 (.aP (.c (.bool false))))]) (.seq (.seq (.sem (erase rE)) (.cond (.t 23) (.seq (.rg [(aj 2 (.aP (.c (.bool false))))]) .ret) .skip)) (.seq (.seq (.rg [(aj 3 (.aP (.c (.int .i64 0))))]) (.blk 0 (.loop (erase pR)))) (.seq (.rg [(aj 2 (.aP (.c (.bool true))))]) .ret))))
theorem Em:bN Tryz.prog 49 48 [(.tmp 2)] (erase El):=⟨Tryz.f49,_,rfl,by decide,rfl,by kernel_rfl,rfl,rfl⟩
abbrev kK:List Nat:=[0,2,3,23,27,47]
def jR (s1:List UInt8):Option (Bool):=
 (if (decide (s1=([]:List UInt8))) then
  some true
 else
  (if (decide (63<(s1.length:Int))) then
   some true
  else
   (idx s1 0).bind fun x2=>
   (if (decide (x2=45)) then
    some true
   else
    (idx s1 (IntKind.wrap .i64 ((s1.length:Int) - 1))).bind fun x3=>some (decide (x3=45)))))
def ia (s1:List UInt8) (i6:Int):Option (Bool):=
 (idx s1 i6).bind fun x7=>
 (fj x7).bind fun r8=>
 (if (!r8) then
  (e7 x7).bind fun r9=>(if (!r9) then
   some (!decide (x7=45))
  else
   some false)
 else
  some false)
def eP (s1:List UInt8):Int→Option (St Bool Unit Int)
 |i6=>
  (if (decide (i6<(s1.length:Int))) then
   (ia s1 i6).bind fun t11=>
   (if t11 then
    some (.ret false)
   else
    some (.cY (IntKind.wrap .i64 (i6+1))))
  else
   some (.dR ()))
def kL (F:Nat) (s1:List UInt8):Option (Bool):=
 (jR s1).bind fun t5=>
 (if t5 then
  some false
 else
  ((iter (eP s1) F 0).bind fun o14=>
  match o14 with
  | .inr ()=>
    some true
  | .inl kX=>
    some kX))
theorem yR {s1:List UInt8} {H:AH} {K:Exit→Env→AH→Prop} {t4:Bool}
 (h:jR s1=some t4)
 (kn:K .normal [(0,(.str s1)),(23,(.bool t4))] H):
 AX Tryz.prog kK 48 H.length (erase rE) K [(0,(.str s1))] H:=by
 refine bY fun K' hK=> ?_
 rw [jR.eq_1] at h
 refine aE ?_
 refine bP h (fun hy1 h=> ?_) fun hy1 h=> ?_
 · refine aV hy1 ?_
   obtain rfl:=aC h
   exact hK _ _ _ _ _ aJ ak kn
 · refine aV hy1 ?_
   refine bP h (fun hy2 h=> ?_) fun hy2 h=> ?_
   · refine aV hy2 ?_
     obtain rfl:=aC h
     exact hK _ _ _ _ _ aJ ak kn
   · obtain ⟨x2,hy3,h⟩:=aq h
     refine aV (aA hy2 hy3) ?_
     refine bP h (fun hy4 h=> ?_) fun hy4 h=> ?_
     · refine aV hy4 ?_
       obtain rfl:=aC h
       exact hK _ _ _ _ _ aJ ak kn
     · obtain ⟨x3,bJ,h⟩:=aq h
       refine aV (aA hy4 bJ) ?_
       obtain rfl:=aC h
       exact hK _ _ _ _ _ aJ ak kn
theorem yS {s1:List UInt8} {i6:Int} {H:AH} {K:Exit→Env→AH→Prop} {t10:Bool}
 (h:ia s1 i6=some t10)
 (kn:K .normal [(0,(.str s1)),(3,(.int .i64 i6)),(47,(.bool t10))] H):
 AX Tryz.prog kK 48 H.length (erase rF) K [(0,(.str s1)),(3,(.int .i64 i6))] H:=by
 refine bY fun K' hK=> ?_
 rw [ia.eq_1] at h
 obtain ⟨x7,cP,h⟩:=aq h
 refine aV cP ?_
 obtain ⟨r8,ck,h⟩:=aq h
 refine bC ak (jf ck) ?_
 refine aE ?_
 refine bP h (fun cx h=> ?_) fun cx h=> ?_
 · refine aV (aA cx cP) ?_
   obtain ⟨r9,cN,h⟩:=aq h
   refine bC ak (hO cN) ?_
   refine aE ?_
   refine bP h (fun cH h=> ?_) fun cH h=> ?_
   · refine aV (aA cH cP) ?_
     obtain rfl:=aC h
     exact hK _ _ _ _ _ aJ ak kn
   · refine aV cH ?_
     obtain rfl:=aC h
     exact hK _ _ _ _ _ aJ ak kn
 · refine aV cx ?_
   obtain rfl:=aC h
   exact hK _ _ _ _ _ aJ ak kn
theorem yT {F:Nat} {i6:Int} {s1:List UInt8} {H:AH} {K:Exit→Env→AH→Prop} {o:(Bool)⊕(Unit)}
 (h:iter (eP s1) F i6=some o)
 (dc:∀o':Unit,o= .inr o'→K (.exit 0) [] H)
 (kr:∀o':Bool,o= .inl o'→K .ret [(2,(.bool o'))] H):
 AX Tryz.prog kK 48 H.length (.loop (erase pR)) K [(0,(.str s1)),(3,(.int .i64 i6))] H:=by
 refine gL (fun s e H1=>match s with|i6=>e=[(0,(.str s1)),(3,(.int .i64 i6))]∧H1=H) h ⟨rfl,rfl⟩ ?_
 rintro K' i6 st e H ⟨rfl,rfl⟩ h hN hB hR hX
 rw [eP.eq_1] at h
 refine aE ?_
 refine bk h (fun cr h=> ?_) fun cr h=> ?_
 · refine aE ?_
   obtain ⟨t11,dV,h⟩:=aq h
   refine bz ak (yS dV ?_)
   refine aE ?_
   refine bk h (fun eT h=> ?_) fun eT h=> ?_
   · refine aE ?_
     obtain rfl:=aC h
     exact hX _ _ _ _ _ dm aJ ak (kr _ (hR _ rfl))
   · refine aE ?_
     obtain rfl:=aC h
     exact hN _ rfl _ _ _ _ aJ ak ⟨rfl,rfl⟩
 · refine aE ?_
   obtain rfl:=aC h
   exact hX _ _ _ _ _ dm WE.nil ak (dc _ (hB _ rfl))
theorem CY {F:Nat} {s1:List UInt8} {H0:AH} {aS:Bool} (h:kL F s1=some aS):
 aG Tryz.prog 49 [(.str s1)] H0 fun v H'=>v=(.bool aS)∧H'=H0:=by
 refine fF Em kK fun hcl K0 aO=> ?_
 rw [kL.eq_1] at h
 refine aE ?_
 obtain ⟨t5,b6,h⟩:=aq h
 refine bz ak (yR b6 ?_)
 refine aE ?_
 refine bk h (fun cC h=> ?_) fun cC h=> ?_
 · refine aE ?_
   obtain rfl:=aC h
   exact aO _ _ _ bh (aK hcl (aW aZ (.bool false)) bf aX ⟨rfl,rfl⟩)
 · refine aE ?_
   obtain ⟨o14,ei,h⟩:=aq h
   refine bz ak (yT ei ?_ ?_)
   · rintro ⟨⟩ rfl
     try dsimp only at h
     refine aE ?_
     obtain rfl:=aC h
     exact aO _ _ _ bh (aK hcl (aW aZ (.bool true)) bf aX ⟨rfl,rfl⟩)
   · rintro kX rfl
     try dsimp only at h
     refine aE ?_
     obtain rfl:=aC h
     exact aO _ _ _ bh (aK hcl (aW aZ (.bool kX)) bf aX ⟨rfl,rfl⟩)
abbrev pS:ax:=(.rg [(au 7 0),(aj 8 (.bin .eql (.t 7) (.c (.str [])))),(au 9 8),(ay 10 (.mv (.t 0)) 9 false),(ay 11 (.lens (.t 10)) 9 false),(ay 12 (.bin .gtr (.t 11) (.c (.int .i64 255))) 9 false),(aj 13 (.pick (.t 9) (.c (.bool true)) (.t 12)))])
abbrev pT:ax:=(.rg [(au 18 0),(au 19 0),(aj 20 (.lens (.t 19))),(aj 21 (.bin .sub (.t 20) (.c (.int .i64 1)))),(aj 22 (.ixs (.t 18) (.t 21))),(aj 23 (.bin .neq (.t 22) (.c (b8 93)))),(au 24 23),(ay 25 (.mv (.t 0)) 24 false),(ay 26 (.lens (.t 25)) 24 false),(ay 27 (.bin .lss (.t 26) (.c (.int .i64 2))) 24 false),(aj 28 (.pick (.t 24) (.c (.bool true)) (.t 27)))])
abbrev pU:ax:=(.cond (.t 17) (.seq (.seq (.sem (erase pT)) (.cond (.t 28) (.seq (.rg [(aj 2 (.aP (.c (.bool false))))]) .ret) .skip)) (.rg [(au 29 0),(au 30 0),(aj 31 (.lens (.t 30))),(aj 32 (.bin .sub (.t 31) (.c (.int .i64 1)))),(aj 33 (.gR (.t 29) (some (.c (.int .i64 1))) (some (.t 32)))),(aR 0 33)])) .skip)
abbrev pV:ax:=(.rg [(au 40 6),(au 41 0),(aj 42 (.lens (.t 41))),(aj 43 (.bin .lss (.t 40) (.t 42))),(au 44 43),(ay 45 (.mv (.t 0)) 44 true),(ay 46 (.mv (.t 6)) 44 true),(ay 47 (.ixs (.t 45) (.t 46)) 44 true),(ay 48 (.bin .neq (.t 47) (.c (b8 46))) 44 true),(aj 49 (.pick (.t 44) (.t 48) (.c (.bool false))))])
abbrev pW:ax:=(.rg [(au 50 3),(au 51 50),(ay 52 (.mv (.t 0)) 51 true),(ay 53 (.mv (.t 4)) 51 true),(ay 54 (.mv (.t 6)) 51 true),(ay 55 (.gR (.t 52) (some (.t 53)) (some (.t 54))) 51 true),(ay 56 (.call (.c (.fn 48 [])) [(.t 55)]) 51 true),(ay 57 (.un .not (.t 56)) 51 true),(aj 58 (.pick (.t 51) (.t 57) (.c (.bool false)))),(au 59 58),(ay 60 (.mv (.t 3)) 59 false),(ay 61 (.un .not (.t 60)) 59 false),(ay 62 (.mv (.t 61)) 59 false),(ay 63 (.mv (.t 0)) 62 true),(ay 64 (.mv (.t 4)) 62 true),(ay 65 (.mv (.t 6)) 62 true),(ay 66 (.gR (.t 63) (some (.t 64)) (some (.t 65))) 62 true),(ay 67 (.call (.c (.fn 49 [])) [(.t 66)]) 62 true),(ay 68 (.un .not (.t 67)) 62 true),(ay 69 (.pick (.t 62) (.t 68) (.c (.bool false))) 59 false),(aj 70 (.pick (.t 59) (.c (.bool true)) (.t 69)))])
abbrev nV:ax:=(.seq (.seq (.rg [(au 34 6),(au 35 0),(aj 36 (.lens (.t 35))),(aj 37 (.bin .leq (.t 34) (.t 36)))]) (.cond (.t 37) .skip (.exit 0))) (.seq (.blk 1 (.seq (.seq (.sem (erase pV)) (.cond (.t 49) (.exit 1) .skip)) (.seq (.seq (.sem (erase pW)) (.cond (.t 70) (.seq (.rg [(aj 2 (.aP (.c (.bool false))))]) .ret) .skip)) (.seq (.rg [(au 71 5),(aj 72 (.bin .add (.t 71) (.c (.int .i64 1)))),(aR 5 72)]) (.rg [(au 73 6),(aj 74 (.bin .add (.t 73) (.c (.int .i64 1)))),(aR 4 74)]))))) (.rg [(au 38 6),(aj 39 (.bin .add (.t 38) (.c (.int .i64 1)))),(aR 6 39)])))
abbrev pX:ax:=(.rg [(au 75 3),(aj 76 (.un .not (.t 75))),(au 77 76),(ay 78 (.mv (.t 5)) 77 false),(ay 79 (.bin .eql (.t 78) (.c (.int .i64 4))) 77 false),(aj 80 (.pick (.t 77) (.c (.bool true)) (.t 79))),(aR 2 80)])
abbrev CZ:ax:=(.seq (.rg [(aj 2 (.aP (.c (.bool false))))]) (.seq (.seq (.sem (erase pS)) (.cond (.t 13) (.seq (.rg [(aj 2 (.aP (.c (.bool false))))]) .ret) .skip)) (.seq (.rg [(au 14 0),(aj 15 (.ixs (.t 14) (.c (.int .i64 0)))),(aj 16 (.bin .eql (.t 15) (.c (b8 91)))),(aR 3 16)]) (.seq (.seq (.rg [(au 17 3)]) (.sem (erase pU))) (.seq (.rg [(aj 4 (.aP (.c (.int .i64 0))))]) (.seq (.rg [(aj 5 (.aP (.c (.int .i64 0))))]) (.seq (.seq (.rg [(aj 6 (.aP (.c (.int .i64 0))))]) (.blk 0 (.loop (erase nV)))) (.seq (.sem (erase pX)) .ret))))))))
theorem C3:bN Tryz.prog 28 81 [(.tmp 2)] (erase CZ):=⟨Tryz.f28,_,rfl,by decide,rfl,by kernel_rfl,rfl,rfl⟩
abbrev ek:List Nat:=[0,2,3,4,5,6,13,17,28,37,49,70]
def jg (s1:List UInt8):Option (Bool):=
 (idx s1 (IntKind.wrap .i64 ((s1.length:Int) - 1))).bind fun x3=>
 (if (!decide (x3=93)) then
  some true
 else
  some (decide ((s1.length:Int)<2)))
def gu (x2:UInt8) (s1:List UInt8):Option (St Bool Unit (List UInt8)):=
 (if (decide (x2=91)) then
  (jg s1).bind fun t5=>
  (if t5 then
   some (.ret false)
  else
   (sub s1 1 (IntKind.wrap .i64 ((s1.length:Int) - 1))).bind fun x6=>some (.cY x6))
 else
  some (.cY s1))
def eF (i12:Int) (s9:List UInt8):Option (Bool):=
 (if (decide (i12<(s9.length:Int))) then
  (idx s9 i12).bind fun gX=>some (!decide (gX=46))
 else
  some false)
def gv (F:Nat) (x2:UInt8) (s9:List UInt8) (kM:Int) (i12:Int):Option (Bool):=
 (if (decide (x2=91)) then
  (sub s9 kM i12).bind fun lE=>
  (eI F lE).bind fun BQ=>(if (!BQ) then
   some true
  else
   some false)
 else
  (sub s9 kM i12).bind fun Ii=>(kL F Ii).bind fun og=>some (!og))
def ct (F:Nat) (s9:List UInt8) (x2:UInt8):(Int×Int×Int)→Option (St Bool Int (Int×Int×Int))
 |(kM,ec,i12)=>
  (if (decide (i12≤(s9.length:Int))) then
   (eF i12 s9).bind fun t15=>
   (if t15 then
    some (.cY (kM,ec,(IntKind.wrap .i64 (i12+1))))
   else
    (gv F x2 s9 kM i12).bind fun t21=>
    (if t21 then
     some (.ret false)
    else
     some (.cY ((IntKind.wrap .i64 (i12+1)),(IntKind.wrap .i64 (ec+1)),(IntKind.wrap .i64 (i12+1))))))
  else
   some (.dR ec))
def fk (F:Nat) (s1:List UInt8):Option (Bool):=
 (if ((decide (s1=([]:List UInt8)))||(decide (255<(s1.length:Int)))) then
  some false
 else
  (idx s1 0).bind fun x2=>
  ((gu x2 s1).bind fun UR=>
  match UR with
  | .cY s9=>
    ((iter (ct F s9 x2) F (0,0,0)).bind fun UT=>
    match UT with
    | .inr me=>
      some ((!(decide (x2=91)))||(decide (me=4)))
    | .inl k6=>
      some k6)
  | .ret r27=>
    some r27
  | .dR _=>none))
theorem xS {s1:List UInt8} {H:AH} {K:Exit→Env→AH→Prop}
 (kn:K .normal [(0,(.str s1)),(13,(.bool ((decide (s1=([]:List UInt8)))||(decide (255<(s1.length:Int))))))] H):
 AX Tryz.prog ek 81 H.length (erase pS) K [(0,(.str s1))] H:=by
 refine bY fun K' hK=> ?_
 refine aE ?_
 refine gK (fun hy1=> ?_) fun hy1=> ?_
 · refine aV hy1 ?_
   exact hK _ _ _ _ _ (dy hy1) ak kn
 · refine aV hy1 ?_
   exact hK _ _ _ _ _ (dy hy1) ak kn
theorem xT {s1:List UInt8} {x2:UInt8} {H:AH} {K:Exit→Env→AH→Prop} {t4:Bool}
 (h:jg s1=some t4)
 (kn:K .normal [(0,(.str s1)),(3,(.bool (decide (x2=91)))),(28,(.bool t4))] H):
 AX Tryz.prog ek 81 H.length (erase pT) K [(0,(.str s1)),(3,(.bool (decide (x2=91))))] H:=by
 refine bY fun K' hK=> ?_
 rw [jg.eq_1] at h
 obtain ⟨x3,bJ,h⟩:=aq h
 refine aV bJ ?_
 refine bP h (fun b6 h=> ?_) fun b6 h=> ?_
 · refine aV b6 ?_
   obtain rfl:=aC h
   exact hK _ _ _ _ _ aJ ak kn
 · refine aV b6 ?_
   obtain rfl:=aC h
   exact hK _ _ _ _ _ aJ ak kn
theorem xU {x2:UInt8} {s1:List UInt8} {H:AH} {K:Exit→Env→AH→Prop} {o:St Bool Unit (List UInt8)}
 (h:gu x2 s1=some o)
 (kn:∀o':(List UInt8),o= .cY o'→K .normal [(0,(.str o')),(3,(.bool (decide (x2=91))))] H)
 (kr:∀o':Bool,o= .ret o'→K .ret [(2,(.bool o'))] H):
 AX Tryz.prog ek 81 H.length (erase pU) K [(0,(.str s1)),(3,(.bool (decide (x2=91)))),(17,(.bool (decide (x2=91))))] H:=by
 refine bY fun K' hK=> ?_
 rw [gu.eq_1] at h
 refine aE ?_
 refine bk h (fun hy4 h=> ?_) fun hy4 h=> ?_
 · refine aE ?_
   obtain ⟨t5,cC,h⟩:=aq h
   refine bz ak (xT (x2:=x2) cC ?_)
   refine aE ?_
   refine bk h (fun cr h=> ?_) fun cr h=> ?_
   · refine aE ?_
     obtain rfl:=aC h
     exact hK _ _ _ _ _ aJ ak (kr _ rfl)
   · obtain ⟨x6,cP,h⟩:=aq h
     refine aV cP ?_
     obtain rfl:=aC h
     exact hK _ _ _ _ _ aJ ak (kn _ rfl)
 · refine aE ?_
   obtain rfl:=aC h
   exact hK _ _ _ _ _ aJ ak (kn _ rfl)
theorem xV {i12:Int} {s9:List UInt8} {x2:UInt8} {kM:Int} {ec:Int} {H:AH} {K:Exit→Env→AH→Prop} {t14:Bool}
 (h:eF i12 s9=some t14)
 (kn:K .normal [(0,(.str s9)),(3,(.bool (decide (x2=91)))),(4,(.int .i64 kM)),(5,(.int .i64 ec)),(6,(.int .i64 i12)),(49,(.bool t14))] H):
 AX Tryz.prog ek 81 H.length (erase pV) K [(0,(.str s9)),(3,(.bool (decide (x2=91)))),(4,(.int .i64 kM)),(5,(.int .i64 ec)),(6,(.int .i64 i12))] H:=by
 refine bY fun K' hK=> ?_
 rw [eF.eq_1] at h
 refine aE ?_
 refine bP h (fun cN h=> ?_) fun cN h=> ?_
 · obtain ⟨gX,cH,h⟩:=aq h
   refine aV (aA cN cH) ?_
   obtain rfl:=aC h
   exact hK _ _ _ _ _ aJ ak kn
 · refine aV cN ?_
   obtain rfl:=aC h
   exact hK _ _ _ _ _ aJ ak kn
theorem xW {F:Nat} {x2:UInt8} {s9:List UInt8} {kM:Int} {i12:Int} {ec:Int} {H:AH} {K:Exit→Env→AH→Prop} {t20:Bool}
 (h:gv F x2 s9 kM i12=some t20)
 (kn:K .normal [(0,(.str s9)),(3,(.bool (decide (x2=91)))),(5,(.int .i64 ec)),(6,(.int .i64 i12)),(70,(.bool t20))] H):
 AX Tryz.prog ek 81 H.length (erase pW) K [(0,(.str s9)),(3,(.bool (decide (x2=91)))),(4,(.int .i64 kM)),(5,(.int .i64 ec)),(6,(.int .i64 i12))] H:=by
 refine bY fun K' hK=> ?_
 rw [gv.eq_1] at h
 refine aE ?_
 refine bP h (fun ei h=> ?_) fun ei h=> ?_
 · obtain ⟨lE,gY,h⟩:=aq h
   refine aV (aA ei gY) ?_
   obtain ⟨BQ,gq,h⟩:=aq h
   refine bC ak (CV gq) ?_
   refine aE ?_
   refine bP h (fun fS h=> ?_) fun fS h=> ?_
   · refine aV fS ?_
     obtain rfl:=aC h
     exact hK _ _ _ _ _ (dy (aA ei fS)) ak kn
   · refine aV fS ?_
     obtain rfl:=aC h
     exact hK _ _ _ _ _ (dy (aA ei fS)) ak kn
 · obtain ⟨Ii,fT,h⟩:=aq h
   refine aV (aA ei fT) ?_
   obtain ⟨og,gr,h⟩:=aq h
   refine bC ak (CY gr) ?_
   refine aE ?_
   obtain rfl:=aC h
   exact hK _ _ _ _ _ (dy ei) ak kn
theorem xX {F:Nat} {i12:Int} {s9:List UInt8} {kM:Int} {ec:Int} {x2:UInt8} {H:AH} {K:Exit→Env→AH→Prop} {o:(Bool)⊕(Int)}
 (h:iter (ct F s9 x2) F (kM,ec,i12)=some o)
 (dc:∀o':Int,o= .inr o'→K (.exit 0) [(3,(.bool (decide (x2=91)))),(5,(.int .i64 o'))] H)
 (kr:∀o':Bool,o= .inl o'→K .ret [(2,(.bool o'))] H):
 AX Tryz.prog ek 81 H.length (.loop (erase nV)) K [(0,(.str s9)),(3,(.bool (decide (x2=91)))),(4,(.int .i64 kM)),(5,(.int .i64 ec)),(6,(.int .i64 i12))] H:=by
 refine gL (fun s e H1=>match s with|(kM,ec,i12)=>e=[(0,(.str s9)),(3,(.bool (decide (x2=91)))),(4,(.int .i64 kM)),(5,(.int .i64 ec)),(6,(.int .i64 i12))]∧H1=H) h ⟨rfl,rfl⟩ ?_
 rintro K' ⟨kM,ec,i12⟩ st e H ⟨rfl,rfl⟩ h hN hB hR hX
 rw [ct.eq_1] at h
 refine aE ?_
 refine bk h (fun cx h=> ?_) fun cx h=> ?_
 · refine aE ?_
   obtain ⟨t15,dV,h⟩:=aq h
   refine bz ak (xV (x2:=x2) (kM:=kM) (ec:=ec) dV ?_)
   refine aE ?_
   refine bk h (fun eT h=> ?_) fun eT h=> ?_
   · refine aE ?_
     obtain rfl:=aC h
     exact hN _ rfl _ _ _ _ aJ ak ⟨rfl,rfl⟩
   · refine aE ?_
     obtain ⟨t21,gZ,h⟩:=aq h
     refine bz ak (xW (ec:=ec) gZ ?_)
     refine aE ?_
     refine bk h (fun iQ h=> ?_) fun iQ h=> ?_
     · refine aE ?_
       obtain rfl:=aC h
       exact hX _ _ _ _ _ dm aJ ak (kr _ (hR _ rfl))
     · refine aE ?_
       obtain rfl:=aC h
       exact hN _ rfl _ _ _ _ aJ ak ⟨rfl,rfl⟩
 · refine aE ?_
   obtain rfl:=aC h
   exact hX _ _ _ _ _ dm aJ ak (dc _ (hB _ rfl))
theorem xY {x2:UInt8} {me:Int} {H:AH} {K:Exit→Env→AH→Prop}
 (kn:K .normal [(2,(.bool ((!(decide (x2=91)))||(decide (me=4)))))] H):
 AX Tryz.prog ek 81 H.length (erase pX) K [(3,(.bool (decide (x2=91)))),(5,(.int .i64 me))] H:=by
 refine bY fun K' hK=> ?_
 refine aE ?_
 refine gK (fun hM=> ?_) fun hM=> ?_
 · refine aV hM ?_
   exact hK _ _ _ _ _ (dy hM) ak kn
 · refine aV hM ?_
   exact hK _ _ _ _ _ (dy hM) ak kn
theorem lJ {F:Nat} {s1:List UInt8} {H0:AH} {aS:Bool} (h:fk F s1=some aS):
 aG Tryz.prog 28 [(.str s1)] H0 fun v H'=>v=(.bool aS)∧H'=H0:=by
 refine fF C3 ek fun hcl K0 aO=> ?_
 rw [fk.eq_1] at h
 refine aE ?_
 refine bz ak (xS (s1:=s1) ?_)
 refine aE ?_
 refine bk h (fun hy2 h=> ?_) fun hy2 h=> ?_
 · refine aE ?_
   obtain rfl:=aC h
   exact aO _ _ _ bh (aK hcl (aW aZ (.bool false)) bf aX ⟨rfl,rfl⟩)
 · obtain ⟨x2,hy3,h⟩:=aq h
   refine aV hy3 ?_
   obtain ⟨UR,ck,h⟩:=aq h
   refine bz ak (xU ck ?_ ?_)
   · rintro s9 rfl
     try dsimp only at h
     refine aE ?_
     obtain ⟨UT,gD,h⟩:=aq h
     refine bz ak (xX gD ?_ ?_)
     · rintro me rfl
       try dsimp only at h
       refine aE ?_
       refine bz ak (xY (x2:=x2) (me:=me) ?_)
       refine aE ?_
       obtain rfl:=aC h
       exact aO _ _ _ bh (aK hcl (aW aZ (.bool ((!(decide (x2=91)))||(decide (me=4))))) bf aX ⟨rfl,rfl⟩)
     · rintro k6 rfl
       try dsimp only at h
       refine aE ?_
       obtain rfl:=aC h
       exact aO _ _ _ bh (aK hcl (aW aZ (.bool k6)) bf aX ⟨rfl,rfl⟩)
   · rintro r27 rfl
     try dsimp only at h
     refine aE ?_
     obtain rfl:=aC h
     exact aO _ _ _ bh (aK hcl (aW aZ (.bool r27)) bf aX ⟨rfl,rfl⟩)
abbrev rG:ax:=(.rg [(au 5 0),(aj 6 (.lens (.t 5))),(au 7 1),(aj 8 (.lens (.t 7))),(aj 9 (.bin .geq (.t 6) (.t 8))),(au 10 9),(ay 11 (.mv (.t 0)) 10 true),(ay 12 (.mv (.t 1)) 10 true),(ay 13 (.lens (.t 12)) 10 true),(ay 14 (.gR (.t 11) none (some (.t 13))) 10 true),(ay 15 (.call (.c (.fn 27 [])) [(.t 14)]) 10 true),(ay 16 (.mv (.t 1)) 10 true),(ay 17 (.bin .eql (.t 15) (.t 16)) 10 true),(aj 18 (.pick (.t 10) (.t 17) (.c (.bool false)))),(aR 4 18)])
abbrev En:ax:=(.seq (.rg [(aj 4 (.aP (.c (.bool false))))]) (.seq (.sem (erase rG)) .ret))
theorem Eo:bN Tryz.prog 50 19 [(.tmp 4)] (erase En):=⟨Tryz.f50,_,rfl,by decide,rfl,by kernel_rfl,rfl,rfl⟩
abbrev xd:List Nat:=[0,1,4]
def mJ (F:Nat) (pY:List UInt8) (s1:List UInt8):Option (Bool):=
 (if (decide ((pY.length:Int)≤(s1.length:Int))) then
  (sub s1 0 (pY.length:Int)).bind fun x3=>(ou F x3).bind fun r4=>some (decide (r4=pY))
 else
  some false)
def ov (F:Nat) (s1:List UInt8) (pY:List UInt8):Option (Bool):=
 (mJ F pY s1).bind fun t6=>
 some t6
theorem yU {F:Nat} {pY:List UInt8} {s1:List UInt8} {H:AH} {K:Exit→Env→AH→Prop} {t5:Bool}
 (h:mJ F pY s1=some t5)
 (kn:K .normal [(4,(.bool t5))] H):
 AX Tryz.prog xd 19 H.length (erase rG) K [(0,(.str s1)),(1,(.str pY)),(4,(.bool false))] H:=by
 refine bY fun K' hK=> ?_
 rw [mJ.eq_1] at h
 refine aE ?_
 refine bP h (fun hy1 h=> ?_) fun hy1 h=> ?_
 · obtain ⟨x3,hy2,h⟩:=aq h
   refine aV (aA hy1 hy2) ?_
   obtain ⟨r4,hy3,h⟩:=aq h
   refine bC ak (vv hy3) ?_
   refine aE ?_
   obtain rfl:=aC h
   exact hK _ _ _ _ _ aJ ak kn
 · refine aV hy1 ?_
   obtain rfl:=aC h
   exact hK _ _ _ _ _ aJ ak kn
theorem vz {F:Nat} {s1:List UInt8} {pY:List UInt8} {H0:AH} {aS:Bool} (h:ov F s1 pY=some aS):
 aG Tryz.prog 50 [(.str s1),(.str pY)] H0 fun v H'=>v=(.bool aS)∧H'=H0:=by
 refine fF Eo xd fun hcl K0 aO=> ?_
 rw [ov.eq_1] at h
 refine aE ?_
 obtain ⟨t6,hy4,h⟩:=aq h
 refine bz ak (yU hy4 ?_)
 refine aE ?_
 obtain rfl:=aC h
 exact aO _ _ _ bh (aK hcl (aW aZ (.bool t6)) bf aX ⟨rfl,rfl⟩)
abbrev tQ:ax:=(.rg [(au 3 0),(aj 4 (.bin .neq (.t 3) (.c (.str [])))),(au 5 4),(ay 6 (.mv (.t 0)) 5 true),(ay 7 (.ixs (.t 6) (.c (.int .i64 0))) 5 true),(ay 8 (.bin .eql (.t 7) (.c (b8 32))) 5 true),(aj 9 (.pick (.t 5) (.t 8) (.c (.bool false))))])
abbrev rH:ax:=(.seq (.seq (.sem (erase tQ)) (.cond (.t 9) .skip (.exit 0))) (.blk 1 (.rg [(au 10 0),(aj 11 (.gR (.t 10) (some (.c (.int .i64 1))) none)),(aR 0 11)])))
abbrev FU:ax:=(.seq (.rg [(aj 2 (.aP (.c (.str []))))]) (.seq (.blk 0 (.loop (erase rH))) (.seq (.rg [(au 12 0),(aR 2 12)]) .ret)))
theorem FV:bN Tryz.prog 52 13 [(.tmp 2)] (erase FU):=⟨Tryz.f52,_,rfl,by decide,rfl,by kernel_rfl,rfl,rfl⟩
abbrev s7:List Nat:=[0,2,9]
def pZ (s2:List UInt8):Option (Bool):=
 (if (!decide (s2=([]:List UInt8))) then
  (idx s2 0).bind fun x3=>some (decide (x3=32))
 else
  some false)
def p6:(List UInt8)→Option (St (List UInt8) (List UInt8) (List UInt8))
 |s2=>
  (pZ s2).bind fun t5=>
  (if t5 then
   (sub s2 1 (s2.length:Int)).bind fun x6=>some (.cY x6)
  else
   some (.dR s2))
def xe (F:Nat) (s1:List UInt8):Option ((List UInt8)):=
 ((iter p6 F s1).bind fun o9=>
 match o9 with
 | .inr s8=>
   some s8
 | .inl _=>none)
theorem Az {s2:List UInt8} {H:AH} {K:Exit→Env→AH→Prop} {t4:Bool}
 (h:pZ s2=some t4)
 (kn:K .normal [(0,(.str s2)),(9,(.bool t4))] H):
 AX Tryz.prog s7 13 H.length (erase tQ) K [(0,(.str s2))] H:=by
 refine bY fun K' hK=> ?_
 rw [pZ.eq_1] at h
 refine aE ?_
 refine bP h (fun hy1 h=> ?_) fun hy1 h=> ?_
 · obtain ⟨x3,hy2,h⟩:=aq h
   refine aV (aA hy1 hy2) ?_
   obtain rfl:=aC h
   exact hK _ _ _ _ _ aJ ak kn
 · refine aV hy1 ?_
   obtain rfl:=aC h
   exact hK _ _ _ _ _ aJ ak kn
theorem AA {F:Nat} {s2:List UInt8} {H:AH} {K:Exit→Env→AH→Prop} {o:((List UInt8))⊕((List UInt8))}
 (h:iter p6 F s2=some o)
 (dc:∀o':(List UInt8),o= .inr o'→K (.exit 0) [(0,(.str o'))] H):
 AX Tryz.prog s7 13 H.length (.loop (erase rH)) K [(0,(.str s2))] H:=by
 refine gL (fun s e H1=>match s with|s2=>e=[(0,(.str s2))]∧H1=H) h ⟨rfl,rfl⟩ ?_
 rintro K' s2 st e H ⟨rfl,rfl⟩ h hN hB hR hX
 rw [p6.eq_1] at h
 refine aE ?_
 obtain ⟨t5,hy3,h⟩:=aq h
 refine bz ak (Az hy3 ?_)
 refine aE ?_
 refine bk h (fun hy4 h=> ?_) fun hy4 h=> ?_
 · obtain ⟨x6,bJ,h⟩:=aq h
   refine aV bJ ?_
   obtain rfl:=aC h
   exact hN _ rfl _ _ _ _ aJ ak ⟨rfl,rfl⟩
 · refine aE ?_
   obtain rfl:=aC h
   exact hX _ _ _ _ _ dm aJ ak (dc _ (hB _ rfl))
theorem Ep {F:Nat} {s1:List UInt8} {H0:AH} {aS:List UInt8} (h:xe F s1=some aS):
 aG Tryz.prog 52 [(.str s1)] H0 fun v H'=>v=(.str aS)∧H'=H0:=by
 refine fF FV s7 fun hcl K0 aO=> ?_
 rw [xe.eq_1] at h
 refine aE ?_
 obtain ⟨o9,b6,h⟩:=aq h
 refine bz ak (AA b6 ?_)
 · rintro s8 rfl
   try dsimp only at h
   refine aE ?_
   obtain rfl:=aC h
   exact aO _ _ _ bh (aK hcl (aW aZ (.str s8)) bf aX ⟨rfl,rfl⟩)
abbrev p7:ax:=(.rg ((au 4 3)::(au 5 0)::(aj 6 (.lens (.t 5)))::(aj 7 (.bin .lss (.t 4) (.t 6)))::(au 8 7)::(ay 9 (.mv (.t 0)) 8 true)::(ay 10 (.mv (.t 3)) 8 true)::(ay 11 (.ixs (.t 9) (.t 10)) 8 true)::(ay 12 (.call (.c (.fn 75 [])) [(.t 11)]) 8 true)::(ay 13 (.mv (.t 12)) 8 true)::(ay 14 (.mv (.t 0)) 13 false)::(ay 15 (.mv (.t 3)) 13 false)::(ay 16 (.ixs (.t 14) (.t 15)) 13 false)::(ay 17 (.call (.c (.fn 74 [])) [(.t 16)]) 13 false)::(ay 18 (.pick (.t 13) (.c (.bool true)) (.t 17)) 8 true)::(ay 19 (.mv (.t 18)) 8 true)::(ay 20 (.mv (.t 0)) 19 false)::(ay 21 (.mv (.t 3)) 19 false)::(ay 22 (.ixs (.t 20) (.t 21)) 19 false)::(ay 23 (.bin .eql (.t 22) (.c (b8 45))) 19 false)::(ay 24 (.pick (.t 19) (.c (.bool true)) (.t 23)) 8 true)::(ay 25 (.mv (.t 24)) 8 true)::(ay 26 (.mv (.t 0)) 25 false)::(ay 27 (.mv (.t 3)) 25 false)::(ay 28 (.ixs (.t 26) (.t 27)) 25 false)::(ay 29 (.bin .eql (.t 28) (.c (b8 46))) 25 false)::(ay 30 (.pick (.t 25) (.c (.bool true)) (.t 29)) 8 true)::(ay 31 (.mv (.t 30)) 8 true)::(ay 32 (.mv (.t 0)) 31 false)::(ay 33 (.mv (.t 3)) 31 false)::(ay 34 (.ixs (.t 32) (.t 33)) 31 false)::(ay 35 (.bin .eql (.t 34) (.c (b8 91))) 31 false)::(ay 36 (.pick (.t 31) (.c (.bool true)) (.t 35)) 8 true)::(ay 37 (.mv (.t 36)) 8 true)::(ay 38 (.mv (.t 0)) 37 false)::(ay 39 (.mv (.t 3)) 37 false)::(ay 40 (.ixs (.t 38) (.t 39)) 37 false)::(ay 41 (.bin .eql (.t 40) (.c (b8 93))) 37 false)::(ay 42 (.pick (.t 37) (.c (.bool true)) (.t 41)) 8 true)::(aj 43 (.pick (.t 8) (.t 42) (.c (.bool false))))::[]))
abbrev nW:ax:=(.seq (.seq (.sem (erase p7)) (.cond (.t 43) .skip (.exit 0))) (.blk 1 (.rg [(au 44 3),(aj 45 (.bin .add (.t 44) (.c (.int .i64 1)))),(aR 3 45)])))
abbrev C4:ax:=(.seq (.rg [(aj 2 (.aP (.c (.int .i64 0))))]) (.seq (.rg [(aj 3 (.aP (.c (.int .i64 0))))]) (.seq (.blk 0 (.loop (erase nW))) (.seq (.rg [(au 46 3),(aR 2 46)]) .ret))))
theorem C5:bN Tryz.prog 78 47 [(.tmp 2)] (erase C4):=⟨Tryz.f78,_,rfl,by decide,rfl,by kernel_rfl,rfl,rfl⟩
abbrev mK:List Nat:=[0,2,3,43]
def lK (kf:Int) (s1:List UInt8):Option (Bool):=
 (if (decide (kf<(s1.length:Int))) then
  (idx s1 kf).bind fun x3=>
  (fj x3).bind fun r4=>
  (if r4 then
   some true
  else
   (e7 x3).bind fun r5=>
   (if r5 then
    some true
   else
    (if (decide (x3=45)) then
     some true
    else
     (if (decide (x3=46)) then
      some true
     else
      (if (decide (x3=91)) then
       some true
      else
       some (decide (x3=93)))))))
 else
  some false)
def lM (s1:List UInt8):Int→Option (St Int Int Int)
 |kf=>
  (lK kf s1).bind fun t7=>
  (if t7 then
   some (.cY (IntKind.wrap .i64 (kf+1)))
  else
   some (.dR kf))
def lW (F:Nat) (s1:List UInt8):Option (Int):=
 ((iter (lM s1) F 0).bind fun UU=>
 match UU with
 | .inr Rm=>
   some Rm
 | .inl _=>none)
theorem xZ {kf:Int} {s1:List UInt8} {H:AH} {K:Exit→Env→AH→Prop} {t6:Bool}
 (h:lK kf s1=some t6)
 (kn:K .normal [(0,(.str s1)),(3,(.int .i64 kf)),(43,(.bool t6))] H):
 AX Tryz.prog mK 47 H.length (erase p7) K [(0,(.str s1)),(3,(.int .i64 kf))] H:=by
 refine bY fun K' hK=> ?_
 rw [lK.eq_1] at h
 refine aE ?_
 refine bP h (fun hy1 h=> ?_) fun hy1 h=> ?_
 · obtain ⟨x3,hy2,h⟩:=aq h
   refine aV (aA hy1 hy2) ?_
   obtain ⟨r4,hy3,h⟩:=aq h
   refine bC ak (jf hy3) ?_
   refine aE ?_
   refine bP h (fun hy4 h=> ?_) fun hy4 h=> ?_
   · refine aV hy4 ?_
     obtain rfl:=aC h
     exact hK _ _ _ _ _ aJ ak kn
   · refine aV (aA hy4 hy2) ?_
     obtain ⟨r5,bJ,h⟩:=aq h
     refine bC ak (hO bJ) ?_
     refine aE ?_
     refine bP h (fun b6 h=> ?_) fun b6 h=> ?_
     · refine aV b6 ?_
       obtain rfl:=aC h
       exact hK _ _ _ _ _ aJ ak kn
     · refine aV (aA b6 hy2) ?_
       refine bP h (fun cC h=> ?_) fun cC h=> ?_
       · refine aV cC ?_
         obtain rfl:=aC h
         exact hK _ _ _ _ _ aJ ak kn
       · refine aV (aA cC hy2) ?_
         refine bP h (fun cr h=> ?_) fun cr h=> ?_
         · refine aV cr ?_
           obtain rfl:=aC h
           exact hK _ _ _ _ _ aJ ak kn
         · refine aV (aA cr hy2) ?_
           refine bP h (fun cP h=> ?_) fun cP h=> ?_
           · refine aV cP ?_
             obtain rfl:=aC h
             exact hK _ _ _ _ _ aJ ak kn
           · refine aV (aA cP hy2) ?_
             obtain rfl:=aC h
             exact hK _ _ _ _ _ aJ ak kn
 · refine aV hy1 ?_
   obtain rfl:=aC h
   exact hK _ _ _ _ _ aJ ak kn
theorem ya {F:Nat} {kf:Int} {s1:List UInt8} {H:AH} {K:Exit→Env→AH→Prop} {o:(Int)⊕(Int)}
 (h:iter (lM s1) F kf=some o)
 (dc:∀o':Int,o= .inr o'→K (.exit 0) [(3,(.int .i64 o'))] H):
 AX Tryz.prog mK 47 H.length (.loop (erase nW)) K [(0,(.str s1)),(3,(.int .i64 kf))] H:=by
 refine gL (fun s e H1=>match s with|kf=>e=[(0,(.str s1)),(3,(.int .i64 kf))]∧H1=H) h ⟨rfl,rfl⟩ ?_
 rintro K' kf st e H ⟨rfl,rfl⟩ h hN hB hR hX
 rw [lM.eq_1] at h
 refine aE ?_
 obtain ⟨t7,ck,h⟩:=aq h
 refine bz ak (xZ ck ?_)
 refine aE ?_
 refine bk h (fun cx h=> ?_) fun cx h=> ?_
 · refine aE ?_
   obtain rfl:=aC h
   exact hN _ rfl _ _ _ _ aJ ak ⟨rfl,rfl⟩
 · refine aE ?_
   obtain rfl:=aC h
   exact hX _ _ _ _ _ dm aJ ak (dc _ (hB _ rfl))
theorem tR {F:Nat} {s1:List UInt8} {H0:AH} {aS:Int} (h:lW F s1=some aS):
 aG Tryz.prog 78 [(.str s1)] H0 fun v H'=>v=(.int .i64 aS)∧H'=H0:=by
 refine fF C5 mK fun hcl K0 aO=> ?_
 rw [lW.eq_1] at h
 refine aE ?_
 obtain ⟨UU,cN,h⟩:=aq h
 refine bz ak (ya cN ?_)
 · rintro Rm rfl
   try dsimp only at h
   refine aE ?_
   obtain rfl:=aC h
   exact aO _ _ _ bh (aK hcl (aW aZ (.int .i64 Rm)) bf aX ⟨rfl,rfl⟩)
abbrev rI:ax:=(.rg [(au 9 0),(aj 10 (.bin .eql (.t 9) (.c (.str [])))),(au 11 10),(ay 12 (.mv (.t 0)) 11 false),(ay 13 (.ixs (.t 12) (.c (.int .i64 0))) 11 false),(ay 14 (.bin .eql (.t 13) (.c (b8 91))) 11 false),(aj 15 (.pick (.t 11) (.c (.bool true)) (.t 14)))])
abbrev rJ:ax:=(.rg [(au 22 4),(au 23 0),(aj 24 (.lens (.t 23))),(aj 25 (.bin .lss (.t 22) (.t 24))),(au 26 25),(ay 27 (.mv (.t 0)) 26 true),(ay 28 (.mv (.t 4)) 26 true),(ay 29 (.ixs (.t 27) (.t 28)) 26 true),(ay 30 (.bin .neq (.t 29) (.c (b8 46))) 26 true),(aj 31 (.pick (.t 26) (.t 30) (.c (.bool false))))])
abbrev rK:ax:=(.rg [(au 36 5),(aj 37 (.bin .eql (.t 36) (.c (.str [])))),(au 38 37),(ay 39 (.mv (.t 5)) 38 false),(ay 40 (.ixs (.t 39) (.c (.int .i64 0))) 38 false),(ay 41 (.bin .eql (.t 40) (.c (b8 45))) 38 false),(aj 42 (.pick (.t 38) (.c (.bool true)) (.t 41))),(au 43 42),(ay 44 (.mv (.t 5)) 43 false),(ay 45 (.mv (.t 5)) 43 false),(ay 46 (.lens (.t 45)) 43 false),(ay 47 (.bin .sub (.t 46) (.c (.int .i64 1))) 43 false),(ay 48 (.ixs (.t 44) (.t 47)) 43 false),(ay 49 (.bin .eql (.t 48) (.c (b8 45))) 43 false),(aj 50 (.pick (.t 43) (.c (.bool true)) (.t 49)))])
abbrev rL:ax:=(.rg [(au 57 5),(au 58 6),(aj 59 (.ixs (.t 57) (.t 58))),(aj 60 (.call (.c (.fn 75 [])) [(.t 59)])),(aj 61 (.un .not (.t 60))),(au 62 61),(ay 63 (.mv (.t 5)) 62 true),(ay 64 (.mv (.t 6)) 62 true),(ay 65 (.ixs (.t 63) (.t 64)) 62 true),(ay 66 (.call (.c (.fn 74 [])) [(.t 65)]) 62 true),(ay 67 (.un .not (.t 66)) 62 true),(aj 68 (.pick (.t 62) (.t 67) (.c (.bool false)))),(au 69 68),(ay 70 (.mv (.t 5)) 69 true),(ay 71 (.mv (.t 6)) 69 true),(ay 72 (.ixs (.t 70) (.t 71)) 69 true),(ay 73 (.bin .neq (.t 72) (.c (b8 45))) 69 true),(aj 74 (.pick (.t 69) (.t 73) (.c (.bool false))))])
abbrev p8:ax:=(.seq (.seq (.rg [(au 51 6),(au 52 5),(aj 53 (.lens (.t 52))),(aj 54 (.bin .lss (.t 51) (.t 53)))]) (.cond (.t 54) .skip (.exit 2))) (.seq (.blk 3 (.seq (.sem (erase rL)) (.cond (.t 74) (.seq (.rg [(aj 2 (.aP (.c (.bool false))))]) .ret) .skip))) (.rg [(au 55 6),(aj 56 (.bin .add (.t 55) (.c (.int .i64 1)))),(aR 6 56)])))
abbrev p9:ax:=(.seq (.seq (.rg [(au 16 4),(au 17 0),(aj 18 (.lens (.t 17))),(aj 19 (.bin .leq (.t 16) (.t 18)))]) (.cond (.t 19) .skip (.exit 0))) (.seq (.blk 1 (.seq (.seq (.sem (erase rJ)) (.cond (.t 31) (.exit 1) .skip)) (.seq (.rg [(au 32 0),(au 33 3),(au 34 4),(aj 35 (.gR (.t 32) (some (.t 33)) (some (.t 34)))),(aR 5 35)]) (.seq (.seq (.sem (erase rK)) (.cond (.t 50) (.seq (.rg [(aj 2 (.aP (.c (.bool false))))]) .ret) .skip)) (.seq (.seq (.rg [(aj 6 (.aP (.c (.int .i64 0))))]) (.blk 2 (.loop (erase p8)))) (.rg [(au 75 4),(aj 76 (.bin .add (.t 75) (.c (.int .i64 1)))),(aR 3 76)])))))) (.rg [(au 20 4),(aj 21 (.bin .add (.t 20) (.c (.int .i64 1)))),(aR 4 21)])))
abbrev Er:ax:=(.seq (.rg [(aj 2 (.aP (.c (.bool false))))]) (.seq (.seq (.rg [(au 7 0),(aj 8 (.call (.c (.fn 28 [])) [(.t 7)]))]) (.cond (.t 8) (.seq (.rg [(aj 2 (.aP (.c (.bool true))))]) .ret) .skip)) (.seq (.seq (.sem (erase rI)) (.cond (.t 15) (.seq (.rg [(aj 2 (.aP (.c (.bool false))))]) .ret) .skip)) (.seq (.rg [(aj 3 (.aP (.c (.int .i64 0))))]) (.seq (.seq (.rg [(aj 4 (.aP (.c (.int .i64 0))))]) (.blk 0 (.loop (erase p9)))) (.seq (.rg [(aj 2 (.aP (.c (.bool true))))]) .ret))))))
theorem Es:bN Tryz.prog 79 77 [(.tmp 2)] (erase Er):=⟨Tryz.f79,_,rfl,by decide,rfl,by kernel_rfl,rfl,rfl⟩
abbrev fz:List Nat:=[0,2,3,4,5,6,8,15,19,31,50,54,74]
def mL (s1:List UInt8):Option (Bool):=
 (if (decide (s1=([]:List UInt8))) then
  some true
 else
  (idx s1 0).bind fun x3=>some (decide (x3=91)))
def mM (i7:Int) (s1:List UInt8):Option (Bool):=
 (if (decide (i7<(s1.length:Int))) then
  (idx s1 i7).bind fun x8=>some (!decide (x8=46))
 else
  some false)
def mN (ga:List UInt8):Option (Bool):=
 (if (decide (ga=([]:List UInt8))) then
  some true
 else
  (idx ga 0).bind fun n8=>
  (if (decide (n8=45)) then
   some true
  else
   (idx ga (IntKind.wrap .i64 ((ga.length:Int) - 1))).bind fun gX=>some (decide (gX=45))))
def mO (ga:List UInt8) (qa:Int):Option (Bool):=
 (idx ga qa).bind fun qR=>
 (fj qR).bind fun dj=>
 (if (!dj) then
  (e7 qR).bind fun og=>
  (if (!og) then
   some (!decide (qR=45))
  else
   some false)
 else
  some false)
def mP (ga:List UInt8):Int→Option (St Bool Unit Int)
 |qa=>
  (if (decide (qa<(ga.length:Int))) then
   (mO ga qa).bind fun t21=>
   (if t21 then
    some (.ret false)
   else
    some (.cY (IntKind.wrap .i64 (qa+1))))
  else
   some (.dR ()))
def mQ (F:Nat) (s1:List UInt8):(Int×Int)→Option (St Bool Unit (Int×Int))
 |(BZ,i7)=>
  (if (decide (i7≤(s1.length:Int))) then
   (mM i7 s1).bind fun t10=>
   (if t10 then
    some (.cY (BZ,(IntKind.wrap .i64 (i7+1))))
   else
    (sub s1 BZ i7).bind fun ga=>
    (mN ga).bind fun t15=>
    (if t15 then
     some (.ret false)
    else
     ((iter (mP ga) F 0).bind fun o24=>
     match o24 with
     | .inr ()=>
       some (.cY ((IntKind.wrap .i64 (i7+1)),(IntKind.wrap .i64 (i7+1))))
     | .inl Ir=>
       some (.ret Ir))))
  else
   some (.dR ()))
def ow (F:Nat) (s1:List UInt8):Option (Bool):=
 (fk F s1).bind fun r2=>
 (if r2 then
  some true
 else
  (mL s1).bind fun t5=>
  (if t5 then
   some false
  else
   ((iter (mQ F s1) F (0,0)).bind fun o27=>
   match o27 with
   | .inr ()=>
     some true
   | .inl Et=>
     some Et)))
theorem yV {s1:List UInt8} {H:AH} {K:Exit→Env→AH→Prop} {t4:Bool}
 (h:mL s1=some t4)
 (kn:K .normal [(0,(.str s1)),(15,(.bool t4))] H):
 AX Tryz.prog fz 77 H.length (erase rI) K [(0,(.str s1))] H:=by
 refine bY fun K' hK=> ?_
 rw [mL.eq_1] at h
 refine aE ?_
 refine bP h (fun hy3 h=> ?_) fun hy3 h=> ?_
 · refine aV hy3 ?_
   obtain rfl:=aC h
   exact hK _ _ _ _ _ aJ ak kn
 · obtain ⟨x3,hy4,h⟩:=aq h
   refine aV (aA hy3 hy4) ?_
   obtain rfl:=aC h
   exact hK _ _ _ _ _ aJ ak kn
theorem yW {i7:Int} {s1:List UInt8} {BZ:Int} {H:AH} {K:Exit→Env→AH→Prop} {t9:Bool}
 (h:mM i7 s1=some t9)
 (kn:K .normal [(0,(.str s1)),(3,(.int .i64 BZ)),(4,(.int .i64 i7)),(31,(.bool t9))] H):
 AX Tryz.prog fz 77 H.length (erase rJ) K [(0,(.str s1)),(3,(.int .i64 BZ)),(4,(.int .i64 i7))] H:=by
 refine bY fun K' hK=> ?_
 rw [mM.eq_1] at h
 refine aE ?_
 refine bP h (fun cr h=> ?_) fun cr h=> ?_
 · obtain ⟨x8,cP,h⟩:=aq h
   refine aV (aA cr cP) ?_
   obtain rfl:=aC h
   exact hK _ _ _ _ _ aJ ak kn
 · refine aV cr ?_
   obtain rfl:=aC h
   exact hK _ _ _ _ _ aJ ak kn
theorem yX {ga:List UInt8} {s1:List UInt8} {i7:Int} {H:AH} {K:Exit→Env→AH→Prop} {t14:Bool}
 (h:mN ga=some t14)
 (kn:K .normal [(0,(.str s1)),(4,(.int .i64 i7)),(5,(.str ga)),(50,(.bool t14))] H):
 AX Tryz.prog fz 77 H.length (erase rK) K [(0,(.str s1)),(4,(.int .i64 i7)),(5,(.str ga))] H:=by
 refine bY fun K' hK=> ?_
 rw [mN.eq_1] at h
 refine aE ?_
 refine bP h (fun cH h=> ?_) fun cH h=> ?_
 · refine aV cH ?_
   obtain rfl:=aC h
   exact hK _ _ _ _ _ aJ ak kn
 · obtain ⟨n8,dV,h⟩:=aq h
   refine aV (aA cH dV) ?_
   refine bP h (fun eT h=> ?_) fun eT h=> ?_
   · refine aV eT ?_
     obtain rfl:=aC h
     exact hK _ _ _ _ _ aJ ak kn
   · obtain ⟨gX,ei,h⟩:=aq h
     refine aV (aA eT ei) ?_
     obtain rfl:=aC h
     exact hK _ _ _ _ _ aJ ak kn
theorem yY {ga:List UInt8} {qa:Int} {s1:List UInt8} {i7:Int} {H:AH} {K:Exit→Env→AH→Prop} {t20:Bool}
 (h:mO ga qa=some t20)
 (kn:K .normal [(0,(.str s1)),(4,(.int .i64 i7)),(5,(.str ga)),(6,(.int .i64 qa)),(74,(.bool t20))] H):
 AX Tryz.prog fz 77 H.length (erase rL) K [(0,(.str s1)),(4,(.int .i64 i7)),(5,(.str ga)),(6,(.int .i64 qa))] H:=by
 refine bY fun K' hK=> ?_
 rw [mO.eq_1] at h
 obtain ⟨qR,fT,h⟩:=aq h
 refine aV fT ?_
 obtain ⟨dj,gr,h⟩:=aq h
 refine bC ak (jf gr) ?_
 refine aE ?_
 refine bP h (fun gZ h=> ?_) fun gZ h=> ?_
 · refine aV (aA gZ fT) ?_
   obtain ⟨og,iQ,h⟩:=aq h
   refine bC ak (hO iQ) ?_
   refine aE ?_
   refine bP h (fun gD h=> ?_) fun gD h=> ?_
   · refine aV (aA gD fT) ?_
     obtain rfl:=aC h
     exact hK _ _ _ _ _ aJ ak kn
   · refine aV gD ?_
     obtain rfl:=aC h
     exact hK _ _ _ _ _ aJ ak kn
 · refine aV gZ ?_
   obtain rfl:=aC h
   exact hK _ _ _ _ _ aJ ak kn
theorem yZ {F:Nat} {qa:Int} {ga:List UInt8} {s1:List UInt8} {i7:Int} {H:AH} {K:Exit→Env→AH→Prop} {o:(Bool)⊕(Unit)}
 (h:iter (mP ga) F qa=some o)
 (Ni:∀o':Unit,o= .inr o'→K (.exit 2) [(0,(.str s1)),(4,(.int .i64 i7))] H)
 (kr:∀o':Bool,o= .inl o'→K .ret [(2,(.bool o'))] H):
 AX Tryz.prog fz 77 H.length (.loop (erase p8)) K [(0,(.str s1)),(4,(.int .i64 i7)),(5,(.str ga)),(6,(.int .i64 qa))] H:=by
 refine gL (fun s e H1=>match s with|qa=>e=[(0,(.str s1)),(4,(.int .i64 i7)),(5,(.str ga)),(6,(.int .i64 qa))]∧H1=H) h ⟨rfl,rfl⟩ ?_
 rintro K' qa st e H ⟨rfl,rfl⟩ h hN hB hR hX
 rw [mP.eq_1] at h
 refine aE ?_
 refine bk h (fun fS h=> ?_) fun fS h=> ?_
 · refine aE ?_
   obtain ⟨t21,hM,h⟩:=aq h
   refine bz ak (yY (s1:=s1) (i7:=i7) hM ?_)
   refine aE ?_
   refine bk h (fun jJ h=> ?_) fun jJ h=> ?_
   · refine aE ?_
     obtain rfl:=aC h
     exact hX _ _ _ _ _ dm aJ ak (kr _ (hR _ rfl))
   · refine aE ?_
     obtain rfl:=aC h
     exact hN _ rfl _ _ _ _ aJ ak ⟨rfl,rfl⟩
 · refine aE ?_
   obtain rfl:=aC h
   exact hX _ _ _ _ _ dm aJ ak (Ni _ (hB _ rfl))
theorem y8 {F:Nat} {i7:Int} {s1:List UInt8} {BZ:Int} {H:AH} {K:Exit→Env→AH→Prop} {o:(Bool)⊕(Unit)}
 (h:iter (mQ F s1) F (BZ,i7)=some o)
 (dc:∀o':Unit,o= .inr o'→K (.exit 0) [] H)
 (kr:∀o':Bool,o= .inl o'→K .ret [(2,(.bool o'))] H):
 AX Tryz.prog fz 77 H.length (.loop (erase p9)) K [(0,(.str s1)),(3,(.int .i64 BZ)),(4,(.int .i64 i7))] H:=by
 refine gL (fun s e H1=>match s with|(BZ,i7)=>e=[(0,(.str s1)),(3,(.int .i64 BZ)),(4,(.int .i64 i7))]∧H1=H) h ⟨rfl,rfl⟩ ?_
 rintro K' ⟨BZ,i7⟩ st e H ⟨rfl,rfl⟩ h hN hB hR hX
 rw [mQ.eq_1] at h
 refine aE ?_
 refine bk h (fun cC h=> ?_) fun cC h=> ?_
 · refine aE ?_
   obtain ⟨t10,ck,h⟩:=aq h
   refine bz ak (yW (BZ:=BZ) ck ?_)
   refine aE ?_
   refine bk h (fun cx h=> ?_) fun cx h=> ?_
   · refine aE ?_
     obtain rfl:=aC h
     exact hN _ rfl _ _ _ _ aJ ak ⟨rfl,rfl⟩
   · obtain ⟨ga,cN,h⟩:=aq h
     refine aV cN ?_
     obtain ⟨t15,gY,h⟩:=aq h
     refine bz ak (yX (s1:=s1) (i7:=i7) gY ?_)
     refine aE ?_
     refine bk h (fun gq h=> ?_) fun gq h=> ?_
     · refine aE ?_
       obtain rfl:=aC h
       exact hX _ _ _ _ _ dm aJ ak (kr _ (hR _ rfl))
     · refine aE ?_
       obtain ⟨o24,pJ,h⟩:=aq h
       refine bz ak (yZ (s1:=s1) (i7:=i7) pJ ?_ ?_)
       · rintro ⟨⟩ rfl
         try dsimp only at h
         refine aE ?_
         obtain rfl:=aC h
         exact hN _ rfl _ _ _ _ aJ ak ⟨rfl,rfl⟩
       · rintro Ir rfl
         try dsimp only at h
         refine aE ?_
         obtain rfl:=aC h
         exact hX _ _ _ _ _ dm aJ ak (kr _ (hR _ rfl))
 · refine aE ?_
   obtain rfl:=aC h
   exact hX _ _ _ _ _ dm WE.nil ak (dc _ (hB _ rfl))
theorem vA {F:Nat} {s1:List UInt8} {H0:AH} {aS:Bool} (h:ow F s1=some aS):
 aG Tryz.prog 79 [(.str s1)] H0 fun v H'=>v=(.bool aS)∧H'=H0:=by
 refine fF Es fz fun hcl K0 aO=> ?_
 rw [ow.eq_1] at h
 refine aE ?_
 obtain ⟨r2,hy1,h⟩:=aq h
 refine bC ak (lJ hy1) ?_
 refine aE ?_
 refine bk h (fun hy2 h=> ?_) fun hy2 h=> ?_
 · refine aE ?_
   obtain rfl:=aC h
   exact aO _ _ _ bh (aK hcl (aW aZ (.bool true)) bf aX ⟨rfl,rfl⟩)
 · refine aE ?_
   obtain ⟨t5,bJ,h⟩:=aq h
   refine bz ak (yV bJ ?_)
   refine aE ?_
   refine bk h (fun b6 h=> ?_) fun b6 h=> ?_
   · refine aE ?_
     obtain rfl:=aC h
     exact aO _ _ _ bh (aK hcl (aW aZ (.bool false)) bf aX ⟨rfl,rfl⟩)
   · refine aE ?_
     obtain ⟨o27,rM,h⟩:=aq h
     refine bz ak (y8 rM ?_ ?_)
     · rintro ⟨⟩ rfl
       try dsimp only at h
       refine aE ?_
       obtain rfl:=aC h
       exact aO _ _ _ bh (aK hcl (aW aZ (.bool true)) bf aX ⟨rfl,rfl⟩)
     · rintro Et rfl
       try dsimp only at h
       refine aE ?_
       obtain rfl:=aC h
       exact aO _ _ _ bh (aK hcl (aW aZ (.bool Et)) bf aX ⟨rfl,rfl⟩)
abbrev rN:ax:=(.rg [(au 5 0),(aj 6 (.bin .eql (.t 5) (.c (.str [])))),(au 7 6),(ay 8 (.mv (.t 0)) 7 false),(ay 9 (.ixs (.t 8) (.c (.int .i64 0))) 7 false),(ay 10 (.bin .neq (.t 9) (.c (b8 64))) 7 false),(aj 11 (.pick (.t 7) (.c (.bool true)) (.t 10)))])
abbrev rO:ax:=(.rg [(au 12 3),(au 13 0),(aj 14 (.lens (.t 13))),(aj 15 (.bin .lss (.t 12) (.t 14))),(au 16 15),(ay 17 (.mv (.t 0)) 16 true),(ay 18 (.mv (.t 3)) 16 true),(ay 19 (.ixs (.t 17) (.t 18)) 16 true),(ay 20 (.bin .eql (.t 19) (.c (b8 64))) 16 true),(aj 21 (.pick (.t 16) (.t 20) (.c (.bool false))))])
abbrev rP:ax:=(.rg [(au 41 3),(au 42 0),(aj 43 (.lens (.t 42))),(aj 44 (.bin .lss (.t 41) (.t 43))),(au 45 44),(ay 46 (.mv (.t 0)) 45 true),(ay 47 (.mv (.t 3)) 45 true),(ay 48 (.ixs (.t 46) (.t 47)) 45 true),(ay 49 (.bin .eql (.t 48) (.c (b8 58))) 45 true),(aj 50 (.pick (.t 45) (.t 49) (.c (.bool false))))])
abbrev rQ:ax:=(.rg [(au 53 3),(au 54 0),(aj 55 (.lens (.t 54))),(aj 56 (.bin .geq (.t 53) (.t 55))),(au 57 56),(ay 58 (.mv (.t 0)) 57 false),(ay 59 (.mv (.t 3)) 57 false),(ay 60 (.ixs (.t 58) (.t 59)) 57 false),(ay 61 (.bin .neq (.t 60) (.c (b8 44))) 57 false),(aj 62 (.pick (.t 57) (.c (.bool true)) (.t 61)))])
abbrev qb:ax:=(.seq (.seq (.sem (erase rO)) (.cond (.t 21) .skip (.exit 0))) (.blk 1 (.seq (.rg [(au 22 0),(au 23 3),(aj 24 (.bin .add (.t 23) (.c (.int .i64 1)))),(aj 25 (.gR (.t 22) (some (.t 24)) none)),(aj 26 (.call (.c (.fn 78 [])) [(.t 25)])),(aR 4 26)]) (.seq (.seq (.rg [(au 27 0),(au 28 3),(aj 29 (.bin .add (.t 28) (.c (.int .i64 1)))),(au 30 3),(aj 31 (.bin .add (.t 30) (.c (.int .i64 1)))),(au 32 4),(aj 33 (.bin .add (.t 31) (.t 32))),(aj 34 (.gR (.t 27) (some (.t 29)) (some (.t 33)))),(aj 35 (.call (.c (.fn 79 [])) [(.t 34)])),(aj 36 (.un .not (.t 35)))]) (.cond (.t 36) (.seq (.rg [(aj 2 (.aP (.c (.int .i64 (-1)))))]) .ret) .skip)) (.seq (.rg [(au 37 3),(aj 38 (.bin .add (.t 37) (.c (.int .i64 1)))),(au 39 4),(aj 40 (.bin .add (.t 38) (.t 39))),(aR 3 40)]) (.seq (.seq (.sem (erase rP)) (.cond (.t 50) (.seq (.rg [(au 51 3),(aj 52 (.bin .add (.t 51) (.c (.int .i64 1)))),(aR 2 52)]) .ret) .skip)) (.seq (.seq (.sem (erase rQ)) (.cond (.t 62) (.seq (.rg [(aj 2 (.aP (.c (.int .i64 (-1)))))]) .ret) .skip)) (.rg [(au 63 3),(aj 64 (.bin .add (.t 63) (.c (.int .i64 1)))),(aR 3 64)]))))))))
abbrev Eu:ax:=(.seq (.rg [(aj 2 (.aP (.c (.int .i64 0))))]) (.seq (.seq (.sem (erase rN)) (.cond (.t 11) (.seq (.rg [(aj 2 (.aP (.c (.int .i64 0))))]) .ret) .skip)) (.seq (.rg [(aj 3 (.aP (.c (.int .i64 0))))]) (.seq (.blk 0 (.loop (erase qb))) (.seq (.rg [(aj 2 (.aP (.c (.int .i64 (-1)))))]) .ret)))))
theorem Ev:bN Tryz.prog 76 65 [(.tmp 2)] (erase Eu):=⟨Tryz.f76,_,rfl,by decide,rfl,by kernel_rfl,rfl,rfl⟩
abbrev gw:List Nat:=[0,2,3,4,11,21,36,50,62]
def mR (s1:List UInt8):Option (Bool):=
 (if (decide (s1=([]:List UInt8))) then
  some true
 else
  (idx s1 0).bind fun x2=>some (!decide (x2=64)))
def mS (i5:Int) (s1:List UInt8):Option (Bool):=
 (if (decide (i5<(s1.length:Int))) then
  (idx s1 i5).bind fun x6=>some (decide (x6=64))
 else
  some false)
def mT (i5:Int) (dM:Int) (s1:List UInt8):Option (Bool):=
 (if (decide ((IntKind.wrap .i64 ((IntKind.wrap .i64 (i5+1))+dM))<(s1.length:Int))) then
  (idx s1 (IntKind.wrap .i64 ((IntKind.wrap .i64 (i5+1))+dM))).bind fun gX=>some (decide (gX=58))
 else
  some false)
def mU (s1:List UInt8) (i5:Int) (dM:Int):Option (Bool):=
 (if (decide ((s1.length:Int)≤(IntKind.wrap .i64 ((IntKind.wrap .i64 (i5+1))+dM)))) then
  some true
 else
  (idx s1 (IntKind.wrap .i64 ((IntKind.wrap .i64 (i5+1))+dM))).bind fun lE=>some (!decide (lE=44)))
def mV (F:Nat) (s1:List UInt8):Int→Option (St Int Unit Int)
 |i5=>
  (mS i5 s1).bind fun t8=>
  (if t8 then
   (sub s1 (IntKind.wrap .i64 (i5+1)) (s1.length:Int)).bind fun x9=>
   (lW F x9).bind fun dM=>
   (sub s1 (IntKind.wrap .i64 (i5+1)) (IntKind.wrap .i64 ((IntKind.wrap .i64 (i5+1))+dM))).bind fun ga=>
   (ow F ga).bind fun iz=>
   (if (!iz) then
    some (.ret (-1))
   else
    (mT i5 dM s1).bind fun t15=>
    (if t15 then
     some (.ret (IntKind.wrap .i64 ((IntKind.wrap .i64 ((IntKind.wrap .i64 (i5+1))+dM))+1)))
    else
     (mU s1 i5 dM).bind fun t18=>
     (if t18 then
      some (.ret (-1))
     else
      some (.cY (IntKind.wrap .i64 ((IntKind.wrap .i64 ((IntKind.wrap .i64 (i5+1))+dM))+1))))))
  else
   some (.dR ()))
def uS (F:Nat) (s1:List UInt8):Option (Int):=
 (mR s1).bind fun t4=>
 (if t4 then
  some 0
 else
  ((iter (mV F s1) F 0).bind fun o21=>
  match o21 with
  | .inr ()=>
    some (-1)
  | .inl mc=>
    some mc))
theorem y9 {s1:List UInt8} {H:AH} {K:Exit→Env→AH→Prop} {t3:Bool}
 (h:mR s1=some t3)
 (kn:K .normal [(0,(.str s1)),(11,(.bool t3))] H):
 AX Tryz.prog gw 65 H.length (erase rN) K [(0,(.str s1))] H:=by
 refine bY fun K' hK=> ?_
 rw [mR.eq_1] at h
 refine aE ?_
 refine bP h (fun hy1 h=> ?_) fun hy1 h=> ?_
 · refine aV hy1 ?_
   obtain rfl:=aC h
   exact hK _ _ _ _ _ aJ ak kn
 · obtain ⟨x2,hy2,h⟩:=aq h
   refine aV (aA hy1 hy2) ?_
   obtain rfl:=aC h
   exact hK _ _ _ _ _ aJ ak kn
theorem za {i5:Int} {s1:List UInt8} {H:AH} {K:Exit→Env→AH→Prop} {t7:Bool}
 (h:mS i5 s1=some t7)
 (kn:K .normal [(0,(.str s1)),(3,(.int .i64 i5)),(21,(.bool t7))] H):
 AX Tryz.prog gw 65 H.length (erase rO) K [(0,(.str s1)),(3,(.int .i64 i5))] H:=by
 refine bY fun K' hK=> ?_
 rw [mS.eq_1] at h
 refine aE ?_
 refine bP h (fun bJ h=> ?_) fun bJ h=> ?_
 · obtain ⟨x6,b6,h⟩:=aq h
   refine aV (aA bJ b6) ?_
   obtain rfl:=aC h
   exact hK _ _ _ _ _ aJ ak kn
 · refine aV bJ ?_
   obtain rfl:=aC h
   exact hK _ _ _ _ _ aJ ak kn
theorem zb {i5:Int} {dM:Int} {s1:List UInt8} {H:AH} {K:Exit→Env→AH→Prop} {t14:Bool}
 (h:mT i5 dM s1=some t14)
 (kn:K .normal [(0,(.str s1)),(3,(.int .i64 (IntKind.wrap .i64 ((IntKind.wrap .i64 (i5+1))+dM)))),(50,(.bool t14))] H):
 AX Tryz.prog gw 65 H.length (erase rP) K [(0,(.str s1)),(3,(.int .i64 (IntKind.wrap .i64 ((IntKind.wrap .i64 (i5+1))+dM))))] H:=by
 refine bY fun K' hK=> ?_
 rw [mT.eq_1] at h
 refine aE ?_
 refine bP h (fun dV h=> ?_) fun dV h=> ?_
 · obtain ⟨gX,eT,h⟩:=aq h
   refine aV (aA dV eT) ?_
   obtain rfl:=aC h
   exact hK _ _ _ _ _ aJ ak kn
 · refine aV dV ?_
   obtain rfl:=aC h
   exact hK _ _ _ _ _ aJ ak kn
theorem zd {s1:List UInt8} {i5:Int} {dM:Int} {H:AH} {K:Exit→Env→AH→Prop} {t17:Bool}
 (h:mU s1 i5 dM=some t17)
 (kn:K .normal [(0,(.str s1)),(3,(.int .i64 (IntKind.wrap .i64 ((IntKind.wrap .i64 (i5+1))+dM)))),(62,(.bool t17))] H):
 AX Tryz.prog gw 65 H.length (erase rQ) K [(0,(.str s1)),(3,(.int .i64 (IntKind.wrap .i64 ((IntKind.wrap .i64 (i5+1))+dM))))] H:=by
 refine bY fun K' hK=> ?_
 rw [mU.eq_1] at h
 refine aE ?_
 refine bP h (fun gq h=> ?_) fun gq h=> ?_
 · refine aV gq ?_
   obtain rfl:=aC h
   exact hK _ _ _ _ _ aJ ak kn
 · obtain ⟨lE,fS,h⟩:=aq h
   refine aV (aA gq fS) ?_
   obtain rfl:=aC h
   exact hK _ _ _ _ _ aJ ak kn
theorem ze {F:Nat} {i5:Int} {s1:List UInt8} {H:AH} {K:Exit→Env→AH→Prop} {o:(Int)⊕(Unit)}
 (h:iter (mV F s1) F i5=some o)
 (dc:∀o':Unit,o= .inr o'→K (.exit 0) [] H)
 (kr:∀o':Int,o= .inl o'→K .ret [(2,(.int .i64 o'))] H):
 AX Tryz.prog gw 65 H.length (.loop (erase qb)) K [(0,(.str s1)),(3,(.int .i64 i5))] H:=by
 refine gL (fun s e H1=>match s with|i5=>e=[(0,(.str s1)),(3,(.int .i64 i5))]∧H1=H) h ⟨rfl,rfl⟩ ?_
 rintro K' i5 st e H ⟨rfl,rfl⟩ h hN hB hR hX
 rw [mV.eq_1] at h
 refine aE ?_
 obtain ⟨t8,cC,h⟩:=aq h
 refine bz ak (za cC ?_)
 refine aE ?_
 refine bk h (fun cr h=> ?_) fun cr h=> ?_
 · obtain ⟨x9,cP,h⟩:=aq h
   refine aV cP ?_
   obtain ⟨dM,ck,h⟩:=aq h
   refine bC ak (tR ck) ?_
   refine aE ?_
   obtain ⟨ga,cx,h⟩:=aq h
   refine aV cx ?_
   obtain ⟨iz,cN,h⟩:=aq h
   refine bC ak (vA cN) ?_
   refine aE ?_
   refine bk h (fun cH h=> ?_) fun cH h=> ?_
   · refine aE ?_
     obtain rfl:=aC h
     exact hX _ _ _ _ _ dm aJ ak (kr _ (hR _ rfl))
   · refine aE ?_
     obtain ⟨t15,ei,h⟩:=aq h
     refine bz ak (zb ei ?_)
     refine aE ?_
     refine bk h (fun gY h=> ?_) fun gY h=> ?_
     · refine aE ?_
       obtain rfl:=aC h
       exact hX _ _ _ _ _ dm aJ ak (kr _ (hR _ rfl))
     · refine aE ?_
       obtain ⟨t18,fT,h⟩:=aq h
       refine bz ak (zd fT ?_)
       refine aE ?_
       refine bk h (fun gr h=> ?_) fun gr h=> ?_
       · refine aE ?_
         obtain rfl:=aC h
         exact hX _ _ _ _ _ dm aJ ak (kr _ (hR _ rfl))
       · refine aE ?_
         obtain rfl:=aC h
         exact hN _ rfl _ _ _ _ aJ ak ⟨rfl,rfl⟩
 · refine aE ?_
   obtain rfl:=aC h
   exact hX _ _ _ _ _ dm WE.nil ak (dc _ (hB _ rfl))
theorem C6 {F:Nat} {s1:List UInt8} {H0:AH} {aS:Int} (h:uS F s1=some aS):
 aG Tryz.prog 76 [(.str s1)] H0 fun v H'=>v=(.int .i64 aS)∧H'=H0:=by
 refine fF Ev gw fun hcl K0 aO=> ?_
 rw [uS.eq_1] at h
 refine aE ?_
 obtain ⟨t4,hy3,h⟩:=aq h
 refine bz ak (y9 hy3 ?_)
 refine aE ?_
 refine bk h (fun hy4 h=> ?_) fun hy4 h=> ?_
 · refine aE ?_
   obtain rfl:=aC h
   exact aO _ _ _ bh (aK hcl (aW aZ (.int .i64 0)) bf aX ⟨rfl,rfl⟩)
 · refine aE ?_
   obtain ⟨o21,gZ,h⟩:=aq h
   refine bz ak (ze gZ ?_ ?_)
   · rintro ⟨⟩ rfl
     try dsimp only at h
     refine aE ?_
     obtain rfl:=aC h
     exact aO _ _ _ bh (aK hcl (aW aZ (.int .i64 (-1))) bf aX ⟨rfl,rfl⟩)
   · rintro mc rfl
     try dsimp only at h
     refine aE ?_
     obtain rfl:=aC h
     exact aO _ _ _ bh (aK hcl (aW aZ (.int .i64 mc)) bf aX ⟨rfl,rfl⟩)
abbrev rR:ax:=(.rg [(au 5 0),(aj 6 (.call (.c (.fn 75 [])) [(.t 5)])),(au 7 6),(ay 8 (.mv (.t 0)) 7 false),(ay 9 (.call (.c (.fn 74 [])) [(.t 8)]) 7 false),(aj 10 (.pick (.t 7) (.c (.bool true)) (.t 9)))])
abbrev qc:ax:=(.seq (.seq (.rg [(au 11 4),(au 12 3),(aj 13 (.lens (.t 12))),(aj 14 (.bin .lss (.t 11) (.t 13)))]) (.cond (.t 14) .skip (.exit 0))) (.seq (.blk 1 (.seq (.rg [(au 17 3),(au 18 4),(aj 19 (.ixs (.t 17) (.t 18))),(au 20 0),(aj 21 (.bin .eql (.t 19) (.t 20)))]) (.cond (.t 21) (.seq (.rg [(aj 2 (.aP (.c (.bool true))))]) .ret) .skip))) (.rg [(au 15 4),(aj 16 (.bin .add (.t 15) (.c (.int .i64 1)))),(aR 4 16)])))
abbrev Ew:ax:=(.seq (.rg [(aj 2 (.aP (.c (.bool false))))]) (.seq (.seq (.sem (erase rR)) (.cond (.t 10) (.seq (.rg [(aj 2 (.aP (.c (.bool true))))]) .ret) .skip)) (.seq (.rg [(aj 3 (.aP (.c (.str [33,35,36,37,38,39,42,43,45,47,61,63,94,95,123,124,125,126]))))]) (.seq (.seq (.rg [(aj 4 (.aP (.c (.int .i64 0))))]) (.blk 0 (.loop (erase qc)))) (.seq (.rg [(au 22 0),(aj 23 (.bin .eql (.t 22) (.c (b8 96)))),(aR 2 23)]) .ret)))))
theorem Ex:bN Tryz.prog 107 24 [(.tmp 2)] (erase Ew):=⟨Tryz.f107,_,rfl,by decide,rfl,by kernel_rfl,rfl,rfl⟩
abbrev qd:List Nat:=[0,2,3,4,10,14,21]
def mW (c1:UInt8):Option (Bool):=
 (fj c1).bind fun r2=>
 (if r2 then
  some true
 else
  (e7 c1).bind fun r3=>some r3)
def mX (c1:UInt8):Int→Option (St Bool Unit Int)
 |i6=>
  (if (decide (i6<(([33,35,36,37,38,39,42,43,45,47,61,63,94,95,123,124,125,126]:List UInt8).length:Int))) then
   (idx ([33,35,36,37,38,39,42,43,45,47,61,63,94,95,123,124,125,126]:List UInt8) i6).bind fun x7=>
   (if (decide (x7=c1)) then
    some (.ret true)
   else
    some (.cY (IntKind.wrap .i64 (i6+1))))
  else
   some (.dR ()))
def ox (F:Nat) (c1:UInt8):Option (Bool):=
 (mW c1).bind fun t5=>
 (if t5 then
  some true
 else
  ((iter (mX c1) F 0).bind fun UU=>
  match UU with
  | .inr ()=>
    some (decide (c1=96))
  | .inl r9=>
    some r9))
theorem zf {c1:UInt8} {H:AH} {K:Exit→Env→AH→Prop} {t4:Bool}
 (h:mW c1=some t4)
 (kn:K .normal [(0,(b8 c1)),(10,(.bool t4))] H):
 AX Tryz.prog qd 24 H.length (erase rR) K [(0,(b8 c1))] H:=by
 refine bY fun K' hK=> ?_
 rw [mW.eq_1] at h
 refine aE ?_
 obtain ⟨r2,hy1,h⟩:=aq h
 refine bC ak (jf hy1) ?_
 refine aE ?_
 refine bP h (fun hy2 h=> ?_) fun hy2 h=> ?_
 · refine aV hy2 ?_
   obtain rfl:=aC h
   exact hK _ _ _ _ _ aJ ak kn
 · refine aV hy2 ?_
   obtain ⟨r3,hy3,h⟩:=aq h
   refine bC ak (hO hy3) ?_
   refine aE ?_
   obtain rfl:=aC h
   exact hK _ _ _ _ _ aJ ak kn
theorem zg {F:Nat} {i6:Int} {c1:UInt8} {H:AH} {K:Exit→Env→AH→Prop} {o:(Bool)⊕(Unit)}
 (h:iter (mX c1) F i6=some o)
 (dc:∀o':Unit,o= .inr o'→K (.exit 0) [(0,(b8 c1))] H)
 (kr:∀o':Bool,o= .inl o'→K .ret [(2,(.bool o'))] H):
 AX Tryz.prog qd 24 H.length (.loop (erase qc)) K [(0,(b8 c1)),(3,(.str ([33,35,36,37,38,39,42,43,45,47,61,63,94,95,123,124,125,126]:List UInt8))),(4,(.int .i64 i6))] H:=by
 refine gL (fun s e H1=>match s with|i6=>e=[(0,(b8 c1)),(3,(.str ([33,35,36,37,38,39,42,43,45,47,61,63,94,95,123,124,125,126]:List UInt8))),(4,(.int .i64 i6))]∧H1=H) h ⟨rfl,rfl⟩ ?_
 rintro K' i6 st e H ⟨rfl,rfl⟩ h hN hB hR hX
 rw [mX.eq_1] at h
 refine aE ?_
 refine bk h (fun b6 h=> ?_) fun b6 h=> ?_
 · obtain ⟨x7,cC,h⟩:=aq h
   refine aV cC ?_
   refine bk h (fun cr h=> ?_) fun cr h=> ?_
   · refine aE ?_
     obtain rfl:=aC h
     exact hX _ _ _ _ _ dm aJ ak (kr _ (hR _ rfl))
   · refine aE ?_
     obtain rfl:=aC h
     exact hN _ rfl _ _ _ _ aJ ak ⟨rfl,rfl⟩
 · refine aE ?_
   obtain rfl:=aC h
   exact hX _ _ _ _ _ dm aJ ak (dc _ (hB _ rfl))
theorem vB {F:Nat} {c1:UInt8} {H0:AH} {aS:Bool} (h:ox F c1=some aS):
 aG Tryz.prog 107 [(b8 c1)] H0 fun v H'=>v=(.bool aS)∧H'=H0:=by
 refine fF Ex qd fun hcl K0 aO=> ?_
 rw [ox.eq_1] at h
 refine aE ?_
 obtain ⟨t5,hy4,h⟩:=aq h
 refine bz ak (zf hy4 ?_)
 refine aE ?_
 refine bk h (fun bJ h=> ?_) fun bJ h=> ?_
 · refine aE ?_
   obtain rfl:=aC h
   exact aO _ _ _ bh (aK hcl (aW aZ (.bool true)) bf aX ⟨rfl,rfl⟩)
 · refine aE ?_
   obtain ⟨UU,cP,h⟩:=aq h
   refine bz ak (zg cP ?_ ?_)
   · rintro ⟨⟩ rfl
     try dsimp only at h
     refine aE ?_
     obtain rfl:=aC h
     exact aO _ _ _ bh (aK hcl (aW aZ (.bool (decide (c1=96)))) bf aX ⟨rfl,rfl⟩)
   · rintro r9 rfl
     try dsimp only at h
     refine aE ?_
     obtain rfl:=aC h
     exact aO _ _ _ bh (aK hcl (aW aZ (.bool r9)) bf aX ⟨rfl,rfl⟩)
abbrev rS:ax:=(.rg [(au 11 0),(au 12 3),(aj 13 (.ixs (.t 11) (.t 12))),(aj 14 (.bin .eql (.t 13) (.c (b8 46)))),(au 15 14),(ay 16 (.mv (.t 3)) 15 true),(ay 17 (.bin .gtr (.t 16) (.c (.int .i64 0))) 15 true),(aj 18 (.pick (.t 15) (.t 17) (.c (.bool false)))),(au 19 18),(ay 20 (.mv (.t 3)) 19 true),(ay 21 (.bin .add (.t 20) (.c (.int .i64 1))) 19 true),(ay 22 (.mv (.t 0)) 19 true),(ay 23 (.lens (.t 22)) 19 true),(ay 24 (.bin .lss (.t 21) (.t 23)) 19 true),(aj 25 (.pick (.t 19) (.t 24) (.c (.bool false)))),(au 26 25),(ay 27 (.mv (.t 0)) 26 true),(ay 28 (.mv (.t 3)) 26 true),(ay 29 (.bin .sub (.t 28) (.c (.int .i64 1))) 26 true),(ay 30 (.ixs (.t 27) (.t 29)) 26 true),(ay 31 (.bin .neq (.t 30) (.c (b8 46))) 26 true),(aj 32 (.pick (.t 26) (.t 31) (.c (.bool false)))),(aR 4 32)])
abbrev rT:ax:=(.rg [(au 33 4),(aj 34 (.un .not (.t 33))),(au 35 34),(ay 36 (.mv (.t 0)) 35 true),(ay 37 (.mv (.t 3)) 35 true),(ay 38 (.ixs (.t 36) (.t 37)) 35 true),(ay 39 (.call (.c (.fn 107 [])) [(.t 38)]) 35 true),(ay 40 (.un .not (.t 39)) 35 true),(aj 41 (.pick (.t 35) (.t 40) (.c (.bool false))))])
abbrev qe:ax:=(.seq (.seq (.rg [(au 5 3),(au 6 0),(aj 7 (.lens (.t 6))),(aj 8 (.bin .lss (.t 5) (.t 7)))]) (.cond (.t 8) .skip (.exit 0))) (.seq (.blk 1 (.seq (.sem (erase rS)) (.seq (.sem (erase rT)) (.cond (.t 41) (.seq (.rg [(aj 2 (.aP (.c (.bool false))))]) .ret) .skip)))) (.rg [(au 9 3),(aj 10 (.bin .add (.t 9) (.c (.int .i64 1)))),(aR 3 10)])))
abbrev Ey:ax:=(.seq (.rg [(aj 2 (.aP (.c (.bool false))))]) (.seq (.seq (.rg [(aj 3 (.aP (.c (.int .i64 0))))]) (.blk 0 (.loop (erase qe)))) (.seq (.rg [(au 42 0),(aj 43 (.bin .neq (.t 42) (.c (.str [])))),(aR 2 43)]) .ret)))
theorem Ez:bN Tryz.prog 84 44 [(.tmp 2)] (erase Ey):=⟨Tryz.f84,_,rfl,by decide,rfl,by kernel_rfl,rfl,rfl⟩
abbrev kN:List Nat:=[0,2,3,4,8,41]
def mY (s1:List UInt8) (i2:Int):Option (Bool):=
 (idx s1 i2).bind fun x3=>
 (if (decide (x3=46)) then
  (if (decide (0<i2)) then
   (if (decide ((IntKind.wrap .i64 (i2+1))<(s1.length:Int))) then
    (idx s1 (IntKind.wrap .i64 (i2 - 1))).bind fun x4=>some (!decide (x4=46))
   else
    some false)
  else
   some false)
 else
  some false)
def mZ (F:Nat) (EA:Bool) (s1:List UInt8) (i2:Int):Option (Bool):=
 (if (!EA) then
  (idx s1 i2).bind fun x7=>(ox F x7).bind fun r8=>some (!r8)
 else
  some false)
def nc (F:Nat) (s1:List UInt8):Int→Option (St Bool Unit Int)
 |i2=>
  (if (decide (i2<(s1.length:Int))) then
   (mY s1 i2).bind fun EA=>
   (mZ F EA s1 i2).bind fun t10=>
   (if t10 then
    some (.ret false)
   else
    some (.cY (IntKind.wrap .i64 (i2+1))))
  else
   some (.dR ()))
def oy (F:Nat) (s1:List UInt8):Option (Bool):=
 ((iter (nc F s1) F 0).bind fun UQ=>
 match UQ with
 | .inr ()=>
   some (!decide (s1=([]:List UInt8)))
 | .inl iz=>
   some iz)
theorem zh {s1:List UInt8} {i2:Int} {H:AH} {K:Exit→Env→AH→Prop} {YV:Bool}
 (h:mY s1 i2=some YV)
 (kn:K .normal [(0,(.str s1)),(3,(.int .i64 i2)),(4,(.bool YV))] H):
 AX Tryz.prog kN 44 H.length (erase rS) K [(0,(.str s1)),(3,(.int .i64 i2))] H:=by
 refine bY fun K' hK=> ?_
 rw [mY.eq_1] at h
 obtain ⟨x3,hy2,h⟩:=aq h
 refine aV hy2 ?_
 refine bP h (fun hy3 h=> ?_) fun hy3 h=> ?_
 · refine aV hy3 ?_
   refine bP h (fun hy4 h=> ?_) fun hy4 h=> ?_
   · refine aV hy4 ?_
     refine bP h (fun bJ h=> ?_) fun bJ h=> ?_
     · obtain ⟨x4,b6,h⟩:=aq h
       refine aV (aA bJ b6) ?_
       obtain rfl:=aC h
       exact hK _ _ _ _ _ aJ ak kn
     · refine aV bJ ?_
       obtain rfl:=aC h
       exact hK _ _ _ _ _ aJ ak kn
   · refine aV hy4 ?_
     obtain rfl:=aC h
     exact hK _ _ _ _ _ aJ ak kn
 · refine aV hy3 ?_
   obtain rfl:=aC h
   exact hK _ _ _ _ _ aJ ak kn
theorem zi {F:Nat} {EA:Bool} {s1:List UInt8} {i2:Int} {H:AH} {K:Exit→Env→AH→Prop} {t9:Bool}
 (h:mZ F EA s1 i2=some t9)
 (kn:K .normal [(0,(.str s1)),(3,(.int .i64 i2)),(41,(.bool t9))] H):
 AX Tryz.prog kN 44 H.length (erase rT) K [(0,(.str s1)),(3,(.int .i64 i2)),(4,(.bool EA))] H:=by
 refine bY fun K' hK=> ?_
 rw [mZ.eq_1] at h
 refine aE ?_
 refine bP h (fun cr h=> ?_) fun cr h=> ?_
 · obtain ⟨x7,cP,h⟩:=aq h
   refine aV (aA cr cP) ?_
   obtain ⟨r8,ck,h⟩:=aq h
   refine bC ak (vB ck) ?_
   refine aE ?_
   obtain rfl:=aC h
   exact hK _ _ _ _ _ aJ ak kn
 · refine aV cr ?_
   obtain rfl:=aC h
   exact hK _ _ _ _ _ aJ ak kn
theorem zj {F:Nat} {i2:Int} {s1:List UInt8} {H:AH} {K:Exit→Env→AH→Prop} {o:(Bool)⊕(Unit)}
 (h:iter (nc F s1) F i2=some o)
 (dc:∀o':Unit,o= .inr o'→K (.exit 0) [(0,(.str s1))] H)
 (kr:∀o':Bool,o= .inl o'→K .ret [(2,(.bool o'))] H):
 AX Tryz.prog kN 44 H.length (.loop (erase qe)) K [(0,(.str s1)),(3,(.int .i64 i2))] H:=by
 refine gL (fun s e H1=>match s with|i2=>e=[(0,(.str s1)),(3,(.int .i64 i2))]∧H1=H) h ⟨rfl,rfl⟩ ?_
 rintro K' i2 st e H ⟨rfl,rfl⟩ h hN hB hR hX
 rw [nc.eq_1] at h
 refine aE ?_
 refine bk h (fun hy1 h=> ?_) fun hy1 h=> ?_
 · refine aE ?_
   obtain ⟨EA,cC,h⟩:=aq h
   refine bz ak (zh cC ?_)
   refine aE ?_
   obtain ⟨t10,cx,h⟩:=aq h
   refine bz ak (zi cx ?_)
   refine aE ?_
   refine bk h (fun cN h=> ?_) fun cN h=> ?_
   · refine aE ?_
     obtain rfl:=aC h
     exact hX _ _ _ _ _ dm aJ ak (kr _ (hR _ rfl))
   · refine aE ?_
     obtain rfl:=aC h
     exact hN _ rfl _ _ _ _ aJ ak ⟨rfl,rfl⟩
 · refine aE ?_
   obtain rfl:=aC h
   exact hX _ _ _ _ _ dm aJ ak (dc _ (hB _ rfl))
theorem vC {F:Nat} {s1:List UInt8} {H0:AH} {aS:Bool} (h:oy F s1=some aS):
 aG Tryz.prog 84 [(.str s1)] H0 fun v H'=>v=(.bool aS)∧H'=H0:=by
 refine fF Ez kN fun hcl K0 aO=> ?_
 rw [oy.eq_1] at h
 refine aE ?_
 obtain ⟨UQ,cH,h⟩:=aq h
 refine bz ak (zj cH ?_ ?_)
 · rintro ⟨⟩ rfl
   try dsimp only at h
   refine aE ?_
   obtain rfl:=aC h
   exact aO _ _ _ bh (aK hcl (aW aZ (.bool (!decide (s1=([]:List UInt8))))) bf aX ⟨rfl,rfl⟩)
 · rintro iz rfl
   try dsimp only at h
   refine aE ?_
   obtain rfl:=aC h
   exact aO _ _ _ bh (aK hcl (aW aZ (.bool iz)) bf aX ⟨rfl,rfl⟩)
abbrev rU:ax:=(.rg [(au 7 0),(aj 8 (.bin .neq (.t 7) (.c (.str [])))),(au 9 8),(ay 10 (.mv (.t 0)) 9 true),(ay 11 (.ixs (.t 10) (.c (.int .i64 0))) 9 true),(ay 12 (.bin .eql (.t 11) (.c (b8 34))) 9 true),(aj 13 (.pick (.t 9) (.t 12) (.c (.bool false))))])
abbrev rV:ax:=(.rg [(au 14 5),(au 15 0),(aj 16 (.lens (.t 15))),(aj 17 (.bin .lss (.t 14) (.t 16))),(au 18 17),(ay 19 (.mv (.t 0)) 18 true),(ay 20 (.mv (.t 5)) 18 true),(ay 21 (.ixs (.t 19) (.t 20)) 18 true),(ay 22 (.bin .neq (.t 21) (.c (b8 34))) 18 true),(aj 23 (.pick (.t 18) (.t 22) (.c (.bool false))))])
abbrev rW:ax:=(.cond (.t 27) (.rg [(au 28 5),(aj 29 (.bin .add (.t 28) (.c (.int .i64 1)))),(aR 5 29)]) .skip)
abbrev rX:ax:=(.rg [(au 30 5),(au 31 0),(aj 32 (.lens (.t 31))),(aj 33 (.bin .geq (.t 30) (.t 32))),(au 34 33),(ay 35 (.mv (.t 0)) 34 false),(ay 36 (.mv (.t 5)) 34 false),(ay 37 (.ixs (.t 35) (.t 36)) 34 false),(ay 38 (.bin .lss (.t 37) (.c (b8 32))) 34 false),(aj 39 (.pick (.t 34) (.c (.bool true)) (.t 38))),(au 40 39),(ay 41 (.mv (.t 0)) 40 false),(ay 42 (.mv (.t 5)) 40 false),(ay 43 (.ixs (.t 41) (.t 42)) 40 false),(ay 44 (.bin .gtr (.t 43) (.c (b8 126))) 40 false),(aj 45 (.pick (.t 40) (.c (.bool true)) (.t 44)))])
abbrev qf:ax:=(.seq (.seq (.sem (erase rV)) (.cond (.t 23) .skip (.exit 0))) (.blk 1 (.seq (.seq (.rg [(au 24 0),(au 25 5),(aj 26 (.ixs (.t 24) (.t 25))),(aj 27 (.bin .eql (.t 26) (.c (b8 92))))]) (.sem (erase rW))) (.seq (.seq (.sem (erase rX)) (.cond (.t 45) (.seq (.rg [(aj 2 (.aP (.c (.str [])))),(aj 3 (.aP (.c (.int .i64 (-1)))))]) .ret) .skip)) (.seq (.rg [(au 46 4),(au 47 0),(au 48 5),(aj 49 (.ixs (.t 47) (.t 48))),(aj 50 (.qD 1 [(.t 49)])),(aj 51 (.app 1 1 (.t 46) (.t 50))),(aR 4 51)]) (.rg [(au 52 5),(aj 53 (.bin .add (.t 52) (.c (.int .i64 1)))),(aR 5 53)]))))))
abbrev rY:ax:=(.rg [(au 54 5),(au 55 0),(aj 56 (.lens (.t 55))),(aj 57 (.bin .geq (.t 54) (.t 56))),(au 58 57),(ay 59 (.mv (.t 4)) 58 false),(ay 60 (.len (.t 59)) 58 false),(ay 61 (.bin .eql (.t 60) (.c (.int .i64 0))) 58 false),(aj 62 (.pick (.t 58) (.c (.bool true)) (.t 61)))])
abbrev rZ:ax:=(.rg [(au 67 6),(au 68 0),(aj 69 (.lens (.t 68))),(aj 70 (.bin .lss (.t 67) (.t 69))),(au 71 70),(ay 72 (.mv (.t 0)) 71 true),(ay 73 (.mv (.t 6)) 71 true),(ay 74 (.ixs (.t 72) (.t 73)) 71 true),(ay 75 (.call (.c (.fn 107 [])) [(.t 74)]) 71 true),(ay 76 (.mv (.t 75)) 71 true),(ay 77 (.mv (.t 0)) 76 false),(ay 78 (.mv (.t 6)) 76 false),(ay 79 (.ixs (.t 77) (.t 78)) 76 false),(ay 80 (.bin .eql (.t 79) (.c (b8 46))) 76 false),(ay 81 (.pick (.t 76) (.c (.bool true)) (.t 80)) 71 true),(aj 82 (.pick (.t 71) (.t 81) (.c (.bool false))))])
abbrev qg:ax:=(.seq (.seq (.sem (erase rZ)) (.cond (.t 82) .skip (.exit 2))) (.blk 3 (.rg [(au 83 6),(aj 84 (.bin .add (.t 83) (.c (.int .i64 1)))),(aR 6 84)])))
abbrev EB:ax:=(.seq (.rg [(aj 2 (.aP (.c (.str [])))),(aj 3 (.aP (.c (.int .i64 0))))]) (.seq (.seq (.sem (erase rU)) (.cond (.t 13) (.seq (.rg [(aj 4 (.aP (.c (.sl .ex 1 []))))]) (.seq (.rg [(aj 5 (.aP (.c (.int .i64 1))))]) (.seq (.blk 0 (.loop (erase qf))) (.seq (.seq (.sem (erase rY)) (.cond (.t 62) (.seq (.rg [(aj 2 (.aP (.c (.str [])))),(aj 3 (.aP (.c (.int .i64 (-1)))))]) .ret) .skip)) (.seq (.rg [(au 63 4),(aj 64 (.jt .bs (.t 63))),(au 65 5),(aj 66 (.bin .add (.t 65) (.c (.int .i64 1)))),(aR 2 64),(aR 3 66)]) .ret))))) .skip)) (.seq (.rg [(aj 6 (.aP (.c (.int .i64 0))))]) (.seq (.blk 2 (.loop (erase qg))) (.seq (.seq (.rg [(au 85 0),(au 86 6),(aj 87 (.gR (.t 85) none (some (.t 86)))),(aj 88 (.call (.c (.fn 84 [])) [(.t 87)])),(aj 89 (.un .not (.t 88)))]) (.cond (.t 89) (.seq (.rg [(aj 2 (.aP (.c (.str [])))),(aj 3 (.aP (.c (.int .i64 (-1)))))]) .ret) .skip)) (.seq (.rg [(au 90 0),(au 91 6),(aj 92 (.gR (.t 90) none (some (.t 91)))),(au 93 6),(aR 2 92),(aR 3 93)]) .ret))))))
theorem EC:bN Tryz.prog 77 94 [(.tmp 2),(.tmp 3)] (erase EB):=⟨Tryz.f77,_,rfl,by decide,rfl,by kernel_rfl,rfl,rfl⟩
abbrev ef:List Nat:=[0,2,3,4,5,6,13,23,27,45,62,82,89]
def ng (s1:List UInt8):Option (Bool):=
 (if (!decide (s1=([]:List UInt8))) then
  (idx s1 0).bind fun x2=>some (decide (x2=34))
 else
  some false)
def nh (i6:Int) (s1:List UInt8):Option (Bool):=
 (if (decide (i6<(s1.length:Int))) then
  (idx s1 i6).bind fun x7=>some (!decide (x7=34))
 else
  some false)
def ni (xQ:UInt8) (i6:Int):Option (Int):=
 (if (decide (xQ=92)) then
  some (IntKind.wrap .i64 (i6+1))
 else
  some i6)
def nj (s1:List UInt8) (i12:Int):Option (Bool):=
 (if (decide ((s1.length:Int)≤i12)) then
  some true
 else
  (idx s1 i12).bind fun gX=>
  (if (decide (gX<32)) then
   some true
  else
   some (decide (126<gX))))
def nk (s1:List UInt8):((List UInt8)×Int)→Option (St ((List UInt8)×Int) ((List UInt8)×Int) ((List UInt8)×Int))
 |(b5,i6)=>
  (nh i6 s1).bind fun t9=>
  (if t9 then
   (idx s1 i6).bind fun xQ=>
   (ni xQ i6).bind fun i12=>
   (nj s1 i12).bind fun t15=>
   (if t15 then
    some (.ret (([]:List UInt8),(-1)))
   else
    (idx s1 i12).bind fun lE=>
    (fe 1 b5 ([lE]:List UInt8)).bind fun qR=>some (.cY (qR,(IntKind.wrap .i64 (i12+1)))))
  else
   some (.dR (b5,i6)))
def nr (F:Nat) (nX:Int) (s1:List UInt8):Option (Bool):=
 (if (decide (nX<(s1.length:Int))) then
  (idx s1 nX).bind fun yb=>
  (ox F yb).bind fun fG=>(if fG then
   some true
  else
   some (decide (yb=46)))
 else
  some false)
def nt (F:Nat) (s1:List UInt8):Int→Option (St ((List UInt8)×Int) Int Int)
 |nX=>
  (nr F nX s1).bind fun t31=>
  (if t31 then
   some (.cY (IntKind.wrap .i64 (nX+1)))
  else
   some (.dR nX))
def uT (F:Nat) (s1:List UInt8):Option ((List UInt8)×Int):=
 (ng s1).bind fun t4=>
 (if t4 then
  ((iter (nk s1) F (([]:List UInt8),1)).bind fun UT=>
  match UT with
  | .inr (FW,i23)=>
    (if ((decide ((s1.length:Int)≤i23))||(decide ((FW.length:Int)=0))) then
     some (([]:List UInt8),(-1))
    else
     some (FW,(IntKind.wrap .i64 (i23+1))))
  | .inl (Rp,k6)=>
    some (Rp,k6))
 else
  ((iter (nt F s1) F 0).bind fun UP=>
  match UP with
  | .inr Ou=>
    (sub s1 0 Ou).bind fun XV=>
    (oy F XV).bind fun Rn=>
    (if (!Rn) then
     some (([]:List UInt8),(-1))
    else
     some (XV,Ou))
  | .inl _=>none))
theorem zk {s1:List UInt8} {H:AH} {K:Exit→Env→AH→Prop} {t3:Bool}
 (h:ng s1=some t3)
 (kn:K .normal [(0,(.str s1)),(13,(.bool t3))] H):
 AX Tryz.prog ef 94 H.length (erase rU) K [(0,(.str s1))] H:=by
 refine bY fun K' hK=> ?_
 rw [ng.eq_1] at h
 refine aE ?_
 refine bP h (fun hy1 h=> ?_) fun hy1 h=> ?_
 · obtain ⟨x2,hy2,h⟩:=aq h
   refine aV (aA hy1 hy2) ?_
   obtain rfl:=aC h
   exact hK _ _ _ _ _ aJ ak kn
 · refine aV hy1 ?_
   obtain rfl:=aC h
   exact hK _ _ _ _ _ aJ ak kn
theorem zm {i6:Int} {s1:List UInt8} {b5:List UInt8} {H:AH} {K:Exit→Env→AH→Prop} {t8:Bool}
 (h:nh i6 s1=some t8)
 (kn:K .normal [(0,(.str s1)),(4,(.sl .own 1 (ml b8 b5))),(5,(.int .i64 i6)),(23,(.bool t8))] H):
 AX Tryz.prog ef 94 H.length (erase rV) K [(0,(.str s1)),(4,(.sl .own 1 (ml b8 b5))),(5,(.int .i64 i6))] H:=by
 refine bY fun K' hK=> ?_
 rw [nh.eq_1] at h
 refine aE ?_
 refine bP h (fun bJ h=> ?_) fun bJ h=> ?_
 · obtain ⟨x7,b6,h⟩:=aq h
   refine aV (aA bJ b6) ?_
   obtain rfl:=aC h
   exact hK _ _ _ _ _ aJ ak kn
 · refine aV bJ ?_
   obtain rfl:=aC h
   exact hK _ _ _ _ _ aJ ak kn
theorem zn {xQ:UInt8} {i6:Int} {s1:List UInt8} {b5:List UInt8} {H:AH} {K:Exit→Env→AH→Prop} {i11:Int}
 (h:ni xQ i6=some i11)
 (kn:K .normal [(0,(.str s1)),(4,(.sl .own 1 (ml b8 b5))),(5,(.int .i64 i11))] H):
 AX Tryz.prog ef 94 H.length (erase rW) K [(0,(.str s1)),(4,(.sl .own 1 (ml b8 b5))),(5,(.int .i64 i6)),(27,(.bool (decide (xQ=92))))] H:=by
 refine bY fun K' hK=> ?_
 rw [ni.eq_1] at h
 refine aE ?_
 refine bk h (fun ck h=> ?_) fun ck h=> ?_
 · refine aE ?_
   obtain rfl:=aC h
   exact hK _ _ _ _ _ aJ ak kn
 · refine aE ?_
   obtain rfl:=aC h
   exact hK _ _ _ _ _ aJ ak kn
theorem zo {s1:List UInt8} {i12:Int} {b5:List UInt8} {H:AH} {K:Exit→Env→AH→Prop} {t14:Bool}
 (h:nj s1 i12=some t14)
 (kn:K .normal [(0,(.str s1)),(4,(.sl .own 1 (ml b8 b5))),(5,(.int .i64 i12)),(45,(.bool t14))] H):
 AX Tryz.prog ef 94 H.length (erase rX) K [(0,(.str s1)),(4,(.sl .own 1 (ml b8 b5))),(5,(.int .i64 i12))] H:=by
 refine bY fun K' hK=> ?_
 rw [nj.eq_1] at h
 refine aE ?_
 refine bP h (fun cN h=> ?_) fun cN h=> ?_
 · refine aV cN ?_
   obtain rfl:=aC h
   exact hK _ _ _ _ _ aJ ak kn
 · obtain ⟨gX,cH,h⟩:=aq h
   refine aV (aA cN cH) ?_
   refine bP h (fun dV h=> ?_) fun dV h=> ?_
   · refine aV dV ?_
     obtain rfl:=aC h
     exact hK _ _ _ _ _ aJ ak kn
   · refine aV (aA dV cH) ?_
     obtain rfl:=aC h
     exact hK _ _ _ _ _ aJ ak kn
theorem zp {F:Nat} {i6:Int} {s1:List UInt8} {b5:List UInt8} {H:AH} {K:Exit→Env→AH→Prop} {o:((List UInt8)×Int)⊕((List UInt8)×Int)}
 (h:iter (nk s1) F (b5,i6)=some o)
 (dc:∀o':(List UInt8)×Int,o= .inr o'→K (.exit 0) [(0,(.str s1)),(4,(.sl .own 1 (ml b8 o'.1))),(5,(.int .i64 o'.2))] H)
 (kr:∀o':(List UInt8)×Int,o= .inl o'→K .ret [(2,(.str o'.1)),(3,(.int .i64 o'.2))] H):
 AX Tryz.prog ef 94 H.length (.loop (erase qf)) K [(0,(.str s1)),(4,(.sl .own 1 (ml b8 b5))),(5,(.int .i64 i6))] H:=by
 refine gL (fun s e H1=>match s with|(b5,i6)=>e=[(0,(.str s1)),(4,(.sl .own 1 (ml b8 b5))),(5,(.int .i64 i6))]∧H1=H) h ⟨rfl,rfl⟩ ?_
 rintro K' ⟨b5,i6⟩ st e H ⟨rfl,rfl⟩ h hN hB hR hX
 rw [nk.eq_1] at h
 refine aE ?_
 obtain ⟨t9,cC,h⟩:=aq h
 refine bz ak (zm (b5:=b5) cC ?_)
 refine aE ?_
 refine bk h (fun cr h=> ?_) fun cr h=> ?_
 · obtain ⟨xQ,cP,h⟩:=aq h
   refine aV cP ?_
   obtain ⟨i12,cx,h⟩:=aq h
   refine bz ak (zn (s1:=s1) (b5:=b5) cx ?_)
   refine aE ?_
   obtain ⟨t15,eT,h⟩:=aq h
   refine bz ak (zo (b5:=b5) eT ?_)
   refine aE ?_
   refine bk h (fun ei h=> ?_) fun ei h=> ?_
   · refine aE ?_
     obtain rfl:=aC h
     exact hX _ _ _ _ _ dm aJ ak (kr _ (hR _ rfl))
   · obtain ⟨lE,gY,h⟩:=aq h
     obtain ⟨qR,gq,h⟩:=aq h
     have fS:fe 1 (ml b8 b5) [(b8 lE)]=some (ml b8 qR):=lR (f:=b8) gq
     refine aV (aA gY fS) ?_
     obtain rfl:=aC h
     exact hN _ rfl _ _ _ _ aJ ak ⟨rfl,rfl⟩
 · refine aE ?_
   obtain rfl:=aC h
   exact hX _ _ _ _ _ dm aJ ak (dc _ (hB _ rfl))
theorem zq {s1:List UInt8} {FW:List UInt8} {i23:Int} {H:AH} {K:Exit→Env→AH→Prop}
 (kn:K .normal [(4,(.sl .own 1 (ml b8 FW))),(5,(.int .i64 i23)),(62,(.bool ((decide ((s1.length:Int)≤i23))||(decide ((FW.length:Int)=0)))))] H):
 AX Tryz.prog ef 94 H.length (erase rY) K [(0,(.str s1)),(4,(.sl .own 1 (ml b8 FW))),(5,(.int .i64 i23))] H:=by
 refine bY fun K' hK=> ?_
 refine aE ?_
 refine gK (fun gr=> ?_) fun gr=> ?_
 · refine aV gr ?_
   exact hK _ _ _ _ _ (dy gr) ak kn
 · refine aV gr ?_
   exact hK _ _ _ _ _ (dy gr) ak kn
theorem zu {F:Nat} {nX:Int} {s1:List UInt8} {H:AH} {K:Exit→Env→AH→Prop} {t30:Bool}
 (h:nr F nX s1=some t30)
 (kn:K .normal [(0,(.str s1)),(6,(.int .i64 nX)),(82,(.bool t30))] H):
 AX Tryz.prog ef 94 H.length (erase rZ) K [(0,(.str s1)),(6,(.int .i64 nX))] H:=by
 refine bY fun K' hK=> ?_
 rw [nr.eq_1] at h
 refine aE ?_
 refine bP h (fun iQ h=> ?_) fun iQ h=> ?_
 · obtain ⟨yb,gD,h⟩:=aq h
   refine aV (aA iQ gD) ?_
   obtain ⟨fG,hM,h⟩:=aq h
   refine bC ak (vB hM) ?_
   refine aE ?_
   refine bP h (fun jJ h=> ?_) fun jJ h=> ?_
   · refine aV jJ ?_
     obtain rfl:=aC h
     exact hK _ _ _ _ _ aJ ak kn
   · refine aV (aA jJ gD) ?_
     obtain rfl:=aC h
     exact hK _ _ _ _ _ aJ ak kn
 · refine aV iQ ?_
   obtain rfl:=aC h
   exact hK _ _ _ _ _ aJ ak kn
theorem zw {F:Nat} {nX:Int} {s1:List UInt8} {H:AH} {K:Exit→Env→AH→Prop} {o:((List UInt8)×Int)⊕(Int)}
 (h:iter (nt F s1) F nX=some o)
 (Ni:∀o':Int,o= .inr o'→K (.exit 2) [(0,(.str s1)),(6,(.int .i64 o'))] H):
 AX Tryz.prog ef 94 H.length (.loop (erase qg)) K [(0,(.str s1)),(6,(.int .i64 nX))] H:=by
 refine gL (fun s e H1=>match s with|nX=>e=[(0,(.str s1)),(6,(.int .i64 nX))]∧H1=H) h ⟨rfl,rfl⟩ ?_
 rintro K' nX st e H ⟨rfl,rfl⟩ h hN hB hR hX
 rw [nt.eq_1] at h
 refine aE ?_
 obtain ⟨t31,pJ,h⟩:=aq h
 refine bz ak (zu pJ ?_)
 refine aE ?_
 refine bk h (fun rM h=> ?_) fun rM h=> ?_
 · refine aE ?_
   obtain rfl:=aC h
   exact hN _ rfl _ _ _ _ aJ ak ⟨rfl,rfl⟩
 · refine aE ?_
   obtain rfl:=aC h
   exact hX _ _ _ _ _ dm aJ ak (Ni _ (hB _ rfl))
theorem C7 {F:Nat} {s1:List UInt8} {H0:AH} {aS:List UInt8} {eL:Int} (h:uT F s1=some (aS,eL)):
 aG Tryz.prog 77 [(.str s1)] H0 fun v H'=>v=(.bB [(.str aS),(.int .i64 eL)])∧H'=H0:=by
 refine fF EC ef fun hcl K0 aO=> ?_
 rw [uT.eq_1] at h
 refine aE ?_
 obtain ⟨t4,hy3,h⟩:=aq h
 refine bz ak (zk hy3 ?_)
 refine aE ?_
 refine bk h (fun hy4 h=> ?_) fun hy4 h=> ?_
 · refine aE ?_
   obtain ⟨UT,fT,h⟩:=aq h
   refine bz ak (zp fT ?_ ?_)
   · rintro ⟨FW,i23⟩ rfl
     try dsimp only at h
     refine aE ?_
     refine bz ak (zq (s1:=s1) (FW:=FW) (i23:=i23) ?_)
     refine aE ?_
     refine bk h (fun gZ h=> ?_) fun gZ h=> ?_
     · refine aE ?_
       obtain ⟨rfl,rfl⟩:=cB h
       exact aO _ _ _ bh (aK hcl (aW (aW aZ (.int .i64 (-1))) (.str ([]:List UInt8))) bf aX ⟨rfl,rfl⟩)
     · refine aE ?_
       obtain ⟨rfl,rfl⟩:=cB h
       exact aO _ _ _ bh (aK hcl (aW (aW aZ (.int .i64 (IntKind.wrap .i64 (i23+1)))) (.str FW)) bf aX ⟨rfl,rfl⟩)
   · rintro ⟨Rp,k6⟩ rfl
     try dsimp only at h
     refine aE ?_
     obtain ⟨rfl,rfl⟩:=cB h
     exact aO _ _ _ bh (aK hcl (aW (aW aZ (.int .i64 k6)) (.str Rp)) bf aX ⟨rfl,rfl⟩)
 · refine aE ?_
   obtain ⟨UP,ED,h⟩:=aq h
   refine bz ak (zw ED ?_)
   · rintro Ou rfl
     try dsimp only at h
     refine aE ?_
     obtain ⟨XV,Cp,h⟩:=aq h
     refine aV Cp ?_
     obtain ⟨Rn,EE,h⟩:=aq h
     refine bC ak (vC EE) ?_
     refine aE ?_
     refine bk h (fun EG h=> ?_) fun EG h=> ?_
     · refine aE ?_
       obtain ⟨rfl,rfl⟩:=cB h
       exact aO _ _ _ bh (aK hcl (aW (aW aZ (.int .i64 (-1))) (.str ([]:List UInt8))) bf aX ⟨rfl,rfl⟩)
     · refine aV Cp ?_
       obtain ⟨rfl,rfl⟩:=cB h
       exact aO _ _ _ bh (aK hcl (aW (aW aZ (.int .i64 Ou)) (.str XV)) bf aX ⟨rfl,rfl⟩)
abbrev sg:ax:=(.rg [(au 4 0),(aj 5 (.bin .eql (.t 4) (.c (.str [])))),(au 6 5),(ay 7 (.mv (.t 0)) 6 false),(ay 8 (.lens (.t 7)) 6 false),(ay 9 (.bin .gtr (.t 8) (.c (.int .i64 64))) 6 false),(aj 10 (.pick (.t 6) (.c (.bool true)) (.t 9)))])
abbrev si:ax:=(.rg [(au 17 0),(au 18 3),(aj 19 (.ixs (.t 17) (.t 18))),(aj 20 (.bin .lss (.t 19) (.c (b8 32)))),(au 21 20),(ay 22 (.mv (.t 0)) 21 false),(ay 23 (.mv (.t 3)) 21 false),(ay 24 (.ixs (.t 22) (.t 23)) 21 false),(ay 25 (.bin .gtr (.t 24) (.c (b8 126))) 21 false),(aj 26 (.pick (.t 21) (.c (.bool true)) (.t 25)))])
abbrev qh:ax:=(.seq (.seq (.rg [(au 11 3),(au 12 0),(aj 13 (.lens (.t 12))),(aj 14 (.bin .lss (.t 11) (.t 13)))]) (.cond (.t 14) .skip (.exit 0))) (.seq (.blk 1 (.seq (.sem (erase si)) (.cond (.t 26) (.seq (.rg [(aj 2 (.aP (.c (.bool false))))]) .ret) .skip))) (.rg [(au 15 3),(aj 16 (.bin .add (.t 15) (.c (.int .i64 1)))),(aR 3 16)])))
abbrev EH:ax:=(.seq (.rg [(aj 2 (.aP (.c (.bool false))))]) (.seq (.seq (.sem (erase sg)) (.cond (.t 10) (.seq (.rg [(aj 2 (.aP (.c (.bool false))))]) .ret) .skip)) (.seq (.seq (.rg [(aj 3 (.aP (.c (.int .i64 0))))]) (.blk 0 (.loop (erase qh)))) (.seq (.rg [(aj 2 (.aP (.c (.bool true))))]) .ret))))
theorem EI:bN Tryz.prog 83 27 [(.tmp 2)] (erase EH):=⟨Tryz.f83,_,rfl,by decide,rfl,by kernel_rfl,rfl,rfl⟩
abbrev kO:List Nat:=[0,2,3,10,14,26]
def nu (s1:List UInt8) (i2:Int):Option (Bool):=
 (idx s1 i2).bind fun x3=>
 (if (decide (x3<32)) then
  some true
 else
  some (decide (126<x3)))
def nv (s1:List UInt8):Int→Option (St Bool Unit Int)
 |i2=>
  (if (decide (i2<(s1.length:Int))) then
   (nu s1 i2).bind fun t5=>
   (if t5 then
    some (.ret false)
   else
    some (.cY (IntKind.wrap .i64 (i2+1))))
  else
   some (.dR ()))
def uU (F:Nat) (s1:List UInt8):Option (Bool):=
 (if ((decide (s1=([]:List UInt8)))||(decide (64<(s1.length:Int)))) then
  some false
 else
  ((iter (nv s1) F 0).bind fun o8=>
  match o8 with
  | .inr ()=>
    some true
  | .inl r7=>
    some r7))
theorem zx {s1:List UInt8} {H:AH} {K:Exit→Env→AH→Prop}
 (kn:K .normal [(0,(.str s1)),(10,(.bool ((decide (s1=([]:List UInt8)))||(decide (64<(s1.length:Int))))))] H):
 AX Tryz.prog kO 27 H.length (erase sg) K [(0,(.str s1))] H:=by
 refine bY fun K' hK=> ?_
 refine aE ?_
 refine gK (fun hy1=> ?_) fun hy1=> ?_
 · refine aV hy1 ?_
   exact hK _ _ _ _ _ (dy hy1) ak kn
 · refine aV hy1 ?_
   exact hK _ _ _ _ _ (dy hy1) ak kn
theorem zy {s1:List UInt8} {i2:Int} {H:AH} {K:Exit→Env→AH→Prop} {t4:Bool}
 (h:nu s1 i2=some t4)
 (kn:K .normal [(0,(.str s1)),(3,(.int .i64 i2)),(26,(.bool t4))] H):
 AX Tryz.prog kO 27 H.length (erase si) K [(0,(.str s1)),(3,(.int .i64 i2))] H:=by
 refine bY fun K' hK=> ?_
 rw [nu.eq_1] at h
 obtain ⟨x3,hy4,h⟩:=aq h
 refine aV hy4 ?_
 refine bP h (fun bJ h=> ?_) fun bJ h=> ?_
 · refine aV bJ ?_
   obtain rfl:=aC h
   exact hK _ _ _ _ _ aJ ak kn
 · refine aV (aA bJ hy4) ?_
   obtain rfl:=aC h
   exact hK _ _ _ _ _ aJ ak kn
theorem zz {F:Nat} {i2:Int} {s1:List UInt8} {H:AH} {K:Exit→Env→AH→Prop} {o:(Bool)⊕(Unit)}
 (h:iter (nv s1) F i2=some o)
 (dc:∀o':Unit,o= .inr o'→K (.exit 0) [] H)
 (kr:∀o':Bool,o= .inl o'→K .ret [(2,(.bool o'))] H):
 AX Tryz.prog kO 27 H.length (.loop (erase qh)) K [(0,(.str s1)),(3,(.int .i64 i2))] H:=by
 refine gL (fun s e H1=>match s with|i2=>e=[(0,(.str s1)),(3,(.int .i64 i2))]∧H1=H) h ⟨rfl,rfl⟩ ?_
 rintro K' i2 st e H ⟨rfl,rfl⟩ h hN hB hR hX
 rw [nv.eq_1] at h
 refine aE ?_
 refine bk h (fun hy3 h=> ?_) fun hy3 h=> ?_
 · refine aE ?_
   obtain ⟨t5,b6,h⟩:=aq h
   refine bz ak (zy b6 ?_)
   refine aE ?_
   refine bk h (fun cC h=> ?_) fun cC h=> ?_
   · refine aE ?_
     obtain rfl:=aC h
     exact hX _ _ _ _ _ dm aJ ak (kr _ (hR _ rfl))
   · refine aE ?_
     obtain rfl:=aC h
     exact hN _ rfl _ _ _ _ aJ ak ⟨rfl,rfl⟩
 · refine aE ?_
   obtain rfl:=aC h
   exact hX _ _ _ _ _ dm WE.nil ak (dc _ (hB _ rfl))
theorem C8 {F:Nat} {s1:List UInt8} {H0:AH} {aS:Bool} (h:uU F s1=some aS):
 aG Tryz.prog 83 [(.str s1)] H0 fun v H'=>v=(.bool aS)∧H'=H0:=by
 refine fF EI kO fun hcl K0 aO=> ?_
 rw [uU.eq_1] at h
 refine aE ?_
 refine bz ak (zx (s1:=s1) ?_)
 refine aE ?_
 refine bk h (fun hy2 h=> ?_) fun hy2 h=> ?_
 · refine aE ?_
   obtain rfl:=aC h
   exact aO _ _ _ bh (aK hcl (aW aZ (.bool false)) bf aX ⟨rfl,rfl⟩)
 · refine aE ?_
   obtain ⟨o8,cr,h⟩:=aq h
   refine bz ak (zz cr ?_ ?_)
   · rintro ⟨⟩ rfl
     try dsimp only at h
     refine aE ?_
     obtain rfl:=aC h
     exact aO _ _ _ bh (aK hcl (aW aZ (.bool true)) bf aX ⟨rfl,rfl⟩)
   · rintro r7 rfl
     try dsimp only at h
     refine aE ?_
     obtain rfl:=aC h
     exact aO _ _ _ bh (aK hcl (aW aZ (.bool r7)) bf aX ⟨rfl,rfl⟩)
abbrev tS:ax:=(.rg [(aj 5 (.cF (.t 1) 0)),(aj 6 (.ld (.t 5) none)),(aj 7 (.bin .eql (.t 6) (.c (.str [])))),(au 8 7),(ay 9 (.cF (.t 1) 1) 8 true),(ay 10 (.ld (.t 9) none) 8 true),(ay 11 (.bin .eql (.t 10) (.c (.str []))) 8 true),(aj 12 (.pick (.t 8) (.t 11) (.c (.bool false))))])
abbrev tT:ax:=(.rg [(aj 32 (.cF (.t 1) 0)),(aj 33 (.ld (.t 32) none)),(au 34 4),(aj 35 (.ixs (.t 33) (.t 34))),(aj 36 (.bin .eql (.t 35) (.c (b8 34)))),(au 37 36),(ay 38 (.cF (.t 1) 0) 37 false),(ay 39 (.ld (.t 38) none) 37 false),(ay 40 (.mv (.t 4)) 37 false),(ay 41 (.ixs (.t 39) (.t 40)) 37 false),(ay 42 (.bin .eql (.t 41) (.c (b8 92))) 37 false),(aj 43 (.pick (.t 37) (.c (.bool true)) (.t 42)))])
abbrev sj:ax:=(.seq (.seq (.rg [(au 25 4),(aj 26 (.cF (.t 1) 0)),(aj 27 (.ld (.t 26) none)),(aj 28 (.lens (.t 27))),(aj 29 (.bin .lss (.t 25) (.t 28)))]) (.cond (.t 29) .skip (.exit 0))) (.seq (.blk 1 (.seq (.seq (.sem (erase tT)) (.cond (.t 43) (.rg [(au 44 3),(aj 45 (.qD 1 [(.c (b8 92))])),(aj 46 (.app 1 1 (.t 44) (.t 45))),(aR 3 46)]) .skip)) (.rg [(au 47 3),(aj 48 (.cF (.t 1) 0)),(aj 49 (.ld (.t 48) none)),(au 50 4),(aj 51 (.ixs (.t 49) (.t 50))),(aj 52 (.qD 1 [(.t 51)])),(aj 53 (.app 1 1 (.t 47) (.t 52))),(aR 3 53)]))) (.rg [(au 30 4),(aj 31 (.bin .add (.t 30) (.c (.int .i64 1)))),(aR 4 31)])))
abbrev tU:ax:=(.rg [(au 54 3),(aj 59 (.cF (.t 1) 1)),(aj 60 (.E9 (.t 59) none)),(aj 55 (.qD 1 [(.c (b8 34))])),(aj 56 (.app 1 1 (.t 54) (.t 55))),(aj 57 (.IN (.t 56))),(aj 58 (.bin .add (.t 57) (.c (.str [64])))),(aj 61 (.bin .add (.t 58) (.t 60))),(aj 62 (.bin .add (.t 61) (.c (.str [62])))),(aR 2 62)])
abbrev FX:ax:=(.seq (.rg [(aj 1 (.box (.t 0))),(aj 2 (.aP (.c (.str []))))]) (.seq (.seq (.sem (erase tS)) (.cond (.t 12) (.seq (.rg [(aj 2 (.aP (.c (.str [60,62]))))]) .ret) .skip)) (.seq (.seq (.rg [(aj 13 (.cF (.t 1) 0)),(aj 14 (.ld (.t 13) none)),(aj 15 (.call (.c (.fn 84 [])) [(.t 14)]))]) (.cond (.t 15) (.seq (.rg [(aj 16 (.cF (.t 1) 0)),(aj 17 (.ld (.t 16) none)),(aj 18 (.bin .add (.c (.str [60])) (.t 17))),(aj 19 (.bin .add (.t 18) (.c (.str [64])))),(aj 20 (.cF (.t 1) 1)),(aj 21 (.ld (.t 20) none)),(aj 22 (.bin .add (.t 19) (.t 21))),(aj 23 (.bin .add (.t 22) (.c (.str [62])))),(aR 2 23)]) .ret) .skip)) (.seq (.rg [(aj 24 (.qD 1 [(.c (b8 60)),(.c (b8 34))])),(aR 3 24)]) (.seq (.seq (.rg [(aj 4 (.aP (.c (.int .i64 0))))]) (.blk 0 (.loop (erase sj)))) (.seq (.sem (erase tU)) .ret))))))
theorem FY:bN Tryz.prog 59 63 [(.tmp 2)] (erase FX):=⟨Tryz.f59,_,rfl,by decide,rfl,by kernel_rfl,rfl,rfl⟩
abbrev jM:List Nat:=[0,1,2,3,4,12,15,29,43]
def qi (a1:aB) (i10:Int):Option (Bool):=
 (idx a1.av i10).bind fun n8=>
 (if (decide (n8=34)) then
  some true
 else
  some (decide (n8=92)))
def qj (a1:aB):((List UInt8)×Int)→Option (St (List UInt8) (List UInt8) ((List UInt8)×Int))
 |(b9,i10)=>
  (if (decide (i10<(a1.av.length:Int))) then
   (qi a1 i10).bind fun t14=>
   (if t14 then
    (fe 1 b9 ([92]:List UInt8)).bind fun kY=>
    (idx a1.av i10).bind fun lE=>
    (fe 1 kY ([lE]:List UInt8)).bind fun qR=>some (.cY (qR,(IntKind.wrap .i64 (i10+1))))
   else
    (idx a1.av i10).bind fun Ii=>
    (fe 1 b9 ([Ii]:List UInt8)).bind fun BK=>some (.cY (BK,(IntKind.wrap .i64 (i10+1)))))
  else
   some (.dR b9))
def qk (KB:List UInt8) (a1:aB):Option ((List UInt8)):=
 (fe 1 KB ([34]:List UInt8)).bind fun Iw=>
 (cat Iw ([64]:List UInt8)).bind fun D7=>
 (cat D7 a1.domain).bind fun D8=>(cat D8 ([62]:List UInt8)).bind fun D9=>some D9
def xg (F:Nat) (a1:aB):Option ((List UInt8)):=
 (if ((decide (a1.av=([]:List UInt8)))&&(decide (a1.domain=([]:List UInt8)))) then
  some ([60,62]:List UInt8)
 else
  (oy F a1.av).bind fun r3=>
  (if r3 then
   (cat ([60]:List UInt8) a1.av).bind fun x4=>
   (cat x4 ([64]:List UInt8)).bind fun x5=>
   (cat x5 a1.domain).bind fun x6=>(cat x6 ([62]:List UInt8)).bind fun x7=>some x7
  else
   ((iter (qj a1) F (([60,34]:List UInt8),0)).bind fun UR=>
   match UR with
   | .inr KB=>
     (qk KB a1).bind fun t27=>
     some t27
   | .inl _=>none)))
theorem AB {q2:Nat} {a1:aB} {H0 H:AH} (hfr:Fr H0 H0.length [] H) (ai:H[q2]? =some [(.str a1.av),(.str a1.domain)]) (dL:H0.length≤q2) {K:Exit→Env→AH→Prop}
 (kn:∀H':AH,Fr H0 H0.length [] H'→H'[q2]? =some [(.str a1.av),(.str a1.domain)]→K .normal [(1,(.ptr q2 0)),(12,(.bool ((decide (a1.av=([]:List UInt8)))&&(decide (a1.domain=([]:List UInt8))))))] H'):
 AX Tryz.prog jM 63 H0.length (erase tS) K [(1,(.ptr q2 0))] H:=by
 refine bY fun K' hK=> ?_
 have hle:=hfr.le
 have aM:=aQ ai
 refine az ai ?_
 refine gK (fun hy1=> ?_) fun hy1=> ?_
 · refine az (aA hy1 ai) ?_
   exact hK _ _ _ _ _ (dy hy1) ak (kn _ hfr (ai.trans rfl))
 · refine az (aA hy1 ai) ?_
   exact hK _ _ _ _ _ (dy hy1) ak (kn _ hfr (ai.trans rfl))
theorem AD {a1:aB} {i10:Int} {Rq:Nat} {b9:List UInt8} {H0 H:AH} (hfr:Fr H0 H0.length [] H) (ai:H[Rq]? =some [(.str a1.av),(.str a1.domain)]) (dL:H0.length≤Rq) {K:Exit→Env→AH→Prop} {t13:Bool}
 (h:qi a1 i10=some t13)
 (kn:∀H':AH,Fr H0 H0.length [] H'→H'[Rq]? =some [(.str a1.av),(.str a1.domain)]→K .normal [(1,(.ptr Rq 0)),(3,(.sl .own 1 (ml b8 b9))),(4,(.int .i64 i10)),(43,(.bool t13))] H'):
 AX Tryz.prog jM 63 H0.length (erase tT) K [(1,(.ptr Rq 0)),(3,(.sl .own 1 (ml b8 b9))),(4,(.int .i64 i10))] H:=by
 refine bY fun K' hK=> ?_
 have hle:=hfr.le
 have aM:=aQ ai
 rw [qi.eq_1] at h
 obtain ⟨n8,ck,h⟩:=aq h
 refine az (aA ck ai) ?_
 refine bP h (fun cx h=> ?_) fun cx h=> ?_
 · refine az (aA cx ai) ?_
   obtain rfl:=aC h
   exact hK _ _ _ _ _ aJ ak (kn _ hfr (ai.trans rfl))
 · refine az (aA cx (aA ck ai)) ?_
   obtain rfl:=aC h
   exact hK _ _ _ _ _ aJ ak (kn _ hfr (ai.trans rfl))
theorem AE {F:Nat} {i10:Int} {a1:aB} {b9:List UInt8} {q8:Nat} {H0 H:AH} (hfr:Fr H0 H0.length [] H) (ai:H[q8]? =some [(.str a1.av),(.str a1.domain)]) (dL:H0.length≤q8) {K:Exit→Env→AH→Prop} {o:((List UInt8))⊕((List UInt8))}
 (h:iter (qj a1) F (b9,i10)=some o)
 (dc:∀o':(List UInt8),o= .inr o'→∀H':AH,Fr H0 H0.length [] H'→H'[q8]? =some [(.str a1.av),(.str a1.domain)]→K (.exit 0) [(1,(.ptr q8 0)),(3,(.sl .own 1 (ml b8 o')))] H'):
 AX Tryz.prog jM 63 H0.length (.loop (erase sj)) K [(1,(.ptr q8 0)),(3,(.sl .own 1 (ml b8 b9))),(4,(.int .i64 i10))] H:=by
 refine gL (fun s e H1=>match s with|(b9,i10)=>e=[(1,(.ptr q8 0)),(3,(.sl .own 1 (ml b8 b9))),(4,(.int .i64 i10))]∧Fr H0 H0.length [] H1∧H1[q8]? =some [(.str a1.av),(.str a1.domain)]) h ⟨rfl,hfr,ai⟩ ?_
 rintro K' ⟨b9,i10⟩ st e H ⟨rfl,hfr,ai⟩ h hN hB hR hX
 have hle:=hfr.le
 have aM:=aQ ai
 rw [qj.eq_1] at h
 refine az ai ?_
 refine bk h (fun cP h=> ?_) fun cP h=> ?_
 · refine az ai ?_
   obtain ⟨t14,cN,h⟩:=aq h
   refine bz ak (AD (b9:=b9) (Rq:=q8) hfr (ai.trans rfl) bX cN ?_)
   intro H hfr ai
   have hle:=hfr.le
   have aM:=aQ ai
   refine az ai ?_
   refine bk h (fun cH h=> ?_) fun cH h=> ?_
   · obtain ⟨kY,dV,h⟩:=aq h
     have eT:fe 1 (ml b8 b9) [(b8 92)]=some (ml b8 kY):=lR (f:=b8) dV
     obtain ⟨lE,ei,h⟩:=aq h
     obtain ⟨qR,gY,h⟩:=aq h
     have gq:fe 1 (ml b8 kY) [(b8 lE)]=some (ml b8 qR):=lR (f:=b8) gY
     refine az (aA eT (aA ei (aA gq ai))) ?_
     obtain rfl:=aC h
     exact hN _ rfl _ _ _ _ aJ ak ⟨rfl,hfr,(ai.trans rfl)⟩
   · obtain ⟨Ii,fS,h⟩:=aq h
     obtain ⟨BK,fT,h⟩:=aq h
     have gr:fe 1 (ml b8 b9) [(b8 Ii)]=some (ml b8 BK):=lR (f:=b8) fT
     refine az (aA fS (aA gr ai)) ?_
     obtain rfl:=aC h
     exact hN _ rfl _ _ _ _ aJ ak ⟨rfl,hfr,(ai.trans rfl)⟩
 · refine az ai ?_
   obtain rfl:=aC h
   exact hX _ _ _ _ _ dm aJ ak (dc _ (hB _ rfl) _ hfr (ai.trans rfl))
theorem AF {KB:List UInt8} {a1:aB} {H0 H:AH} (hfr:Fr H0 H0.length [] H) {K:Exit→Env→AH→Prop} {t26:List UInt8}
 (h:qk KB a1=some t26)
 (kn:∀H':AH,Fr H0 H0.length [] H'→K .normal [(2,(.str t26))] H'):
 AX Tryz.prog jM 63 H0.length (erase tU) K [(1,(.ep (.agg [(.str a1.av),(.str a1.domain)]) 0)),(3,(.sl .own 1 (ml b8 KB)))] H:=by
 refine bY fun K' hK=> ?_
 have hle:=hfr.le
 rw [qk.eq_1] at h
 obtain ⟨Iw,iQ,h⟩:=aq h
 have gD:fe 1 (ml b8 KB) [(b8 34)]=some (ml b8 Iw):=lR (f:=b8) iQ
 obtain ⟨D7,hM,h⟩:=aq h
 obtain ⟨D8,jJ,h⟩:=aq h
 obtain ⟨D9,pJ,h⟩:=aq h
 refine az (aA gD (aA hM (aA jJ pJ))) ?_
 obtain rfl:=aC h
 exact hK _ _ _ _ _ aJ ak (kn _ hfr)
theorem EJ {F:Nat} {a1:aB} {H0:AH} {aS:List UInt8} (h:xg F a1=some aS):
 aG Tryz.prog 59 [(.agg [(.str a1.av),(.str a1.domain)])] H0 fun v H'=>v=(.str aS)∧H'=H0:=by
 refine l7 FY jM [] fun hcl K0 aO H hH hfr=> ?_
 clear hH
 have hle:=hfr.le
 rw [xg.eq_1] at h
 refine cM ?_
 obtain ⟨q2,jX⟩:∃q:Nat,H.length=q:=⟨_,rfl⟩
 try rw [jX]
 refine bz ak (AB (q2:=q2) (a1:=a1) (Fr.app hfr) uC bX ?_)
 intro H hfr ai
 have hle:=hfr.le
 have aM:=aQ ai
 refine az ai ?_
 refine bk h (fun hy2 h=> ?_) fun hy2 h=> ?_
 · refine az ai ?_
   obtain rfl:=aC h
   exact aO _ _ _ bh (aT hfr hcl (aW aZ (.str ([60,62]:List UInt8))) bf aX ⟨rfl,rfl⟩)
 · refine az ai ?_
   obtain ⟨r3,hy3,h⟩:=aq h
   refine bC ak (vC hy3) ?_
   refine az ai ?_
   refine bk h (fun hy4 h=> ?_) fun hy4 h=> ?_
   · obtain ⟨x4,bJ,h⟩:=aq h
     obtain ⟨x5,b6,h⟩:=aq h
     obtain ⟨x6,cC,h⟩:=aq h
     obtain ⟨x7,cr,h⟩:=aq h
     refine az (aA bJ (aA b6 (aA cC (aA cr ai)))) ?_
     obtain rfl:=aC h
     exact aO _ _ _ bh (aT hfr hcl (aW aZ (.str x7)) bf aX ⟨rfl,rfl⟩)
   · refine az ai ?_
     obtain ⟨UR,gZ,h⟩:=aq h
     refine bz ak (AE (q8:=q2) hfr (ai.trans rfl) bX gZ ?_)
     · rintro KB rfl H hfr ai
       try dsimp only at h ai
       have hle:=hfr.le
       have aM:=aQ ai
       refine az ai ?_
       refine XT ?_
       apply AX.freeze (s:=q2) (cs:=[(.str a1.av),(.str a1.domain)]) (by exact (ai.trans rfl)) (gT.same (gT.same (gT.nil))) (by simp) rfl
       · repeat (first|exact FZ.nil|apply FZ.ep|apply FZ.same)
       refine ouZ ?_
       obtain ⟨t27,rM,h⟩:=aq h
       refine bz ak (AF (bW _ hfr) rM ?_)
       intro H hfr
       have hle:=hfr.le
       refine cM ?_
       obtain rfl:=aC h
       exact aO _ _ _ bh (aT hfr hcl (aW aZ (.str t27)) bf aX ⟨rfl,rfl⟩)
abbrev sn:ax:=(.rg [(aj 3 (.cF (.t 1) 0)),(aj 4 (.ld (.t 3) none)),(aj 5 (.bin .eql (.t 4) (.c (.str [])))),(au 6 5),(ay 7 (.cF (.t 1) 1) 6 true),(ay 8 (.ld (.t 7) none) 6 true),(ay 9 (.bin .eql (.t 8) (.c (.str []))) 6 true),(aj 10 (.pick (.t 6) (.t 9) (.c (.bool false))))])
abbrev so:ax:=(.rg [(aj 11 (.cF (.t 1) 0)),(aj 12 (.ld (.t 11) none)),(aj 13 (.call (.c (.fn 83 [])) [(.t 12)])),(au 14 13),(ay 15 (.cF (.t 1) 1) 14 true),(ay 16 (.ld (.t 15) none) 14 true),(ay 17 (.call (.c (.fn 28 [])) [(.t 16)]) 14 true),(aj 18 (.pick (.t 14) (.t 17) (.c (.bool false)))),(au 19 18),(ay 20 (.ld (.t 1) (some 2)) 19 true),(ay 21 (.call (.c (.fn 59 [])) [(.t 20)]) 19 true),(ay 22 (.lens (.t 21)) 19 true),(ay 23 (.bin .leq (.t 22) (.c (.int .i64 256))) 19 true),(aj 24 (.pick (.t 19) (.t 23) (.c (.bool false)))),(aR 2 24)])
abbrev EL:ax:=(.seq (.rg [(aj 1 (.box (.t 0))),(aj 2 (.aP (.c (.bool false))))]) (.seq (.seq (.sem (erase sn)) (.cond (.t 10) (.seq (.rg [(aj 2 (.aP (.c (.bool true))))]) .ret) .skip)) (.seq (.sem (erase so)) .ret)))
theorem EM:bN Tryz.prog 58 25 [(.tmp 2)] (erase EL):=⟨Tryz.f58,_,rfl,by decide,rfl,by kernel_rfl,rfl,rfl⟩
abbrev ql:List Nat:=[0,1,2,10]
def ny (F:Nat) (a1:aB):Option (Bool):=
 (uU F a1.av).bind fun r4=>
 (if r4 then
  (fk F a1.domain).bind fun r5=>
  (if r5 then
   (xg F a1).bind fun r6=>some (decide ((r6.length:Int)≤256))
  else
   some false)
 else
  some false)
def uV (F:Nat) (a1:aB):Option (Bool):=
 (if ((decide (a1.av=([]:List UInt8)))&&(decide (a1.domain=([]:List UInt8)))) then
  some true
 else
  (ny F a1).bind fun t8=>
  some t8)
theorem zA {q2:Nat} {a1:aB} {H0 H:AH} (hfr:Fr H0 H0.length [] H) (ai:H[q2]? =some [(.str a1.av),(.str a1.domain)]) (dL:H0.length≤q2) {K:Exit→Env→AH→Prop}
 (kn:∀H':AH,Fr H0 H0.length [] H'→H'[q2]? =some [(.str a1.av),(.str a1.domain)]→K .normal [(1,(.ptr q2 0)),(10,(.bool ((decide (a1.av=([]:List UInt8)))&&(decide (a1.domain=([]:List UInt8))))))] H'):
 AX Tryz.prog ql 25 H0.length (erase sn) K [(1,(.ptr q2 0))] H:=by
 refine bY fun K' hK=> ?_
 have hle:=hfr.le
 have aM:=aQ ai
 refine az ai ?_
 refine gK (fun hy1=> ?_) fun hy1=> ?_
 · refine az (aA hy1 ai) ?_
   exact hK _ _ _ _ _ (dy hy1) ak (kn _ hfr (ai.trans rfl))
 · refine az (aA hy1 ai) ?_
   exact hK _ _ _ _ _ (dy hy1) ak (kn _ hfr (ai.trans rfl))
theorem zB {F:Nat} {a1:aB} {q3:Nat} {H0 H:AH} (hfr:Fr H0 H0.length [] H) (ai:H[q3]? =some [(.str a1.av),(.str a1.domain)]) (dL:H0.length≤q3) {K:Exit→Env→AH→Prop} {t7:Bool}
 (h:ny F a1=some t7)
 (kn:∀H':AH,Fr H0 H0.length [] H'→H'[q3]? =some [(.str a1.av),(.str a1.domain)]→K .normal [(2,(.bool t7))] H'):
 AX Tryz.prog ql 25 H0.length (erase so) K [(1,(.ptr q3 0))] H:=by
 refine bY fun K' hK=> ?_
 have hle:=hfr.le
 have aM:=aQ ai
 rw [ny.eq_1] at h
 refine az ai ?_
 obtain ⟨r4,hy3,h⟩:=aq h
 refine bC ak (C8 hy3) ?_
 refine az ai ?_
 refine bP h (fun hy4 h=> ?_) fun hy4 h=> ?_
 · refine az (aA hy4 ai) ?_
   obtain ⟨r5,bJ,h⟩:=aq h
   refine bC ak (lJ bJ) ?_
   refine az ai ?_
   refine bP h (fun b6 h=> ?_) fun b6 h=> ?_
   · refine az (aA b6 ai) ?_
     obtain ⟨r6,cC,h⟩:=aq h
     refine bC ak (EJ cC) ?_
     refine az ai ?_
     obtain rfl:=aC h
     exact hK _ _ _ _ _ aJ ak (kn _ hfr (ai.trans rfl))
   · refine az (aA b6 ai) ?_
     obtain rfl:=aC h
     exact hK _ _ _ _ _ aJ ak (kn _ hfr (ai.trans rfl))
 · refine az (aA hy4 ai) ?_
   obtain rfl:=aC h
   exact hK _ _ _ _ _ aJ ak (kn _ hfr (ai.trans rfl))
theorem C9 {F:Nat} {a1:aB} {H0:AH} {aS:Bool} (h:uV F a1=some aS):
 aG Tryz.prog 58 [(.agg [(.str a1.av),(.str a1.domain)])] H0 fun v H'=>v=(.bool aS)∧H'=H0:=by
 refine l7 EM ql [] fun hcl K0 aO H hH hfr=> ?_
 clear hH
 have hle:=hfr.le
 rw [uV.eq_1] at h
 refine cM ?_
 obtain ⟨q2,jX⟩:∃q:Nat,H.length=q:=⟨_,rfl⟩
 try rw [jX]
 refine bz ak (zA (q2:=q2) (a1:=a1) (Fr.app hfr) uC bX ?_)
 intro H hfr ai
 have hle:=hfr.le
 have aM:=aQ ai
 refine az ai ?_
 refine bk h (fun hy2 h=> ?_) fun hy2 h=> ?_
 · refine az ai ?_
   obtain rfl:=aC h
   exact aO _ _ _ bh (aT hfr hcl (aW aZ (.bool true)) bf aX ⟨rfl,rfl⟩)
 · refine az ai ?_
   obtain ⟨t8,cr,h⟩:=aq h
   refine bz ak (zB (q3:=q2) hfr (ai.trans rfl) bX cr ?_)
   intro H hfr ai
   have hle:=hfr.le
   have aM:=aQ ai
   refine az ai ?_
   obtain rfl:=aC h
   exact aO _ _ _ bh (aT hfr hcl (aW aZ (.bool t8)) bf aX ⟨rfl,rfl⟩)
end Go.Proofs.dO
end
section
set_option maxRecDepth 100000
namespace Go.Proofs.dO
open Go Go.Am Go.Proofs
open Nat renaming reduceEqDiff→nA,reduceLT→nB,reduceLeDiff→nC,reduceAdd→nD,reduceSub→nE,reduceMul→nF,reduceBEq→nG
set_option maxHeartbeats 2000000
abbrev tV:ax:=(.rg [(au 11 0),(aj 12 (.bin .eql (.t 11) (.c (.str [])))),(au 13 12),(ay 14 (.mv (.t 0)) 13 false),(ay 15 (.ixs (.t 14) (.c (.int .i64 0))) 13 false),(ay 16 (.bin .neq (.t 15) (.c (b8 60))) 13 false),(aj 17 (.pick (.t 13) (.c (.bool true)) (.t 16)))])
abbrev tW:ax:=(.rg [(au 19 0),(aj 20 (.lens (.t 19))),(aj 21 (.bin .gtr (.t 20) (.c (.int .i64 1)))),(au 22 21),(ay 23 (.mv (.t 0)) 22 true),(ay 24 (.ixs (.t 23) (.c (.int .i64 1))) 22 true),(ay 25 (.bin .eql (.t 24) (.c (b8 62))) 22 true),(aj 26 (.pick (.t 22) (.t 25) (.c (.bool false))))])
abbrev tX:ax:=(.rg [(au 45 8),(aj 46 (.bin .lss (.t 45) (.c (.int .i64 0)))),(au 47 46),(ay 48 (.mv (.t 8)) 47 false),(ay 49 (.mv (.t 6)) 47 false),(ay 50 (.lens (.t 49)) 47 false),(ay 51 (.bin .geq (.t 48) (.t 50)) 47 false),(aj 52 (.pick (.t 47) (.c (.bool true)) (.t 51))),(au 53 52),(ay 54 (.mv (.t 6)) 53 false),(ay 55 (.mv (.t 8)) 53 false),(ay 56 (.ixs (.t 54) (.t 55)) 53 false),(ay 57 (.bin .neq (.t 56) (.c (b8 64))) 53 false),(aj 58 (.pick (.t 53) (.c (.bool true)) (.t 57)))])
abbrev tY:ax:=(.rg [(au 66 6),(au 67 9),(aj 68 (.gR (.t 66) none (some (.t 67)))),(aj 69 (.call (.c (.fn 79 [])) [(.t 68)])),(aj 70 (.un .not (.t 69))),(au 71 70),(ay 72 (.mv (.t 9)) 71 false),(ay 73 (.mv (.t 6)) 71 false),(ay 74 (.lens (.t 73)) 71 false),(ay 75 (.bin .geq (.t 72) (.t 74)) 71 false),(aj 76 (.pick (.t 71) (.c (.bool true)) (.t 75))),(au 77 76),(ay 78 (.mv (.t 6)) 77 false),(ay 79 (.mv (.t 9)) 77 false),(ay 80 (.ixs (.t 78) (.t 79)) 77 false),(ay 81 (.bin .neq (.t 80) (.c (b8 62))) 77 false),(aj 82 (.pick (.t 77) (.c (.bool true)) (.t 81)))])
abbrev tZ:ax:=(.rg [(aj 93 (.E9 (.t 10) (some 2))),(au 94 6),(au 95 9),(aj 96 (.bin .add (.t 95) (.c (.int .i64 1)))),(aj 97 (.gR (.t 94) (some (.t 96)) none)),(cR (.st (.t 2) (.t 93) 2)),(aR 3 97),(aj 4 (.aP (.c (.int .i64 0))))])
abbrev F0:ax:=(.seq (.rg [(aj 2 (.alloc [(.str []),(.str [])])),(aj 3 (.aP (.c (.str [])))),(aj 4 (.aP (.c (.int .i64 0))))]) (.seq (.seq (.sem (erase tV)) (.cond (.t 17) (.seq (.rg [(aj 18 (.build [(.str []),(.str [])] [])),(cR (.st (.t 2) (.t 18) 2)),(aj 3 (.aP (.c (.str [])))),(aj 4 (.aP (.c (.int .i64 3))))]) .ret) .skip)) (.seq (.seq (.sem (erase tW)) (.cond (.t 26) (.seq (.rg [(aj 27 (.build [(.str []),(.str [])] [])),(au 28 0),(aj 29 (.gR (.t 28) (some (.c (.int .i64 2))) none)),(cR (.st (.t 2) (.t 27) 2)),(aR 3 29),(aj 4 (.aP (.c (.int .i64 0))))]) .ret) .skip)) (.seq (.rg [(au 30 0),(aj 31 (.gR (.t 30) (some (.c (.int .i64 1))) none)),(aj 32 (.call (.c (.fn 76 [])) [(.t 31)])),(aR 5 32)]) (.seq (.seq (.rg [(au 33 5),(aj 34 (.bin .lss (.t 33) (.c (.int .i64 0))))]) (.cond (.t 34) (.seq (.rg [(aj 35 (.build [(.str []),(.str [])] [])),(cR (.st (.t 2) (.t 35) 2)),(aj 3 (.aP (.c (.str [])))),(aj 4 (.aP (.c (.int .i64 3))))]) .ret) .skip)) (.seq (.rg [(au 36 0),(au 37 5),(aj 38 (.bin .add (.c (.int .i64 1)) (.t 37))),(aj 39 (.gR (.t 36) (some (.t 38)) none)),(aR 6 39)]) (.seq (.rg [(au 41 6),(aj 42 (.call (.c (.fn 77 [])) [(.t 41)])),(au 40 42),(aj 43 (.ext (.t 40) 0)),(aj 44 (.ext (.t 40) 1)),(aR 7 43),(aR 8 44)]) (.seq (.seq (.sem (erase tX)) (.cond (.t 58) (.seq (.rg [(aj 59 (.build [(.str []),(.str [])] [])),(cR (.st (.t 2) (.t 59) 2)),(aj 3 (.aP (.c (.str [])))),(aj 4 (.aP (.c (.int .i64 3))))]) .ret) .skip)) (.seq (.rg [(au 60 6),(au 61 8),(aj 62 (.bin .add (.t 61) (.c (.int .i64 1)))),(aj 63 (.gR (.t 60) (some (.t 62)) none)),(aR 6 63)]) (.seq (.rg [(au 64 6),(aj 65 (.call (.c (.fn 78 [])) [(.t 64)])),(aR 9 65)]) (.seq (.seq (.sem (erase tY)) (.cond (.t 82) (.seq (.rg [(aj 83 (.build [(.str []),(.str [])] [])),(cR (.st (.t 2) (.t 83) 2)),(aj 3 (.aP (.c (.str [])))),(aj 4 (.aP (.c (.int .i64 3))))]) .ret) .skip)) (.seq (.rg [(au 84 7),(au 85 6),(au 86 9),(aj 87 (.gR (.t 85) none (some (.t 86)))),(aj 88 (.build [(.str []),(.str [])] [(0,(1,(.t 84))),(1,(1,(.t 87)))])),(aj 10 (.alloc [(.str []),(.str [])])),(cR (.st (.t 10) (.t 88) 2))]) (.seq (.seq (.rg [(aj 89 (.ld (.t 10) (some 2))),(aj 90 (.call (.c (.fn 58 [])) [(.t 89)])),(aj 91 (.un .not (.t 90)))]) (.cond (.t 91) (.seq (.rg [(aj 92 (.build [(.str []),(.str [])] [])),(cR (.st (.t 2) (.t 92) 2)),(aj 3 (.aP (.c (.str [])))),(aj 4 (.aP (.c (.int .i64 5))))]) .ret) .skip)) (.seq (.sem (erase tZ)) .ret))))))))))))))
theorem F1:bN Tryz.prog 51 98 [(.cell 2 24),(.tmp 3),(.tmp 4)] (erase F0):=⟨Tryz.f51,_,rfl,by decide,rfl,by kernel_rfl,rfl,rfl⟩
abbrev ij:List Nat:=[0,2,3,4,5,6,7,8,9,10,17,26,34,58,82,91]
def qm (s1:List UInt8):Option (Bool):=
 (if (decide (s1=([]:List UInt8))) then
  some true
 else
  (idx s1 0).bind fun x3=>some (!decide (x3=60)))
def qn (s1:List UInt8):Option (Bool):=
 (if (decide (1<(s1.length:Int))) then
  (idx s1 1).bind fun x7=>some (decide (x7=62))
 else
  some false)
def qo (fm:Int) (gX:List UInt8):Option (Bool):=
 (if (decide (fm<0)) then
  some true
 else
  (if (decide ((gX.length:Int)≤fm)) then
   some true
  else
   (idx gX fm).bind fun qR=>some (!decide (qR=64))))
def qp (F:Nat) (kZ:List UInt8) (kI:Int):Option (Bool):=
 (sub kZ 0 kI).bind fun D7=>
 (ow F D7).bind fun Rp=>
 (if (!Rp) then
  some true
 else
  (if (decide ((kZ.length:Int)≤kI)) then
   some true
  else
   (idx kZ kI).bind fun D9=>some (!decide (D9=62))))
def qq (kZ:List UInt8) (kI:Int) (iB:List UInt8) (yb:List UInt8):Option ((List UInt8)×Int×aB):=
 (sub kZ (IntKind.wrap .i64 (kI+1)) (kZ.length:Int)).bind fun Rr=>some (Rr,0,(aB.mk iB yb))
def xh (F:Nat) (s1:List UInt8):Option (aB×(List UInt8)×Int):=
 (qm s1).bind fun t5=>
 (if t5 then
  some ((aB.mk ([]:List UInt8) ([]:List UInt8)),([]:List UInt8),3)
 else
  (qn s1).bind fun t9=>
  (if t9 then
   (sub s1 2 (s1.length:Int)).bind fun xQ=>
   some ((aB.mk ([]:List UInt8) ([]:List UInt8)),xQ,0)
  else
   (sub s1 1 (s1.length:Int)).bind fun ga=>
   (uS F ga).bind fun iz=>
   (if (decide (iz<0)) then
    some ((aB.mk ([]:List UInt8) ([]:List UInt8)),([]:List UInt8),3)
   else
    (sub s1 (IntKind.wrap .i64 (1+iz)) (s1.length:Int)).bind fun gX=>
    (uT F gX).bind fun (iB,fm)=>
    (qo fm gX).bind fun t19=>
    (if t19 then
     some ((aB.mk ([]:List UInt8) ([]:List UInt8)),([]:List UInt8),3)
    else
     (sub gX (IntKind.wrap .i64 (fm+1)) (gX.length:Int)).bind fun kZ=>
     (lW F kZ).bind fun kI=>
     (qp F kZ kI).bind fun t27=>
     (if t27 then
      some ((aB.mk ([]:List UInt8) ([]:List UInt8)),([]:List UInt8),3)
     else
      (sub kZ 0 kI).bind fun yb=>
      (uV F (aB.mk iB yb)).bind fun fG=>
      (if (!fG) then
       some ((aB.mk ([]:List UInt8) ([]:List UInt8)),([]:List UInt8),5)
      else
       (qq kZ kI iB yb).bind fun (t35,t36,Rs)=>
       some (Rs,t35,t36)))))))
theorem AG {s1:List UInt8} {q2:Nat} {H0 H:AH} (hfr:Fr H0 H0.length [] H) (ai:H[q2]? =some [(.str ([]:List UInt8)),(.str ([]:List UInt8))]) (dL:H0.length≤q2) {K:Exit→Env→AH→Prop} {t4:Bool}
 (h:qm s1=some t4)
 (kn:∀H':AH,Fr H0 H0.length [] H'→H'[q2]? =some [(.str ([]:List UInt8)),(.str ([]:List UInt8))]→K .normal [(0,(.str s1)),(2,(.ptr q2 0)),(17,(.bool t4))] H'):
 AX Tryz.prog ij 98 H0.length (erase tV) K [(0,(.str s1)),(2,(.ptr q2 0))] H:=by
 refine bY fun K' hK=> ?_
 have hle:=hfr.le
 have aM:=aQ ai
 rw [qm.eq_1] at h
 refine az ai ?_
 refine bP h (fun hy1 h=> ?_) fun hy1 h=> ?_
 · refine az (aA hy1 ai) ?_
   obtain rfl:=aC h
   exact hK _ _ _ _ _ aJ ak (kn _ hfr (ai.trans rfl))
 · obtain ⟨x3,hy2,h⟩:=aq h
   refine az (aA hy1 (aA hy2 ai)) ?_
   obtain rfl:=aC h
   exact hK _ _ _ _ _ aJ ak (kn _ hfr (ai.trans rfl))
theorem AI {s1:List UInt8} {q6:Nat} {H0 H:AH} (hfr:Fr H0 H0.length [] H) (ai:H[q6]? =some [(.str ([]:List UInt8)),(.str ([]:List UInt8))]) (dL:H0.length≤q6) {K:Exit→Env→AH→Prop} {t8:Bool}
 (h:qn s1=some t8)
 (kn:∀H':AH,Fr H0 H0.length [] H'→H'[q6]? =some [(.str ([]:List UInt8)),(.str ([]:List UInt8))]→K .normal [(0,(.str s1)),(2,(.ptr q6 0)),(26,(.bool t8))] H'):
 AX Tryz.prog ij 98 H0.length (erase tW) K [(0,(.str s1)),(2,(.ptr q6 0))] H:=by
 refine bY fun K' hK=> ?_
 have hle:=hfr.le
 have aM:=aQ ai
 rw [qn.eq_1] at h
 refine az ai ?_
 refine bP h (fun bJ h=> ?_) fun bJ h=> ?_
 · obtain ⟨x7,b6,h⟩:=aq h
   refine az (aA bJ (aA b6 ai)) ?_
   obtain rfl:=aC h
   exact hK _ _ _ _ _ aJ ak (kn _ hfr (ai.trans rfl))
 · refine az (aA bJ ai) ?_
   obtain rfl:=aC h
   exact hK _ _ _ _ _ aJ ak (kn _ hfr (ai.trans rfl))
theorem AJ {fm:Int} {gX:List UInt8} {AK:Nat} {iB:List UInt8} {H0 H:AH} (hfr:Fr H0 H0.length [] H) (ai:H[AK]? =some [(.str ([]:List UInt8)),(.str ([]:List UInt8))]) (dL:H0.length≤AK) {K:Exit→Env→AH→Prop} {t18:Bool}
 (h:qo fm gX=some t18)
 (kn:∀H':AH,Fr H0 H0.length [] H'→H'[AK]? =some [(.str ([]:List UInt8)),(.str ([]:List UInt8))]→K .normal [(2,(.ptr AK 0)),(6,(.str gX)),(7,(.str iB)),(8,(.int .i64 fm)),(58,(.bool t18))] H'):
 AX Tryz.prog ij 98 H0.length (erase tX) K [(2,(.ptr AK 0)),(6,(.str gX)),(7,(.str iB)),(8,(.int .i64 fm))] H:=by
 refine bY fun K' hK=> ?_
 have hle:=hfr.le
 have aM:=aQ ai
 rw [qo.eq_1] at h
 refine az ai ?_
 refine bP h (fun eT h=> ?_) fun eT h=> ?_
 · refine az (aA eT ai) ?_
   obtain rfl:=aC h
   exact hK _ _ _ _ _ aJ ak (kn _ hfr (ai.trans rfl))
 · refine az (aA eT ai) ?_
   refine bP h (fun ei h=> ?_) fun ei h=> ?_
   · refine az (aA ei ai) ?_
     obtain rfl:=aC h
     exact hK _ _ _ _ _ aJ ak (kn _ hfr (ai.trans rfl))
   · obtain ⟨qR,gY,h⟩:=aq h
     refine az (aA ei (aA gY ai)) ?_
     obtain rfl:=aC h
     exact hK _ _ _ _ _ aJ ak (kn _ hfr (ai.trans rfl))
theorem AL {F:Nat} {kZ:List UInt8} {kI:Int} {oz:Nat} {iB:List UInt8} {H0 H:AH} (hfr:Fr H0 H0.length [] H) (ai:H[oz]? =some [(.str ([]:List UInt8)),(.str ([]:List UInt8))]) (dL:H0.length≤oz) {K:Exit→Env→AH→Prop} {t26:Bool}
 (h:qp F kZ kI=some t26)
 (kn:∀H':AH,Fr H0 H0.length [] H'→H'[oz]? =some [(.str ([]:List UInt8)),(.str ([]:List UInt8))]→K .normal [(2,(.ptr oz 0)),(6,(.str kZ)),(7,(.str iB)),(9,(.int .i64 kI)),(82,(.bool t26))] H'):
 AX Tryz.prog ij 98 H0.length (erase tY) K [(2,(.ptr oz 0)),(6,(.str kZ)),(7,(.str iB)),(9,(.int .i64 kI))] H:=by
 refine bY fun K' hK=> ?_
 have hle:=hfr.le
 have aM:=aQ ai
 rw [qp.eq_1] at h
 obtain ⟨D7,gZ,h⟩:=aq h
 refine az (aA gZ ai) ?_
 obtain ⟨Rp,iQ,h⟩:=aq h
 refine bC ak (vA iQ) ?_
 refine az ai ?_
 refine bP h (fun gD h=> ?_) fun gD h=> ?_
 · refine az (aA gD ai) ?_
   obtain rfl:=aC h
   exact hK _ _ _ _ _ aJ ak (kn _ hfr (ai.trans rfl))
 · refine az (aA gD ai) ?_
   refine bP h (fun hM h=> ?_) fun hM h=> ?_
   · refine az (aA hM ai) ?_
     obtain rfl:=aC h
     exact hK _ _ _ _ _ aJ ak (kn _ hfr (ai.trans rfl))
   · obtain ⟨D9,jJ,h⟩:=aq h
     refine az (aA hM (aA jJ ai)) ?_
     obtain rfl:=aC h
     exact hK _ _ _ _ _ aJ ak (kn _ hfr (ai.trans rfl))
theorem AM {kZ:List UInt8} {kI:Int} {iB:List UInt8} {yb:List UInt8} {Rt:Nat} {H0 H:AH} (hfr:Fr H0 H0.length [] H) (ai:H[Rt]? =some [(.str ([]:List UInt8)),(.str ([]:List UInt8))]) (dL:H0.length≤Rt) {K:Exit→Env→AH→Prop} {t32:List UInt8} {t33:Int} {s34:aB}
 (h:qq kZ kI iB yb=some (t32,t33,s34))
 (kn:∀H':AH,Fr H0 H0.length [] H'→H'[Rt]? =some [(.str s34.av),(.str s34.domain)]→K .normal [(2,(.ptr Rt 0)),(3,(.str t32)),(4,(.int .i64 t33))] H'):
 AX Tryz.prog ij 98 H0.length (erase tZ) K [(2,(.ptr Rt 0)),(6,(.str kZ)),(9,(.int .i64 kI)),(10,(.ep (.agg [(.str iB),(.str yb)]) 0))] H:=by
 refine bY fun K' hK=> ?_
 have hle:=hfr.le
 have aM:=aQ ai
 rw [qq.eq_1] at h
 obtain ⟨Rr,EG,h⟩:=aq h
 refine az (aA EG ai) ?_
 obtain ⟨rfl,rfl,rfl⟩:=oQ h
 exact hK _ _ _ _ _ aJ ak (kn _ (bW _ hfr) cA)
theorem EN {F:Nat} {s1:List UInt8} {H0:AH} {aS:aB} {eL:List UInt8} {Kq:Int} (h:xh F s1=some (aS,eL,Kq)):
 aG Tryz.prog 51 [(.str s1)] H0 fun v H'=>v=(.bB [(.agg [(.str aS.av),(.str aS.domain)]),(.str eL),(.int .i64 Kq)])∧H'=H0:=by
 refine l7 F1 ij [] fun hcl K0 aO H hH hfr=> ?_
 clear hH
 have hle:=hfr.le
 rw [xh.eq_1] at h
 refine cM ?_
 obtain ⟨q2,jX⟩:∃q:Nat,H.length=q:=⟨_,rfl⟩
 try rw [jX]
 obtain ⟨t5,hy3,h⟩:=aq h
 refine bz ak (AG (q2:=q2) (Fr.app hfr) uC bX hy3 ?_)
 intro H hfr ai
 have hle:=hfr.le
 have aM:=aQ ai
 refine az ai ?_
 refine bk h (fun hy4 h=> ?_) fun hy4 h=> ?_
 · refine az ai ?_
   obtain ⟨rfl,rfl,rfl⟩:=oQ h
   exact aO _ _ _ bh (aT (bW _ hfr) hcl (bn (cs:=[(.str ([]:List UInt8)),(.str ([]:List UInt8))]) (v:=(.agg [(.str ([]:List UInt8)),(.str ([]:List UInt8))])) (by kernel_rfl) (n:=(some 2)) (by kernel_rfl) rfl cA (by simp [bG,bF,dP,aU,AV.flat,bZ,cy,AV.bu,Tg.sh]) (aW (aW aZ (.int .i64 3)) (.str ([]:List UInt8)))) bf aX ⟨rfl,rfl⟩)
 · refine az ai ?_
   obtain ⟨t9,cC,h⟩:=aq h
   refine bz ak (AI (q6:=q2) hfr (ai.trans rfl) bX cC ?_)
   intro H hfr ai
   have hle:=hfr.le
   have aM:=aQ ai
   refine az ai ?_
   refine bk h (fun cr h=> ?_) fun cr h=> ?_
   · obtain ⟨xQ,cP,h⟩:=aq h
     refine az (aA cP ai) ?_
     obtain ⟨rfl,rfl,rfl⟩:=oQ h
     exact aO _ _ _ bh (aT (bW _ hfr) hcl (bn (cs:=[(.str ([]:List UInt8)),(.str ([]:List UInt8))]) (v:=(.agg [(.str ([]:List UInt8)),(.str ([]:List UInt8))])) (by kernel_rfl) (n:=(some 2)) (by kernel_rfl) rfl cA (by simp [bG,bF,dP,aU,AV.flat,bZ,cy,AV.bu,Tg.sh]) (aW (aW aZ (.int .i64 0)) (.str xQ))) bf aX ⟨rfl,rfl⟩)
   · obtain ⟨ga,ck,h⟩:=aq h
     refine az (aA ck ai) ?_
     obtain ⟨iz,cx,h⟩:=aq h
     refine bC ak (C6 cx) ?_
     refine az ai ?_
     refine bk h (fun cN h=> ?_) fun cN h=> ?_
     · refine az ai ?_
       obtain ⟨rfl,rfl,rfl⟩:=oQ h
       exact aO _ _ _ bh (aT (bW _ hfr) hcl (bn (cs:=[(.str ([]:List UInt8)),(.str ([]:List UInt8))]) (v:=(.agg [(.str ([]:List UInt8)),(.str ([]:List UInt8))])) (by kernel_rfl) (n:=(some 2)) (by kernel_rfl) rfl cA (by simp [bG,bF,dP,aU,AV.flat,bZ,cy,AV.bu,Tg.sh]) (aW (aW aZ (.int .i64 3)) (.str ([]:List UInt8)))) bf aX ⟨rfl,rfl⟩)
     · obtain ⟨gX,cH,h⟩:=aq h
       refine az (aA cH ai) ?_
       obtain ⟨⟨iB,fm⟩,dV,h⟩:=aq h
       dsimp only at h
       refine bC ak (C7 dV) ?_
       refine az ai ?_
       obtain ⟨t19,gq,h⟩:=aq h
       refine bz ak (AJ (iB:=iB) (AK:=q2) hfr (ai.trans rfl) bX gq ?_)
       intro H hfr ai
       have hle:=hfr.le
       have aM:=aQ ai
       refine az ai ?_
       refine bk h (fun fS h=> ?_) fun fS h=> ?_
       · refine az ai ?_
         obtain ⟨rfl,rfl,rfl⟩:=oQ h
         exact aO _ _ _ bh (aT (bW _ hfr) hcl (bn (cs:=[(.str ([]:List UInt8)),(.str ([]:List UInt8))]) (v:=(.agg [(.str ([]:List UInt8)),(.str ([]:List UInt8))])) (by kernel_rfl) (n:=(some 2)) (by kernel_rfl) rfl cA (by simp [bG,bF,dP,aU,AV.flat,bZ,cy,AV.bu,Tg.sh]) (aW (aW aZ (.int .i64 3)) (.str ([]:List UInt8)))) bf aX ⟨rfl,rfl⟩)
       · obtain ⟨kZ,fT,h⟩:=aq h
         refine az (aA fT ai) ?_
         obtain ⟨kI,gr,h⟩:=aq h
         refine bC ak (tR gr) ?_
         refine az ai ?_
         obtain ⟨t27,pJ,h⟩:=aq h
         refine bz ak (AL (iB:=iB) (oz:=q2) hfr (ai.trans rfl) bX pJ ?_)
         intro H hfr ai
         have hle:=hfr.le
         have aM:=aQ ai
         refine az ai ?_
         refine bk h (fun rM h=> ?_) fun rM h=> ?_
         · refine az ai ?_
           obtain ⟨rfl,rfl,rfl⟩:=oQ h
           exact aO _ _ _ bh (aT (bW _ hfr) hcl (bn (cs:=[(.str ([]:List UInt8)),(.str ([]:List UInt8))]) (v:=(.agg [(.str ([]:List UInt8)),(.str ([]:List UInt8))])) (by kernel_rfl) (n:=(some 2)) (by kernel_rfl) rfl cA (by simp [bG,bF,dP,aU,AV.flat,bZ,cy,AV.bu,Tg.sh]) (aW (aW aZ (.int .i64 3)) (.str ([]:List UInt8)))) bf aX ⟨rfl,rfl⟩)
         · obtain ⟨yb,ED,h⟩:=aq h
           refine az (aA ED ai) ?_
           obtain ⟨fG,Cp,h⟩:=aq h
           refine bC ak (C9 Cp) ?_
           refine az ai ?_
           refine bk h (fun EE h=> ?_) fun EE h=> ?_
           · refine az ai ?_
             obtain ⟨rfl,rfl,rfl⟩:=oQ h
             exact aO _ _ _ bh (aT (bW _ (bW _ (Fr.app hfr))) hcl (bn (cs:=[(.str ([]:List UInt8)),(.str ([]:List UInt8))]) (v:=(.agg [(.str ([]:List UInt8)),(.str ([]:List UInt8))])) (by kernel_rfl) (n:=(some 2)) (by kernel_rfl) rfl cA (by simp [bG,bF,dP,aU,AV.flat,bZ,cy,AV.bu,Tg.sh]) (aW (aW aZ (.int .i64 5)) (.str ([]:List UInt8)))) bf aX ⟨rfl,rfl⟩)
           · refine az ai ?_
             refine XT ?_
             apply AX.freeze (s:=H.length) (cs:=[(.str iB),(.str yb)]) (by exact cA) (gT.same (gT.same (gT.nil))) (by simp) rfl
             · repeat (first|exact FZ.nil|apply FZ.ep|apply FZ.same)
             refine ouZ ?_
             obtain ⟨⟨t35,t36,Rs⟩,KC,h⟩:=aq h
             dsimp only at h
             refine bz ak (AM (Rt:=q2) (bW _ (bW _ (Fr.app hfr))) (fN (fN (kz (ai.trans rfl)))) bX KC ?_)
             intro H hfr ai
             have hle:=hfr.le
             have aM:=aQ ai
             refine az ai ?_
             obtain ⟨rfl,rfl,rfl⟩:=oQ h
             exact aO _ _ _ bh (aT hfr hcl (bn (cs:=[(.str Rs.av),(.str Rs.domain)]) (v:=(.agg [(.str Rs.av),(.str Rs.domain)])) (by kernel_rfl) (n:=(some 2)) (by kernel_rfl) rfl (ai.trans rfl) (by simp [bG,bF,dP,aU,AV.flat,bZ,cy,AV.bu,Tg.sh]) (aW (aW aZ (.int .i64 t36)) (.str t35))) bf aX ⟨rfl,rfl⟩)
abbrev ua:ax:=(.rg [(au 12 4),(aj 13 (.bin .eql (.t 12) (.c (.str [])))),(au 14 13),(ay 15 (.mv (.t 4)) 14 false),(ay 16 (.lens (.t 15)) 14 false),(ay 17 (.bin .gtr (.t 16) (.c (.int .i64 9))) 14 false),(aj 18 (.pick (.t 14) (.c (.bool true)) (.t 17)))])
abbrev uc:ax:=(.rg [(au 25 4),(au 26 6),(aj 27 (.ixs (.t 25) (.t 26))),(aj 28 (.bin .lss (.t 27) (.c (b8 48)))),(au 29 28),(ay 30 (.mv (.t 4)) 29 false),(ay 31 (.mv (.t 6)) 29 false),(ay 32 (.ixs (.t 30) (.t 31)) 29 false),(ay 33 (.bin .gtr (.t 32) (.c (b8 57))) 29 false),(aj 34 (.pick (.t 29) (.c (.bool true)) (.t 33)))])
abbrev sr:ax:=(.seq (.seq (.rg [(au 19 6),(au 20 4),(aj 21 (.lens (.t 20))),(aj 22 (.bin .lss (.t 19) (.t 21)))]) (.cond (.t 22) .skip (.exit 0))) (.seq (.blk 1 (.seq (.seq (.sem (erase uc)) (.cond (.t 34) (.seq (.rg [(aj 2 (.aP (.c (.int .i64 0)))),(aj 3 (.aP (.c (.bool false))))]) .ret) .skip)) (.rg [(au 35 5),(aj 36 (.bin .mul (.c (.int .i64 10)) (.t 35))),(au 37 4),(au 38 6),(aj 39 (.ixs (.t 37) (.t 38))),(aj 40 (.bin .sub (.t 39) (.c (b8 48)))),(aj 41 (.jt (.int .i64) (.t 40))),(aj 42 (.bin .add (.t 36) (.t 41))),(aR 5 42)]))) (.rg [(au 23 6),(aj 24 (.bin .add (.t 23) (.c (.int .i64 1)))),(aR 6 24)])))
abbrev F2:ax:=(.seq (.rg [(aj 2 (.aP (.c (.int .i64 0)))),(aj 3 (.aP (.c (.bool false))))]) (.seq (.seq (.rg [(au 7 0),(aj 8 (.call (.c (.fn 50 [])) [(.t 7),(.c (.str [32,115,105,122,101,61]))])),(aj 9 (.un .not (.t 8)))]) (.cond (.t 9) (.seq (.rg [(aj 2 (.aP (.c (.int .i64 0)))),(aj 3 (.aP (.c (.bool false))))]) .ret) .skip)) (.seq (.rg [(au 10 0),(aj 11 (.gR (.t 10) (some (.c (.int .i64 6))) none)),(aR 4 11)]) (.seq (.seq (.sem (erase ua)) (.cond (.t 18) (.seq (.rg [(aj 2 (.aP (.c (.int .i64 0)))),(aj 3 (.aP (.c (.bool false))))]) .ret) .skip)) (.seq (.rg [(aj 5 (.aP (.c (.int .i64 0))))]) (.seq (.seq (.rg [(aj 6 (.aP (.c (.int .i64 0))))]) (.blk 0 (.loop (erase sr)))) (.seq (.rg [(au 43 5),(aR 2 43),(aj 3 (.aP (.c (.bool true))))]) .ret)))))))
theorem F3:bN Tryz.prog 53 44 [(.tmp 2),(.tmp 3)] (erase F2):=⟨Tryz.f53,_,rfl,by decide,rfl,by kernel_rfl,rfl,rfl⟩
abbrev lZ:List Nat:=[0,2,3,4,5,6,9,18,22,34]
def qs (x3:List UInt8) (i5:Int):Option (Bool):=
 (idx x3 i5).bind fun x6=>
 (if (decide (x6<48)) then
  some true
 else
  some (decide (57<x6)))
def qt (x3:List UInt8):(Int×Int)→Option (St (Int×Bool) Int (Int×Int))
 |(B0,i5)=>
  (if (decide (i5<(x3.length:Int))) then
   (qs x3 i5).bind fun t8=>
   (if t8 then
    some (.ret (0,false))
   else
    (idx x3 i5).bind fun x9=>
    some (.cY ((IntKind.wrap .i64 ((IntKind.wrap .i64 (10*B0))+(IntKind.wrap .i64 ((x9 - 48).toNat:Int)))),(IntKind.wrap .i64 (i5+1)))))
  else
   some (.dR B0))
def xj (F:Nat) (s1:List UInt8):Option (Int×Bool):=
 (ov F s1 ([32,115,105,122,101,61]:List UInt8)).bind fun r2=>
 (if (!r2) then
  some (0,false)
 else
  (sub s1 6 (s1.length:Int)).bind fun x3=>
  (if ((decide (x3=([]:List UInt8)))||(decide (9<(x3.length:Int)))) then
   some (0,false)
  else
   ((iter (qt x3) F (0,0)).bind fun Kp=>
   match Kp with
   | .inr UW=>
     some (UW,true)
   | .inl (iB,fm)=>
     some (iB,fm))))
theorem AN {x3:List UInt8} {H:AH} {K:Exit→Env→AH→Prop}
 (kn:K .normal [(4,(.str x3)),(18,(.bool ((decide (x3=([]:List UInt8)))||(decide (9<(x3.length:Int))))))] H):
 AX Tryz.prog lZ 44 H.length (erase ua) K [(4,(.str x3))] H:=by
 refine bY fun K' hK=> ?_
 refine aE ?_
 refine gK (fun hy4=> ?_) fun hy4=> ?_
 · refine aV hy4 ?_
   exact hK _ _ _ _ _ (dy hy4) ak kn
 · refine aV hy4 ?_
   exact hK _ _ _ _ _ (dy hy4) ak kn
theorem AO {x3:List UInt8} {i5:Int} {B0:Int} {H:AH} {K:Exit→Env→AH→Prop} {t7:Bool}
 (h:qs x3 i5=some t7)
 (kn:K .normal [(4,(.str x3)),(5,(.int .i64 B0)),(6,(.int .i64 i5)),(34,(.bool t7))] H):
 AX Tryz.prog lZ 44 H.length (erase uc) K [(4,(.str x3)),(5,(.int .i64 B0)),(6,(.int .i64 i5))] H:=by
 refine bY fun K' hK=> ?_
 rw [qs.eq_1] at h
 obtain ⟨x6,cC,h⟩:=aq h
 refine aV cC ?_
 refine bP h (fun cr h=> ?_) fun cr h=> ?_
 · refine aV cr ?_
   obtain rfl:=aC h
   exact hK _ _ _ _ _ aJ ak kn
 · refine aV (aA cr cC) ?_
   obtain rfl:=aC h
   exact hK _ _ _ _ _ aJ ak kn
theorem AP {F:Nat} {i5:Int} {x3:List UInt8} {B0:Int} {H:AH} {K:Exit→Env→AH→Prop} {o:(Int×Bool)⊕(Int)}
 (h:iter (qt x3) F (B0,i5)=some o)
 (dc:∀o':Int,o= .inr o'→K (.exit 0) [(5,(.int .i64 o'))] H)
 (kr:∀o':Int×Bool,o= .inl o'→K .ret [(2,(.int .i64 o'.1)),(3,(.bool o'.2))] H):
 AX Tryz.prog lZ 44 H.length (.loop (erase sr)) K [(4,(.str x3)),(5,(.int .i64 B0)),(6,(.int .i64 i5))] H:=by
 refine gL (fun s e H1=>match s with|(B0,i5)=>e=[(4,(.str x3)),(5,(.int .i64 B0)),(6,(.int .i64 i5))]∧H1=H) h ⟨rfl,rfl⟩ ?_
 rintro K' ⟨B0,i5⟩ st e H ⟨rfl,rfl⟩ h hN hB hR hX
 rw [qt.eq_1] at h
 refine aE ?_
 refine bk h (fun b6 h=> ?_) fun b6 h=> ?_
 · refine aE ?_
   obtain ⟨t8,cP,h⟩:=aq h
   refine bz ak (AO (B0:=B0) cP ?_)
   refine aE ?_
   refine bk h (fun ck h=> ?_) fun ck h=> ?_
   · refine aE ?_
     obtain rfl:=aC h
     exact hX _ _ _ _ _ dm aJ ak (kr _ (hR _ rfl))
   · obtain ⟨x9,cx,h⟩:=aq h
     refine aV cx ?_
     obtain rfl:=aC h
     exact hN _ rfl _ _ _ _ aJ ak ⟨rfl,rfl⟩
 · refine aE ?_
   obtain rfl:=aC h
   exact hX _ _ _ _ _ dm aJ ak (dc _ (hB _ rfl))
theorem EO {F:Nat} {s1:List UInt8} {H0:AH} {aS:Int} {eL:Bool} (h:xj F s1=some (aS,eL)):
 aG Tryz.prog 53 [(.str s1)] H0 fun v H'=>v=(.bB [(.int .i64 aS),(.bool eL)])∧H'=H0:=by
 refine fF F3 lZ fun hcl K0 aO=> ?_
 rw [xj.eq_1] at h
 refine aE ?_
 obtain ⟨r2,hy1,h⟩:=aq h
 refine bC ak (vz hy1) ?_
 refine aE ?_
 refine bk h (fun hy2 h=> ?_) fun hy2 h=> ?_
 · refine aE ?_
   obtain ⟨rfl,rfl⟩:=cB h
   exact aO _ _ _ bh (aK hcl (aW (aW aZ (.bool false)) (.int .i64 0)) bf aX ⟨rfl,rfl⟩)
 · obtain ⟨x3,hy3,h⟩:=aq h
   refine aV hy3 ?_
   refine bz ak (AN (x3:=x3) ?_)
   refine aE ?_
   refine bk h (fun bJ h=> ?_) fun bJ h=> ?_
   · refine aE ?_
     obtain ⟨rfl,rfl⟩:=cB h
     exact aO _ _ _ bh (aK hcl (aW (aW aZ (.bool false)) (.int .i64 0)) bf aX ⟨rfl,rfl⟩)
   · refine aE ?_
     obtain ⟨Kp,cN,h⟩:=aq h
     refine bz ak (AP cN ?_ ?_)
     · rintro UW rfl
       try dsimp only at h
       refine aE ?_
       obtain ⟨rfl,rfl⟩:=cB h
       exact aO _ _ _ bh (aK hcl (aW (aW aZ (.bool true)) (.int .i64 UW)) bf aX ⟨rfl,rfl⟩)
     · rintro ⟨iB,fm⟩ rfl
       try dsimp only at h
       refine aE ?_
       obtain ⟨rfl,rfl⟩:=cB h
       exact aO _ _ _ bh (aK hcl (aW (aW aZ (.bool fm)) (.int .i64 iB)) bf aX ⟨rfl,rfl⟩)
abbrev ud:ax:=(.cond (.t 15) (.rg [(aj 6 (.aP (.c (.str [32,116,111,58]))))]) .skip)
abbrev ue:ax:=(.rg [(aj 31 (.cF (.t 7) 0)),(aj 32 (.ld (.t 31) none)),(aj 33 (.bin .eql (.t 32) (.c (.str [])))),(au 34 33),(ay 35 (.cF (.t 7) 1) 34 true),(ay 36 (.ld (.t 35) none) 34 true),(ay 37 (.bin .eql (.t 36) (.c (.str []))) 34 true),(aj 38 (.pick (.t 34) (.t 37) (.c (.bool false)))),(aR 10 38)])
abbrev uf:ax:=(.rg [(au 39 9),(aj 40 (.bin .neq (.t 39) (.c (.int .i64 0)))),(au 41 40),(ay 42 (.mv (.t 0)) 41 false),(ay 43 (.bin .eql (.t 42) (.c (.int .i64 4))) 41 false),(ay 44 (.mv (.t 43)) 41 false),(ay 45 (.mv (.t 10)) 44 true),(ay 46 (.pick (.t 44) (.t 45) (.c (.bool false))) 41 false),(aj 47 (.pick (.t 41) (.c (.bool true)) (.t 46)))])
abbrev ug:ax:=(.cond (.t 53) (.rg [(aj 54 (.cF (.t 11) 4)),(cR (.st (.t 54) (.c (.int .i64 (-1))) 1))]) .skip)
abbrev uh:ax:=(.rg [(au 63 13),(au 64 63),(ay 65 (.mv (.t 0)) 64 true),(ay 66 (.bin .eql (.t 65) (.c (.int .i64 3))) 64 true),(aj 67 (.pick (.t 64) (.t 66) (.c (.bool false))))])
abbrev F4:ax:=(.seq (.rg [(aj 4 (.alloc [(.int .i64 0),(.str []),(.str []),(.str []),(.int .i64 0)])),(aj 5 (.aP (.c (.int .i64 0))))]) (.seq (.rg [(aj 6 (.aP (.c (.str [32,102,114,111,109,58]))))]) (.seq (.seq (.rg [(au 14 0),(aj 15 (.bin .eql (.t 14) (.c (.int .i64 4))))]) (.sem (erase ud))) (.seq (.seq (.rg [(au 16 1),(au 17 6),(aj 18 (.call (.c (.fn 50 [])) [(.t 16),(.t 17)])),(aj 19 (.un .not (.t 18)))]) (.cond (.t 19) (.seq (.rg [(aj 20 (.build [(.int .i64 0),(.str []),(.str []),(.str []),(.int .i64 0)] [])),(cR (.st (.t 4) (.t 20) 5)),(aj 5 (.aP (.c (.int .i64 501))))]) .ret) .skip)) (.seq (.rg [(au 22 1),(au 23 6),(aj 24 (.lens (.t 23))),(aj 25 (.gR (.t 22) (some (.t 24)) none)),(aj 26 (.call (.c (.fn 52 [])) [(.t 25)])),(aj 27 (.call (.c (.fn 51 [])) [(.t 26)])),(au 21 27),(aj 28 (.ext (.t 21) 0)),(aj 29 (.ext (.t 21) 1)),(aj 30 (.ext (.t 21) 2)),(aj 7 (.alloc [(.str []),(.str [])])),(cR (.st (.t 7) (.t 28) 2)),(aR 8 29),(aR 9 30)]) (.seq (.sem (erase ue)) (.seq (.seq (.sem (erase uf)) (.cond (.t 47) (.seq (.rg [(aj 48 (.build [(.int .i64 0),(.str []),(.str []),(.str []),(.int .i64 0)] [])),(cR (.st (.t 4) (.t 48) 5)),(aj 5 (.aP (.c (.int .i64 501))))]) .ret) .skip)) (.seq (.rg [(au 49 0),(aj 50 (.ld (.t 7) (some 2))),(aj 51 (.build [(.int .i64 0),(.str []),(.str []),(.str []),(.int .i64 0)] [(0,(1,(.t 49))),(2,(2,(.t 50)))])),(aj 11 (.alloc [(.int .i64 0),(.str []),(.str []),(.str []),(.int .i64 0)])),(cR (.st (.t 11) (.t 51) 5))]) (.seq (.seq (.rg [(au 52 0),(aj 53 (.bin .eql (.t 52) (.c (.int .i64 3))))]) (.sem (erase ug))) (.seq (.seq (.rg [(au 55 8),(aj 56 (.bin .eql (.t 55) (.c (.str []))))]) (.cond (.t 56) (.seq (.rg [(aj 57 (.ld (.t 11) (some 5))),(cR (.st (.t 4) (.t 57) 5)),(aj 5 (.aP (.c (.int .i64 0))))]) .ret) .skip)) (.seq (.rg [(au 59 8),(aj 60 (.call (.c (.fn 53 [])) [(.t 59)])),(au 58 60),(aj 61 (.ext (.t 58) 0)),(aj 62 (.ext (.t 58) 1)),(aR 12 61),(aR 13 62)]) (.seq (.seq (.sem (erase uh)) (.cond (.t 67) (.seq (.rg [(au 68 12),(aj 69 (.cF (.t 11) 4)),(cR (.st (.t 69) (.t 68) 1))]) (.seq (.rg [(aj 70 (.ld (.t 11) (some 5))),(cR (.st (.t 4) (.t 70) 5)),(aj 5 (.aP (.c (.int .i64 0))))]) .ret)) .skip)) (.seq (.seq (.rg [(au 71 8),(aj 72 (.ixs (.t 71) (.c (.int .i64 0)))),(aj 73 (.bin .eql (.t 72) (.c (b8 32))))]) (.cond (.t 73) (.seq (.rg [(aj 74 (.build [(.int .i64 0),(.str []),(.str []),(.str []),(.int .i64 0)] [])),(cR (.st (.t 4) (.t 74) 5)),(aj 5 (.aP (.c (.int .i64 555))))]) .ret) .skip)) (.seq (.rg [(aj 75 (.build [(.int .i64 0),(.str []),(.str []),(.str []),(.int .i64 0)] [])),(cR (.st (.t 4) (.t 75) 5)),(aj 5 (.aP (.c (.int .i64 501))))]) .ret))))))))))))))
theorem F5:bN Tryz.prog 29 76 [(.cell 4 29),(.tmp 5)] (erase F4):=⟨Tryz.f29,_,rfl,by decide,rfl,by kernel_rfl,rfl,rfl⟩
abbrev iu:List Nat:=[0,1,4,5,6,7,8,9,10,11,12,13,15,19,47,53,56,67,73]
def qu (gB:Int):Option ((List UInt8)):=
 (if (decide (gB=4)) then
  some ([32,116,111,58]:List UInt8)
 else
  some ([32,102,114,111,109,58]:List UInt8))
def qv (gB:Int) (r9:aB):Option (aF):=
 (if (decide (gB=3)) then
  some (aF.mk gB ([]:List UInt8) r9 (-1))
 else
  some (aF.mk gB ([]:List UInt8) r9 0))
def xk (F:Nat) (gB:Int) (qw:List UInt8):Option (aF×Int):=
 (qu gB).bind fun Nj=>
 (ov F qw Nj).bind fun r6=>
 (if (!r6) then
  some ((aF.mk 0 ([]:List UInt8) (aB.mk ([]:List UInt8) ([]:List UInt8)) 0),501)
 else
  (sub qw (Nj.length:Int) (qw.length:Int)).bind fun x7=>
  (xe F x7).bind fun r8=>
  (xh F r8).bind fun (r9,dM,lD)=>
  (if ((!decide (lD=0))||((decide (gB=4))&&((decide (r9.av=([]:List UInt8)))&&(decide (r9.domain=([]:List UInt8)))))) then
   some ((aF.mk 0 ([]:List UInt8) (aB.mk ([]:List UInt8) ([]:List UInt8)) 0),501)
  else
   (qv gB r9).bind fun iF=>
   (if (decide (dM=([]:List UInt8))) then
    some (iF,0)
   else
    (xj F dM).bind fun (mc,kI)=>
    (if (kI&&(decide (gB=3))) then
     some ((aF.mk iF.kind iF.arg iF.path mc),0)
    else
     (idx dM 0).bind fun D8=>
     (if (decide (D8=32)) then
      some ((aF.mk 0 ([]:List UInt8) (aB.mk ([]:List UInt8) ([]:List UInt8)) 0),555)
     else
      some ((aF.mk 0 ([]:List UInt8) (aB.mk ([]:List UInt8) ([]:List UInt8)) 0),501))))))
theorem AQ {gB:Int} {qw:List UInt8} {q3:Nat} {H0 H:AH} (hfr:Fr H0 H0.length [] H) (ai:H[q3]? =some [(.int .i64 0),(.str ([]:List UInt8)),(.str ([]:List UInt8)),(.str ([]:List UInt8)),(.int .i64 0)]) (dL:H0.length≤q3) {K:Exit→Env→AH→Prop} {UY:List UInt8}
 (h:qu gB=some UY)
 (kn:∀H':AH,Fr H0 H0.length [] H'→H'[q3]? =some [(.int .i64 0),(.str ([]:List UInt8)),(.str ([]:List UInt8)),(.str ([]:List UInt8)),(.int .i64 0)]→K .normal [(0,(.int .i64 gB)),(1,(.str qw)),(4,(.ptr q3 0)),(6,(.str UY))] H'):
 AX Tryz.prog iu 76 H0.length (erase ud) K [(0,(.int .i64 gB)),(1,(.str qw)),(4,(.ptr q3 0)),(6,(.str ([32,102,114,111,109,58]:List UInt8))),(15,(.bool (decide (gB=4))))] H:=by
 refine bY fun K' hK=> ?_
 have hle:=hfr.le
 have aM:=aQ ai
 rw [qu.eq_1] at h
 refine az ai ?_
 refine bk h (fun hy1 h=> ?_) fun hy1 h=> ?_
 · refine az ai ?_
   obtain rfl:=aC h
   exact hK _ _ _ _ _ aJ ak (kn _ hfr (ai.trans rfl))
 · refine az ai ?_
   obtain rfl:=aC h
   exact hK _ _ _ _ _ aJ ak (kn _ hfr (ai.trans rfl))
theorem AR {gB:Int} {Nk:Nat} {k5:Nat} {dM:List UInt8} {lD:Int} {r9:aB} {H0 H:AH} (hfr:Fr H0 H0.length [] H) (ai:H[Nk]? =some [(.int .i64 0),(.str ([]:List UInt8)),(.str ([]:List UInt8)),(.str ([]:List UInt8)),(.int .i64 0)]) (aN:H[k5]? =some [(.str r9.av),(.str r9.domain)]) (dL:H0.length≤Nk) (hi1:H0.length≤k5) (hi2:Nk≠k5) {K:Exit→Env→AH→Prop}
 (kn:∀H':AH,Fr H0 H0.length [] H'→H'[Nk]? =some [(.int .i64 0),(.str ([]:List UInt8)),(.str ([]:List UInt8)),(.str ([]:List UInt8)),(.int .i64 0)]→H'[k5]? =some [(.str r9.av),(.str r9.domain)]→K .normal [(0,(.int .i64 gB)),(4,(.ptr Nk 0)),(7,(.ptr k5 0)),(8,(.str dM)),(9,(.int .i64 lD)),(10,(.bool ((decide (r9.av=([]:List UInt8)))&&(decide (r9.domain=([]:List UInt8))))))] H'):
 AX Tryz.prog iu 76 H0.length (erase ue) K [(0,(.int .i64 gB)),(4,(.ptr Nk 0)),(7,(.ptr k5 0)),(8,(.str dM)),(9,(.int .i64 lD))] H:=by
 refine bY fun K' hK=> ?_
 have hle:=hfr.le
 have aM:=aQ ai
 have lI:=aQ aN
 refine az (aA ai aN) ?_
 refine gK (fun cr=> ?_) fun cr=> ?_
 · refine az (aA cr (aA ai aN)) ?_
   exact hK _ _ _ _ _ (dy cr) ak (kn _ hfr (ai.trans rfl) (aN.trans rfl))
 · refine az (aA cr (aA ai aN)) ?_
   exact hK _ _ _ _ _ (dy cr) ak (kn _ hfr (ai.trans rfl) (aN.trans rfl))
theorem AS {gB:Int} {yJ:Nat} {AT:Nat} {dM:List UInt8} {lD:Int} {r9:aB} {H0 H:AH} (hfr:Fr H0 H0.length [] H) (ai:H[yJ]? =some [(.int .i64 0),(.str ([]:List UInt8)),(.str ([]:List UInt8)),(.str ([]:List UInt8)),(.int .i64 0)]) (aN:H[AT]? =some [(.str r9.av),(.str r9.domain)]) (dL:H0.length≤yJ) (hi1:H0.length≤AT) (hi2:yJ≠AT) {K:Exit→Env→AH→Prop}
 (kn:∀H':AH,Fr H0 H0.length [] H'→H'[yJ]? =some [(.int .i64 0),(.str ([]:List UInt8)),(.str ([]:List UInt8)),(.str ([]:List UInt8)),(.int .i64 0)]→H'[AT]? =some [(.str r9.av),(.str r9.domain)]→K .normal [(0,(.int .i64 gB)),(4,(.ptr yJ 0)),(7,(.ptr AT 0)),(8,(.str dM)),(47,(.bool ((!decide (lD=0))||((decide (gB=4))&&((decide (r9.av=([]:List UInt8)))&&(decide (r9.domain=([]:List UInt8))))))))] H'):
 AX Tryz.prog iu 76 H0.length (erase uf) K [(0,(.int .i64 gB)),(4,(.ptr yJ 0)),(7,(.ptr AT 0)),(8,(.str dM)),(9,(.int .i64 lD)),(10,(.bool ((decide (r9.av=([]:List UInt8)))&&(decide (r9.domain=([]:List UInt8))))))] H:=by
 refine bY fun K' hK=> ?_
 have hle:=hfr.le
 have aM:=aQ ai
 have lI:=aQ aN
 refine az (aA ai aN) ?_
 refine gK (fun cP=> ?_) fun cP=> ?_
 · refine az (aA cP (aA ai aN)) ?_
   exact hK _ _ _ _ _ (dy cP) ak (kn _ hfr (ai.trans rfl) (aN.trans rfl))
 · refine az (aA cP (aA ai aN)) ?_
   refine gK (fun ck=> ?_) fun ck=> ?_
   · refine az (aA ck (aA ai aN)) ?_
     exact hK _ _ _ _ _ (dy (aA cP ck)) ak (kn _ hfr (ai.trans rfl) (aN.trans rfl))
   · refine az (aA ck (aA ai aN)) ?_
     exact hK _ _ _ _ _ (dy (aA cP ck)) ak (kn _ hfr (ai.trans rfl) (aN.trans rfl))
theorem AU {gB:Int} {r9:aB} {AK:Nat} {dM:List UInt8} {uR:Nat} {H0 H:AH} (hfr:Fr H0 H0.length [] H) (ai:H[AK]? =some [(.int .i64 0),(.str ([]:List UInt8)),(.str ([]:List UInt8)),(.str ([]:List UInt8)),(.int .i64 0)]) (br:H[uR]? =some [(.int .i64 gB),(.str ([]:List UInt8)),(.str r9.av),(.str r9.domain),(.int .i64 0)]) (dL:H0.length≤AK) (hi1:H0.length≤uR) (hi2:AK≠uR) {K:Exit→Env→AH→Prop} {sV:aF}
 (h:qv gB r9=some sV)
 (kn:∀H':AH,Fr H0 H0.length [] H'→H'[AK]? =some [(.int .i64 0),(.str ([]:List UInt8)),(.str ([]:List UInt8)),(.str ([]:List UInt8)),(.int .i64 0)]→H'[uR]? =some [(.int .i64 sV.kind),(.str sV.arg),(.str sV.path.av),(.str sV.path.domain),(.int .i64 sV.size)]→K .normal [(0,(.int .i64 gB)),(4,(.ptr AK 0)),(8,(.str dM)),(11,(.ptr uR 0))] H'):
 AX Tryz.prog iu 76 H0.length (erase ug) K [(0,(.int .i64 gB)),(4,(.ptr AK 0)),(8,(.str dM)),(11,(.ptr uR 0)),(53,(.bool (decide (gB=3))))] H:=by
 refine bY fun K' hK=> ?_
 have hle:=hfr.le
 have aM:=aQ ai
 have yG:=aQ br
 rw [qv.eq_1] at h
 refine az (aA ai br) ?_
 refine bk h (fun cN h=> ?_) fun cN h=> ?_
 · refine az (aA ai br) ?_
   obtain rfl:=aC h
   exact hK _ _ _ _ _ aJ ak (kn _ (bW _ hfr) (fN (ai.trans rfl)) cA)
 · refine az (aA ai br) ?_
   obtain rfl:=aC h
   exact hK _ _ _ _ _ aJ ak (kn _ hfr (ai.trans rfl) (br.trans rfl))
theorem AY {gB:Int} {oz:Nat} {dM:List UInt8} {Nl:Nat} {mc:Int} {kI:Bool} {iF:aF} {H0 H:AH} (hfr:Fr H0 H0.length [] H) (ai:H[oz]? =some [(.int .i64 0),(.str ([]:List UInt8)),(.str ([]:List UInt8)),(.str ([]:List UInt8)),(.int .i64 0)]) (br:H[Nl]? =some [(.int .i64 iF.kind),(.str iF.arg),(.str iF.path.av),(.str iF.path.domain),(.int .i64 iF.size)]) (dL:H0.length≤oz) (hi1:H0.length≤Nl) (hi2:oz≠Nl) {K:Exit→Env→AH→Prop}
 (kn:∀H':AH,Fr H0 H0.length [] H'→H'[oz]? =some [(.int .i64 0),(.str ([]:List UInt8)),(.str ([]:List UInt8)),(.str ([]:List UInt8)),(.int .i64 0)]→H'[Nl]? =some [(.int .i64 iF.kind),(.str iF.arg),(.str iF.path.av),(.str iF.path.domain),(.int .i64 iF.size)]→K .normal [(4,(.ptr oz 0)),(8,(.str dM)),(11,(.ptr Nl 0)),(12,(.int .i64 mc)),(67,(.bool (kI&&(decide (gB=3)))))] H'):
 AX Tryz.prog iu 76 H0.length (erase uh) K [(0,(.int .i64 gB)),(4,(.ptr oz 0)),(8,(.str dM)),(11,(.ptr Nl 0)),(12,(.int .i64 mc)),(13,(.bool kI))] H:=by
 refine bY fun K' hK=> ?_
 have hle:=hfr.le
 have aM:=aQ ai
 have yG:=aQ br
 refine az (aA ai br) ?_
 refine gK (fun ei=> ?_) fun ei=> ?_
 · refine az (aA ei (aA ai br)) ?_
   exact hK _ _ _ _ _ (dy ei) ak (kn _ hfr (ai.trans rfl) (br.trans rfl))
 · refine az (aA ei (aA ai br)) ?_
   exact hK _ _ _ _ _ (dy ei) ak (kn _ hfr (ai.trans rfl) (br.trans rfl))
theorem EP {F:Nat} {gB:Int} {qw:List UInt8} {H0:AH} {aS:aF} {eL:Int} (h:xk F gB qw=some (aS,eL)):
 aG Tryz.prog 29 [(.int .i64 gB),(.str qw)] H0 fun v H'=>v=(.bB [(.agg [(.int .i64 aS.kind),(.str aS.arg),(.str aS.path.av),(.str aS.path.domain),(.int .i64 aS.size)]),(.int .i64 eL)])∧H'=H0:=by
 refine l7 F5 iu [] fun hcl K0 aO H hH hfr=> ?_
 clear hH
 have hle:=hfr.le
 rw [xk.eq_1] at h
 refine cM ?_
 obtain ⟨q3,Ea⟩:∃q:Nat,H.length=q:=⟨_,rfl⟩
 try rw [Ea]
 obtain ⟨Nj,hy2,h⟩:=aq h
 refine bz ak (AQ (qw:=qw) (q3:=q3) (Fr.app hfr) uC bX hy2 ?_)
 intro H hfr ai
 have hle:=hfr.le
 have aM:=aQ ai
 refine az ai ?_
 obtain ⟨r6,hy3,h⟩:=aq h
 refine bC ak (vz hy3) ?_
 refine az ai ?_
 refine bk h (fun hy4 h=> ?_) fun hy4 h=> ?_
 · refine az ai ?_
   obtain ⟨rfl,rfl⟩:=cB h
   exact aO _ _ _ bh (aT (bW _ hfr) hcl (bn (cs:=[(.int .i64 0),(.str ([]:List UInt8)),(.str ([]:List UInt8)),(.str ([]:List UInt8)),(.int .i64 0)]) (v:=(.agg [(.int .i64 0),(.str ([]:List UInt8)),(.str ([]:List UInt8)),(.str ([]:List UInt8)),(.int .i64 0)])) (by kernel_rfl) (n:=(some 5)) (by kernel_rfl) rfl cA (by simp [bG,bF,dP,aU,AV.flat,bZ,cy,AV.bu,Tg.sh]) (aW aZ (.int .i64 501))) bf aX ⟨rfl,rfl⟩)
 · obtain ⟨x7,bJ,h⟩:=aq h
   refine az (aA bJ ai) ?_
   obtain ⟨r8,b6,h⟩:=aq h
   refine bC ak (Ep b6) ?_
   refine az ai ?_
   obtain ⟨⟨r9,dM,lD⟩,cC,h⟩:=aq h
   dsimp only at h
   refine bC ak (EN cC) ?_
   refine az ai ?_
   obtain ⟨k5,XW⟩:∃q:Nat,H.length=q:=⟨_,rfl⟩
   try rw [XW]
   refine bz ak (AR (gB:=gB) (Nk:=q3) (k5:=k5) (dM:=dM) (lD:=lD) (r9:=r9) (bW _ (Fr.app hfr)) (fN (kz (ai.trans rfl))) cA bX bX bX ?_)
   intro H hfr ai aN
   have hle:=hfr.le
   have aM:=aQ ai
   have lI:=aQ aN
   refine az (aA ai aN) ?_
   refine bz ak (AS (gB:=gB) (yJ:=q3) (AT:=k5) (dM:=dM) (lD:=lD) (r9:=r9) hfr (ai.trans rfl) (aN.trans rfl) bX bX bX ?_)
   intro H hfr ai aN
   have hle:=hfr.le
   have aM:=aQ ai
   have lI:=aQ aN
   refine az (aA ai aN) ?_
   refine bk h (fun cx h=> ?_) fun cx h=> ?_
   · refine az (aA ai aN) ?_
     obtain ⟨rfl,rfl⟩:=cB h
     exact aO _ _ _ bh (aT (bW _ hfr) hcl (bn (cs:=[(.int .i64 0),(.str ([]:List UInt8)),(.str ([]:List UInt8)),(.str ([]:List UInt8)),(.int .i64 0)]) (v:=(.agg [(.int .i64 0),(.str ([]:List UInt8)),(.str ([]:List UInt8)),(.str ([]:List UInt8)),(.int .i64 0)])) (by kernel_rfl) (n:=(some 5)) (by kernel_rfl) rfl cA (by simp [bG,bF,dP,aU,AV.flat,bZ,cy,AV.bu,Tg.sh]) (aW aZ (.int .i64 501))) bf aX ⟨rfl,rfl⟩)
   · refine az (aA ai aN) ?_
     obtain ⟨uR,Iv⟩:∃q:Nat,H.length=q:=⟨_,rfl⟩
     try rw [Iv]
     obtain ⟨iF,cH,h⟩:=aq h
     refine bz ak (AU (dM:=dM) (AK:=q3) (uR:=uR) (bW _ (Fr.app hfr)) (fN (kz (ai.trans rfl))) cA bX bX bX cH ?_)
     intro H hfr ai br
     have hle:=hfr.le
     have aM:=aQ ai
     have yG:=aQ br
     refine az (aA ai br) ?_
     refine bk h (fun dV h=> ?_) fun dV h=> ?_
     · refine az (aA ai br) ?_
       obtain ⟨rfl,rfl⟩:=cB h
       exact aO _ _ _ bh (aT (bW _ hfr) hcl (bn (cs:=[(.int .i64 iF.kind),(.str iF.arg),(.str iF.path.av),(.str iF.path.domain),(.int .i64 iF.size)]) (v:=(.agg [(.int .i64 iF.kind),(.str iF.arg),(.str iF.path.av),(.str iF.path.domain),(.int .i64 iF.size)])) (by kernel_rfl) (n:=(some 5)) (by kernel_rfl) rfl cA (by simp [bG,bF,dP,aU,AV.flat,bZ,cy,AV.bu,Tg.sh]) (aW aZ (.int .i64 0))) bf aX ⟨rfl,rfl⟩)
     · refine az (aA ai br) ?_
       obtain ⟨⟨mc,kI⟩,eT,h⟩:=aq h
       dsimp only at h
       refine bC ak (EO eT) ?_
       refine az (aA ai br) ?_
       refine bz ak (AY (gB:=gB) (oz:=q3) (dM:=dM) (Nl:=uR) (mc:=mc) (kI:=kI) (iF:=iF) hfr (ai.trans rfl) (br.trans rfl) bX bX bX ?_)
       intro H hfr ai br
       have hle:=hfr.le
       have aM:=aQ ai
       have yG:=aQ br
       refine az (aA ai br) ?_
       refine bk h (fun gY h=> ?_) fun gY h=> ?_
       · refine az (aA ai br) ?_
         obtain ⟨rfl,rfl⟩:=cB h
         exact aO _ _ _ bh (aT (bW _ (bW _ hfr)) hcl (bn (cs:=[(.int .i64 iF.kind),(.str iF.arg),(.str iF.path.av),(.str iF.path.domain),(.int .i64 mc)]) (v:=(.agg [(.int .i64 iF.kind),(.str iF.arg),(.str iF.path.av),(.str iF.path.domain),(.int .i64 mc)])) (by kernel_rfl) (n:=(some 5)) (by kernel_rfl) rfl cA (by simp [bG,bF,dP,aU,AV.flat,bZ,cy,AV.bu,Tg.sh]) (aW aZ (.int .i64 0))) bf aX ⟨rfl,rfl⟩)
       · obtain ⟨D8,gq,h⟩:=aq h
         refine az (aA gq (aA ai br)) ?_
         refine bk h (fun fS h=> ?_) fun fS h=> ?_
         · refine az (aA ai br) ?_
           obtain ⟨rfl,rfl⟩:=cB h
           exact aO _ _ _ bh (aT (bW _ hfr) hcl (bn (cs:=[(.int .i64 0),(.str ([]:List UInt8)),(.str ([]:List UInt8)),(.str ([]:List UInt8)),(.int .i64 0)]) (v:=(.agg [(.int .i64 0),(.str ([]:List UInt8)),(.str ([]:List UInt8)),(.str ([]:List UInt8)),(.int .i64 0)])) (by kernel_rfl) (n:=(some 5)) (by kernel_rfl) rfl cA (by simp [bG,bF,dP,aU,AV.flat,bZ,cy,AV.bu,Tg.sh]) (aW aZ (.int .i64 555))) bf aX ⟨rfl,rfl⟩)
         · refine az (aA ai br) ?_
           obtain ⟨rfl,rfl⟩:=cB h
           exact aO _ _ _ bh (aT (bW _ hfr) hcl (bn (cs:=[(.int .i64 0),(.str ([]:List UInt8)),(.str ([]:List UInt8)),(.str ([]:List UInt8)),(.int .i64 0)]) (v:=(.agg [(.int .i64 0),(.str ([]:List UInt8)),(.str ([]:List UInt8)),(.str ([]:List UInt8)),(.int .i64 0)])) (by kernel_rfl) (n:=(some 5)) (by kernel_rfl) rfl cA (by simp [bG,bF,dP,aU,AV.flat,bZ,cy,AV.bu,Tg.sh]) (aW aZ (.int .i64 501))) bf aX ⟨rfl,rfl⟩)
abbrev su:ax:=(.rg [(au 14 0),(au 15 4),(aj 16 (.ixs (.t 14) (.t 15))),(aj 17 (.bin .lss (.t 16) (.c (b8 32)))),(au 18 17),(ay 19 (.mv (.t 0)) 18 false),(ay 20 (.mv (.t 4)) 18 false),(ay 21 (.ixs (.t 19) (.t 20)) 18 false),(ay 22 (.bin .gtr (.t 21) (.c (b8 126))) 18 false),(aj 23 (.pick (.t 18) (.c (.bool true)) (.t 22)))])
abbrev qx:ax:=(.seq (.seq (.rg [(au 8 4),(au 9 0),(aj 10 (.lens (.t 9))),(aj 11 (.bin .lss (.t 8) (.t 10)))]) (.cond (.t 11) .skip (.exit 0))) (.seq (.blk 1 (.seq (.sem (erase su)) (.cond (.t 23) (.seq (.rg [(aj 24 (.build [(.int .i64 0),(.str []),(.str []),(.str []),(.int .i64 0)] [])),(cR (.st (.t 2) (.t 24) 5)),(aj 3 (.aP (.c (.int .i64 500))))]) .ret) .skip))) (.rg [(au 12 4),(aj 13 (.bin .add (.t 12) (.c (.int .i64 1)))),(aR 4 13)])))
abbrev sw:ax:=(.rg [(au 25 0),(aj 26 (.bin .neq (.t 25) (.c (.str [])))),(au 27 26),(ay 28 (.mv (.t 0)) 27 true),(ay 29 (.mv (.t 0)) 27 true),(ay 30 (.lens (.t 29)) 27 true),(ay 31 (.bin .sub (.t 30) (.c (.int .i64 1))) 27 true),(ay 32 (.ixs (.t 28) (.t 31)) 27 true),(ay 33 (.bin .eql (.t 32) (.c (b8 32))) 27 true),(aj 34 (.pick (.t 27) (.t 33) (.c (.bool false))))])
abbrev qy:ax:=(.seq (.seq (.sem (erase sw)) (.cond (.t 34) .skip (.exit 2))) (.blk 3 (.rg [(au 35 0),(au 36 0),(aj 37 (.lens (.t 36))),(aj 38 (.bin .sub (.t 37) (.c (.int .i64 1)))),(aj 39 (.gR (.t 35) none (some (.t 38)))),(aR 0 39)])))
abbrev sx:ax:=(.rg [(au 40 5),(au 41 0),(aj 42 (.lens (.t 41))),(aj 43 (.bin .lss (.t 40) (.t 42))),(au 44 43),(ay 45 (.mv (.t 0)) 44 true),(ay 46 (.mv (.t 5)) 44 true),(ay 47 (.ixs (.t 45) (.t 46)) 44 true),(ay 48 (.bin .neq (.t 47) (.c (b8 32))) 44 true),(aj 49 (.pick (.t 44) (.t 48) (.c (.bool false))))])
abbrev qz:ax:=(.seq (.seq (.sem (erase sx)) (.cond (.t 49) .skip (.exit 4))) (.blk 5 (.rg [(au 50 5),(aj 51 (.bin .add (.t 50) (.c (.int .i64 1)))),(aR 5 51)])))
abbrev sy:ax:=(.cond (.t 64) .skip (.rg [(aj 66 (.bin .eql (.t 60) (.c (.int .i64 2)))),(aR 64 66)]))
abbrev sA:ax:=(.rg [(au 67 7),(aj 68 (.bin .eql (.t 67) (.c (.str [])))),(au 69 68),(ay 70 (.mv (.t 7)) 69 false),(ay 71 (.gR (.t 70) (some (.c (.int .i64 1))) none) 69 false),(ay 72 (.call (.c (.fn 28 [])) [(.t 71)]) 69 false),(ay 73 (.un .not (.t 72)) 69 false),(aj 74 (.pick (.t 69) (.c (.bool true)) (.t 73)))])
abbrev sB:ax:=(.cond (.t 80) .skip (.rg [(aj 82 (.bin .eql (.t 60) (.c (.int .i64 4)))),(aR 80 82)]))
abbrev sC:ax:=(.cond (.t 88) .skip (.rg [(aj 90 (.bin .eql (.t 60) (.c (.int .i64 9)))),(aR 88 90)]))
abbrev sD:ax:=(.rg [(au 91 7),(aj 92 (.bin .eql (.t 91) (.c (.str [])))),(au 93 92),(ay 94 (.mv (.t 6)) 93 true),(ay 95 (.bin .eql (.t 94) (.c (.int .i64 9))) 93 true),(aj 96 (.pick (.t 93) (.t 95) (.c (.bool false))))])
abbrev ER:ax:=(.seq (.rg [(aj 2 (.alloc [(.int .i64 0),(.str []),(.str []),(.str []),(.int .i64 0)])),(aj 3 (.aP (.c (.int .i64 0))))]) (.seq (.seq (.rg [(aj 4 (.aP (.c (.int .i64 0))))]) (.blk 0 (.loop (erase qx)))) (.seq (.blk 2 (.loop (erase qy))) (.seq (.rg [(aj 5 (.aP (.c (.int .i64 0))))]) (.seq (.blk 4 (.loop (erase qz))) (.seq (.rg [(au 52 0),(au 53 5),(aj 54 (.gR (.t 52) none (some (.t 53)))),(aj 55 (.call (.c (.fn 27 [])) [(.t 54)])),(aj 56 (.call (.c (.fn 26 [])) [(.t 55)])),(aR 6 56)]) (.seq (.rg [(au 57 0),(au 58 5),(aj 59 (.gR (.t 57) (some (.t 58)) none)),(aR 7 59)]) (.seq (.seq (.rg [(au 60 6)]) (.blk 6 (.seq (.rg [(aj 62 (.bin .eql (.t 60) (.c (.int .i64 0)))),(aR 61 62)]) (.cond (.t 61) (.seq (.rg [(aj 63 (.build [(.int .i64 0),(.str []),(.str []),(.str []),(.int .i64 0)] [])),(cR (.st (.t 2) (.t 63) 5)),(aj 3 (.aP (.c (.int .i64 500))))]) .ret) (.seq (.seq (.rg [(aj 65 (.bin .eql (.t 60) (.c (.int .i64 1)))),(aR 64 65)]) (.sem (erase sy))) (.cond (.t 64) (.seq (.seq (.sem (erase sA)) (.cond (.t 74) (.seq (.rg [(aj 75 (.build [(.int .i64 0),(.str []),(.str []),(.str []),(.int .i64 0)] [])),(cR (.st (.t 2) (.t 75) 5)),(aj 3 (.aP (.c (.int .i64 501))))]) .ret) .skip)) (.seq (.rg [(au 76 6),(au 77 7),(aj 78 (.gR (.t 77) (some (.c (.int .i64 1))) none)),(aj 79 (.build [(.int .i64 0),(.str []),(.str []),(.str []),(.int .i64 0)] [(0,(1,(.t 76))),(1,(1,(.t 78)))])),(cR (.st (.t 2) (.t 79) 5)),(aj 3 (.aP (.c (.int .i64 0))))]) .ret)) (.seq (.seq (.rg [(aj 81 (.bin .eql (.t 60) (.c (.int .i64 3)))),(aR 80 81)]) (.sem (erase sB))) (.cond (.t 80) (.seq (.rg [(au 83 6),(au 84 7),(aj 85 (.call (.c (.fn 29 [])) [(.t 83),(.t 84)])),(aj 86 (.ext (.t 85) 0)),(aj 87 (.ext (.t 85) 1)),(cR (.st (.t 2) (.t 86) 5)),(aR 3 87)]) .ret) (.seq (.seq (.rg [(aj 89 (.bin .eql (.t 60) (.c (.int .i64 7)))),(aR 88 89)]) (.sem (erase sC))) (.cond (.t 88) (.seq (.seq (.sem (erase sD)) (.cond (.t 96) (.seq (.rg [(aj 97 (.build [(.int .i64 0),(.str []),(.str []),(.str []),(.int .i64 0)] [])),(cR (.st (.t 2) (.t 97) 5)),(aj 3 (.aP (.c (.int .i64 501))))]) .ret) .skip)) (.seq (.seq (.rg [(au 98 7),(aj 99 (.bin .eql (.t 98) (.c (.str []))))]) (.cond (.t 99) (.seq (.rg [(au 100 6),(aj 101 (.build [(.int .i64 0),(.str []),(.str []),(.str []),(.int .i64 0)] [(0,(1,(.t 100)))])),(cR (.st (.t 2) (.t 101) 5)),(aj 3 (.aP (.c (.int .i64 0))))]) .ret) .skip)) (.seq (.rg [(au 102 6),(au 103 7),(aj 104 (.gR (.t 103) (some (.c (.int .i64 1))) none)),(aj 105 (.build [(.int .i64 0),(.str []),(.str []),(.str []),(.int .i64 0)] [(0,(1,(.t 102))),(1,(1,(.t 104)))])),(cR (.st (.t 2) (.t 105) 5)),(aj 3 (.aP (.c (.int .i64 0))))]) .ret))) .skip)))))))))) (.seq (.seq (.rg [(au 106 7),(aj 107 (.bin .neq (.t 106) (.c (.str []))))]) (.cond (.t 107) (.seq (.rg [(aj 108 (.build [(.int .i64 0),(.str []),(.str []),(.str []),(.int .i64 0)] [])),(cR (.st (.t 2) (.t 108) 5)),(aj 3 (.aP (.c (.int .i64 501))))]) .ret) .skip)) (.seq (.rg [(au 109 6),(aj 110 (.build [(.int .i64 0),(.str []),(.str []),(.str []),(.int .i64 0)] [(0,(1,(.t 109)))])),(cR (.st (.t 2) (.t 110) 5)),(aj 3 (.aP (.c (.int .i64 0))))]) .ret))))))))))
theorem ES:bN Tryz.prog 9 111 [(.cell 2 29),(.tmp 3)] (erase ER):=⟨Tryz.f9,_,rfl,by decide,rfl,by kernel_rfl,rfl,rfl⟩
abbrev cO:List Nat:=[0,2,3,4,5,6,7,11,23,34,49,60,61,64,74,80,88,96,99,107]
def nH (s1:List UInt8) (i3:Int):Option (Bool):=
 (idx s1 i3).bind fun x6=>
 (if (decide (x6<32)) then
  some true
 else
  some (decide (126<x6)))
def nI (s1:List UInt8):(Int×aF)→Option (St (aF×Int) aF (Int×aF))
 |(i3,s4)=>
  (if (decide (i3<(s1.length:Int))) then
   (nH s1 i3).bind fun t8=>
   (if t8 then
    some (.ret ((aF.mk 0 ([]:List UInt8) (aB.mk ([]:List UInt8) ([]:List UInt8)) 0),500))
   else
    some (.cY ((IntKind.wrap .i64 (i3+1)),s4)))
  else
   some (.dR s4))
def nJ (gb:List UInt8):Option (Bool):=
 (if (!decide (gb=([]:List UInt8))) then
  (idx gb (IntKind.wrap .i64 ((gb.length:Int) - 1))).bind fun lE=>some (decide (lE=32))
 else
  some false)
def nK:(List UInt8)→Option (St (aF×Int) (List UInt8) (List UInt8))
 |gb=>
  (nJ gb).bind fun t18=>
  (if t18 then
   (sub gb 0 (IntKind.wrap .i64 ((gb.length:Int) - 1))).bind fun BK=>some (.cY BK)
  else
   some (.dR gb))
def nL (nY:Int) (n9:List UInt8):Option (Bool):=
 (if (decide (nY<(n9.length:Int))) then
  (idx n9 nY).bind fun D9=>some (!decide (D9=32))
 else
  some false)
def nM (n9:List UInt8):Int→Option (St (aF×Int) Int Int)
 |nY=>
  (nL nY n9).bind fun t27=>
  (if t27 then
   some (.cY (IntKind.wrap .i64 (nY+1)))
  else
   some (.dR nY))
def nN (r32:Int):Option (Bool):=
 (if (decide (r32=1)) then
  some (decide (r32=1))
 else
  some (decide (r32=2)))
def nO (F:Nat) (gO:List UInt8):Option (Bool):=
 (if (decide (gO=([]:List UInt8))) then
  some true
 else
  (sub gO 1 (gO.length:Int)).bind fun UZ=>(fk F UZ).bind fun XX=>some (!XX))
def nP (r32:Int):Option (Bool):=
 (if (decide (r32=3)) then
  some (decide (r32=3))
 else
  some (decide (r32=4)))
def nQ (r32:Int):Option (Bool):=
 (if (decide (r32=7)) then
  some (decide (r32=7))
 else
  some (decide (r32=9)))
def AZ (F:Nat) (s1:List UInt8):Option (aF×Int):=
 ((iter (nI s1) F (0,(aF.mk 0 ([]:List UInt8) (aB.mk ([]:List UInt8) ([]:List UInt8)) 0))).bind fun o57=>
 match o57 with
 | .inr aY=>
   ((iter nK F s1).bind fun o54=>
   match o54 with
   | .inr n9=>
     ((iter (nM n9) F 0).bind fun o53=>
     match o53 with
     | .inr U0=>
       (sub n9 0 U0).bind fun x30=>
       (ou F x30).bind fun r31=>
       (w9 F r31).bind fun r32=>
       (sub n9 U0 (n9.length:Int)).bind fun gO=>
       (if (decide (r32=0)) then
        some ((aF.mk 0 ([]:List UInt8) (aB.mk ([]:List UInt8) ([]:List UInt8)) 0),500)
       else
        (nN r32).bind fun t36=>
        (if t36 then
         (nO F gO).bind fun t41=>
         (if t41 then
          some ((aF.mk 0 ([]:List UInt8) (aB.mk ([]:List UInt8) ([]:List UInt8)) 0),501)
         else
          (sub gO 1 (gO.length:Int)).bind fun XY=>
          some ((aF.mk r32 XY (aB.mk ([]:List UInt8) ([]:List UInt8)) 0),0))
        else
         (nP r32).bind fun t45=>
         (if t45 then
          (xk F r32 gO).bind fun (Da,r47)=>some (Da,r47)
         else
          (nQ r32).bind fun t50=>
          (if t50 then
           (if ((decide (gO=([]:List UInt8)))&&(decide (r32=9))) then
            some ((aF.mk 0 ([]:List UInt8) (aB.mk ([]:List UInt8) ([]:List UInt8)) 0),501)
           else
            (if (decide (gO=([]:List UInt8))) then
             some ((aF.mk r32 ([]:List UInt8) (aB.mk ([]:List UInt8) ([]:List UInt8)) 0),0)
            else
             (sub gO 1 (gO.length:Int)).bind fun XZ=>
             some ((aF.mk r32 XZ (aB.mk ([]:List UInt8) ([]:List UInt8)) 0),0)))
          else
           (if (!decide (gO=([]:List UInt8))) then
            some ((aF.mk 0 ([]:List UInt8) (aB.mk ([]:List UInt8) ([]:List UInt8)) 0),501)
           else
            some ((aF.mk r32 ([]:List UInt8) (aB.mk ([]:List UInt8) ([]:List UInt8)) 0),0))))))
     | .inl _=>none)
   | .inl _=>none)
 | .inl (Db,r56)=>
   some (Db,r56))
theorem zC {s1:List UInt8} {i3:Int} {q5:Nat} {s4:aF} {H0 H:AH} (hfr:Fr H0 H0.length [] H) (ai:H[q5]? =some [(.int .i64 s4.kind),(.str s4.arg),(.str s4.path.av),(.str s4.path.domain),(.int .i64 s4.size)]) (dL:H0.length≤q5) {K:Exit→Env→AH→Prop} {t7:Bool}
 (h:nH s1 i3=some t7)
 (kn:∀H':AH,Fr H0 H0.length [] H'→H'[q5]? =some [(.int .i64 s4.kind),(.str s4.arg),(.str s4.path.av),(.str s4.path.domain),(.int .i64 s4.size)]→K .normal [(0,(.str s1)),(2,(.ptr q5 0)),(4,(.int .i64 i3)),(23,(.bool t7))] H'):
 AX Tryz.prog cO 111 H0.length (erase su) K [(0,(.str s1)),(2,(.ptr q5 0)),(4,(.int .i64 i3))] H:=by
 refine bY fun K' hK=> ?_
 have hle:=hfr.le
 have aM:=aQ ai
 rw [nH.eq_1] at h
 obtain ⟨x6,hy2,h⟩:=aq h
 refine az (aA hy2 ai) ?_
 refine bP h (fun hy3 h=> ?_) fun hy3 h=> ?_
 · refine az (aA hy3 ai) ?_
   obtain rfl:=aC h
   exact hK _ _ _ _ _ aJ ak (kn _ hfr (ai.trans rfl))
 · refine az (aA hy3 (aA hy2 ai)) ?_
   obtain rfl:=aC h
   exact hK _ _ _ _ _ aJ ak (kn _ hfr (ai.trans rfl))
theorem zD {F:Nat} {i3:Int} {s1:List UInt8} {s4:aF} {q2:Nat} {H0 H:AH} (hfr:Fr H0 H0.length [] H) (ai:H[q2]? =some [(.int .i64 s4.kind),(.str s4.arg),(.str s4.path.av),(.str s4.path.domain),(.int .i64 s4.size)]) (dL:H0.length≤q2) {K:Exit→Env→AH→Prop} {o:(aF×Int)⊕(aF)}
 (h:iter (nI s1) F (i3,s4)=some o)
 (dc:∀o':aF,o= .inr o'→∀H':AH,Fr H0 H0.length [] H'→H'[q2]? =some [(.int .i64 o'.kind),(.str o'.arg),(.str o'.path.av),(.str o'.path.domain),(.int .i64 o'.size)]→K (.exit 0) [(0,(.str s1)),(2,(.ptr q2 0))] H')
 (kr:∀o':aF×Int,o= .inl o'→∀H':AH,Fr H0 H0.length [] H'→H'[q2]? =some [(.int .i64 o'.1.kind),(.str o'.1.arg),(.str o'.1.path.av),(.str o'.1.path.domain),(.int .i64 o'.1.size)]→K .ret [(2,(.ptr q2 0)),(3,(.int .i64 o'.2))] H'):
 AX Tryz.prog cO 111 H0.length (.loop (erase qx)) K [(0,(.str s1)),(2,(.ptr q2 0)),(4,(.int .i64 i3))] H:=by
 refine gL (fun s e H1=>match s with|(i3,s4)=>e=[(0,(.str s1)),(2,(.ptr q2 0)),(4,(.int .i64 i3))]∧Fr H0 H0.length [] H1∧H1[q2]? =some [(.int .i64 s4.kind),(.str s4.arg),(.str s4.path.av),(.str s4.path.domain),(.int .i64 s4.size)]) h ⟨rfl,hfr,ai⟩ ?_
 rintro K' ⟨i3,s4⟩ st e H ⟨rfl,hfr,ai⟩ h hN hB hR hX
 have hle:=hfr.le
 have aM:=aQ ai
 rw [nI.eq_1] at h
 refine az ai ?_
 refine bk h (fun hy1 h=> ?_) fun hy1 h=> ?_
 · refine az ai ?_
   obtain ⟨t8,hy4,h⟩:=aq h
   refine bz ak (zC (s4:=s4) (q5:=q2) hfr (ai.trans rfl) bX hy4 ?_)
   intro H hfr ai
   have hle:=hfr.le
   have aM:=aQ ai
   refine az ai ?_
   refine bk h (fun bJ h=> ?_) fun bJ h=> ?_
   · refine az ai ?_
     obtain rfl:=aC h
     exact hX _ _ _ _ _ dm aJ ak (kr _ (hR _ rfl) _ (bW _ hfr) cA)
   · refine az ai ?_
     obtain rfl:=aC h
     exact hN _ rfl _ _ _ _ aJ ak ⟨rfl,hfr,(ai.trans rfl)⟩
 · refine az ai ?_
   obtain rfl:=aC h
   exact hX _ _ _ _ _ dm aJ ak (dc _ (hB _ rfl) _ hfr (ai.trans rfl))
theorem zE {gb:List UInt8} {AT:Nat} {aY:aF} {H0 H:AH} (hfr:Fr H0 H0.length [] H) (ai:H[AT]? =some [(.int .i64 aY.kind),(.str aY.arg),(.str aY.path.av),(.str aY.path.domain),(.int .i64 aY.size)]) (dL:H0.length≤AT) {K:Exit→Env→AH→Prop} {t17:Bool}
 (h:nJ gb=some t17)
 (kn:∀H':AH,Fr H0 H0.length [] H'→H'[AT]? =some [(.int .i64 aY.kind),(.str aY.arg),(.str aY.path.av),(.str aY.path.domain),(.int .i64 aY.size)]→K .normal [(0,(.str gb)),(2,(.ptr AT 0)),(34,(.bool t17))] H'):
 AX Tryz.prog cO 111 H0.length (erase sw) K [(0,(.str gb)),(2,(.ptr AT 0))] H:=by
 refine bY fun K' hK=> ?_
 have hle:=hfr.le
 have aM:=aQ ai
 rw [nJ.eq_1] at h
 refine az ai ?_
 refine bP h (fun cC h=> ?_) fun cC h=> ?_
 · obtain ⟨lE,cr,h⟩:=aq h
   refine az (aA cC (aA cr ai)) ?_
   obtain rfl:=aC h
   exact hK _ _ _ _ _ aJ ak (kn _ hfr (ai.trans rfl))
 · refine az (aA cC ai) ?_
   obtain rfl:=aC h
   exact hK _ _ _ _ _ aJ ak (kn _ hfr (ai.trans rfl))
theorem zF {F:Nat} {gb:List UInt8} {k5:Nat} {aY:aF} {H0 H:AH} (hfr:Fr H0 H0.length [] H) (ai:H[k5]? =some [(.int .i64 aY.kind),(.str aY.arg),(.str aY.path.av),(.str aY.path.domain),(.int .i64 aY.size)]) (dL:H0.length≤k5) {K:Exit→Env→AH→Prop} {o:(aF×Int)⊕((List UInt8))}
 (h:iter nK F gb=some o)
 (Ni:∀o':(List UInt8),o= .inr o'→∀H':AH,Fr H0 H0.length [] H'→H'[k5]? =some [(.int .i64 aY.kind),(.str aY.arg),(.str aY.path.av),(.str aY.path.domain),(.int .i64 aY.size)]→K (.exit 2) [(0,(.str o')),(2,(.ptr k5 0))] H'):
 AX Tryz.prog cO 111 H0.length (.loop (erase qy)) K [(0,(.str gb)),(2,(.ptr k5 0))] H:=by
 refine gL (fun s e H1=>match s with|gb=>e=[(0,(.str gb)),(2,(.ptr k5 0))]∧Fr H0 H0.length [] H1∧H1[k5]? =some [(.int .i64 aY.kind),(.str aY.arg),(.str aY.path.av),(.str aY.path.domain),(.int .i64 aY.size)]) h ⟨rfl,hfr,ai⟩ ?_
 rintro K' gb st e H ⟨rfl,hfr,ai⟩ h hN hB hR hX
 have hle:=hfr.le
 have aM:=aQ ai
 rw [nK.eq_1] at h
 refine az ai ?_
 obtain ⟨t18,cP,h⟩:=aq h
 refine bz ak (zE (aY:=aY) (AT:=k5) hfr (ai.trans rfl) bX cP ?_)
 intro H hfr ai
 have hle:=hfr.le
 have aM:=aQ ai
 refine az ai ?_
 refine bk h (fun ck h=> ?_) fun ck h=> ?_
 · obtain ⟨BK,cx,h⟩:=aq h
   refine az (aA cx ai) ?_
   obtain rfl:=aC h
   exact hN _ rfl _ _ _ _ aJ ak ⟨rfl,hfr,(ai.trans rfl)⟩
 · refine az ai ?_
   obtain rfl:=aC h
   exact hX _ _ _ _ _ dm aJ ak (Ni _ (hB _ rfl) _ hfr (ai.trans rfl))
theorem zG {nY:Int} {n9:List UInt8} {BU:Nat} {aY:aF} {H0 H:AH} (hfr:Fr H0 H0.length [] H) (ai:H[BU]? =some [(.int .i64 aY.kind),(.str aY.arg),(.str aY.path.av),(.str aY.path.domain),(.int .i64 aY.size)]) (dL:H0.length≤BU) {K:Exit→Env→AH→Prop} {t26:Bool}
 (h:nL nY n9=some t26)
 (kn:∀H':AH,Fr H0 H0.length [] H'→H'[BU]? =some [(.int .i64 aY.kind),(.str aY.arg),(.str aY.path.av),(.str aY.path.domain),(.int .i64 aY.size)]→K .normal [(0,(.str n9)),(2,(.ptr BU 0)),(5,(.int .i64 nY)),(49,(.bool t26))] H'):
 AX Tryz.prog cO 111 H0.length (erase sx) K [(0,(.str n9)),(2,(.ptr BU 0)),(5,(.int .i64 nY))] H:=by
 refine bY fun K' hK=> ?_
 have hle:=hfr.le
 have aM:=aQ ai
 rw [nL.eq_1] at h
 refine az ai ?_
 refine bP h (fun cH h=> ?_) fun cH h=> ?_
 · obtain ⟨D9,dV,h⟩:=aq h
   refine az (aA cH (aA dV ai)) ?_
   obtain rfl:=aC h
   exact hK _ _ _ _ _ aJ ak (kn _ hfr (ai.trans rfl))
 · refine az (aA cH ai) ?_
   obtain rfl:=aC h
   exact hK _ _ _ _ _ aJ ak (kn _ hfr (ai.trans rfl))
theorem zH {F:Nat} {nY:Int} {n9:List UInt8} {oz:Nat} {aY:aF} {H0 H:AH} (hfr:Fr H0 H0.length [] H) (ai:H[oz]? =some [(.int .i64 aY.kind),(.str aY.arg),(.str aY.path.av),(.str aY.path.domain),(.int .i64 aY.size)]) (dL:H0.length≤oz) {K:Exit→Env→AH→Prop} {o:(aF×Int)⊕(Int)}
 (h:iter (nM n9) F nY=some o)
 (kb4:∀o':Int,o= .inr o'→∀H':AH,Fr H0 H0.length [] H'→H'[oz]? =some [(.int .i64 aY.kind),(.str aY.arg),(.str aY.path.av),(.str aY.path.domain),(.int .i64 aY.size)]→K (.exit 4) [(0,(.str n9)),(2,(.ptr oz 0)),(5,(.int .i64 o'))] H'):
 AX Tryz.prog cO 111 H0.length (.loop (erase qz)) K [(0,(.str n9)),(2,(.ptr oz 0)),(5,(.int .i64 nY))] H:=by
 refine gL (fun s e H1=>match s with|nY=>e=[(0,(.str n9)),(2,(.ptr oz 0)),(5,(.int .i64 nY))]∧Fr H0 H0.length [] H1∧H1[oz]? =some [(.int .i64 aY.kind),(.str aY.arg),(.str aY.path.av),(.str aY.path.domain),(.int .i64 aY.size)]) h ⟨rfl,hfr,ai⟩ ?_
 rintro K' nY st e H ⟨rfl,hfr,ai⟩ h hN hB hR hX
 have hle:=hfr.le
 have aM:=aQ ai
 rw [nM.eq_1] at h
 refine az ai ?_
 obtain ⟨t27,eT,h⟩:=aq h
 refine bz ak (zG (aY:=aY) (BU:=oz) hfr (ai.trans rfl) bX eT ?_)
 intro H hfr ai
 have hle:=hfr.le
 have aM:=aQ ai
 refine az ai ?_
 refine bk h (fun ei h=> ?_) fun ei h=> ?_
 · refine az ai ?_
   obtain rfl:=aC h
   exact hN _ rfl _ _ _ _ aJ ak ⟨rfl,hfr,(ai.trans rfl)⟩
 · refine az ai ?_
   obtain rfl:=aC h
   exact hX _ _ _ _ _ dm aJ ak (kb4 _ (hB _ rfl) _ hfr (ai.trans rfl))
theorem zI {r32:Int} {Ru:Nat} {gO:List UInt8} {aY:aF} {H0 H:AH} (hfr:Fr H0 H0.length [] H) (ai:H[Ru]? =some [(.int .i64 aY.kind),(.str aY.arg),(.str aY.path.av),(.str aY.path.domain),(.int .i64 aY.size)]) (dL:H0.length≤Ru) {K:Exit→Env→AH→Prop} {t35:Bool}
 (h:nN r32=some t35)
 (kn:∀H':AH,Fr H0 H0.length [] H'→H'[Ru]? =some [(.int .i64 aY.kind),(.str aY.arg),(.str aY.path.av),(.str aY.path.domain),(.int .i64 aY.size)]→K .normal [(2,(.ptr Ru 0)),(6,(.int .i64 r32)),(7,(.str gO)),(60,(.int .i64 r32)),(64,(.bool t35))] H'):
 AX Tryz.prog cO 111 H0.length (erase sy) K [(2,(.ptr Ru 0)),(6,(.int .i64 r32)),(7,(.str gO)),(60,(.int .i64 r32)),(64,(.bool (decide (r32=1))))] H:=by
 refine bY fun K' hK=> ?_
 have hle:=hfr.le
 have aM:=aQ ai
 rw [nN.eq_1] at h
 refine az ai ?_
 refine bk h (fun iQ h=> ?_) fun iQ h=> ?_
 · refine az ai ?_
   obtain rfl:=aC h
   exact hK _ _ _ _ _ aJ ak (kn _ hfr (ai.trans rfl))
 · refine az ai ?_
   obtain rfl:=aC h
   exact hK _ _ _ _ _ aJ ak (kn _ hfr (ai.trans rfl))
theorem zJ {F:Nat} {gO:List UInt8} {Rv:Nat} {r32:Int} {aY:aF} {H0 H:AH} (hfr:Fr H0 H0.length [] H) (ai:H[Rv]? =some [(.int .i64 aY.kind),(.str aY.arg),(.str aY.path.av),(.str aY.path.domain),(.int .i64 aY.size)]) (dL:H0.length≤Rv) {K:Exit→Env→AH→Prop} {t40:Bool}
 (h:nO F gO=some t40)
 (kn:∀H':AH,Fr H0 H0.length [] H'→H'[Rv]? =some [(.int .i64 aY.kind),(.str aY.arg),(.str aY.path.av),(.str aY.path.domain),(.int .i64 aY.size)]→K .normal [(2,(.ptr Rv 0)),(6,(.int .i64 r32)),(7,(.str gO)),(74,(.bool t40))] H'):
 AX Tryz.prog cO 111 H0.length (erase sA) K [(2,(.ptr Rv 0)),(6,(.int .i64 r32)),(7,(.str gO))] H:=by
 refine bY fun K' hK=> ?_
 have hle:=hfr.le
 have aM:=aQ ai
 rw [nO.eq_1] at h
 refine az ai ?_
 refine bP h (fun jJ h=> ?_) fun jJ h=> ?_
 · refine az (aA jJ ai) ?_
   obtain rfl:=aC h
   exact hK _ _ _ _ _ aJ ak (kn _ hfr (ai.trans rfl))
 · obtain ⟨UZ,pJ,h⟩:=aq h
   refine az (aA jJ (aA pJ ai)) ?_
   obtain ⟨XX,rM,h⟩:=aq h
   refine bC ak (lJ rM) ?_
   refine az ai ?_
   obtain rfl:=aC h
   exact hK _ _ _ _ _ aJ ak (kn _ hfr (ai.trans rfl))
theorem zK {r32:Int} {uW:Nat} {gO:List UInt8} {aY:aF} {H0 H:AH} (hfr:Fr H0 H0.length [] H) (ai:H[uW]? =some [(.int .i64 aY.kind),(.str aY.arg),(.str aY.path.av),(.str aY.path.domain),(.int .i64 aY.size)]) (dL:H0.length≤uW) {K:Exit→Env→AH→Prop} {t44:Bool}
 (h:nP r32=some t44)
 (kn:∀H':AH,Fr H0 H0.length [] H'→H'[uW]? =some [(.int .i64 aY.kind),(.str aY.arg),(.str aY.path.av),(.str aY.path.domain),(.int .i64 aY.size)]→K .normal [(2,(.ptr uW 0)),(6,(.int .i64 r32)),(7,(.str gO)),(60,(.int .i64 r32)),(80,(.bool t44))] H'):
 AX Tryz.prog cO 111 H0.length (erase sB) K [(2,(.ptr uW 0)),(6,(.int .i64 r32)),(7,(.str gO)),(60,(.int .i64 r32)),(80,(.bool (decide (r32=3))))] H:=by
 refine bY fun K' hK=> ?_
 have hle:=hfr.le
 have aM:=aQ ai
 rw [nP.eq_1] at h
 refine az ai ?_
 refine bk h (fun EG h=> ?_) fun EG h=> ?_
 · refine az ai ?_
   obtain rfl:=aC h
   exact hK _ _ _ _ _ aJ ak (kn _ hfr (ai.trans rfl))
 · refine az ai ?_
   obtain rfl:=aC h
   exact hK _ _ _ _ _ aJ ak (kn _ hfr (ai.trans rfl))
theorem zL {r32:Int} {Rw:Nat} {gO:List UInt8} {aY:aF} {H0 H:AH} (hfr:Fr H0 H0.length [] H) (ai:H[Rw]? =some [(.int .i64 aY.kind),(.str aY.arg),(.str aY.path.av),(.str aY.path.domain),(.int .i64 aY.size)]) (dL:H0.length≤Rw) {K:Exit→Env→AH→Prop} {t49:Bool}
 (h:nQ r32=some t49)
 (kn:∀H':AH,Fr H0 H0.length [] H'→H'[Rw]? =some [(.int .i64 aY.kind),(.str aY.arg),(.str aY.path.av),(.str aY.path.domain),(.int .i64 aY.size)]→K .normal [(2,(.ptr Rw 0)),(6,(.int .i64 r32)),(7,(.str gO)),(88,(.bool t49))] H'):
 AX Tryz.prog cO 111 H0.length (erase sC) K [(2,(.ptr Rw 0)),(6,(.int .i64 r32)),(7,(.str gO)),(60,(.int .i64 r32)),(88,(.bool (decide (r32=7))))] H:=by
 refine bY fun K' hK=> ?_
 have hle:=hfr.le
 have aM:=aQ ai
 rw [nQ.eq_1] at h
 refine az ai ?_
 refine bk h (fun uj h=> ?_) fun uj h=> ?_
 · refine az ai ?_
   obtain rfl:=aC h
   exact hK _ _ _ _ _ aJ ak (kn _ hfr (ai.trans rfl))
 · refine az ai ?_
   obtain rfl:=aC h
   exact hK _ _ _ _ _ aJ ak (kn _ hfr (ai.trans rfl))
theorem zM {Rx:Nat} {r32:Int} {gO:List UInt8} {aY:aF} {H0 H:AH} (hfr:Fr H0 H0.length [] H) (ai:H[Rx]? =some [(.int .i64 aY.kind),(.str aY.arg),(.str aY.path.av),(.str aY.path.domain),(.int .i64 aY.size)]) (dL:H0.length≤Rx) {K:Exit→Env→AH→Prop}
 (kn:∀H':AH,Fr H0 H0.length [] H'→H'[Rx]? =some [(.int .i64 aY.kind),(.str aY.arg),(.str aY.path.av),(.str aY.path.domain),(.int .i64 aY.size)]→K .normal [(2,(.ptr Rx 0)),(6,(.int .i64 r32)),(7,(.str gO)),(96,(.bool ((decide (gO=([]:List UInt8)))&&(decide (r32=9)))))] H'):
 AX Tryz.prog cO 111 H0.length (erase sD) K [(2,(.ptr Rx 0)),(6,(.int .i64 r32)),(7,(.str gO))] H:=by
 refine bY fun K' hK=> ?_
 have hle:=hfr.le
 have aM:=aQ ai
 refine az ai ?_
 refine gK (fun sE=> ?_) fun sE=> ?_
 · refine az (aA sE ai) ?_
   exact hK _ _ _ _ _ (dy sE) ak (kn _ hfr (ai.trans rfl))
 · refine az (aA sE ai) ?_
   exact hK _ _ _ _ _ (dy sE) ak (kn _ hfr (ai.trans rfl))
theorem RV {F:Nat} {s1:List UInt8} {H0:AH} {aS:aF} {eL:Int} (h:AZ F s1=some (aS,eL)):
 aG Tryz.prog 9 [(.str s1)] H0 fun v H'=>v=(.bB [(.agg [(.int .i64 aS.kind),(.str aS.arg),(.str aS.path.av),(.str aS.path.domain),(.int .i64 aS.size)]),(.int .i64 eL)])∧H'=H0:=by
 refine l7 ES cO [] fun hcl K0 aO H hH hfr=> ?_
 clear hH
 have hle:=hfr.le
 rw [AZ.eq_1] at h
 refine cM ?_
 obtain ⟨q2,jX⟩:∃q:Nat,H.length=q:=⟨_,rfl⟩
 try rw [jX]
 obtain ⟨o57,b6,h⟩:=aq h
 refine bz ak (zD (q2:=q2) (Fr.app hfr) uC bX b6 ?_ ?_)
 · rintro aY rfl H hfr ai
   try dsimp only at h ai
   have hle:=hfr.le
   have aM:=aQ ai
   refine az ai ?_
   obtain ⟨o54,cN,h⟩:=aq h
   refine bz ak (zF (aY:=aY) (k5:=q2) hfr (ai.trans rfl) bX cN ?_)
   · rintro n9 rfl H hfr ai
     try dsimp only at h ai
     have hle:=hfr.le
     have aM:=aQ ai
     refine az ai ?_
     obtain ⟨o53,gY,h⟩:=aq h
     refine bz ak (zH (aY:=aY) (oz:=q2) hfr (ai.trans rfl) bX gY ?_)
     · rintro U0 rfl H hfr ai
       try dsimp only at h ai
       have hle:=hfr.le
       have aM:=aQ ai
       refine az ai ?_
       obtain ⟨x30,gq,h⟩:=aq h
       refine az (aA gq ai) ?_
       obtain ⟨r31,fS,h⟩:=aq h
       refine bC ak (vv fS) ?_
       refine az ai ?_
       obtain ⟨r32,fT,h⟩:=aq h
       refine bC ak (Eg fT) ?_
       refine az ai ?_
       obtain ⟨gO,gr,h⟩:=aq h
       refine az (aA gr ai) ?_
       refine bk h (fun gZ h=> ?_) fun gZ h=> ?_
       · refine az ai ?_
         obtain ⟨rfl,rfl⟩:=cB h
         exact aO _ _ _ bh (aT (bW _ hfr) hcl (bn (cs:=[(.int .i64 0),(.str ([]:List UInt8)),(.str ([]:List UInt8)),(.str ([]:List UInt8)),(.int .i64 0)]) (v:=(.agg [(.int .i64 0),(.str ([]:List UInt8)),(.str ([]:List UInt8)),(.str ([]:List UInt8)),(.int .i64 0)])) (by kernel_rfl) (n:=(some 5)) (by kernel_rfl) rfl cA (by simp [bG,bF,dP,aU,AV.flat,bZ,cy,AV.bu,Tg.sh]) (aW aZ (.int .i64 500))) bf aX ⟨rfl,rfl⟩)
       · refine az ai ?_
         obtain ⟨t36,gD,h⟩:=aq h
         refine bz ak (zI (gO:=gO) (aY:=aY) (Ru:=q2) hfr (ai.trans rfl) bX gD ?_)
         intro H hfr ai
         have hle:=hfr.le
         have aM:=aQ ai
         refine az ai ?_
         refine bk h (fun hM h=> ?_) fun hM h=> ?_
         · refine az ai ?_
           obtain ⟨t41,ED,h⟩:=aq h
           refine bz ak (zJ (r32:=r32) (aY:=aY) (Rv:=q2) hfr (ai.trans rfl) bX ED ?_)
           intro H hfr ai
           have hle:=hfr.le
           have aM:=aQ ai
           refine az ai ?_
           refine bk h (fun Cp h=> ?_) fun Cp h=> ?_
           · refine az ai ?_
             obtain ⟨rfl,rfl⟩:=cB h
             exact aO _ _ _ bh (aT (bW _ hfr) hcl (bn (cs:=[(.int .i64 0),(.str ([]:List UInt8)),(.str ([]:List UInt8)),(.str ([]:List UInt8)),(.int .i64 0)]) (v:=(.agg [(.int .i64 0),(.str ([]:List UInt8)),(.str ([]:List UInt8)),(.str ([]:List UInt8)),(.int .i64 0)])) (by kernel_rfl) (n:=(some 5)) (by kernel_rfl) rfl cA (by simp [bG,bF,dP,aU,AV.flat,bZ,cy,AV.bu,Tg.sh]) (aW aZ (.int .i64 501))) bf aX ⟨rfl,rfl⟩)
           · obtain ⟨XY,EE,h⟩:=aq h
             refine az (aA EE ai) ?_
             obtain ⟨rfl,rfl⟩:=cB h
             exact aO _ _ _ bh (aT (bW _ hfr) hcl (bn (cs:=[(.int .i64 r32),(.str XY),(.str ([]:List UInt8)),(.str ([]:List UInt8)),(.int .i64 0)]) (v:=(.agg [(.int .i64 r32),(.str XY),(.str ([]:List UInt8)),(.str ([]:List UInt8)),(.int .i64 0)])) (by kernel_rfl) (n:=(some 5)) (by kernel_rfl) rfl cA (by simp [bG,bF,dP,aU,AV.flat,bZ,cy,AV.bu,Tg.sh]) (aW aZ (.int .i64 0))) bf aX ⟨rfl,rfl⟩)
         · refine az ai ?_
           obtain ⟨t45,KC,h⟩:=aq h
           refine bz ak (zK (gO:=gO) (aY:=aY) (uW:=q2) hfr (ai.trans rfl) bX KC ?_)
           intro H hfr ai
           have hle:=hfr.le
           have aM:=aQ ai
           refine az ai ?_
           refine bk h (fun U1 h=> ?_) fun U1 h=> ?_
           · refine az ai ?_
             obtain ⟨⟨Da,r47⟩,sF,h⟩:=aq h
             dsimp only at h
             refine bC ak (EP sF) ?_
             refine az ai ?_
             obtain ⟨rfl,rfl⟩:=cB h
             exact aO _ _ _ bh (aT (bW _ hfr) hcl (bn (cs:=[(.int .i64 Da.kind),(.str Da.arg),(.str Da.path.av),(.str Da.path.domain),(.int .i64 Da.size)]) (v:=(.agg [(.int .i64 Da.kind),(.str Da.arg),(.str Da.path.av),(.str Da.path.domain),(.int .i64 Da.size)])) (by kernel_rfl) (n:=(some 5)) (by kernel_rfl) rfl cA (by simp [bG,bF,dP,aU,AV.flat,bZ,cy,AV.bu,Tg.sh]) (aW aZ (.int .i64 r47))) bf aX ⟨rfl,rfl⟩)
           · refine az ai ?_
             obtain ⟨t50,vD,h⟩:=aq h
             refine bz ak (zL (gO:=gO) (aY:=aY) (Rw:=q2) hfr (ai.trans rfl) bX vD ?_)
             intro H hfr ai
             have hle:=hfr.le
             have aM:=aQ ai
             refine az ai ?_
             refine bk h (fun xl h=> ?_) fun xl h=> ?_
             · refine az ai ?_
               refine bz ak (zM (Rx:=q2) (r32:=r32) (gO:=gO) (aY:=aY) hfr (ai.trans rfl) bX ?_)
               intro H hfr ai
               have hle:=hfr.le
               have aM:=aQ ai
               refine az ai ?_
               refine bk h (fun A1 h=> ?_) fun A1 h=> ?_
               · refine az ai ?_
                 obtain ⟨rfl,rfl⟩:=cB h
                 exact aO _ _ _ bh (aT (bW _ hfr) hcl (bn (cs:=[(.int .i64 0),(.str ([]:List UInt8)),(.str ([]:List UInt8)),(.str ([]:List UInt8)),(.int .i64 0)]) (v:=(.agg [(.int .i64 0),(.str ([]:List UInt8)),(.str ([]:List UInt8)),(.str ([]:List UInt8)),(.int .i64 0)])) (by kernel_rfl) (n:=(some 5)) (by kernel_rfl) rfl cA (by simp [bG,bF,dP,aU,AV.flat,bZ,cy,AV.bu,Tg.sh]) (aW aZ (.int .i64 501))) bf aX ⟨rfl,rfl⟩)
               · refine az ai ?_
                 refine bk h (fun Cq h=> ?_) fun Cq h=> ?_
                 · refine az ai ?_
                   obtain ⟨rfl,rfl⟩:=cB h
                   exact aO _ _ _ bh (aT (bW _ hfr) hcl (bn (cs:=[(.int .i64 r32),(.str ([]:List UInt8)),(.str ([]:List UInt8)),(.str ([]:List UInt8)),(.int .i64 0)]) (v:=(.agg [(.int .i64 r32),(.str ([]:List UInt8)),(.str ([]:List UInt8)),(.str ([]:List UInt8)),(.int .i64 0)])) (by kernel_rfl) (n:=(some 5)) (by kernel_rfl) rfl cA (by simp [bG,bF,dP,aU,AV.flat,bZ,cy,AV.bu,Tg.sh]) (aW aZ (.int .i64 0))) bf aX ⟨rfl,rfl⟩)
                 · obtain ⟨XZ,ET,h⟩:=aq h
                   refine az (aA ET ai) ?_
                   obtain ⟨rfl,rfl⟩:=cB h
                   exact aO _ _ _ bh (aT (bW _ hfr) hcl (bn (cs:=[(.int .i64 r32),(.str XZ),(.str ([]:List UInt8)),(.str ([]:List UInt8)),(.int .i64 0)]) (v:=(.agg [(.int .i64 r32),(.str XZ),(.str ([]:List UInt8)),(.str ([]:List UInt8)),(.int .i64 0)])) (by kernel_rfl) (n:=(some 5)) (by kernel_rfl) rfl cA (by simp [bG,bF,dP,aU,AV.flat,bZ,cy,AV.bu,Tg.sh]) (aW aZ (.int .i64 0))) bf aX ⟨rfl,rfl⟩)
             · refine az ai ?_
               refine bk h (fun U2 h=> ?_) fun U2 h=> ?_
               · refine az ai ?_
                 obtain ⟨rfl,rfl⟩:=cB h
                 exact aO _ _ _ bh (aT (bW _ hfr) hcl (bn (cs:=[(.int .i64 0),(.str ([]:List UInt8)),(.str ([]:List UInt8)),(.str ([]:List UInt8)),(.int .i64 0)]) (v:=(.agg [(.int .i64 0),(.str ([]:List UInt8)),(.str ([]:List UInt8)),(.str ([]:List UInt8)),(.int .i64 0)])) (by kernel_rfl) (n:=(some 5)) (by kernel_rfl) rfl cA (by simp [bG,bF,dP,aU,AV.flat,bZ,cy,AV.bu,Tg.sh]) (aW aZ (.int .i64 501))) bf aX ⟨rfl,rfl⟩)
               · refine az ai ?_
                 obtain ⟨rfl,rfl⟩:=cB h
                 exact aO _ _ _ bh (aT (bW _ hfr) hcl (bn (cs:=[(.int .i64 r32),(.str ([]:List UInt8)),(.str ([]:List UInt8)),(.str ([]:List UInt8)),(.int .i64 0)]) (v:=(.agg [(.int .i64 r32),(.str ([]:List UInt8)),(.str ([]:List UInt8)),(.str ([]:List UInt8)),(.int .i64 0)])) (by kernel_rfl) (n:=(some 5)) (by kernel_rfl) rfl cA (by simp [bG,bF,dP,aU,AV.flat,bZ,cy,AV.bu,Tg.sh]) (aW aZ (.int .i64 0))) bf aX ⟨rfl,rfl⟩)
 · rintro ⟨Db,r56⟩ rfl H hfr ai
   try dsimp only at h ai
   have hle:=hfr.le
   have aM:=aQ ai
   refine az ai ?_
   obtain ⟨rfl,rfl⟩:=cB h
   exact aO _ _ _ bh (aT hfr hcl (bn (cs:=[(.int .i64 Db.kind),(.str Db.arg),(.str Db.path.av),(.str Db.path.domain),(.int .i64 Db.size)]) (v:=(.agg [(.int .i64 Db.kind),(.str Db.arg),(.str Db.path.av),(.str Db.path.domain),(.int .i64 Db.size)])) (by kernel_rfl) (n:=(some 5)) (by kernel_rfl) rfl (ai.trans rfl) (by simp [bG,bF,dP,aU,AV.flat,bZ,cy,AV.bu,Tg.sh]) (aW aZ (.int .i64 r56))) bf aX ⟨rfl,rfl⟩)
end Go.Proofs.dO
end
section
namespace Go.Am
open Go
theorem wr {n:Int} (h1: -9223372036854775808≤n) (h2:n≤9223372036854775807):IntKind.wrap .i64 n=n:=by
 simp only [IntKind.wrap,IntKind.bits,IntKind.signed,Bool.true_and,decide_eq_true_eq,Int.reducePow,Nat.reduceSub,ge_iff_le]
 split<;>omega
theorem EU {α:Type} (l:List α) (n:Nat):idx l (n:Int)=l[n]? :=by simp [idx]
theorem cT {α:Type} {l:List α} {n:Nat} {x:α} (h:l[n]? =some x):idx l (n:Int)=some x:=by rw [EU,h]
theorem X0 {α:Type} {l:List α} {n:Nat} (h:n<l.length):idx l (n:Int)=some l[n]:=by rw [EU,List.getElem?_eq_getElem h]
theorem adl {α:Type} {l:List α} {i:Int} (h0:0≤i) (h1:i<l.length):∃x,idx l i=some x∧l[i.toNat]? =some x:=by
 obtain ⟨n,rfl⟩:=Int.eq_ofNat_of_zero_le h0
 have hn:n<l.length:=by omega
 exact ⟨l[n],X0 hn,by simp [List.getElem?_eq_getElem hn]⟩
theorem sG {α:Type} {l:List α} {i j:Nat} (h:i≤j) (h2:j≤l.length):sub l (i:Int) (j:Int)=some ((l.take j).drop i):=by
 unfold sub;rw [if_pos (by omega)];simp
theorem qA {α:Type} {l:List α} {i:Nat} (h:i≤l.length):sub l (i:Int) (l.length:Int)=some (l.drop i):=by
 rw [sG h (Nat.le_refl _),List.take_length]
theorem Ix {α:Type} {l:List α} {j:Nat} (h:j≤l.length):sub l 0 (j:Int)=some (l.take j):=by
 have:=sG (l:=l) (i:=0) (Nat.zero_le j) h
 simpa using this
theorem acW {α:Type} {l:List α} {i:Int} (h0:0≤i) (h:i≤l.length):sub l i (l.length:Int)=some (l.drop i.toNat):=by
 obtain ⟨n,rfl⟩:=Int.eq_ofNat_of_zero_le h0
 rw [qA (by omega)];simp
theorem sub_one {α:Type} {l:List α} {c:α} {r:List α} (h:l=c::r):sub l 1 (l.length:Int)=some r:=by
 have:=qA (l:=l) (i:=1) (by rw [h];simp)
 rw [h] at this ⊢;simpa using this
theorem mg {α:Type} {b:Nat} {xs ys:List α} (h:xs.length+ys.length≤1000000000) (hb:b≤1000):fe b xs ys=some (xs++ys):=by
 unfold fe
 rw [if_pos]
 refine ⟨?_,by omega⟩
 calc (xs.length+ys.length)*b≤1000000000*1000:=Nat.mul_le_mul h hb
  _≤_:=by omega
theorem cW {l m:List UInt8} (h:l.length+m.length≤1000000000):cat l m=some (l++m):=by
 unfold cat;rw [if_pos (by omega)]
theorem eg {ρ τ σ:Type} {body:σ→Option (St ρ τ σ)} {F:Nat} {s s':σ} (h:body s=some (.cY s')):iter body (F+1) s=iter body F s':=by simp only [iter,h]
theorem cI {ρ τ σ:Type} {body:σ→Option (St ρ τ σ)} {F:Nat} {s:σ} {t:τ} (h:body s=some (.dR t)):iter body (F+1) s=some (.inr t):=by simp only [iter,h]
theorem fM {ρ τ σ:Type} {body:σ→Option (St ρ τ σ)} {F:Nat} {s:σ} {r:ρ} (h:body s=some (.ret r)):iter body (F+1) s=some (.inl r):=by simp only [iter,h]
theorem abn {ρ τ σ:Type} {body:σ→Option (St ρ τ σ)} (I:σ→Prop) (m:σ→Nat) (post:ρ⊕τ→Prop)
 (step:∀s,I s→(∃r,body s=some (.ret r)∧post (.inl r))∨(∃t,body s=some (.dR t)∧post (.inr t))∨∃s',body s=some (.cY s')∧I s'∧m s'<m s):
 ∀(F:Nat) (s:σ),I s→m s<F→∃o,iter body F s=some o∧post o:=by
 intro F
 induction F with
 |zero=>intro s _ h;omega
 |succ F ih=>
  intro s hI hm
  rcases step s hI with ⟨r,h,hp⟩|⟨t,h,hp⟩|⟨s',h,hI',hlt⟩
  · exact ⟨_,fM h,hp⟩
  · exact ⟨_,cI h,hp⟩
  · obtain ⟨o,ho,hp⟩:=ih s' hI' (by omega)
    exact ⟨o,by rw [eg h];exact ho,hp⟩
theorem drop_cons {α:Type} {l r:List α} {i:Nat} {c:α} (h:l.drop i=c::r):i<l.length∧l[i]? =some c∧l.drop (i+1)=r:=by
 have hlt:i<l.length:=by
  rcases Nat.lt_or_ge i l.length with h1|h1
  · exact h1
  · rw [List.drop_eq_nil_of_le h1] at h;cases h
 rw [List.drop_eq_getElem_cons hlt] at h
 injection h with h1 h2
 exact ⟨hlt,by rw [List.getElem?_eq_getElem hlt,h1],h2⟩
theorem X1 {α:Type} {l:List α} {i:Nat} (h:l.drop i=[]):l.length≤i:=List.drop_eq_nil_iff.1 h
theorem c6 {n F:Nat} (h:n<F):∃G,F=G+1:=⟨F - 1,by omega⟩
end Go.Am
end
section
set_option maxRecDepth 100000
namespace Go.Proofs.dO
open Go Go.Am Go.Proofs
theorem fU {p:UInt8→Bool} (h:(List.range 256).all (fun n=>p (UInt8.ofNat n))=true) (c:UInt8):p c=true:=by
 have:=List.all_eq_true.1 h c.toNat (by simpa using c.toNat_lt)
 simpa using this
theorem scan {α ρ τ σ:Type} {s:List α} {body:σ→Option (St ρ τ σ)} {mk:Nat→σ} {p:α→Bool} {rr:Nat→ρ} {tt:τ}
 (h1:∀i x,s[i]? =some x→p x=true→body (mk i)=some (.cY (mk (i+1)))) (h2:∀i x,s[i]? =some x→p x=false→body (mk i)=some (.ret (rr i)))
 (h3:body (mk s.length)=some (.dR tt)) {F:Nat} (hF:s.length<F):
 (s.all p=true→iter body F (mk 0)=some (.inr tt))∧(s.all p=false→∃j,iter body F (mk 0)=some (.inl (rr j))):=by
 suffices h:∀(r:List α) (i F:Nat),s.drop i=r→i+r.length=s.length→r.length<F→
  (r.all p=true→iter body F (mk i)=some (.inr tt))∧(r.all p=false→∃j,iter body F (mk i)=some (.inl (rr j))) from h s 0 F rfl (by simp) hF
 intro r
 induction r with
 |nil=>
  intro i F hd hl hF
  obtain ⟨G,rfl⟩:=c6 hF
  have:i=s.length:=by simpa using hl
  subst this
  exact ⟨fun _=>cI h3,fun h=>by simp at h⟩
 |cons x r ih=>
  intro i F hd hl hF
  obtain ⟨G,rfl⟩:=c6 hF
  obtain ⟨hi,hx,hr⟩:=drop_cons hd
  simp only [List.length_cons] at hl hF
  cases hp:p x with
  |true=>
   rw [eg (h1 i x hx hp)]
   simp only [List.all_cons,hp,Bool.true_and]
   exact ih (i+1) G hr (by omega) (by omega)
  |false=>
   rw [fM (h2 i x hx hp)]
   simp only [List.all_cons,hp,Bool.false_and]
   exact ⟨fun h=>by simp at h,fun _=>⟨i,rfl⟩⟩
theorem wi {n:Nat} (h:n≤1000000000):IntKind.wrap .i64 ((n:Int)+1)=((n+1:Nat):Int):=by rw [wr (by omega) (by omega)];simp
def Iy (c:UInt8):Bool:=(decide (65≤c)&&decide (c≤90))||(decide (97≤c)&&decide (c≤122))
def fZ (c:UInt8):Bool:=decide (48≤c)&&decide (c≤57)
def B1 (c:UInt8):Bool:=Iy c||fZ c||c==45
theorem abo (c:UInt8):gM c=some (Iy c||fZ c):=by
 have:=fU (p:=fun c=>decide (gM c=some (Iy c||fZ c))) (by kernel_rfl) c
 simpa using this
theorem KD (c:UInt8):jB c=some (B1 c):=by
 have:=fU (p:=fun c=>decide (jB c=some (B1 c))) (by kernel_rfl) c
 simpa using this
theorem Gq (c:UInt8):fj c=some (Iy c):=by
 have:=fU (p:=fun c=>decide (fj c=some (Iy c))) (by kernel_rfl) c
 simpa using this
theorem EV (c:UInt8):e7 c=some (fZ c):=by
 have:=fU (p:=fun c=>decide (e7 c=some (fZ c))) (by kernel_rfl) c
 simpa using this
def bg:List UInt8→List (List UInt8)
 |[]=>[[]]
 |c::r=>if c=46 then []::bg r else match bg r with|[]=>[[c]]|h::t=>(c::h)::t
theorem jY:∀s,bg s≠[]
 |[]=>by simp [bg]
 |c::r=>by
  unfold bg
  split
  · simp
  · split<;>simp
theorem Nn (r:List UInt8):Lib.split (46::r) [46]=[]::Lib.split r [46]:=by
 have hi:Lib.index (46::r) [46]=((0:Nat):Int):=by unfold Lib.index;rw [if_pos (by simp [List.isPrefixOf])];rfl
 have hc:=Lib.count_hit (by simp) hi
 unfold Lib.split
 rw [hc,Nat.add_comm]
 simp only [Lib.splitK,hi]
 rfl
theorem KE {c:UInt8} (hc:c≠46) (r:List UInt8):Lib.split (c::r) [46]=match Lib.split r [46] with|[]=>[[c]]|h::t=>(c::h)::t:=by
 have hp:([46]:List UInt8).isPrefixOf (c::r)=false:=by simp [List.isPrefixOf];exact fun h=>hc h.symm
 have hi:Lib.index (c::r) [46]=if Lib.index r [46]== -1 then -1 else Lib.index r [46]+1:=by
  conv=>lhs;unfold Lib.index
  rw [if_neg (by rw [hp];simp)]
 rcases Lib.index_spec r [46] with ⟨h, -⟩|⟨i,h, -, -, -⟩
 · rw [h] at hi
   unfold Lib.split
   rw [Lib.count_miss h,Lib.count_miss hi]
   rfl
 · have hne:(((i:Nat):Int)== -1)=false:=by rw [beq_eq_false_iff_ne];omega
   rw [h,hne] at hi
   have hi':Lib.index (c::r) [46]=((i+1:Nat):Int):=by rw [hi];simp
   unfold Lib.split
   rw [Lib.count_hit (by simp) h,Lib.count_hit (by simp) hi',Nat.add_comm 1,Nat.add_comm 1]
   have wz:(((i+1:Nat):Int)== -1)=false:=by rw [beq_eq_false_iff_ne];omega
   simp only [Lib.splitK,h,hi',hne,wz,Bool.false_eq_true,if_false,Int.toNat_natCast,Nat.add_zero,List.take_succ_cons,List.length_cons,List.length_nil,Nat.zero_add,List.drop_succ_cons]
theorem B2:∀s:List UInt8,Lib.split s [46]=bg s
 |[]=>by rfl
 |c::r=>by
  by_cases hc:c=46
  · subst hc;rw [Nn,B2 r];simp [bg]
  · rw [KE hc,B2 r];simp only [bg,if_neg hc]
theorem mh (s:List UInt8):∀p∈bg s,p.length≤s.length:=by
 induction s with
 |nil=>simp [bg]
 |cons c r ih=>
  unfold bg
  split
  · intro p hp
    rcases List.mem_cons.1 hp with rfl|hp
    · simp
    · have:=ih p hp;simp;omega
  · cases hs:bg r with
    |nil=>exact absurd hs (jY r)
    |cons h t=>
     simp only
     intro p hp
     rcases List.mem_cons.1 hp with rfl|hp
     · have:=ih h (by rw [hs];simp);simp;omega
     · have:=ih p (by rw [hs];simp [hp]);simp;omega
theorem xF (s:List UInt8):(bg s).length≤s.length+1:=by
 induction s with
 |nil=>simp [bg]
 |cons c r ih=>
  unfold bg
  split
  · simp;omega
  · cases hs:bg r with
    |nil=>exact absurd hs (jY r)
    |cons h t=>rw [hs] at ih;simp at ih ⊢;omega
theorem KF {p:List UInt8} (hp:∀c∈p,c≠46) (r:List UInt8):bg (p++46::r)=p::bg r:=by
 induction p with
 |nil=>simp [bg]
 |cons c p ih=>
  simp only [List.cons_append,bg,if_neg (hp c (by simp)),ih fun x hx=>hp x (by simp [hx])]
theorem KG {p:List UInt8} (hp:∀c∈p,c≠46):bg p=[p]:=by
 induction p with
 |nil=>simp [bg]
 |cons c p ih=>
  simp only [bg,if_neg (hp c (by simp)),ih fun x hx=>hp x (by simp [hx])]
def U3:List (List UInt8):=(List.range 256).map fun n:Nat=>Lib.itoa (n:Int)
def iT (s:List UInt8):Bool:=U3.contains s
theorem KH:(List.range 256).all (fun n:Nat=>decide (ja (Lib.itoa (n:Int))=some true))=true:=by kernel_rfl
theorem Ry:U3.all (fun s=>decide (s.length≤3∧s.all fZ=true∧s≠[]∧(s.head?=some 48→s.length≤1)))=true:=by kernel_rfl
theorem xG {s:List UInt8}:iT s=true↔∃n:Nat,n<256∧Lib.itoa (n:Int)=s:=by
 simp [iT,U3]
theorem uX {s:List UInt8} (h:iT s=true):s.length≤3∧s.all fZ=true∧s≠[]∧(s.head?=some 48→s.length≤1):=by
 have:=List.all_eq_true.1 Ry s (by simpa [iT] using h)
 exact of_decide_eq_true this
def vE (s:List UInt8):Nat:=s.foldl (fun a c=>10*a+(c.toNat - 48)) 0
theorem Rz:(List.range 256).all (fun n:Nat=>decide (vE (Lib.itoa (n:Int))=n))=true:=by kernel_rfl
def Cr (s:List UInt8):Bool:=decide (vE s<256)&&decide (Lib.itoa (vE s:Int)=s)
theorem X2 (s:List UInt8):iT s=Cr s:=by
 cases h:iT s with
 |true=>
  obtain ⟨n,hn,rfl⟩:=xG.1 h
  have hv:vE (Lib.itoa (n:Int))=n:=of_decide_eq_true (List.all_eq_true.1 Rz n (by simpa using hn))
  unfold Cr
  rw [hv]
  simp [hn]
 |false=>
  cases h':Cr s with
  |false=>rfl
  |true=>
   simp only [Cr,Bool.and_eq_true,decide_eq_true_eq] at h'
   rw [xG.2 ⟨vE s,h'.1,h'.2⟩] at h;cases h
theorem No {s:List UInt8} (hs:s.length≤100000):ja s=some (iT s):=by
 cases hn:iT s with
 |true=>
  obtain ⟨n,hlt,rfl⟩:=xG.1 hn
  have:=List.all_eq_true.1 KH n (by simpa using hlt)
  simpa using this
 |false=>
  unfold ja strconv_Atoi
  rw [if_pos (by omega)]
  rcases yz:Lib.atoiAll s with v|_|_
  · simp only [Option.bind_some,fK,Bool.not_false,if_true,decide_eq_true_eq]
    by_cases h0:0≤v
    · by_cases h1:v≤255
      · rw [if_pos h0,if_pos h1]
        unfold strconv_Itoa
        rw [if_pos (by omega)]
        simp only [Option.bind_some,Option.some.injEq,decide_eq_false_iff_not]
        intro he
        have:iT s=true:=xG.2 ⟨v.toNat,by omega,by rw [←he];congr 1;omega⟩
        rw [hn] at this;cases this
      · rw [if_pos h0,if_neg h1];rfl
    · rw [if_neg h0];rfl
  · simp [fK]
  · simp [fK]
end Go.Proofs.dO
end
section
set_option maxRecDepth 100000
namespace Go.Proofs.dO
open Go Go.Am Go.Proofs
def kP (s:List UInt8):Bool:=s !=[]&&s.head? !=some 45&&s.getLast? !=some 45&&s.all B1
def td (s:List UInt8):Bool:=decide (1<s.length)&&s.head?==some 91&&s.getLast?==some 93
def inner (s:List UInt8):List UInt8:=(s.drop 1).dropLast
def jh (s:List UInt8):Bool:=if td s then decide ((bg (inner s)).length=4)&&(bg (inner s)).all iT else (bg s).all kP
def jN (s:List UInt8):Bool:=decide (s.length≤255)&&jh s&&(bg s).all fun p=>decide (p.length≤63)
theorem A2 (c:UInt8) (r:List UInt8):∃x,(c::r).getLast?=some x:=by
 cases h:(c::r).getLast? with
 |none=>simp at h
 |some x=>exact ⟨x,rfl⟩
theorem xH {s:List UInt8} {x:UInt8} (h:s.getLast?=some x) (hl:s.length≤1000000):idx s (IntKind.wrap .i64 ((s.length:Int) - 1))=some x:=by
 have hp:0<s.length:=by cases s with|nil=>simp at h|cons=>simp
 rw [wr (by omega) (by omega),show (s.length:Int) - 1=((s.length - 1:Nat):Int) by omega,EU, ←List.getLast?_eq_getElem?,h]
theorem U4 {s:List UInt8} {F:Nat} (hl:s.length≤1000000) (hF:s.length<F):jC F s=some (s.all B1):=by
 unfold jC
 have hh:=scan (s:=s) (body:=eE s) (mk:=fun i=>(false,(i:Int))) (p:=B1) (rr:=fun _=>false) (tt:=()) ?_ ?_ ?_ hF
 · cases ha:s.all B1 with
   |true=>have:=hh.1 ha;rw [show ((0:Nat):Int)=0 from rfl] at this;rw [this];rfl
   |false=>obtain ⟨j,hj⟩:=hh.2 ha;rw [show ((0:Nat):Int)=0 from rfl] at hj;rw [hj];rfl
 · intro i x hx hp
   have hi:=(List.getElem?_eq_some_iff.1 hx).1
   simp only [eE]
   rw [if_pos (by simpa using hi),cT hx,Option.bind_some,KD,Option.bind_some,hp,wi (by omega)];rfl
 · intro i x hx hp
   have hi:=(List.getElem?_eq_some_iff.1 hx).1
   simp only [eE]
   rw [if_pos (by simpa using hi),cT hx,Option.bind_some,KD,Option.bind_some,hp];rfl
 · simp [eE]
theorem U5 {s:List UInt8} {F:Nat} (hl:s.length≤1000000) (hF:s.length<F):l8 F s=some (kP s):=by
 unfold l8 kC kP
 cases s with
 |nil=>simp
 |cons c r=>
  obtain ⟨x,hx⟩:∃x,(c::r).getLast?=some x:=A2 c r
  rw [xH hx hl,U4 hl hF,hx]
  have h0:idx (c::r) 0=some c:=by simp [idx]
  rw [h0]
  by_cases h1:c=45
  · simp [h1]
  · by_cases h2:x=45
    · simp [h1,h2]
    · simp [h1,h2]
theorem Gr {x:List UInt8} (hx:x.length≤100000):iJ x=some (!iT x):=by simp [iJ,No hx]
theorem Gs {F:Nat} {x:List UInt8} (hx:x.length≤100000) (hF:x.length<F):iK F x=some (!kP x):=by simp [iK,U5 (by omega:x.length≤1000000) hF]
theorem KI {l:List (List UInt8)} {F:Nat} (hl:l.length≤1000000) (hF:l.length<F) (hx:∀x∈l,x.length≤100000):dU F l=some (!l.all iT):=by
 unfold dU gh
 have hh:=scan (s:=l) (body:=cK l) (mk:=fun i=>(0,(i:Int))) (p:=iT) (rr:=fun i=>(i:Int)) (tt:=()) ?_ ?_ ?_ hF
 · cases ha:l.all iT with
   |true=>have:=hh.1 ha;rw [show ((0:Nat):Int)=0 from rfl] at this;rw [this];rfl
   |false=>obtain ⟨j,hj⟩:=hh.2 ha;rw [show ((0:Nat):Int)=0 from rfl] at hj;rw [hj];simp
 · intro i x hx' hp
   have hi:=(List.getElem?_eq_some_iff.1 hx').1
   simp only [cK]
   rw [if_pos (by simpa using hi),cT hx',Option.bind_some,Gr (hx x (List.mem_of_getElem? hx')),Option.bind_some,hp,wi (by omega)];rfl
 · intro i x hx' hp
   have hi:=(List.getElem?_eq_some_iff.1 hx').1
   simp only [cK]
   rw [if_pos (by simpa using hi),cT hx',Option.bind_some,Gr (hx x (List.mem_of_getElem? hx')),Option.bind_some,hp];rfl
 · simp [cK]
theorem KJ {l:List (List UInt8)} {F:Nat} (hl:l.length≤1000000) (hF:l.length<F) (hx:∀x∈l,x.length≤100000∧x.length<F):dG F l=some (!l.all kP):=by
 unfold dG fQ
 have hh:=scan (s:=l) (body:=cD F l) (mk:=fun i=>(0,(i:Int))) (p:=kP) (rr:=fun i=>(i:Int)) (tt:=()) ?_ ?_ ?_ hF
 · cases ha:l.all kP with
   |true=>have:=hh.1 ha;rw [show ((0:Nat):Int)=0 from rfl] at this;rw [this];rfl
   |false=>obtain ⟨j,hj⟩:=hh.2 ha;rw [show ((0:Nat):Int)=0 from rfl] at hj;rw [hj];simp
 · intro i x hx' hp
   have hi:=(List.getElem?_eq_some_iff.1 hx').1
   obtain ⟨ha,hb⟩:=hx x (List.mem_of_getElem? hx')
   simp only [cD]
   rw [if_pos (by simpa using hi),cT hx',Option.bind_some,Gs ha hb,Option.bind_some,hp,wi (by omega)];rfl
 · intro i x hx' hp
   have hi:=(List.getElem?_eq_some_iff.1 hx').1
   obtain ⟨ha,hb⟩:=hx x (List.mem_of_getElem? hx')
   simp only [cD]
   rw [if_pos (by simpa using hi),cT hx',Option.bind_some,Gs ha hb,Option.bind_some,hp];rfl
 · simp [cD]
theorem KK {l:List (List UInt8)} {F:Nat} (hl:l.length≤1000000) (hF:l.length<F):de F l=some (!l.all fun p=>decide (p.length≤63)):=by
 unfold de eZ
 have hh:=scan (s:=l) (body:=cq l) (mk:=fun i=>(0,(i:Int))) (p:=fun p=>decide (p.length≤63)) (rr:=fun i=>(i:Int)) (tt:=()) ?_ ?_ ?_ hF
 · cases ha:l.all fun p=>decide (p.length≤63) with
   |true=>have:=hh.1 ha;rw [show ((0:Nat):Int)=0 from rfl] at this;rw [this];rfl
   |false=>obtain ⟨j,hj⟩:=hh.2 ha;rw [show ((0:Nat):Int)=0 from rfl] at hj;rw [hj];simp
 · intro i x hx' hp
   have hi:=(List.getElem?_eq_some_iff.1 hx').1
   simp only [cq]
   rw [if_pos (by simpa using hi),cT hx',Option.bind_some,iP,Option.bind_some,if_neg (by simp at hp ⊢;omega),wi (by omega)]
 · intro i x hx' hp
   have hi:=(List.getElem?_eq_some_iff.1 hx').1
   simp only [cq]
   rw [if_pos (by simpa using hi),cT hx',Option.bind_some,iP,Option.bind_some,if_pos (by simp at hp ⊢;omega)]
 · simp [cq]
theorem sH {s:List UInt8} (h:s.length≤1000000):strings_Split s [46]=some (bg s):=by
 unfold strings_Split;rw [if_pos (by simp;omega),B2]
theorem EW {s:List UInt8} {F:Nat} (hl:s.length≤99000) (hF:s.length+1<F):jb F s=some (jh s):=by
 have hp1:gU s=some (td s):=by
  unfold gU td
  by_cases h1:1<s.length
  · cases s with
    |nil=>simp at h1
    |cons c r=>
     obtain ⟨x,hx⟩:∃x,(c::r).getLast?=some x:=A2 c r
     rw [if_pos (by simp at h1 ⊢;omega),xH hx (by omega),hx,show idx (c::r) 0=some c by simp [idx]]
     rw [decide_eq_true h1]
     by_cases h2:c=91
     · simp [h2];rfl
     · simp [h2]
  · rw [if_neg (by simp;omega)];simp [h1]
 unfold jb jh
 rw [hp1,Option.bind_some]
 cases hi:td s with
 |true=>
  have h1:1<s.length:=by simp [td] at hi;omega
  simp only [if_true]
  rw [wr (by omega) (by omega)]
  have hsub:sub s 1 ((s.length:Int) - 1)=some (inner s):=by
   rw [show (1:Int)=((1:Nat):Int) from rfl,show (s.length:Int) - ((1:Nat):Int)=((s.length - 1:Nat):Int) by omega,sG (by omega) (by omega)]
   congr 1
   unfold inner
   rw [List.dropLast_eq_take,List.length_drop,List.drop_take]
  have hil:(inner s).length+2=s.length:=by simp [inner];omega
  rw [hsub,Option.bind_some,sH (by omega),Option.bind_some]
  unfold jO
  have hn:=xF (inner s)
  by_cases h4:(bg (inner s)).length=4
  · rw [if_pos (by simpa using by omega),KI (by omega) (by omega) fun x hx=>by have:=mh _ x hx;omega]
    simp [h4]
  · rw [if_neg (by simpa using by omega)]
    simp [h4]
 |false=>
  have hn:=xF s
  simp only [Bool.false_eq_true,if_false]
  rw [sH (by omega),Option.bind_some,KJ (by omega) (by omega) fun x hx=>by have:=mh _ x hx;omega]
  simp
theorem U6 {s:List UInt8} {F:Nat} (hl:s.length≤99000) (hF:s.length+1<F):gN F s=some (jN s):=by
 unfold gN jQ jN
 by_cases h:s.length≤255
 · rw [if_pos (by simpa using by omega),EW hl hF]
   have hn:=xF s
   cases jh s with
   |true=>simp only [Option.bind_some,if_true];rw [sH (by omega),Option.bind_some,KK (by omega) (by omega)];simp [h]
   |false=>simp
 · rw [if_neg (by simpa using by omega)];simp [h]
end Go.Proofs.dO
end
section
set_option maxRecDepth 100000
namespace Go.Proofs.dO
open Go Go.Am Go.Proofs
def Cs:List UInt8:=(List.range 10).map fun n=>UInt8.ofNat (48+n)
theorem aaV (n:Nat):Cs.all (fun a=>decide (eI (n+10) [a]=some (Cr [a])))=true:=by kernel_rfl
theorem aaW (n:Nat):Cs.all (fun a=>Cs.all fun b=>decide (eI (n+10) [a,b]=some (Cr [a,b])))=true:=by kernel_rfl
theorem aaX (n:Nat):Cs.all (fun a=>Cs.all fun b=>Cs.all fun c=>decide (eI (n+10) [a,b,c]=some (Cr [a,b,c])))=true:=by kernel_rfl
theorem oG {c:UInt8} (h:fZ c=true):c∈Cs:=by
 have:=fU (p:=fun c=> !fZ c||Cs.contains c) (by kernel_rfl) c
 simpa [h] using this
theorem RA {s:List UInt8} {F:Nat} (hF:10≤F) (hl:s.length≤100000):eI F s=some (iT s):=by
 by_cases h3:3<s.length
 · have hn:iT s=false:=by
    cases h:iT s with
    |false=>rfl
    |true=>have:=(uX h).1;omega
   have hne:s≠[]:=by intro h;subst h;simp at h3
   unfold eI eO
   simp only [hne,decide_false,Bool.false_eq_true,if_false]
   rw [if_pos (by simp;omega),hn];rfl
 · by_cases hd:s.all fZ=true
   · obtain ⟨G,rfl⟩:∃G,F=G+10:=⟨F - 10,by omega⟩
     rw [List.all_eq_true] at hd
     rw [X2]
     match s,h3,hd with
     |[],_,_=>rw [show Cr []=false by kernel_rfl];simp [eI,eO]
     |[a],_,hd=>exact of_decide_eq_true (List.all_eq_true.1 (aaV G) a (oG (hd a (by simp))))
     |[a,b],_,hd=>exact of_decide_eq_true (List.all_eq_true.1 (List.all_eq_true.1 (aaW G) a (oG (hd a (by simp)))) b (oG (hd b (by simp))))
     |[a,b,c],_,hd=>exact of_decide_eq_true (List.all_eq_true.1 (List.all_eq_true.1 (List.all_eq_true.1 (aaX G) a (oG (hd a (by simp)))) b (oG (hd b (by simp)))) c (oG (hd c (by simp))))
     |a::b::c::d::r,h3,_=>simp at h3
   · have hn:iT s=false:=by
      cases h:iT s with
      |false=>rfl
      |true=>exact absurd (uX h).2.1 hd
     rw [hn]
     have hp:∃b,eO s=some b:=by
      unfold eO
      cases s with
      |nil=>simp
      |cons c r=>
       rw [show idx (c::r) 0=some c by simp [idx]]
       simp only [Option.bind_some]
       repeat' split
       all_goals exact ⟨_,rfl⟩
     obtain ⟨b,hb⟩:=hp
     unfold eI
     rw [hb,Option.bind_some]
     cases b with
     |true=>rfl
     |false=>
      simp only [Bool.false_eq_true,if_false]
      have Np:∀(r:List UInt8) (i F:Nat) (n:Int),s.drop i=r→i+r.length=s.length→r.length<F→r.all fZ=false→iter (fL s) F (n,(i:Int))=some (.inl false):=by
       intro r
       induction r with
       |nil=>intro i F n _ _ _ h;simp at h
       |cons x r ih=>
        intro i F n hdr hlr hF ha
        obtain ⟨G,rfl⟩:=c6 hF
        obtain ⟨hi,hx,hr⟩:=drop_cons hdr
        simp only [List.length_cons] at hlr hF
        have hstep:fL s (n,(i:Int))=if (!fZ x)=true then some (.ret false) else some (.cY ((IntKind.wrap .i64 ((IntKind.wrap .i64 (10*n))+(IntKind.wrap .i64 ((x - 48).toNat:Int)))),((i+1:Nat):Int))):=by
         simp only [fL]
         rw [if_pos (by simpa using hi),cT hx,Option.bind_some,EV,Option.bind_some,wi (by omega)]
        cases hx':fZ x with
        |false=>rw [hx'] at hstep;exact fM (by rw [hstep];rfl)
        |true=>
         rw [hx'] at hstep
         rw [eg (by rw [hstep];rfl)]
         exact ih (i+1) G _ hr (by omega) (by omega) (by simpa [hx'] using ha)
      rw [show (0,(0:Int))=((0:Int),((0:Nat):Int)) from rfl,Np s 0 F 0 rfl (by simp) (by omega) (by simpa using hd)]
      rfl
def Gt (s:List UInt8):Bool:=kP s&&decide (s.length≤63)
theorem U7 {s:List UInt8} {F:Nat} (hl:s.length≤100000) (hF:s.length<F):kL F s=some (Gt s):=by
 unfold kL jR Gt kP
 cases s with
 |nil=>simp
 |cons c r=>
  obtain ⟨x,hx⟩:=A2 c r
  rw [xH hx (by omega),hx,show idx (c::r) 0=some c by simp [idx]]
  by_cases h0:63<(c::r).length
  · rw [if_neg (by simp),if_pos (by simp at h0 ⊢;omega)]
    have:decide ((c::r).length≤63)=false:=by simp at h0 ⊢;omega
    rw [this];simp
  · have h0':decide ((c::r).length≤63)=true:=by simp at h0 ⊢;omega
    rw [if_neg (by simp),if_neg (by simp at h0 ⊢;omega),h0']
    by_cases h1:c=45
    · simp [h1]
    · by_cases h2:x=45
      · simp [h1,h2]
      · have hh:=scan (s:=c::r) (body:=eP (c::r)) (mk:=fun i=>(i:Int)) (p:=B1) (rr:=fun _=>false) (tt:=()) ?_ ?_ ?_ hF
        · simp only [Option.bind_some,h1,h2,decide_false,Bool.false_eq_true,if_false]
          cases ha:(c::r).all B1 with
          |true=>have:=hh.1 ha;rw [show ((0:Nat):Int)=0 from rfl] at this;rw [this];simp [h1,h2]
          |false=>obtain ⟨j,hj⟩:=hh.2 ha;rw [show ((0:Nat):Int)=0 from rfl] at hj;rw [hj];simp [h1,h2]
        · intro i y hy hp
          have hi:=(List.getElem?_eq_some_iff.1 hy).1
          simp only [eP,ia]
          rw [if_pos (by simp at hi ⊢;omega),cT hy,Option.bind_some,Gq,Option.bind_some,EV,Option.bind_some,wi (by omega)]
          simp only [B1] at hp
          cases h1:Iy y<;>cases h2:fZ y<;>simp [h1,h2] at hp ⊢
          exact hp
        · intro i y hy hp
          have hi:=(List.getElem?_eq_some_iff.1 hy).1
          simp only [eP,ia]
          rw [if_pos (by simp at hi ⊢;omega),cT hy,Option.bind_some,Gq,Option.bind_some,EV,Option.bind_some]
          simp only [B1] at hp
          cases h1:Iy y<;>cases h2:fZ y<;>simp [h1,h2] at hp ⊢
          exact hp
        · simp [eP]
end Go.Proofs.dO
end
section
set_option maxRecDepth 100000
namespace Go.Proofs.dO
open Go Go.Am Go.Proofs
def Iz (num:Bool) (s:List UInt8):Bool:=if num then iT s else Gt s
theorem U8 {F:Nat} {x:UInt8} {s:List UInt8} {a i:Nat} (h:a≤i) (hi:i≤s.length) (hl:s.length≤99000) (hF:s.length+10<F):
 gv F x s (a:Int) (i:Int)=some (!Iz (x==91) ((s.take i).drop a)):=by
 have hlen:((s.take i).drop a).length≤s.length:=by simp;omega
 unfold gv Iz
 rw [sG h hi]
 by_cases hx:x=91
 · rw [if_pos (by simpa using hx)]
   simp only [Option.bind_some]
   rw [RA (by omega) (by omega)]
   simp only [Option.bind_some,hx,beq_self_eq_true,if_true]
   cases iT ((s.take i).drop a)<;>rfl
 · rw [if_neg (by simpa using hx)]
   simp only [Option.bind_some]
   rw [U7 (by omega) (by omega)]
   have:(x==91)=false:=by simpa using hx
   simp [this]
theorem Gu {F:Nat} {x:UInt8} {s:List UInt8} (hl:s.length≤99000) (X3:s.length+10<F):∀(r cur:List UInt8) (a k i G:Nat),(∀c∈cur,c≠46)→s.drop a=cur++r→a+cur.length=i→i+r.length=s.length→r.length+1<G→k≤i→
 iter (ct F s x) G ((a:Int),(k:Int),(i:Int))=some (if (bg (cur++r)).all (Iz (x==91)) then .inr ((k+(bg (cur++r)).length:Nat):Int) else .inl false):=by
 have xK:∀(cur r:List UInt8) (a i:Nat),s.drop a=cur++r→a+cur.length=i→(s.take i).drop a=cur:=by
  intro cur r a i h hi
  rw [List.drop_take,h, ←hi,Nat.add_sub_cancel_left,List.take_left' rfl]
 intro r
 induction r with
 |nil=>
  intro cur a k i G hc hd ha hi hG hk
  obtain ⟨G,rfl⟩:=c6 (show 0<G by omega)
  obtain ⟨G,rfl⟩:=c6 (show 0<G by simp at hG;omega)
  have hie:i=s.length:=by simpa using hi
  have hstep:ct F s x ((a:Int),(k:Int),(i:Int))=if (!Iz (x==91) cur)=true then some (.ret false) else some (.cY (((i+1:Nat):Int),((k+1:Nat):Int),((i+1:Nat):Int))):=by
   simp only [ct]
   rw [if_pos (by simp;omega)]
   have:eF (i:Int) s=some false:=by unfold eF;rw [if_neg (by simp;omega)]
   rw [this,Option.bind_some]
   simp only [Bool.false_eq_true,if_false]
   rw [U8 (by omega) (by omega) hl X3,Option.bind_some,xK cur [] a i hd ha,wi (by omega),wi (by omega)]
  rw [List.append_nil,KG hc]
  cases hx:Iz (x==91) cur with
  |false=>rw [hx] at hstep;rw [fM (by rw [hstep];rfl)];simp [hx]
  |true=>
   rw [hx] at hstep
   rw [eg (by rw [hstep];rfl)]
   have:ct F s x (((i+1:Nat):Int),((k+1:Nat):Int),((i+1:Nat):Int))=some (.dR ((k+1:Nat):Int)):=by
    simp only [ct]
    rw [if_neg (by simp;omega)]
   rw [cI this]
   simp [hx]
 |cons c r ih=>
  intro cur a k i G hc hd ha hi hG hk
  obtain ⟨G,rfl⟩:=c6 (show 0<G by omega)
  simp only [List.length_cons] at hi hG
  have hci:s[i]? =some c:=by
   have:(s.drop a)[cur.length]? =some c:=by rw [hd];simp
   rw [List.getElem?_drop,ha] at this;exact this
  have hp4:eF (i:Int) s=some (!decide (c=46)):=by unfold eF;rw [if_pos (by simp;omega),cT hci];rfl
  by_cases U9:c=46
  · subst U9
    have hstep:ct F s x ((a:Int),(k:Int),(i:Int))=if (!Iz (x==91) cur)=true then some (.ret false) else some (.cY (((i+1:Nat):Int),((k+1:Nat):Int),((i+1:Nat):Int))):=by
     simp only [ct]
     rw [if_pos (by simp;omega),hp4,Option.bind_some]
     simp only [decide_true,Bool.not_true,Bool.false_eq_true,if_false]
     rw [U8 (by omega) (by omega) hl X3,Option.bind_some,xK cur _ a i hd ha,wi (by omega),wi (by omega)]
    rw [KF hc]
    cases hx:Iz (x==91) cur with
    |false=>rw [hx] at hstep;rw [fM (by rw [hstep];rfl)];simp [hx]
    |true=>
     rw [hx] at hstep
     rw [eg (by rw [hstep];rfl)]
     have hd':s.drop (i+1)=r:=by
      have:(s.drop a).drop (cur.length+1)=r:=by rw [hd,List.drop_append];simp
      rw [List.drop_drop] at this
      rw [←this];congr 1;omega
     have:=ih [] (i+1) (k+1) (i+1) G (by simp) (by simpa using hd') (by simp) (by omega) (by omega) (by omega)
     rw [List.nil_append] at this
     rw [this]
     simp only [List.all_cons,hx,Bool.true_and,List.length_cons]
     congr 3
     omega
  · have hstep:ct F s x ((a:Int),(k:Int),(i:Int))=some (.cY ((a:Int),(k:Int),((i+1:Nat):Int))):=by
     simp only [ct]
     rw [if_pos (by simp;omega),hp4,Option.bind_some]
     simp only [U9,decide_false,Bool.not_false,if_true]
     rw [wi (by omega)]
    rw [eg hstep]
    have:=ih (cur++[c]) a k (i+1) G (by intro y hy;rcases List.mem_append.1 hy with h|h;exact hc y h;simp at h;subst h;exact U9) (by rw [hd];simp) (by simp;omega) (by omega) (by omega) (by omega)
    rw [this]
    simp
theorem RB (l:List (List UInt8)):l.all Gt=(l.all kP&&l.all fun p=>decide (p.length≤63)):=by
 induction l with
 |nil=>rfl
 |cons a l ih=>simp only [List.all_cons,ih,Gt];cases kP a<;>cases decide (a.length≤63)<;>simp
theorem KL (s:List UInt8):((bg s).map List.length).sum+(bg s).length=s.length+1:=by
 induction s with
 |nil=>simp [bg]
 |cons c r ih=>
  unfold bg
  split
  · simp;omega
  · cases h:bg r with
    |nil=>exact absurd h (jY r)
    |cons a t=>rw [h] at ih;simp at ih ⊢;omega
theorem four {l:List (List UInt8)} (h4:l.length=4) (h:∀p∈l,p.length≤3):(l.map List.length).sum≤12:=by
 match l,h4 with
 |[a,b,c,d],_=>
  have ha:=h a (by simp);have hb:=h b (by simp);have hc:=h c (by simp);have hd:=h d (by simp)
  simp;omega
theorem Nq (r:List UInt8):(bg (91::r)).all kP=false:=by
 have h1:∀t:List UInt8,kP (91::t)=false:=by
  intro t
  have:B1 91=false:=by decide
  simp [kP,this]
 simp only [bg]
 rw [if_neg (by decide)]
 split
 · simp [h1]
 · simp [h1]
theorem adK {s:List UInt8} {F:Nat} (hl:s.length≤99000) (hF:s.length+10<F):fk F s=some (jN s):=by
 cases s with
 |nil=>simp [fk,jN,jh,td,bg,kP]
 |cons c r=>
  unfold fk
  by_cases Ov:255<(c::r).length
  · rw [if_pos (by simp at Ov ⊢;omega)]
    have:decide ((c::r).length≤255)=false:=by simp at Ov ⊢;omega
    unfold jN;rw [this];rfl
  · have Va:decide ((c::r).length≤255)=true:=by simp at Ov ⊢;omega
    rw [if_neg (by simp at Ov ⊢;omega),show idx (c::r) 0=some c by simp [idx],Option.bind_some]
    obtain ⟨x,hx⟩:=A2 c r
    by_cases hc:c=91
    · subst hc
      unfold gu jg
      rw [if_pos (by rfl),xH hx (by omega),Option.bind_some]
      by_cases hin:td (91::r)=true
      · have Sg:x=93:=by rw [td,hx] at hin;simpa using (by simp at hin;exact hin.2)
        have h1:1<(91::r).length:=by rw [td] at hin;simp at hin ⊢;exact hin.1
        subst Sg
        rw [if_neg (by simp)]
        have:decide ((((91::r).length:Nat):Int)<2)=false:=by simp at h1 ⊢;omega
        rw [this]
        simp only [Option.bind_some,Bool.false_eq_true,if_false]
        have hsub:sub (91::r) 1 (IntKind.wrap .i64 ((((91::r).length:Nat):Int) - 1))=some (inner (91::r)):=by
         rw [wr (by omega) (by omega),show (1:Int)=((1:Nat):Int) from rfl,show (((91::r).length:Nat):Int) - ((1:Nat):Int)=(((91::r).length - 1:Nat):Int) by omega,sG (by omega) (by omega)]
         congr 1
         unfold inner
         rw [List.dropLast_eq_take,List.length_drop,List.drop_take]
        rw [hsub]
        simp only [Option.bind_some]
        have hil:(inner (91::r)).length≤(91::r).length:=by simp [inner];omega
        have Vb:=Gu (F:=F) (x:=91) (s:=inner (91::r)) (by omega) (by omega) (inner (91::r)) [] 0 0 0 F (by simp) (by simp) (by simp) (by simp) (by omega) (Nat.le_refl _)
        simp only [List.nil_append,Int.natCast_zero,Nat.zero_add] at Vb
        rw [show ((0:Int),(0:Int),(0:Int))=(((0:Nat):Int),((0:Nat):Int),((0:Nat):Int)) from rfl]
        rw [show (((0:Nat):Int),((0:Nat):Int),((0:Nat):Int))=((0:Int),(0:Int),(0:Int)) from rfl,Vb]
        have Vc:(bg (inner (91::r))).all (Iz ((91:UInt8)==91))=(bg (inner (91::r))).all iT:=by congr 1
        rw [Vc]
        unfold jN jh
        rw [Va,hin]
        simp only [if_true,Bool.true_and]
        cases hall:(bg (inner (91::r))).all iT with
        |false=>simp
        |true=>
         by_cases h4:(bg (inner (91::r))).length=4
         · have hsum:=four h4 fun p hp=>(uX (List.all_eq_true.1 hall p hp)).1
           have htot:=KL (inner (91::r))
           have hlen:(91::r).length=(inner (91::r)).length+2:=by simp [inner];simp at h1;omega
           have:(bg (91::r)).all (fun p=>decide (p.length≤63))=true:=by
            rw [List.all_eq_true]
            intro p hp
            have:=mh _ p hp
            simp only [decide_eq_true_eq]
            omega
           rw [this]
           simp [h4]
         · simp [h4];omega
      · have acX:td (91::r)=false:=by simpa using hin
        have hdf:jN (91::r)=false:=by unfold jN jh;rw [acX];simp only [Bool.false_eq_true,if_false,Nq];simp
        rw [hdf]
        by_cases YW:x=93
        · subst YW
          have h1:¬1<(91::r).length:=by intro h;rw [td,hx,decide_eq_true h] at hin;simp at hin
          rw [if_neg (by simp),decide_eq_true (by omega)]
          rfl
        · rw [if_pos (by simpa using YW)];rfl
    · unfold gu
      rw [if_neg (by simpa using hc)]
      simp only [Option.bind_some]
      have Vb:=Gu (F:=F) (x:=c) (s:=c::r) hl hF (c::r) [] 0 0 0 F (by simp) (by simp) (by simp) (by simp) (by omega) (Nat.le_refl _)
      simp only [List.nil_append,Int.natCast_zero,Nat.zero_add] at Vb
      rw [Vb]
      have UA:(c==91)=false:=by simpa using hc
      have Vc:(bg (c::r)).all (Iz (c==91))=(bg (c::r)).all Gt:=by rw [UA];congr 1
      rw [Vc,RB]
      have hin:td (c::r)=false:=by unfold td;simp [hc]
      unfold jN jh
      rw [Va,hin]
      simp only [Bool.false_eq_true,if_false,Bool.true_and]
      cases (bg (c::r)).all kP<;>cases (bg (c::r)).all (fun p=>decide (p.length≤63))<;>simp [hc]
end Go.Proofs.dO
end
section
set_option maxRecDepth 100000
namespace Go.Proofs.dO
open Go Go.Am Go.Proofs
theorem YX (a b:List UInt8):bg (a++46::b)=bg a++bg b:=by
 induction a with
 |nil=>simp [bg]
 |cons c a ih=>
  simp only [List.cons_append,bg,ih]
  by_cases hc:c=46
  · simp [hc]
  · simp only [if_neg hc]
    cases h:bg a with
    |nil=>exact absurd h (jY a)
    |cons x t=>simp
theorem zN (s:List UInt8):∀c∈s,c=46∨∃p∈bg s,c∈p:=by
 induction s with
 |nil=>simp
 |cons a r ih=>
  intro c hc
  simp only [bg]
  rcases List.mem_cons.1 hc with rfl|hc
  · by_cases h:c=46
    · exact .inl h
    · right
      rw [if_neg h]
      cases hs:bg r with
      |nil=>exact absurd hs (jY r)
      |cons x t=>exact ⟨c::x,by simp,by simp⟩
  · rcases ih c hc with h|⟨p,hp,iW⟩
    · exact .inl h
    · right
      by_cases ha:a=46
      · rw [if_pos ha];exact ⟨p,by simp [hp],iW⟩
      · rw [if_neg ha]
        cases hs:bg r with
        |nil=>exact absurd hs (jY r)
        |cons x t=>
         rw [hs] at hp
         rcases List.mem_cons.1 hp with rfl|hp
         · exact ⟨a::p,by simp,by simp [iW]⟩
         · exact ⟨p,by simp [hp],iW⟩
theorem adm {s:List UInt8} (h:s.head?≠some 91):td s=false:=by
 unfold td
 have:(s.head?==some 91)=false:=by simpa using h
 rw [this];simp
theorem acY {s:List UInt8} (h:s.getLast?≠some 93):td s=false:=by
 unfold td
 have:(s.getLast?==some 93)=false:=by simpa using h
 rw [this];simp
theorem acZ {s:List UInt8} (hi:td s=false) {p:List UInt8} (hp:p∈bg s) (hl:kP p=false):jN s=false:=by
 unfold jN jh
 rw [hi]
 have:(bg s).all kP=false:=by
  rw [List.all_eq_false]
  exact ⟨p,hp,by simp [hl]⟩
 simp [this]
end Go.Proofs.dO
end
