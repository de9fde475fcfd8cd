import Derived.Test.YtboghagbiokafaaGreatDoorM3
set_option linter.unusedSimpArgs false
set_option linter.unusedVariables false
set_option linter.unusedSectionVars false
set_option linter.defProp false
section
set_option maxRecDepth 100000
namespace Go.Proofs.ei
open Go Go.Am Go.Proofs
open Nat renaming reduceEqDiff→nA,reduceLT→nB,reduceLeDiff→nC,reduceAdd→nD,reduceSub→nE,reduceMul→nF,reduceBEq→nG
set_option maxHeartbeats 2000000
abbrev uu:av:=(.rg [(au 16 0),(au 17 4),(aj 18 (.ixs (.t 16) (.t 17))),(aj 19 (.bin .lss (.t 18) (.c (b8 32)))),(au 20 19),(ax 21 (.mv (.t 0)) 20 false),(ax 22 (.mv (.t 4)) 20 false),(ax 23 (.ixs (.t 21) (.t 22)) 20 false),(ax 24 (.bin .gtr (.t 23) (.c (b8 126))) 20 false),(aj 25 (.pick (.t 20) (.c (.bool true)) (.t 24)))])
abbrev sJ:av:=(.seq (.rg [(aj 14 (.bin .lss (.t 13) (.t 12)))]) (.seq (.cond (.t 14) .skip (.exit 0)) (.seq (.blk 1 (.seq (.rg [(au 15 13),(aQ 4 15)]) (.seq (.sem (erase uu)) (.cond (.t 25) (.seq (.rg [(aj 26 (.build [(.int .i64 0),(.str []),(.str []),(.str []),(.int .i64 0)] [])),(cS (.st (.t 2) (.t 26) 5)),(aj 3 (.aO (.c (.int .i64 500))))]) .ret) .skip)))) (.rg [(aj 27 (.bin .add (.t 13) (.c (.int .i64 1)))),(au 13 27)]))))
abbrev uv:av:=(.cond (.t 59) .skip (.rg [(aj 61 (.bin .eql (.t 43) (.c (.int .i64 2)))),(aQ 59 61)]))
abbrev uw:av:=(.cond (.t 64) .skip (.seq (.rg [(aj 66 (.bin .eql (.t 43) (.c (.int .i64 6)))),(aQ 64 66)]) (.cond (.t 64) .skip (.rg [(aj 67 (.bin .eql (.t 43) (.c (.int .i64 8)))),(aQ 64 67)]))))
abbrev ux:av:=(.cond (.t 59) (.rg [(au 62 6),(aj 63 (.call (.c (.fn 25 [])) [(.t 62)])),(aQ 10 63)]) (.seq (.seq (.rg [(aj 65 (.bin .eql (.t 43) (.c (.int .i64 5)))),(aQ 64 65)]) (.sem (erase uw))) (.cond (.t 64) (.rg [(au 68 7),(aj 69 (.un .not (.t 68))),(aQ 10 69)]) (.seq (.rg [(aj 71 (.bin .eql (.t 43) (.c (.int .i64 9)))),(aQ 70 71)]) (.cond (.t 70) (.rg [(au 72 6),(aj 73 (.bin .neq (.t 72) (.c (.str [])))),(aQ 10 73)]) .skip)))))
abbrev G2:av:=(.seq (.rg [(aj 2 (.alloc [(.int .i64 0),(.str []),(.str []),(.str []),(.int .i64 0)])),(aj 3 (.aO (.c (.int .i64 0))))]) (.seq (.seq (.rg [(au 11 0),(aj 12 (.lens (.t 11))),(aj 13 (.mv (.c (.int .i64 0))))]) (.blk 0 (.loop (erase sJ)))) (.seq (.rg [(au 28 0),(aj 29 (.call (.c (.fn 19 [])) [(.t 28),(.c (.str [32]))])),(aQ 0 29)]) (.seq (.rg [(au 31 0),(aj 32 (.call (.c (.fn 20 [])) [(.t 31),(.c (.str [32]))])),(au 30 32),(aj 33 (.ext (.t 30) 0)),(aj 34 (.ext (.t 30) 1)),(aj 35 (.ext (.t 30) 2)),(aQ 5 33),(aQ 6 34),(aQ 7 35)]) (.seq (.rg [(au 36 5),(aj 37 (.call (.c (.fn 22 [])) [(.t 36)])),(aj 38 (.call (.c (.fn 21 [])) [(.t 37)])),(aQ 8 38)]) (.seq (.rg [(au 39 0),(au 40 5),(aj 41 (.lens (.t 40))),(aj 42 (.gj (.t 39) (some (.t 41)) none)),(aQ 9 42)]) (.seq (.rg [(aj 10 (.aO (.c (.bool true))))]) (.seq (.seq (.rg [(au 43 8)]) (.blk 2 (.seq (.rg [(aj 45 (.bin .eql (.t 43) (.c (.int .i64 0)))),(aQ 44 45)]) (.cond (.t 44) (.seq (.rg [(aj 46 (.build [(.int .i64 0),(.str []),(.str []),(.str []),(.int .i64 0)] [])),(cS (.st (.t 2) (.t 46) 5)),(aj 3 (.aO (.c (.int .i64 500))))]) .ret) (.seq (.rg [(aj 48 (.bin .eql (.t 43) (.c (.int .i64 3)))),(aQ 47 48)]) (.cond (.t 47) (.seq (.rg [(au 49 9),(aj 50 (.call (.c (.fn 23 [])) [(.t 49)])),(aj 51 (.ext (.t 50) 0)),(aj 52 (.ext (.t 50) 1)),(cS (.st (.t 2) (.t 51) 5)),(aQ 3 52)]) .ret) (.seq (.rg [(aj 54 (.bin .eql (.t 43) (.c (.int .i64 4)))),(aQ 53 54)]) (.cond (.t 53) (.seq (.rg [(au 55 9),(aj 56 (.call (.c (.fn 24 [])) [(.t 55)])),(aj 57 (.ext (.t 56) 0)),(aj 58 (.ext (.t 56) 1)),(cS (.st (.t 2) (.t 57) 5)),(aQ 3 58)]) .ret) (.seq (.seq (.rg [(aj 60 (.bin .eql (.t 43) (.c (.int .i64 1)))),(aQ 59 60)]) (.sem (erase uv))) (.sem (erase ux))))))))))) (.seq (.seq (.rg [(au 74 10),(aj 75 (.un .not (.t 74)))]) (.cond (.t 75) (.seq (.rg [(aj 76 (.build [(.int .i64 0),(.str []),(.str []),(.str []),(.int .i64 0)] [])),(cS (.st (.t 2) (.t 76) 5)),(aj 3 (.aO (.c (.int .i64 501))))]) .ret) .skip)) (.seq (.rg [(au 77 8),(au 78 6),(aj 79 (.build [(.int .i64 0),(.str []),(.str []),(.str []),(.int .i64 0)] [(0,(1,(.t 77))),(1,(1,(.t 78)))])),(cS (.st (.t 2) (.t 79) 5)),(aj 3 (.aO (.c (.int .i64 0))))]) .ret))))))))))
theorem G3:bM Tryz.prog 8 80 [(.cell 2 26),(.tmp 3)] (erase G2):=⟨Tryz.f8,_,rfl,by decide,rfl,by kernel_rfl,rfl,rfl⟩
abbrev iF:List Nat:=[0,2,3,4,5,6,7,8,9,10,12,13,14,25,43,44,47,53,59,64,70,75]
def ji (s1:List UInt8) (t3:Int):Option (Bool):=
 (idx s1 t3).bind fun x6=>
 (if (decide (x6<32)) then
  some true
 else
  some (decide (126<x6)))
def eP (s1:List UInt8):(Int×aH)→Option (St (aH×Int) aH (Int×aH))
 |(t3,s4)=>
  (if (decide (t3<(s1.length:Int))) then
   (ji s1 t3).bind fun t8=>
   (if t8 then
    some (.ret ((aH.mk 0 ([]:List UInt8) (aD.mk ([]:List UInt8) ([]:List UInt8)) 0),500))
   else
    some (.cU ((IntKind.wrap .i64 (t3+1)),s4)))
  else
   some (.dW s4))
def kY (e9:Int):Option (Bool):=
 (if (decide (e9=1)) then
  some (decide (e9=1))
 else
  some (decide (e9=2)))
def kZ (e9:Int):Option (Bool):=
 (if (decide (e9=5)) then
  some (decide (e9=5))
 else
  (if (decide (e9=6)) then
   some (decide (e9=6))
  else
   some (decide (e9=8))))
def k4 (F:Nat) (t26:Bool) (fL:List UInt8) (e9:Int) (r16:Bool):Option (Bool):=
 (if t26 then
  (gf F fL).bind fun Wa=>some Wa
 else
  (kZ e9).bind fun t31=>
  (if t31 then
   some (!r16)
  else
   (if (decide (e9=9)) then
    some (!decide (fL=([]:List UInt8)))
   else
    some true)))
def eZ (F:Nat) (s1:List UInt8):Option (aH×Int):=
 ((iter (eP s1) F (0,(aH.mk 0 ([]:List UInt8) (aD.mk ([]:List UInt8) ([]:List UInt8)) 0))).bind fun Tv=>
 match Tv with
 | .inr aY=>
   (eU s1 ([32]:List UInt8)).bind fun ku=>
   (strings_Cut ku ([32]:List UInt8)).bind fun (gK,fL,r16)=>
   (fo F gK).bind fun AN=>
   (so F AN).bind fun e9=>
   (sub ku (gK.length:Int) (ku.length:Int)).bind fun AI=>
   (if (decide (e9=0)) then
    some ((aH.mk 0 ([]:List UInt8) (aD.mk ([]:List UInt8) ([]:List UInt8)) 0),500)
   else
    (if (decide (e9=3)) then
     (sG F AI).bind fun (lz,jW)=>some (lz,jW)
    else
     (if (decide (e9=4)) then
      (sI F AI).bind fun (BN,P9)=>some (BN,P9)
     else
      (kY e9).bind fun t26=>
      (k4 F t26 fL e9 r16).bind fun Xk=>
      (if (!Xk) then
       some ((aH.mk 0 ([]:List UInt8) (aD.mk ([]:List UInt8) ([]:List UInt8)) 0),501)
      else
       some ((aH.mk e9 fL (aD.mk ([]:List UInt8) ([]:List UInt8)) 0),0)))))
 | .inl (BO,Qa)=>
   some (BO,Qa))
theorem AO {s1:List UInt8} {t3:Int} {q5:Nat} {s4:aH} {H0 H:AH} (hfr:Fr H0 H0.length [] H) (ai:H[q5]? =some [(.int .i64 s4.kind),(.str s4.arg),(.str s4.path.ay),(.str s4.path.domain),(.int .i64 s4.size)]) (dP:H0.length≤q5) {K:Exit→Env→AH→Prop} {t7:Bool}
 (h:ji s1 t3=some t7)
 (kn:∀H':AH,Fr H0 H0.length [] H'→H'[q5]? =some [(.int .i64 s4.kind),(.str s4.arg),(.str s4.path.ay),(.str s4.path.domain),(.int .i64 s4.size)]→K .normal [(0,(.str s1)),(2,(.ptr q5 0)),(12,(.int .i64 (s1.length:Int))),(13,(.int .i64 t3)),(25,(.bool t7))] H'):
 AX Tryz.prog iF 80 H0.length (erase uu) K [(0,(.str s1)),(2,(.ptr q5 0)),(4,(.int .i64 t3)),(12,(.int .i64 (s1.length:Int))),(13,(.int .i64 t3))] H:=by
 refine bT fun K' hK=> ?_
 have hle:=hfr.le
 have aM:=aR ai
 rw [ji.eq_1] at h
 obtain ⟨x6,hy2,h⟩:=aq h
 refine az (aI hy2 ai) ?_
 refine bR h (fun hy3 h=> ?_) fun hy3 h=> ?_
 · refine az (aI hy3 ai) ?_
   obtain rfl:=aA h
   exact hK _ _ _ _ _ aJ ak (kn _ hfr (ai.trans rfl))
 · refine az (aI hy3 (aI hy2 ai)) ?_
   obtain rfl:=aA h
   exact hK _ _ _ _ _ aJ ak (kn _ hfr (ai.trans rfl))
theorem AP {F:Nat} {t3:Int} {s1:List UInt8} {s4:aH} {q2:Nat} {H0 H:AH} (hfr:Fr H0 H0.length [] H) (ai:H[q2]? =some [(.int .i64 s4.kind),(.str s4.arg),(.str s4.path.ay),(.str s4.path.domain),(.int .i64 s4.size)]) (dP:H0.length≤q2) {K:Exit→Env→AH→Prop} {o:(aH×Int)⊕(aH)}
 (h:iter (eP s1) F (t3,s4)=some o)
 (c8:∀o':aH,o= .inr o'→∀H':AH,Fr H0 H0.length [] H'→H'[q2]? =some [(.int .i64 o'.kind),(.str o'.arg),(.str o'.path.ay),(.str o'.path.domain),(.int .i64 o'.size)]→K (.exit 0) [(0,(.str s1)),(2,(.ptr q2 0))] H')
 (kr:∀o':aH×Int,o= .inl o'→∀H':AH,Fr H0 H0.length [] H'→H'[q2]? =some [(.int .i64 o'.1.kind),(.str o'.1.arg),(.str o'.1.path.ay),(.str o'.1.path.domain),(.int .i64 o'.1.size)]→K .ret [(2,(.ptr q2 0)),(3,(.int .i64 o'.2))] H'):
 AX Tryz.prog iF 80 H0.length (.loop (erase sJ)) K [(0,(.str s1)),(2,(.ptr q2 0)),(12,(.int .i64 (s1.length:Int))),(13,(.int .i64 t3))] H:=by
 refine gH (fun s e H1=>match s with|(t3,s4)=>e=[(0,(.str s1)),(2,(.ptr q2 0)),(12,(.int .i64 (s1.length:Int))),(13,(.int .i64 t3))]∧Fr H0 H0.length [] H1∧H1[q2]? =some [(.int .i64 s4.kind),(.str s4.arg),(.str s4.path.ay),(.str s4.path.domain),(.int .i64 s4.size)]) h ⟨rfl,hfr,ai⟩ ?_
 rintro K' ⟨t3,s4⟩ st e H ⟨rfl,hfr,ai⟩ h hN hB hR hX
 have hle:=hfr.le
 have aM:=aR ai
 rw [eP.eq_1] at h
 refine az ai ?_
 refine bl h (fun hy1 h=> ?_) fun hy1 h=> ?_
 · refine az ai ?_
   obtain ⟨t8,hy4,h⟩:=aq h
   refine bz ak (AO (s4:=s4) (q5:=q2) hfr (ai.trans rfl) cq hy4 ?_)
   intro H hfr ai
   have hle:=hfr.le
   have aM:=aR ai
   refine az ai ?_
   refine bl h (fun bK h=> ?_) fun bK h=> ?_
   · refine az ai ?_
     obtain rfl:=aA h
     exact hX _ _ _ _ _ c6 aJ ak (kr _ (hR _ rfl) _ (bW _ hfr) cA)
   · refine az ai ?_
     obtain rfl:=aA h
     exact hN _ rfl _ _ _ _ aJ ak ⟨rfl,hfr,(ai.trans rfl)⟩
 · refine az ai ?_
   obtain rfl:=aA h
   exact hX _ _ _ _ _ c6 aJ ak (c8 _ (hB _ rfl) _ hfr (ai.trans rfl))
theorem AQ {e9:Int} {AR:Nat} {fL:List UInt8} {r16:Bool} {aY:aH} {H0 H:AH} (hfr:Fr H0 H0.length [] H) (ai:H[AR]? =some [(.int .i64 aY.kind),(.str aY.arg),(.str aY.path.ay),(.str aY.path.domain),(.int .i64 aY.size)]) (dP:H0.length≤AR) {K:Exit→Env→AH→Prop} {t25:Bool}
 (h:kY e9=some t25)
 (kn:∀H':AH,Fr H0 H0.length [] H'→H'[AR]? =some [(.int .i64 aY.kind),(.str aY.arg),(.str aY.path.ay),(.str aY.path.domain),(.int .i64 aY.size)]→K .normal [(2,(.ptr AR 0)),(6,(.str fL)),(7,(.bool r16)),(8,(.int .i64 e9)),(10,(.bool true)),(43,(.int .i64 e9)),(59,(.bool t25))] H'):
 AX Tryz.prog iF 80 H0.length (erase uv) K [(2,(.ptr AR 0)),(6,(.str fL)),(7,(.bool r16)),(8,(.int .i64 e9)),(10,(.bool true)),(43,(.int .i64 e9)),(59,(.bool (decide (e9=1))))] H:=by
 refine bT fun K' hK=> ?_
 have hle:=hfr.le
 have aM:=aR ai
 rw [kY.eq_1] at h
 refine az ai ?_
 refine bl h (fun ic h=> ?_) fun ic h=> ?_
 · refine az ai ?_
   obtain rfl:=aA h
   exact hK _ _ _ _ _ aJ ak (kn _ hfr (ai.trans rfl))
 · refine az ai ?_
   obtain rfl:=aA h
   exact hK _ _ _ _ _ aJ ak (kn _ hfr (ai.trans rfl))
theorem AS {e9:Int} {Qb:Nat} {fL:List UInt8} {r16:Bool} {aY:aH} {H0 H:AH} (hfr:Fr H0 H0.length [] H) (ai:H[Qb]? =some [(.int .i64 aY.kind),(.str aY.arg),(.str aY.path.ay),(.str aY.path.domain),(.int .i64 aY.size)]) (dP:H0.length≤Qb) {K:Exit→Env→AH→Prop} {t30:Bool}
 (h:kZ e9=some t30)
 (kn:∀H':AH,Fr H0 H0.length [] H'→H'[Qb]? =some [(.int .i64 aY.kind),(.str aY.arg),(.str aY.path.ay),(.str aY.path.domain),(.int .i64 aY.size)]→K .normal [(2,(.ptr Qb 0)),(6,(.str fL)),(7,(.bool r16)),(8,(.int .i64 e9)),(10,(.bool true)),(43,(.int .i64 e9)),(64,(.bool t30))] H'):
 AX Tryz.prog iF 80 H0.length (erase uw) K [(2,(.ptr Qb 0)),(6,(.str fL)),(7,(.bool r16)),(8,(.int .i64 e9)),(10,(.bool true)),(43,(.int .i64 e9)),(64,(.bool (decide (e9=5))))] H:=by
 refine bT fun K' hK=> ?_
 have hle:=hfr.le
 have aM:=aR ai
 rw [kZ.eq_1] at h
 refine az ai ?_
 refine bl h (fun gw h=> ?_) fun gw h=> ?_
 · refine az ai ?_
   obtain rfl:=aA h
   exact hK _ _ _ _ _ aJ ak (kn _ hfr (ai.trans rfl))
 · refine az ai ?_
   refine bl h (fun ie h=> ?_) fun ie h=> ?_
   · refine az ai ?_
     obtain rfl:=aA h
     exact hK _ _ _ _ _ aJ ak (kn _ hfr (ai.trans rfl))
   · refine az ai ?_
     obtain rfl:=aA h
     exact hK _ _ _ _ _ aJ ak (kn _ hfr (ai.trans rfl))
theorem AT {F:Nat} {t26:Bool} {fL:List UInt8} {e9:Int} {r16:Bool} {L6:Nat} {aY:aH} {H0 H:AH} (hfr:Fr H0 H0.length [] H) (ai:H[L6]? =some [(.int .i64 aY.kind),(.str aY.arg),(.str aY.path.ay),(.str aY.path.domain),(.int .i64 aY.size)]) (dP:H0.length≤L6) {K:Exit→Env→AH→Prop} {Xl:Bool}
 (h:k4 F t26 fL e9 r16=some Xl)
 (kn:∀H':AH,Fr H0 H0.length [] H'→H'[L6]? =some [(.int .i64 aY.kind),(.str aY.arg),(.str aY.path.ay),(.str aY.path.domain),(.int .i64 aY.size)]→K .normal [(2,(.ptr L6 0)),(6,(.str fL)),(8,(.int .i64 e9)),(10,(.bool Xl))] H'):
 AX Tryz.prog iF 80 H0.length (erase ux) K [(2,(.ptr L6 0)),(6,(.str fL)),(7,(.bool r16)),(8,(.int .i64 e9)),(10,(.bool true)),(43,(.int .i64 e9)),(59,(.bool t26))] H:=by
 refine bT fun K' hK=> ?_
 have hle:=hfr.le
 have aM:=aR ai
 rw [k4.eq_1] at h
 refine az ai ?_
 refine bl h (fun fM h=> ?_) fun fM h=> ?_
 · refine az ai ?_
   obtain ⟨Wa,fN,h⟩:=aq h
   refine bB ak (um fN) ?_
   refine az ai ?_
   obtain rfl:=aA h
   exact hK _ _ _ _ _ aJ ak (kn _ hfr (ai.trans rfl))
 · refine az ai ?_
   obtain ⟨t31,jg,h⟩:=aq h
   refine bz ak (AS (fL:=fL) (r16:=r16) (aY:=aY) (Qb:=L6) hfr (ai.trans rfl) cq jg ?_)
   intro H hfr ai
   have hle:=hfr.le
   have aM:=aR ai
   refine az ai ?_
   refine bl h (fun gO h=> ?_) fun gO h=> ?_
   · refine az ai ?_
     obtain rfl:=aA h
     exact hK _ _ _ _ _ aJ ak (kn _ hfr (ai.trans rfl))
   · refine az ai ?_
     refine bl h (fun ig h=> ?_) fun ig h=> ?_
     · refine az ai ?_
       obtain rfl:=aA h
       exact hK _ _ _ _ _ aJ ak (kn _ hfr (ai.trans rfl))
     · refine az ai ?_
       obtain rfl:=aA h
       exact hK _ _ _ _ _ aJ ak (kn _ hfr (ai.trans rfl))
theorem fC {F:Nat} {s1:List UInt8} {H0:AH} {aP:aH} {ey:Int} (h:eZ F s1=some (aP,ey)):
 aF Tryz.prog 8 [(.str s1)] H0 fun v H'=>v=(.bx [(.agg [(.int .i64 aP.kind),(.str aP.arg),(.str aP.path.ay),(.str aP.path.domain),(.int .i64 aP.size)]),(.int .i64 ey)])∧H'=H0:=by
 refine lH G3 iF [] fun hcl K0 aN H hH hfr=> ?_
 clear hH
 have hle:=hfr.le
 rw [eZ.eq_1] at h
 refine cN ?_
 obtain ⟨q2,ju⟩:∃q:Nat,H.length=q:=⟨_,rfl⟩
 try rw [ju]
 obtain ⟨Tv,bY,h⟩:=aq h
 refine bz ak (AP (q2:=q2) (Fr.app hfr) uH cq bY ?_ ?_)
 · rintro aY rfl H hfr ai
   try dsimp only at h ai
   have hle:=hfr.le
   have aM:=aR ai
   refine az ai ?_
   obtain ⟨ku,cD,h⟩:=aq h
   refine bB ak (uJ (s1:=s1) (s2:=([32]:List UInt8)) cD) ?_
   refine az ai ?_
   obtain ⟨⟨gK,fL,r16⟩,ct,h⟩:=aq h
   dsimp only at h
   refine bB ak (Bw (s1:=ku) (s2:=([32]:List UInt8)) ct) ?_
   refine az ai ?_
   obtain ⟨AN,cQ,h⟩:=aq h
   refine bB ak (jN cQ) ?_
   refine az ai ?_
   obtain ⟨e9,cc,h⟩:=aq h
   refine bB ak (GL cc) ?_
   refine az ai ?_
   obtain ⟨AI,cy,h⟩:=aq h
   refine az (aI cy ai) ?_
   refine bl h (fun cK h=> ?_) fun cK h=> ?_
   · refine az ai ?_
     obtain ⟨rfl,rfl⟩:=cw h
     exact aN _ _ _ bk (aT (bW _ hfr) hcl (bh (cs:=[(.int .i64 0),(.str ([]:List UInt8)),(.str ([]:List UInt8)),(.str ([]:List UInt8)),(.int .i64 0)]) (v:=(.agg [(.int .i64 0),(.str ([]:List UInt8)),(.str ([]:List UInt8)),(.str ([]:List UInt8)),(.int .i64 0)])) (by kernel_rfl) (n:=(some 5)) (by kernel_rfl) rfl cA (by simp [bE,bD,dD,aS,AV.flat,bS,cu,AV.br,Tg.sh]) (aW bf (.int .i64 500))) bg aX ⟨rfl,rfl⟩)
   · refine az ai ?_
     refine bl h (fun cG h=> ?_) fun cG h=> ?_
     · refine az ai ?_
       obtain ⟨⟨lz,jW⟩,dX,h⟩:=aq h
       dsimp only at h
       refine bB ak (G0 dX) ?_
       refine az ai ?_
       obtain ⟨rfl,rfl⟩:=cw h
       exact aN _ _ _ bk (aT (bW _ hfr) hcl (bh (cs:=[(.int .i64 lz.kind),(.str lz.arg),(.str lz.path.ay),(.str lz.path.domain),(.int .i64 lz.size)]) (v:=(.agg [(.int .i64 lz.kind),(.str lz.arg),(.str lz.path.ay),(.str lz.path.domain),(.int .i64 lz.size)])) (by kernel_rfl) (n:=(some 5)) (by kernel_rfl) rfl cA (by simp [bE,bD,dD,aS,AV.flat,bS,cu,AV.br,Tg.sh]) (aW bf (.int .i64 jW))) bg aX ⟨rfl,rfl⟩)
     · refine az ai ?_
       refine bl h (fun eW h=> ?_) fun eW h=> ?_
       · refine az ai ?_
         obtain ⟨⟨BN,P9⟩,ek,h⟩:=aq h
         dsimp only at h
         refine bB ak (G1 ek) ?_
         refine az ai ?_
         obtain ⟨rfl,rfl⟩:=cw h
         exact aN _ _ _ bk (aT (bW _ hfr) hcl (bh (cs:=[(.int .i64 BN.kind),(.str BN.arg),(.str BN.path.ay),(.str BN.path.domain),(.int .i64 BN.size)]) (v:=(.agg [(.int .i64 BN.kind),(.str BN.arg),(.str BN.path.ay),(.str BN.path.domain),(.int .i64 BN.size)])) (by kernel_rfl) (n:=(some 5)) (by kernel_rfl) rfl cA (by simp [bE,bD,dD,aS,AV.flat,bS,cu,AV.br,Tg.sh]) (aW bf (.int .i64 P9))) bg aX ⟨rfl,rfl⟩)
       · refine az ai ?_
         obtain ⟨t26,gv,h⟩:=aq h
         refine bz ak (AQ (fL:=fL) (r16:=r16) (aY:=aY) (AR:=q2) hfr (ai.trans rfl) cq gv ?_)
         intro H hfr ai
         have hle:=hfr.le
         have aM:=aR ai
         refine az ai ?_
         obtain ⟨Xk,jS,h⟩:=aq h
         refine bz ak (AT (aY:=aY) (L6:=q2) hfr (ai.trans rfl) cq jS ?_)
         intro H hfr ai
         have hle:=hfr.le
         have aM:=aR ai
         refine az ai ?_
         refine bl h (fun sK h=> ?_) fun sK h=> ?_
         · refine az ai ?_
           obtain ⟨rfl,rfl⟩:=cw h
           exact aN _ _ _ bk (aT (bW _ hfr) hcl (bh (cs:=[(.int .i64 0),(.str ([]:List UInt8)),(.str ([]:List UInt8)),(.str ([]:List UInt8)),(.int .i64 0)]) (v:=(.agg [(.int .i64 0),(.str ([]:List UInt8)),(.str ([]:List UInt8)),(.str ([]:List UInt8)),(.int .i64 0)])) (by kernel_rfl) (n:=(some 5)) (by kernel_rfl) rfl cA (by simp [bE,bD,dD,aS,AV.flat,bS,cu,AV.br,Tg.sh]) (aW bf (.int .i64 501))) bg aX ⟨rfl,rfl⟩)
         · refine az ai ?_
           obtain ⟨rfl,rfl⟩:=cw h
           exact aN _ _ _ bk (aT (bW _ hfr) hcl (bh (cs:=[(.int .i64 e9),(.str fL),(.str ([]:List UInt8)),(.str ([]:List UInt8)),(.int .i64 0)]) (v:=(.agg [(.int .i64 e9),(.str fL),(.str ([]:List UInt8)),(.str ([]:List UInt8)),(.int .i64 0)])) (by kernel_rfl) (n:=(some 5)) (by kernel_rfl) rfl cA (by simp [bE,bD,dD,aS,AV.flat,bS,cu,AV.br,Tg.sh]) (aW bf (.int .i64 0))) bg aX ⟨rfl,rfl⟩)
 · rintro ⟨BO,Qa⟩ rfl H hfr ai
   try dsimp only at h ai
   have hle:=hfr.le
   have aM:=aR ai
   refine az ai ?_
   obtain ⟨rfl,rfl⟩:=cw h
   exact aN _ _ _ bk (aT hfr hcl (bh (cs:=[(.int .i64 BO.kind),(.str BO.arg),(.str BO.path.ay),(.str BO.path.domain),(.int .i64 BO.size)]) (v:=(.agg [(.int .i64 BO.kind),(.str BO.arg),(.str BO.path.ay),(.str BO.path.domain),(.int .i64 BO.size)])) (by kernel_rfl) (n:=(some 5)) (by kernel_rfl) rfl (ai.trans rfl) (by simp [bE,bD,dD,aS,AV.flat,bS,cu,AV.br,Tg.sh]) (aW bf (.int .i64 Qa))) bg aX ⟨rfl,rfl⟩)
abbrev Ez:av:=(.seq (.rg [(aj 1 (.box (.t 0))),(aj 2 (.aO (.c (.str []))))]) (.seq (.blk 0 (.seq (.rg [(aj 4 (.ld (.t 1) (some 2))),(aj 5 (.call (.c (.fn 30 [])) [(.t 4)])),(aQ 3 5)]) (.cond (.t 3) (.seq (.rg [(aj 2 (.aO (.c (.str [60,62]))))]) .ret) (.seq (.rg [(aj 7 (.ld (.t 1) (some 2))),(aj 8 (.call (.c (.fn 10 [])) [(.t 7)])),(aj 9 (.un .not (.t 8))),(aQ 6 9)]) (.cond (.t 6) (.seq (.rg [(aj 2 (.aO (.c (.str []))))]) .ret) .skip))))) (.seq (.rg [(aj 10 (.ld (.t 1) (some 2))),(aj 11 (.call (.c (.fn 32 [])) [(.t 10)])),(aQ 2 11)]) .ret)))
theorem EA:bM Tryz.prog 11 12 [(.tmp 2)] (erase Ez):=⟨Tryz.f11,_,rfl,by decide,rfl,by kernel_rfl,rfl,rfl⟩
abbrev EB:List Nat:=[0,1,2,3,6]
def jD (F:Nat) (a1:aD):Option ((List UInt8)):=
 (kO a1).bind fun r2=>
 (if r2 then
  some ([60,62]:List UInt8)
 else
  (jC F a1).bind fun r3=>
  (if (!r3) then
   some ([]:List UInt8)
  else
   (kP F a1).bind fun r4=>some r4))
theorem vP {F:Nat} {a1:aD} {H0:AH} {aP:List UInt8} (h:jD F a1=some aP):
 aF Tryz.prog 11 [(.agg [(.str a1.ay),(.str a1.domain)])] H0 fun v H'=>v=(.str aP)∧H'=H0:=by
 refine lH EA EB [] fun hcl K0 aN H hH hfr=> ?_
 clear hH
 have hle:=hfr.le
 rw [jD.eq_1] at h
 refine cN ?_
 obtain ⟨r2,hy1,h⟩:=aq h
 refine bB ak (xb hy1) ?_
 refine cN ?_
 refine bl h (fun hy2 h=> ?_) fun hy2 h=> ?_
 · refine cN ?_
   obtain rfl:=aA h
   exact aN _ _ _ bk (aT (Fr.app hfr) hcl (aW bf (.str ([60,62]:List UInt8))) bg aX ⟨rfl,rfl⟩)
 · refine cN ?_
   obtain ⟨r3,hy3,h⟩:=aq h
   refine bB ak (vG hy3) ?_
   refine cN ?_
   refine bl h (fun hy4 h=> ?_) fun hy4 h=> ?_
   · refine cN ?_
     obtain rfl:=aA h
     exact aN _ _ _ bk (aT (Fr.app hfr) hcl (aW bf (.str ([]:List UInt8))) bg aX ⟨rfl,rfl⟩)
   · refine cN ?_
     obtain ⟨r4,bK,h⟩:=aq h
     refine bB ak (xe bK) ?_
     refine cN ?_
     obtain rfl:=aA h
     exact aN _ _ _ bk (aT (Fr.app hfr) hcl (aW bf (.str r4)) bg aX ⟨rfl,rfl⟩)
abbrev uy:av:=(.cond (.t 15) .skip (.seq (.rg [(aj 17 (.bin .eql (.t 8) (.c (.int .i64 2)))),(aQ 15 17)]) (.cond (.t 15) .skip (.rg [(aj 18 (.bin .eql (.t 8) (.c (.int .i64 9)))),(aQ 15 18)]))))
abbrev uz:av:=(.cond (.t 27) (.rg [(au 28 3),(aj 29 (.cM (.t 1) 4)),(aj 30 (.ld (.t 29) none)),(aj 31 (.call (.c (.fn 34 [])) [(.t 30)])),(aj 32 (.bin .add (.c (.str [32,83,73,90,69,61])) (.t 31))),(aj 33 (.bin .add (.t 28) (.t 32))),(aQ 3 33)]) .skip)
abbrev G4:av:=(.seq (.rg [(aj 1 (.box (.t 0))),(aj 2 (.aO (.c (.str []))))]) (.seq (.rg [(aj 4 (.cM (.t 1) 0)),(aj 5 (.ld (.t 4) none)),(aj 6 (.call (.c (.fn 33 [])) [(.t 5)])),(aQ 3 6)]) (.seq (.seq (.rg [(aj 7 (.cM (.t 1) 0)),(aj 8 (.ld (.t 7) none))]) (.blk 0 (.seq (.blk 4 (.seq (.blk 3 (.seq (.blk 2 (.seq (.blk 1 (.seq (.seq (.seq (.rg [(aj 10 (.bin .eql (.t 8) (.c (.int .i64 3)))),(aQ 9 10)]) (.cond (.t 9) (.exit 1) .skip)) (.seq (.seq (.rg [(aj 12 (.bin .eql (.t 8) (.c (.int .i64 4)))),(aQ 11 12)]) (.cond (.t 11) (.exit 2) .skip)) (.seq (.seq (.rg [(aj 14 (.bin .eql (.t 8) (.c (.int .i64 7)))),(aQ 13 14)]) (.cond (.t 13) (.exit 3) .skip)) (.seq (.seq (.rg [(aj 16 (.bin .eql (.t 8) (.c (.int .i64 1)))),(aQ 15 16)]) (.sem (erase uy))) (.cond (.t 15) (.exit 4) .skip))))) (.exit 0))) (.seq (.seq (.rg [(au 19 3),(aj 20 (.cM (.t 1) 2)),(aj 21 (.ld (.t 20) (some 2))),(aj 22 (.call (.c (.fn 11 [])) [(.t 21)])),(aj 23 (.bin .add (.c (.str [32,70,82,79,77,58])) (.t 22))),(aj 24 (.bin .add (.t 19) (.t 23))),(aQ 3 24)]) (.seq (.rg [(aj 25 (.cM (.t 1) 4)),(aj 26 (.ld (.t 25) none)),(aj 27 (.bin .neq (.t 26) (.c (.int .i64 (-1)))))]) (.sem (erase uz)))) (.exit 0)))) (.seq (.rg [(au 34 3),(aj 35 (.cM (.t 1) 2)),(aj 36 (.ld (.t 35) (some 2))),(aj 37 (.call (.c (.fn 11 [])) [(.t 36)])),(aj 38 (.bin .add (.c (.str [32,84,79,58])) (.t 37))),(aj 39 (.bin .add (.t 34) (.t 38))),(aQ 3 39)]) (.exit 0)))) (.seq (.rg [(aj 40 (.cM (.t 1) 1)),(aj 41 (.ld (.t 40) none)),(aj 42 (.bin .eql (.t 41) (.c (.str []))))]) (.cond (.t 42) (.exit 0) .skip)))) (.seq (.rg [(au 43 3),(aj 44 (.cM (.t 1) 1)),(aj 45 (.ld (.t 44) none)),(aj 46 (.bin .add (.c (.str [32])) (.t 45))),(aj 47 (.bin .add (.t 43) (.t 46))),(aQ 3 47)]) (.exit 0))))) (.seq (.rg [(au 48 3),(aQ 2 48)]) .ret))))
theorem G5:bM Tryz.prog 14 49 [(.tmp 2)] (erase G4):=⟨Tryz.f14,_,rfl,by decide,rfl,by kernel_rfl,rfl,rfl⟩
abbrev tR:List Nat:=[0,1,2,3,8,9,11,13,15,27,42]
def rT (c1:aH) (x5:List UInt8):Option ((List UInt8)):=
 (if (!decide (c1.size=(-1))) then
  (strconv_Itoa c1.size).bind fun r7=>
  (cat ([32,83,73,90,69,61]:List UInt8) r7).bind fun x8=>(cat x5 x8).bind fun x9=>some x9
 else
  some x5)
def rU (c1:aH):Option (Bool):=
 (if (decide (c1.kind=1)) then
  some (decide (c1.kind=1))
 else
  (if (decide (c1.kind=2)) then
   some (decide (c1.kind=2))
  else
   some (decide (c1.kind=9))))
def xF (F:Nat) (c1:aH):Option ((List UInt8)):=
 (nT c1.kind).bind fun r2=>
 (if (decide (c1.kind=3)) then
  (jD F c1.path).bind fun r3=>
  (cat ([32,70,82,79,77,58]:List UInt8) r3).bind fun x4=>
  (cat r2 x4).bind fun x5=>(rT c1 x5).bind fun og=>
  some og
 else
  (if (decide (c1.kind=4)) then
   (jD F c1.path).bind fun gI=>
   (cat ([32,84,79,58]:List UInt8) gI).bind fun gu=>(cat r2 gu).bind fun Eu=>some Eu
  else
   (if (decide (c1.kind=7)) then
    (if (decide (c1.arg=([]:List UInt8))) then
     some r2
    else
     (cat ([32]:List UInt8) c1.arg).bind fun kz=>(cat r2 kz).bind fun ng=>some ng)
   else
    (rU c1).bind fun t19=>
    (if t19 then
     (cat ([32]:List UInt8) c1.arg).bind fun lN=>(cat r2 lN).bind fun Ev=>some Ev
    else
     some r2))))
theorem AU {c1:aH} {x5:List UInt8} {q6:Nat} {H0 H:AH} (hfr:Fr H0 H0.length [] H) (ai:H[q6]? =some [(.int .i64 c1.kind),(.str c1.arg),(.str c1.path.ay),(.str c1.path.domain),(.int .i64 c1.size)]) (dP:H0.length≤q6) {K:Exit→Env→AH→Prop} {Tu:List UInt8}
 (h:rT c1 x5=some Tu)
 (kn:∀H':AH,Fr H0 H0.length [] H'→H'[q6]? =some [(.int .i64 c1.kind),(.str c1.arg),(.str c1.path.ay),(.str c1.path.domain),(.int .i64 c1.size)]→K .normal [(3,(.str Tu))] H'):
 AX Tryz.prog tR 49 H0.length (erase uz) K [(1,(.ptr q6 0)),(3,(.str x5)),(27,(.bool (!decide (c1.size=(-1)))))] H:=by
 refine bT fun K' hK=> ?_
 have hle:=hfr.le
 have aM:=aR ai
 rw [rT.eq_1] at h
 refine az ai ?_
 refine bl h (fun bY h=> ?_) fun bY h=> ?_
 · refine az ai ?_
   obtain ⟨r7,cD,h⟩:=aq h
   refine bB ak (sj (i1:=c1.size) cD) ?_
   refine az ai ?_
   obtain ⟨x8,ct,h⟩:=aq h
   obtain ⟨x9,cQ,h⟩:=aq h
   refine az (aI ct (aI cQ ai)) ?_
   obtain rfl:=aA h
   exact hK _ _ _ _ _ aJ ak (kn _ hfr (ai.trans rfl))
 · refine az ai ?_
   obtain rfl:=aA h
   exact hK _ _ _ _ _ aJ ak (kn _ hfr (ai.trans rfl))
theorem AY {c1:aH} {tS:Nat} {r2:List UInt8} {H0 H:AH} (hfr:Fr H0 H0.length [] H) (ai:H[tS]? =some [(.int .i64 c1.kind),(.str c1.arg),(.str c1.path.ay),(.str c1.path.domain),(.int .i64 c1.size)]) (dP:H0.length≤tS) {K:Exit→Env→AH→Prop} {t18:Bool}
 (h:rU c1=some t18)
 (kn:∀H':AH,Fr H0 H0.length [] H'→H'[tS]? =some [(.int .i64 c1.kind),(.str c1.arg),(.str c1.path.ay),(.str c1.path.domain),(.int .i64 c1.size)]→K .normal [(1,(.ptr tS 0)),(3,(.str r2)),(15,(.bool t18))] H'):
 AX Tryz.prog tR 49 H0.length (erase uy) K [(1,(.ptr tS 0)),(3,(.str r2)),(8,(.int .i64 c1.kind)),(15,(.bool (decide (c1.kind=1))))] H:=by
 refine bT fun K' hK=> ?_
 have hle:=hfr.le
 have aM:=aR ai
 rw [rU.eq_1] at h
 refine az ai ?_
 refine bl h (fun fM h=> ?_) fun fM h=> ?_
 · refine az ai ?_
   obtain rfl:=aA h
   exact hK _ _ _ _ _ aJ ak (kn _ hfr (ai.trans rfl))
 · refine az ai ?_
   refine bl h (fun fN h=> ?_) fun fN h=> ?_
   · refine az ai ?_
     obtain rfl:=aA h
     exact hK _ _ _ _ _ aJ ak (kn _ hfr (ai.trans rfl))
   · refine az ai ?_
     obtain rfl:=aA h
     exact hK _ _ _ _ _ aJ ak (kn _ hfr (ai.trans rfl))
theorem EC {F:Nat} {c1:aH} {H0:AH} {aP:List UInt8} (h:xF F c1=some aP):
 aF Tryz.prog 14 [(.agg [(.int .i64 c1.kind),(.str c1.arg),(.str c1.path.ay),(.str c1.path.domain),(.int .i64 c1.size)])] H0 fun v H'=>v=(.str aP)∧H'=H0:=by
 refine lH G5 tR [] fun hcl K0 aN H hH hfr=> ?_
 clear hH
 have hle:=hfr.le
 rw [xF.eq_1] at h
 refine cN ?_
 obtain ⟨r2,hy1,h⟩:=aq h
 refine bB ak (zi hy1) ?_
 refine cN ?_
 refine bl h (fun hy2 h=> ?_) fun hy2 h=> ?_
 · refine cN ?_
   obtain ⟨r3,hy3,h⟩:=aq h
   refine bB ak (vP hy3) ?_
   refine cN ?_
   obtain ⟨x4,hy4,h⟩:=aq h
   obtain ⟨x5,bK,h⟩:=aq h
   refine az (aI hy4 bK) ?_
   obtain ⟨q6,xD⟩:∃q:Nat,H.length=q:=⟨_,rfl⟩
   try rw [xD]
   obtain ⟨og,cc,h⟩:=aq h
   refine bz ak (AU (q6:=q6) (Fr.app hfr) uH cq cc ?_)
   intro H hfr ai
   have hle:=hfr.le
   have aM:=aR ai
   refine az ai ?_
   obtain rfl:=aA h
   exact aN _ _ _ bk (aT hfr hcl (aW bf (.str og)) bg aX ⟨rfl,rfl⟩)
 · refine cN ?_
   refine bl h (fun cy h=> ?_) fun cy h=> ?_
   · refine cN ?_
     obtain ⟨gI,cK,h⟩:=aq h
     refine bB ak (vP cK) ?_
     refine cN ?_
     obtain ⟨gu,cG,h⟩:=aq h
     obtain ⟨Eu,dX,h⟩:=aq h
     refine az (aI cG dX) ?_
     obtain rfl:=aA h
     exact aN _ _ _ bk (aT (Fr.app hfr) hcl (aW bf (.str Eu)) bg aX ⟨rfl,rfl⟩)
   · refine cN ?_
     refine bl h (fun eW h=> ?_) fun eW h=> ?_
     · refine cN ?_
       refine bl h (fun ek h=> ?_) fun ek h=> ?_
       · refine cN ?_
         obtain rfl:=aA h
         exact aN _ _ _ bk (aT (Fr.app hfr) hcl (aW bf (.str r2)) bg aX ⟨rfl,rfl⟩)
       · obtain ⟨kz,ic,h⟩:=aq h
         obtain ⟨ng,gv,h⟩:=aq h
         refine az (aI ic gv) ?_
         obtain rfl:=aA h
         exact aN _ _ _ bk (aT (Fr.app hfr) hcl (aW bf (.str ng)) bg aX ⟨rfl,rfl⟩)
     · refine cN ?_
       obtain ⟨tS,G6⟩:∃q:Nat,H.length=q:=⟨_,rfl⟩
       try rw [G6]
       obtain ⟨t19,gw,h⟩:=aq h
       refine bz ak (AY (r2:=r2) (tS:=tS) (Fr.app hfr) uH cq gw ?_)
       intro H hfr ai
       have hle:=hfr.le
       have aM:=aR ai
       refine az ai ?_
       refine bl h (fun ie h=> ?_) fun ie h=> ?_
       · obtain ⟨lN,jg,h⟩:=aq h
         obtain ⟨Ev,gO,h⟩:=aq h
         refine az (aI jg (aI gO ai)) ?_
         obtain rfl:=aA h
         exact aN _ _ _ bk (aT hfr hcl (aW bf (.str Ev)) bg aX ⟨rfl,rfl⟩)
       · refine az ai ?_
         obtain rfl:=aA h
         exact aN _ _ _ bk (aT hfr hcl (aW bf (.str r2)) bg aX ⟨rfl,rfl⟩)
abbrev qs:av:=(.rg ((au 25 2)::(aj 26 (.bin .eql (.t 25) (.c (.int .i64 0))))::(au 27 26)::(ax 28 (.cM (.t 1) 0) 27 true)::(ax 29 (.ld (.t 28) none) 27 true)::(ax 30 (.bin .eql (.t 29) (.c (.int .i64 3))) 27 true)::(aj 31 (.pick (.t 27) (.t 30) (.c (.bool false))))::(au 32 31)::(ax 33 (.cM (.t 1) 4) 32 true)::(ax 34 (.ld (.t 33) none) 32 true)::(ax 35 (.bin .eql (.t 34) (.c (.int .i64 12))) 32 true)::(aj 36 (.pick (.t 32) (.t 35) (.c (.bool false))))::(au 37 36)::(ax 38 (.cM (.t 1) 2) 37 true)::(ax 39 (.cM (.t 38) 0) 37 true)::(ax 40 (.ld (.t 39) none) 37 true)::(ax 41 (.bin .eql (.t 40) (.c (.str [97]))) 37 true)::(aj 42 (.pick (.t 37) (.t 41) (.c (.bool false))))::(au 43 42)::(ax 44 (.mv (.t 4)) 43 true)::(ax 45 (.bin .eql (.t 44) (.c (.int .i64 501))) 43 true)::(aj 46 (.pick (.t 43) (.t 45) (.c (.bool false))))::(au 47 46)::(ax 48 (.mv (.t 6)) 47 true)::(ax 49 (.bin .eql (.t 48) (.c (.int .i64 555))) 47 true)::(aj 50 (.pick (.t 47) (.t 49) (.c (.bool false))))::(au 51 50)::(ax 52 (.mv (.t 8)) 51 true)::(ax 53 (.bin .eql (.t 52) (.c (.int .i64 500))) 51 true)::(aj 54 (.pick (.t 51) (.t 53) (.c (.bool false))))::(au 55 54)::(ax 56 (.ld (.t 1) (some 5)) 55 true)::(ax 57 (.call (.c (.fn 14 [])) [(.t 56)]) 55 true)::(ax 58 (.bin .eql (.t 57) (.c (.str [77,65,73,76,32,70,82,79,77,58,60,97,64,98,62,32,83,73,90,69,61,49,50]))) 55 true)::(aj 59 (.pick (.t 55) (.t 58) (.c (.bool false))))::(aQ 0 59)::[]))
abbrev Db:av:=(.seq (.rg [(aj 0 (.aO (.c (.bool false))))]) (.seq (.rg [(aj 10 (.call (.c (.fn 8 [])) [(.c (.str [109,97,105,108,32,70,82,79,77,58,60,97,64,98,62,32,83,73,90,69,61,49,50,32,32]))])),(au 9 10),(aj 11 (.ext (.t 9) 0)),(aj 12 (.ext (.t 9) 1)),(aj 1 (.alloc [(.int .i64 0),(.str []),(.str []),(.str []),(.int .i64 0)])),(cS (.st (.t 1) (.t 11) 5)),(aQ 2 12)]) (.seq (.rg [(aj 14 (.call (.c (.fn 8 [])) [(.c (.str [82,67,80,84,32,84,79,58,60,62]))])),(au 13 14),(aj 15 (.ext (.t 13) 0)),(aj 16 (.ext (.t 13) 1)),(aj 3 (.alloc [(.int .i64 0),(.str []),(.str []),(.str []),(.int .i64 0)])),(cS (.st (.t 3) (.t 15) 5)),(aQ 4 16)]) (.seq (.rg [(aj 18 (.call (.c (.fn 8 [])) [(.c (.str [77,65,73,76,32,70,82,79,77,58,60,97,64,98,62,32,66,79,68,89,61,56,66,73,84]))])),(au 17 18),(aj 19 (.ext (.t 17) 0)),(aj 20 (.ext (.t 17) 1)),(aj 5 (.alloc [(.int .i64 0),(.str []),(.str []),(.str []),(.int .i64 0)])),(cS (.st (.t 5) (.t 19) 5)),(aQ 6 20)]) (.seq (.rg [(aj 22 (.call (.c (.fn 8 [])) [(.c (.str [70,79,79]))])),(au 21 22),(aj 23 (.ext (.t 21) 0)),(aj 24 (.ext (.t 21) 1)),(aj 7 (.alloc [(.int .i64 0),(.str []),(.str []),(.str []),(.int .i64 0)])),(cS (.st (.t 7) (.t 23) 5)),(aQ 8 24)]) (.seq (.sem (erase qs)) .ret))))))
theorem Dc:bM Tryz.prog 7 60 [(.tmp 0)] (erase Db):=⟨Tryz.f7,_,rfl,by decide,rfl,by kernel_rfl,rfl,rfl⟩
abbrev vQ:List Nat:=[0,1,2,4,6,8]
def lO (F:Nat) (r2:Int) (r1:aH) (r4:Int) (r6:Int) (r8:Int):Option (Bool):=
 (if (decide (r2=0)) then
  (if (decide (r1.kind=3)) then
   (if (decide (r1.size=12)) then
    (if (decide (r1.path.ay=([97]:List UInt8))) then
     (if (decide (r4=501)) then
      (if (decide (r6=555)) then
       (if (decide (r8=500)) then
        (xF F r1).bind fun dA=>
        some (decide (dA=([77,65,73,76,32,70,82,79,77,58,60,97,64,98,62,32,83,73,90,69,61,49,50]:List UInt8)))
       else
        some false)
      else
       some false)
     else
      some false)
    else
     some false)
   else
    some false)
  else
   some false)
 else
  some false)
def nI (F:Nat):Option (Bool):=
 (eZ F ([109,97,105,108,32,70,82,79,77,58,60,97,64,98,62,32,83,73,90,69,61,49,50,32,32]:List UInt8)).bind fun (r1,r2)=>
 (eZ F ([82,67,80,84,32,84,79,58,60,62]:List UInt8)).bind fun (r3,r4)=>
 (eZ F ([77,65,73,76,32,70,82,79,77,58,60,97,64,98,62,32,66,79,68,89,61,56,66,73,84]:List UInt8)).bind fun (r5,r6)=>
 (eZ F ([70,79,79]:List UInt8)).bind fun (r7,r8)=>(lO F r2 r1 r4 r6 r8).bind fun t12=>
 some t12
theorem xG {F:Nat} {r2:Int} {r1:aH} {r4:Int} {r6:Int} {r8:Int} {q9:Nat} {H0 H:AH} (hfr:Fr H0 H0.length [] H) (ai:H[q9]? =some [(.int .i64 r1.kind),(.str r1.arg),(.str r1.path.ay),(.str r1.path.domain),(.int .i64 r1.size)]) (dP:H0.length≤q9) {K:Exit→Env→AH→Prop} {t11:Bool}
 (h:lO F r2 r1 r4 r6 r8=some t11)
 (kn:∀H':AH,Fr H0 H0.length [] H'→H'[q9]? =some [(.int .i64 r1.kind),(.str r1.arg),(.str r1.path.ay),(.str r1.path.domain),(.int .i64 r1.size)]→K .normal [(0,(.bool t11))] H'):
 AX Tryz.prog vQ 60 H0.length (erase qs) K [(0,(.bool false)),(1,(.ptr q9 0)),(2,(.int .i64 r2)),(4,(.int .i64 r4)),(6,(.int .i64 r6)),(8,(.int .i64 r8))] H:=by
 refine bT fun K' hK=> ?_
 have hle:=hfr.le
 have aM:=aR ai
 rw [lO.eq_1] at h
 refine az ai ?_
 refine bR h (fun bK h=> ?_) fun bK h=> ?_
 · refine az (aI bK ai) ?_
   refine bR h (fun bY h=> ?_) fun bY h=> ?_
   · refine az (aI bY ai) ?_
     refine bR h (fun cD h=> ?_) fun cD h=> ?_
     · refine az (aI cD ai) ?_
       refine bR h (fun ct h=> ?_) fun ct h=> ?_
       · refine az (aI ct ai) ?_
         refine bR h (fun cQ h=> ?_) fun cQ h=> ?_
         · refine az (aI cQ ai) ?_
           refine bR h (fun cc h=> ?_) fun cc h=> ?_
           · refine az (aI cc ai) ?_
             refine bR h (fun cy h=> ?_) fun cy h=> ?_
             · refine az (aI cy ai) ?_
               obtain ⟨dA,cK,h⟩:=aq h
               refine bB ak (EC cK) ?_
               refine az ai ?_
               obtain rfl:=aA h
               exact hK _ _ _ _ _ aJ ak (kn _ hfr (ai.trans rfl))
             · refine az (aI cy ai) ?_
               obtain rfl:=aA h
               exact hK _ _ _ _ _ aJ ak (kn _ hfr (ai.trans rfl))
           · refine az (aI cc ai) ?_
             obtain rfl:=aA h
             exact hK _ _ _ _ _ aJ ak (kn _ hfr (ai.trans rfl))
         · refine az (aI cQ ai) ?_
           obtain rfl:=aA h
           exact hK _ _ _ _ _ aJ ak (kn _ hfr (ai.trans rfl))
       · refine az (aI ct ai) ?_
         obtain rfl:=aA h
         exact hK _ _ _ _ _ aJ ak (kn _ hfr (ai.trans rfl))
     · refine az (aI cD ai) ?_
       obtain rfl:=aA h
       exact hK _ _ _ _ _ aJ ak (kn _ hfr (ai.trans rfl))
   · refine az (aI bY ai) ?_
     obtain rfl:=aA h
     exact hK _ _ _ _ _ aJ ak (kn _ hfr (ai.trans rfl))
 · refine az (aI bK ai) ?_
   obtain rfl:=aA h
   exact hK _ _ _ _ _ aJ ak (kn _ hfr (ai.trans rfl))
theorem BP {F:Nat} {H0:AH} {aP:Bool} (h:nI F=some aP):
 aF Tryz.prog 7 [] H0 fun v H'=>v=(.bool aP)∧H'=H0:=by
 refine lH Dc vQ [] fun hcl K0 aN H hH hfr=> ?_
 clear hH
 have hle:=hfr.le
 rw [nI.eq_1] at h
 refine cN ?_
 obtain ⟨⟨r1,r2⟩,hy1,h⟩:=aq h
 dsimp only at h
 refine bB ak (fC hy1) ?_
 refine cN ?_
 obtain ⟨⟨r3,r4⟩,hy2,h⟩:=aq h
 dsimp only at h
 refine bB ak (fC hy2) ?_
 refine cN ?_
 obtain ⟨⟨r5,r6⟩,hy3,h⟩:=aq h
 dsimp only at h
 refine bB ak (fC hy3) ?_
 refine cN ?_
 obtain ⟨⟨r7,r8⟩,hy4,h⟩:=aq h
 dsimp only at h
 refine bB ak (fC hy4) ?_
 refine cN ?_
 obtain ⟨q9,Zv⟩:∃q:Nat,H.length=q:=⟨_,rfl⟩
 try rw [Zv]
 obtain ⟨t12,cG,h⟩:=aq h
 refine bz ak (xG (q9:=q9) (bW _ (Fr.app (bW _ (Fr.app (bW _ (Fr.app (bW _ (Fr.app hfr)))))))) (lf (CO (lf (CO (lf (CO cA)))))) cq cG ?_)
 intro H hfr ai
 have hle:=hfr.le
 have aM:=aR ai
 refine az ai ?_
 obtain rfl:=aA h
 exact aN _ _ _ bk (aT hfr hcl (aW bf (.bool t12)) bg aX ⟨rfl,rfl⟩)
abbrev qt:av:=(.rg [(au 13 3),(au 14 4),(aj 15 (.uG 1 (.t 13) (.t 14))),(aj 16 (.ld (.t 15) none)),(aj 17 (.bin .geq (.t 16) (.c (b8 65)))),(au 18 17),(ax 19 (.mv (.t 3)) 18 true),(ax 20 (.mv (.t 4)) 18 true),(ax 21 (.uG 1 (.t 19) (.t 20)) 18 true),(ax 22 (.ld (.t 21) none) 18 true),(ax 23 (.bin .leq (.t 22) (.c (b8 90))) 18 true),(aj 24 (.pick (.t 18) (.t 23) (.c (.bool false))))])
abbrev oD:av:=(.seq (.seq (.rg [(au 7 4),(au 8 3),(aj 9 (.len (.t 8))),(aj 10 (.bin .lss (.t 7) (.t 9)))]) (.cond (.t 10) .skip (.exit 0))) (.seq (.blk 1 (.seq (.sem (erase qt)) (.cond (.t 24) (.rg [(au 25 3),(au 26 4),(au 27 3),(au 28 4),(aj 29 (.uG 1 (.t 27) (.t 28))),(aj 30 (.ld (.t 29) none)),(aj 31 (.bin .add (.t 30) (.c (b8 32)))),(aj 32 (.uG 1 (.t 25) (.t 26))),(cS (.st (.t 32) (.t 31) 1))]) .skip))) (.rg [(au 11 4),(aj 12 (.bin .add (.t 11) (.c (.int .i64 1)))),(aQ 4 12)])))
abbrev Dd:av:=(.seq (.rg [(aj 2 (.aO (.c (.str []))))]) (.seq (.rg [(au 5 0),(aj 6 (.qf (.t 5))),(aQ 3 6)]) (.seq (.seq (.rg [(aj 4 (.aO (.c (.int .i64 0))))]) (.blk 0 (.loop (erase oD)))) (.seq (.rg [(au 33 3),(aj 34 (.jH .bs (.t 33))),(aQ 2 34)]) .ret))))
theorem De:bM Tryz.prog 27 35 [(.tmp 2)] (erase Dd):=⟨Tryz.f27,_,rfl,by decide,rfl,by kernel_rfl,rfl,rfl⟩
abbrev oE:List Nat:=[0,2,3,4,10,24]
def lP (s1:List UInt8) (i3:Int) (s4:List UInt8):Option (Bool):=
 (Aj s1.length i3).bind fun j6=>
 (s4[j6]?).bind fun x7=>
 (if (decide (65≤x7)) then
  some (decide (x7≤90))
 else
  some false)
def lQ (s1:List UInt8):(Int×(List UInt8))→Option (St (List UInt8) (List UInt8) (Int×(List UInt8)))
 |(i3,s4)=>
  (if (decide (i3<(s1.length:Int))) then
   (lP s1 i3 s4).bind fun t9=>
   (if t9 then
    (Aj s1.length i3).bind fun Zw=>
    (s4[Zw]?).bind fun fD=>
    (E8 s4 Zw (fD+32)).bind fun aY=>some (.cU ((IntKind.wrap .i64 (i3+1)),aY))
   else
    some (.cU ((IntKind.wrap .i64 (i3+1)),s4)))
  else
   some (.dW s4))
def nJ (F:Nat) (s1:List UInt8):Option ((List UInt8)):=
 ((iter (lQ s1) F (0,s1)).bind fun Jg=>
 match Jg with
 | .inr fE=>
   (sub fE 0 (s1.length:Int)).bind fun kz=>some kz
 | .inl _=>none)
theorem xH {s1:List UInt8} {i3:Int} {s4:List UInt8} {q5:Nat} {H0 H:AH} (hfr:Fr H0 H0.length [] H) (ai:H[q5]? =some (ml b8 s4)) (dP:H0.length≤q5) {K:Exit→Env→AH→Prop} {t8:Bool}
 (h:lP s1 i3 s4=some t8)
 (kn:∀H':AH,Fr H0 H0.length [] H'→H'[q5]? =some (ml b8 s4)→K .normal [(3,(.cv q5 1 0 s1.length)),(4,(.int .i64 i3)),(24,(.bool t8))] H'):
 AX Tryz.prog oE 35 H0.length (erase qt) K [(3,(.cv q5 1 0 s1.length)),(4,(.int .i64 i3))] H:=by
 refine bT fun K' hK=> ?_
 have hle:=hfr.le
 have aM:=aR ai
 rw [lP.eq_1] at h
 obtain ⟨j6,hy2,h⟩:=aq h
 obtain ⟨x7,hy3,h⟩:=aq h
 refine az (aI hy2 (aI hy3 ai)) ?_
 refine bR h (fun hy4 h=> ?_) fun hy4 h=> ?_
 · refine az (aI hy4 (aI hy2 (aI hy3 ai))) ?_
   obtain rfl:=aA h
   exact hK _ _ _ _ _ aJ ak (kn _ hfr (ai.trans rfl))
 · refine az (aI hy4 ai) ?_
   obtain rfl:=aA h
   exact hK _ _ _ _ _ aJ ak (kn _ hfr (ai.trans rfl))
theorem xI {F:Nat} {i3:Int} {s1:List UInt8} {s4:List UInt8} {q2:Nat} {H0 H:AH} (hfr:Fr H0 H0.length [] H) (ai:H[q2]? =some (ml b8 s4)) (dP:H0.length≤q2) {K:Exit→Env→AH→Prop} {o:((List UInt8))⊕((List UInt8))}
 (h:iter (lQ s1) F (i3,s4)=some o)
 (c8:∀o':(List UInt8),o= .inr o'→∀H':AH,Fr H0 H0.length [] H'→H'[q2]? =some (ml b8 o')→K (.exit 0) [(3,(.cv q2 1 0 s1.length))] H'):
 AX Tryz.prog oE 35 H0.length (.loop (erase oD)) K [(3,(.cv q2 1 0 s1.length)),(4,(.int .i64 i3))] H:=by
 refine gH (fun s e H1=>match s with|(i3,s4)=>e=[(3,(.cv q2 1 0 s1.length)),(4,(.int .i64 i3))]∧Fr H0 H0.length [] H1∧H1[q2]? =some (ml b8 s4)) h ⟨rfl,hfr,ai⟩ ?_
 rintro K' ⟨i3,s4⟩ st e H ⟨rfl,hfr,ai⟩ h hN hB hR hX
 have hle:=hfr.le
 have aM:=aR ai
 rw [lQ.eq_1] at h
 refine az ai ?_
 refine bl h (fun hy1 h=> ?_) fun hy1 h=> ?_
 · refine az ai ?_
   obtain ⟨t9,bK,h⟩:=aq h
   refine bz ak (xH (q5:=q2) hfr (ai.trans rfl) cq bK ?_)
   intro H hfr ai
   have hle:=hfr.le
   have aM:=aR ai
   refine az ai ?_
   refine bl h (fun bY h=> ?_) fun bY h=> ?_
   · obtain ⟨Zw,cD,h⟩:=aq h
     obtain ⟨fD,ct,h⟩:=aq h
     obtain ⟨aY,cQ,h⟩:=aq h
     refine az (aI cD (aI ct (aI cD (aI cQ ai)))) ?_
     obtain rfl:=aA h
     exact hN _ rfl _ _ _ _ aJ ak ⟨rfl,(bW _ hfr),cA⟩
   · refine az ai ?_
     obtain rfl:=aA h
     exact hN _ rfl _ _ _ _ aJ ak ⟨rfl,hfr,(ai.trans rfl)⟩
 · refine az ai ?_
   obtain rfl:=aA h
   exact hX _ _ _ _ _ c6 aJ ak (c8 _ (hB _ rfl) _ hfr (ai.trans rfl))
theorem uA {F:Nat} {s1:List UInt8} {H0:AH} {aP:List UInt8} (h:nJ F s1=some aP):
 aF Tryz.prog 27 [(.str s1)] H0 fun v H'=>v=(.str aP)∧H'=H0:=by
 refine lH De oE [] fun hcl K0 aN H hH hfr=> ?_
 clear hH
 have hle:=hfr.le
 rw [nJ.eq_1] at h
 refine cN ?_
 obtain ⟨q2,ju⟩:∃q:Nat,H.length=q:=⟨_,rfl⟩
 try rw [ju]
 obtain ⟨Jg,cc,h⟩:=aq h
 refine bz ak (xI (q2:=q2) (Fr.app hfr) uH cq cc ?_)
 · rintro fE rfl H hfr ai
   try dsimp only at h ai
   have hle:=hfr.le
   have aM:=aR ai
   refine cN ?_
   obtain ⟨kz,cy,h⟩:=aq h
   refine az (aI cy ai) ?_
   obtain rfl:=aA h
   exact aN _ _ _ bk (aT hfr hcl (aW bf (.str kz)) bg aX ⟨rfl,rfl⟩)
abbrev qu:av:=(.seq (.seq (.rg [(au 6 4),(au 7 3),(aj 8 (.len (.t 7))),(aj 9 (.bin .lss (.t 6) (.t 8)))]) (.cond (.t 9) .skip (.exit 0))) (.seq (.blk 1 (.seq (.rg [(au 12 3),(au 13 4),(aj 14 (.uG 1 (.t 12) (.t 13))),(aj 15 (.ld (.t 14) none)),(au 16 0),(aj 17 (.bin .eql (.t 15) (.t 16)))]) (.cond (.t 17) (.seq (.rg [(au 18 4),(aQ 2 18)]) .ret) .skip))) (.rg [(au 10 4),(aj 11 (.bin .add (.t 10) (.c (.int .i64 1)))),(aQ 4 11)])))
abbrev ED:av:=(.seq (.rg [(aj 2 (.aO (.c (.int .i64 0))))]) (.seq (.rg [(aj 5 (.rX 1 [(.c (.str [])),(.c (.str [104,101,108,111])),(.c (.str [101,104,108,111])),(.c (.str [109,97,105,108])),(.c (.str [114,99,112,116])),(.c (.str [100,97,116,97])),(.c (.str [114,115,101,116])),(.c (.str [110,111,111,112])),(.c (.str [113,117,105,116])),(.c (.str [118,114,102,121]))])),(aQ 3 5)]) (.seq (.seq (.rg [(aj 4 (.aO (.c (.int .i64 1))))]) (.blk 0 (.loop (erase qu)))) (.seq (.rg [(aj 2 (.aO (.c (.int .i64 0))))]) .ret))))
theorem EE:bM Tryz.prog 26 19 [(.tmp 2)] (erase ED):=⟨Tryz.f26,_,rfl,by decide,rfl,by kernel_rfl,rfl,rfl⟩
abbrev xh:List Nat:=[0,2,3,4,9,17]
def oF (w1:List UInt8):(Int×Int)→Option (St Int Unit (Int×Int))
 |(t2,i3)=>
  (if (decide (i3<((10:Nat):Int))) then
   (idx ([([]:List UInt8),([104,101,108,111]:List UInt8),([101,104,108,111]:List UInt8),([109,97,105,108]:List UInt8),([114,99,112,116]:List UInt8),([100,97,116,97]:List UInt8),([114,115,101,116]:List UInt8),([110,111,111,112]:List UInt8),([113,117,105,116]:List UInt8),([118,114,102,121]:List UInt8)]:List (List UInt8)) i3).bind fun x4=>
   (if (decide (x4=w1)) then
    some (.ret i3)
   else
    some (.cU (t2,(IntKind.wrap .i64 (i3+1)))))
  else
   some (.dW ()))
def vR (F:Nat) (w1:List UInt8):Option (Int):=
 ((iter (oF w1) F (0,1)).bind fun o7=>
 match o7 with
 | .inr ()=>
   some 0
 | .inl r6=>
   some r6)
theorem zz {F:Nat} {i3:Int} {w1:List UInt8} {t2:Int} {H:AH} {K:Exit→Env→AH→Prop} {o:(Int)⊕(Unit)}
 (h:iter (oF w1) F (t2,i3)=some o)
 (c8:∀o':Unit,o= .inr o'→K (.exit 0) [] H)
 (kr:∀o':Int,o= .inl o'→K .ret [(2,(.int .i64 o'))] H):
 AX Tryz.prog xh 19 H.length (.loop (erase qu)) K [(0,(.str w1)),(2,(.int .i64 t2)),(3,(.sl .ex 1 [(.str ([]:List UInt8)),(.str ([104,101,108,111]:List UInt8)),(.str ([101,104,108,111]:List UInt8)),(.str ([109,97,105,108]:List UInt8)),(.str ([114,99,112,116]:List UInt8)),(.str ([100,97,116,97]:List UInt8)),(.str ([114,115,101,116]:List UInt8)),(.str ([110,111,111,112]:List UInt8)),(.str ([113,117,105,116]:List UInt8)),(.str ([118,114,102,121]:List UInt8))])),(4,(.int .i64 i3))] H:=by
 refine gH (fun s e H1=>match s with|(t2,i3)=>e=[(0,(.str w1)),(2,(.int .i64 t2)),(3,(.sl .ex 1 [(.str ([]:List UInt8)),(.str ([104,101,108,111]:List UInt8)),(.str ([101,104,108,111]:List UInt8)),(.str ([109,97,105,108]:List UInt8)),(.str ([114,99,112,116]:List UInt8)),(.str ([100,97,116,97]:List UInt8)),(.str ([114,115,101,116]:List UInt8)),(.str ([110,111,111,112]:List UInt8)),(.str ([113,117,105,116]:List UInt8)),(.str ([118,114,102,121]:List UInt8))])),(4,(.int .i64 i3))]∧H1=H) h ⟨rfl,rfl⟩ ?_
 rintro K' ⟨t2,i3⟩ st e H ⟨rfl,rfl⟩ h hN hB hR hX
 rw [oF.eq_1] at h
 refine aC ?_
 refine bl h (fun hy1 h=> ?_) fun hy1 h=> ?_
 · obtain ⟨x4,hy2,h⟩:=aq h
   have hy3:idx [(.str ([]:List UInt8)),(.str ([104,101,108,111]:List UInt8)),(.str ([101,104,108,111]:List UInt8)),(.str ([109,97,105,108]:List UInt8)),(.str ([114,99,112,116]:List UInt8)),(.str ([100,97,116,97]:List UInt8)),(.str ([114,115,101,116]:List UInt8)),(.str ([110,111,111,112]:List UInt8)),(.str ([113,117,105,116]:List UInt8)),(.str ([118,114,102,121]:List UInt8))] i3=some (AV.str x4):=L4 (f:=AV.str) hy2
   refine aV hy3 ?_
   refine bl h (fun hy4 h=> ?_) fun hy4 h=> ?_
   · refine aC ?_
     obtain rfl:=aA h
     exact hX _ _ _ _ _ c6 aJ ak (kr _ (hR _ rfl))
   · refine aC ?_
     obtain rfl:=aA h
     exact hN _ rfl _ _ _ _ aJ ak ⟨rfl,rfl⟩
 · refine aC ?_
   obtain rfl:=aA h
   exact hX _ _ _ _ _ c6 WE.nil ak (c8 _ (hB _ rfl))
theorem Df {F:Nat} {w1:List UInt8} {H0:AH} {aP:Int} (h:vR F w1=some aP):
 aF Tryz.prog 26 [(.str w1)] H0 fun v H'=>v=(.int .i64 aP)∧H'=H0:=by
 refine fe EE xh fun hcl K0 aN=> ?_
 rw [vR.eq_1] at h
 refine aC ?_
 obtain ⟨o7,bK,h⟩:=aq h
 refine bz ak (zz bK ?_ ?_)
 · rintro ⟨⟩ rfl
   try dsimp only at h
   refine aC ?_
   obtain rfl:=aA h
   exact aN _ _ _ bk (aK hcl (aW bf (.int .i64 0)) bg aX ⟨rfl,rfl⟩)
 · rintro r6 rfl
   try dsimp only at h
   refine aC ?_
   obtain rfl:=aA h
   exact aN _ _ _ bk (aK hcl (aW bf (.int .i64 r6)) bg aX ⟨rfl,rfl⟩)
abbrev qv:av:=(.rg [(au 3 0),(aj 4 (.bin .geq (.t 3) (.c (b8 48)))),(au 5 4),(ax 6 (.mv (.t 0)) 5 true),(ax 7 (.bin .leq (.t 6) (.c (b8 57))) 5 true),(aj 8 (.pick (.t 5) (.t 7) (.c (.bool false)))),(aQ 2 8)])
abbrev Dg:av:=(.seq (.rg [(aj 2 (.aO (.c (.bool false))))]) (.seq (.sem (erase qv)) .ret))
theorem Dh:bM Tryz.prog 74 9 [(.tmp 2)] (erase Dg):=⟨Tryz.f74,_,rfl,by decide,rfl,by kernel_rfl,rfl,rfl⟩
abbrev vS:List Nat:=[0,2]
def eK (c1:UInt8):Option (Bool):=
 some ((decide (48≤c1))&&(decide (c1≤57)))
theorem xJ {c1:UInt8} {H:AH} {K:Exit→Env→AH→Prop}
 (kn:K .normal [(2,(.bool ((decide (48≤c1))&&(decide (c1≤57)))))] H):
 AX Tryz.prog vS 9 H.length (erase qv) K [(0,(b8 c1)),(2,(.bool false))] H:=by
 refine bT fun K' hK=> ?_
 refine aC ?_
 refine kK (fun hy1=> ?_) fun hy1=> ?_
 · refine aV hy1 ?_
   exact hK _ _ _ _ _ (eG hy1) ak kn
 · refine aV hy1 ?_
   exact hK _ _ _ _ _ (eG hy1) ak kn
theorem gx {c1:UInt8} {H0:AH} {aP:Bool} (h:eK c1=some aP):
 aF Tryz.prog 74 [(b8 c1)] H0 fun v H'=>v=(.bool aP)∧H'=H0:=by
 refine fe Dh vS fun hcl K0 aN=> ?_
 rw [eK.eq_1] at h
 refine aC ?_
 refine bz ak (xJ (c1:=c1) ?_)
 refine aC ?_
 obtain rfl:=aA h
 exact aN _ _ _ bk (aK hcl (aW bf (.bool ((decide (48≤c1))&&(decide (c1≤57))))) bg aX ⟨rfl,rfl⟩)
abbrev qw:av:=(.rg [(au 5 0),(aj 6 (.bin .eql (.t 5) (.c (.str [])))),(au 7 6),(ax 8 (.mv (.t 0)) 7 false),(ax 9 (.lens (.t 8)) 7 false),(ax 10 (.bin .gtr (.t 9) (.c (.int .i64 3))) 7 false),(aj 11 (.pick (.t 7) (.c (.bool true)) (.t 10))),(au 12 11),(ax 13 (.mv (.t 0)) 12 false),(ax 14 (.ixs (.t 13) (.c (.int .i64 0))) 12 false),(ax 15 (.bin .eql (.t 14) (.c (b8 48))) 12 false),(ax 16 (.mv (.t 15)) 12 false),(ax 17 (.mv (.t 0)) 16 true),(ax 18 (.lens (.t 17)) 16 true),(ax 19 (.bin .gtr (.t 18) (.c (.int .i64 1))) 16 true),(ax 20 (.pick (.t 16) (.t 19) (.c (.bool false))) 12 false),(aj 21 (.pick (.t 12) (.c (.bool true)) (.t 20)))])
abbrev oG:av:=(.seq (.seq (.rg [(au 22 4),(au 23 0),(aj 24 (.lens (.t 23))),(aj 25 (.bin .lss (.t 22) (.t 24)))]) (.cond (.t 25) .skip (.exit 0))) (.seq (.blk 1 (.seq (.seq (.rg [(au 28 0),(au 29 4),(aj 30 (.ixs (.t 28) (.t 29))),(aj 31 (.call (.c (.fn 74 [])) [(.t 30)])),(aj 32 (.un .not (.t 31)))]) (.cond (.t 32) (.seq (.rg [(aj 2 (.aO (.c (.bool false))))]) .ret) .skip)) (.rg [(au 33 3),(aj 34 (.bin .mul (.c (.int .i64 10)) (.t 33))),(au 35 0),(au 36 4),(aj 37 (.ixs (.t 35) (.t 36))),(aj 38 (.bin .sub (.t 37) (.c (b8 48)))),(aj 39 (.jH (.int .i64) (.t 38))),(aj 40 (.bin .add (.t 34) (.t 39))),(aQ 3 40)]))) (.rg [(au 26 4),(aj 27 (.bin .add (.t 26) (.c (.int .i64 1)))),(aQ 4 27)])))
abbrev Di:av:=(.seq (.rg [(aj 2 (.aO (.c (.bool false))))]) (.seq (.seq (.sem (erase qw)) (.cond (.t 21) (.seq (.rg [(aj 2 (.aO (.c (.bool false))))]) .ret) .skip)) (.seq (.rg [(aj 3 (.aO (.c (.int .i64 0))))]) (.seq (.seq (.rg [(aj 4 (.aO (.c (.int .i64 0))))]) (.blk 0 (.loop (erase oG)))) (.seq (.rg [(au 41 3),(aj 42 (.bin .leq (.t 41) (.c (.int .i64 255)))),(aQ 2 42)]) .ret)))))
theorem Dj:bM Tryz.prog 48 43 [(.tmp 2)] (erase Di):=⟨Tryz.f48,_,rfl,by decide,rfl,by kernel_rfl,rfl,rfl⟩
abbrev oH:List Nat:=[0,2,3,4,21,25,32]
def eB (s1:List UInt8):Option (Bool):=
 (if (decide (s1=([]:List UInt8))) then
  some true
 else
  (if (decide (3<(s1.length:Int))) then
   some true
  else
   (idx s1 0).bind fun x2=>
   (if (decide (x2=48)) then
    some (decide (1<(s1.length:Int)))
   else
    some false)))
def fj (s1:List UInt8):(Int×Int)→Option (St Bool Int (Int×Int))
 |(Jr,i6)=>
  (if (decide (i6<(s1.length:Int))) then
   (idx s1 i6).bind fun x7=>
   (eK x7).bind fun r8=>
   (if (!r8) then
    some (.ret false)
   else
    some (.cU ((IntKind.wrap .i64 ((IntKind.wrap .i64 (10*Jr))+(IntKind.wrap .i64 ((x7 - 48).toNat:Int)))),(IntKind.wrap .i64 (i6+1)))))
  else
   some (.dW Jr))
def eu (F:Nat) (s1:List UInt8):Option (Bool):=
 (eB s1).bind fun t4=>
 (if t4 then
  some false
 else
  ((iter (fj s1) F (0,0)).bind fun Tw=>
  match Tw with
  | .inr sH=>
    some (decide (sH≤255))
  | .inl gI=>
    some gI))
theorem xK {s1:List UInt8} {H:AH} {K:Exit→Env→AH→Prop} {t3:Bool}
 (h:eB s1=some t3)
 (kn:K .normal [(0,(.str s1)),(21,(.bool t3))] H):
 AX Tryz.prog oH 43 H.length (erase qw) K [(0,(.str s1))] H:=by
 refine bT fun K' hK=> ?_
 rw [eB.eq_1] at h
 refine aC ?_
 refine bR h (fun hy1 h=> ?_) fun hy1 h=> ?_
 · refine aV hy1 ?_
   obtain rfl:=aA h
   exact hK _ _ _ _ _ aJ ak kn
 · refine aV hy1 ?_
   refine bR h (fun hy2 h=> ?_) fun hy2 h=> ?_
   · refine aV hy2 ?_
     obtain rfl:=aA h
     exact hK _ _ _ _ _ aJ ak kn
   · obtain ⟨x2,hy3,h⟩:=aq h
     refine aV (aI hy2 hy3) ?_
     refine bR h (fun hy4 h=> ?_) fun hy4 h=> ?_
     · refine aV hy4 ?_
       obtain rfl:=aA h
       exact hK _ _ _ _ _ aJ ak kn
     · refine aV hy4 ?_
       obtain rfl:=aA h
       exact hK _ _ _ _ _ aJ ak kn
theorem xL {F:Nat} {i6:Int} {s1:List UInt8} {Jr:Int} {H:AH} {K:Exit→Env→AH→Prop} {o:(Bool)⊕(Int)}
 (h:iter (fj s1) F (Jr,i6)=some o)
 (c8:∀o':Int,o= .inr o'→K (.exit 0) [(3,(.int .i64 o'))] H)
 (kr:∀o':Bool,o= .inl o'→K .ret [(2,(.bool o'))] H):
 AX Tryz.prog oH 43 H.length (.loop (erase oG)) K [(0,(.str s1)),(3,(.int .i64 Jr)),(4,(.int .i64 i6))] H:=by
 refine gH (fun s e H1=>match s with|(Jr,i6)=>e=[(0,(.str s1)),(3,(.int .i64 Jr)),(4,(.int .i64 i6))]∧H1=H) h ⟨rfl,rfl⟩ ?_
 rintro K' ⟨Jr,i6⟩ st e H ⟨rfl,rfl⟩ h hN hB hR hX
 rw [fj.eq_1] at h
 refine aC ?_
 refine bl h (fun cD h=> ?_) fun cD h=> ?_
 · obtain ⟨x7,ct,h⟩:=aq h
   refine aV ct ?_
   obtain ⟨r8,cQ,h⟩:=aq h
   refine bB ak (gx cQ) ?_
   refine aC ?_
   refine bl h (fun cc h=> ?_) fun cc h=> ?_
   · refine aC ?_
     obtain rfl:=aA h
     exact hX _ _ _ _ _ c6 aJ ak (kr _ (hR _ rfl))
   · refine aV ct ?_
     obtain rfl:=aA h
     exact hN _ rfl _ _ _ _ aJ ak ⟨rfl,rfl⟩
 · refine aC ?_
   obtain rfl:=aA h
   exact hX _ _ _ _ _ c6 aJ ak (c8 _ (hB _ rfl))
theorem BQ {F:Nat} {s1:List UInt8} {H0:AH} {aP:Bool} (h:eu F s1=some aP):
 aF Tryz.prog 48 [(.str s1)] H0 fun v H'=>v=(.bool aP)∧H'=H0:=by
 refine fe Dj oH fun hcl K0 aN=> ?_
 rw [eu.eq_1] at h
 refine aC ?_
 obtain ⟨t4,bK,h⟩:=aq h
 refine bz ak (xK bK ?_)
 refine aC ?_
 refine bl h (fun bY h=> ?_) fun bY h=> ?_
 · refine aC ?_
   obtain rfl:=aA h
   exact aN _ _ _ bk (aK hcl (aW bf (.bool false)) bg aX ⟨rfl,rfl⟩)
 · refine aC ?_
   obtain ⟨Tw,cy,h⟩:=aq h
   refine bz ak (xL cy ?_ ?_)
   · rintro sH rfl
     try dsimp only at h
     refine aC ?_
     obtain rfl:=aA h
     exact aN _ _ _ bk (aK hcl (aW bf (.bool (decide (sH≤255)))) bg aX ⟨rfl,rfl⟩)
   · rintro gI rfl
     try dsimp only at h
     refine aC ?_
     obtain rfl:=aA h
     exact aN _ _ _ bk (aK hcl (aW bf (.bool gI)) bg aX ⟨rfl,rfl⟩)
abbrev oI:av:=(.rg [(au 3 0),(aj 4 (.bin .geq (.t 3) (.c (b8 65)))),(au 5 4),(ax 6 (.mv (.t 0)) 5 true),(ax 7 (.bin .leq (.t 6) (.c (b8 90))) 5 true),(aj 8 (.pick (.t 5) (.t 7) (.c (.bool false)))),(au 9 8),(ax 10 (.mv (.t 0)) 9 false),(ax 11 (.bin .geq (.t 10) (.c (b8 97))) 9 false),(ax 12 (.mv (.t 11)) 9 false),(ax 13 (.mv (.t 0)) 12 true),(ax 14 (.bin .leq (.t 13) (.c (b8 122))) 12 true),(ax 15 (.pick (.t 12) (.t 14) (.c (.bool false))) 9 false),(aj 16 (.pick (.t 9) (.c (.bool true)) (.t 15))),(aQ 2 16)])
abbrev BR:av:=(.seq (.rg [(aj 2 (.aO (.c (.bool false))))]) (.seq (.sem (erase oI)) .ret))
theorem BS:bM Tryz.prog 75 17 [(.tmp 2)] (erase BR):=⟨Tryz.f75,_,rfl,by decide,rfl,by kernel_rfl,rfl,rfl⟩
abbrev uB:List Nat:=[0,2]
def eR (c1:UInt8):Option (Bool):=
 some (((decide (65≤c1))&&(decide (c1≤90)))||((decide (97≤c1))&&(decide (c1≤122))))
theorem wP {c1:UInt8} {H:AH} {K:Exit→Env→AH→Prop}
 (kn:K .normal [(2,(.bool (((decide (65≤c1))&&(decide (c1≤90)))||((decide (97≤c1))&&(decide (c1≤122))))))] H):
 AX Tryz.prog uB 17 H.length (erase oI) K [(0,(b8 c1)),(2,(.bool false))] H:=by
 refine bT fun K' hK=> ?_
 refine aC ?_
 refine kK (fun hy1=> ?_) fun hy1=> ?_
 · refine aV hy1 ?_
   refine kK (fun hy2=> ?_) fun hy2=> ?_
   · refine aV hy2 ?_
     exact hK _ _ _ _ _ (eG (aI hy1 hy2)) ak kn
   · refine aV hy2 ?_
     refine kK (fun hy3=> ?_) fun hy3=> ?_
     · refine aV hy3 ?_
       exact hK _ _ _ _ _ (eG (aI hy1 (aI hy2 hy3))) ak kn
     · refine aV hy3 ?_
       exact hK _ _ _ _ _ (eG (aI hy1 (aI hy2 hy3))) ak kn
 · refine aV hy1 ?_
   refine kK (fun hy4=> ?_) fun hy4=> ?_
   · refine aV hy4 ?_
     exact hK _ _ _ _ _ (eG (aI hy1 hy4)) ak kn
   · refine aV hy4 ?_
     exact hK _ _ _ _ _ (eG (aI hy1 hy4)) ak kn
theorem iG {c1:UInt8} {H0:AH} {aP:Bool} (h:eR c1=some aP):
 aF Tryz.prog 75 [(b8 c1)] H0 fun v H'=>v=(.bool aP)∧H'=H0:=by
 refine fe BS uB fun hcl K0 aN=> ?_
 rw [eR.eq_1] at h
 refine aC ?_
 refine bz ak (wP (c1:=c1) ?_)
 refine aC ?_
 obtain rfl:=aA h
 exact aN _ _ _ bk (aK hcl (aW bf (.bool (((decide (65≤c1))&&(decide (c1≤90)))||((decide (97≤c1))&&(decide (c1≤122)))))) bg aX ⟨rfl,rfl⟩)
abbrev qx:av:=(.rg [(au 4 0),(aj 5 (.bin .eql (.t 4) (.c (.str [])))),(au 6 5),(ax 7 (.mv (.t 0)) 6 false),(ax 8 (.lens (.t 7)) 6 false),(ax 9 (.bin .gtr (.t 8) (.c (.int .i64 63))) 6 false),(aj 10 (.pick (.t 6) (.c (.bool true)) (.t 9))),(au 11 10),(ax 12 (.mv (.t 0)) 11 false),(ax 13 (.ixs (.t 12) (.c (.int .i64 0))) 11 false),(ax 14 (.bin .eql (.t 13) (.c (b8 45))) 11 false),(aj 15 (.pick (.t 11) (.c (.bool true)) (.t 14))),(au 16 15),(ax 17 (.mv (.t 0)) 16 false),(ax 18 (.mv (.t 0)) 16 false),(ax 19 (.lens (.t 18)) 16 false),(ax 20 (.bin .sub (.t 19) (.c (.int .i64 1))) 16 false),(ax 21 (.ixs (.t 17) (.t 20)) 16 false),(ax 22 (.bin .eql (.t 21) (.c (b8 45))) 16 false),(aj 23 (.pick (.t 16) (.c (.bool true)) (.t 22)))])
abbrev qy:av:=(.rg [(au 30 0),(au 31 3),(aj 32 (.ixs (.t 30) (.t 31))),(aj 33 (.call (.c (.fn 75 [])) [(.t 32)])),(aj 34 (.un .not (.t 33))),(au 35 34),(ax 36 (.mv (.t 0)) 35 true),(ax 37 (.mv (.t 3)) 35 true),(ax 38 (.ixs (.t 36) (.t 37)) 35 true),(ax 39 (.call (.c (.fn 74 [])) [(.t 38)]) 35 true),(ax 40 (.un .not (.t 39)) 35 true),(aj 41 (.pick (.t 35) (.t 40) (.c (.bool false)))),(au 42 41),(ax 43 (.mv (.t 0)) 42 true),(ax 44 (.mv (.t 3)) 42 true),(ax 45 (.ixs (.t 43) (.t 44)) 42 true),(ax 46 (.bin .neq (.t 45) (.c (b8 45))) 42 true),(aj 47 (.pick (.t 42) (.t 46) (.c (.bool false))))])
abbrev oJ:av:=(.seq (.seq (.rg [(au 24 3),(au 25 0),(aj 26 (.lens (.t 25))),(aj 27 (.bin .lss (.t 24) (.t 26)))]) (.cond (.t 27) .skip (.exit 0))) (.seq (.blk 1 (.seq (.sem (erase qy)) (.cond (.t 47) (.seq (.rg [(aj 2 (.aO (.c (.bool false))))]) .ret) .skip))) (.rg [(au 28 3),(aj 29 (.bin .add (.t 28) (.c (.int .i64 1)))),(aQ 3 29)])))
abbrev Dk:av:=(.seq (.rg [(aj 2 (.aO (.c (.bool false))))]) (.seq (.seq (.sem (erase qx)) (.cond (.t 23) (.seq (.rg [(aj 2 (.aO (.c (.bool false))))]) .ret) .skip)) (.seq (.seq (.rg [(aj 3 (.aO (.c (.int .i64 0))))]) (.blk 0 (.loop (erase oJ)))) (.seq (.rg [(aj 2 (.aO (.c (.bool true))))]) .ret))))
theorem Dl:bM Tryz.prog 49 48 [(.tmp 2)] (erase Dk):=⟨Tryz.f49,_,rfl,by decide,rfl,by kernel_rfl,rfl,rfl⟩
abbrev jX:List Nat:=[0,2,3,23,27,47]
def jo (s1:List UInt8):Option (Bool):=
 (if (decide (s1=([]:List UInt8))) then
  some true
 else
  (if (decide (63<(s1.length:Int))) then
   some true
  else
   (idx s1 0).bind fun x2=>
   (if (decide (x2=45)) then
    some true
   else
    (idx s1 (IntKind.wrap .i64 ((s1.length:Int) - 1))).bind fun x3=>some (decide (x3=45)))))
def gy (s1:List UInt8) (i6:Int):Option (Bool):=
 (idx s1 i6).bind fun x7=>
 (eR x7).bind fun r8=>
 (if (!r8) then
  (eK x7).bind fun r9=>(if (!r9) then
   some (!decide (x7=45))
  else
   some false)
 else
  some false)
def eC (s1:List UInt8):Int→Option (St Bool Unit Int)
 |i6=>
  (if (decide (i6<(s1.length:Int))) then
   (gy s1 i6).bind fun t11=>
   (if t11 then
    some (.ret false)
   else
    some (.cU (IntKind.wrap .i64 (i6+1))))
  else
   some (.dW ()))
def jY (F:Nat) (s1:List UInt8):Option (Bool):=
 (jo s1).bind fun t5=>
 (if t5 then
  some false
 else
  ((iter (eC s1) F 0).bind fun o14=>
  match o14 with
  | .inr ()=>
    some true
  | .inl ku=>
    some ku))
theorem xM {s1:List UInt8} {H:AH} {K:Exit→Env→AH→Prop} {t4:Bool}
 (h:jo s1=some t4)
 (kn:K .normal [(0,(.str s1)),(23,(.bool t4))] H):
 AX Tryz.prog jX 48 H.length (erase qx) K [(0,(.str s1))] H:=by
 refine bT fun K' hK=> ?_
 rw [jo.eq_1] at h
 refine aC ?_
 refine bR h (fun hy1 h=> ?_) fun hy1 h=> ?_
 · refine aV hy1 ?_
   obtain rfl:=aA h
   exact hK _ _ _ _ _ aJ ak kn
 · refine aV hy1 ?_
   refine bR h (fun hy2 h=> ?_) fun hy2 h=> ?_
   · refine aV hy2 ?_
     obtain rfl:=aA h
     exact hK _ _ _ _ _ aJ ak kn
   · obtain ⟨x2,hy3,h⟩:=aq h
     refine aV (aI hy2 hy3) ?_
     refine bR h (fun hy4 h=> ?_) fun hy4 h=> ?_
     · refine aV hy4 ?_
       obtain rfl:=aA h
       exact hK _ _ _ _ _ aJ ak kn
     · obtain ⟨x3,bK,h⟩:=aq h
       refine aV (aI hy4 bK) ?_
       obtain rfl:=aA h
       exact hK _ _ _ _ _ aJ ak kn
theorem xN {s1:List UInt8} {i6:Int} {H:AH} {K:Exit→Env→AH→Prop} {t10:Bool}
 (h:gy s1 i6=some t10)
 (kn:K .normal [(0,(.str s1)),(3,(.int .i64 i6)),(47,(.bool t10))] H):
 AX Tryz.prog jX 48 H.length (erase qy) K [(0,(.str s1)),(3,(.int .i64 i6))] H:=by
 refine bT fun K' hK=> ?_
 rw [gy.eq_1] at h
 obtain ⟨x7,cQ,h⟩:=aq h
 refine aV cQ ?_
 obtain ⟨r8,cc,h⟩:=aq h
 refine bB ak (iG cc) ?_
 refine aC ?_
 refine bR h (fun cy h=> ?_) fun cy h=> ?_
 · refine aV (aI cy cQ) ?_
   obtain ⟨r9,cK,h⟩:=aq h
   refine bB ak (gx cK) ?_
   refine aC ?_
   refine bR h (fun cG h=> ?_) fun cG h=> ?_
   · refine aV (aI cG cQ) ?_
     obtain rfl:=aA h
     exact hK _ _ _ _ _ aJ ak kn
   · refine aV cG ?_
     obtain rfl:=aA h
     exact hK _ _ _ _ _ aJ ak kn
 · refine aV cy ?_
   obtain rfl:=aA h
   exact hK _ _ _ _ _ aJ ak kn
theorem xO {F:Nat} {i6:Int} {s1:List UInt8} {H:AH} {K:Exit→Env→AH→Prop} {o:(Bool)⊕(Unit)}
 (h:iter (eC s1) F i6=some o)
 (c8:∀o':Unit,o= .inr o'→K (.exit 0) [] H)
 (kr:∀o':Bool,o= .inl o'→K .ret [(2,(.bool o'))] H):
 AX Tryz.prog jX 48 H.length (.loop (erase oJ)) K [(0,(.str s1)),(3,(.int .i64 i6))] H:=by
 refine gH (fun s e H1=>match s with|i6=>e=[(0,(.str s1)),(3,(.int .i64 i6))]∧H1=H) h ⟨rfl,rfl⟩ ?_
 rintro K' i6 st e H ⟨rfl,rfl⟩ h hN hB hR hX
 rw [eC.eq_1] at h
 refine aC ?_
 refine bl h (fun ct h=> ?_) fun ct h=> ?_
 · refine aC ?_
   obtain ⟨t11,dX,h⟩:=aq h
   refine bz ak (xN dX ?_)
   refine aC ?_
   refine bl h (fun eW h=> ?_) fun eW h=> ?_
   · refine aC ?_
     obtain rfl:=aA h
     exact hX _ _ _ _ _ c6 aJ ak (kr _ (hR _ rfl))
   · refine aC ?_
     obtain rfl:=aA h
     exact hN _ rfl _ _ _ _ aJ ak ⟨rfl,rfl⟩
 · refine aC ?_
   obtain rfl:=aA h
   exact hX _ _ _ _ _ c6 WE.nil ak (c8 _ (hB _ rfl))
theorem BT {F:Nat} {s1:List UInt8} {H0:AH} {aP:Bool} (h:jY F s1=some aP):
 aF Tryz.prog 49 [(.str s1)] H0 fun v H'=>v=(.bool aP)∧H'=H0:=by
 refine fe Dl jX fun hcl K0 aN=> ?_
 rw [jY.eq_1] at h
 refine aC ?_
 obtain ⟨t5,bY,h⟩:=aq h
 refine bz ak (xM bY ?_)
 refine aC ?_
 refine bl h (fun cD h=> ?_) fun cD h=> ?_
 · refine aC ?_
   obtain rfl:=aA h
   exact aN _ _ _ bk (aK hcl (aW bf (.bool false)) bg aX ⟨rfl,rfl⟩)
 · refine aC ?_
   obtain ⟨o14,ek,h⟩:=aq h
   refine bz ak (xO ek ?_ ?_)
   · rintro ⟨⟩ rfl
     try dsimp only at h
     refine aC ?_
     obtain rfl:=aA h
     exact aN _ _ _ bk (aK hcl (aW bf (.bool true)) bg aX ⟨rfl,rfl⟩)
   · rintro ku rfl
     try dsimp only at h
     refine aC ?_
     obtain rfl:=aA h
     exact aN _ _ _ bk (aK hcl (aW bf (.bool ku)) bg aX ⟨rfl,rfl⟩)
abbrev oK:av:=(.rg [(au 7 0),(aj 8 (.bin .eql (.t 7) (.c (.str [])))),(au 9 8),(ax 10 (.mv (.t 0)) 9 false),(ax 11 (.lens (.t 10)) 9 false),(ax 12 (.bin .gtr (.t 11) (.c (.int .i64 255))) 9 false),(aj 13 (.pick (.t 9) (.c (.bool true)) (.t 12)))])
abbrev oL:av:=(.rg [(au 18 0),(au 19 0),(aj 20 (.lens (.t 19))),(aj 21 (.bin .sub (.t 20) (.c (.int .i64 1)))),(aj 22 (.ixs (.t 18) (.t 21))),(aj 23 (.bin .neq (.t 22) (.c (b8 93)))),(au 24 23),(ax 25 (.mv (.t 0)) 24 false),(ax 26 (.lens (.t 25)) 24 false),(ax 27 (.bin .lss (.t 26) (.c (.int .i64 2))) 24 false),(aj 28 (.pick (.t 24) (.c (.bool true)) (.t 27)))])
abbrev oM:av:=(.cond (.t 17) (.seq (.seq (.sem (erase oL)) (.cond (.t 28) (.seq (.rg [(aj 2 (.aO (.c (.bool false))))]) .ret) .skip)) (.rg [(au 29 0),(au 30 0),(aj 31 (.lens (.t 30))),(aj 32 (.bin .sub (.t 31) (.c (.int .i64 1)))),(aj 33 (.gj (.t 29) (some (.c (.int .i64 1))) (some (.t 32)))),(aQ 0 33)])) .skip)
abbrev oN:av:=(.rg [(au 40 6),(au 41 0),(aj 42 (.lens (.t 41))),(aj 43 (.bin .lss (.t 40) (.t 42))),(au 44 43),(ax 45 (.mv (.t 0)) 44 true),(ax 46 (.mv (.t 6)) 44 true),(ax 47 (.ixs (.t 45) (.t 46)) 44 true),(ax 48 (.bin .neq (.t 47) (.c (b8 46))) 44 true),(aj 49 (.pick (.t 44) (.t 48) (.c (.bool false))))])
abbrev oO:av:=(.rg [(au 50 3),(au 51 50),(ax 52 (.mv (.t 0)) 51 true),(ax 53 (.mv (.t 4)) 51 true),(ax 54 (.mv (.t 6)) 51 true),(ax 55 (.gj (.t 52) (some (.t 53)) (some (.t 54))) 51 true),(ax 56 (.call (.c (.fn 48 [])) [(.t 55)]) 51 true),(ax 57 (.un .not (.t 56)) 51 true),(aj 58 (.pick (.t 51) (.t 57) (.c (.bool false)))),(au 59 58),(ax 60 (.mv (.t 3)) 59 false),(ax 61 (.un .not (.t 60)) 59 false),(ax 62 (.mv (.t 61)) 59 false),(ax 63 (.mv (.t 0)) 62 true),(ax 64 (.mv (.t 4)) 62 true),(ax 65 (.mv (.t 6)) 62 true),(ax 66 (.gj (.t 63) (some (.t 64)) (some (.t 65))) 62 true),(ax 67 (.call (.c (.fn 49 [])) [(.t 66)]) 62 true),(ax 68 (.un .not (.t 67)) 62 true),(ax 69 (.pick (.t 62) (.t 68) (.c (.bool false))) 59 false),(aj 70 (.pick (.t 59) (.c (.bool true)) (.t 69)))])
abbrev mS:av:=(.seq (.seq (.rg [(au 34 6),(au 35 0),(aj 36 (.lens (.t 35))),(aj 37 (.bin .leq (.t 34) (.t 36)))]) (.cond (.t 37) .skip (.exit 0))) (.seq (.blk 1 (.seq (.seq (.sem (erase oN)) (.cond (.t 49) (.exit 1) .skip)) (.seq (.seq (.sem (erase oO)) (.cond (.t 70) (.seq (.rg [(aj 2 (.aO (.c (.bool false))))]) .ret) .skip)) (.seq (.rg [(au 71 5),(aj 72 (.bin .add (.t 71) (.c (.int .i64 1)))),(aQ 5 72)]) (.rg [(au 73 6),(aj 74 (.bin .add (.t 73) (.c (.int .i64 1)))),(aQ 4 74)]))))) (.rg [(au 38 6),(aj 39 (.bin .add (.t 38) (.c (.int .i64 1)))),(aQ 6 39)])))
abbrev oP:av:=(.rg [(au 75 3),(aj 76 (.un .not (.t 75))),(au 77 76),(ax 78 (.mv (.t 5)) 77 false),(ax 79 (.bin .eql (.t 78) (.c (.int .i64 4))) 77 false),(aj 80 (.pick (.t 77) (.c (.bool true)) (.t 79))),(aQ 2 80)])
abbrev BU:av:=(.seq (.rg [(aj 2 (.aO (.c (.bool false))))]) (.seq (.seq (.sem (erase oK)) (.cond (.t 13) (.seq (.rg [(aj 2 (.aO (.c (.bool false))))]) .ret) .skip)) (.seq (.rg [(au 14 0),(aj 15 (.ixs (.t 14) (.c (.int .i64 0)))),(aj 16 (.bin .eql (.t 15) (.c (b8 91)))),(aQ 3 16)]) (.seq (.seq (.rg [(au 17 3)]) (.sem (erase oM))) (.seq (.rg [(aj 4 (.aO (.c (.int .i64 0))))]) (.seq (.rg [(aj 5 (.aO (.c (.int .i64 0))))]) (.seq (.seq (.rg [(aj 6 (.aO (.c (.int .i64 0))))]) (.blk 0 (.loop (erase mS)))) (.seq (.sem (erase oP)) .ret))))))))
theorem BV:bM Tryz.prog 28 81 [(.tmp 2)] (erase BU):=⟨Tryz.f28,_,rfl,by decide,rfl,by kernel_rfl,rfl,rfl⟩
abbrev dO:List Nat:=[0,2,3,4,5,6,13,17,28,37,49,70]
def iH (s1:List UInt8):Option (Bool):=
 (idx s1 (IntKind.wrap .i64 ((s1.length:Int) - 1))).bind fun x3=>
 (if (!decide (x3=93)) then
  some true
 else
  some (decide ((s1.length:Int)<2)))
def fO (x2:UInt8) (s1:List UInt8):Option (St Bool Unit (List UInt8)):=
 (if (decide (x2=91)) then
  (iH s1).bind fun t5=>
  (if t5 then
   some (.ret false)
  else
   (sub s1 1 (IntKind.wrap .i64 ((s1.length:Int) - 1))).bind fun x6=>some (.cU x6))
 else
  some (.cU s1))
def ef (i12:Int) (s9:List UInt8):Option (Bool):=
 (if (decide (i12<(s9.length:Int))) then
  (idx s9 i12).bind fun gu=>some (!decide (gu=46))
 else
  some false)
def fP (F:Nat) (x2:UInt8) (s9:List UInt8) (jZ:Int) (i12:Int):Option (Bool):=
 (if (decide (x2=91)) then
  (sub s9 jZ i12).bind fun ng=>
  (eu F ng).bind fun AN=>(if (!AN) then
   some true
  else
   some false)
 else
  (sub s9 jZ i12).bind fun GV=>(jY F GV).bind fun wO=>some (!wO))
def cj (F:Nat) (s9:List UInt8) (x2:UInt8):(Int×Int×Int)→Option (St Bool Int (Int×Int×Int))
 |(jZ,dM,i12)=>
  (if (decide (i12≤(s9.length:Int))) then
   (ef i12 s9).bind fun t15=>
   (if t15 then
    some (.cU (jZ,dM,(IntKind.wrap .i64 (i12+1))))
   else
    (fP F x2 s9 jZ i12).bind fun t21=>
    (if t21 then
     some (.ret false)
    else
     some (.cU ((IntKind.wrap .i64 (i12+1)),(IntKind.wrap .i64 (dM+1)),(IntKind.wrap .i64 (i12+1))))))
  else
   some (.dW dM))
def eS (F:Nat) (s1:List UInt8):Option (Bool):=
 (if ((decide (s1=([]:List UInt8)))||(decide (255<(s1.length:Int)))) then
  some false
 else
  (idx s1 0).bind fun x2=>
  ((fO x2 s1).bind fun Tx=>
  match Tx with
  | .cU s9=>
    ((iter (cj F s9 x2) F (0,0,0)).bind fun Ty=>
    match Ty with
    | .inr lA=>
      some ((!(decide (x2=91)))||(decide (lA=4)))
    | .inl L7=>
      some L7)
  | .ret Zx=>
    some Zx
  | .dW _=>none))
theorem wQ {s1:List UInt8} {H:AH} {K:Exit→Env→AH→Prop}
 (kn:K .normal [(0,(.str s1)),(13,(.bool ((decide (s1=([]:List UInt8)))||(decide (255<(s1.length:Int))))))] H):
 AX Tryz.prog dO 81 H.length (erase oK) K [(0,(.str s1))] H:=by
 refine bT fun K' hK=> ?_
 refine aC ?_
 refine kK (fun hy1=> ?_) fun hy1=> ?_
 · refine aV hy1 ?_
   exact hK _ _ _ _ _ (eG hy1) ak kn
 · refine aV hy1 ?_
   exact hK _ _ _ _ _ (eG hy1) ak kn
theorem wR {s1:List UInt8} {x2:UInt8} {H:AH} {K:Exit→Env→AH→Prop} {t4:Bool}
 (h:iH s1=some t4)
 (kn:K .normal [(0,(.str s1)),(3,(.bool (decide (x2=91)))),(28,(.bool t4))] H):
 AX Tryz.prog dO 81 H.length (erase oL) K [(0,(.str s1)),(3,(.bool (decide (x2=91))))] H:=by
 refine bT fun K' hK=> ?_
 rw [iH.eq_1] at h
 obtain ⟨x3,bK,h⟩:=aq h
 refine aV bK ?_
 refine bR h (fun bY h=> ?_) fun bY h=> ?_
 · refine aV bY ?_
   obtain rfl:=aA h
   exact hK _ _ _ _ _ aJ ak kn
 · refine aV bY ?_
   obtain rfl:=aA h
   exact hK _ _ _ _ _ aJ ak kn
theorem wS {x2:UInt8} {s1:List UInt8} {H:AH} {K:Exit→Env→AH→Prop} {o:St Bool Unit (List UInt8)}
 (h:fO x2 s1=some o)
 (kn:∀o':(List UInt8),o= .cU o'→K .normal [(0,(.str o')),(3,(.bool (decide (x2=91))))] H)
 (kr:∀o':Bool,o= .ret o'→K .ret [(2,(.bool o'))] H):
 AX Tryz.prog dO 81 H.length (erase oM) K [(0,(.str s1)),(3,(.bool (decide (x2=91)))),(17,(.bool (decide (x2=91))))] H:=by
 refine bT fun K' hK=> ?_
 rw [fO.eq_1] at h
 refine aC ?_
 refine bl h (fun hy4 h=> ?_) fun hy4 h=> ?_
 · refine aC ?_
   obtain ⟨t5,cD,h⟩:=aq h
   refine bz ak (wR (x2:=x2) cD ?_)
   refine aC ?_
   refine bl h (fun ct h=> ?_) fun ct h=> ?_
   · refine aC ?_
     obtain rfl:=aA h
     exact hK _ _ _ _ _ aJ ak (kr _ rfl)
   · obtain ⟨x6,cQ,h⟩:=aq h
     refine aV cQ ?_
     obtain rfl:=aA h
     exact hK _ _ _ _ _ aJ ak (kn _ rfl)
 · refine aC ?_
   obtain rfl:=aA h
   exact hK _ _ _ _ _ aJ ak (kn _ rfl)
theorem wT {i12:Int} {s9:List UInt8} {x2:UInt8} {jZ:Int} {dM:Int} {H:AH} {K:Exit→Env→AH→Prop} {t14:Bool}
 (h:ef i12 s9=some t14)
 (kn:K .normal [(0,(.str s9)),(3,(.bool (decide (x2=91)))),(4,(.int .i64 jZ)),(5,(.int .i64 dM)),(6,(.int .i64 i12)),(49,(.bool t14))] H):
 AX Tryz.prog dO 81 H.length (erase oN) K [(0,(.str s9)),(3,(.bool (decide (x2=91)))),(4,(.int .i64 jZ)),(5,(.int .i64 dM)),(6,(.int .i64 i12))] H:=by
 refine bT fun K' hK=> ?_
 rw [ef.eq_1] at h
 refine aC ?_
 refine bR h (fun cK h=> ?_) fun cK h=> ?_
 · obtain ⟨gu,cG,h⟩:=aq h
   refine aV (aI cK cG) ?_
   obtain rfl:=aA h
   exact hK _ _ _ _ _ aJ ak kn
 · refine aV cK ?_
   obtain rfl:=aA h
   exact hK _ _ _ _ _ aJ ak kn
theorem wU {F:Nat} {x2:UInt8} {s9:List UInt8} {jZ:Int} {i12:Int} {dM:Int} {H:AH} {K:Exit→Env→AH→Prop} {t20:Bool}
 (h:fP F x2 s9 jZ i12=some t20)
 (kn:K .normal [(0,(.str s9)),(3,(.bool (decide (x2=91)))),(5,(.int .i64 dM)),(6,(.int .i64 i12)),(70,(.bool t20))] H):
 AX Tryz.prog dO 81 H.length (erase oO) K [(0,(.str s9)),(3,(.bool (decide (x2=91)))),(4,(.int .i64 jZ)),(5,(.int .i64 dM)),(6,(.int .i64 i12))] H:=by
 refine bT fun K' hK=> ?_
 rw [fP.eq_1] at h
 refine aC ?_
 refine bR h (fun ek h=> ?_) fun ek h=> ?_
 · obtain ⟨ng,ic,h⟩:=aq h
   refine aV (aI ek ic) ?_
   obtain ⟨AN,gv,h⟩:=aq h
   refine bB ak (BQ gv) ?_
   refine aC ?_
   refine bR h (fun fM h=> ?_) fun fM h=> ?_
   · refine aV fM ?_
     obtain rfl:=aA h
     exact hK _ _ _ _ _ (eG (aI ek fM)) ak kn
   · refine aV fM ?_
     obtain rfl:=aA h
     exact hK _ _ _ _ _ (eG (aI ek fM)) ak kn
 · obtain ⟨GV,fN,h⟩:=aq h
   refine aV (aI ek fN) ?_
   obtain ⟨wO,gw,h⟩:=aq h
   refine bB ak (BT gw) ?_
   refine aC ?_
   obtain rfl:=aA h
   exact hK _ _ _ _ _ (eG ek) ak kn
theorem wV {F:Nat} {i12:Int} {s9:List UInt8} {jZ:Int} {dM:Int} {x2:UInt8} {H:AH} {K:Exit→Env→AH→Prop} {o:(Bool)⊕(Int)}
 (h:iter (cj F s9 x2) F (jZ,dM,i12)=some o)
 (c8:∀o':Int,o= .inr o'→K (.exit 0) [(3,(.bool (decide (x2=91)))),(5,(.int .i64 o'))] H)
 (kr:∀o':Bool,o= .inl o'→K .ret [(2,(.bool o'))] H):
 AX Tryz.prog dO 81 H.length (.loop (erase mS)) K [(0,(.str s9)),(3,(.bool (decide (x2=91)))),(4,(.int .i64 jZ)),(5,(.int .i64 dM)),(6,(.int .i64 i12))] H:=by
 refine gH (fun s e H1=>match s with|(jZ,dM,i12)=>e=[(0,(.str s9)),(3,(.bool (decide (x2=91)))),(4,(.int .i64 jZ)),(5,(.int .i64 dM)),(6,(.int .i64 i12))]∧H1=H) h ⟨rfl,rfl⟩ ?_
 rintro K' ⟨jZ,dM,i12⟩ st e H ⟨rfl,rfl⟩ h hN hB hR hX
 rw [cj.eq_1] at h
 refine aC ?_
 refine bl h (fun cy h=> ?_) fun cy h=> ?_
 · refine aC ?_
   obtain ⟨t15,dX,h⟩:=aq h
   refine bz ak (wT (x2:=x2) (jZ:=jZ) (dM:=dM) dX ?_)
   refine aC ?_
   refine bl h (fun eW h=> ?_) fun eW h=> ?_
   · refine aC ?_
     obtain rfl:=aA h
     exact hN _ rfl _ _ _ _ aJ ak ⟨rfl,rfl⟩
   · refine aC ?_
     obtain ⟨t21,ie,h⟩:=aq h
     refine bz ak (wU (dM:=dM) ie ?_)
     refine aC ?_
     refine bl h (fun jg h=> ?_) fun jg h=> ?_
     · refine aC ?_
       obtain rfl:=aA h
       exact hX _ _ _ _ _ c6 aJ ak (kr _ (hR _ rfl))
     · refine aC ?_
       obtain rfl:=aA h
       exact hN _ rfl _ _ _ _ aJ ak ⟨rfl,rfl⟩
 · refine aC ?_
   obtain rfl:=aA h
   exact hX _ _ _ _ _ c6 aJ ak (c8 _ (hB _ rfl))
theorem wW {x2:UInt8} {lA:Int} {H:AH} {K:Exit→Env→AH→Prop}
 (kn:K .normal [(2,(.bool ((!(decide (x2=91)))||(decide (lA=4)))))] H):
 AX Tryz.prog dO 81 H.length (erase oP) K [(3,(.bool (decide (x2=91)))),(5,(.int .i64 lA))] H:=by
 refine bT fun K' hK=> ?_
 refine aC ?_
 refine kK (fun ig=> ?_) fun ig=> ?_
 · refine aV ig ?_
   exact hK _ _ _ _ _ (eG ig) ak kn
 · refine aV ig ?_
   exact hK _ _ _ _ _ (eG ig) ak kn
theorem kQ {F:Nat} {s1:List UInt8} {H0:AH} {aP:Bool} (h:eS F s1=some aP):
 aF Tryz.prog 28 [(.str s1)] H0 fun v H'=>v=(.bool aP)∧H'=H0:=by
 refine fe BV dO fun hcl K0 aN=> ?_
 rw [eS.eq_1] at h
 refine aC ?_
 refine bz ak (wQ (s1:=s1) ?_)
 refine aC ?_
 refine bl h (fun hy2 h=> ?_) fun hy2 h=> ?_
 · refine aC ?_
   obtain rfl:=aA h
   exact aN _ _ _ bk (aK hcl (aW bf (.bool false)) bg aX ⟨rfl,rfl⟩)
 · obtain ⟨x2,hy3,h⟩:=aq h
   refine aV hy3 ?_
   obtain ⟨Tx,cc,h⟩:=aq h
   refine bz ak (wS cc ?_ ?_)
   · rintro s9 rfl
     try dsimp only at h
     refine aC ?_
     obtain ⟨Ty,gO,h⟩:=aq h
     refine bz ak (wV gO ?_ ?_)
     · rintro lA rfl
       try dsimp only at h
       refine aC ?_
       refine bz ak (wW (x2:=x2) (lA:=lA) ?_)
       refine aC ?_
       obtain rfl:=aA h
       exact aN _ _ _ bk (aK hcl (aW bf (.bool ((!(decide (x2=91)))||(decide (lA=4))))) bg aX ⟨rfl,rfl⟩)
     · rintro L7 rfl
       try dsimp only at h
       refine aC ?_
       obtain rfl:=aA h
       exact aN _ _ _ bk (aK hcl (aW bf (.bool L7)) bg aX ⟨rfl,rfl⟩)
   · rintro Zx rfl
     try dsimp only at h
     refine aC ?_
     obtain rfl:=aA h
     exact aN _ _ _ bk (aK hcl (aW bf (.bool Zx)) bg aX ⟨rfl,rfl⟩)
abbrev qz:av:=(.rg [(au 5 0),(aj 6 (.lens (.t 5))),(au 7 1),(aj 8 (.lens (.t 7))),(aj 9 (.bin .geq (.t 6) (.t 8))),(au 10 9),(ax 11 (.mv (.t 0)) 10 true),(ax 12 (.mv (.t 1)) 10 true),(ax 13 (.lens (.t 12)) 10 true),(ax 14 (.gj (.t 11) none (some (.t 13))) 10 true),(ax 15 (.call (.c (.fn 27 [])) [(.t 14)]) 10 true),(ax 16 (.mv (.t 1)) 10 true),(ax 17 (.bin .eql (.t 15) (.t 16)) 10 true),(aj 18 (.pick (.t 10) (.t 17) (.c (.bool false)))),(aQ 4 18)])
abbrev Dm:av:=(.seq (.rg [(aj 4 (.aO (.c (.bool false))))]) (.seq (.sem (erase qz)) .ret))
theorem Dn:bM Tryz.prog 50 19 [(.tmp 4)] (erase Dm):=⟨Tryz.f50,_,rfl,by decide,rfl,by kernel_rfl,rfl,rfl⟩
abbrev vT:List Nat:=[0,1,4]
def lR (F:Nat) (oQ:List UInt8) (s1:List UInt8):Option (Bool):=
 (if (decide ((oQ.length:Int)≤(s1.length:Int))) then
  (sub s1 0 (oQ.length:Int)).bind fun x3=>(nJ F x3).bind fun r4=>some (decide (r4=oQ))
 else
  some false)
def nK (F:Nat) (s1:List UInt8) (oQ:List UInt8):Option (Bool):=
 (lR F oQ s1).bind fun t6=>
 some t6
theorem xP {F:Nat} {oQ:List UInt8} {s1:List UInt8} {H:AH} {K:Exit→Env→AH→Prop} {t5:Bool}
 (h:lR F oQ s1=some t5)
 (kn:K .normal [(4,(.bool t5))] H):
 AX Tryz.prog vT 19 H.length (erase qz) K [(0,(.str s1)),(1,(.str oQ)),(4,(.bool false))] H:=by
 refine bT fun K' hK=> ?_
 rw [lR.eq_1] at h
 refine aC ?_
 refine bR h (fun hy1 h=> ?_) fun hy1 h=> ?_
 · obtain ⟨x3,hy2,h⟩:=aq h
   refine aV (aI hy1 hy2) ?_
   obtain ⟨r4,hy3,h⟩:=aq h
   refine bB ak (uA hy3) ?_
   refine aC ?_
   obtain rfl:=aA h
   exact hK _ _ _ _ _ aJ ak kn
 · refine aV hy1 ?_
   obtain rfl:=aA h
   exact hK _ _ _ _ _ aJ ak kn
theorem uC {F:Nat} {s1:List UInt8} {oQ:List UInt8} {H0:AH} {aP:Bool} (h:nK F s1 oQ=some aP):
 aF Tryz.prog 50 [(.str s1),(.str oQ)] H0 fun v H'=>v=(.bool aP)∧H'=H0:=by
 refine fe Dn vT fun hcl K0 aN=> ?_
 rw [nK.eq_1] at h
 refine aC ?_
 obtain ⟨t6,hy4,h⟩:=aq h
 refine bz ak (xP hy4 ?_)
 refine aC ?_
 obtain rfl:=aA h
 exact aN _ _ _ bk (aK hcl (aW bf (.bool t6)) bg aX ⟨rfl,rfl⟩)
abbrev sL:av:=(.rg [(au 3 0),(aj 4 (.bin .neq (.t 3) (.c (.str [])))),(au 5 4),(ax 6 (.mv (.t 0)) 5 true),(ax 7 (.ixs (.t 6) (.c (.int .i64 0))) 5 true),(ax 8 (.bin .eql (.t 7) (.c (b8 32))) 5 true),(aj 9 (.pick (.t 5) (.t 8) (.c (.bool false))))])
abbrev qA:av:=(.seq (.seq (.sem (erase sL)) (.cond (.t 9) .skip (.exit 0))) (.blk 1 (.rg [(au 10 0),(aj 11 (.gj (.t 10) (some (.c (.int .i64 1))) none)),(aQ 0 11)])))
abbrev EG:av:=(.seq (.rg [(aj 2 (.aO (.c (.str []))))]) (.seq (.blk 0 (.loop (erase qA))) (.seq (.rg [(au 12 0),(aQ 2 12)]) .ret)))
theorem EH:bM Tryz.prog 52 13 [(.tmp 2)] (erase EG):=⟨Tryz.f52,_,rfl,by decide,rfl,by kernel_rfl,rfl,rfl⟩
abbrev rV:List Nat:=[0,2,9]
def oR (s2:List UInt8):Option (Bool):=
 (if (!decide (s2=([]:List UInt8))) then
  (idx s2 0).bind fun x3=>some (decide (x3=32))
 else
  some false)
def oS:(List UInt8)→Option (St (List UInt8) (List UInt8) (List UInt8))
 |s2=>
  (oR s2).bind fun t5=>
  (if t5 then
   (sub s2 1 (s2.length:Int)).bind fun x6=>some (.cU x6)
  else
   some (.dW s2))
def vU (F:Nat) (s1:List UInt8):Option ((List UInt8)):=
 ((iter oS F s1).bind fun o9=>
 match o9 with
 | .inr s8=>
   some s8
 | .inl _=>none)
theorem zA {s2:List UInt8} {H:AH} {K:Exit→Env→AH→Prop} {t4:Bool}
 (h:oR s2=some t4)
 (kn:K .normal [(0,(.str s2)),(9,(.bool t4))] H):
 AX Tryz.prog rV 13 H.length (erase sL) K [(0,(.str s2))] H:=by
 refine bT fun K' hK=> ?_
 rw [oR.eq_1] at h
 refine aC ?_
 refine bR h (fun hy1 h=> ?_) fun hy1 h=> ?_
 · obtain ⟨x3,hy2,h⟩:=aq h
   refine aV (aI hy1 hy2) ?_
   obtain rfl:=aA h
   exact hK _ _ _ _ _ aJ ak kn
 · refine aV hy1 ?_
   obtain rfl:=aA h
   exact hK _ _ _ _ _ aJ ak kn
theorem zB {F:Nat} {s2:List UInt8} {H:AH} {K:Exit→Env→AH→Prop} {o:((List UInt8))⊕((List UInt8))}
 (h:iter oS F s2=some o)
 (c8:∀o':(List UInt8),o= .inr o'→K (.exit 0) [(0,(.str o'))] H):
 AX Tryz.prog rV 13 H.length (.loop (erase qA)) K [(0,(.str s2))] H:=by
 refine gH (fun s e H1=>match s with|s2=>e=[(0,(.str s2))]∧H1=H) h ⟨rfl,rfl⟩ ?_
 rintro K' s2 st e H ⟨rfl,rfl⟩ h hN hB hR hX
 rw [oS.eq_1] at h
 refine aC ?_
 obtain ⟨t5,hy3,h⟩:=aq h
 refine bz ak (zA hy3 ?_)
 refine aC ?_
 refine bl h (fun hy4 h=> ?_) fun hy4 h=> ?_
 · obtain ⟨x6,bK,h⟩:=aq h
   refine aV bK ?_
   obtain rfl:=aA h
   exact hN _ rfl _ _ _ _ aJ ak ⟨rfl,rfl⟩
 · refine aC ?_
   obtain rfl:=aA h
   exact hX _ _ _ _ _ c6 aJ ak (c8 _ (hB _ rfl))
theorem Dp {F:Nat} {s1:List UInt8} {H0:AH} {aP:List UInt8} (h:vU F s1=some aP):
 aF Tryz.prog 52 [(.str s1)] H0 fun v H'=>v=(.str aP)∧H'=H0:=by
 refine fe EH rV fun hcl K0 aN=> ?_
 rw [vU.eq_1] at h
 refine aC ?_
 obtain ⟨o9,bY,h⟩:=aq h
 refine bz ak (zB bY ?_)
 · rintro s8 rfl
   try dsimp only at h
   refine aC ?_
   obtain rfl:=aA h
   exact aN _ _ _ bk (aK hcl (aW bf (.str s8)) bg aX ⟨rfl,rfl⟩)
abbrev oT:av:=(.rg ((au 4 3)::(au 5 0)::(aj 6 (.lens (.t 5)))::(aj 7 (.bin .lss (.t 4) (.t 6)))::(au 8 7)::(ax 9 (.mv (.t 0)) 8 true)::(ax 10 (.mv (.t 3)) 8 true)::(ax 11 (.ixs (.t 9) (.t 10)) 8 true)::(ax 12 (.call (.c (.fn 75 [])) [(.t 11)]) 8 true)::(ax 13 (.mv (.t 12)) 8 true)::(ax 14 (.mv (.t 0)) 13 false)::(ax 15 (.mv (.t 3)) 13 false)::(ax 16 (.ixs (.t 14) (.t 15)) 13 false)::(ax 17 (.call (.c (.fn 74 [])) [(.t 16)]) 13 false)::(ax 18 (.pick (.t 13) (.c (.bool true)) (.t 17)) 8 true)::(ax 19 (.mv (.t 18)) 8 true)::(ax 20 (.mv (.t 0)) 19 false)::(ax 21 (.mv (.t 3)) 19 false)::(ax 22 (.ixs (.t 20) (.t 21)) 19 false)::(ax 23 (.bin .eql (.t 22) (.c (b8 45))) 19 false)::(ax 24 (.pick (.t 19) (.c (.bool true)) (.t 23)) 8 true)::(ax 25 (.mv (.t 24)) 8 true)::(ax 26 (.mv (.t 0)) 25 false)::(ax 27 (.mv (.t 3)) 25 false)::(ax 28 (.ixs (.t 26) (.t 27)) 25 false)::(ax 29 (.bin .eql (.t 28) (.c (b8 46))) 25 false)::(ax 30 (.pick (.t 25) (.c (.bool true)) (.t 29)) 8 true)::(ax 31 (.mv (.t 30)) 8 true)::(ax 32 (.mv (.t 0)) 31 false)::(ax 33 (.mv (.t 3)) 31 false)::(ax 34 (.ixs (.t 32) (.t 33)) 31 false)::(ax 35 (.bin .eql (.t 34) (.c (b8 91))) 31 false)::(ax 36 (.pick (.t 31) (.c (.bool true)) (.t 35)) 8 true)::(ax 37 (.mv (.t 36)) 8 true)::(ax 38 (.mv (.t 0)) 37 false)::(ax 39 (.mv (.t 3)) 37 false)::(ax 40 (.ixs (.t 38) (.t 39)) 37 false)::(ax 41 (.bin .eql (.t 40) (.c (b8 93))) 37 false)::(ax 42 (.pick (.t 37) (.c (.bool true)) (.t 41)) 8 true)::(aj 43 (.pick (.t 8) (.t 42) (.c (.bool false))))::[]))
abbrev mT:av:=(.seq (.seq (.sem (erase oT)) (.cond (.t 43) .skip (.exit 0))) (.blk 1 (.rg [(au 44 3),(aj 45 (.bin .add (.t 44) (.c (.int .i64 1)))),(aQ 3 45)])))
abbrev BW:av:=(.seq (.rg [(aj 2 (.aO (.c (.int .i64 0))))]) (.seq (.rg [(aj 3 (.aO (.c (.int .i64 0))))]) (.seq (.blk 0 (.loop (erase mT))) (.seq (.rg [(au 46 3),(aQ 2 46)]) .ret))))
theorem BX:bM Tryz.prog 78 47 [(.tmp 2)] (erase BW):=⟨Tryz.f78,_,rfl,by decide,rfl,by kernel_rfl,rfl,rfl⟩
abbrev lS:List Nat:=[0,2,3,43]
def kR (wX:Int) (s1:List UInt8):Option (Bool):=
 (if (decide (wX<(s1.length:Int))) then
  (idx s1 wX).bind fun x3=>
  (eR x3).bind fun r4=>
  (if r4 then
   some true
  else
   (eK x3).bind fun r5=>
   (if r5 then
    some true
   else
    (if (decide (x3=45)) then
     some true
    else
     (if (decide (x3=46)) then
      some true
     else
      (if (decide (x3=91)) then
       some true
      else
       some (decide (x3=93)))))))
 else
  some false)
def kS (s1:List UInt8):Int→Option (St Int Int Int)
 |wX=>
  (kR wX s1).bind fun t7=>
  (if t7 then
   some (.cU (IntKind.wrap .i64 (wX+1)))
  else
   some (.dW wX))
def k5 (F:Nat) (s1:List UInt8):Option (Int):=
 ((iter (kS s1) F 0).bind fun Tz=>
 match Tz with
 | .inr P8=>
   some P8
 | .inl _=>none)
theorem wY {wX:Int} {s1:List UInt8} {H:AH} {K:Exit→Env→AH→Prop} {t6:Bool}
 (h:kR wX s1=some t6)
 (kn:K .normal [(0,(.str s1)),(3,(.int .i64 wX)),(43,(.bool t6))] H):
 AX Tryz.prog lS 47 H.length (erase oT) K [(0,(.str s1)),(3,(.int .i64 wX))] H:=by
 refine bT fun K' hK=> ?_
 rw [kR.eq_1] at h
 refine aC ?_
 refine bR h (fun hy1 h=> ?_) fun hy1 h=> ?_
 · obtain ⟨x3,hy2,h⟩:=aq h
   refine aV (aI hy1 hy2) ?_
   obtain ⟨r4,hy3,h⟩:=aq h
   refine bB ak (iG hy3) ?_
   refine aC ?_
   refine bR h (fun hy4 h=> ?_) fun hy4 h=> ?_
   · refine aV hy4 ?_
     obtain rfl:=aA h
     exact hK _ _ _ _ _ aJ ak kn
   · refine aV (aI hy4 hy2) ?_
     obtain ⟨r5,bK,h⟩:=aq h
     refine bB ak (gx bK) ?_
     refine aC ?_
     refine bR h (fun bY h=> ?_) fun bY h=> ?_
     · refine aV bY ?_
       obtain rfl:=aA h
       exact hK _ _ _ _ _ aJ ak kn
     · refine aV (aI bY hy2) ?_
       refine bR h (fun cD h=> ?_) fun cD h=> ?_
       · refine aV cD ?_
         obtain rfl:=aA h
         exact hK _ _ _ _ _ aJ ak kn
       · refine aV (aI cD hy2) ?_
         refine bR h (fun ct h=> ?_) fun ct h=> ?_
         · refine aV ct ?_
           obtain rfl:=aA h
           exact hK _ _ _ _ _ aJ ak kn
         · refine aV (aI ct hy2) ?_
           refine bR h (fun cQ h=> ?_) fun cQ h=> ?_
           · refine aV cQ ?_
             obtain rfl:=aA h
             exact hK _ _ _ _ _ aJ ak kn
           · refine aV (aI cQ hy2) ?_
             obtain rfl:=aA h
             exact hK _ _ _ _ _ aJ ak kn
 · refine aV hy1 ?_
   obtain rfl:=aA h
   exact hK _ _ _ _ _ aJ ak kn
theorem wZ {F:Nat} {wX:Int} {s1:List UInt8} {H:AH} {K:Exit→Env→AH→Prop} {o:(Int)⊕(Int)}
 (h:iter (kS s1) F wX=some o)
 (c8:∀o':Int,o= .inr o'→K (.exit 0) [(3,(.int .i64 o'))] H):
 AX Tryz.prog lS 47 H.length (.loop (erase mT)) K [(0,(.str s1)),(3,(.int .i64 wX))] H:=by
 refine gH (fun s e H1=>match s with|wX=>e=[(0,(.str s1)),(3,(.int .i64 wX))]∧H1=H) h ⟨rfl,rfl⟩ ?_
 rintro K' wX st e H ⟨rfl,rfl⟩ h hN hB hR hX
 rw [kS.eq_1] at h
 refine aC ?_
 obtain ⟨t7,cc,h⟩:=aq h
 refine bz ak (wY cc ?_)
 refine aC ?_
 refine bl h (fun cy h=> ?_) fun cy h=> ?_
 · refine aC ?_
   obtain rfl:=aA h
   exact hN _ rfl _ _ _ _ aJ ak ⟨rfl,rfl⟩
 · refine aC ?_
   obtain rfl:=aA h
   exact hX _ _ _ _ _ c6 aJ ak (c8 _ (hB _ rfl))
theorem sM {F:Nat} {s1:List UInt8} {H0:AH} {aP:Int} (h:k5 F s1=some aP):
 aF Tryz.prog 78 [(.str s1)] H0 fun v H'=>v=(.int .i64 aP)∧H'=H0:=by
 refine fe BX lS fun hcl K0 aN=> ?_
 rw [k5.eq_1] at h
 refine aC ?_
 obtain ⟨Tz,cK,h⟩:=aq h
 refine bz ak (wZ cK ?_)
 · rintro P8 rfl
   try dsimp only at h
   refine aC ?_
   obtain rfl:=aA h
   exact aN _ _ _ bk (aK hcl (aW bf (.int .i64 P8)) bg aX ⟨rfl,rfl⟩)
abbrev qB:av:=(.rg [(au 9 0),(aj 10 (.bin .eql (.t 9) (.c (.str [])))),(au 11 10),(ax 12 (.mv (.t 0)) 11 false),(ax 13 (.ixs (.t 12) (.c (.int .i64 0))) 11 false),(ax 14 (.bin .eql (.t 13) (.c (b8 91))) 11 false),(aj 15 (.pick (.t 11) (.c (.bool true)) (.t 14)))])
abbrev qC:av:=(.rg [(au 22 4),(au 23 0),(aj 24 (.lens (.t 23))),(aj 25 (.bin .lss (.t 22) (.t 24))),(au 26 25),(ax 27 (.mv (.t 0)) 26 true),(ax 28 (.mv (.t 4)) 26 true),(ax 29 (.ixs (.t 27) (.t 28)) 26 true),(ax 30 (.bin .neq (.t 29) (.c (b8 46))) 26 true),(aj 31 (.pick (.t 26) (.t 30) (.c (.bool false))))])
abbrev qD:av:=(.rg [(au 36 5),(aj 37 (.bin .eql (.t 36) (.c (.str [])))),(au 38 37),(ax 39 (.mv (.t 5)) 38 false),(ax 40 (.ixs (.t 39) (.c (.int .i64 0))) 38 false),(ax 41 (.bin .eql (.t 40) (.c (b8 45))) 38 false),(aj 42 (.pick (.t 38) (.c (.bool true)) (.t 41))),(au 43 42),(ax 44 (.mv (.t 5)) 43 false),(ax 45 (.mv (.t 5)) 43 false),(ax 46 (.lens (.t 45)) 43 false),(ax 47 (.bin .sub (.t 46) (.c (.int .i64 1))) 43 false),(ax 48 (.ixs (.t 44) (.t 47)) 43 false),(ax 49 (.bin .eql (.t 48) (.c (b8 45))) 43 false),(aj 50 (.pick (.t 43) (.c (.bool true)) (.t 49)))])
abbrev qE:av:=(.rg [(au 57 5),(au 58 6),(aj 59 (.ixs (.t 57) (.t 58))),(aj 60 (.call (.c (.fn 75 [])) [(.t 59)])),(aj 61 (.un .not (.t 60))),(au 62 61),(ax 63 (.mv (.t 5)) 62 true),(ax 64 (.mv (.t 6)) 62 true),(ax 65 (.ixs (.t 63) (.t 64)) 62 true),(ax 66 (.call (.c (.fn 74 [])) [(.t 65)]) 62 true),(ax 67 (.un .not (.t 66)) 62 true),(aj 68 (.pick (.t 62) (.t 67) (.c (.bool false)))),(au 69 68),(ax 70 (.mv (.t 5)) 69 true),(ax 71 (.mv (.t 6)) 69 true),(ax 72 (.ixs (.t 70) (.t 71)) 69 true),(ax 73 (.bin .neq (.t 72) (.c (b8 45))) 69 true),(aj 74 (.pick (.t 69) (.t 73) (.c (.bool false))))])
abbrev oU:av:=(.seq (.seq (.rg [(au 51 6),(au 52 5),(aj 53 (.lens (.t 52))),(aj 54 (.bin .lss (.t 51) (.t 53)))]) (.cond (.t 54) .skip (.exit 2))) (.seq (.blk 3 (.seq (.sem (erase qE)) (.cond (.t 74) (.seq (.rg [(aj 2 (.aO (.c (.bool false))))]) .ret) .skip))) (.rg [(au 55 6),(aj 56 (.bin .add (.t 55) (.c (.int .i64 1)))),(aQ 6 56)])))
abbrev oV:av:=(.seq (.seq (.rg [(au 16 4),(au 17 0),(aj 18 (.lens (.t 17))),(aj 19 (.bin .leq (.t 16) (.t 18)))]) (.cond (.t 19) .skip (.exit 0))) (.seq (.blk 1 (.seq (.seq (.sem (erase qC)) (.cond (.t 31) (.exit 1) .skip)) (.seq (.rg [(au 32 0),(au 33 3),(au 34 4),(aj 35 (.gj (.t 32) (some (.t 33)) (some (.t 34)))),(aQ 5 35)]) (.seq (.seq (.sem (erase qD)) (.cond (.t 50) (.seq (.rg [(aj 2 (.aO (.c (.bool false))))]) .ret) .skip)) (.seq (.seq (.rg [(aj 6 (.aO (.c (.int .i64 0))))]) (.blk 2 (.loop (erase oU)))) (.rg [(au 75 4),(aj 76 (.bin .add (.t 75) (.c (.int .i64 1)))),(aQ 3 76)])))))) (.rg [(au 20 4),(aj 21 (.bin .add (.t 20) (.c (.int .i64 1)))),(aQ 4 21)])))
abbrev Dq:av:=(.seq (.rg [(aj 2 (.aO (.c (.bool false))))]) (.seq (.seq (.rg [(au 7 0),(aj 8 (.call (.c (.fn 28 [])) [(.t 7)]))]) (.cond (.t 8) (.seq (.rg [(aj 2 (.aO (.c (.bool true))))]) .ret) .skip)) (.seq (.seq (.sem (erase qB)) (.cond (.t 15) (.seq (.rg [(aj 2 (.aO (.c (.bool false))))]) .ret) .skip)) (.seq (.rg [(aj 3 (.aO (.c (.int .i64 0))))]) (.seq (.seq (.rg [(aj 4 (.aO (.c (.int .i64 0))))]) (.blk 0 (.loop (erase oV)))) (.seq (.rg [(aj 2 (.aO (.c (.bool true))))]) .ret))))))
theorem Dr:bM Tryz.prog 79 77 [(.tmp 2)] (erase Dq):=⟨Tryz.f79,_,rfl,by decide,rfl,by kernel_rfl,rfl,rfl⟩
abbrev e4:List Nat:=[0,2,3,4,5,6,8,15,19,31,50,54,74]
def lT (s1:List UInt8):Option (Bool):=
 (if (decide (s1=([]:List UInt8))) then
  some true
 else
  (idx s1 0).bind fun x3=>some (decide (x3=91)))
def lU (i7:Int) (s1:List UInt8):Option (Bool):=
 (if (decide (i7<(s1.length:Int))) then
  (idx s1 i7).bind fun x8=>some (!decide (x8=46))
 else
  some false)
def lV (fD:List UInt8):Option (Bool):=
 (if (decide (fD=([]:List UInt8))) then
  some true
 else
  (idx fD 0).bind fun rM=>
  (if (decide (rM=45)) then
   some true
  else
   (idx fD (IntKind.wrap .i64 ((fD.length:Int) - 1))).bind fun gu=>some (decide (gu=45))))
def lW (fD:List UInt8) (oW:Int):Option (Bool):=
 (idx fD oW).bind fun tP=>
 (eR tP).bind fun e9=>
 (if (!e9) then
  (eK tP).bind fun wO=>
  (if (!wO) then
   some (!decide (tP=45))
  else
   some false)
 else
  some false)
def lZ (fD:List UInt8):Int→Option (St Bool Unit Int)
 |oW=>
  (if (decide (oW<(fD.length:Int))) then
   (lW fD oW).bind fun t21=>
   (if t21 then
    some (.ret false)
   else
    some (.cU (IntKind.wrap .i64 (oW+1))))
  else
   some (.dW ()))
def l5 (F:Nat) (s1:List UInt8):(Int×Int)→Option (St Bool Unit (Int×Int))
 |(AZ,i7)=>
  (if (decide (i7≤(s1.length:Int))) then
   (lU i7 s1).bind fun t10=>
   (if t10 then
    some (.cU (AZ,(IntKind.wrap .i64 (i7+1))))
   else
    (sub s1 AZ i7).bind fun fD=>
    (lV fD).bind fun t15=>
    (if t15 then
     some (.ret false)
    else
     ((iter (lZ fD) F 0).bind fun o24=>
     match o24 with
     | .inr ()=>
       some (.cU ((IntKind.wrap .i64 (i7+1)),(IntKind.wrap .i64 (i7+1))))
     | .inl P9=>
       some (.ret P9))))
  else
   some (.dW ()))
def nL (F:Nat) (s1:List UInt8):Option (Bool):=
 (eS F s1).bind fun r2=>
 (if r2 then
  some true
 else
  (lT s1).bind fun t5=>
  (if t5 then
   some false
  else
   ((iter (l5 F s1) F (0,0)).bind fun o27=>
   match o27 with
   | .inr ()=>
     some true
   | .inl Zy=>
     some Zy)))
theorem xQ {s1:List UInt8} {H:AH} {K:Exit→Env→AH→Prop} {t4:Bool}
 (h:lT s1=some t4)
 (kn:K .normal [(0,(.str s1)),(15,(.bool t4))] H):
 AX Tryz.prog e4 77 H.length (erase qB) K [(0,(.str s1))] H:=by
 refine bT fun K' hK=> ?_
 rw [lT.eq_1] at h
 refine aC ?_
 refine bR h (fun hy3 h=> ?_) fun hy3 h=> ?_
 · refine aV hy3 ?_
   obtain rfl:=aA h
   exact hK _ _ _ _ _ aJ ak kn
 · obtain ⟨x3,hy4,h⟩:=aq h
   refine aV (aI hy3 hy4) ?_
   obtain rfl:=aA h
   exact hK _ _ _ _ _ aJ ak kn
theorem xR {i7:Int} {s1:List UInt8} {AZ:Int} {H:AH} {K:Exit→Env→AH→Prop} {t9:Bool}
 (h:lU i7 s1=some t9)
 (kn:K .normal [(0,(.str s1)),(3,(.int .i64 AZ)),(4,(.int .i64 i7)),(31,(.bool t9))] H):
 AX Tryz.prog e4 77 H.length (erase qC) K [(0,(.str s1)),(3,(.int .i64 AZ)),(4,(.int .i64 i7))] H:=by
 refine bT fun K' hK=> ?_
 rw [lU.eq_1] at h
 refine aC ?_
 refine bR h (fun ct h=> ?_) fun ct h=> ?_
 · obtain ⟨x8,cQ,h⟩:=aq h
   refine aV (aI ct cQ) ?_
   obtain rfl:=aA h
   exact hK _ _ _ _ _ aJ ak kn
 · refine aV ct ?_
   obtain rfl:=aA h
   exact hK _ _ _ _ _ aJ ak kn
theorem xS {fD:List UInt8} {s1:List UInt8} {i7:Int} {H:AH} {K:Exit→Env→AH→Prop} {t14:Bool}
 (h:lV fD=some t14)
 (kn:K .normal [(0,(.str s1)),(4,(.int .i64 i7)),(5,(.str fD)),(50,(.bool t14))] H):
 AX Tryz.prog e4 77 H.length (erase qD) K [(0,(.str s1)),(4,(.int .i64 i7)),(5,(.str fD))] H:=by
 refine bT fun K' hK=> ?_
 rw [lV.eq_1] at h
 refine aC ?_
 refine bR h (fun cG h=> ?_) fun cG h=> ?_
 · refine aV cG ?_
   obtain rfl:=aA h
   exact hK _ _ _ _ _ aJ ak kn
 · obtain ⟨rM,dX,h⟩:=aq h
   refine aV (aI cG dX) ?_
   refine bR h (fun eW h=> ?_) fun eW h=> ?_
   · refine aV eW ?_
     obtain rfl:=aA h
     exact hK _ _ _ _ _ aJ ak kn
   · obtain ⟨gu,ek,h⟩:=aq h
     refine aV (aI eW ek) ?_
     obtain rfl:=aA h
     exact hK _ _ _ _ _ aJ ak kn
theorem xT {fD:List UInt8} {oW:Int} {s1:List UInt8} {i7:Int} {H:AH} {K:Exit→Env→AH→Prop} {t20:Bool}
 (h:lW fD oW=some t20)
 (kn:K .normal [(0,(.str s1)),(4,(.int .i64 i7)),(5,(.str fD)),(6,(.int .i64 oW)),(74,(.bool t20))] H):
 AX Tryz.prog e4 77 H.length (erase qE) K [(0,(.str s1)),(4,(.int .i64 i7)),(5,(.str fD)),(6,(.int .i64 oW))] H:=by
 refine bT fun K' hK=> ?_
 rw [lW.eq_1] at h
 obtain ⟨tP,fN,h⟩:=aq h
 refine aV fN ?_
 obtain ⟨e9,gw,h⟩:=aq h
 refine bB ak (iG gw) ?_
 refine aC ?_
 refine bR h (fun ie h=> ?_) fun ie h=> ?_
 · refine aV (aI ie fN) ?_
   obtain ⟨wO,jg,h⟩:=aq h
   refine bB ak (gx jg) ?_
   refine aC ?_
   refine bR h (fun gO h=> ?_) fun gO h=> ?_
   · refine aV (aI gO fN) ?_
     obtain rfl:=aA h
     exact hK _ _ _ _ _ aJ ak kn
   · refine aV gO ?_
     obtain rfl:=aA h
     exact hK _ _ _ _ _ aJ ak kn
 · refine aV ie ?_
   obtain rfl:=aA h
   exact hK _ _ _ _ _ aJ ak kn
theorem xU {F:Nat} {oW:Int} {fD:List UInt8} {s1:List UInt8} {i7:Int} {H:AH} {K:Exit→Env→AH→Prop} {o:(Bool)⊕(Unit)}
 (h:iter (lZ fD) F oW=some o)
 (L8:∀o':Unit,o= .inr o'→K (.exit 2) [(0,(.str s1)),(4,(.int .i64 i7))] H)
 (kr:∀o':Bool,o= .inl o'→K .ret [(2,(.bool o'))] H):
 AX Tryz.prog e4 77 H.length (.loop (erase oU)) K [(0,(.str s1)),(4,(.int .i64 i7)),(5,(.str fD)),(6,(.int .i64 oW))] H:=by
 refine gH (fun s e H1=>match s with|oW=>e=[(0,(.str s1)),(4,(.int .i64 i7)),(5,(.str fD)),(6,(.int .i64 oW))]∧H1=H) h ⟨rfl,rfl⟩ ?_
 rintro K' oW st e H ⟨rfl,rfl⟩ h hN hB hR hX
 rw [lZ.eq_1] at h
 refine aC ?_
 refine bl h (fun fM h=> ?_) fun fM h=> ?_
 · refine aC ?_
   obtain ⟨t21,ig,h⟩:=aq h
   refine bz ak (xT (s1:=s1) (i7:=i7) ig ?_)
   refine aC ?_
   refine bl h (fun jS h=> ?_) fun jS h=> ?_
   · refine aC ?_
     obtain rfl:=aA h
     exact hX _ _ _ _ _ c6 aJ ak (kr _ (hR _ rfl))
   · refine aC ?_
     obtain rfl:=aA h
     exact hN _ rfl _ _ _ _ aJ ak ⟨rfl,rfl⟩
 · refine aC ?_
   obtain rfl:=aA h
   exact hX _ _ _ _ _ c6 aJ ak (L8 _ (hB _ rfl))
theorem xV {F:Nat} {i7:Int} {s1:List UInt8} {AZ:Int} {H:AH} {K:Exit→Env→AH→Prop} {o:(Bool)⊕(Unit)}
 (h:iter (l5 F s1) F (AZ,i7)=some o)
 (c8:∀o':Unit,o= .inr o'→K (.exit 0) [] H)
 (kr:∀o':Bool,o= .inl o'→K .ret [(2,(.bool o'))] H):
 AX Tryz.prog e4 77 H.length (.loop (erase oV)) K [(0,(.str s1)),(3,(.int .i64 AZ)),(4,(.int .i64 i7))] H:=by
 refine gH (fun s e H1=>match s with|(AZ,i7)=>e=[(0,(.str s1)),(3,(.int .i64 AZ)),(4,(.int .i64 i7))]∧H1=H) h ⟨rfl,rfl⟩ ?_
 rintro K' ⟨AZ,i7⟩ st e H ⟨rfl,rfl⟩ h hN hB hR hX
 rw [l5.eq_1] at h
 refine aC ?_
 refine bl h (fun cD h=> ?_) fun cD h=> ?_
 · refine aC ?_
   obtain ⟨t10,cc,h⟩:=aq h
   refine bz ak (xR (AZ:=AZ) cc ?_)
   refine aC ?_
   refine bl h (fun cy h=> ?_) fun cy h=> ?_
   · refine aC ?_
     obtain rfl:=aA h
     exact hN _ rfl _ _ _ _ aJ ak ⟨rfl,rfl⟩
   · obtain ⟨fD,cK,h⟩:=aq h
     refine aV cK ?_
     obtain ⟨t15,ic,h⟩:=aq h
     refine bz ak (xS (s1:=s1) (i7:=i7) ic ?_)
     refine aC ?_
     refine bl h (fun gv h=> ?_) fun gv h=> ?_
     · refine aC ?_
       obtain rfl:=aA h
       exact hX _ _ _ _ _ c6 aJ ak (kr _ (hR _ rfl))
     · refine aC ?_
       obtain ⟨o24,sK,h⟩:=aq h
       refine bz ak (xU (s1:=s1) (i7:=i7) sK ?_ ?_)
       · rintro ⟨⟩ rfl
         try dsimp only at h
         refine aC ?_
         obtain rfl:=aA h
         exact hN _ rfl _ _ _ _ aJ ak ⟨rfl,rfl⟩
       · rintro P9 rfl
         try dsimp only at h
         refine aC ?_
         obtain rfl:=aA h
         exact hX _ _ _ _ _ c6 aJ ak (kr _ (hR _ rfl))
 · refine aC ?_
   obtain rfl:=aA h
   exact hX _ _ _ _ _ c6 WE.nil ak (c8 _ (hB _ rfl))
theorem uD {F:Nat} {s1:List UInt8} {H0:AH} {aP:Bool} (h:nL F s1=some aP):
 aF Tryz.prog 79 [(.str s1)] H0 fun v H'=>v=(.bool aP)∧H'=H0:=by
 refine fe Dr e4 fun hcl K0 aN=> ?_
 rw [nL.eq_1] at h
 refine aC ?_
 obtain ⟨r2,hy1,h⟩:=aq h
 refine bB ak (kQ hy1) ?_
 refine aC ?_
 refine bl h (fun hy2 h=> ?_) fun hy2 h=> ?_
 · refine aC ?_
   obtain rfl:=aA h
   exact aN _ _ _ bk (aK hcl (aW bf (.bool true)) bg aX ⟨rfl,rfl⟩)
 · refine aC ?_
   obtain ⟨t5,bK,h⟩:=aq h
   refine bz ak (xQ bK ?_)
   refine aC ?_
   refine bl h (fun bY h=> ?_) fun bY h=> ?_
   · refine aC ?_
     obtain rfl:=aA h
     exact aN _ _ _ bk (aK hcl (aW bf (.bool false)) bg aX ⟨rfl,rfl⟩)
   · refine aC ?_
     obtain ⟨o27,vV,h⟩:=aq h
     refine bz ak (xV vV ?_ ?_)
     · rintro ⟨⟩ rfl
       try dsimp only at h
       refine aC ?_
       obtain rfl:=aA h
       exact aN _ _ _ bk (aK hcl (aW bf (.bool true)) bg aX ⟨rfl,rfl⟩)
     · rintro Zy rfl
       try dsimp only at h
       refine aC ?_
       obtain rfl:=aA h
       exact aN _ _ _ bk (aK hcl (aW bf (.bool Zy)) bg aX ⟨rfl,rfl⟩)
abbrev qF:av:=(.rg [(au 5 0),(aj 6 (.bin .eql (.t 5) (.c (.str [])))),(au 7 6),(ax 8 (.mv (.t 0)) 7 false),(ax 9 (.ixs (.t 8) (.c (.int .i64 0))) 7 false),(ax 10 (.bin .neq (.t 9) (.c (b8 64))) 7 false),(aj 11 (.pick (.t 7) (.c (.bool true)) (.t 10)))])
abbrev qG:av:=(.rg [(au 12 3),(au 13 0),(aj 14 (.lens (.t 13))),(aj 15 (.bin .lss (.t 12) (.t 14))),(au 16 15),(ax 17 (.mv (.t 0)) 16 true),(ax 18 (.mv (.t 3)) 16 true),(ax 19 (.ixs (.t 17) (.t 18)) 16 true),(ax 20 (.bin .eql (.t 19) (.c (b8 64))) 16 true),(aj 21 (.pick (.t 16) (.t 20) (.c (.bool false))))])
abbrev qH:av:=(.rg [(au 41 3),(au 42 0),(aj 43 (.lens (.t 42))),(aj 44 (.bin .lss (.t 41) (.t 43))),(au 45 44),(ax 46 (.mv (.t 0)) 45 true),(ax 47 (.mv (.t 3)) 45 true),(ax 48 (.ixs (.t 46) (.t 47)) 45 true),(ax 49 (.bin .eql (.t 48) (.c (b8 58))) 45 true),(aj 50 (.pick (.t 45) (.t 49) (.c (.bool false))))])
abbrev qI:av:=(.rg [(au 53 3),(au 54 0),(aj 55 (.lens (.t 54))),(aj 56 (.bin .geq (.t 53) (.t 55))),(au 57 56),(ax 58 (.mv (.t 0)) 57 false),(ax 59 (.mv (.t 3)) 57 false),(ax 60 (.ixs (.t 58) (.t 59)) 57 false),(ax 61 (.bin .neq (.t 60) (.c (b8 44))) 57 false),(aj 62 (.pick (.t 57) (.c (.bool true)) (.t 61)))])
abbrev oX:av:=(.seq (.seq (.sem (erase qG)) (.cond (.t 21) .skip (.exit 0))) (.blk 1 (.seq (.rg [(au 22 0),(au 23 3),(aj 24 (.bin .add (.t 23) (.c (.int .i64 1)))),(aj 25 (.gj (.t 22) (some (.t 24)) none)),(aj 26 (.call (.c (.fn 78 [])) [(.t 25)])),(aQ 4 26)]) (.seq (.seq (.rg [(au 27 0),(au 28 3),(aj 29 (.bin .add (.t 28) (.c (.int .i64 1)))),(au 30 3),(aj 31 (.bin .add (.t 30) (.c (.int .i64 1)))),(au 32 4),(aj 33 (.bin .add (.t 31) (.t 32))),(aj 34 (.gj (.t 27) (some (.t 29)) (some (.t 33)))),(aj 35 (.call (.c (.fn 79 [])) [(.t 34)])),(aj 36 (.un .not (.t 35)))]) (.cond (.t 36) (.seq (.rg [(aj 2 (.aO (.c (.int .i64 (-1)))))]) .ret) .skip)) (.seq (.rg [(au 37 3),(aj 38 (.bin .add (.t 37) (.c (.int .i64 1)))),(au 39 4),(aj 40 (.bin .add (.t 38) (.t 39))),(aQ 3 40)]) (.seq (.seq (.sem (erase qH)) (.cond (.t 50) (.seq (.rg [(au 51 3),(aj 52 (.bin .add (.t 51) (.c (.int .i64 1)))),(aQ 2 52)]) .ret) .skip)) (.seq (.seq (.sem (erase qI)) (.cond (.t 62) (.seq (.rg [(aj 2 (.aO (.c (.int .i64 (-1)))))]) .ret) .skip)) (.rg [(au 63 3),(aj 64 (.bin .add (.t 63) (.c (.int .i64 1)))),(aQ 3 64)]))))))))
abbrev Ds:av:=(.seq (.rg [(aj 2 (.aO (.c (.int .i64 0))))]) (.seq (.seq (.sem (erase qF)) (.cond (.t 11) (.seq (.rg [(aj 2 (.aO (.c (.int .i64 0))))]) .ret) .skip)) (.seq (.rg [(aj 3 (.aO (.c (.int .i64 0))))]) (.seq (.blk 0 (.loop (erase oX))) (.seq (.rg [(aj 2 (.aO (.c (.int .i64 (-1)))))]) .ret)))))
theorem Dt:bM Tryz.prog 76 65 [(.tmp 2)] (erase Ds):=⟨Tryz.f76,_,rfl,by decide,rfl,by kernel_rfl,rfl,rfl⟩
abbrev fQ:List Nat:=[0,2,3,4,11,21,36,50,62]
def l6 (s1:List UInt8):Option (Bool):=
 (if (decide (s1=([]:List UInt8))) then
  some true
 else
  (idx s1 0).bind fun x2=>some (!decide (x2=64)))
def l7 (i5:Int) (s1:List UInt8):Option (Bool):=
 (if (decide (i5<(s1.length:Int))) then
  (idx s1 i5).bind fun x6=>some (decide (x6=64))
 else
  some false)
def l8 (i5:Int) (dA:Int) (s1:List UInt8):Option (Bool):=
 (if (decide ((IntKind.wrap .i64 ((IntKind.wrap .i64 (i5+1))+dA))<(s1.length:Int))) then
  (idx s1 (IntKind.wrap .i64 ((IntKind.wrap .i64 (i5+1))+dA))).bind fun gu=>some (decide (gu=58))
 else
  some false)
def l9 (s1:List UInt8) (i5:Int) (dA:Int):Option (Bool):=
 (if (decide ((s1.length:Int)≤(IntKind.wrap .i64 ((IntKind.wrap .i64 (i5+1))+dA)))) then
  some true
 else
  (idx s1 (IntKind.wrap .i64 ((IntKind.wrap .i64 (i5+1))+dA))).bind fun ng=>some (!decide (ng=44)))
def mb (F:Nat) (s1:List UInt8):Int→Option (St Int Unit Int)
 |i5=>
  (l7 i5 s1).bind fun t8=>
  (if t8 then
   (sub s1 (IntKind.wrap .i64 (i5+1)) (s1.length:Int)).bind fun x9=>
   (k5 F x9).bind fun dA=>
   (sub s1 (IntKind.wrap .i64 (i5+1)) (IntKind.wrap .i64 ((IntKind.wrap .i64 (i5+1))+dA))).bind fun fD=>
   (nL F fD).bind fun gI=>
   (if (!gI) then
    some (.ret (-1))
   else
    (l8 i5 dA s1).bind fun t15=>
    (if t15 then
     some (.ret (IntKind.wrap .i64 ((IntKind.wrap .i64 ((IntKind.wrap .i64 (i5+1))+dA))+1)))
    else
     (l9 s1 i5 dA).bind fun t18=>
     (if t18 then
      some (.ret (-1))
     else
      some (.cU (IntKind.wrap .i64 ((IntKind.wrap .i64 ((IntKind.wrap .i64 (i5+1))+dA))+1))))))
  else
   some (.dW ()))
def tT (F:Nat) (s1:List UInt8):Option (Int):=
 (l6 s1).bind fun t4=>
 (if t4 then
  some 0
 else
  ((iter (mb F s1) F 0).bind fun o21=>
  match o21 with
  | .inr ()=>
    some (-1)
  | .inl lz=>
    some lz))
theorem xW {s1:List UInt8} {H:AH} {K:Exit→Env→AH→Prop} {t3:Bool}
 (h:l6 s1=some t3)
 (kn:K .normal [(0,(.str s1)),(11,(.bool t3))] H):
 AX Tryz.prog fQ 65 H.length (erase qF) K [(0,(.str s1))] H:=by
 refine bT fun K' hK=> ?_
 rw [l6.eq_1] at h
 refine aC ?_
 refine bR h (fun hy1 h=> ?_) fun hy1 h=> ?_
 · refine aV hy1 ?_
   obtain rfl:=aA h
   exact hK _ _ _ _ _ aJ ak kn
 · obtain ⟨x2,hy2,h⟩:=aq h
   refine aV (aI hy1 hy2) ?_
   obtain rfl:=aA h
   exact hK _ _ _ _ _ aJ ak kn
theorem xX {i5:Int} {s1:List UInt8} {H:AH} {K:Exit→Env→AH→Prop} {t7:Bool}
 (h:l7 i5 s1=some t7)
 (kn:K .normal [(0,(.str s1)),(3,(.int .i64 i5)),(21,(.bool t7))] H):
 AX Tryz.prog fQ 65 H.length (erase qG) K [(0,(.str s1)),(3,(.int .i64 i5))] H:=by
 refine bT fun K' hK=> ?_
 rw [l7.eq_1] at h
 refine aC ?_
 refine bR h (fun bK h=> ?_) fun bK h=> ?_
 · obtain ⟨x6,bY,h⟩:=aq h
   refine aV (aI bK bY) ?_
   obtain rfl:=aA h
   exact hK _ _ _ _ _ aJ ak kn
 · refine aV bK ?_
   obtain rfl:=aA h
   exact hK _ _ _ _ _ aJ ak kn
theorem xY {i5:Int} {dA:Int} {s1:List UInt8} {H:AH} {K:Exit→Env→AH→Prop} {t14:Bool}
 (h:l8 i5 dA s1=some t14)
 (kn:K .normal [(0,(.str s1)),(3,(.int .i64 (IntKind.wrap .i64 ((IntKind.wrap .i64 (i5+1))+dA)))),(50,(.bool t14))] H):
 AX Tryz.prog fQ 65 H.length (erase qH) K [(0,(.str s1)),(3,(.int .i64 (IntKind.wrap .i64 ((IntKind.wrap .i64 (i5+1))+dA))))] H:=by
 refine bT fun K' hK=> ?_
 rw [l8.eq_1] at h
 refine aC ?_
 refine bR h (fun dX h=> ?_) fun dX h=> ?_
 · obtain ⟨gu,eW,h⟩:=aq h
   refine aV (aI dX eW) ?_
   obtain rfl:=aA h
   exact hK _ _ _ _ _ aJ ak kn
 · refine aV dX ?_
   obtain rfl:=aA h
   exact hK _ _ _ _ _ aJ ak kn
theorem xZ {s1:List UInt8} {i5:Int} {dA:Int} {H:AH} {K:Exit→Env→AH→Prop} {t17:Bool}
 (h:l9 s1 i5 dA=some t17)
 (kn:K .normal [(0,(.str s1)),(3,(.int .i64 (IntKind.wrap .i64 ((IntKind.wrap .i64 (i5+1))+dA)))),(62,(.bool t17))] H):
 AX Tryz.prog fQ 65 H.length (erase qI) K [(0,(.str s1)),(3,(.int .i64 (IntKind.wrap .i64 ((IntKind.wrap .i64 (i5+1))+dA))))] H:=by
 refine bT fun K' hK=> ?_
 rw [l9.eq_1] at h
 refine aC ?_
 refine bR h (fun gv h=> ?_) fun gv h=> ?_
 · refine aV gv ?_
   obtain rfl:=aA h
   exact hK _ _ _ _ _ aJ ak kn
 · obtain ⟨ng,fM,h⟩:=aq h
   refine aV (aI gv fM) ?_
   obtain rfl:=aA h
   exact hK _ _ _ _ _ aJ ak kn
theorem ya {F:Nat} {i5:Int} {s1:List UInt8} {H:AH} {K:Exit→Env→AH→Prop} {o:(Int)⊕(Unit)}
 (h:iter (mb F s1) F i5=some o)
 (c8:∀o':Unit,o= .inr o'→K (.exit 0) [] H)
 (kr:∀o':Int,o= .inl o'→K .ret [(2,(.int .i64 o'))] H):
 AX Tryz.prog fQ 65 H.length (.loop (erase oX)) K [(0,(.str s1)),(3,(.int .i64 i5))] H:=by
 refine gH (fun s e H1=>match s with|i5=>e=[(0,(.str s1)),(3,(.int .i64 i5))]∧H1=H) h ⟨rfl,rfl⟩ ?_
 rintro K' i5 st e H ⟨rfl,rfl⟩ h hN hB hR hX
 rw [mb.eq_1] at h
 refine aC ?_
 obtain ⟨t8,cD,h⟩:=aq h
 refine bz ak (xX cD ?_)
 refine aC ?_
 refine bl h (fun ct h=> ?_) fun ct h=> ?_
 · obtain ⟨x9,cQ,h⟩:=aq h
   refine aV cQ ?_
   obtain ⟨dA,cc,h⟩:=aq h
   refine bB ak (sM cc) ?_
   refine aC ?_
   obtain ⟨fD,cy,h⟩:=aq h
   refine aV cy ?_
   obtain ⟨gI,cK,h⟩:=aq h
   refine bB ak (uD cK) ?_
   refine aC ?_
   refine bl h (fun cG h=> ?_) fun cG h=> ?_
   · refine aC ?_
     obtain rfl:=aA h
     exact hX _ _ _ _ _ c6 aJ ak (kr _ (hR _ rfl))
   · refine aC ?_
     obtain ⟨t15,ek,h⟩:=aq h
     refine bz ak (xY ek ?_)
     refine aC ?_
     refine bl h (fun ic h=> ?_) fun ic h=> ?_
     · refine aC ?_
       obtain rfl:=aA h
       exact hX _ _ _ _ _ c6 aJ ak (kr _ (hR _ rfl))
     · refine aC ?_
       obtain ⟨t18,fN,h⟩:=aq h
       refine bz ak (xZ fN ?_)
       refine aC ?_
       refine bl h (fun gw h=> ?_) fun gw h=> ?_
       · refine aC ?_
         obtain rfl:=aA h
         exact hX _ _ _ _ _ c6 aJ ak (kr _ (hR _ rfl))
       · refine aC ?_
         obtain rfl:=aA h
         exact hN _ rfl _ _ _ _ aJ ak ⟨rfl,rfl⟩
 · refine aC ?_
   obtain rfl:=aA h
   exact hX _ _ _ _ _ c6 WE.nil ak (c8 _ (hB _ rfl))
theorem BY {F:Nat} {s1:List UInt8} {H0:AH} {aP:Int} (h:tT F s1=some aP):
 aF Tryz.prog 76 [(.str s1)] H0 fun v H'=>v=(.int .i64 aP)∧H'=H0:=by
 refine fe Dt fQ fun hcl K0 aN=> ?_
 rw [tT.eq_1] at h
 refine aC ?_
 obtain ⟨t4,hy3,h⟩:=aq h
 refine bz ak (xW hy3 ?_)
 refine aC ?_
 refine bl h (fun hy4 h=> ?_) fun hy4 h=> ?_
 · refine aC ?_
   obtain rfl:=aA h
   exact aN _ _ _ bk (aK hcl (aW bf (.int .i64 0)) bg aX ⟨rfl,rfl⟩)
 · refine aC ?_
   obtain ⟨o21,ie,h⟩:=aq h
   refine bz ak (ya ie ?_ ?_)
   · rintro ⟨⟩ rfl
     try dsimp only at h
     refine aC ?_
     obtain rfl:=aA h
     exact aN _ _ _ bk (aK hcl (aW bf (.int .i64 (-1))) bg aX ⟨rfl,rfl⟩)
   · rintro lz rfl
     try dsimp only at h
     refine aC ?_
     obtain rfl:=aA h
     exact aN _ _ _ bk (aK hcl (aW bf (.int .i64 lz)) bg aX ⟨rfl,rfl⟩)
abbrev qJ:av:=(.rg [(au 5 0),(aj 6 (.call (.c (.fn 75 [])) [(.t 5)])),(au 7 6),(ax 8 (.mv (.t 0)) 7 false),(ax 9 (.call (.c (.fn 74 [])) [(.t 8)]) 7 false),(aj 10 (.pick (.t 7) (.c (.bool true)) (.t 9)))])
abbrev oY:av:=(.seq (.seq (.rg [(au 11 4),(au 12 3),(aj 13 (.lens (.t 12))),(aj 14 (.bin .lss (.t 11) (.t 13)))]) (.cond (.t 14) .skip (.exit 0))) (.seq (.blk 1 (.seq (.rg [(au 17 3),(au 18 4),(aj 19 (.ixs (.t 17) (.t 18))),(au 20 0),(aj 21 (.bin .eql (.t 19) (.t 20)))]) (.cond (.t 21) (.seq (.rg [(aj 2 (.aO (.c (.bool true))))]) .ret) .skip))) (.rg [(au 15 4),(aj 16 (.bin .add (.t 15) (.c (.int .i64 1)))),(aQ 4 16)])))
abbrev Du:av:=(.seq (.rg [(aj 2 (.aO (.c (.bool false))))]) (.seq (.seq (.sem (erase qJ)) (.cond (.t 10) (.seq (.rg [(aj 2 (.aO (.c (.bool true))))]) .ret) .skip)) (.seq (.rg [(aj 3 (.aO (.c (.str [33,35,36,37,38,39,42,43,45,47,61,63,94,95,123,124,125,126]))))]) (.seq (.seq (.rg [(aj 4 (.aO (.c (.int .i64 0))))]) (.blk 0 (.loop (erase oY)))) (.seq (.rg [(au 22 0),(aj 23 (.bin .eql (.t 22) (.c (b8 96)))),(aQ 2 23)]) .ret)))))
theorem Dv:bM Tryz.prog 107 24 [(.tmp 2)] (erase Du):=⟨Tryz.f107,_,rfl,by decide,rfl,by kernel_rfl,rfl,rfl⟩
abbrev oZ:List Nat:=[0,2,3,4,10,14,21]
def mc (c1:UInt8):Option (Bool):=
 (eR c1).bind fun r2=>
 (if r2 then
  some true
 else
  (eK c1).bind fun r3=>some r3)
def me (c1:UInt8):Int→Option (St Bool Unit Int)
 |i6=>
  (if (decide (i6<(([33,35,36,37,38,39,42,43,45,47,61,63,94,95,123,124,125,126]:List UInt8).length:Int))) then
   (idx ([33,35,36,37,38,39,42,43,45,47,61,63,94,95,123,124,125,126]:List UInt8) i6).bind fun x7=>
   (if (decide (x7=c1)) then
    some (.ret true)
   else
    some (.cU (IntKind.wrap .i64 (i6+1))))
  else
   some (.dW ()))
def nM (F:Nat) (c1:UInt8):Option (Bool):=
 (mc c1).bind fun t5=>
 (if t5 then
  some true
 else
  ((iter (me c1) F 0).bind fun Tz=>
  match Tz with
  | .inr ()=>
    some (decide (c1=96))
  | .inl r9=>
    some r9))
theorem yb {c1:UInt8} {H:AH} {K:Exit→Env→AH→Prop} {t4:Bool}
 (h:mc c1=some t4)
 (kn:K .normal [(0,(b8 c1)),(10,(.bool t4))] H):
 AX Tryz.prog oZ 24 H.length (erase qJ) K [(0,(b8 c1))] H:=by
 refine bT fun K' hK=> ?_
 rw [mc.eq_1] at h
 refine aC ?_
 obtain ⟨r2,hy1,h⟩:=aq h
 refine bB ak (iG hy1) ?_
 refine aC ?_
 refine bR h (fun hy2 h=> ?_) fun hy2 h=> ?_
 · refine aV hy2 ?_
   obtain rfl:=aA h
   exact hK _ _ _ _ _ aJ ak kn
 · refine aV hy2 ?_
   obtain ⟨r3,hy3,h⟩:=aq h
   refine bB ak (gx hy3) ?_
   refine aC ?_
   obtain rfl:=aA h
   exact hK _ _ _ _ _ aJ ak kn
theorem yc {F:Nat} {i6:Int} {c1:UInt8} {H:AH} {K:Exit→Env→AH→Prop} {o:(Bool)⊕(Unit)}
 (h:iter (me c1) F i6=some o)
 (c8:∀o':Unit,o= .inr o'→K (.exit 0) [(0,(b8 c1))] H)
 (kr:∀o':Bool,o= .inl o'→K .ret [(2,(.bool o'))] H):
 AX Tryz.prog oZ 24 H.length (.loop (erase oY)) K [(0,(b8 c1)),(3,(.str ([33,35,36,37,38,39,42,43,45,47,61,63,94,95,123,124,125,126]:List UInt8))),(4,(.int .i64 i6))] H:=by
 refine gH (fun s e H1=>match s with|i6=>e=[(0,(b8 c1)),(3,(.str ([33,35,36,37,38,39,42,43,45,47,61,63,94,95,123,124,125,126]:List UInt8))),(4,(.int .i64 i6))]∧H1=H) h ⟨rfl,rfl⟩ ?_
 rintro K' i6 st e H ⟨rfl,rfl⟩ h hN hB hR hX
 rw [me.eq_1] at h
 refine aC ?_
 refine bl h (fun bY h=> ?_) fun bY h=> ?_
 · obtain ⟨x7,cD,h⟩:=aq h
   refine aV cD ?_
   refine bl h (fun ct h=> ?_) fun ct h=> ?_
   · refine aC ?_
     obtain rfl:=aA h
     exact hX _ _ _ _ _ c6 aJ ak (kr _ (hR _ rfl))
   · refine aC ?_
     obtain rfl:=aA h
     exact hN _ rfl _ _ _ _ aJ ak ⟨rfl,rfl⟩
 · refine aC ?_
   obtain rfl:=aA h
   exact hX _ _ _ _ _ c6 aJ ak (c8 _ (hB _ rfl))
theorem uE {F:Nat} {c1:UInt8} {H0:AH} {aP:Bool} (h:nM F c1=some aP):
 aF Tryz.prog 107 [(b8 c1)] H0 fun v H'=>v=(.bool aP)∧H'=H0:=by
 refine fe Dv oZ fun hcl K0 aN=> ?_
 rw [nM.eq_1] at h
 refine aC ?_
 obtain ⟨t5,hy4,h⟩:=aq h
 refine bz ak (yb hy4 ?_)
 refine aC ?_
 refine bl h (fun bK h=> ?_) fun bK h=> ?_
 · refine aC ?_
   obtain rfl:=aA h
   exact aN _ _ _ bk (aK hcl (aW bf (.bool true)) bg aX ⟨rfl,rfl⟩)
 · refine aC ?_
   obtain ⟨Tz,cQ,h⟩:=aq h
   refine bz ak (yc cQ ?_ ?_)
   · rintro ⟨⟩ rfl
     try dsimp only at h
     refine aC ?_
     obtain rfl:=aA h
     exact aN _ _ _ bk (aK hcl (aW bf (.bool (decide (c1=96)))) bg aX ⟨rfl,rfl⟩)
   · rintro r9 rfl
     try dsimp only at h
     refine aC ?_
     obtain rfl:=aA h
     exact aN _ _ _ bk (aK hcl (aW bf (.bool r9)) bg aX ⟨rfl,rfl⟩)
abbrev qK:av:=(.rg [(au 11 0),(au 12 3),(aj 13 (.ixs (.t 11) (.t 12))),(aj 14 (.bin .eql (.t 13) (.c (b8 46)))),(au 15 14),(ax 16 (.mv (.t 3)) 15 true),(ax 17 (.bin .gtr (.t 16) (.c (.int .i64 0))) 15 true),(aj 18 (.pick (.t 15) (.t 17) (.c (.bool false)))),(au 19 18),(ax 20 (.mv (.t 3)) 19 true),(ax 21 (.bin .add (.t 20) (.c (.int .i64 1))) 19 true),(ax 22 (.mv (.t 0)) 19 true),(ax 23 (.lens (.t 22)) 19 true),(ax 24 (.bin .lss (.t 21) (.t 23)) 19 true),(aj 25 (.pick (.t 19) (.t 24) (.c (.bool false)))),(au 26 25),(ax 27 (.mv (.t 0)) 26 true),(ax 28 (.mv (.t 3)) 26 true),(ax 29 (.bin .sub (.t 28) (.c (.int .i64 1))) 26 true),(ax 30 (.ixs (.t 27) (.t 29)) 26 true),(ax 31 (.bin .neq (.t 30) (.c (b8 46))) 26 true),(aj 32 (.pick (.t 26) (.t 31) (.c (.bool false)))),(aQ 4 32)])
abbrev qM:av:=(.rg [(au 33 4),(aj 34 (.un .not (.t 33))),(au 35 34),(ax 36 (.mv (.t 0)) 35 true),(ax 37 (.mv (.t 3)) 35 true),(ax 38 (.ixs (.t 36) (.t 37)) 35 true),(ax 39 (.call (.c (.fn 107 [])) [(.t 38)]) 35 true),(ax 40 (.un .not (.t 39)) 35 true),(aj 41 (.pick (.t 35) (.t 40) (.c (.bool false))))])
abbrev o5:av:=(.seq (.seq (.rg [(au 5 3),(au 6 0),(aj 7 (.lens (.t 6))),(aj 8 (.bin .lss (.t 5) (.t 7)))]) (.cond (.t 8) .skip (.exit 0))) (.seq (.blk 1 (.seq (.sem (erase qK)) (.seq (.sem (erase qM)) (.cond (.t 41) (.seq (.rg [(aj 2 (.aO (.c (.bool false))))]) .ret) .skip)))) (.rg [(au 9 3),(aj 10 (.bin .add (.t 9) (.c (.int .i64 1)))),(aQ 3 10)])))
abbrev Dw:av:=(.seq (.rg [(aj 2 (.aO (.c (.bool false))))]) (.seq (.seq (.rg [(aj 3 (.aO (.c (.int .i64 0))))]) (.blk 0 (.loop (erase o5)))) (.seq (.rg [(au 42 0),(aj 43 (.bin .neq (.t 42) (.c (.str [])))),(aQ 2 43)]) .ret)))
theorem Dx:bM Tryz.prog 84 44 [(.tmp 2)] (erase Dw):=⟨Tryz.f84,_,rfl,by decide,rfl,by kernel_rfl,rfl,rfl⟩
abbrev j0:List Nat:=[0,2,3,4,8,41]
def mg (s1:List UInt8) (i2:Int):Option (Bool):=
 (idx s1 i2).bind fun x3=>
 (if (decide (x3=46)) then
  (if (decide (0<i2)) then
   (if (decide ((IntKind.wrap .i64 (i2+1))<(s1.length:Int))) then
    (idx s1 (IntKind.wrap .i64 (i2 - 1))).bind fun x4=>some (!decide (x4=46))
   else
    some false)
  else
   some false)
 else
  some false)
def mh (F:Nat) (Dy:Bool) (s1:List UInt8) (i2:Int):Option (Bool):=
 (if (!Dy) then
  (idx s1 i2).bind fun x7=>(nM F x7).bind fun r8=>some (!r8)
 else
  some false)
def mj (F:Nat) (s1:List UInt8):Int→Option (St Bool Unit Int)
 |i2=>
  (if (decide (i2<(s1.length:Int))) then
   (mg s1 i2).bind fun Dy=>
   (mh F Dy s1 i2).bind fun t10=>
   (if t10 then
    some (.ret false)
   else
    some (.cU (IntKind.wrap .i64 (i2+1))))
  else
   some (.dW ()))
def nN (F:Nat) (s1:List UInt8):Option (Bool):=
 ((iter (mj F s1) F 0).bind fun Tw=>
 match Tw with
 | .inr ()=>
   some (!decide (s1=([]:List UInt8)))
 | .inl gI=>
   some gI)
theorem yd {s1:List UInt8} {i2:Int} {H:AH} {K:Exit→Env→AH→Prop} {Xm:Bool}
 (h:mg s1 i2=some Xm)
 (kn:K .normal [(0,(.str s1)),(3,(.int .i64 i2)),(4,(.bool Xm))] H):
 AX Tryz.prog j0 44 H.length (erase qK) K [(0,(.str s1)),(3,(.int .i64 i2))] H:=by
 refine bT fun K' hK=> ?_
 rw [mg.eq_1] at h
 obtain ⟨x3,hy2,h⟩:=aq h
 refine aV hy2 ?_
 refine bR h (fun hy3 h=> ?_) fun hy3 h=> ?_
 · refine aV hy3 ?_
   refine bR h (fun hy4 h=> ?_) fun hy4 h=> ?_
   · refine aV hy4 ?_
     refine bR h (fun bK h=> ?_) fun bK h=> ?_
     · obtain ⟨x4,bY,h⟩:=aq h
       refine aV (aI bK bY) ?_
       obtain rfl:=aA h
       exact hK _ _ _ _ _ aJ ak kn
     · refine aV bK ?_
       obtain rfl:=aA h
       exact hK _ _ _ _ _ aJ ak kn
   · refine aV hy4 ?_
     obtain rfl:=aA h
     exact hK _ _ _ _ _ aJ ak kn
 · refine aV hy3 ?_
   obtain rfl:=aA h
   exact hK _ _ _ _ _ aJ ak kn
theorem ye {F:Nat} {Dy:Bool} {s1:List UInt8} {i2:Int} {H:AH} {K:Exit→Env→AH→Prop} {t9:Bool}
 (h:mh F Dy s1 i2=some t9)
 (kn:K .normal [(0,(.str s1)),(3,(.int .i64 i2)),(41,(.bool t9))] H):
 AX Tryz.prog j0 44 H.length (erase qM) K [(0,(.str s1)),(3,(.int .i64 i2)),(4,(.bool Dy))] H:=by
 refine bT fun K' hK=> ?_
 rw [mh.eq_1] at h
 refine aC ?_
 refine bR h (fun ct h=> ?_) fun ct h=> ?_
 · obtain ⟨x7,cQ,h⟩:=aq h
   refine aV (aI ct cQ) ?_
   obtain ⟨r8,cc,h⟩:=aq h
   refine bB ak (uE cc) ?_
   refine aC ?_
   obtain rfl:=aA h
   exact hK _ _ _ _ _ aJ ak kn
 · refine aV ct ?_
   obtain rfl:=aA h
   exact hK _ _ _ _ _ aJ ak kn
theorem yf {F:Nat} {i2:Int} {s1:List UInt8} {H:AH} {K:Exit→Env→AH→Prop} {o:(Bool)⊕(Unit)}
 (h:iter (mj F s1) F i2=some o)
 (c8:∀o':Unit,o= .inr o'→K (.exit 0) [(0,(.str s1))] H)
 (kr:∀o':Bool,o= .inl o'→K .ret [(2,(.bool o'))] H):
 AX Tryz.prog j0 44 H.length (.loop (erase o5)) K [(0,(.str s1)),(3,(.int .i64 i2))] H:=by
 refine gH (fun s e H1=>match s with|i2=>e=[(0,(.str s1)),(3,(.int .i64 i2))]∧H1=H) h ⟨rfl,rfl⟩ ?_
 rintro K' i2 st e H ⟨rfl,rfl⟩ h hN hB hR hX
 rw [mj.eq_1] at h
 refine aC ?_
 refine bl h (fun hy1 h=> ?_) fun hy1 h=> ?_
 · refine aC ?_
   obtain ⟨Dy,cD,h⟩:=aq h
   refine bz ak (yd cD ?_)
   refine aC ?_
   obtain ⟨t10,cy,h⟩:=aq h
   refine bz ak (ye cy ?_)
   refine aC ?_
   refine bl h (fun cK h=> ?_) fun cK h=> ?_
   · refine aC ?_
     obtain rfl:=aA h
     exact hX _ _ _ _ _ c6 aJ ak (kr _ (hR _ rfl))
   · refine aC ?_
     obtain rfl:=aA h
     exact hN _ rfl _ _ _ _ aJ ak ⟨rfl,rfl⟩
 · refine aC ?_
   obtain rfl:=aA h
   exact hX _ _ _ _ _ c6 aJ ak (c8 _ (hB _ rfl))
theorem uF {F:Nat} {s1:List UInt8} {H0:AH} {aP:Bool} (h:nN F s1=some aP):
 aF Tryz.prog 84 [(.str s1)] H0 fun v H'=>v=(.bool aP)∧H'=H0:=by
 refine fe Dx j0 fun hcl K0 aN=> ?_
 rw [nN.eq_1] at h
 refine aC ?_
 obtain ⟨Tw,cG,h⟩:=aq h
 refine bz ak (yf cG ?_ ?_)
 · rintro ⟨⟩ rfl
   try dsimp only at h
   refine aC ?_
   obtain rfl:=aA h
   exact aN _ _ _ bk (aK hcl (aW bf (.bool (!decide (s1=([]:List UInt8))))) bg aX ⟨rfl,rfl⟩)
 · rintro gI rfl
   try dsimp only at h
   refine aC ?_
   obtain rfl:=aA h
   exact aN _ _ _ bk (aK hcl (aW bf (.bool gI)) bg aX ⟨rfl,rfl⟩)
abbrev qN:av:=(.rg [(au 7 0),(aj 8 (.bin .neq (.t 7) (.c (.str [])))),(au 9 8),(ax 10 (.mv (.t 0)) 9 true),(ax 11 (.ixs (.t 10) (.c (.int .i64 0))) 9 true),(ax 12 (.bin .eql (.t 11) (.c (b8 34))) 9 true),(aj 13 (.pick (.t 9) (.t 12) (.c (.bool false))))])
abbrev qO:av:=(.rg [(au 14 5),(au 15 0),(aj 16 (.lens (.t 15))),(aj 17 (.bin .lss (.t 14) (.t 16))),(au 18 17),(ax 19 (.mv (.t 0)) 18 true),(ax 20 (.mv (.t 5)) 18 true),(ax 21 (.ixs (.t 19) (.t 20)) 18 true),(ax 22 (.bin .neq (.t 21) (.c (b8 34))) 18 true),(aj 23 (.pick (.t 18) (.t 22) (.c (.bool false))))])
abbrev qP:av:=(.cond (.t 27) (.rg [(au 28 5),(aj 29 (.bin .add (.t 28) (.c (.int .i64 1)))),(aQ 5 29)]) .skip)
abbrev qQ:av:=(.rg [(au 30 5),(au 31 0),(aj 32 (.lens (.t 31))),(aj 33 (.bin .geq (.t 30) (.t 32))),(au 34 33),(ax 35 (.mv (.t 0)) 34 false),(ax 36 (.mv (.t 5)) 34 false),(ax 37 (.ixs (.t 35) (.t 36)) 34 false),(ax 38 (.bin .lss (.t 37) (.c (b8 32))) 34 false),(aj 39 (.pick (.t 34) (.c (.bool true)) (.t 38))),(au 40 39),(ax 41 (.mv (.t 0)) 40 false),(ax 42 (.mv (.t 5)) 40 false),(ax 43 (.ixs (.t 41) (.t 42)) 40 false),(ax 44 (.bin .gtr (.t 43) (.c (b8 126))) 40 false),(aj 45 (.pick (.t 40) (.c (.bool true)) (.t 44)))])
abbrev o6:av:=(.seq (.seq (.sem (erase qO)) (.cond (.t 23) .skip (.exit 0))) (.blk 1 (.seq (.seq (.rg [(au 24 0),(au 25 5),(aj 26 (.ixs (.t 24) (.t 25))),(aj 27 (.bin .eql (.t 26) (.c (b8 92))))]) (.sem (erase qP))) (.seq (.seq (.sem (erase qQ)) (.cond (.t 45) (.seq (.rg [(aj 2 (.aO (.c (.str [])))),(aj 3 (.aO (.c (.int .i64 (-1)))))]) .ret) .skip)) (.seq (.rg [(au 46 4),(au 47 0),(au 48 5),(aj 49 (.ixs (.t 47) (.t 48))),(aj 50 (.rX 1 [(.t 49)])),(aj 51 (.app 1 1 (.t 46) (.t 50))),(aQ 4 51)]) (.rg [(au 52 5),(aj 53 (.bin .add (.t 52) (.c (.int .i64 1)))),(aQ 5 53)]))))))
abbrev qR:av:=(.rg [(au 54 5),(au 55 0),(aj 56 (.lens (.t 55))),(aj 57 (.bin .geq (.t 54) (.t 56))),(au 58 57),(ax 59 (.mv (.t 4)) 58 false),(ax 60 (.len (.t 59)) 58 false),(ax 61 (.bin .eql (.t 60) (.c (.int .i64 0))) 58 false),(aj 62 (.pick (.t 58) (.c (.bool true)) (.t 61)))])
abbrev qS:av:=(.rg [(au 67 6),(au 68 0),(aj 69 (.lens (.t 68))),(aj 70 (.bin .lss (.t 67) (.t 69))),(au 71 70),(ax 72 (.mv (.t 0)) 71 true),(ax 73 (.mv (.t 6)) 71 true),(ax 74 (.ixs (.t 72) (.t 73)) 71 true),(ax 75 (.call (.c (.fn 107 [])) [(.t 74)]) 71 true),(ax 76 (.mv (.t 75)) 71 true),(ax 77 (.mv (.t 0)) 76 false),(ax 78 (.mv (.t 6)) 76 false),(ax 79 (.ixs (.t 77) (.t 78)) 76 false),(ax 80 (.bin .eql (.t 79) (.c (b8 46))) 76 false),(ax 81 (.pick (.t 76) (.c (.bool true)) (.t 80)) 71 true),(aj 82 (.pick (.t 71) (.t 81) (.c (.bool false))))])
abbrev pg:av:=(.seq (.seq (.sem (erase qS)) (.cond (.t 82) .skip (.exit 2))) (.blk 3 (.rg [(au 83 6),(aj 84 (.bin .add (.t 83) (.c (.int .i64 1)))),(aQ 6 84)])))
abbrev Dz:av:=(.seq (.rg [(aj 2 (.aO (.c (.str [])))),(aj 3 (.aO (.c (.int .i64 0))))]) (.seq (.seq (.sem (erase qN)) (.cond (.t 13) (.seq (.rg [(aj 4 (.aO (.c (.sl .ex 1 []))))]) (.seq (.rg [(aj 5 (.aO (.c (.int .i64 1))))]) (.seq (.blk 0 (.loop (erase o6))) (.seq (.seq (.sem (erase qR)) (.cond (.t 62) (.seq (.rg [(aj 2 (.aO (.c (.str [])))),(aj 3 (.aO (.c (.int .i64 (-1)))))]) .ret) .skip)) (.seq (.rg [(au 63 4),(aj 64 (.jH .bs (.t 63))),(au 65 5),(aj 66 (.bin .add (.t 65) (.c (.int .i64 1)))),(aQ 2 64),(aQ 3 66)]) .ret))))) .skip)) (.seq (.rg [(aj 6 (.aO (.c (.int .i64 0))))]) (.seq (.blk 2 (.loop (erase pg))) (.seq (.seq (.rg [(au 85 0),(au 86 6),(aj 87 (.gj (.t 85) none (some (.t 86)))),(aj 88 (.call (.c (.fn 84 [])) [(.t 87)])),(aj 89 (.un .not (.t 88)))]) (.cond (.t 89) (.seq (.rg [(aj 2 (.aO (.c (.str [])))),(aj 3 (.aO (.c (.int .i64 (-1)))))]) .ret) .skip)) (.seq (.rg [(au 90 0),(au 91 6),(aj 92 (.gj (.t 90) none (some (.t 91)))),(au 93 6),(aQ 2 92),(aQ 3 93)]) .ret))))))
theorem DA:bM Tryz.prog 77 94 [(.tmp 2),(.tmp 3)] (erase Dz):=⟨Tryz.f77,_,rfl,by decide,rfl,by kernel_rfl,rfl,rfl⟩
abbrev dN:List Nat:=[0,2,3,4,5,6,13,23,27,45,62,82,89]
def mo (s1:List UInt8):Option (Bool):=
 (if (!decide (s1=([]:List UInt8))) then
  (idx s1 0).bind fun x2=>some (decide (x2=34))
 else
  some false)
def mq (i6:Int) (s1:List UInt8):Option (Bool):=
 (if (decide (i6<(s1.length:Int))) then
  (idx s1 i6).bind fun x7=>some (!decide (x7=34))
 else
  some false)
def mu (wN:UInt8) (i6:Int):Option (Int):=
 (if (decide (wN=92)) then
  some (IntKind.wrap .i64 (i6+1))
 else
  some i6)
def mw (s1:List UInt8) (i12:Int):Option (Bool):=
 (if (decide ((s1.length:Int)≤i12)) then
  some true
 else
  (idx s1 i12).bind fun gu=>
  (if (decide (gu<32)) then
   some true
  else
   some (decide (126<gu))))
def mz (s1:List UInt8):((List UInt8)×Int)→Option (St ((List UInt8)×Int) ((List UInt8)×Int) ((List UInt8)×Int))
 |(b5,i6)=>
  (mq i6 s1).bind fun t9=>
  (if t9 then
   (idx s1 i6).bind fun wN=>
   (mu wN i6).bind fun i12=>
   (mw s1 i12).bind fun t15=>
   (if t15 then
    some (.ret (([]:List UInt8),(-1)))
   else
    (idx s1 i12).bind fun ng=>
    (eN 1 b5 ([ng]:List UInt8)).bind fun tP=>some (.cU (tP,(IntKind.wrap .i64 (i12+1)))))
  else
   some (.dW (b5,i6)))
def mA (F:Nat) (mU:Int) (s1:List UInt8):Option (Bool):=
 (if (decide (mU<(s1.length:Int))) then
  (idx s1 mU).bind fun A1=>
  (nM F A1).bind fun G7=>(if G7 then
   some true
  else
   some (decide (A1=46)))
 else
  some false)
def mB (F:Nat) (s1:List UInt8):Int→Option (St ((List UInt8)×Int) Int Int)
 |mU=>
  (mA F mU s1).bind fun t31=>
  (if t31 then
   some (.cU (IntKind.wrap .i64 (mU+1)))
  else
   some (.dW mU))
def tU (F:Nat) (s1:List UInt8):Option ((List UInt8)×Int):=
 (mo s1).bind fun t4=>
 (if t4 then
  ((iter (mz s1) F (([]:List UInt8),1)).bind fun Ty=>
  match Ty with
  | .inr (EI,i23)=>
    (if ((decide ((s1.length:Int)≤i23))||(decide ((EI.length:Int)=0))) then
     some (([]:List UInt8),(-1))
    else
     some (EI,(IntKind.wrap .i64 (i23+1))))
  | .inl (Qc,L7)=>
    some (Qc,L7))
 else
  ((iter (mB F s1) F 0).bind fun Tv=>
  match Tv with
  | .inr Nc=>
    (sub s1 0 Nc).bind fun Wb=>
    (nN F Wb).bind fun Qa=>
    (if (!Qa) then
     some (([]:List UInt8),(-1))
    else
     some (Wb,Nc))
  | .inl _=>none))
theorem yg {s1:List UInt8} {H:AH} {K:Exit→Env→AH→Prop} {t3:Bool}
 (h:mo s1=some t3)
 (kn:K .normal [(0,(.str s1)),(13,(.bool t3))] H):
 AX Tryz.prog dN 94 H.length (erase qN) K [(0,(.str s1))] H:=by
 refine bT fun K' hK=> ?_
 rw [mo.eq_1] at h
 refine aC ?_
 refine bR h (fun hy1 h=> ?_) fun hy1 h=> ?_
 · obtain ⟨x2,hy2,h⟩:=aq h
   refine aV (aI hy1 hy2) ?_
   obtain rfl:=aA h
   exact hK _ _ _ _ _ aJ ak kn
 · refine aV hy1 ?_
   obtain rfl:=aA h
   exact hK _ _ _ _ _ aJ ak kn
theorem yh {i6:Int} {s1:List UInt8} {b5:List UInt8} {H:AH} {K:Exit→Env→AH→Prop} {t8:Bool}
 (h:mq i6 s1=some t8)
 (kn:K .normal [(0,(.str s1)),(4,(.sl .own 1 (ml b8 b5))),(5,(.int .i64 i6)),(23,(.bool t8))] H):
 AX Tryz.prog dN 94 H.length (erase qO) K [(0,(.str s1)),(4,(.sl .own 1 (ml b8 b5))),(5,(.int .i64 i6))] H:=by
 refine bT fun K' hK=> ?_
 rw [mq.eq_1] at h
 refine aC ?_
 refine bR h (fun bK h=> ?_) fun bK h=> ?_
 · obtain ⟨x7,bY,h⟩:=aq h
   refine aV (aI bK bY) ?_
   obtain rfl:=aA h
   exact hK _ _ _ _ _ aJ ak kn
 · refine aV bK ?_
   obtain rfl:=aA h
   exact hK _ _ _ _ _ aJ ak kn
theorem yj {wN:UInt8} {i6:Int} {s1:List UInt8} {b5:List UInt8} {H:AH} {K:Exit→Env→AH→Prop} {i11:Int}
 (h:mu wN i6=some i11)
 (kn:K .normal [(0,(.str s1)),(4,(.sl .own 1 (ml b8 b5))),(5,(.int .i64 i11))] H):
 AX Tryz.prog dN 94 H.length (erase qP) K [(0,(.str s1)),(4,(.sl .own 1 (ml b8 b5))),(5,(.int .i64 i6)),(27,(.bool (decide (wN=92))))] H:=by
 refine bT fun K' hK=> ?_
 rw [mu.eq_1] at h
 refine aC ?_
 refine bl h (fun cc h=> ?_) fun cc h=> ?_
 · refine aC ?_
   obtain rfl:=aA h
   exact hK _ _ _ _ _ aJ ak kn
 · refine aC ?_
   obtain rfl:=aA h
   exact hK _ _ _ _ _ aJ ak kn
theorem yl {s1:List UInt8} {i12:Int} {b5:List UInt8} {H:AH} {K:Exit→Env→AH→Prop} {t14:Bool}
 (h:mw s1 i12=some t14)
 (kn:K .normal [(0,(.str s1)),(4,(.sl .own 1 (ml b8 b5))),(5,(.int .i64 i12)),(45,(.bool t14))] H):
 AX Tryz.prog dN 94 H.length (erase qQ) K [(0,(.str s1)),(4,(.sl .own 1 (ml b8 b5))),(5,(.int .i64 i12))] H:=by
 refine bT fun K' hK=> ?_
 rw [mw.eq_1] at h
 refine aC ?_
 refine bR h (fun cK h=> ?_) fun cK h=> ?_
 · refine aV cK ?_
   obtain rfl:=aA h
   exact hK _ _ _ _ _ aJ ak kn
 · obtain ⟨gu,cG,h⟩:=aq h
   refine aV (aI cK cG) ?_
   refine bR h (fun dX h=> ?_) fun dX h=> ?_
   · refine aV dX ?_
     obtain rfl:=aA h
     exact hK _ _ _ _ _ aJ ak kn
   · refine aV (aI dX cG) ?_
     obtain rfl:=aA h
     exact hK _ _ _ _ _ aJ ak kn
theorem ym {F:Nat} {i6:Int} {s1:List UInt8} {b5:List UInt8} {H:AH} {K:Exit→Env→AH→Prop} {o:((List UInt8)×Int)⊕((List UInt8)×Int)}
 (h:iter (mz s1) F (b5,i6)=some o)
 (c8:∀o':(List UInt8)×Int,o= .inr o'→K (.exit 0) [(0,(.str s1)),(4,(.sl .own 1 (ml b8 o'.1))),(5,(.int .i64 o'.2))] H)
 (kr:∀o':(List UInt8)×Int,o= .inl o'→K .ret [(2,(.str o'.1)),(3,(.int .i64 o'.2))] H):
 AX Tryz.prog dN 94 H.length (.loop (erase o6)) K [(0,(.str s1)),(4,(.sl .own 1 (ml b8 b5))),(5,(.int .i64 i6))] H:=by
 refine gH (fun s e H1=>match s with|(b5,i6)=>e=[(0,(.str s1)),(4,(.sl .own 1 (ml b8 b5))),(5,(.int .i64 i6))]∧H1=H) h ⟨rfl,rfl⟩ ?_
 rintro K' ⟨b5,i6⟩ st e H ⟨rfl,rfl⟩ h hN hB hR hX
 rw [mz.eq_1] at h
 refine aC ?_
 obtain ⟨t9,cD,h⟩:=aq h
 refine bz ak (yh (b5:=b5) cD ?_)
 refine aC ?_
 refine bl h (fun ct h=> ?_) fun ct h=> ?_
 · obtain ⟨wN,cQ,h⟩:=aq h
   refine aV cQ ?_
   obtain ⟨i12,cy,h⟩:=aq h
   refine bz ak (yj (s1:=s1) (b5:=b5) cy ?_)
   refine aC ?_
   obtain ⟨t15,eW,h⟩:=aq h
   refine bz ak (yl (b5:=b5) eW ?_)
   refine aC ?_
   refine bl h (fun ek h=> ?_) fun ek h=> ?_
   · refine aC ?_
     obtain rfl:=aA h
     exact hX _ _ _ _ _ c6 aJ ak (kr _ (hR _ rfl))
   · obtain ⟨ng,ic,h⟩:=aq h
     obtain ⟨tP,gv,h⟩:=aq h
     have fM:eN 1 (ml b8 b5) [(b8 ng)]=some (ml b8 tP):=kW (f:=b8) gv
     refine aV (aI ic fM) ?_
     obtain rfl:=aA h
     exact hN _ rfl _ _ _ _ aJ ak ⟨rfl,rfl⟩
 · refine aC ?_
   obtain rfl:=aA h
   exact hX _ _ _ _ _ c6 aJ ak (c8 _ (hB _ rfl))
theorem yo {s1:List UInt8} {EI:List UInt8} {i23:Int} {H:AH} {K:Exit→Env→AH→Prop}
 (kn:K .normal [(4,(.sl .own 1 (ml b8 EI))),(5,(.int .i64 i23)),(62,(.bool ((decide ((s1.length:Int)≤i23))||(decide ((EI.length:Int)=0)))))] H):
 AX Tryz.prog dN 94 H.length (erase qR) K [(0,(.str s1)),(4,(.sl .own 1 (ml b8 EI))),(5,(.int .i64 i23))] H:=by
 refine bT fun K' hK=> ?_
 refine aC ?_
 refine kK (fun gw=> ?_) fun gw=> ?_
 · refine aV gw ?_
   exact hK _ _ _ _ _ (eG gw) ak kn
 · refine aV gw ?_
   exact hK _ _ _ _ _ (eG gw) ak kn
theorem yp {F:Nat} {mU:Int} {s1:List UInt8} {H:AH} {K:Exit→Env→AH→Prop} {t30:Bool}
 (h:mA F mU s1=some t30)
 (kn:K .normal [(0,(.str s1)),(6,(.int .i64 mU)),(82,(.bool t30))] H):
 AX Tryz.prog dN 94 H.length (erase qS) K [(0,(.str s1)),(6,(.int .i64 mU))] H:=by
 refine bT fun K' hK=> ?_
 rw [mA.eq_1] at h
 refine aC ?_
 refine bR h (fun jg h=> ?_) fun jg h=> ?_
 · obtain ⟨A1,gO,h⟩:=aq h
   refine aV (aI jg gO) ?_
   obtain ⟨G7,ig,h⟩:=aq h
   refine bB ak (uE ig) ?_
   refine aC ?_
   refine bR h (fun jS h=> ?_) fun jS h=> ?_
   · refine aV jS ?_
     obtain rfl:=aA h
     exact hK _ _ _ _ _ aJ ak kn
   · refine aV (aI jS gO) ?_
     obtain rfl:=aA h
     exact hK _ _ _ _ _ aJ ak kn
 · refine aV jg ?_
   obtain rfl:=aA h
   exact hK _ _ _ _ _ aJ ak kn
theorem yq {F:Nat} {mU:Int} {s1:List UInt8} {H:AH} {K:Exit→Env→AH→Prop} {o:((List UInt8)×Int)⊕(Int)}
 (h:iter (mB F s1) F mU=some o)
 (L8:∀o':Int,o= .inr o'→K (.exit 2) [(0,(.str s1)),(6,(.int .i64 o'))] H):
 AX Tryz.prog dN 94 H.length (.loop (erase pg)) K [(0,(.str s1)),(6,(.int .i64 mU))] H:=by
 refine gH (fun s e H1=>match s with|mU=>e=[(0,(.str s1)),(6,(.int .i64 mU))]∧H1=H) h ⟨rfl,rfl⟩ ?_
 rintro K' mU st e H ⟨rfl,rfl⟩ h hN hB hR hX
 rw [mB.eq_1] at h
 refine aC ?_
 obtain ⟨t31,sK,h⟩:=aq h
 refine bz ak (yp sK ?_)
 refine aC ?_
 refine bl h (fun vV h=> ?_) fun vV h=> ?_
 · refine aC ?_
   obtain rfl:=aA h
   exact hN _ rfl _ _ _ _ aJ ak ⟨rfl,rfl⟩
 · refine aC ?_
   obtain rfl:=aA h
   exact hX _ _ _ _ _ c6 aJ ak (L8 _ (hB _ rfl))
theorem BZ {F:Nat} {s1:List UInt8} {H0:AH} {aP:List UInt8} {ey:Int} (h:tU F s1=some (aP,ey)):
 aF Tryz.prog 77 [(.str s1)] H0 fun v H'=>v=(.bx [(.str aP),(.int .i64 ey)])∧H'=H0:=by
 refine fe DA dN fun hcl K0 aN=> ?_
 rw [tU.eq_1] at h
 refine aC ?_
 obtain ⟨t4,hy3,h⟩:=aq h
 refine bz ak (yg hy3 ?_)
 refine aC ?_
 refine bl h (fun hy4 h=> ?_) fun hy4 h=> ?_
 · refine aC ?_
   obtain ⟨Ty,fN,h⟩:=aq h
   refine bz ak (ym fN ?_ ?_)
   · rintro ⟨EI,i23⟩ rfl
     try dsimp only at h
     refine aC ?_
     refine bz ak (yo (s1:=s1) (EI:=EI) (i23:=i23) ?_)
     refine aC ?_
     refine bl h (fun ie h=> ?_) fun ie h=> ?_
     · refine aC ?_
       obtain ⟨rfl,rfl⟩:=cw h
       exact aN _ _ _ bk (aK hcl (aW (aW bf (.int .i64 (-1))) (.str ([]:List UInt8))) bg aX ⟨rfl,rfl⟩)
     · refine aC ?_
       obtain ⟨rfl,rfl⟩:=cw h
       exact aN _ _ _ bk (aK hcl (aW (aW bf (.int .i64 (IntKind.wrap .i64 (i23+1)))) (.str EI)) bg aX ⟨rfl,rfl⟩)
   · rintro ⟨Qc,L7⟩ rfl
     try dsimp only at h
     refine aC ?_
     obtain ⟨rfl,rfl⟩:=cw h
     exact aN _ _ _ bk (aK hcl (aW (aW bf (.int .i64 L7)) (.str Qc)) bg aX ⟨rfl,rfl⟩)
 · refine aC ?_
   obtain ⟨Tv,Js,h⟩:=aq h
   refine bz ak (yq Js ?_)
   · rintro Nc rfl
     try dsimp only at h
     refine aC ?_
     obtain ⟨Wb,Fc,h⟩:=aq h
     refine aV Fc ?_
     obtain ⟨Qa,Jt,h⟩:=aq h
     refine bB ak (uF Jt) ?_
     refine aC ?_
     refine bl h (fun Ju h=> ?_) fun Ju h=> ?_
     · refine aC ?_
       obtain ⟨rfl,rfl⟩:=cw h
       exact aN _ _ _ bk (aK hcl (aW (aW bf (.int .i64 (-1))) (.str ([]:List UInt8))) bg aX ⟨rfl,rfl⟩)
     · refine aV Fc ?_
       obtain ⟨rfl,rfl⟩:=cw h
       exact aN _ _ _ bk (aK hcl (aW (aW bf (.int .i64 Nc)) (.str Wb)) bg aX ⟨rfl,rfl⟩)
abbrev qT:av:=(.rg [(au 4 0),(aj 5 (.bin .eql (.t 4) (.c (.str [])))),(au 6 5),(ax 7 (.mv (.t 0)) 6 false),(ax 8 (.lens (.t 7)) 6 false),(ax 9 (.bin .gtr (.t 8) (.c (.int .i64 64))) 6 false),(aj 10 (.pick (.t 6) (.c (.bool true)) (.t 9)))])
abbrev qU:av:=(.rg [(au 17 0),(au 18 3),(aj 19 (.ixs (.t 17) (.t 18))),(aj 20 (.bin .lss (.t 19) (.c (b8 32)))),(au 21 20),(ax 22 (.mv (.t 0)) 21 false),(ax 23 (.mv (.t 3)) 21 false),(ax 24 (.ixs (.t 22) (.t 23)) 21 false),(ax 25 (.bin .gtr (.t 24) (.c (b8 126))) 21 false),(aj 26 (.pick (.t 21) (.c (.bool true)) (.t 25)))])
abbrev pn:av:=(.seq (.seq (.rg [(au 11 3),(au 12 0),(aj 13 (.lens (.t 12))),(aj 14 (.bin .lss (.t 11) (.t 13)))]) (.cond (.t 14) .skip (.exit 0))) (.seq (.blk 1 (.seq (.sem (erase qU)) (.cond (.t 26) (.seq (.rg [(aj 2 (.aO (.c (.bool false))))]) .ret) .skip))) (.rg [(au 15 3),(aj 16 (.bin .add (.t 15) (.c (.int .i64 1)))),(aQ 3 16)])))
abbrev DB:av:=(.seq (.rg [(aj 2 (.aO (.c (.bool false))))]) (.seq (.seq (.sem (erase qT)) (.cond (.t 10) (.seq (.rg [(aj 2 (.aO (.c (.bool false))))]) .ret) .skip)) (.seq (.seq (.rg [(aj 3 (.aO (.c (.int .i64 0))))]) (.blk 0 (.loop (erase pn)))) (.seq (.rg [(aj 2 (.aO (.c (.bool true))))]) .ret))))
theorem DC:bM Tryz.prog 83 27 [(.tmp 2)] (erase DB):=⟨Tryz.f83,_,rfl,by decide,rfl,by kernel_rfl,rfl,rfl⟩
abbrev j3:List Nat:=[0,2,3,10,14,26]
def mC (s1:List UInt8) (i2:Int):Option (Bool):=
 (idx s1 i2).bind fun x3=>
 (if (decide (x3<32)) then
  some true
 else
  some (decide (126<x3)))
def mD (s1:List UInt8):Int→Option (St Bool Unit Int)
 |i2=>
  (if (decide (i2<(s1.length:Int))) then
   (mC s1 i2).bind fun t5=>
   (if t5 then
    some (.ret false)
   else
    some (.cU (IntKind.wrap .i64 (i2+1))))
  else
   some (.dW ()))
def tV (F:Nat) (s1:List UInt8):Option (Bool):=
 (if ((decide (s1=([]:List UInt8)))||(decide (64<(s1.length:Int)))) then
  some false
 else
  ((iter (mD s1) F 0).bind fun o8=>
  match o8 with
  | .inr ()=>
    some true
  | .inl r7=>
    some r7))
theorem yt {s1:List UInt8} {H:AH} {K:Exit→Env→AH→Prop}
 (kn:K .normal [(0,(.str s1)),(10,(.bool ((decide (s1=([]:List UInt8)))||(decide (64<(s1.length:Int))))))] H):
 AX Tryz.prog j3 27 H.length (erase qT) K [(0,(.str s1))] H:=by
 refine bT fun K' hK=> ?_
 refine aC ?_
 refine kK (fun hy1=> ?_) fun hy1=> ?_
 · refine aV hy1 ?_
   exact hK _ _ _ _ _ (eG hy1) ak kn
 · refine aV hy1 ?_
   exact hK _ _ _ _ _ (eG hy1) ak kn
theorem yu {s1:List UInt8} {i2:Int} {H:AH} {K:Exit→Env→AH→Prop} {t4:Bool}
 (h:mC s1 i2=some t4)
 (kn:K .normal [(0,(.str s1)),(3,(.int .i64 i2)),(26,(.bool t4))] H):
 AX Tryz.prog j3 27 H.length (erase qU) K [(0,(.str s1)),(3,(.int .i64 i2))] H:=by
 refine bT fun K' hK=> ?_
 rw [mC.eq_1] at h
 obtain ⟨x3,hy4,h⟩:=aq h
 refine aV hy4 ?_
 refine bR h (fun bK h=> ?_) fun bK h=> ?_
 · refine aV bK ?_
   obtain rfl:=aA h
   exact hK _ _ _ _ _ aJ ak kn
 · refine aV (aI bK hy4) ?_
   obtain rfl:=aA h
   exact hK _ _ _ _ _ aJ ak kn
theorem yw {F:Nat} {i2:Int} {s1:List UInt8} {H:AH} {K:Exit→Env→AH→Prop} {o:(Bool)⊕(Unit)}
 (h:iter (mD s1) F i2=some o)
 (c8:∀o':Unit,o= .inr o'→K (.exit 0) [] H)
 (kr:∀o':Bool,o= .inl o'→K .ret [(2,(.bool o'))] H):
 AX Tryz.prog j3 27 H.length (.loop (erase pn)) K [(0,(.str s1)),(3,(.int .i64 i2))] H:=by
 refine gH (fun s e H1=>match s with|i2=>e=[(0,(.str s1)),(3,(.int .i64 i2))]∧H1=H) h ⟨rfl,rfl⟩ ?_
 rintro K' i2 st e H ⟨rfl,rfl⟩ h hN hB hR hX
 rw [mD.eq_1] at h
 refine aC ?_
 refine bl h (fun hy3 h=> ?_) fun hy3 h=> ?_
 · refine aC ?_
   obtain ⟨t5,bY,h⟩:=aq h
   refine bz ak (yu bY ?_)
   refine aC ?_
   refine bl h (fun cD h=> ?_) fun cD h=> ?_
   · refine aC ?_
     obtain rfl:=aA h
     exact hX _ _ _ _ _ c6 aJ ak (kr _ (hR _ rfl))
   · refine aC ?_
     obtain rfl:=aA h
     exact hN _ rfl _ _ _ _ aJ ak ⟨rfl,rfl⟩
 · refine aC ?_
   obtain rfl:=aA h
   exact hX _ _ _ _ _ c6 WE.nil ak (c8 _ (hB _ rfl))
theorem B0 {F:Nat} {s1:List UInt8} {H0:AH} {aP:Bool} (h:tV F s1=some aP):
 aF Tryz.prog 83 [(.str s1)] H0 fun v H'=>v=(.bool aP)∧H'=H0:=by
 refine fe DC j3 fun hcl K0 aN=> ?_
 rw [tV.eq_1] at h
 refine aC ?_
 refine bz ak (yt (s1:=s1) ?_)
 refine aC ?_
 refine bl h (fun hy2 h=> ?_) fun hy2 h=> ?_
 · refine aC ?_
   obtain rfl:=aA h
   exact aN _ _ _ bk (aK hcl (aW bf (.bool false)) bg aX ⟨rfl,rfl⟩)
 · refine aC ?_
   obtain ⟨o8,ct,h⟩:=aq h
   refine bz ak (yw ct ?_ ?_)
   · rintro ⟨⟩ rfl
     try dsimp only at h
     refine aC ?_
     obtain rfl:=aA h
     exact aN _ _ _ bk (aK hcl (aW bf (.bool true)) bg aX ⟨rfl,rfl⟩)
   · rintro r7 rfl
     try dsimp only at h
     refine aC ?_
     obtain rfl:=aA h
     exact aN _ _ _ bk (aK hcl (aW bf (.bool r7)) bg aX ⟨rfl,rfl⟩)
abbrev sN:av:=(.rg [(aj 5 (.cM (.t 1) 0)),(aj 6 (.ld (.t 5) none)),(aj 7 (.bin .eql (.t 6) (.c (.str [])))),(au 8 7),(ax 9 (.cM (.t 1) 1) 8 true),(ax 10 (.ld (.t 9) none) 8 true),(ax 11 (.bin .eql (.t 10) (.c (.str []))) 8 true),(aj 12 (.pick (.t 8) (.t 11) (.c (.bool false))))])
abbrev sO:av:=(.rg [(aj 32 (.cM (.t 1) 0)),(aj 33 (.ld (.t 32) none)),(au 34 4),(aj 35 (.ixs (.t 33) (.t 34))),(aj 36 (.bin .eql (.t 35) (.c (b8 34)))),(au 37 36),(ax 38 (.cM (.t 1) 0) 37 false),(ax 39 (.ld (.t 38) none) 37 false),(ax 40 (.mv (.t 4)) 37 false),(ax 41 (.ixs (.t 39) (.t 40)) 37 false),(ax 42 (.bin .eql (.t 41) (.c (b8 92))) 37 false),(aj 43 (.pick (.t 37) (.c (.bool true)) (.t 42)))])
abbrev qV:av:=(.seq (.seq (.rg [(au 25 4),(aj 26 (.cM (.t 1) 0)),(aj 27 (.ld (.t 26) none)),(aj 28 (.lens (.t 27))),(aj 29 (.bin .lss (.t 25) (.t 28)))]) (.cond (.t 29) .skip (.exit 0))) (.seq (.blk 1 (.seq (.seq (.sem (erase sO)) (.cond (.t 43) (.rg [(au 44 3),(aj 45 (.rX 1 [(.c (b8 92))])),(aj 46 (.app 1 1 (.t 44) (.t 45))),(aQ 3 46)]) .skip)) (.rg [(au 47 3),(aj 48 (.cM (.t 1) 0)),(aj 49 (.ld (.t 48) none)),(au 50 4),(aj 51 (.ixs (.t 49) (.t 50))),(aj 52 (.rX 1 [(.t 51)])),(aj 53 (.app 1 1 (.t 47) (.t 52))),(aQ 3 53)]))) (.rg [(au 30 4),(aj 31 (.bin .add (.t 30) (.c (.int .i64 1)))),(aQ 4 31)])))
abbrev sP:av:=(.rg [(au 54 3),(aj 59 (.cM (.t 1) 1)),(aj 60 (.DZ (.t 59) none)),(aj 55 (.rX 1 [(.c (b8 34))])),(aj 56 (.app 1 1 (.t 54) (.t 55))),(aj 57 (.Hs (.t 56))),(aj 58 (.bin .add (.t 57) (.c (.str [64])))),(aj 61 (.bin .add (.t 58) (.t 60))),(aj 62 (.bin .add (.t 61) (.c (.str [62])))),(aQ 2 62)])
abbrev EJ:av:=(.seq (.rg [(aj 1 (.box (.t 0))),(aj 2 (.aO (.c (.str []))))]) (.seq (.seq (.sem (erase sN)) (.cond (.t 12) (.seq (.rg [(aj 2 (.aO (.c (.str [60,62]))))]) .ret) .skip)) (.seq (.seq (.rg [(aj 13 (.cM (.t 1) 0)),(aj 14 (.ld (.t 13) none)),(aj 15 (.call (.c (.fn 84 [])) [(.t 14)]))]) (.cond (.t 15) (.seq (.rg [(aj 16 (.cM (.t 1) 0)),(aj 17 (.ld (.t 16) none)),(aj 18 (.bin .add (.c (.str [60])) (.t 17))),(aj 19 (.bin .add (.t 18) (.c (.str [64])))),(aj 20 (.cM (.t 1) 1)),(aj 21 (.ld (.t 20) none)),(aj 22 (.bin .add (.t 19) (.t 21))),(aj 23 (.bin .add (.t 22) (.c (.str [62])))),(aQ 2 23)]) .ret) .skip)) (.seq (.rg [(aj 24 (.rX 1 [(.c (b8 60)),(.c (b8 34))])),(aQ 3 24)]) (.seq (.seq (.rg [(aj 4 (.aO (.c (.int .i64 0))))]) (.blk 0 (.loop (erase qV)))) (.seq (.sem (erase sP)) .ret))))))
theorem EL:bM Tryz.prog 59 63 [(.tmp 2)] (erase EJ):=⟨Tryz.f59,_,rfl,by decide,rfl,by kernel_rfl,rfl,rfl⟩
abbrev jj:List Nat:=[0,1,2,3,4,12,15,29,43]
def pz (a1:aD) (i10:Int):Option (Bool):=
 (idx a1.ay i10).bind fun rM=>
 (if (decide (rM=34)) then
  some true
 else
  some (decide (rM=92)))
def pE (a1:aD):((List UInt8)×Int)→Option (St (List UInt8) (List UInt8) ((List UInt8)×Int))
 |(b9,i10)=>
  (if (decide (i10<(a1.ay.length:Int))) then
   (pz a1 i10).bind fun t14=>
   (if t14 then
    (eN 1 b9 ([92]:List UInt8)).bind fun kz=>
    (idx a1.ay i10).bind fun ng=>
    (eN 1 kz ([ng]:List UInt8)).bind fun tP=>some (.cU (tP,(IntKind.wrap .i64 (i10+1))))
   else
    (idx a1.ay i10).bind fun GV=>
    (eN 1 b9 ([GV]:List UInt8)).bind fun AI=>some (.cU (AI,(IntKind.wrap .i64 (i10+1)))))
  else
   some (.dW b9))
def pF (Jv:List UInt8) (a1:aD):Option ((List UInt8)):=
 (eN 1 Jv ([34]:List UInt8)).bind fun Qd=>
 (cat Qd ([64]:List UInt8)).bind fun C5=>
 (cat C5 a1.domain).bind fun Jh=>(cat Jh ([62]:List UInt8)).bind fun C6=>some C6
def vW (F:Nat) (a1:aD):Option ((List UInt8)):=
 (if ((decide (a1.ay=([]:List UInt8)))&&(decide (a1.domain=([]:List UInt8)))) then
  some ([60,62]:List UInt8)
 else
  (nN F a1.ay).bind fun r3=>
  (if r3 then
   (cat ([60]:List UInt8) a1.ay).bind fun x4=>
   (cat x4 ([64]:List UInt8)).bind fun x5=>
   (cat x5 a1.domain).bind fun x6=>(cat x6 ([62]:List UInt8)).bind fun x7=>some x7
  else
   ((iter (pE a1) F (([60,34]:List UInt8),0)).bind fun Tx=>
   match Tx with
   | .inr Jv=>
     (pF Jv a1).bind fun t27=>
     some t27
   | .inl _=>none)))
theorem zC {q2:Nat} {a1:aD} {H0 H:AH} (hfr:Fr H0 H0.length [] H) (ai:H[q2]? =some [(.str a1.ay),(.str a1.domain)]) (dP:H0.length≤q2) {K:Exit→Env→AH→Prop}
 (kn:∀H':AH,Fr H0 H0.length [] H'→H'[q2]? =some [(.str a1.ay),(.str a1.domain)]→K .normal [(1,(.ptr q2 0)),(12,(.bool ((decide (a1.ay=([]:List UInt8)))&&(decide (a1.domain=([]:List UInt8))))))] H'):
 AX Tryz.prog jj 63 H0.length (erase sN) K [(1,(.ptr q2 0))] H:=by
 refine bT fun K' hK=> ?_
 have hle:=hfr.le
 have aM:=aR ai
 refine az ai ?_
 refine kK (fun hy1=> ?_) fun hy1=> ?_
 · refine az (aI hy1 ai) ?_
   exact hK _ _ _ _ _ (eG hy1) ak (kn _ hfr (ai.trans rfl))
 · refine az (aI hy1 ai) ?_
   exact hK _ _ _ _ _ (eG hy1) ak (kn _ hfr (ai.trans rfl))
theorem zD {a1:aD} {i10:Int} {Qe:Nat} {b9:List UInt8} {H0 H:AH} (hfr:Fr H0 H0.length [] H) (ai:H[Qe]? =some [(.str a1.ay),(.str a1.domain)]) (dP:H0.length≤Qe) {K:Exit→Env→AH→Prop} {t13:Bool}
 (h:pz a1 i10=some t13)
 (kn:∀H':AH,Fr H0 H0.length [] H'→H'[Qe]? =some [(.str a1.ay),(.str a1.domain)]→K .normal [(1,(.ptr Qe 0)),(3,(.sl .own 1 (ml b8 b9))),(4,(.int .i64 i10)),(43,(.bool t13))] H'):
 AX Tryz.prog jj 63 H0.length (erase sO) K [(1,(.ptr Qe 0)),(3,(.sl .own 1 (ml b8 b9))),(4,(.int .i64 i10))] H:=by
 refine bT fun K' hK=> ?_
 have hle:=hfr.le
 have aM:=aR ai
 rw [pz.eq_1] at h
 obtain ⟨rM,cc,h⟩:=aq h
 refine az (aI cc ai) ?_
 refine bR h (fun cy h=> ?_) fun cy h=> ?_
 · refine az (aI cy ai) ?_
   obtain rfl:=aA h
   exact hK _ _ _ _ _ aJ ak (kn _ hfr (ai.trans rfl))
 · refine az (aI cy (aI cc ai)) ?_
   obtain rfl:=aA h
   exact hK _ _ _ _ _ aJ ak (kn _ hfr (ai.trans rfl))
theorem zE {F:Nat} {i10:Int} {a1:aD} {b9:List UInt8} {q8:Nat} {H0 H:AH} (hfr:Fr H0 H0.length [] H) (ai:H[q8]? =some [(.str a1.ay),(.str a1.domain)]) (dP:H0.length≤q8) {K:Exit→Env→AH→Prop} {o:((List UInt8))⊕((List UInt8))}
 (h:iter (pE a1) F (b9,i10)=some o)
 (c8:∀o':(List UInt8),o= .inr o'→∀H':AH,Fr H0 H0.length [] H'→H'[q8]? =some [(.str a1.ay),(.str a1.domain)]→K (.exit 0) [(1,(.ptr q8 0)),(3,(.sl .own 1 (ml b8 o')))] H'):
 AX Tryz.prog jj 63 H0.length (.loop (erase qV)) K [(1,(.ptr q8 0)),(3,(.sl .own 1 (ml b8 b9))),(4,(.int .i64 i10))] H:=by
 refine gH (fun s e H1=>match s with|(b9,i10)=>e=[(1,(.ptr q8 0)),(3,(.sl .own 1 (ml b8 b9))),(4,(.int .i64 i10))]∧Fr H0 H0.length [] H1∧H1[q8]? =some [(.str a1.ay),(.str a1.domain)]) h ⟨rfl,hfr,ai⟩ ?_
 rintro K' ⟨b9,i10⟩ st e H ⟨rfl,hfr,ai⟩ h hN hB hR hX
 have hle:=hfr.le
 have aM:=aR ai
 rw [pE.eq_1] at h
 refine az ai ?_
 refine bl h (fun cQ h=> ?_) fun cQ h=> ?_
 · refine az ai ?_
   obtain ⟨t14,cK,h⟩:=aq h
   refine bz ak (zD (b9:=b9) (Qe:=q8) hfr (ai.trans rfl) cq cK ?_)
   intro H hfr ai
   have hle:=hfr.le
   have aM:=aR ai
   refine az ai ?_
   refine bl h (fun cG h=> ?_) fun cG h=> ?_
   · obtain ⟨kz,dX,h⟩:=aq h
     have eW:eN 1 (ml b8 b9) [(b8 92)]=some (ml b8 kz):=kW (f:=b8) dX
     obtain ⟨ng,ek,h⟩:=aq h
     obtain ⟨tP,ic,h⟩:=aq h
     have gv:eN 1 (ml b8 kz) [(b8 ng)]=some (ml b8 tP):=kW (f:=b8) ic
     refine az (aI eW (aI ek (aI gv ai))) ?_
     obtain rfl:=aA h
     exact hN _ rfl _ _ _ _ aJ ak ⟨rfl,hfr,(ai.trans rfl)⟩
   · obtain ⟨GV,fM,h⟩:=aq h
     obtain ⟨AI,fN,h⟩:=aq h
     have gw:eN 1 (ml b8 b9) [(b8 GV)]=some (ml b8 AI):=kW (f:=b8) fN
     refine az (aI fM (aI gw ai)) ?_
     obtain rfl:=aA h
     exact hN _ rfl _ _ _ _ aJ ak ⟨rfl,hfr,(ai.trans rfl)⟩
 · refine az ai ?_
   obtain rfl:=aA h
   exact hX _ _ _ _ _ c6 aJ ak (c8 _ (hB _ rfl) _ hfr (ai.trans rfl))
theorem zF {Jv:List UInt8} {a1:aD} {H0 H:AH} (hfr:Fr H0 H0.length [] H) {K:Exit→Env→AH→Prop} {t26:List UInt8}
 (h:pF Jv a1=some t26)
 (kn:∀H':AH,Fr H0 H0.length [] H'→K .normal [(2,(.str t26))] H'):
 AX Tryz.prog jj 63 H0.length (erase sP) K [(1,(.ep (.agg [(.str a1.ay),(.str a1.domain)]) 0)),(3,(.sl .own 1 (ml b8 Jv)))] H:=by
 refine bT fun K' hK=> ?_
 have hle:=hfr.le
 rw [pF.eq_1] at h
 obtain ⟨Qd,jg,h⟩:=aq h
 have gO:eN 1 (ml b8 Jv) [(b8 34)]=some (ml b8 Qd):=kW (f:=b8) jg
 obtain ⟨C5,ig,h⟩:=aq h
 obtain ⟨Jh,jS,h⟩:=aq h
 obtain ⟨C6,sK,h⟩:=aq h
 refine az (aI gO (aI ig (aI jS sK))) ?_
 obtain rfl:=aA h
 exact hK _ _ _ _ _ aJ ak (kn _ hfr)
theorem DD {F:Nat} {a1:aD} {H0:AH} {aP:List UInt8} (h:vW F a1=some aP):
 aF Tryz.prog 59 [(.agg [(.str a1.ay),(.str a1.domain)])] H0 fun v H'=>v=(.str aP)∧H'=H0:=by
 refine lH EL jj [] fun hcl K0 aN H hH hfr=> ?_
 clear hH
 have hle:=hfr.le
 rw [vW.eq_1] at h
 refine cN ?_
 obtain ⟨q2,ju⟩:∃q:Nat,H.length=q:=⟨_,rfl⟩
 try rw [ju]
 refine bz ak (zC (q2:=q2) (a1:=a1) (Fr.app hfr) uH cq ?_)
 intro H hfr ai
 have hle:=hfr.le
 have aM:=aR ai
 refine az ai ?_
 refine bl h (fun hy2 h=> ?_) fun hy2 h=> ?_
 · refine az ai ?_
   obtain rfl:=aA h
   exact aN _ _ _ bk (aT hfr hcl (aW bf (.str ([60,62]:List UInt8))) bg aX ⟨rfl,rfl⟩)
 · refine az ai ?_
   obtain ⟨r3,hy3,h⟩:=aq h
   refine bB ak (uF hy3) ?_
   refine az ai ?_
   refine bl h (fun hy4 h=> ?_) fun hy4 h=> ?_
   · obtain ⟨x4,bK,h⟩:=aq h
     obtain ⟨x5,bY,h⟩:=aq h
     obtain ⟨x6,cD,h⟩:=aq h
     obtain ⟨x7,ct,h⟩:=aq h
     refine az (aI bK (aI bY (aI cD (aI ct ai)))) ?_
     obtain rfl:=aA h
     exact aN _ _ _ bk (aT hfr hcl (aW bf (.str x7)) bg aX ⟨rfl,rfl⟩)
   · refine az ai ?_
     obtain ⟨Tx,ie,h⟩:=aq h
     refine bz ak (zE (q8:=q2) hfr (ai.trans rfl) cq ie ?_)
     · rintro Jv rfl H hfr ai
       try dsimp only at h ai
       have hle:=hfr.le
       have aM:=aR ai
       refine az ai ?_
       refine V9 ?_
       apply AX.freeze (s:=q2) (cs:=[(.str a1.ay),(.str a1.domain)]) (by exact (ai.trans rfl)) (gm.same (gm.same (gm.nil))) (by simp) rfl
       · repeat (first|exact FZ.nil|apply FZ.ep|apply FZ.same)
       refine Zq ?_
       obtain ⟨t27,vV,h⟩:=aq h
       refine bz ak (zF (bW _ hfr) vV ?_)
       intro H hfr
       have hle:=hfr.le
       refine cN ?_
       obtain rfl:=aA h
       exact aN _ _ _ bk (aT hfr hcl (aW bf (.str t27)) bg aX ⟨rfl,rfl⟩)
abbrev qW:av:=(.rg [(aj 3 (.cM (.t 1) 0)),(aj 4 (.ld (.t 3) none)),(aj 5 (.bin .eql (.t 4) (.c (.str [])))),(au 6 5),(ax 7 (.cM (.t 1) 1) 6 true),(ax 8 (.ld (.t 7) none) 6 true),(ax 9 (.bin .eql (.t 8) (.c (.str []))) 6 true),(aj 10 (.pick (.t 6) (.t 9) (.c (.bool false))))])
abbrev qX:av:=(.rg [(aj 11 (.cM (.t 1) 0)),(aj 12 (.ld (.t 11) none)),(aj 13 (.call (.c (.fn 83 [])) [(.t 12)])),(au 14 13),(ax 15 (.cM (.t 1) 1) 14 true),(ax 16 (.ld (.t 15) none) 14 true),(ax 17 (.call (.c (.fn 28 [])) [(.t 16)]) 14 true),(aj 18 (.pick (.t 14) (.t 17) (.c (.bool false)))),(au 19 18),(ax 20 (.ld (.t 1) (some 2)) 19 true),(ax 21 (.call (.c (.fn 59 [])) [(.t 20)]) 19 true),(ax 22 (.lens (.t 21)) 19 true),(ax 23 (.bin .leq (.t 22) (.c (.int .i64 256))) 19 true),(aj 24 (.pick (.t 19) (.t 23) (.c (.bool false)))),(aQ 2 24)])
abbrev DE:av:=(.seq (.rg [(aj 1 (.box (.t 0))),(aj 2 (.aO (.c (.bool false))))]) (.seq (.seq (.sem (erase qW)) (.cond (.t 10) (.seq (.rg [(aj 2 (.aO (.c (.bool true))))]) .ret) .skip)) (.seq (.sem (erase qX)) .ret)))
theorem DF:bM Tryz.prog 58 25 [(.tmp 2)] (erase DE):=⟨Tryz.f58,_,rfl,by decide,rfl,by kernel_rfl,rfl,rfl⟩
abbrev pG:List Nat:=[0,1,2,10]
def mE (F:Nat) (a1:aD):Option (Bool):=
 (tV F a1.ay).bind fun r4=>
 (if r4 then
  (eS F a1.domain).bind fun r5=>
  (if r5 then
   (vW F a1).bind fun r6=>some (decide ((r6.length:Int)≤256))
  else
   some false)
 else
  some false)
def tW (F:Nat) (a1:aD):Option (Bool):=
 (if ((decide (a1.ay=([]:List UInt8)))&&(decide (a1.domain=([]:List UInt8)))) then
  some true
 else
  (mE F a1).bind fun t8=>
  some t8)
theorem yx {q2:Nat} {a1:aD} {H0 H:AH} (hfr:Fr H0 H0.length [] H) (ai:H[q2]? =some [(.str a1.ay),(.str a1.domain)]) (dP:H0.length≤q2) {K:Exit→Env→AH→Prop}
 (kn:∀H':AH,Fr H0 H0.length [] H'→H'[q2]? =some [(.str a1.ay),(.str a1.domain)]→K .normal [(1,(.ptr q2 0)),(10,(.bool ((decide (a1.ay=([]:List UInt8)))&&(decide (a1.domain=([]:List UInt8))))))] H'):
 AX Tryz.prog pG 25 H0.length (erase qW) K [(1,(.ptr q2 0))] H:=by
 refine bT fun K' hK=> ?_
 have hle:=hfr.le
 have aM:=aR ai
 refine az ai ?_
 refine kK (fun hy1=> ?_) fun hy1=> ?_
 · refine az (aI hy1 ai) ?_
   exact hK _ _ _ _ _ (eG hy1) ak (kn _ hfr (ai.trans rfl))
 · refine az (aI hy1 ai) ?_
   exact hK _ _ _ _ _ (eG hy1) ak (kn _ hfr (ai.trans rfl))
theorem yy {F:Nat} {a1:aD} {q3:Nat} {H0 H:AH} (hfr:Fr H0 H0.length [] H) (ai:H[q3]? =some [(.str a1.ay),(.str a1.domain)]) (dP:H0.length≤q3) {K:Exit→Env→AH→Prop} {t7:Bool}
 (h:mE F a1=some t7)
 (kn:∀H':AH,Fr H0 H0.length [] H'→H'[q3]? =some [(.str a1.ay),(.str a1.domain)]→K .normal [(2,(.bool t7))] H'):
 AX Tryz.prog pG 25 H0.length (erase qX) K [(1,(.ptr q3 0))] H:=by
 refine bT fun K' hK=> ?_
 have hle:=hfr.le
 have aM:=aR ai
 rw [mE.eq_1] at h
 refine az ai ?_
 obtain ⟨r4,hy3,h⟩:=aq h
 refine bB ak (B0 hy3) ?_
 refine az ai ?_
 refine bR h (fun hy4 h=> ?_) fun hy4 h=> ?_
 · refine az (aI hy4 ai) ?_
   obtain ⟨r5,bK,h⟩:=aq h
   refine bB ak (kQ bK) ?_
   refine az ai ?_
   refine bR h (fun bY h=> ?_) fun bY h=> ?_
   · refine az (aI bY ai) ?_
     obtain ⟨r6,cD,h⟩:=aq h
     refine bB ak (DD cD) ?_
     refine az ai ?_
     obtain rfl:=aA h
     exact hK _ _ _ _ _ aJ ak (kn _ hfr (ai.trans rfl))
   · refine az (aI bY ai) ?_
     obtain rfl:=aA h
     exact hK _ _ _ _ _ aJ ak (kn _ hfr (ai.trans rfl))
 · refine az (aI hy4 ai) ?_
   obtain rfl:=aA h
   exact hK _ _ _ _ _ aJ ak (kn _ hfr (ai.trans rfl))
theorem B1 {F:Nat} {a1:aD} {H0:AH} {aP:Bool} (h:tW F a1=some aP):
 aF Tryz.prog 58 [(.agg [(.str a1.ay),(.str a1.domain)])] H0 fun v H'=>v=(.bool aP)∧H'=H0:=by
 refine lH DF pG [] fun hcl K0 aN H hH hfr=> ?_
 clear hH
 have hle:=hfr.le
 rw [tW.eq_1] at h
 refine cN ?_
 obtain ⟨q2,ju⟩:∃q:Nat,H.length=q:=⟨_,rfl⟩
 try rw [ju]
 refine bz ak (yx (q2:=q2) (a1:=a1) (Fr.app hfr) uH cq ?_)
 intro H hfr ai
 have hle:=hfr.le
 have aM:=aR ai
 refine az ai ?_
 refine bl h (fun hy2 h=> ?_) fun hy2 h=> ?_
 · refine az ai ?_
   obtain rfl:=aA h
   exact aN _ _ _ bk (aT hfr hcl (aW bf (.bool true)) bg aX ⟨rfl,rfl⟩)
 · refine az ai ?_
   obtain ⟨t8,ct,h⟩:=aq h
   refine bz ak (yy (q3:=q2) hfr (ai.trans rfl) cq ct ?_)
   intro H hfr ai
   have hle:=hfr.le
   have aM:=aR ai
   refine az ai ?_
   obtain rfl:=aA h
   exact aN _ _ _ bk (aT hfr hcl (aW bf (.bool t8)) bg aX ⟨rfl,rfl⟩)
end Go.Proofs.ei
end
section
set_option maxRecDepth 100000
namespace Go.Proofs.ei
open Go Go.Am Go.Proofs
open Nat renaming reduceEqDiff→nA,reduceLT→nB,reduceLeDiff→nC,reduceAdd→nD,reduceSub→nE,reduceMul→nF,reduceBEq→nG
set_option maxHeartbeats 2000000
abbrev sQ:av:=(.rg [(au 11 0),(aj 12 (.bin .eql (.t 11) (.c (.str [])))),(au 13 12),(ax 14 (.mv (.t 0)) 13 false),(ax 15 (.ixs (.t 14) (.c (.int .i64 0))) 13 false),(ax 16 (.bin .neq (.t 15) (.c (b8 60))) 13 false),(aj 17 (.pick (.t 13) (.c (.bool true)) (.t 16)))])
abbrev sR:av:=(.rg [(au 19 0),(aj 20 (.lens (.t 19))),(aj 21 (.bin .gtr (.t 20) (.c (.int .i64 1)))),(au 22 21),(ax 23 (.mv (.t 0)) 22 true),(ax 24 (.ixs (.t 23) (.c (.int .i64 1))) 22 true),(ax 25 (.bin .eql (.t 24) (.c (b8 62))) 22 true),(aj 26 (.pick (.t 22) (.t 25) (.c (.bool false))))])
abbrev sS:av:=(.rg [(au 45 8),(aj 46 (.bin .lss (.t 45) (.c (.int .i64 0)))),(au 47 46),(ax 48 (.mv (.t 8)) 47 false),(ax 49 (.mv (.t 6)) 47 false),(ax 50 (.lens (.t 49)) 47 false),(ax 51 (.bin .geq (.t 48) (.t 50)) 47 false),(aj 52 (.pick (.t 47) (.c (.bool true)) (.t 51))),(au 53 52),(ax 54 (.mv (.t 6)) 53 false),(ax 55 (.mv (.t 8)) 53 false),(ax 56 (.ixs (.t 54) (.t 55)) 53 false),(ax 57 (.bin .neq (.t 56) (.c (b8 64))) 53 false),(aj 58 (.pick (.t 53) (.c (.bool true)) (.t 57)))])
abbrev sU:av:=(.rg [(au 66 6),(au 67 9),(aj 68 (.gj (.t 66) none (some (.t 67)))),(aj 69 (.call (.c (.fn 79 [])) [(.t 68)])),(aj 70 (.un .not (.t 69))),(au 71 70),(ax 72 (.mv (.t 9)) 71 false),(ax 73 (.mv (.t 6)) 71 false),(ax 74 (.lens (.t 73)) 71 false),(ax 75 (.bin .geq (.t 72) (.t 74)) 71 false),(aj 76 (.pick (.t 71) (.c (.bool true)) (.t 75))),(au 77 76),(ax 78 (.mv (.t 6)) 77 false),(ax 79 (.mv (.t 9)) 77 false),(ax 80 (.ixs (.t 78) (.t 79)) 77 false),(ax 81 (.bin .neq (.t 80) (.c (b8 62))) 77 false),(aj 82 (.pick (.t 77) (.c (.bool true)) (.t 81)))])
abbrev sV:av:=(.rg [(aj 93 (.DZ (.t 10) (some 2))),(au 94 6),(au 95 9),(aj 96 (.bin .add (.t 95) (.c (.int .i64 1)))),(aj 97 (.gj (.t 94) (some (.t 96)) none)),(cS (.st (.t 2) (.t 93) 2)),(aQ 3 97),(aj 4 (.aO (.c (.int .i64 0))))])
abbrev EM:av:=(.seq (.rg [(aj 2 (.alloc [(.str []),(.str [])])),(aj 3 (.aO (.c (.str [])))),(aj 4 (.aO (.c (.int .i64 0))))]) (.seq (.seq (.sem (erase sQ)) (.cond (.t 17) (.seq (.rg [(aj 18 (.build [(.str []),(.str [])] [])),(cS (.st (.t 2) (.t 18) 2)),(aj 3 (.aO (.c (.str [])))),(aj 4 (.aO (.c (.int .i64 3))))]) .ret) .skip)) (.seq (.seq (.sem (erase sR)) (.cond (.t 26) (.seq (.rg [(aj 27 (.build [(.str []),(.str [])] [])),(au 28 0),(aj 29 (.gj (.t 28) (some (.c (.int .i64 2))) none)),(cS (.st (.t 2) (.t 27) 2)),(aQ 3 29),(aj 4 (.aO (.c (.int .i64 0))))]) .ret) .skip)) (.seq (.rg [(au 30 0),(aj 31 (.gj (.t 30) (some (.c (.int .i64 1))) none)),(aj 32 (.call (.c (.fn 76 [])) [(.t 31)])),(aQ 5 32)]) (.seq (.seq (.rg [(au 33 5),(aj 34 (.bin .lss (.t 33) (.c (.int .i64 0))))]) (.cond (.t 34) (.seq (.rg [(aj 35 (.build [(.str []),(.str [])] [])),(cS (.st (.t 2) (.t 35) 2)),(aj 3 (.aO (.c (.str [])))),(aj 4 (.aO (.c (.int .i64 3))))]) .ret) .skip)) (.seq (.rg [(au 36 0),(au 37 5),(aj 38 (.bin .add (.c (.int .i64 1)) (.t 37))),(aj 39 (.gj (.t 36) (some (.t 38)) none)),(aQ 6 39)]) (.seq (.rg [(au 41 6),(aj 42 (.call (.c (.fn 77 [])) [(.t 41)])),(au 40 42),(aj 43 (.ext (.t 40) 0)),(aj 44 (.ext (.t 40) 1)),(aQ 7 43),(aQ 8 44)]) (.seq (.seq (.sem (erase sS)) (.cond (.t 58) (.seq (.rg [(aj 59 (.build [(.str []),(.str [])] [])),(cS (.st (.t 2) (.t 59) 2)),(aj 3 (.aO (.c (.str [])))),(aj 4 (.aO (.c (.int .i64 3))))]) .ret) .skip)) (.seq (.rg [(au 60 6),(au 61 8),(aj 62 (.bin .add (.t 61) (.c (.int .i64 1)))),(aj 63 (.gj (.t 60) (some (.t 62)) none)),(aQ 6 63)]) (.seq (.rg [(au 64 6),(aj 65 (.call (.c (.fn 78 [])) [(.t 64)])),(aQ 9 65)]) (.seq (.seq (.sem (erase sU)) (.cond (.t 82) (.seq (.rg [(aj 83 (.build [(.str []),(.str [])] [])),(cS (.st (.t 2) (.t 83) 2)),(aj 3 (.aO (.c (.str [])))),(aj 4 (.aO (.c (.int .i64 3))))]) .ret) .skip)) (.seq (.rg [(au 84 7),(au 85 6),(au 86 9),(aj 87 (.gj (.t 85) none (some (.t 86)))),(aj 88 (.build [(.str []),(.str [])] [(0,(1,(.t 84))),(1,(1,(.t 87)))])),(aj 10 (.alloc [(.str []),(.str [])])),(cS (.st (.t 10) (.t 88) 2))]) (.seq (.seq (.rg [(aj 89 (.ld (.t 10) (some 2))),(aj 90 (.call (.c (.fn 58 [])) [(.t 89)])),(aj 91 (.un .not (.t 90)))]) (.cond (.t 91) (.seq (.rg [(aj 92 (.build [(.str []),(.str [])] [])),(cS (.st (.t 2) (.t 92) 2)),(aj 3 (.aO (.c (.str [])))),(aj 4 (.aO (.c (.int .i64 5))))]) .ret) .skip)) (.seq (.sem (erase sV)) .ret))))))))))))))
theorem EN:bM Tryz.prog 51 98 [(.cell 2 24),(.tmp 3),(.tmp 4)] (erase EM):=⟨Tryz.f51,_,rfl,by decide,rfl,by kernel_rfl,rfl,rfl⟩
abbrev gD:List Nat:=[0,2,3,4,5,6,7,8,9,10,17,26,34,58,82,91]
def pH (s1:List UInt8):Option (Bool):=
 (if (decide (s1=([]:List UInt8))) then
  some true
 else
  (idx s1 0).bind fun x3=>some (!decide (x3=60)))
def pI (s1:List UInt8):Option (Bool):=
 (if (decide (1<(s1.length:Int))) then
  (idx s1 1).bind fun x7=>some (decide (x7=62))
 else
  some false)
def pJ (fL:Int) (gu:List UInt8):Option (Bool):=
 (if (decide (fL<0)) then
  some true
 else
  (if (decide ((gu.length:Int)≤fL)) then
   some true
  else
   (idx gu fL).bind fun tP=>some (!decide (tP=64))))
def pK (F:Nat) (lN:List UInt8) (jW:Int):Option (Bool):=
 (sub lN 0 jW).bind fun C5=>
 (nL F C5).bind fun Qc=>
 (if (!Qc) then
  some true
 else
  (if (decide ((lN.length:Int)≤jW)) then
   some true
  else
   (idx lN jW).bind fun C6=>some (!decide (C6=62))))
def pL (lN:List UInt8) (jW:Int) (gK:List UInt8) (A1:List UInt8):Option ((List UInt8)×Int×aD):=
 (sub lN (IntKind.wrap .i64 (jW+1)) (lN.length:Int)).bind fun x31=>some (x31,0,(aD.mk gK A1))
def vX (F:Nat) (s1:List UInt8):Option (aD×(List UInt8)×Int):=
 (pH s1).bind fun t5=>
 (if t5 then
  some ((aD.mk ([]:List UInt8) ([]:List UInt8)),([]:List UInt8),3)
 else
  (pI s1).bind fun t9=>
  (if t9 then
   (sub s1 2 (s1.length:Int)).bind fun wN=>
   some ((aD.mk ([]:List UInt8) ([]:List UInt8)),wN,0)
  else
   (sub s1 1 (s1.length:Int)).bind fun fD=>
   (tT F fD).bind fun gI=>
   (if (decide (gI<0)) then
    some ((aD.mk ([]:List UInt8) ([]:List UInt8)),([]:List UInt8),3)
   else
    (sub s1 (IntKind.wrap .i64 (1+gI)) (s1.length:Int)).bind fun gu=>
    (tU F gu).bind fun (gK,fL)=>
    (pJ fL gu).bind fun t19=>
    (if t19 then
     some ((aD.mk ([]:List UInt8) ([]:List UInt8)),([]:List UInt8),3)
    else
     (sub gu (IntKind.wrap .i64 (fL+1)) (gu.length:Int)).bind fun lN=>
     (k5 F lN).bind fun jW=>
     (pK F lN jW).bind fun t27=>
     (if t27 then
      some ((aD.mk ([]:List UInt8) ([]:List UInt8)),([]:List UInt8),3)
     else
      (sub lN 0 jW).bind fun A1=>
      (tW F (aD.mk gK A1)).bind fun G7=>
      (if (!G7) then
       some ((aD.mk ([]:List UInt8) ([]:List UInt8)),([]:List UInt8),5)
      else
       (pL lN jW gK A1).bind fun (t35,t36,Qf)=>
       some (Qf,t35,t36)))))))
theorem zG {s1:List UInt8} {q2:Nat} {H0 H:AH} (hfr:Fr H0 H0.length [] H) (ai:H[q2]? =some [(.str ([]:List UInt8)),(.str ([]:List UInt8))]) (dP:H0.length≤q2) {K:Exit→Env→AH→Prop} {t4:Bool}
 (h:pH s1=some t4)
 (kn:∀H':AH,Fr H0 H0.length [] H'→H'[q2]? =some [(.str ([]:List UInt8)),(.str ([]:List UInt8))]→K .normal [(0,(.str s1)),(2,(.ptr q2 0)),(17,(.bool t4))] H'):
 AX Tryz.prog gD 98 H0.length (erase sQ) K [(0,(.str s1)),(2,(.ptr q2 0))] H:=by
 refine bT fun K' hK=> ?_
 have hle:=hfr.le
 have aM:=aR ai
 rw [pH.eq_1] at h
 refine az ai ?_
 refine bR h (fun hy1 h=> ?_) fun hy1 h=> ?_
 · refine az (aI hy1 ai) ?_
   obtain rfl:=aA h
   exact hK _ _ _ _ _ aJ ak (kn _ hfr (ai.trans rfl))
 · obtain ⟨x3,hy2,h⟩:=aq h
   refine az (aI hy1 (aI hy2 ai)) ?_
   obtain rfl:=aA h
   exact hK _ _ _ _ _ aJ ak (kn _ hfr (ai.trans rfl))
theorem zH {s1:List UInt8} {q6:Nat} {H0 H:AH} (hfr:Fr H0 H0.length [] H) (ai:H[q6]? =some [(.str ([]:List UInt8)),(.str ([]:List UInt8))]) (dP:H0.length≤q6) {K:Exit→Env→AH→Prop} {t8:Bool}
 (h:pI s1=some t8)
 (kn:∀H':AH,Fr H0 H0.length [] H'→H'[q6]? =some [(.str ([]:List UInt8)),(.str ([]:List UInt8))]→K .normal [(0,(.str s1)),(2,(.ptr q6 0)),(26,(.bool t8))] H'):
 AX Tryz.prog gD 98 H0.length (erase sR) K [(0,(.str s1)),(2,(.ptr q6 0))] H:=by
 refine bT fun K' hK=> ?_
 have hle:=hfr.le
 have aM:=aR ai
 rw [pI.eq_1] at h
 refine az ai ?_
 refine bR h (fun bK h=> ?_) fun bK h=> ?_
 · obtain ⟨x7,bY,h⟩:=aq h
   refine az (aI bK (aI bY ai)) ?_
   obtain rfl:=aA h
   exact hK _ _ _ _ _ aJ ak (kn _ hfr (ai.trans rfl))
 · refine az (aI bK ai) ?_
   obtain rfl:=aA h
   exact hK _ _ _ _ _ aJ ak (kn _ hfr (ai.trans rfl))
theorem zI {fL:Int} {gu:List UInt8} {zJ:Nat} {gK:List UInt8} {H0 H:AH} (hfr:Fr H0 H0.length [] H) (ai:H[zJ]? =some [(.str ([]:List UInt8)),(.str ([]:List UInt8))]) (dP:H0.length≤zJ) {K:Exit→Env→AH→Prop} {t18:Bool}
 (h:pJ fL gu=some t18)
 (kn:∀H':AH,Fr H0 H0.length [] H'→H'[zJ]? =some [(.str ([]:List UInt8)),(.str ([]:List UInt8))]→K .normal [(2,(.ptr zJ 0)),(6,(.str gu)),(7,(.str gK)),(8,(.int .i64 fL)),(58,(.bool t18))] H'):
 AX Tryz.prog gD 98 H0.length (erase sS) K [(2,(.ptr zJ 0)),(6,(.str gu)),(7,(.str gK)),(8,(.int .i64 fL))] H:=by
 refine bT fun K' hK=> ?_
 have hle:=hfr.le
 have aM:=aR ai
 rw [pJ.eq_1] at h
 refine az ai ?_
 refine bR h (fun eW h=> ?_) fun eW h=> ?_
 · refine az (aI eW ai) ?_
   obtain rfl:=aA h
   exact hK _ _ _ _ _ aJ ak (kn _ hfr (ai.trans rfl))
 · refine az (aI eW ai) ?_
   refine bR h (fun ek h=> ?_) fun ek h=> ?_
   · refine az (aI ek ai) ?_
     obtain rfl:=aA h
     exact hK _ _ _ _ _ aJ ak (kn _ hfr (ai.trans rfl))
   · obtain ⟨tP,ic,h⟩:=aq h
     refine az (aI ek (aI ic ai)) ?_
     obtain rfl:=aA h
     exact hK _ _ _ _ _ aJ ak (kn _ hfr (ai.trans rfl))
theorem zK {F:Nat} {lN:List UInt8} {jW:Int} {nO:Nat} {gK:List UInt8} {H0 H:AH} (hfr:Fr H0 H0.length [] H) (ai:H[nO]? =some [(.str ([]:List UInt8)),(.str ([]:List UInt8))]) (dP:H0.length≤nO) {K:Exit→Env→AH→Prop} {t26:Bool}
 (h:pK F lN jW=some t26)
 (kn:∀H':AH,Fr H0 H0.length [] H'→H'[nO]? =some [(.str ([]:List UInt8)),(.str ([]:List UInt8))]→K .normal [(2,(.ptr nO 0)),(6,(.str lN)),(7,(.str gK)),(9,(.int .i64 jW)),(82,(.bool t26))] H'):
 AX Tryz.prog gD 98 H0.length (erase sU) K [(2,(.ptr nO 0)),(6,(.str lN)),(7,(.str gK)),(9,(.int .i64 jW))] H:=by
 refine bT fun K' hK=> ?_
 have hle:=hfr.le
 have aM:=aR ai
 rw [pK.eq_1] at h
 obtain ⟨C5,ie,h⟩:=aq h
 refine az (aI ie ai) ?_
 obtain ⟨Qc,jg,h⟩:=aq h
 refine bB ak (uD jg) ?_
 refine az ai ?_
 refine bR h (fun gO h=> ?_) fun gO h=> ?_
 · refine az (aI gO ai) ?_
   obtain rfl:=aA h
   exact hK _ _ _ _ _ aJ ak (kn _ hfr (ai.trans rfl))
 · refine az (aI gO ai) ?_
   refine bR h (fun ig h=> ?_) fun ig h=> ?_
   · refine az (aI ig ai) ?_
     obtain rfl:=aA h
     exact hK _ _ _ _ _ aJ ak (kn _ hfr (ai.trans rfl))
   · obtain ⟨C6,jS,h⟩:=aq h
     refine az (aI ig (aI jS ai)) ?_
     obtain rfl:=aA h
     exact hK _ _ _ _ _ aJ ak (kn _ hfr (ai.trans rfl))
theorem zL {lN:List UInt8} {jW:Int} {gK:List UInt8} {A1:List UInt8} {Qg:Nat} {H0 H:AH} (hfr:Fr H0 H0.length [] H) (ai:H[Qg]? =some [(.str ([]:List UInt8)),(.str ([]:List UInt8))]) (dP:H0.length≤Qg) {K:Exit→Env→AH→Prop} {t32:List UInt8} {t33:Int} {Zz:aD}
 (h:pL lN jW gK A1=some (t32,t33,Zz))
 (kn:∀H':AH,Fr H0 H0.length [] H'→H'[Qg]? =some [(.str Zz.ay),(.str Zz.domain)]→K .normal [(2,(.ptr Qg 0)),(3,(.str t32)),(4,(.int .i64 t33))] H'):
 AX Tryz.prog gD 98 H0.length (erase sV) K [(2,(.ptr Qg 0)),(6,(.str lN)),(9,(.int .i64 jW)),(10,(.ep (.agg [(.str gK),(.str A1)]) 0))] H:=by
 refine bT fun K' hK=> ?_
 have hle:=hfr.le
 have aM:=aR ai
 rw [pL.eq_1] at h
 obtain ⟨x31,Ju,h⟩:=aq h
 refine az (aI Ju ai) ?_
 obtain ⟨rfl,rfl,rfl⟩:=n9 h
 exact hK _ _ _ _ _ aJ ak (kn _ (bW _ hfr) cA)
theorem DG {F:Nat} {s1:List UInt8} {H0:AH} {aP:aD} {ey:List UInt8} {Ji:Int} (h:vX F s1=some (aP,ey,Ji)):
 aF Tryz.prog 51 [(.str s1)] H0 fun v H'=>v=(.bx [(.agg [(.str aP.ay),(.str aP.domain)]),(.str ey),(.int .i64 Ji)])∧H'=H0:=by
 refine lH EN gD [] fun hcl K0 aN H hH hfr=> ?_
 clear hH
 have hle:=hfr.le
 rw [vX.eq_1] at h
 refine cN ?_
 obtain ⟨q2,ju⟩:∃q:Nat,H.length=q:=⟨_,rfl⟩
 try rw [ju]
 obtain ⟨t5,hy3,h⟩:=aq h
 refine bz ak (zG (q2:=q2) (Fr.app hfr) uH cq hy3 ?_)
 intro H hfr ai
 have hle:=hfr.le
 have aM:=aR ai
 refine az ai ?_
 refine bl h (fun hy4 h=> ?_) fun hy4 h=> ?_
 · refine az ai ?_
   obtain ⟨rfl,rfl,rfl⟩:=n9 h
   exact aN _ _ _ bk (aT (bW _ hfr) hcl (bh (cs:=[(.str ([]:List UInt8)),(.str ([]:List UInt8))]) (v:=(.agg [(.str ([]:List UInt8)),(.str ([]:List UInt8))])) (by kernel_rfl) (n:=(some 2)) (by kernel_rfl) rfl cA (by simp [bE,bD,dD,aS,AV.flat,bS,cu,AV.br,Tg.sh]) (aW (aW bf (.int .i64 3)) (.str ([]:List UInt8)))) bg aX ⟨rfl,rfl⟩)
 · refine az ai ?_
   obtain ⟨t9,cD,h⟩:=aq h
   refine bz ak (zH (q6:=q2) hfr (ai.trans rfl) cq cD ?_)
   intro H hfr ai
   have hle:=hfr.le
   have aM:=aR ai
   refine az ai ?_
   refine bl h (fun ct h=> ?_) fun ct h=> ?_
   · obtain ⟨wN,cQ,h⟩:=aq h
     refine az (aI cQ ai) ?_
     obtain ⟨rfl,rfl,rfl⟩:=n9 h
     exact aN _ _ _ bk (aT (bW _ hfr) hcl (bh (cs:=[(.str ([]:List UInt8)),(.str ([]:List UInt8))]) (v:=(.agg [(.str ([]:List UInt8)),(.str ([]:List UInt8))])) (by kernel_rfl) (n:=(some 2)) (by kernel_rfl) rfl cA (by simp [bE,bD,dD,aS,AV.flat,bS,cu,AV.br,Tg.sh]) (aW (aW bf (.int .i64 0)) (.str wN))) bg aX ⟨rfl,rfl⟩)
   · obtain ⟨fD,cc,h⟩:=aq h
     refine az (aI cc ai) ?_
     obtain ⟨gI,cy,h⟩:=aq h
     refine bB ak (BY cy) ?_
     refine az ai ?_
     refine bl h (fun cK h=> ?_) fun cK h=> ?_
     · refine az ai ?_
       obtain ⟨rfl,rfl,rfl⟩:=n9 h
       exact aN _ _ _ bk (aT (bW _ hfr) hcl (bh (cs:=[(.str ([]:List UInt8)),(.str ([]:List UInt8))]) (v:=(.agg [(.str ([]:List UInt8)),(.str ([]:List UInt8))])) (by kernel_rfl) (n:=(some 2)) (by kernel_rfl) rfl cA (by simp [bE,bD,dD,aS,AV.flat,bS,cu,AV.br,Tg.sh]) (aW (aW bf (.int .i64 3)) (.str ([]:List UInt8)))) bg aX ⟨rfl,rfl⟩)
     · obtain ⟨gu,cG,h⟩:=aq h
       refine az (aI cG ai) ?_
       obtain ⟨⟨gK,fL⟩,dX,h⟩:=aq h
       dsimp only at h
       refine bB ak (BZ dX) ?_
       refine az ai ?_
       obtain ⟨t19,gv,h⟩:=aq h
       refine bz ak (zI (gK:=gK) (zJ:=q2) hfr (ai.trans rfl) cq gv ?_)
       intro H hfr ai
       have hle:=hfr.le
       have aM:=aR ai
       refine az ai ?_
       refine bl h (fun fM h=> ?_) fun fM h=> ?_
       · refine az ai ?_
         obtain ⟨rfl,rfl,rfl⟩:=n9 h
         exact aN _ _ _ bk (aT (bW _ hfr) hcl (bh (cs:=[(.str ([]:List UInt8)),(.str ([]:List UInt8))]) (v:=(.agg [(.str ([]:List UInt8)),(.str ([]:List UInt8))])) (by kernel_rfl) (n:=(some 2)) (by kernel_rfl) rfl cA (by simp [bE,bD,dD,aS,AV.flat,bS,cu,AV.br,Tg.sh]) (aW (aW bf (.int .i64 3)) (.str ([]:List UInt8)))) bg aX ⟨rfl,rfl⟩)
       · obtain ⟨lN,fN,h⟩:=aq h
         refine az (aI fN ai) ?_
         obtain ⟨jW,gw,h⟩:=aq h
         refine bB ak (sM gw) ?_
         refine az ai ?_
         obtain ⟨t27,sK,h⟩:=aq h
         refine bz ak (zK (gK:=gK) (nO:=q2) hfr (ai.trans rfl) cq sK ?_)
         intro H hfr ai
         have hle:=hfr.le
         have aM:=aR ai
         refine az ai ?_
         refine bl h (fun vV h=> ?_) fun vV h=> ?_
         · refine az ai ?_
           obtain ⟨rfl,rfl,rfl⟩:=n9 h
           exact aN _ _ _ bk (aT (bW _ hfr) hcl (bh (cs:=[(.str ([]:List UInt8)),(.str ([]:List UInt8))]) (v:=(.agg [(.str ([]:List UInt8)),(.str ([]:List UInt8))])) (by kernel_rfl) (n:=(some 2)) (by kernel_rfl) rfl cA (by simp [bE,bD,dD,aS,AV.flat,bS,cu,AV.br,Tg.sh]) (aW (aW bf (.int .i64 3)) (.str ([]:List UInt8)))) bg aX ⟨rfl,rfl⟩)
         · obtain ⟨A1,Js,h⟩:=aq h
           refine az (aI Js ai) ?_
           obtain ⟨G7,Fc,h⟩:=aq h
           refine bB ak (B1 Fc) ?_
           refine az ai ?_
           refine bl h (fun Jt h=> ?_) fun Jt h=> ?_
           · refine az ai ?_
             obtain ⟨rfl,rfl,rfl⟩:=n9 h
             exact aN _ _ _ bk (aT (bW _ (bW _ (Fr.app hfr))) hcl (bh (cs:=[(.str ([]:List UInt8)),(.str ([]:List UInt8))]) (v:=(.agg [(.str ([]:List UInt8)),(.str ([]:List UInt8))])) (by kernel_rfl) (n:=(some 2)) (by kernel_rfl) rfl cA (by simp [bE,bD,dD,aS,AV.flat,bS,cu,AV.br,Tg.sh]) (aW (aW bf (.int .i64 5)) (.str ([]:List UInt8)))) bg aX ⟨rfl,rfl⟩)
           · refine az ai ?_
             refine V9 ?_
             apply AX.freeze (s:=H.length) (cs:=[(.str gK),(.str A1)]) (by exact cA) (gm.same (gm.same (gm.nil))) (by simp) rfl
             · repeat (first|exact FZ.nil|apply FZ.ep|apply FZ.same)
             refine Zq ?_
             obtain ⟨⟨t35,t36,Qf⟩,TA,h⟩:=aq h
             dsimp only at h
             refine bz ak (zL (Qg:=q2) (bW _ (bW _ (Fr.app hfr))) (lf (lf (CO (ai.trans rfl)))) cq TA ?_)
             intro H hfr ai
             have hle:=hfr.le
             have aM:=aR ai
             refine az ai ?_
             obtain ⟨rfl,rfl,rfl⟩:=n9 h
             exact aN _ _ _ bk (aT hfr hcl (bh (cs:=[(.str Qf.ay),(.str Qf.domain)]) (v:=(.agg [(.str Qf.ay),(.str Qf.domain)])) (by kernel_rfl) (n:=(some 2)) (by kernel_rfl) rfl (ai.trans rfl) (by simp [bE,bD,dD,aS,AV.flat,bS,cu,AV.br,Tg.sh]) (aW (aW bf (.int .i64 t36)) (.str t35))) bg aX ⟨rfl,rfl⟩)
abbrev sW:av:=(.rg [(au 12 4),(aj 13 (.bin .eql (.t 12) (.c (.str [])))),(au 14 13),(ax 15 (.mv (.t 4)) 14 false),(ax 16 (.lens (.t 15)) 14 false),(ax 17 (.bin .gtr (.t 16) (.c (.int .i64 9))) 14 false),(aj 18 (.pick (.t 14) (.c (.bool true)) (.t 17)))])
abbrev sX:av:=(.rg [(au 25 4),(au 26 6),(aj 27 (.ixs (.t 25) (.t 26))),(aj 28 (.bin .lss (.t 27) (.c (b8 48)))),(au 29 28),(ax 30 (.mv (.t 4)) 29 false),(ax 31 (.mv (.t 6)) 29 false),(ax 32 (.ixs (.t 30) (.t 31)) 29 false),(ax 33 (.bin .gtr (.t 32) (.c (b8 57))) 29 false),(aj 34 (.pick (.t 29) (.c (.bool true)) (.t 33)))])
abbrev qY:av:=(.seq (.seq (.rg [(au 19 6),(au 20 4),(aj 21 (.lens (.t 20))),(aj 22 (.bin .lss (.t 19) (.t 21)))]) (.cond (.t 22) .skip (.exit 0))) (.seq (.blk 1 (.seq (.seq (.sem (erase sX)) (.cond (.t 34) (.seq (.rg [(aj 2 (.aO (.c (.int .i64 0)))),(aj 3 (.aO (.c (.bool false))))]) .ret) .skip)) (.rg [(au 35 5),(aj 36 (.bin .mul (.c (.int .i64 10)) (.t 35))),(au 37 4),(au 38 6),(aj 39 (.ixs (.t 37) (.t 38))),(aj 40 (.bin .sub (.t 39) (.c (b8 48)))),(aj 41 (.jH (.int .i64) (.t 40))),(aj 42 (.bin .add (.t 36) (.t 41))),(aQ 5 42)]))) (.rg [(au 23 6),(aj 24 (.bin .add (.t 23) (.c (.int .i64 1)))),(aQ 6 24)])))
abbrev EO:av:=(.seq (.rg [(aj 2 (.aO (.c (.int .i64 0)))),(aj 3 (.aO (.c (.bool false))))]) (.seq (.seq (.rg [(au 7 0),(aj 8 (.call (.c (.fn 50 [])) [(.t 7),(.c (.str [32,115,105,122,101,61]))])),(aj 9 (.un .not (.t 8)))]) (.cond (.t 9) (.seq (.rg [(aj 2 (.aO (.c (.int .i64 0)))),(aj 3 (.aO (.c (.bool false))))]) .ret) .skip)) (.seq (.rg [(au 10 0),(aj 11 (.gj (.t 10) (some (.c (.int .i64 6))) none)),(aQ 4 11)]) (.seq (.seq (.sem (erase sW)) (.cond (.t 18) (.seq (.rg [(aj 2 (.aO (.c (.int .i64 0)))),(aj 3 (.aO (.c (.bool false))))]) .ret) .skip)) (.seq (.rg [(aj 5 (.aO (.c (.int .i64 0))))]) (.seq (.seq (.rg [(aj 6 (.aO (.c (.int .i64 0))))]) (.blk 0 (.loop (erase qY)))) (.seq (.rg [(au 43 5),(aQ 2 43),(aj 3 (.aO (.c (.bool true))))]) .ret)))))))
theorem EP:bM Tryz.prog 53 44 [(.tmp 2),(.tmp 3)] (erase EO):=⟨Tryz.f53,_,rfl,by decide,rfl,by kernel_rfl,rfl,rfl⟩
abbrev k6:List Nat:=[0,2,3,4,5,6,9,18,22,34]
def pM (x3:List UInt8) (i5:Int):Option (Bool):=
 (idx x3 i5).bind fun x6=>
 (if (decide (x6<48)) then
  some true
 else
  some (decide (57<x6)))
def pN (x3:List UInt8):(Int×Int)→Option (St (Int×Bool) Int (Int×Int))
 |(A2,i5)=>
  (if (decide (i5<(x3.length:Int))) then
   (pM x3 i5).bind fun t8=>
   (if t8 then
    some (.ret (0,false))
   else
    (idx x3 i5).bind fun x9=>
    some (.cU ((IntKind.wrap .i64 ((IntKind.wrap .i64 (10*A2))+(IntKind.wrap .i64 ((x9 - 48).toNat:Int)))),(IntKind.wrap .i64 (i5+1)))))
  else
   some (.dW A2))
def vY (F:Nat) (s1:List UInt8):Option (Int×Bool):=
 (nK F s1 ([32,115,105,122,101,61]:List UInt8)).bind fun r2=>
 (if (!r2) then
  some (0,false)
 else
  (sub s1 6 (s1.length:Int)).bind fun x3=>
  (if ((decide (x3=([]:List UInt8)))||(decide (9<(x3.length:Int)))) then
   some (0,false)
  else
   ((iter (pN x3) F (0,0)).bind fun Jg=>
   match Jg with
   | .inr TB=>
     some (TB,true)
   | .inl (gK,fL)=>
     some (gK,fL))))
theorem zM {x3:List UInt8} {H:AH} {K:Exit→Env→AH→Prop}
 (kn:K .normal [(4,(.str x3)),(18,(.bool ((decide (x3=([]:List UInt8)))||(decide (9<(x3.length:Int))))))] H):
 AX Tryz.prog k6 44 H.length (erase sW) K [(4,(.str x3))] H:=by
 refine bT fun K' hK=> ?_
 refine aC ?_
 refine kK (fun hy4=> ?_) fun hy4=> ?_
 · refine aV hy4 ?_
   exact hK _ _ _ _ _ (eG hy4) ak kn
 · refine aV hy4 ?_
   exact hK _ _ _ _ _ (eG hy4) ak kn
theorem zN {x3:List UInt8} {i5:Int} {A2:Int} {H:AH} {K:Exit→Env→AH→Prop} {t7:Bool}
 (h:pM x3 i5=some t7)
 (kn:K .normal [(4,(.str x3)),(5,(.int .i64 A2)),(6,(.int .i64 i5)),(34,(.bool t7))] H):
 AX Tryz.prog k6 44 H.length (erase sX) K [(4,(.str x3)),(5,(.int .i64 A2)),(6,(.int .i64 i5))] H:=by
 refine bT fun K' hK=> ?_
 rw [pM.eq_1] at h
 obtain ⟨x6,cD,h⟩:=aq h
 refine aV cD ?_
 refine bR h (fun ct h=> ?_) fun ct h=> ?_
 · refine aV ct ?_
   obtain rfl:=aA h
   exact hK _ _ _ _ _ aJ ak kn
 · refine aV (aI ct cD) ?_
   obtain rfl:=aA h
   exact hK _ _ _ _ _ aJ ak kn
theorem zO {F:Nat} {i5:Int} {x3:List UInt8} {A2:Int} {H:AH} {K:Exit→Env→AH→Prop} {o:(Int×Bool)⊕(Int)}
 (h:iter (pN x3) F (A2,i5)=some o)
 (c8:∀o':Int,o= .inr o'→K (.exit 0) [(5,(.int .i64 o'))] H)
 (kr:∀o':Int×Bool,o= .inl o'→K .ret [(2,(.int .i64 o'.1)),(3,(.bool o'.2))] H):
 AX Tryz.prog k6 44 H.length (.loop (erase qY)) K [(4,(.str x3)),(5,(.int .i64 A2)),(6,(.int .i64 i5))] H:=by
 refine gH (fun s e H1=>match s with|(A2,i5)=>e=[(4,(.str x3)),(5,(.int .i64 A2)),(6,(.int .i64 i5))]∧H1=H) h ⟨rfl,rfl⟩ ?_
 rintro K' ⟨A2,i5⟩ st e H ⟨rfl,rfl⟩ h hN hB hR hX
 rw [pN.eq_1] at h
 refine aC ?_
 refine bl h (fun bY h=> ?_) fun bY h=> ?_
 · refine aC ?_
   obtain ⟨t8,cQ,h⟩:=aq h
   refine bz ak (zN (A2:=A2) cQ ?_)
   refine aC ?_
   refine bl h (fun cc h=> ?_) fun cc h=> ?_
   · refine aC ?_
     obtain rfl:=aA h
     exact hX _ _ _ _ _ c6 aJ ak (kr _ (hR _ rfl))
   · obtain ⟨x9,cy,h⟩:=aq h
     refine aV cy ?_
     obtain rfl:=aA h
     exact hN _ rfl _ _ _ _ aJ ak ⟨rfl,rfl⟩
 · refine aC ?_
   obtain rfl:=aA h
   exact hX _ _ _ _ _ c6 aJ ak (c8 _ (hB _ rfl))
theorem DH {F:Nat} {s1:List UInt8} {H0:AH} {aP:Int} {ey:Bool} (h:vY F s1=some (aP,ey)):
 aF Tryz.prog 53 [(.str s1)] H0 fun v H'=>v=(.bx [(.int .i64 aP),(.bool ey)])∧H'=H0:=by
 refine fe EP k6 fun hcl K0 aN=> ?_
 rw [vY.eq_1] at h
 refine aC ?_
 obtain ⟨r2,hy1,h⟩:=aq h
 refine bB ak (uC hy1) ?_
 refine aC ?_
 refine bl h (fun hy2 h=> ?_) fun hy2 h=> ?_
 · refine aC ?_
   obtain ⟨rfl,rfl⟩:=cw h
   exact aN _ _ _ bk (aK hcl (aW (aW bf (.bool false)) (.int .i64 0)) bg aX ⟨rfl,rfl⟩)
 · obtain ⟨x3,hy3,h⟩:=aq h
   refine aV hy3 ?_
   refine bz ak (zM (x3:=x3) ?_)
   refine aC ?_
   refine bl h (fun bK h=> ?_) fun bK h=> ?_
   · refine aC ?_
     obtain ⟨rfl,rfl⟩:=cw h
     exact aN _ _ _ bk (aK hcl (aW (aW bf (.bool false)) (.int .i64 0)) bg aX ⟨rfl,rfl⟩)
   · refine aC ?_
     obtain ⟨Jg,cK,h⟩:=aq h
     refine bz ak (zO cK ?_ ?_)
     · rintro TB rfl
       try dsimp only at h
       refine aC ?_
       obtain ⟨rfl,rfl⟩:=cw h
       exact aN _ _ _ bk (aK hcl (aW (aW bf (.bool true)) (.int .i64 TB)) bg aX ⟨rfl,rfl⟩)
     · rintro ⟨gK,fL⟩ rfl
       try dsimp only at h
       refine aC ?_
       obtain ⟨rfl,rfl⟩:=cw h
       exact aN _ _ _ bk (aK hcl (aW (aW bf (.bool fL)) (.int .i64 gK)) bg aX ⟨rfl,rfl⟩)
abbrev sY:av:=(.cond (.t 15) (.rg [(aj 6 (.aO (.c (.str [32,116,111,58]))))]) .skip)
abbrev sZ:av:=(.rg [(aj 31 (.cM (.t 7) 0)),(aj 32 (.ld (.t 31) none)),(aj 33 (.bin .eql (.t 32) (.c (.str [])))),(au 34 33),(ax 35 (.cM (.t 7) 1) 34 true),(ax 36 (.ld (.t 35) none) 34 true),(ax 37 (.bin .eql (.t 36) (.c (.str []))) 34 true),(aj 38 (.pick (.t 34) (.t 37) (.c (.bool false)))),(aQ 10 38)])
abbrev s3:av:=(.rg [(au 39 9),(aj 40 (.bin .neq (.t 39) (.c (.int .i64 0)))),(au 41 40),(ax 42 (.mv (.t 0)) 41 false),(ax 43 (.bin .eql (.t 42) (.c (.int .i64 4))) 41 false),(ax 44 (.mv (.t 43)) 41 false),(ax 45 (.mv (.t 10)) 44 true),(ax 46 (.pick (.t 44) (.t 45) (.c (.bool false))) 41 false),(aj 47 (.pick (.t 41) (.c (.bool true)) (.t 46)))])
abbrev s6:av:=(.cond (.t 53) (.rg [(aj 54 (.cM (.t 11) 4)),(cS (.st (.t 54) (.c (.int .i64 (-1))) 1))]) .skip)
abbrev s7:av:=(.rg [(au 63 13),(au 64 63),(ax 65 (.mv (.t 0)) 64 true),(ax 66 (.bin .eql (.t 65) (.c (.int .i64 3))) 64 true),(aj 67 (.pick (.t 64) (.t 66) (.c (.bool false))))])
abbrev ER:av:=(.seq (.rg [(aj 4 (.alloc [(.int .i64 0),(.str []),(.str []),(.str []),(.int .i64 0)])),(aj 5 (.aO (.c (.int .i64 0))))]) (.seq (.rg [(aj 6 (.aO (.c (.str [32,102,114,111,109,58]))))]) (.seq (.seq (.rg [(au 14 0),(aj 15 (.bin .eql (.t 14) (.c (.int .i64 4))))]) (.sem (erase sY))) (.seq (.seq (.rg [(au 16 1),(au 17 6),(aj 18 (.call (.c (.fn 50 [])) [(.t 16),(.t 17)])),(aj 19 (.un .not (.t 18)))]) (.cond (.t 19) (.seq (.rg [(aj 20 (.build [(.int .i64 0),(.str []),(.str []),(.str []),(.int .i64 0)] [])),(cS (.st (.t 4) (.t 20) 5)),(aj 5 (.aO (.c (.int .i64 501))))]) .ret) .skip)) (.seq (.rg [(au 22 1),(au 23 6),(aj 24 (.lens (.t 23))),(aj 25 (.gj (.t 22) (some (.t 24)) none)),(aj 26 (.call (.c (.fn 52 [])) [(.t 25)])),(aj 27 (.call (.c (.fn 51 [])) [(.t 26)])),(au 21 27),(aj 28 (.ext (.t 21) 0)),(aj 29 (.ext (.t 21) 1)),(aj 30 (.ext (.t 21) 2)),(aj 7 (.alloc [(.str []),(.str [])])),(cS (.st (.t 7) (.t 28) 2)),(aQ 8 29),(aQ 9 30)]) (.seq (.sem (erase sZ)) (.seq (.seq (.sem (erase s3)) (.cond (.t 47) (.seq (.rg [(aj 48 (.build [(.int .i64 0),(.str []),(.str []),(.str []),(.int .i64 0)] [])),(cS (.st (.t 4) (.t 48) 5)),(aj 5 (.aO (.c (.int .i64 501))))]) .ret) .skip)) (.seq (.rg [(au 49 0),(aj 50 (.ld (.t 7) (some 2))),(aj 51 (.build [(.int .i64 0),(.str []),(.str []),(.str []),(.int .i64 0)] [(0,(1,(.t 49))),(2,(2,(.t 50)))])),(aj 11 (.alloc [(.int .i64 0),(.str []),(.str []),(.str []),(.int .i64 0)])),(cS (.st (.t 11) (.t 51) 5))]) (.seq (.seq (.rg [(au 52 0),(aj 53 (.bin .eql (.t 52) (.c (.int .i64 3))))]) (.sem (erase s6))) (.seq (.seq (.rg [(au 55 8),(aj 56 (.bin .eql (.t 55) (.c (.str []))))]) (.cond (.t 56) (.seq (.rg [(aj 57 (.ld (.t 11) (some 5))),(cS (.st (.t 4) (.t 57) 5)),(aj 5 (.aO (.c (.int .i64 0))))]) .ret) .skip)) (.seq (.rg [(au 59 8),(aj 60 (.call (.c (.fn 53 [])) [(.t 59)])),(au 58 60),(aj 61 (.ext (.t 58) 0)),(aj 62 (.ext (.t 58) 1)),(aQ 12 61),(aQ 13 62)]) (.seq (.seq (.sem (erase s7)) (.cond (.t 67) (.seq (.rg [(au 68 12),(aj 69 (.cM (.t 11) 4)),(cS (.st (.t 69) (.t 68) 1))]) (.seq (.rg [(aj 70 (.ld (.t 11) (some 5))),(cS (.st (.t 4) (.t 70) 5)),(aj 5 (.aO (.c (.int .i64 0))))]) .ret)) .skip)) (.seq (.seq (.rg [(au 71 8),(aj 72 (.ixs (.t 71) (.c (.int .i64 0)))),(aj 73 (.bin .eql (.t 72) (.c (b8 32))))]) (.cond (.t 73) (.seq (.rg [(aj 74 (.build [(.int .i64 0),(.str []),(.str []),(.str []),(.int .i64 0)] [])),(cS (.st (.t 4) (.t 74) 5)),(aj 5 (.aO (.c (.int .i64 555))))]) .ret) .skip)) (.seq (.rg [(aj 75 (.build [(.int .i64 0),(.str []),(.str []),(.str []),(.int .i64 0)] [])),(cS (.st (.t 4) (.t 75) 5)),(aj 5 (.aO (.c (.int .i64 501))))]) .ret))))))))))))))
theorem ES:bM Tryz.prog 29 76 [(.cell 4 29),(.tmp 5)] (erase ER):=⟨Tryz.f29,_,rfl,by decide,rfl,by kernel_rfl,rfl,rfl⟩
abbrev gE:List Nat:=[0,1,4,5,6,7,8,9,10,11,12,13,15,19,47,53,56,67,73]
def pO (fT:Int):Option ((List UInt8)):=
 (if (decide (fT=4)) then
  some ([32,116,111,58]:List UInt8)
 else
  some ([32,102,114,111,109,58]:List UInt8))
def pP (fT:Int) (r9:aD):Option (aH):=
 (if (decide (fT=3)) then
  some (aH.mk fT ([]:List UInt8) r9 (-1))
 else
  some (aH.mk fT ([]:List UInt8) r9 0))
def vZ (F:Nat) (fT:Int) (pQ:List UInt8):Option (aH×Int):=
 (pO fT).bind fun L9=>
 (nK F pQ L9).bind fun r6=>
 (if (!r6) then
  some ((aH.mk 0 ([]:List UInt8) (aD.mk ([]:List UInt8) ([]:List UInt8)) 0),501)
 else
  (sub pQ (L9.length:Int) (pQ.length:Int)).bind fun x7=>
  (vU F x7).bind fun r8=>
  (vX F r8).bind fun (r9,dA,kM)=>
  (if ((!decide (kM=0))||((decide (fT=4))&&((decide (r9.ay=([]:List UInt8)))&&(decide (r9.domain=([]:List UInt8)))))) then
   some ((aH.mk 0 ([]:List UInt8) (aD.mk ([]:List UInt8) ([]:List UInt8)) 0),501)
  else
   (pP fT r9).bind fun gR=>
   (if (decide (dA=([]:List UInt8))) then
    some (gR,0)
   else
    (vY F dA).bind fun (lz,jW)=>
    (if (jW&&(decide (fT=3))) then
     some ((aH.mk gR.kind gR.arg gR.path lz),0)
    else
     (idx dA 0).bind fun Jh=>
     (if (decide (Jh=32)) then
      some ((aH.mk 0 ([]:List UInt8) (aD.mk ([]:List UInt8) ([]:List UInt8)) 0),555)
     else
      some ((aH.mk 0 ([]:List UInt8) (aD.mk ([]:List UInt8) ([]:List UInt8)) 0),501))))))
theorem zP {fT:Int} {pQ:List UInt8} {q3:Nat} {H0 H:AH} (hfr:Fr H0 H0.length [] H) (ai:H[q3]? =some [(.int .i64 0),(.str ([]:List UInt8)),(.str ([]:List UInt8)),(.str ([]:List UInt8)),(.int .i64 0)]) (dP:H0.length≤q3) {K:Exit→Env→AH→Prop} {TD:List UInt8}
 (h:pO fT=some TD)
 (kn:∀H':AH,Fr H0 H0.length [] H'→H'[q3]? =some [(.int .i64 0),(.str ([]:List UInt8)),(.str ([]:List UInt8)),(.str ([]:List UInt8)),(.int .i64 0)]→K .normal [(0,(.int .i64 fT)),(1,(.str pQ)),(4,(.ptr q3 0)),(6,(.str TD))] H'):
 AX Tryz.prog gE 76 H0.length (erase sY) K [(0,(.int .i64 fT)),(1,(.str pQ)),(4,(.ptr q3 0)),(6,(.str ([32,102,114,111,109,58]:List UInt8))),(15,(.bool (decide (fT=4))))] H:=by
 refine bT fun K' hK=> ?_
 have hle:=hfr.le
 have aM:=aR ai
 rw [pO.eq_1] at h
 refine az ai ?_
 refine bl h (fun hy1 h=> ?_) fun hy1 h=> ?_
 · refine az ai ?_
   obtain rfl:=aA h
   exact hK _ _ _ _ _ aJ ak (kn _ hfr (ai.trans rfl))
 · refine az ai ?_
   obtain rfl:=aA h
   exact hK _ _ _ _ _ aJ ak (kn _ hfr (ai.trans rfl))
theorem zQ {fT:Int} {Ma:Nat} {kA:Nat} {dA:List UInt8} {kM:Int} {r9:aD} {H0 H:AH} (hfr:Fr H0 H0.length [] H) (ai:H[Ma]? =some [(.int .i64 0),(.str ([]:List UInt8)),(.str ([]:List UInt8)),(.str ([]:List UInt8)),(.int .i64 0)]) (aU:H[kA]? =some [(.str r9.ay),(.str r9.domain)]) (dP:H0.length≤Ma) (hi1:H0.length≤kA) (hi2:Ma≠kA) {K:Exit→Env→AH→Prop}
 (kn:∀H':AH,Fr H0 H0.length [] H'→H'[Ma]? =some [(.int .i64 0),(.str ([]:List UInt8)),(.str ([]:List UInt8)),(.str ([]:List UInt8)),(.int .i64 0)]→H'[kA]? =some [(.str r9.ay),(.str r9.domain)]→K .normal [(0,(.int .i64 fT)),(4,(.ptr Ma 0)),(7,(.ptr kA 0)),(8,(.str dA)),(9,(.int .i64 kM)),(10,(.bool ((decide (r9.ay=([]:List UInt8)))&&(decide (r9.domain=([]:List UInt8))))))] H'):
 AX Tryz.prog gE 76 H0.length (erase sZ) K [(0,(.int .i64 fT)),(4,(.ptr Ma 0)),(7,(.ptr kA 0)),(8,(.str dA)),(9,(.int .i64 kM))] H:=by
 refine bT fun K' hK=> ?_
 have hle:=hfr.le
 have aM:=aR ai
 have oC:=aR aU
 refine az (aI ai aU) ?_
 refine kK (fun ct=> ?_) fun ct=> ?_
 · refine az (aI ct (aI ai aU)) ?_
   exact hK _ _ _ _ _ (eG ct) ak (kn _ hfr (ai.trans rfl) (aU.trans rfl))
 · refine az (aI ct (aI ai aU)) ?_
   exact hK _ _ _ _ _ (eG ct) ak (kn _ hfr (ai.trans rfl) (aU.trans rfl))
theorem zR {fT:Int} {xE:Nat} {zS:Nat} {dA:List UInt8} {kM:Int} {r9:aD} {H0 H:AH} (hfr:Fr H0 H0.length [] H) (ai:H[xE]? =some [(.int .i64 0),(.str ([]:List UInt8)),(.str ([]:List UInt8)),(.str ([]:List UInt8)),(.int .i64 0)]) (aU:H[zS]? =some [(.str r9.ay),(.str r9.domain)]) (dP:H0.length≤xE) (hi1:H0.length≤zS) (hi2:xE≠zS) {K:Exit→Env→AH→Prop}
 (kn:∀H':AH,Fr H0 H0.length [] H'→H'[xE]? =some [(.int .i64 0),(.str ([]:List UInt8)),(.str ([]:List UInt8)),(.str ([]:List UInt8)),(.int .i64 0)]→H'[zS]? =some [(.str r9.ay),(.str r9.domain)]→K .normal [(0,(.int .i64 fT)),(4,(.ptr xE 0)),(7,(.ptr zS 0)),(8,(.str dA)),(47,(.bool ((!decide (kM=0))||((decide (fT=4))&&((decide (r9.ay=([]:List UInt8)))&&(decide (r9.domain=([]:List UInt8))))))))] H'):
 AX Tryz.prog gE 76 H0.length (erase s3) K [(0,(.int .i64 fT)),(4,(.ptr xE 0)),(7,(.ptr zS 0)),(8,(.str dA)),(9,(.int .i64 kM)),(10,(.bool ((decide (r9.ay=([]:List UInt8)))&&(decide (r9.domain=([]:List UInt8))))))] H:=by
 refine bT fun K' hK=> ?_
 have hle:=hfr.le
 have aM:=aR ai
 have oC:=aR aU
 refine az (aI ai aU) ?_
 refine kK (fun cQ=> ?_) fun cQ=> ?_
 · refine az (aI cQ (aI ai aU)) ?_
   exact hK _ _ _ _ _ (eG cQ) ak (kn _ hfr (ai.trans rfl) (aU.trans rfl))
 · refine az (aI cQ (aI ai aU)) ?_
   refine kK (fun cc=> ?_) fun cc=> ?_
   · refine az (aI cc (aI ai aU)) ?_
     exact hK _ _ _ _ _ (eG (aI cQ cc)) ak (kn _ hfr (ai.trans rfl) (aU.trans rfl))
   · refine az (aI cc (aI ai aU)) ?_
     exact hK _ _ _ _ _ (eG (aI cQ cc)) ak (kn _ hfr (ai.trans rfl) (aU.trans rfl))
theorem zT {fT:Int} {r9:aD} {zJ:Nat} {dA:List UInt8} {tS:Nat} {H0 H:AH} (hfr:Fr H0 H0.length [] H) (ai:H[zJ]? =some [(.int .i64 0),(.str ([]:List UInt8)),(.str ([]:List UInt8)),(.str ([]:List UInt8)),(.int .i64 0)]) (bZ:H[tS]? =some [(.int .i64 fT),(.str ([]:List UInt8)),(.str r9.ay),(.str r9.domain),(.int .i64 0)]) (dP:H0.length≤zJ) (hi1:H0.length≤tS) (hi2:zJ≠tS) {K:Exit→Env→AH→Prop} {rQ:aH}
 (h:pP fT r9=some rQ)
 (kn:∀H':AH,Fr H0 H0.length [] H'→H'[zJ]? =some [(.int .i64 0),(.str ([]:List UInt8)),(.str ([]:List UInt8)),(.str ([]:List UInt8)),(.int .i64 0)]→H'[tS]? =some [(.int .i64 rQ.kind),(.str rQ.arg),(.str rQ.path.ay),(.str rQ.path.domain),(.int .i64 rQ.size)]→K .normal [(0,(.int .i64 fT)),(4,(.ptr zJ 0)),(8,(.str dA)),(11,(.ptr tS 0))] H'):
 AX Tryz.prog gE 76 H0.length (erase s6) K [(0,(.int .i64 fT)),(4,(.ptr zJ 0)),(8,(.str dA)),(11,(.ptr tS 0)),(53,(.bool (decide (fT=3))))] H:=by
 refine bT fun K' hK=> ?_
 have hle:=hfr.le
 have aM:=aR ai
 have C8:=aR bZ
 rw [pP.eq_1] at h
 refine az (aI ai bZ) ?_
 refine bl h (fun cK h=> ?_) fun cK h=> ?_
 · refine az (aI ai bZ) ?_
   obtain rfl:=aA h
   exact hK _ _ _ _ _ aJ ak (kn _ (bW _ hfr) (lf (ai.trans rfl)) cA)
 · refine az (aI ai bZ) ?_
   obtain rfl:=aA h
   exact hK _ _ _ _ _ aJ ak (kn _ hfr (ai.trans rfl) (bZ.trans rfl))
theorem zU {fT:Int} {nO:Nat} {dA:List UInt8} {Mb:Nat} {lz:Int} {jW:Bool} {gR:aH} {H0 H:AH} (hfr:Fr H0 H0.length [] H) (ai:H[nO]? =some [(.int .i64 0),(.str ([]:List UInt8)),(.str ([]:List UInt8)),(.str ([]:List UInt8)),(.int .i64 0)]) (bZ:H[Mb]? =some [(.int .i64 gR.kind),(.str gR.arg),(.str gR.path.ay),(.str gR.path.domain),(.int .i64 gR.size)]) (dP:H0.length≤nO) (hi1:H0.length≤Mb) (hi2:nO≠Mb) {K:Exit→Env→AH→Prop}
 (kn:∀H':AH,Fr H0 H0.length [] H'→H'[nO]? =some [(.int .i64 0),(.str ([]:List UInt8)),(.str ([]:List UInt8)),(.str ([]:List UInt8)),(.int .i64 0)]→H'[Mb]? =some [(.int .i64 gR.kind),(.str gR.arg),(.str gR.path.ay),(.str gR.path.domain),(.int .i64 gR.size)]→K .normal [(4,(.ptr nO 0)),(8,(.str dA)),(11,(.ptr Mb 0)),(12,(.int .i64 lz)),(67,(.bool (jW&&(decide (fT=3)))))] H'):
 AX Tryz.prog gE 76 H0.length (erase s7) K [(0,(.int .i64 fT)),(4,(.ptr nO 0)),(8,(.str dA)),(11,(.ptr Mb 0)),(12,(.int .i64 lz)),(13,(.bool jW))] H:=by
 refine bT fun K' hK=> ?_
 have hle:=hfr.le
 have aM:=aR ai
 have C8:=aR bZ
 refine az (aI ai bZ) ?_
 refine kK (fun ek=> ?_) fun ek=> ?_
 · refine az (aI ek (aI ai bZ)) ?_
   exact hK _ _ _ _ _ (eG ek) ak (kn _ hfr (ai.trans rfl) (bZ.trans rfl))
 · refine az (aI ek (aI ai bZ)) ?_
   exact hK _ _ _ _ _ (eG ek) ak (kn _ hfr (ai.trans rfl) (bZ.trans rfl))
theorem DI {F:Nat} {fT:Int} {pQ:List UInt8} {H0:AH} {aP:aH} {ey:Int} (h:vZ F fT pQ=some (aP,ey)):
 aF Tryz.prog 29 [(.int .i64 fT),(.str pQ)] H0 fun v H'=>v=(.bx [(.agg [(.int .i64 aP.kind),(.str aP.arg),(.str aP.path.ay),(.str aP.path.domain),(.int .i64 aP.size)]),(.int .i64 ey)])∧H'=H0:=by
 refine lH ES gE [] fun hcl K0 aN H hH hfr=> ?_
 clear hH
 have hle:=hfr.le
 rw [vZ.eq_1] at h
 refine cN ?_
 obtain ⟨q3,C7⟩:∃q:Nat,H.length=q:=⟨_,rfl⟩
 try rw [C7]
 obtain ⟨L9,hy2,h⟩:=aq h
 refine bz ak (zP (pQ:=pQ) (q3:=q3) (Fr.app hfr) uH cq hy2 ?_)
 intro H hfr ai
 have hle:=hfr.le
 have aM:=aR ai
 refine az ai ?_
 obtain ⟨r6,hy3,h⟩:=aq h
 refine bB ak (uC hy3) ?_
 refine az ai ?_
 refine bl h (fun hy4 h=> ?_) fun hy4 h=> ?_
 · refine az ai ?_
   obtain ⟨rfl,rfl⟩:=cw h
   exact aN _ _ _ bk (aT (bW _ hfr) hcl (bh (cs:=[(.int .i64 0),(.str ([]:List UInt8)),(.str ([]:List UInt8)),(.str ([]:List UInt8)),(.int .i64 0)]) (v:=(.agg [(.int .i64 0),(.str ([]:List UInt8)),(.str ([]:List UInt8)),(.str ([]:List UInt8)),(.int .i64 0)])) (by kernel_rfl) (n:=(some 5)) (by kernel_rfl) rfl cA (by simp [bE,bD,dD,aS,AV.flat,bS,cu,AV.br,Tg.sh]) (aW bf (.int .i64 501))) bg aX ⟨rfl,rfl⟩)
 · obtain ⟨x7,bK,h⟩:=aq h
   refine az (aI bK ai) ?_
   obtain ⟨r8,bY,h⟩:=aq h
   refine bB ak (Dp bY) ?_
   refine az ai ?_
   obtain ⟨⟨r9,dA,kM⟩,cD,h⟩:=aq h
   dsimp only at h
   refine bB ak (DG cD) ?_
   refine az ai ?_
   obtain ⟨kA,Wc⟩:∃q:Nat,H.length=q:=⟨_,rfl⟩
   try rw [Wc]
   refine bz ak (zQ (fT:=fT) (Ma:=q3) (kA:=kA) (dA:=dA) (kM:=kM) (r9:=r9) (bW _ (Fr.app hfr)) (lf (CO (ai.trans rfl))) cA cq cq cq ?_)
   intro H hfr ai aU
   have hle:=hfr.le
   have aM:=aR ai
   have oC:=aR aU
   refine az (aI ai aU) ?_
   refine bz ak (zR (fT:=fT) (xE:=q3) (zS:=kA) (dA:=dA) (kM:=kM) (r9:=r9) hfr (ai.trans rfl) (aU.trans rfl) cq cq cq ?_)
   intro H hfr ai aU
   have hle:=hfr.le
   have aM:=aR ai
   have oC:=aR aU
   refine az (aI ai aU) ?_
   refine bl h (fun cy h=> ?_) fun cy h=> ?_
   · refine az (aI ai aU) ?_
     obtain ⟨rfl,rfl⟩:=cw h
     exact aN _ _ _ bk (aT (bW _ hfr) hcl (bh (cs:=[(.int .i64 0),(.str ([]:List UInt8)),(.str ([]:List UInt8)),(.str ([]:List UInt8)),(.int .i64 0)]) (v:=(.agg [(.int .i64 0),(.str ([]:List UInt8)),(.str ([]:List UInt8)),(.str ([]:List UInt8)),(.int .i64 0)])) (by kernel_rfl) (n:=(some 5)) (by kernel_rfl) rfl cA (by simp [bE,bD,dD,aS,AV.flat,bS,cu,AV.br,Tg.sh]) (aW bf (.int .i64 501))) bg aX ⟨rfl,rfl⟩)
   · refine az (aI ai aU) ?_
     obtain ⟨tS,G6⟩:∃q:Nat,H.length=q:=⟨_,rfl⟩
     try rw [G6]
     obtain ⟨gR,cG,h⟩:=aq h
     refine bz ak (zT (dA:=dA) (zJ:=q3) (tS:=tS) (bW _ (Fr.app hfr)) (lf (CO (ai.trans rfl))) cA cq cq cq cG ?_)
     intro H hfr ai bZ
     have hle:=hfr.le
     have aM:=aR ai
     have C8:=aR bZ
     refine az (aI ai bZ) ?_
     refine bl h (fun dX h=> ?_) fun dX h=> ?_
     · refine az (aI ai bZ) ?_
       obtain ⟨rfl,rfl⟩:=cw h
       exact aN _ _ _ bk (aT (bW _ hfr) hcl (bh (cs:=[(.int .i64 gR.kind),(.str gR.arg),(.str gR.path.ay),(.str gR.path.domain),(.int .i64 gR.size)]) (v:=(.agg [(.int .i64 gR.kind),(.str gR.arg),(.str gR.path.ay),(.str gR.path.domain),(.int .i64 gR.size)])) (by kernel_rfl) (n:=(some 5)) (by kernel_rfl) rfl cA (by simp [bE,bD,dD,aS,AV.flat,bS,cu,AV.br,Tg.sh]) (aW bf (.int .i64 0))) bg aX ⟨rfl,rfl⟩)
     · refine az (aI ai bZ) ?_
       obtain ⟨⟨lz,jW⟩,eW,h⟩:=aq h
       dsimp only at h
       refine bB ak (DH eW) ?_
       refine az (aI ai bZ) ?_
       refine bz ak (zU (fT:=fT) (nO:=q3) (dA:=dA) (Mb:=tS) (lz:=lz) (jW:=jW) (gR:=gR) hfr (ai.trans rfl) (bZ.trans rfl) cq cq cq ?_)
       intro H hfr ai bZ
       have hle:=hfr.le
       have aM:=aR ai
       have C8:=aR bZ
       refine az (aI ai bZ) ?_
       refine bl h (fun ic h=> ?_) fun ic h=> ?_
       · refine az (aI ai bZ) ?_
         obtain ⟨rfl,rfl⟩:=cw h
         exact aN _ _ _ bk (aT (bW _ (bW _ hfr)) hcl (bh (cs:=[(.int .i64 gR.kind),(.str gR.arg),(.str gR.path.ay),(.str gR.path.domain),(.int .i64 lz)]) (v:=(.agg [(.int .i64 gR.kind),(.str gR.arg),(.str gR.path.ay),(.str gR.path.domain),(.int .i64 lz)])) (by kernel_rfl) (n:=(some 5)) (by kernel_rfl) rfl cA (by simp [bE,bD,dD,aS,AV.flat,bS,cu,AV.br,Tg.sh]) (aW bf (.int .i64 0))) bg aX ⟨rfl,rfl⟩)
       · obtain ⟨Jh,gv,h⟩:=aq h
         refine az (aI gv (aI ai bZ)) ?_
         refine bl h (fun fM h=> ?_) fun fM h=> ?_
         · refine az (aI ai bZ) ?_
           obtain ⟨rfl,rfl⟩:=cw h
           exact aN _ _ _ bk (aT (bW _ hfr) hcl (bh (cs:=[(.int .i64 0),(.str ([]:List UInt8)),(.str ([]:List UInt8)),(.str ([]:List UInt8)),(.int .i64 0)]) (v:=(.agg [(.int .i64 0),(.str ([]:List UInt8)),(.str ([]:List UInt8)),(.str ([]:List UInt8)),(.int .i64 0)])) (by kernel_rfl) (n:=(some 5)) (by kernel_rfl) rfl cA (by simp [bE,bD,dD,aS,AV.flat,bS,cu,AV.br,Tg.sh]) (aW bf (.int .i64 555))) bg aX ⟨rfl,rfl⟩)
         · refine az (aI ai bZ) ?_
           obtain ⟨rfl,rfl⟩:=cw h
           exact aN _ _ _ bk (aT (bW _ hfr) hcl (bh (cs:=[(.int .i64 0),(.str ([]:List UInt8)),(.str ([]:List UInt8)),(.str ([]:List UInt8)),(.int .i64 0)]) (v:=(.agg [(.int .i64 0),(.str ([]:List UInt8)),(.str ([]:List UInt8)),(.str ([]:List UInt8)),(.int .i64 0)])) (by kernel_rfl) (n:=(some 5)) (by kernel_rfl) rfl cA (by simp [bE,bD,dD,aS,AV.flat,bS,cu,AV.br,Tg.sh]) (aW bf (.int .i64 501))) bg aX ⟨rfl,rfl⟩)
abbrev qZ:av:=(.rg [(au 14 0),(au 15 4),(aj 16 (.ixs (.t 14) (.t 15))),(aj 17 (.bin .lss (.t 16) (.c (b8 32)))),(au 18 17),(ax 19 (.mv (.t 0)) 18 false),(ax 20 (.mv (.t 4)) 18 false),(ax 21 (.ixs (.t 19) (.t 20)) 18 false),(ax 22 (.bin .gtr (.t 21) (.c (b8 126))) 18 false),(aj 23 (.pick (.t 18) (.c (.bool true)) (.t 22)))])
abbrev pR:av:=(.seq (.seq (.rg [(au 8 4),(au 9 0),(aj 10 (.lens (.t 9))),(aj 11 (.bin .lss (.t 8) (.t 10)))]) (.cond (.t 11) .skip (.exit 0))) (.seq (.blk 1 (.seq (.sem (erase qZ)) (.cond (.t 23) (.seq (.rg [(aj 24 (.build [(.int .i64 0),(.str []),(.str []),(.str []),(.int .i64 0)] [])),(cS (.st (.t 2) (.t 24) 5)),(aj 3 (.aO (.c (.int .i64 500))))]) .ret) .skip))) (.rg [(au 12 4),(aj 13 (.bin .add (.t 12) (.c (.int .i64 1)))),(aQ 4 13)])))
abbrev ri:av:=(.rg [(au 25 0),(aj 26 (.bin .neq (.t 25) (.c (.str [])))),(au 27 26),(ax 28 (.mv (.t 0)) 27 true),(ax 29 (.mv (.t 0)) 27 true),(ax 30 (.lens (.t 29)) 27 true),(ax 31 (.bin .sub (.t 30) (.c (.int .i64 1))) 27 true),(ax 32 (.ixs (.t 28) (.t 31)) 27 true),(ax 33 (.bin .eql (.t 32) (.c (b8 32))) 27 true),(aj 34 (.pick (.t 27) (.t 33) (.c (.bool false))))])
abbrev pS:av:=(.seq (.seq (.sem (erase ri)) (.cond (.t 34) .skip (.exit 2))) (.blk 3 (.rg [(au 35 0),(au 36 0),(aj 37 (.lens (.t 36))),(aj 38 (.bin .sub (.t 37) (.c (.int .i64 1)))),(aj 39 (.gj (.t 35) none (some (.t 38)))),(aQ 0 39)])))
abbrev rj:av:=(.rg [(au 40 5),(au 41 0),(aj 42 (.lens (.t 41))),(aj 43 (.bin .lss (.t 40) (.t 42))),(au 44 43),(ax 45 (.mv (.t 0)) 44 true),(ax 46 (.mv (.t 5)) 44 true),(ax 47 (.ixs (.t 45) (.t 46)) 44 true),(ax 48 (.bin .neq (.t 47) (.c (b8 32))) 44 true),(aj 49 (.pick (.t 44) (.t 48) (.c (.bool false))))])
abbrev pT:av:=(.seq (.seq (.sem (erase rj)) (.cond (.t 49) .skip (.exit 4))) (.blk 5 (.rg [(au 50 5),(aj 51 (.bin .add (.t 50) (.c (.int .i64 1)))),(aQ 5 51)])))
abbrev rq:av:=(.cond (.t 64) .skip (.rg [(aj 66 (.bin .eql (.t 60) (.c (.int .i64 2)))),(aQ 64 66)]))
abbrev ru:av:=(.rg [(au 67 7),(aj 68 (.bin .eql (.t 67) (.c (.str [])))),(au 69 68),(ax 70 (.mv (.t 7)) 69 false),(ax 71 (.gj (.t 70) (some (.c (.int .i64 1))) none) 69 false),(ax 72 (.call (.c (.fn 28 [])) [(.t 71)]) 69 false),(ax 73 (.un .not (.t 72)) 69 false),(aj 74 (.pick (.t 69) (.c (.bool true)) (.t 73)))])
abbrev ry:av:=(.cond (.t 80) .skip (.rg [(aj 82 (.bin .eql (.t 60) (.c (.int .i64 4)))),(aQ 80 82)]))
abbrev rz:av:=(.cond (.t 88) .skip (.rg [(aj 90 (.bin .eql (.t 60) (.c (.int .i64 9)))),(aQ 88 90)]))
abbrev rA:av:=(.rg [(au 91 7),(aj 92 (.bin .eql (.t 91) (.c (.str [])))),(au 93 92),(ax 94 (.mv (.t 6)) 93 true),(ax 95 (.bin .eql (.t 94) (.c (.int .i64 9))) 93 true),(aj 96 (.pick (.t 93) (.t 95) (.c (.bool false))))])
abbrev DJ:av:=(.seq (.rg [(aj 2 (.alloc [(.int .i64 0),(.str []),(.str []),(.str []),(.int .i64 0)])),(aj 3 (.aO (.c (.int .i64 0))))]) (.seq (.seq (.rg [(aj 4 (.aO (.c (.int .i64 0))))]) (.blk 0 (.loop (erase pR)))) (.seq (.blk 2 (.loop (erase pS))) (.seq (.rg [(aj 5 (.aO (.c (.int .i64 0))))]) (.seq (.blk 4 (.loop (erase pT))) (.seq (.rg [(au 52 0),(au 53 5),(aj 54 (.gj (.t 52) none (some (.t 53)))),(aj 55 (.call (.c (.fn 27 [])) [(.t 54)])),(aj 56 (.call (.c (.fn 26 [])) [(.t 55)])),(aQ 6 56)]) (.seq (.rg [(au 57 0),(au 58 5),(aj 59 (.gj (.t 57) (some (.t 58)) none)),(aQ 7 59)]) (.seq (.seq (.rg [(au 60 6)]) (.blk 6 (.seq (.rg [(aj 62 (.bin .eql (.t 60) (.c (.int .i64 0)))),(aQ 61 62)]) (.cond (.t 61) (.seq (.rg [(aj 63 (.build [(.int .i64 0),(.str []),(.str []),(.str []),(.int .i64 0)] [])),(cS (.st (.t 2) (.t 63) 5)),(aj 3 (.aO (.c (.int .i64 500))))]) .ret) (.seq (.seq (.rg [(aj 65 (.bin .eql (.t 60) (.c (.int .i64 1)))),(aQ 64 65)]) (.sem (erase rq))) (.cond (.t 64) (.seq (.seq (.sem (erase ru)) (.cond (.t 74) (.seq (.rg [(aj 75 (.build [(.int .i64 0),(.str []),(.str []),(.str []),(.int .i64 0)] [])),(cS (.st (.t 2) (.t 75) 5)),(aj 3 (.aO (.c (.int .i64 501))))]) .ret) .skip)) (.seq (.rg [(au 76 6),(au 77 7),(aj 78 (.gj (.t 77) (some (.c (.int .i64 1))) none)),(aj 79 (.build [(.int .i64 0),(.str []),(.str []),(.str []),(.int .i64 0)] [(0,(1,(.t 76))),(1,(1,(.t 78)))])),(cS (.st (.t 2) (.t 79) 5)),(aj 3 (.aO (.c (.int .i64 0))))]) .ret)) (.seq (.seq (.rg [(aj 81 (.bin .eql (.t 60) (.c (.int .i64 3)))),(aQ 80 81)]) (.sem (erase ry))) (.cond (.t 80) (.seq (.rg [(au 83 6),(au 84 7),(aj 85 (.call (.c (.fn 29 [])) [(.t 83),(.t 84)])),(aj 86 (.ext (.t 85) 0)),(aj 87 (.ext (.t 85) 1)),(cS (.st (.t 2) (.t 86) 5)),(aQ 3 87)]) .ret) (.seq (.seq (.rg [(aj 89 (.bin .eql (.t 60) (.c (.int .i64 7)))),(aQ 88 89)]) (.sem (erase rz))) (.cond (.t 88) (.seq (.seq (.sem (erase rA)) (.cond (.t 96) (.seq (.rg [(aj 97 (.build [(.int .i64 0),(.str []),(.str []),(.str []),(.int .i64 0)] [])),(cS (.st (.t 2) (.t 97) 5)),(aj 3 (.aO (.c (.int .i64 501))))]) .ret) .skip)) (.seq (.seq (.rg [(au 98 7),(aj 99 (.bin .eql (.t 98) (.c (.str []))))]) (.cond (.t 99) (.seq (.rg [(au 100 6),(aj 101 (.build [(.int .i64 0),(.str []),(.str []),(.str []),(.int .i64 0)] [(0,(1,(.t 100)))])),(cS (.st (.t 2) (.t 101) 5)),(aj 3 (.aO (.c (.int .i64 0))))]) .ret) .skip)) (.seq (.rg [(au 102 6),(au 103 7),(aj 104 (.gj (.t 103) (some (.c (.int .i64 1))) none)),(aj 105 (.build [(.int .i64 0),(.str []),(.str []),(.str []),(.int .i64 0)] [(0,(1,(.t 102))),(1,(1,(.t 104)))])),(cS (.st (.t 2) (.t 105) 5)),(aj 3 (.aO (.c (.int .i64 0))))]) .ret))) .skip)))))))))) (.seq (.seq (.rg [(au 106 7),(aj 107 (.bin .neq (.t 106) (.c (.str []))))]) (.cond (.t 107) (.seq (.rg [(aj 108 (.build [(.int .i64 0),(.str []),(.str []),(.str []),(.int .i64 0)] [])),(cS (.st (.t 2) (.t 108) 5)),(aj 3 (.aO (.c (.int .i64 501))))]) .ret) .skip)) (.seq (.rg [(au 109 6),(aj 110 (.build [(.int .i64 0),(.str []),(.str []),(.str []),(.int .i64 0)] [(0,(1,(.t 109)))])),(cS (.st (.t 2) (.t 110) 5)),(aj 3 (.aO (.c (.int .i64 0))))]) .ret))))))))))
theorem DK:bM Tryz.prog 9 111 [(.cell 2 29),(.tmp 3)] (erase DJ):=⟨Tryz.f9,_,rfl,by decide,rfl,by kernel_rfl,rfl,rfl⟩
abbrev cH:List Nat:=[0,2,3,4,5,6,7,11,23,34,49,60,61,64,74,80,88,96,99,107]
def mF (s1:List UInt8) (i3:Int):Option (Bool):=
 (idx s1 i3).bind fun x6=>
 (if (decide (x6<32)) then
  some true
 else
  some (decide (126<x6)))
def mG (s1:List UInt8):(Int×aH)→Option (St (aH×Int) aH (Int×aH))
 |(i3,s4)=>
  (if (decide (i3<(s1.length:Int))) then
   (mF s1 i3).bind fun t8=>
   (if t8 then
    some (.ret ((aH.mk 0 ([]:List UInt8) (aD.mk ([]:List UInt8) ([]:List UInt8)) 0),500))
   else
    some (.cU ((IntKind.wrap .i64 (i3+1)),s4)))
  else
   some (.dW s4))
def mH (fE:List UInt8):Option (Bool):=
 (if (!decide (fE=([]:List UInt8))) then
  (idx fE (IntKind.wrap .i64 ((fE.length:Int) - 1))).bind fun ng=>some (decide (ng=32))
 else
  some false)
def mI:(List UInt8)→Option (St (aH×Int) (List UInt8) (List UInt8))
 |fE=>
  (mH fE).bind fun t18=>
  (if t18 then
   (sub fE 0 (IntKind.wrap .i64 ((fE.length:Int) - 1))).bind fun AI=>some (.cU AI)
  else
   some (.dW fE))
def mJ (mV:Int) (nh:List UInt8):Option (Bool):=
 (if (decide (mV<(nh.length:Int))) then
  (idx nh mV).bind fun C6=>some (!decide (C6=32))
 else
  some false)
def mK (nh:List UInt8):Int→Option (St (aH×Int) Int Int)
 |mV=>
  (mJ mV nh).bind fun t27=>
  (if t27 then
   some (.cU (IntKind.wrap .i64 (mV+1)))
  else
   some (.dW mV))
def mL (r32:Int):Option (Bool):=
 (if (decide (r32=1)) then
  some (decide (r32=1))
 else
  some (decide (r32=2)))
def mM (F:Nat) (gh:List UInt8):Option (Bool):=
 (if (decide (gh=([]:List UInt8))) then
  some true
 else
  (sub gh 1 (gh.length:Int)).bind fun x38=>(eS F x38).bind fun r39=>some (!r39))
def mN (r32:Int):Option (Bool):=
 (if (decide (r32=3)) then
  some (decide (r32=3))
 else
  some (decide (r32=4)))
def mO (r32:Int):Option (Bool):=
 (if (decide (r32=7)) then
  some (decide (r32=7))
 else
  some (decide (r32=9)))
def zV (F:Nat) (s1:List UInt8):Option (aH×Int):=
 ((iter (mG s1) F (0,(aH.mk 0 ([]:List UInt8) (aD.mk ([]:List UInt8) ([]:List UInt8)) 0))).bind fun o57=>
 match o57 with
 | .inr aY=>
   ((iter mI F s1).bind fun o54=>
   match o54 with
   | .inr nh=>
     ((iter (mK nh) F 0).bind fun o53=>
     match o53 with
     | .inr TE=>
       (sub nh 0 TE).bind fun x30=>
       (nJ F x30).bind fun r31=>
       (vR F r31).bind fun r32=>
       (sub nh TE (nh.length:Int)).bind fun gh=>
       (if (decide (r32=0)) then
        some ((aH.mk 0 ([]:List UInt8) (aD.mk ([]:List UInt8) ([]:List UInt8)) 0),500)
       else
        (mL r32).bind fun t36=>
        (if t36 then
         (mM F gh).bind fun t41=>
         (if t41 then
          some ((aH.mk 0 ([]:List UInt8) (aD.mk ([]:List UInt8) ([]:List UInt8)) 0),501)
         else
          (sub gh 1 (gh.length:Int)).bind fun Wd=>
          some ((aH.mk r32 Wd (aD.mk ([]:List UInt8) ([]:List UInt8)) 0),0))
        else
         (mN r32).bind fun t45=>
         (if t45 then
          (vZ F r32 gh).bind fun (B2,ZA)=>some (B2,ZA)
         else
          (mO r32).bind fun t50=>
          (if t50 then
           (if ((decide (gh=([]:List UInt8)))&&(decide (r32=9))) then
            some ((aH.mk 0 ([]:List UInt8) (aD.mk ([]:List UInt8) ([]:List UInt8)) 0),501)
           else
            (if (decide (gh=([]:List UInt8))) then
             some ((aH.mk r32 ([]:List UInt8) (aD.mk ([]:List UInt8) ([]:List UInt8)) 0),0)
            else
             (sub gh 1 (gh.length:Int)).bind fun We=>
             some ((aH.mk r32 We (aD.mk ([]:List UInt8) ([]:List UInt8)) 0),0)))
          else
           (if (!decide (gh=([]:List UInt8))) then
            some ((aH.mk 0 ([]:List UInt8) (aD.mk ([]:List UInt8) ([]:List UInt8)) 0),501)
           else
            some ((aH.mk r32 ([]:List UInt8) (aD.mk ([]:List UInt8) ([]:List UInt8)) 0),0))))))
     | .inl _=>none)
   | .inl _=>none)
 | .inl (B3,ZB)=>
   some (B3,ZB))
theorem yz {s1:List UInt8} {i3:Int} {q5:Nat} {s4:aH} {H0 H:AH} (hfr:Fr H0 H0.length [] H) (ai:H[q5]? =some [(.int .i64 s4.kind),(.str s4.arg),(.str s4.path.ay),(.str s4.path.domain),(.int .i64 s4.size)]) (dP:H0.length≤q5) {K:Exit→Env→AH→Prop} {t7:Bool}
 (h:mF s1 i3=some t7)
 (kn:∀H':AH,Fr H0 H0.length [] H'→H'[q5]? =some [(.int .i64 s4.kind),(.str s4.arg),(.str s4.path.ay),(.str s4.path.domain),(.int .i64 s4.size)]→K .normal [(0,(.str s1)),(2,(.ptr q5 0)),(4,(.int .i64 i3)),(23,(.bool t7))] H'):
 AX Tryz.prog cH 111 H0.length (erase qZ) K [(0,(.str s1)),(2,(.ptr q5 0)),(4,(.int .i64 i3))] H:=by
 refine bT fun K' hK=> ?_
 have hle:=hfr.le
 have aM:=aR ai
 rw [mF.eq_1] at h
 obtain ⟨x6,hy2,h⟩:=aq h
 refine az (aI hy2 ai) ?_
 refine bR h (fun hy3 h=> ?_) fun hy3 h=> ?_
 · refine az (aI hy3 ai) ?_
   obtain rfl:=aA h
   exact hK _ _ _ _ _ aJ ak (kn _ hfr (ai.trans rfl))
 · refine az (aI hy3 (aI hy2 ai)) ?_
   obtain rfl:=aA h
   exact hK _ _ _ _ _ aJ ak (kn _ hfr (ai.trans rfl))
theorem yA {F:Nat} {i3:Int} {s1:List UInt8} {s4:aH} {q2:Nat} {H0 H:AH} (hfr:Fr H0 H0.length [] H) (ai:H[q2]? =some [(.int .i64 s4.kind),(.str s4.arg),(.str s4.path.ay),(.str s4.path.domain),(.int .i64 s4.size)]) (dP:H0.length≤q2) {K:Exit→Env→AH→Prop} {o:(aH×Int)⊕(aH)}
 (h:iter (mG s1) F (i3,s4)=some o)
 (c8:∀o':aH,o= .inr o'→∀H':AH,Fr H0 H0.length [] H'→H'[q2]? =some [(.int .i64 o'.kind),(.str o'.arg),(.str o'.path.ay),(.str o'.path.domain),(.int .i64 o'.size)]→K (.exit 0) [(0,(.str s1)),(2,(.ptr q2 0))] H')
 (kr:∀o':aH×Int,o= .inl o'→∀H':AH,Fr H0 H0.length [] H'→H'[q2]? =some [(.int .i64 o'.1.kind),(.str o'.1.arg),(.str o'.1.path.ay),(.str o'.1.path.domain),(.int .i64 o'.1.size)]→K .ret [(2,(.ptr q2 0)),(3,(.int .i64 o'.2))] H'):
 AX Tryz.prog cH 111 H0.length (.loop (erase pR)) K [(0,(.str s1)),(2,(.ptr q2 0)),(4,(.int .i64 i3))] H:=by
 refine gH (fun s e H1=>match s with|(i3,s4)=>e=[(0,(.str s1)),(2,(.ptr q2 0)),(4,(.int .i64 i3))]∧Fr H0 H0.length [] H1∧H1[q2]? =some [(.int .i64 s4.kind),(.str s4.arg),(.str s4.path.ay),(.str s4.path.domain),(.int .i64 s4.size)]) h ⟨rfl,hfr,ai⟩ ?_
 rintro K' ⟨i3,s4⟩ st e H ⟨rfl,hfr,ai⟩ h hN hB hR hX
 have hle:=hfr.le
 have aM:=aR ai
 rw [mG.eq_1] at h
 refine az ai ?_
 refine bl h (fun hy1 h=> ?_) fun hy1 h=> ?_
 · refine az ai ?_
   obtain ⟨t8,hy4,h⟩:=aq h
   refine bz ak (yz (s4:=s4) (q5:=q2) hfr (ai.trans rfl) cq hy4 ?_)
   intro H hfr ai
   have hle:=hfr.le
   have aM:=aR ai
   refine az ai ?_
   refine bl h (fun bK h=> ?_) fun bK h=> ?_
   · refine az ai ?_
     obtain rfl:=aA h
     exact hX _ _ _ _ _ c6 aJ ak (kr _ (hR _ rfl) _ (bW _ hfr) cA)
   · refine az ai ?_
     obtain rfl:=aA h
     exact hN _ rfl _ _ _ _ aJ ak ⟨rfl,hfr,(ai.trans rfl)⟩
 · refine az ai ?_
   obtain rfl:=aA h
   exact hX _ _ _ _ _ c6 aJ ak (c8 _ (hB _ rfl) _ hfr (ai.trans rfl))
theorem yB {fE:List UInt8} {zS:Nat} {aY:aH} {H0 H:AH} (hfr:Fr H0 H0.length [] H) (ai:H[zS]? =some [(.int .i64 aY.kind),(.str aY.arg),(.str aY.path.ay),(.str aY.path.domain),(.int .i64 aY.size)]) (dP:H0.length≤zS) {K:Exit→Env→AH→Prop} {t17:Bool}
 (h:mH fE=some t17)
 (kn:∀H':AH,Fr H0 H0.length [] H'→H'[zS]? =some [(.int .i64 aY.kind),(.str aY.arg),(.str aY.path.ay),(.str aY.path.domain),(.int .i64 aY.size)]→K .normal [(0,(.str fE)),(2,(.ptr zS 0)),(34,(.bool t17))] H'):
 AX Tryz.prog cH 111 H0.length (erase ri) K [(0,(.str fE)),(2,(.ptr zS 0))] H:=by
 refine bT fun K' hK=> ?_
 have hle:=hfr.le
 have aM:=aR ai
 rw [mH.eq_1] at h
 refine az ai ?_
 refine bR h (fun cD h=> ?_) fun cD h=> ?_
 · obtain ⟨ng,ct,h⟩:=aq h
   refine az (aI cD (aI ct ai)) ?_
   obtain rfl:=aA h
   exact hK _ _ _ _ _ aJ ak (kn _ hfr (ai.trans rfl))
 · refine az (aI cD ai) ?_
   obtain rfl:=aA h
   exact hK _ _ _ _ _ aJ ak (kn _ hfr (ai.trans rfl))
theorem yC {F:Nat} {fE:List UInt8} {kA:Nat} {aY:aH} {H0 H:AH} (hfr:Fr H0 H0.length [] H) (ai:H[kA]? =some [(.int .i64 aY.kind),(.str aY.arg),(.str aY.path.ay),(.str aY.path.domain),(.int .i64 aY.size)]) (dP:H0.length≤kA) {K:Exit→Env→AH→Prop} {o:(aH×Int)⊕((List UInt8))}
 (h:iter mI F fE=some o)
 (L8:∀o':(List UInt8),o= .inr o'→∀H':AH,Fr H0 H0.length [] H'→H'[kA]? =some [(.int .i64 aY.kind),(.str aY.arg),(.str aY.path.ay),(.str aY.path.domain),(.int .i64 aY.size)]→K (.exit 2) [(0,(.str o')),(2,(.ptr kA 0))] H'):
 AX Tryz.prog cH 111 H0.length (.loop (erase pS)) K [(0,(.str fE)),(2,(.ptr kA 0))] H:=by
 refine gH (fun s e H1=>match s with|fE=>e=[(0,(.str fE)),(2,(.ptr kA 0))]∧Fr H0 H0.length [] H1∧H1[kA]? =some [(.int .i64 aY.kind),(.str aY.arg),(.str aY.path.ay),(.str aY.path.domain),(.int .i64 aY.size)]) h ⟨rfl,hfr,ai⟩ ?_
 rintro K' fE st e H ⟨rfl,hfr,ai⟩ h hN hB hR hX
 have hle:=hfr.le
 have aM:=aR ai
 rw [mI.eq_1] at h
 refine az ai ?_
 obtain ⟨t18,cQ,h⟩:=aq h
 refine bz ak (yB (aY:=aY) (zS:=kA) hfr (ai.trans rfl) cq cQ ?_)
 intro H hfr ai
 have hle:=hfr.le
 have aM:=aR ai
 refine az ai ?_
 refine bl h (fun cc h=> ?_) fun cc h=> ?_
 · obtain ⟨AI,cy,h⟩:=aq h
   refine az (aI cy ai) ?_
   obtain rfl:=aA h
   exact hN _ rfl _ _ _ _ aJ ak ⟨rfl,hfr,(ai.trans rfl)⟩
 · refine az ai ?_
   obtain rfl:=aA h
   exact hX _ _ _ _ _ c6 aJ ak (L8 _ (hB _ rfl) _ hfr (ai.trans rfl))
theorem yD {mV:Int} {nh:List UInt8} {AR:Nat} {aY:aH} {H0 H:AH} (hfr:Fr H0 H0.length [] H) (ai:H[AR]? =some [(.int .i64 aY.kind),(.str aY.arg),(.str aY.path.ay),(.str aY.path.domain),(.int .i64 aY.size)]) (dP:H0.length≤AR) {K:Exit→Env→AH→Prop} {t26:Bool}
 (h:mJ mV nh=some t26)
 (kn:∀H':AH,Fr H0 H0.length [] H'→H'[AR]? =some [(.int .i64 aY.kind),(.str aY.arg),(.str aY.path.ay),(.str aY.path.domain),(.int .i64 aY.size)]→K .normal [(0,(.str nh)),(2,(.ptr AR 0)),(5,(.int .i64 mV)),(49,(.bool t26))] H'):
 AX Tryz.prog cH 111 H0.length (erase rj) K [(0,(.str nh)),(2,(.ptr AR 0)),(5,(.int .i64 mV))] H:=by
 refine bT fun K' hK=> ?_
 have hle:=hfr.le
 have aM:=aR ai
 rw [mJ.eq_1] at h
 refine az ai ?_
 refine bR h (fun cG h=> ?_) fun cG h=> ?_
 · obtain ⟨C6,dX,h⟩:=aq h
   refine az (aI cG (aI dX ai)) ?_
   obtain rfl:=aA h
   exact hK _ _ _ _ _ aJ ak (kn _ hfr (ai.trans rfl))
 · refine az (aI cG ai) ?_
   obtain rfl:=aA h
   exact hK _ _ _ _ _ aJ ak (kn _ hfr (ai.trans rfl))
theorem yE {F:Nat} {mV:Int} {nh:List UInt8} {nO:Nat} {aY:aH} {H0 H:AH} (hfr:Fr H0 H0.length [] H) (ai:H[nO]? =some [(.int .i64 aY.kind),(.str aY.arg),(.str aY.path.ay),(.str aY.path.domain),(.int .i64 aY.size)]) (dP:H0.length≤nO) {K:Exit→Env→AH→Prop} {o:(aH×Int)⊕(Int)}
 (h:iter (mK nh) F mV=some o)
 (kb4:∀o':Int,o= .inr o'→∀H':AH,Fr H0 H0.length [] H'→H'[nO]? =some [(.int .i64 aY.kind),(.str aY.arg),(.str aY.path.ay),(.str aY.path.domain),(.int .i64 aY.size)]→K (.exit 4) [(0,(.str nh)),(2,(.ptr nO 0)),(5,(.int .i64 o'))] H'):
 AX Tryz.prog cH 111 H0.length (.loop (erase pT)) K [(0,(.str nh)),(2,(.ptr nO 0)),(5,(.int .i64 mV))] H:=by
 refine gH (fun s e H1=>match s with|mV=>e=[(0,(.str nh)),(2,(.ptr nO 0)),(5,(.int .i64 mV))]∧Fr H0 H0.length [] H1∧H1[nO]? =some [(.int .i64 aY.kind),(.str aY.arg),(.str aY.path.ay),(.str aY.path.domain),(.int .i64 aY.size)]) h ⟨rfl,hfr,ai⟩ ?_
 rintro K' mV st e H ⟨rfl,hfr,ai⟩ h hN hB hR hX
 have hle:=hfr.le
 have aM:=aR ai
 rw [mK.eq_1] at h
 refine az ai ?_
 obtain ⟨t27,eW,h⟩:=aq h
 refine bz ak (yD (aY:=aY) (AR:=nO) hfr (ai.trans rfl) cq eW ?_)
 intro H hfr ai
 have hle:=hfr.le
 have aM:=aR ai
 refine az ai ?_
 refine bl h (fun ek h=> ?_) fun ek h=> ?_
 · refine az ai ?_
   obtain rfl:=aA h
   exact hN _ rfl _ _ _ _ aJ ak ⟨rfl,hfr,(ai.trans rfl)⟩
 · refine az ai ?_
   obtain rfl:=aA h
   exact hX _ _ _ _ _ c6 aJ ak (kb4 _ (hB _ rfl) _ hfr (ai.trans rfl))
theorem yF {r32:Int} {Qh:Nat} {gh:List UInt8} {aY:aH} {H0 H:AH} (hfr:Fr H0 H0.length [] H) (ai:H[Qh]? =some [(.int .i64 aY.kind),(.str aY.arg),(.str aY.path.ay),(.str aY.path.domain),(.int .i64 aY.size)]) (dP:H0.length≤Qh) {K:Exit→Env→AH→Prop} {t35:Bool}
 (h:mL r32=some t35)
 (kn:∀H':AH,Fr H0 H0.length [] H'→H'[Qh]? =some [(.int .i64 aY.kind),(.str aY.arg),(.str aY.path.ay),(.str aY.path.domain),(.int .i64 aY.size)]→K .normal [(2,(.ptr Qh 0)),(6,(.int .i64 r32)),(7,(.str gh)),(60,(.int .i64 r32)),(64,(.bool t35))] H'):
 AX Tryz.prog cH 111 H0.length (erase rq) K [(2,(.ptr Qh 0)),(6,(.int .i64 r32)),(7,(.str gh)),(60,(.int .i64 r32)),(64,(.bool (decide (r32=1))))] H:=by
 refine bT fun K' hK=> ?_
 have hle:=hfr.le
 have aM:=aR ai
 rw [mL.eq_1] at h
 refine az ai ?_
 refine bl h (fun jg h=> ?_) fun jg h=> ?_
 · refine az ai ?_
   obtain rfl:=aA h
   exact hK _ _ _ _ _ aJ ak (kn _ hfr (ai.trans rfl))
 · refine az ai ?_
   obtain rfl:=aA h
   exact hK _ _ _ _ _ aJ ak (kn _ hfr (ai.trans rfl))
theorem yG {F:Nat} {gh:List UInt8} {Qi:Nat} {r32:Int} {aY:aH} {H0 H:AH} (hfr:Fr H0 H0.length [] H) (ai:H[Qi]? =some [(.int .i64 aY.kind),(.str aY.arg),(.str aY.path.ay),(.str aY.path.domain),(.int .i64 aY.size)]) (dP:H0.length≤Qi) {K:Exit→Env→AH→Prop} {t40:Bool}
 (h:mM F gh=some t40)
 (kn:∀H':AH,Fr H0 H0.length [] H'→H'[Qi]? =some [(.int .i64 aY.kind),(.str aY.arg),(.str aY.path.ay),(.str aY.path.domain),(.int .i64 aY.size)]→K .normal [(2,(.ptr Qi 0)),(6,(.int .i64 r32)),(7,(.str gh)),(74,(.bool t40))] H'):
 AX Tryz.prog cH 111 H0.length (erase ru) K [(2,(.ptr Qi 0)),(6,(.int .i64 r32)),(7,(.str gh))] H:=by
 refine bT fun K' hK=> ?_
 have hle:=hfr.le
 have aM:=aR ai
 rw [mM.eq_1] at h
 refine az ai ?_
 refine bR h (fun jS h=> ?_) fun jS h=> ?_
 · refine az (aI jS ai) ?_
   obtain rfl:=aA h
   exact hK _ _ _ _ _ aJ ak (kn _ hfr (ai.trans rfl))
 · obtain ⟨x38,sK,h⟩:=aq h
   refine az (aI jS (aI sK ai)) ?_
   obtain ⟨r39,vV,h⟩:=aq h
   refine bB ak (kQ vV) ?_
   refine az ai ?_
   obtain rfl:=aA h
   exact hK _ _ _ _ _ aJ ak (kn _ hfr (ai.trans rfl))
theorem yH {r32:Int} {Qj:Nat} {gh:List UInt8} {aY:aH} {H0 H:AH} (hfr:Fr H0 H0.length [] H) (ai:H[Qj]? =some [(.int .i64 aY.kind),(.str aY.arg),(.str aY.path.ay),(.str aY.path.domain),(.int .i64 aY.size)]) (dP:H0.length≤Qj) {K:Exit→Env→AH→Prop} {t44:Bool}
 (h:mN r32=some t44)
 (kn:∀H':AH,Fr H0 H0.length [] H'→H'[Qj]? =some [(.int .i64 aY.kind),(.str aY.arg),(.str aY.path.ay),(.str aY.path.domain),(.int .i64 aY.size)]→K .normal [(2,(.ptr Qj 0)),(6,(.int .i64 r32)),(7,(.str gh)),(60,(.int .i64 r32)),(80,(.bool t44))] H'):
 AX Tryz.prog cH 111 H0.length (erase ry) K [(2,(.ptr Qj 0)),(6,(.int .i64 r32)),(7,(.str gh)),(60,(.int .i64 r32)),(80,(.bool (decide (r32=3))))] H:=by
 refine bT fun K' hK=> ?_
 have hle:=hfr.le
 have aM:=aR ai
 rw [mN.eq_1] at h
 refine az ai ?_
 refine bl h (fun Ju h=> ?_) fun Ju h=> ?_
 · refine az ai ?_
   obtain rfl:=aA h
   exact hK _ _ _ _ _ aJ ak (kn _ hfr (ai.trans rfl))
 · refine az ai ?_
   obtain rfl:=aA h
   exact hK _ _ _ _ _ aJ ak (kn _ hfr (ai.trans rfl))
theorem yI {r32:Int} {Qk:Nat} {gh:List UInt8} {aY:aH} {H0 H:AH} (hfr:Fr H0 H0.length [] H) (ai:H[Qk]? =some [(.int .i64 aY.kind),(.str aY.arg),(.str aY.path.ay),(.str aY.path.domain),(.int .i64 aY.size)]) (dP:H0.length≤Qk) {K:Exit→Env→AH→Prop} {t49:Bool}
 (h:mO r32=some t49)
 (kn:∀H':AH,Fr H0 H0.length [] H'→H'[Qk]? =some [(.int .i64 aY.kind),(.str aY.arg),(.str aY.path.ay),(.str aY.path.domain),(.int .i64 aY.size)]→K .normal [(2,(.ptr Qk 0)),(6,(.int .i64 r32)),(7,(.str gh)),(88,(.bool t49))] H'):
 AX Tryz.prog cH 111 H0.length (erase rz) K [(2,(.ptr Qk 0)),(6,(.int .i64 r32)),(7,(.str gh)),(60,(.int .i64 r32)),(88,(.bool (decide (r32=7))))] H:=by
 refine bT fun K' hK=> ?_
 have hle:=hfr.le
 have aM:=aR ai
 rw [mO.eq_1] at h
 refine az ai ?_
 refine bl h (fun abB h=> ?_) fun abB h=> ?_
 · refine az ai ?_
   obtain rfl:=aA h
   exact hK _ _ _ _ _ aJ ak (kn _ hfr (ai.trans rfl))
 · refine az ai ?_
   obtain rfl:=aA h
   exact hK _ _ _ _ _ aJ ak (kn _ hfr (ai.trans rfl))
theorem yJ {Ql:Nat} {r32:Int} {gh:List UInt8} {aY:aH} {H0 H:AH} (hfr:Fr H0 H0.length [] H) (ai:H[Ql]? =some [(.int .i64 aY.kind),(.str aY.arg),(.str aY.path.ay),(.str aY.path.domain),(.int .i64 aY.size)]) (dP:H0.length≤Ql) {K:Exit→Env→AH→Prop}
 (kn:∀H':AH,Fr H0 H0.length [] H'→H'[Ql]? =some [(.int .i64 aY.kind),(.str aY.arg),(.str aY.path.ay),(.str aY.path.domain),(.int .i64 aY.size)]→K .normal [(2,(.ptr Ql 0)),(6,(.int .i64 r32)),(7,(.str gh)),(96,(.bool ((decide (gh=([]:List UInt8)))&&(decide (r32=9)))))] H'):
 AX Tryz.prog cH 111 H0.length (erase rA) K [(2,(.ptr Ql 0)),(6,(.int .i64 r32)),(7,(.str gh))] H:=by
 refine bT fun K' hK=> ?_
 have hle:=hfr.le
 have aM:=aR ai
 refine az ai ?_
 refine kK (fun Jw=> ?_) fun Jw=> ?_
 · refine az (aI Jw ai) ?_
   exact hK _ _ _ _ _ (eG Jw) ak (kn _ hfr (ai.trans rfl))
 · refine az (aI Jw ai) ?_
   exact hK _ _ _ _ _ (eG Jw) ak (kn _ hfr (ai.trans rfl))
theorem QD {F:Nat} {s1:List UInt8} {H0:AH} {aP:aH} {ey:Int} (h:zV F s1=some (aP,ey)):
 aF Tryz.prog 9 [(.str s1)] H0 fun v H'=>v=(.bx [(.agg [(.int .i64 aP.kind),(.str aP.arg),(.str aP.path.ay),(.str aP.path.domain),(.int .i64 aP.size)]),(.int .i64 ey)])∧H'=H0:=by
 refine lH DK cH [] fun hcl K0 aN H hH hfr=> ?_
 clear hH
 have hle:=hfr.le
 rw [zV.eq_1] at h
 refine cN ?_
 obtain ⟨q2,ju⟩:∃q:Nat,H.length=q:=⟨_,rfl⟩
 try rw [ju]
 obtain ⟨o57,bY,h⟩:=aq h
 refine bz ak (yA (q2:=q2) (Fr.app hfr) uH cq bY ?_ ?_)
 · rintro aY rfl H hfr ai
   try dsimp only at h ai
   have hle:=hfr.le
   have aM:=aR ai
   refine az ai ?_
   obtain ⟨o54,cK,h⟩:=aq h
   refine bz ak (yC (aY:=aY) (kA:=q2) hfr (ai.trans rfl) cq cK ?_)
   · rintro nh rfl H hfr ai
     try dsimp only at h ai
     have hle:=hfr.le
     have aM:=aR ai
     refine az ai ?_
     obtain ⟨o53,ic,h⟩:=aq h
     refine bz ak (yE (aY:=aY) (nO:=q2) hfr (ai.trans rfl) cq ic ?_)
     · rintro TE rfl H hfr ai
       try dsimp only at h ai
       have hle:=hfr.le
       have aM:=aR ai
       refine az ai ?_
       obtain ⟨x30,gv,h⟩:=aq h
       refine az (aI gv ai) ?_
       obtain ⟨r31,fM,h⟩:=aq h
       refine bB ak (uA fM) ?_
       refine az ai ?_
       obtain ⟨r32,fN,h⟩:=aq h
       refine bB ak (Df fN) ?_
       refine az ai ?_
       obtain ⟨gh,gw,h⟩:=aq h
       refine az (aI gw ai) ?_
       refine bl h (fun ie h=> ?_) fun ie h=> ?_
       · refine az ai ?_
         obtain ⟨rfl,rfl⟩:=cw h
         exact aN _ _ _ bk (aT (bW _ hfr) hcl (bh (cs:=[(.int .i64 0),(.str ([]:List UInt8)),(.str ([]:List UInt8)),(.str ([]:List UInt8)),(.int .i64 0)]) (v:=(.agg [(.int .i64 0),(.str ([]:List UInt8)),(.str ([]:List UInt8)),(.str ([]:List UInt8)),(.int .i64 0)])) (by kernel_rfl) (n:=(some 5)) (by kernel_rfl) rfl cA (by simp [bE,bD,dD,aS,AV.flat,bS,cu,AV.br,Tg.sh]) (aW bf (.int .i64 500))) bg aX ⟨rfl,rfl⟩)
       · refine az ai ?_
         obtain ⟨t36,gO,h⟩:=aq h
         refine bz ak (yF (gh:=gh) (aY:=aY) (Qh:=q2) hfr (ai.trans rfl) cq gO ?_)
         intro H hfr ai
         have hle:=hfr.le
         have aM:=aR ai
         refine az ai ?_
         refine bl h (fun ig h=> ?_) fun ig h=> ?_
         · refine az ai ?_
           obtain ⟨t41,Js,h⟩:=aq h
           refine bz ak (yG (r32:=r32) (aY:=aY) (Qi:=q2) hfr (ai.trans rfl) cq Js ?_)
           intro H hfr ai
           have hle:=hfr.le
           have aM:=aR ai
           refine az ai ?_
           refine bl h (fun Fc h=> ?_) fun Fc h=> ?_
           · refine az ai ?_
             obtain ⟨rfl,rfl⟩:=cw h
             exact aN _ _ _ bk (aT (bW _ hfr) hcl (bh (cs:=[(.int .i64 0),(.str ([]:List UInt8)),(.str ([]:List UInt8)),(.str ([]:List UInt8)),(.int .i64 0)]) (v:=(.agg [(.int .i64 0),(.str ([]:List UInt8)),(.str ([]:List UInt8)),(.str ([]:List UInt8)),(.int .i64 0)])) (by kernel_rfl) (n:=(some 5)) (by kernel_rfl) rfl cA (by simp [bE,bD,dD,aS,AV.flat,bS,cu,AV.br,Tg.sh]) (aW bf (.int .i64 501))) bg aX ⟨rfl,rfl⟩)
           · obtain ⟨Wd,Jt,h⟩:=aq h
             refine az (aI Jt ai) ?_
             obtain ⟨rfl,rfl⟩:=cw h
             exact aN _ _ _ bk (aT (bW _ hfr) hcl (bh (cs:=[(.int .i64 r32),(.str Wd),(.str ([]:List UInt8)),(.str ([]:List UInt8)),(.int .i64 0)]) (v:=(.agg [(.int .i64 r32),(.str Wd),(.str ([]:List UInt8)),(.str ([]:List UInt8)),(.int .i64 0)])) (by kernel_rfl) (n:=(some 5)) (by kernel_rfl) rfl cA (by simp [bE,bD,dD,aS,AV.flat,bS,cu,AV.br,Tg.sh]) (aW bf (.int .i64 0))) bg aX ⟨rfl,rfl⟩)
         · refine az ai ?_
           obtain ⟨t45,TA,h⟩:=aq h
           refine bz ak (yH (gh:=gh) (aY:=aY) (Qj:=q2) hfr (ai.trans rfl) cq TA ?_)
           intro H hfr ai
           have hle:=hfr.le
           have aM:=aR ai
           refine az ai ?_
           refine bl h (fun abC h=> ?_) fun abC h=> ?_
           · refine az ai ?_
             obtain ⟨⟨B2,ZA⟩,abD,h⟩:=aq h
             dsimp only at h
             refine bB ak (DI abD) ?_
             refine az ai ?_
             obtain ⟨rfl,rfl⟩:=cw h
             exact aN _ _ _ bk (aT (bW _ hfr) hcl (bh (cs:=[(.int .i64 B2.kind),(.str B2.arg),(.str B2.path.ay),(.str B2.path.domain),(.int .i64 B2.size)]) (v:=(.agg [(.int .i64 B2.kind),(.str B2.arg),(.str B2.path.ay),(.str B2.path.domain),(.int .i64 B2.size)])) (by kernel_rfl) (n:=(some 5)) (by kernel_rfl) rfl cA (by simp [bE,bD,dD,aS,AV.flat,bS,cu,AV.br,Tg.sh]) (aW bf (.int .i64 ZA))) bg aX ⟨rfl,rfl⟩)
           · refine az ai ?_
             obtain ⟨t50,abE,h⟩:=aq h
             refine bz ak (yI (gh:=gh) (aY:=aY) (Qk:=q2) hfr (ai.trans rfl) cq abE ?_)
             intro H hfr ai
             have hle:=hfr.le
             have aM:=aR ai
             refine az ai ?_
             refine bl h (fun abF h=> ?_) fun abF h=> ?_
             · refine az ai ?_
               refine bz ak (yJ (Ql:=q2) (r32:=r32) (gh:=gh) (aY:=aY) hfr (ai.trans rfl) cq ?_)
               intro H hfr ai
               have hle:=hfr.le
               have aM:=aR ai
               refine az ai ?_
               refine bl h (fun abG h=> ?_) fun abG h=> ?_
               · refine az ai ?_
                 obtain ⟨rfl,rfl⟩:=cw h
                 exact aN _ _ _ bk (aT (bW _ hfr) hcl (bh (cs:=[(.int .i64 0),(.str ([]:List UInt8)),(.str ([]:List UInt8)),(.str ([]:List UInt8)),(.int .i64 0)]) (v:=(.agg [(.int .i64 0),(.str ([]:List UInt8)),(.str ([]:List UInt8)),(.str ([]:List UInt8)),(.int .i64 0)])) (by kernel_rfl) (n:=(some 5)) (by kernel_rfl) rfl cA (by simp [bE,bD,dD,aS,AV.flat,bS,cu,AV.br,Tg.sh]) (aW bf (.int .i64 501))) bg aX ⟨rfl,rfl⟩)
               · refine az ai ?_
                 refine bl h (fun abH h=> ?_) fun abH h=> ?_
                 · refine az ai ?_
                   obtain ⟨rfl,rfl⟩:=cw h
                   exact aN _ _ _ bk (aT (bW _ hfr) hcl (bh (cs:=[(.int .i64 r32),(.str ([]:List UInt8)),(.str ([]:List UInt8)),(.str ([]:List UInt8)),(.int .i64 0)]) (v:=(.agg [(.int .i64 r32),(.str ([]:List UInt8)),(.str ([]:List UInt8)),(.str ([]:List UInt8)),(.int .i64 0)])) (by kernel_rfl) (n:=(some 5)) (by kernel_rfl) rfl cA (by simp [bE,bD,dD,aS,AV.flat,bS,cu,AV.br,Tg.sh]) (aW bf (.int .i64 0))) bg aX ⟨rfl,rfl⟩)
                 · obtain ⟨We,abI,h⟩:=aq h
                   refine az (aI abI ai) ?_
                   obtain ⟨rfl,rfl⟩:=cw h
                   exact aN _ _ _ bk (aT (bW _ hfr) hcl (bh (cs:=[(.int .i64 r32),(.str We),(.str ([]:List UInt8)),(.str ([]:List UInt8)),(.int .i64 0)]) (v:=(.agg [(.int .i64 r32),(.str We),(.str ([]:List UInt8)),(.str ([]:List UInt8)),(.int .i64 0)])) (by kernel_rfl) (n:=(some 5)) (by kernel_rfl) rfl cA (by simp [bE,bD,dD,aS,AV.flat,bS,cu,AV.br,Tg.sh]) (aW bf (.int .i64 0))) bg aX ⟨rfl,rfl⟩)
             · refine az ai ?_
               refine bl h (fun abJ h=> ?_) fun abJ h=> ?_
               · refine az ai ?_
                 obtain ⟨rfl,rfl⟩:=cw h
                 exact aN _ _ _ bk (aT (bW _ hfr) hcl (bh (cs:=[(.int .i64 0),(.str ([]:List UInt8)),(.str ([]:List UInt8)),(.str ([]:List UInt8)),(.int .i64 0)]) (v:=(.agg [(.int .i64 0),(.str ([]:List UInt8)),(.str ([]:List UInt8)),(.str ([]:List UInt8)),(.int .i64 0)])) (by kernel_rfl) (n:=(some 5)) (by kernel_rfl) rfl cA (by simp [bE,bD,dD,aS,AV.flat,bS,cu,AV.br,Tg.sh]) (aW bf (.int .i64 501))) bg aX ⟨rfl,rfl⟩)
               · refine az ai ?_
                 obtain ⟨rfl,rfl⟩:=cw h
                 exact aN _ _ _ bk (aT (bW _ hfr) hcl (bh (cs:=[(.int .i64 r32),(.str ([]:List UInt8)),(.str ([]:List UInt8)),(.str ([]:List UInt8)),(.int .i64 0)]) (v:=(.agg [(.int .i64 r32),(.str ([]:List UInt8)),(.str ([]:List UInt8)),(.str ([]:List UInt8)),(.int .i64 0)])) (by kernel_rfl) (n:=(some 5)) (by kernel_rfl) rfl cA (by simp [bE,bD,dD,aS,AV.flat,bS,cu,AV.br,Tg.sh]) (aW bf (.int .i64 0))) bg aX ⟨rfl,rfl⟩)
 · rintro ⟨B3,ZB⟩ rfl H hfr ai
   try dsimp only at h ai
   have hle:=hfr.le
   have aM:=aR ai
   refine az ai ?_
   obtain ⟨rfl,rfl⟩:=cw h
   exact aN _ _ _ bk (aT hfr hcl (bh (cs:=[(.int .i64 B3.kind),(.str B3.arg),(.str B3.path.ay),(.str B3.path.domain),(.int .i64 B3.size)]) (v:=(.agg [(.int .i64 B3.kind),(.str B3.arg),(.str B3.path.ay),(.str B3.path.domain),(.int .i64 B3.size)])) (by kernel_rfl) (n:=(some 5)) (by kernel_rfl) rfl (ai.trans rfl) (by simp [bE,bD,dD,aS,AV.flat,bS,cu,AV.br,Tg.sh]) (aW bf (.int .i64 ZB))) bg aX ⟨rfl,rfl⟩)
end Go.Proofs.ei
end
section
namespace Go.Am
open Go
theorem wr {n:Int} (h1: -9223372036854775808≤n) (h2:n≤9223372036854775807):IntKind.wrap .i64 n=n:=by
 simp only [IntKind.wrap,IntKind.bits,IntKind.signed,Bool.true_and,decide_eq_true_eq,Int.reducePow,Nat.reduceSub,ge_iff_le]
 split<;>omega
theorem DL {α:Type} (l:List α) (n:Nat):idx l (n:Int)=l[n]? :=by simp [idx]
theorem cL {α:Type} {l:List α} {n:Nat} {x:α} (h:l[n]? =some x):idx l (n:Int)=some x:=by rw [DL,h]
theorem Wf {α:Type} {l:List α} {n:Nat} (h:n<l.length):idx l (n:Int)=some l[n]:=by rw [DL,List.getElem?_eq_getElem h]
theorem ab6 {α:Type} {l:List α} {i:Int} (h0:0≤i) (h1:i<l.length):∃x,idx l i=some x∧l[i.toNat]? =some x:=by
 obtain ⟨n,rfl⟩:=Int.eq_ofNat_of_zero_le h0
 have hn:n<l.length:=by omega
 exact ⟨l[n],Wf hn,by simp [List.getElem?_eq_getElem hn]⟩
theorem rB {α:Type} {l:List α} {i j:Nat} (h:i≤j) (h2:j≤l.length):sub l (i:Int) (j:Int)=some ((l.take j).drop i):=by
 unfold sub;rw [if_pos (by omega)];simp
theorem pU {α:Type} {l:List α} {i:Nat} (h:i≤l.length):sub l (i:Int) (l.length:Int)=some (l.drop i):=by
 rw [rB h (Nat.le_refl _),List.take_length]
theorem G8 {α:Type} {l:List α} {j:Nat} (h:j≤l.length):sub l 0 (j:Int)=some (l.take j):=by
 have:=rB (l:=l) (i:=0) (Nat.zero_le j) h
 simpa using this
theorem abK {α:Type} {l:List α} {i:Int} (h0:0≤i) (h:i≤l.length):sub l i (l.length:Int)=some (l.drop i.toNat):=by
 obtain ⟨n,rfl⟩:=Int.eq_ofNat_of_zero_le h0
 rw [pU (by omega)];simp
theorem sub_one {α:Type} {l:List α} {c:α} {r:List α} (h:l=c::r):sub l 1 (l.length:Int)=some r:=by
 have:=pU (l:=l) (i:=1) (by rw [h];simp)
 rw [h] at this ⊢;simpa using this
theorem lB {α:Type} {b:Nat} {xs ys:List α} (h:xs.length+ys.length≤1000000000) (hb:b≤1000):eN b xs ys=some (xs++ys):=by
 unfold eN
 rw [if_pos]
 refine ⟨?_,by omega⟩
 calc (xs.length+ys.length)*b≤1000000000*1000:=Nat.mul_le_mul h hb
  _≤_:=by omega
theorem gP {l m:List UInt8} (h:l.length+m.length≤1000000000):cat l m=some (l++m):=by
 unfold cat;rw [if_pos (by omega)]
theorem eg {ρ τ σ:Type} {body:σ→Option (St ρ τ σ)} {F:Nat} {s s':σ} (h:body s=some (.cU s')):iter body (F+1) s=iter body F s':=by simp only [iter,h]
theorem cP {ρ τ σ:Type} {body:σ→Option (St ρ τ σ)} {F:Nat} {s:σ} {t:τ} (h:body s=some (.dW t)):iter body (F+1) s=some (.inr t):=by simp only [iter,h]
theorem fk {ρ τ σ:Type} {body:σ→Option (St ρ τ σ)} {F:Nat} {s:σ} {r:ρ} (h:body s=some (.ret r)):iter body (F+1) s=some (.inl r):=by simp only [iter,h]
theorem Z4 {ρ τ σ:Type} {body:σ→Option (St ρ τ σ)} (I:σ→Prop) (m:σ→Nat) (post:ρ⊕τ→Prop)
 (step:∀s,I s→(∃r,body s=some (.ret r)∧post (.inl r))∨(∃t,body s=some (.dW t)∧post (.inr t))∨∃s',body s=some (.cU s')∧I s'∧m s'<m s):
 ∀(F:Nat) (s:σ),I s→m s<F→∃o,iter body F s=some o∧post o:=by
 intro F
 induction F with
 |zero=>intro s _ h;omega
 |succ F ih=>
  intro s hI hm
  rcases step s hI with ⟨r,h,hp⟩|⟨t,h,hp⟩|⟨s',h,hI',hlt⟩
  · exact ⟨_,fk h,hp⟩
  · exact ⟨_,cP h,hp⟩
  · obtain ⟨o,ho,hp⟩:=ih s' hI' (by omega)
    exact ⟨o,by rw [eg h];exact ho,hp⟩
theorem drop_cons {α:Type} {l r:List α} {i:Nat} {c:α} (h:l.drop i=c::r):i<l.length∧l[i]? =some c∧l.drop (i+1)=r:=by
 have hlt:i<l.length:=by
  rcases Nat.lt_or_ge i l.length with h1|h1
  · exact h1
  · rw [List.drop_eq_nil_of_le h1] at h;cases h
 rw [List.drop_eq_getElem_cons hlt] at h
 injection h with h1 h2
 exact ⟨hlt,by rw [List.getElem?_eq_getElem hlt,h1],h2⟩
theorem Wg {α:Type} {l:List α} {i:Nat} (h:l.drop i=[]):l.length≤i:=List.drop_eq_nil_iff.1 h
theorem dc {n F:Nat} (h:n<F):∃G,F=G+1:=⟨F - 1,by omega⟩
end Go.Am
end
section
set_option maxRecDepth 100000
namespace Go.Proofs.ei
open Go Go.Am Go.Proofs
theorem gi {p:UInt8→Bool} (h:(List.range 256).all (fun n=>p (UInt8.ofNat n))=true) (c:UInt8):p c=true:=by
 have:=List.all_eq_true.1 h c.toNat (by simpa using c.toNat_lt)
 simpa using this
theorem scan {α ρ τ σ:Type} {s:List α} {body:σ→Option (St ρ τ σ)} {mk:Nat→σ} {p:α→Bool} {rr:Nat→ρ} {tt:τ}
 (h1:∀i x,s[i]? =some x→p x=true→body (mk i)=some (.cU (mk (i+1)))) (h2:∀i x,s[i]? =some x→p x=false→body (mk i)=some (.ret (rr i)))
 (h3:body (mk s.length)=some (.dW tt)) {F:Nat} (hF:s.length<F):
 (s.all p=true→iter body F (mk 0)=some (.inr tt))∧(s.all p=false→∃j,iter body F (mk 0)=some (.inl (rr j))):=by
 suffices h:∀(r:List α) (i F:Nat),s.drop i=r→i+r.length=s.length→r.length<F→
  (r.all p=true→iter body F (mk i)=some (.inr tt))∧(r.all p=false→∃j,iter body F (mk i)=some (.inl (rr j))) from h s 0 F rfl (by simp) hF
 intro r
 induction r with
 |nil=>
  intro i F hd hl hF
  obtain ⟨G,rfl⟩:=dc hF
  have:i=s.length:=by simpa using hl
  subst this
  exact ⟨fun _=>cP h3,fun h=>by simp at h⟩
 |cons x r ih=>
  intro i F hd hl hF
  obtain ⟨G,rfl⟩:=dc hF
  obtain ⟨hi,hx,hr⟩:=drop_cons hd
  simp only [List.length_cons] at hl hF
  cases hp:p x with
  |true=>
   rw [eg (h1 i x hx hp)]
   simp only [List.all_cons,hp,Bool.true_and]
   exact ih (i+1) G hr (by omega) (by omega)
  |false=>
   rw [fk (h2 i x hx hp)]
   simp only [List.all_cons,hp,Bool.false_and]
   exact ⟨fun h=>by simp at h,fun _=>⟨i,rfl⟩⟩
theorem wi {n:Nat} (h:n≤1000000000):IntKind.wrap .i64 ((n:Int)+1)=((n+1:Nat):Int):=by rw [wr (by omega) (by omega)];simp
def G9 (c:UInt8):Bool:=(decide (65≤c)&&decide (c≤90))||(decide (97≤c)&&decide (c≤122))
def gS (c:UInt8):Bool:=decide (48≤c)&&decide (c≤57)
def A3 (c:UInt8):Bool:=G9 c||gS c||c==45
theorem Z5 (c:UInt8):gb c=some (G9 c||gS c):=by
 have:=gi (p:=fun c=>decide (gb c=some (G9 c||gS c))) (by kernel_rfl) c
 simpa using this
theorem Jx (c:UInt8):iY c=some (A3 c):=by
 have:=gi (p:=fun c=>decide (iY c=some (A3 c))) (by kernel_rfl) c
 simpa using this
theorem Fe (c:UInt8):eR c=some (G9 c):=by
 have:=gi (p:=fun c=>decide (eR c=some (G9 c))) (by kernel_rfl) c
 simpa using this
theorem DM (c:UInt8):eK c=some (gS c):=by
 have:=gi (p:=fun c=>decide (eK c=some (gS c))) (by kernel_rfl) c
 simpa using this
def aZ:List UInt8→List (List UInt8)
 |[]=>[[]]
 |c::r=>if c=46 then []::aZ r else match aZ r with|[]=>[[c]]|h::t=>(c::h)::t
theorem jv:∀s,aZ s≠[]
 |[]=>by simp [aZ]
 |c::r=>by
  unfold aZ
  split
  · simp
  · split<;>simp
theorem Mc (r:List UInt8):Lib.split (46::r) [46]=[]::Lib.split r [46]:=by
 have hi:Lib.index (46::r) [46]=((0:Nat):Int):=by unfold Lib.index;rw [if_pos (by simp [List.isPrefixOf])];rfl
 have hc:=Lib.count_hit (by simp) hi
 unfold Lib.split
 rw [hc,Nat.add_comm]
 simp only [Lib.splitK,hi]
 rfl
theorem Jy {c:UInt8} (hc:c≠46) (r:List UInt8):Lib.split (c::r) [46]=match Lib.split r [46] with|[]=>[[c]]|h::t=>(c::h)::t:=by
 have hp:([46]:List UInt8).isPrefixOf (c::r)=false:=by simp [List.isPrefixOf];exact fun h=>hc h.symm
 have hi:Lib.index (c::r) [46]=if Lib.index r [46]== -1 then -1 else Lib.index r [46]+1:=by
  conv=>lhs;unfold Lib.index
  rw [if_neg (by rw [hp];simp)]
 rcases Lib.index_spec r [46] with ⟨h, -⟩|⟨i,h, -, -, -⟩
 · rw [h] at hi
   unfold Lib.split
   rw [Lib.count_miss h,Lib.count_miss hi]
   rfl
 · have hne:(((i:Nat):Int)== -1)=false:=by rw [beq_eq_false_iff_ne];omega
   rw [h,hne] at hi
   have hi':Lib.index (c::r) [46]=((i+1:Nat):Int):=by rw [hi];simp
   unfold Lib.split
   rw [Lib.count_hit (by simp) h,Lib.count_hit (by simp) hi',Nat.add_comm 1,Nat.add_comm 1]
   have vh:(((i+1:Nat):Int)== -1)=false:=by rw [beq_eq_false_iff_ne];omega
   simp only [Lib.splitK,h,hi',hne,vh,Bool.false_eq_true,if_false,Int.toNat_natCast,Nat.add_zero,List.take_succ_cons,List.length_cons,List.length_nil,Nat.zero_add,List.drop_succ_cons]
theorem A4:∀s:List UInt8,Lib.split s [46]=aZ s
 |[]=>by rfl
 |c::r=>by
  by_cases hc:c=46
  · subst hc;rw [Mc,A4 r];simp [aZ]
  · rw [Jy hc,A4 r];simp only [aZ,if_neg hc]
theorem lC (s:List UInt8):∀p∈aZ s,p.length≤s.length:=by
 induction s with
 |nil=>simp [aZ]
 |cons c r ih=>
  unfold aZ
  split
  · intro p hp
    rcases List.mem_cons.1 hp with rfl|hp
    · simp
    · have:=ih p hp;simp;omega
  · cases hs:aZ r with
    |nil=>exact absurd hs (jv r)
    |cons h t=>
     simp only
     intro p hp
     rcases List.mem_cons.1 hp with rfl|hp
     · have:=ih h (by rw [hs];simp);simp;omega
     · have:=ih p (by rw [hs];simp [hp]);simp;omega
theorem wD (s:List UInt8):(aZ s).length≤s.length+1:=by
 induction s with
 |nil=>simp [aZ]
 |cons c r ih=>
  unfold aZ
  split
  · simp;omega
  · cases hs:aZ r with
    |nil=>exact absurd hs (jv r)
    |cons h t=>rw [hs] at ih;simp at ih ⊢;omega
theorem Jz {p:List UInt8} (hp:∀c∈p,c≠46) (r:List UInt8):aZ (p++46::r)=p::aZ r:=by
 induction p with
 |nil=>simp [aZ]
 |cons c p ih=>
  simp only [List.cons_append,aZ,if_neg (hp c (by simp)),ih fun x hx=>hp x (by simp [hx])]
theorem JA {p:List UInt8} (hp:∀c∈p,c≠46):aZ p=[p]:=by
 induction p with
 |nil=>simp [aZ]
 |cons c p ih=>
  simp only [aZ,if_neg (hp c (by simp)),ih fun x hx=>hp x (by simp [hx])]
def TF:List (List UInt8):=(List.range 256).map fun n:Nat=>Lib.itoa (n:Int)
def ij (s:List UInt8):Bool:=TF.contains s
theorem JB:(List.range 256).all (fun n:Nat=>decide (iB (Lib.itoa (n:Int))=some true))=true:=by kernel_rfl
theorem Qm:TF.all (fun s=>decide (s.length≤3∧s.all gS=true∧s≠[]∧(s.head?=some 48→s.length≤1)))=true:=by kernel_rfl
theorem wE {s:List UInt8}:ij s=true↔∃n:Nat,n<256∧Lib.itoa (n:Int)=s:=by
 simp [ij,TF]
theorem tX {s:List UInt8} (h:ij s=true):s.length≤3∧s.all gS=true∧s≠[]∧(s.head?=some 48→s.length≤1):=by
 have:=List.all_eq_true.1 Qm s (by simpa [ij] using h)
 exact of_decide_eq_true this
def DN (s:List UInt8):Nat:=s.foldl (fun a c=>10*a+(c.toNat - 48)) 0
theorem Qn:(List.range 256).all (fun n:Nat=>decide (DN (Lib.itoa (n:Int))=n))=true:=by kernel_rfl
def Bo (s:List UInt8):Bool:=decide (DN s<256)&&decide (Lib.itoa (DN s:Int)=s)
theorem Wh (s:List UInt8):ij s=Bo s:=by
 cases h:ij s with
 |true=>
  obtain ⟨n,hn,rfl⟩:=wE.1 h
  have hv:DN (Lib.itoa (n:Int))=n:=of_decide_eq_true (List.all_eq_true.1 Qn n (by simpa using hn))
  unfold Bo
  rw [hv]
  simp [hn]
 |false=>
  cases h':Bo s with
  |false=>rfl
  |true=>
   simp only [Bo,Bool.and_eq_true,decide_eq_true_eq] at h'
   rw [wE.2 ⟨DN s,h'.1,h'.2⟩] at h;cases h
theorem Md {s:List UInt8} (hs:s.length≤100000):iB s=some (ij s):=by
 cases hn:ij s with
 |true=>
  obtain ⟨n,hlt,rfl⟩:=wE.1 hn
  have:=List.all_eq_true.1 JB n (by simpa using hlt)
  simpa using this
 |false=>
  unfold iB strconv_Atoi
  rw [if_pos (by omega)]
  rcases xu:Lib.atoiAll s with v|_|_
  · simp only [Option.bind_some,fh,Bool.not_false,if_true,decide_eq_true_eq]
    by_cases h0:0≤v
    · by_cases h1:v≤255
      · rw [if_pos h0,if_pos h1]
        unfold strconv_Itoa
        rw [if_pos (by omega)]
        simp only [Option.bind_some,Option.some.injEq,decide_eq_false_iff_not]
        intro he
        have:ij s=true:=wE.2 ⟨v.toNat,by omega,by rw [←he];congr 1;omega⟩
        rw [hn] at this;cases this
      · rw [if_pos h0,if_neg h1];rfl
    · rw [if_neg h0];rfl
  · simp [fh]
  · simp [fh]
end Go.Proofs.ei
end
section
set_option maxRecDepth 100000
namespace Go.Proofs.ei
open Go Go.Am Go.Proofs
def j4 (s:List UInt8):Bool:=s !=[]&&s.head? !=some 45&&s.getLast? !=some 45&&s.all A3
def rW (s:List UInt8):Bool:=decide (1<s.length)&&s.head?==some 91&&s.getLast?==some 93
def inner (s:List UInt8):List UInt8:=(s.drop 1).dropLast
def iI (s:List UInt8):Bool:=if rW s then decide ((aZ (inner s)).length=4)&&(aZ (inner s)).all ij else (aZ s).all j4
def jk (s:List UInt8):Bool:=decide (s.length≤255)&&iI s&&(aZ s).all fun p=>decide (p.length≤63)
theorem zW (c:UInt8) (r:List UInt8):∃x,(c::r).getLast?=some x:=by
 cases h:(c::r).getLast? with
 |none=>simp at h
 |some x=>exact ⟨x,rfl⟩
theorem wF {s:List UInt8} {x:UInt8} (h:s.getLast?=some x) (hl:s.length≤1000000):idx s (IntKind.wrap .i64 ((s.length:Int) - 1))=some x:=by
 have hp:0<s.length:=by cases s with|nil=>simp at h|cons=>simp
 rw [wr (by omega) (by omega),show (s.length:Int) - 1=((s.length - 1:Nat):Int) by omega,DL, ←List.getLast?_eq_getElem?,h]
theorem TG {s:List UInt8} {F:Nat} (hl:s.length≤1000000) (hF:s.length<F):iZ F s=some (s.all A3):=by
 unfold iZ
 have hh:=scan (s:=s) (body:=ec s) (mk:=fun i=>(false,(i:Int))) (p:=A3) (rr:=fun _=>false) (tt:=()) ?_ ?_ ?_ hF
 · cases ha:s.all A3 with
   |true=>have:=hh.1 ha;rw [show ((0:Nat):Int)=0 from rfl] at this;rw [this];rfl
   |false=>obtain ⟨j,hj⟩:=hh.2 ha;rw [show ((0:Nat):Int)=0 from rfl] at hj;rw [hj];rfl
 · intro i x hx hp
   have hi:=(List.getElem?_eq_some_iff.1 hx).1
   simp only [ec]
   rw [if_pos (by simpa using hi),cL hx,Option.bind_some,Jx,Option.bind_some,hp,wi (by omega)];rfl
 · intro i x hx hp
   have hi:=(List.getElem?_eq_some_iff.1 hx).1
   simp only [ec]
   rw [if_pos (by simpa using hi),cL hx,Option.bind_some,Jx,Option.bind_some,hp];rfl
 · simp [ec]
theorem TH {s:List UInt8} {F:Nat} (hl:s.length≤1000000) (hF:s.length<F):lg F s=some (j4 s):=by
 unfold lg jP j4
 cases s with
 |nil=>simp
 |cons c r=>
  obtain ⟨x,hx⟩:∃x,(c::r).getLast?=some x:=zW c r
  rw [wF hx hl,TG hl hF,hx]
  have h0:idx (c::r) 0=some c:=by simp [idx]
  rw [h0]
  by_cases h1:c=45
  · simp [h1]
  · by_cases h2:x=45
    · simp [h1,h2]
    · simp [h1,h2]
theorem Ff {x:List UInt8} (hx:x.length≤100000):gW x=some (!ij x):=by simp [gW,Md hx]
theorem Fg {F:Nat} {x:List UInt8} (hx:x.length≤100000) (hF:x.length<F):gX F x=some (!j4 x):=by simp [gX,TH (by omega:x.length≤1000000) hF]
theorem JC {l:List (List UInt8)} {F:Nat} (hl:l.length≤1000000) (hF:l.length<F) (hx:∀x∈l,x.length≤100000):dH F l=some (!l.all ij):=by
 unfold dH fG
 have hh:=scan (s:=l) (body:=cE l) (mk:=fun i=>(0,(i:Int))) (p:=ij) (rr:=fun i=>(i:Int)) (tt:=()) ?_ ?_ ?_ hF
 · cases ha:l.all ij with
   |true=>have:=hh.1 ha;rw [show ((0:Nat):Int)=0 from rfl] at this;rw [this];rfl
   |false=>obtain ⟨j,hj⟩:=hh.2 ha;rw [show ((0:Nat):Int)=0 from rfl] at hj;rw [hj];simp
 · intro i x hx' hp
   have hi:=(List.getElem?_eq_some_iff.1 hx').1
   simp only [cE]
   rw [if_pos (by simpa using hi),cL hx',Option.bind_some,Ff (hx x (List.mem_of_getElem? hx')),Option.bind_some,hp,wi (by omega)];rfl
 · intro i x hx' hp
   have hi:=(List.getElem?_eq_some_iff.1 hx').1
   simp only [cE]
   rw [if_pos (by simpa using hi),cL hx',Option.bind_some,Ff (hx x (List.mem_of_getElem? hx')),Option.bind_some,hp];rfl
 · simp [cE]
theorem JD {l:List (List UInt8)} {F:Nat} (hl:l.length≤1000000) (hF:l.length<F) (hx:∀x∈l,x.length≤100000∧x.length<F):dn F l=some (!l.all j4):=by
 unfold dn fq
 have hh:=scan (s:=l) (body:=cx F l) (mk:=fun i=>(0,(i:Int))) (p:=j4) (rr:=fun i=>(i:Int)) (tt:=()) ?_ ?_ ?_ hF
 · cases ha:l.all j4 with
   |true=>have:=hh.1 ha;rw [show ((0:Nat):Int)=0 from rfl] at this;rw [this];rfl
   |false=>obtain ⟨j,hj⟩:=hh.2 ha;rw [show ((0:Nat):Int)=0 from rfl] at hj;rw [hj];simp
 · intro i x hx' hp
   have hi:=(List.getElem?_eq_some_iff.1 hx').1
   obtain ⟨ha,hb⟩:=hx x (List.mem_of_getElem? hx')
   simp only [cx]
   rw [if_pos (by simpa using hi),cL hx',Option.bind_some,Fg ha hb,Option.bind_some,hp,wi (by omega)];rfl
 · intro i x hx' hp
   have hi:=(List.getElem?_eq_some_iff.1 hx').1
   obtain ⟨ha,hb⟩:=hx x (List.mem_of_getElem? hx')
   simp only [cx]
   rw [if_pos (by simpa using hi),cL hx',Option.bind_some,Fg ha hb,Option.bind_some,hp];rfl
 · simp [cx]
theorem JE {l:List (List UInt8)} {F:Nat} (hl:l.length≤1000000) (hF:l.length<F):cV F l=some (!l.all fun p=>decide (p.length≤63)):=by
 unfold cV eJ
 have hh:=scan (s:=l) (body:=b7 l) (mk:=fun i=>(0,(i:Int))) (p:=fun p=>decide (p.length≤63)) (rr:=fun i=>(i:Int)) (tt:=()) ?_ ?_ ?_ hF
 · cases ha:l.all fun p=>decide (p.length≤63) with
   |true=>have:=hh.1 ha;rw [show ((0:Nat):Int)=0 from rfl] at this;rw [this];rfl
   |false=>obtain ⟨j,hj⟩:=hh.2 ha;rw [show ((0:Nat):Int)=0 from rfl] at hj;rw [hj];simp
 · intro i x hx' hp
   have hi:=(List.getElem?_eq_some_iff.1 hx').1
   simp only [b7]
   rw [if_pos (by simpa using hi),cL hx',Option.bind_some,ia,Option.bind_some,if_neg (by simp at hp ⊢;omega),wi (by omega)]
 · intro i x hx' hp
   have hi:=(List.getElem?_eq_some_iff.1 hx').1
   simp only [b7]
   rw [if_pos (by simpa using hi),cL hx',Option.bind_some,ia,Option.bind_some,if_pos (by simp at hp ⊢;omega)]
 · simp [b7]
theorem rC {s:List UInt8} (h:s.length≤1000000):strings_Split s [46]=some (aZ s):=by
 unfold strings_Split;rw [if_pos (by simp;omega),A4]
theorem DO {s:List UInt8} {F:Nat} (hl:s.length≤99000) (hF:s.length+1<F):iC F s=some (iI s):=by
 have ZC:gp s=some (rW s):=by
  unfold gp rW
  by_cases h1:1<s.length
  · cases s with
    |nil=>simp at h1
    |cons c r=>
     obtain ⟨x,hx⟩:∃x,(c::r).getLast?=some x:=zW c r
     rw [if_pos (by simp at h1 ⊢;omega),wF hx (by omega),hx,show idx (c::r) 0=some c by simp [idx]]
     rw [decide_eq_true h1]
     by_cases h2:c=91
     · simp [h2];rfl
     · simp [h2]
  · rw [if_neg (by simp;omega)];simp [h1]
 unfold iC iI
 rw [ZC,Option.bind_some]
 cases hi:rW s with
 |true=>
  have h1:1<s.length:=by simp [rW] at hi;omega
  simp only [if_true]
  rw [wr (by omega) (by omega)]
  have hsub:sub s 1 ((s.length:Int) - 1)=some (inner s):=by
   rw [show (1:Int)=((1:Nat):Int) from rfl,show (s.length:Int) - ((1:Nat):Int)=((s.length - 1:Nat):Int) by omega,rB (by omega) (by omega)]
   congr 1
   unfold inner
   rw [List.dropLast_eq_take,List.length_drop,List.drop_take]
  have hil:(inner s).length+2=s.length:=by simp [inner];omega
  rw [hsub,Option.bind_some,rC (by omega),Option.bind_some]
  unfold jl
  have hn:=wD (inner s)
  by_cases h4:(aZ (inner s)).length=4
  · rw [if_pos (by simpa using by omega),JC (by omega) (by omega) fun x hx=>by have:=lC _ x hx;omega]
    simp [h4]
  · rw [if_neg (by simpa using by omega)]
    simp [h4]
 |false=>
  have hn:=wD s
  simp only [Bool.false_eq_true,if_false]
  rw [rC (by omega),Option.bind_some,JD (by omega) (by omega) fun x hx=>by have:=lC _ x hx;omega]
  simp
theorem TI {s:List UInt8} {F:Nat} (hl:s.length≤99000) (hF:s.length+1<F):gf F s=some (jk s):=by
 unfold gf jn jk
 by_cases h:s.length≤255
 · rw [if_pos (by simpa using by omega),DO hl hF]
   have hn:=wD s
   cases iI s with
   |true=>simp only [Option.bind_some,if_true];rw [rC (by omega),Option.bind_some,JE (by omega) (by omega)];simp [h]
   |false=>simp
 · rw [if_neg (by simpa using by omega)];simp [h]
end Go.Proofs.ei
end
section
set_option maxRecDepth 100000
namespace Go.Proofs.ei
open Go Go.Am Go.Proofs
def Bp:List UInt8:=(List.range 10).map fun n=>UInt8.ofNat (48+n)
theorem ZD (n:Nat):Bp.all (fun a=>decide (eu (n+10) [a]=some (Bo [a])))=true:=by kernel_rfl
theorem ZE (n:Nat):Bp.all (fun a=>Bp.all fun b=>decide (eu (n+10) [a,b]=some (Bo [a,b])))=true:=by kernel_rfl
theorem ZF (n:Nat):Bp.all (fun a=>Bp.all fun b=>Bp.all fun c=>decide (eu (n+10) [a,b,c]=some (Bo [a,b,c])))=true:=by kernel_rfl
theorem nV {c:UInt8} (h:gS c=true):c∈Bp:=by
 have:=gi (p:=fun c=> !gS c||Bp.contains c) (by kernel_rfl) c
 simpa [h] using this
theorem Qo {s:List UInt8} {F:Nat} (hF:10≤F) (hl:s.length≤100000):eu F s=some (ij s):=by
 by_cases h3:3<s.length
 · have hn:ij s=false:=by
    cases h:ij s with
    |false=>rfl
    |true=>have:=(tX h).1;omega
   have hne:s≠[]:=by intro h;subst h;simp at h3
   unfold eu eB
   simp only [hne,decide_false,Bool.false_eq_true,if_false]
   rw [if_pos (by simp;omega),hn];rfl
 · by_cases hd:s.all gS=true
   · obtain ⟨G,rfl⟩:∃G,F=G+10:=⟨F - 10,by omega⟩
     rw [List.all_eq_true] at hd
     rw [Wh]
     match s,h3,hd with
     |[],_,_=>rw [show Bo []=false by kernel_rfl];simp [eu,eB]
     |[a],_,hd=>exact of_decide_eq_true (List.all_eq_true.1 (ZD G) a (nV (hd a (by simp))))
     |[a,b],_,hd=>exact of_decide_eq_true (List.all_eq_true.1 (List.all_eq_true.1 (ZE G) a (nV (hd a (by simp)))) b (nV (hd b (by simp))))
     |[a,b,c],_,hd=>exact of_decide_eq_true (List.all_eq_true.1 (List.all_eq_true.1 (List.all_eq_true.1 (ZF G) a (nV (hd a (by simp)))) b (nV (hd b (by simp)))) c (nV (hd c (by simp))))
     |a::b::c::d::r,h3,_=>simp at h3
   · have hn:ij s=false:=by
      cases h:ij s with
      |false=>rfl
      |true=>exact absurd (tX h).2.1 hd
     rw [hn]
     have hp:∃b,eB s=some b:=by
      unfold eB
      cases s with
      |nil=>simp
      |cons c r=>
       rw [show idx (c::r) 0=some c by simp [idx]]
       simp only [Option.bind_some]
       repeat' split
       all_goals exact ⟨_,rfl⟩
     obtain ⟨b,hb⟩:=hp
     unfold eu
     rw [hb,Option.bind_some]
     cases b with
     |true=>rfl
     |false=>
      simp only [Bool.false_eq_true,if_false]
      have Me:∀(r:List UInt8) (i F:Nat) (n:Int),s.drop i=r→i+r.length=s.length→r.length<F→r.all gS=false→iter (fj s) F (n,(i:Int))=some (.inl false):=by
       intro r
       induction r with
       |nil=>intro i F n _ _ _ h;simp at h
       |cons x r ih=>
        intro i F n hdr hlr hF ha
        obtain ⟨G,rfl⟩:=dc hF
        obtain ⟨hi,hx,hr⟩:=drop_cons hdr
        simp only [List.length_cons] at hlr hF
        have hstep:fj s (n,(i:Int))=if (!gS x)=true then some (.ret false) else some (.cU ((IntKind.wrap .i64 ((IntKind.wrap .i64 (10*n))+(IntKind.wrap .i64 ((x - 48).toNat:Int)))),((i+1:Nat):Int))):=by
         simp only [fj]
         rw [if_pos (by simpa using hi),cL hx,Option.bind_some,DM,Option.bind_some,wi (by omega)]
        cases hx':gS x with
        |false=>rw [hx'] at hstep;exact fk (by rw [hstep];rfl)
        |true=>
         rw [hx'] at hstep
         rw [eg (by rw [hstep];rfl)]
         exact ih (i+1) G _ hr (by omega) (by omega) (by simpa [hx'] using ha)
      rw [show (0,(0:Int))=((0:Int),((0:Nat):Int)) from rfl,Me s 0 F 0 rfl (by simp) (by omega) (by simpa using hd)]
      rfl
def Fh (s:List UInt8):Bool:=j4 s&&decide (s.length≤63)
theorem TJ {s:List UInt8} {F:Nat} (hl:s.length≤100000) (hF:s.length<F):jY F s=some (Fh s):=by
 unfold jY jo Fh j4
 cases s with
 |nil=>simp
 |cons c r=>
  obtain ⟨x,hx⟩:=zW c r
  rw [wF hx (by omega),hx,show idx (c::r) 0=some c by simp [idx]]
  by_cases h0:63<(c::r).length
  · rw [if_neg (by simp),if_pos (by simp at h0 ⊢;omega)]
    have:decide ((c::r).length≤63)=false:=by simp at h0 ⊢;omega
    rw [this];simp
  · have h0':decide ((c::r).length≤63)=true:=by simp at h0 ⊢;omega
    rw [if_neg (by simp),if_neg (by simp at h0 ⊢;omega),h0']
    by_cases h1:c=45
    · simp [h1]
    · by_cases h2:x=45
      · simp [h1,h2]
      · have hh:=scan (s:=c::r) (body:=eC (c::r)) (mk:=fun i=>(i:Int)) (p:=A3) (rr:=fun _=>false) (tt:=()) ?_ ?_ ?_ hF
        · simp only [Option.bind_some,h1,h2,decide_false,Bool.false_eq_true,if_false]
          cases ha:(c::r).all A3 with
          |true=>have:=hh.1 ha;rw [show ((0:Nat):Int)=0 from rfl] at this;rw [this];simp [h1,h2]
          |false=>obtain ⟨j,hj⟩:=hh.2 ha;rw [show ((0:Nat):Int)=0 from rfl] at hj;rw [hj];simp [h1,h2]
        · intro i y hy hp
          have hi:=(List.getElem?_eq_some_iff.1 hy).1
          simp only [eC,gy]
          rw [if_pos (by simp at hi ⊢;omega),cL hy,Option.bind_some,Fe,Option.bind_some,DM,Option.bind_some,wi (by omega)]
          simp only [A3] at hp
          cases h1:G9 y<;>cases h2:gS y<;>simp [h1,h2] at hp ⊢
          exact hp
        · intro i y hy hp
          have hi:=(List.getElem?_eq_some_iff.1 hy).1
          simp only [eC,gy]
          rw [if_pos (by simp at hi ⊢;omega),cL hy,Option.bind_some,Fe,Option.bind_some,DM,Option.bind_some]
          simp only [A3] at hp
          cases h1:G9 y<;>cases h2:gS y<;>simp [h1,h2] at hp ⊢
          exact hp
        · simp [eC]
end Go.Proofs.ei
end
section
set_option maxRecDepth 100000
namespace Go.Proofs.ei
open Go Go.Am Go.Proofs
def He (num:Bool) (s:List UInt8):Bool:=if num then ij s else Fh s
theorem TK {F:Nat} {x:UInt8} {s:List UInt8} {a i:Nat} (h:a≤i) (hi:i≤s.length) (hl:s.length≤99000) (hF:s.length+10<F):
 fP F x s (a:Int) (i:Int)=some (!He (x==91) ((s.take i).drop a)):=by
 have hlen:((s.take i).drop a).length≤s.length:=by simp;omega
 unfold fP He
 rw [rB h hi]
 by_cases hx:x=91
 · rw [if_pos (by simpa using hx)]
   simp only [Option.bind_some]
   rw [Qo (by omega) (by omega)]
   simp only [Option.bind_some,hx,beq_self_eq_true,if_true]
   cases ij ((s.take i).drop a)<;>rfl
 · rw [if_neg (by simpa using hx)]
   simp only [Option.bind_some]
   rw [TJ (by omega) (by omega)]
   have:(x==91)=false:=by simpa using hx
   simp [this]
theorem Fi {F:Nat} {x:UInt8} {s:List UInt8} (hl:s.length≤99000) (Wi:s.length+10<F):∀(r cur:List UInt8) (a k i G:Nat),(∀c∈cur,c≠46)→s.drop a=cur++r→a+cur.length=i→i+r.length=s.length→r.length+1<G→k≤i→
 iter (cj F s x) G ((a:Int),(k:Int),(i:Int))=some (if (aZ (cur++r)).all (He (x==91)) then .inr ((k+(aZ (cur++r)).length:Nat):Int) else .inl false):=by
 have wH:∀(cur r:List UInt8) (a i:Nat),s.drop a=cur++r→a+cur.length=i→(s.take i).drop a=cur:=by
  intro cur r a i h hi
  rw [List.drop_take,h, ←hi,Nat.add_sub_cancel_left,List.take_left' rfl]
 intro r
 induction r with
 |nil=>
  intro cur a k i G hc hd ha hi hG hk
  obtain ⟨G,rfl⟩:=dc (show 0<G by omega)
  obtain ⟨G,rfl⟩:=dc (show 0<G by simp at hG;omega)
  have hie:i=s.length:=by simpa using hi
  have hstep:cj F s x ((a:Int),(k:Int),(i:Int))=if (!He (x==91) cur)=true then some (.ret false) else some (.cU (((i+1:Nat):Int),((k+1:Nat):Int),((i+1:Nat):Int))):=by
   simp only [cj]
   rw [if_pos (by simp;omega)]
   have:ef (i:Int) s=some false:=by unfold ef;rw [if_neg (by simp;omega)]
   rw [this,Option.bind_some]
   simp only [Bool.false_eq_true,if_false]
   rw [TK (by omega) (by omega) hl Wi,Option.bind_some,wH cur [] a i hd ha,wi (by omega),wi (by omega)]
  rw [List.append_nil,JA hc]
  cases hx:He (x==91) cur with
  |false=>rw [hx] at hstep;rw [fk (by rw [hstep];rfl)];simp [hx]
  |true=>
   rw [hx] at hstep
   rw [eg (by rw [hstep];rfl)]
   have:cj F s x (((i+1:Nat):Int),((k+1:Nat):Int),((i+1:Nat):Int))=some (.dW ((k+1:Nat):Int)):=by
    simp only [cj]
    rw [if_neg (by simp;omega)]
   rw [cP this]
   simp [hx]
 |cons c r ih=>
  intro cur a k i G hc hd ha hi hG hk
  obtain ⟨G,rfl⟩:=dc (show 0<G by omega)
  simp only [List.length_cons] at hi hG
  have hci:s[i]? =some c:=by
   have:(s.drop a)[cur.length]? =some c:=by rw [hd];simp
   rw [List.getElem?_drop,ha] at this;exact this
  have hp4:ef (i:Int) s=some (!decide (c=46)):=by unfold ef;rw [if_pos (by simp;omega),cL hci];rfl
  by_cases TL:c=46
  · subst TL
    have hstep:cj F s x ((a:Int),(k:Int),(i:Int))=if (!He (x==91) cur)=true then some (.ret false) else some (.cU (((i+1:Nat):Int),((k+1:Nat):Int),((i+1:Nat):Int))):=by
     simp only [cj]
     rw [if_pos (by simp;omega),hp4,Option.bind_some]
     simp only [decide_true,Bool.not_true,Bool.false_eq_true,if_false]
     rw [TK (by omega) (by omega) hl Wi,Option.bind_some,wH cur _ a i hd ha,wi (by omega),wi (by omega)]
    rw [Jz hc]
    cases hx:He (x==91) cur with
    |false=>rw [hx] at hstep;rw [fk (by rw [hstep];rfl)];simp [hx]
    |true=>
     rw [hx] at hstep
     rw [eg (by rw [hstep];rfl)]
     have hd':s.drop (i+1)=r:=by
      have:(s.drop a).drop (cur.length+1)=r:=by rw [hd,List.drop_append];simp
      rw [List.drop_drop] at this
      rw [←this];congr 1;omega
     have:=ih [] (i+1) (k+1) (i+1) G (by simp) (by simpa using hd') (by simp) (by omega) (by omega) (by omega)
     rw [List.nil_append] at this
     rw [this]
     simp only [List.all_cons,hx,Bool.true_and,List.length_cons]
     congr 3
     omega
  · have hstep:cj F s x ((a:Int),(k:Int),(i:Int))=some (.cU ((a:Int),(k:Int),((i+1:Nat):Int))):=by
     simp only [cj]
     rw [if_pos (by simp;omega),hp4,Option.bind_some]
     simp only [TL,decide_false,Bool.not_false,if_true]
     rw [wi (by omega)]
    rw [eg hstep]
    have:=ih (cur++[c]) a k (i+1) G (by intro y hy;rcases List.mem_append.1 hy with h|h;exact hc y h;simp at h;subst h;exact TL) (by rw [hd];simp) (by simp;omega) (by omega) (by omega) (by omega)
    rw [this]
    simp
theorem Qp (l:List (List UInt8)):l.all Fh=(l.all j4&&l.all fun p=>decide (p.length≤63)):=by
 induction l with
 |nil=>rfl
 |cons a l ih=>simp only [List.all_cons,ih,Fh];cases j4 a<;>cases decide (a.length≤63)<;>simp
theorem JF (s:List UInt8):((aZ s).map List.length).sum+(aZ s).length=s.length+1:=by
 induction s with
 |nil=>simp [aZ]
 |cons c r ih=>
  unfold aZ
  split
  · simp;omega
  · cases h:aZ r with
    |nil=>exact absurd h (jv r)
    |cons a t=>rw [h] at ih;simp at ih ⊢;omega
theorem four {l:List (List UInt8)} (h4:l.length=4) (h:∀p∈l,p.length≤3):(l.map List.length).sum≤12:=by
 match l,h4 with
 |[a,b,c,d],_=>
  have ha:=h a (by simp);have hb:=h b (by simp);have hc:=h c (by simp);have hd:=h d (by simp)
  simp;omega
theorem Mf (r:List UInt8):(aZ (91::r)).all j4=false:=by
 have h1:∀t:List UInt8,j4 (91::t)=false:=by
  intro t
  have:A3 91=false:=by decide
  simp [j4,this]
 simp only [aZ]
 rw [if_neg (by decide)]
 split
 · simp [h1]
 · simp [h1]
theorem acB {s:List UInt8} {F:Nat} (hl:s.length≤99000) (hF:s.length+10<F):eS F s=some (jk s):=by
 cases s with
 |nil=>simp [eS,jk,iI,rW,aZ,j4]
 |cons c r=>
  unfold eS
  by_cases Nd:255<(c::r).length
  · rw [if_pos (by simp at Nd ⊢;omega)]
    have:decide ((c::r).length≤255)=false:=by simp at Nd ⊢;omega
    unfold jk;rw [this];rfl
  · have TM:decide ((c::r).length≤255)=true:=by simp at Nd ⊢;omega
    rw [if_neg (by simp at Nd ⊢;omega),show idx (c::r) 0=some c by simp [idx],Option.bind_some]
    obtain ⟨x,hx⟩:=zW c r
    by_cases hc:c=91
    · subst hc
      unfold fO iH
      rw [if_pos (by rfl),wF hx (by omega),Option.bind_some]
      by_cases hin:rW (91::r)=true
      · have Q1:x=93:=by rw [rW,hx] at hin;simpa using (by simp at hin;exact hin.2)
        have h1:1<(91::r).length:=by rw [rW] at hin;simp at hin ⊢;exact hin.1
        subst Q1
        rw [if_neg (by simp)]
        have:decide ((((91::r).length:Nat):Int)<2)=false:=by simp at h1 ⊢;omega
        rw [this]
        simp only [Option.bind_some,Bool.false_eq_true,if_false]
        have hsub:sub (91::r) 1 (IntKind.wrap .i64 ((((91::r).length:Nat):Int) - 1))=some (inner (91::r)):=by
         rw [wr (by omega) (by omega),show (1:Int)=((1:Nat):Int) from rfl,show (((91::r).length:Nat):Int) - ((1:Nat):Int)=(((91::r).length - 1:Nat):Int) by omega,rB (by omega) (by omega)]
         congr 1
         unfold inner
         rw [List.dropLast_eq_take,List.length_drop,List.drop_take]
        rw [hsub]
        simp only [Option.bind_some]
        have hil:(inner (91::r)).length≤(91::r).length:=by simp [inner];omega
        have TN:=Fi (F:=F) (x:=91) (s:=inner (91::r)) (by omega) (by omega) (inner (91::r)) [] 0 0 0 F (by simp) (by simp) (by simp) (by simp) (by omega) (Nat.le_refl _)
        simp only [List.nil_append,Int.natCast_zero,Nat.zero_add] at TN
        rw [show ((0:Int),(0:Int),(0:Int))=(((0:Nat):Int),((0:Nat):Int),((0:Nat):Int)) from rfl]
        rw [show (((0:Nat):Int),((0:Nat):Int),((0:Nat):Int))=((0:Int),(0:Int),(0:Int)) from rfl,TN]
        have TO:(aZ (inner (91::r))).all (He ((91:UInt8)==91))=(aZ (inner (91::r))).all ij:=by congr 1
        rw [TO]
        unfold jk iI
        rw [TM,hin]
        simp only [if_true,Bool.true_and]
        cases hall:(aZ (inner (91::r))).all ij with
        |false=>simp
        |true=>
         by_cases h4:(aZ (inner (91::r))).length=4
         · have hsum:=four h4 fun p hp=>(tX (List.all_eq_true.1 hall p hp)).1
           have htot:=JF (inner (91::r))
           have hlen:(91::r).length=(inner (91::r)).length+2:=by simp [inner];simp at h1;omega
           have:(aZ (91::r)).all (fun p=>decide (p.length≤63))=true:=by
            rw [List.all_eq_true]
            intro p hp
            have:=lC _ p hp
            simp only [decide_eq_true_eq]
            omega
           rw [this]
           simp [h4]
         · simp [h4];omega
      · have abL:rW (91::r)=false:=by simpa using hin
        have hdf:jk (91::r)=false:=by unfold jk iI;rw [abL];simp only [Bool.false_eq_true,if_false,Mf];simp
        rw [hdf]
        by_cases Xn:x=93
        · subst Xn
          have h1:¬1<(91::r).length:=by intro h;rw [rW,hx,decide_eq_true h] at hin;simp at hin
          rw [if_neg (by simp),decide_eq_true (by omega)]
          rfl
        · rw [if_pos (by simpa using Xn)];rfl
    · unfold fO
      rw [if_neg (by simpa using hc)]
      simp only [Option.bind_some]
      have TN:=Fi (F:=F) (x:=c) (s:=c::r) hl hF (c::r) [] 0 0 0 F (by simp) (by simp) (by simp) (by simp) (by omega) (Nat.le_refl _)
      simp only [List.nil_append,Int.natCast_zero,Nat.zero_add] at TN
      rw [TN]
      have Tk:(c==91)=false:=by simpa using hc
      have TO:(aZ (c::r)).all (He (c==91))=(aZ (c::r)).all Fh:=by rw [Tk];congr 1
      rw [TO,Qp]
      have hin:rW (c::r)=false:=by unfold rW;simp [hc]
      unfold jk iI
      rw [TM,hin]
      simp only [Bool.false_eq_true,if_false,Bool.true_and]
      cases (aZ (c::r)).all j4<;>cases (aZ (c::r)).all (fun p=>decide (p.length≤63))<;>simp [hc]
end Go.Proofs.ei
end
section
set_option maxRecDepth 100000
namespace Go.Proofs.ei
open Go Go.Am Go.Proofs
theorem Xo (a b:List UInt8):aZ (a++46::b)=aZ a++aZ b:=by
 induction a with
 |nil=>simp [aZ]
 |cons c a ih=>
  simp only [List.cons_append,aZ,ih]
  by_cases hc:c=46
  · simp [hc]
  · simp only [if_neg hc]
    cases h:aZ a with
    |nil=>exact absurd h (jv a)
    |cons x t=>simp
theorem yK (s:List UInt8):∀c∈s,c=46∨∃p∈aZ s,c∈p:=by
 induction s with
 |nil=>simp
 |cons a r ih=>
  intro c hc
  simp only [aZ]
  rcases List.mem_cons.1 hc with rfl|hc
  · by_cases h:c=46
    · exact .inl h
    · right
      rw [if_neg h]
      cases hs:aZ r with
      |nil=>exact absurd hs (jv r)
      |cons x t=>exact ⟨c::x,by simp,by simp⟩
  · rcases ih c hc with h|⟨p,hp,iw⟩
    · exact .inl h
    · right
      by_cases ha:a=46
      · rw [if_pos ha];exact ⟨p,by simp [hp],iw⟩
      · rw [if_neg ha]
        cases hs:aZ r with
        |nil=>exact absurd hs (jv r)
        |cons x t=>
         rw [hs] at hp
         rcases List.mem_cons.1 hp with rfl|hp
         · exact ⟨a::p,by simp,by simp [iw]⟩
         · exact ⟨p,by simp [hp],iw⟩
theorem ab7 {s:List UInt8} (h:s.head?≠some 91):rW s=false:=by
 unfold rW
 have:(s.head?==some 91)=false:=by simpa using h
 rw [this];simp
theorem abM {s:List UInt8} (h:s.getLast?≠some 93):rW s=false:=by
 unfold rW
 have:(s.getLast?==some 93)=false:=by simpa using h
 rw [this];simp
theorem abN {s:List UInt8} (hi:rW s=false) {p:List UInt8} (hp:p∈aZ s) (hl:j4 p=false):jk s=false:=by
 unfold jk iI
 rw [hi]
 have:(aZ s).all j4=false:=by
  rw [List.all_eq_false]
  exact ⟨p,hp,by simp [hl]⟩
 simp [this]
end Go.Proofs.ei
end
