import Derived.Test.YtboghagbiokafaaGreatDoorM3
set_option linter.unusedSimpArgs false
set_option linter.unusedVariables false
set_option linter.unusedSectionVars false
set_option linter.defProp false
section
set_option maxRecDepth 100000
namespace Go.Proofs.cQ
open Go Go.Am Go.Proofs
open Nat renaming reduceEqDiff→nA,reduceLT→nB,reduceLeDiff→nC,reduceAdd→nD,reduceSub→nE,reduceMul→nF,reduceBEq→nG
set_option maxHeartbeats 2000000
abbrev w7:az:=(.rg [(av 16 0),(av 17 4),(aj 18 (.ixs (.t 16) (.t 17))),(aj 19 (.bin .lss (.t 18) (.c (b8 32)))),(av 20 19),(ay 21 (.mv (.t 0)) 20 false),(ay 22 (.mv (.t 4)) 20 false),(ay 23 (.ixs (.t 21) (.t 22)) 20 false),(ay 24 (.bin .gtr (.t 23) (.c (b8 126))) 20 false),(aj 25 (.pick (.t 20) (.c (.bool true)) (.t 24)))])
abbrev vk:az:=(.seq (.rg [(aj 14 (.bin .lss (.t 13) (.t 12)))]) (.seq (.cond (.t 14) .skip (.exit 0)) (.seq (.blk 1 (.seq (.rg [(av 15 13),(aO 4 15)]) (.seq (.sem (erase w7)) (.cond (.t 25) (.seq (.rg [(aj 26 (.build [(.int .i64 0),(.str []),(.str []),(.str []),(.int .i64 0)] [])),(cZ (.st (.t 2) (.t 26) 5)),(aj 3 (.aT (.c (.int .i64 500))))]) .ret) .skip)))) (.rg [(aj 27 (.bin .add (.t 13) (.c (.int .i64 1)))),(av 13 27)]))))
abbrev w9:az:=(.cond (.t 59) .skip (.rg [(aj 61 (.bin .eql (.t 43) (.c (.int .i64 2)))),(aO 59 61)]))
abbrev xb:az:=(.cond (.t 64) .skip (.seq (.rg [(aj 66 (.bin .eql (.t 43) (.c (.int .i64 6)))),(aO 64 66)]) (.cond (.t 64) .skip (.rg [(aj 67 (.bin .eql (.t 43) (.c (.int .i64 8)))),(aO 64 67)]))))
abbrev xd:az:=(.cond (.t 59) (.rg [(av 62 6),(aj 63 (.call (.c (.fn 25 [])) [(.t 62)])),(aO 10 63)]) (.seq (.seq (.rg [(aj 65 (.bin .eql (.t 43) (.c (.int .i64 5)))),(aO 64 65)]) (.sem (erase xb))) (.cond (.t 64) (.rg [(av 68 7),(aj 69 (.un .not (.t 68))),(aO 10 69)]) (.seq (.rg [(aj 71 (.bin .eql (.t 43) (.c (.int .i64 9)))),(aO 70 71)]) (.cond (.t 70) (.rg [(av 72 6),(aj 73 (.bin .neq (.t 72) (.c (.str [])))),(aO 10 73)]) .skip)))))
abbrev KE:az:=(.seq (.rg [(aj 2 (.alloc [(.int .i64 0),(.str []),(.str []),(.str []),(.int .i64 0)])),(aj 3 (.aT (.c (.int .i64 0))))]) (.seq (.seq (.rg [(av 11 0),(aj 12 (.lens (.t 11))),(aj 13 (.mv (.c (.int .i64 0))))]) (.blk 0 (.loop (erase vk)))) (.seq (.rg [(av 28 0),(aj 29 (.call (.c (.fn 19 [])) [(.t 28),(.c (.str [32]))])),(aO 0 29)]) (.seq (.rg [(av 31 0),(aj 32 (.call (.c (.fn 20 [])) [(.t 31),(.c (.str [32]))])),(av 30 32),(aj 33 (.ext (.t 30) 0)),(aj 34 (.ext (.t 30) 1)),(aj 35 (.ext (.t 30) 2)),(aO 5 33),(aO 6 34),(aO 7 35)]) (.seq (.rg [(av 36 5),(aj 37 (.call (.c (.fn 22 [])) [(.t 36)])),(aj 38 (.call (.c (.fn 21 [])) [(.t 37)])),(aO 8 38)]) (.seq (.rg [(av 39 0),(av 40 5),(aj 41 (.lens (.t 40))),(aj 42 (.iP (.t 39) (some (.t 41)) none)),(aO 9 42)]) (.seq (.rg [(aj 10 (.aT (.c (.bool true))))]) (.seq (.seq (.rg [(av 43 8)]) (.blk 2 (.seq (.rg [(aj 45 (.bin .eql (.t 43) (.c (.int .i64 0)))),(aO 44 45)]) (.cond (.t 44) (.seq (.rg [(aj 46 (.build [(.int .i64 0),(.str []),(.str []),(.str []),(.int .i64 0)] [])),(cZ (.st (.t 2) (.t 46) 5)),(aj 3 (.aT (.c (.int .i64 500))))]) .ret) (.seq (.rg [(aj 48 (.bin .eql (.t 43) (.c (.int .i64 3)))),(aO 47 48)]) (.cond (.t 47) (.seq (.rg [(av 49 9),(aj 50 (.call (.c (.fn 23 [])) [(.t 49)])),(aj 51 (.ext (.t 50) 0)),(aj 52 (.ext (.t 50) 1)),(cZ (.st (.t 2) (.t 51) 5)),(aO 3 52)]) .ret) (.seq (.rg [(aj 54 (.bin .eql (.t 43) (.c (.int .i64 4)))),(aO 53 54)]) (.cond (.t 53) (.seq (.rg [(av 55 9),(aj 56 (.call (.c (.fn 24 [])) [(.t 55)])),(aj 57 (.ext (.t 56) 0)),(aj 58 (.ext (.t 56) 1)),(cZ (.st (.t 2) (.t 57) 5)),(aO 3 58)]) .ret) (.seq (.seq (.rg [(aj 60 (.bin .eql (.t 43) (.c (.int .i64 1)))),(aO 59 60)]) (.sem (erase w9))) (.sem (erase xd))))))))))) (.seq (.seq (.rg [(av 74 10),(aj 75 (.un .not (.t 74)))]) (.cond (.t 75) (.seq (.rg [(aj 76 (.build [(.int .i64 0),(.str []),(.str []),(.str []),(.int .i64 0)] [])),(cZ (.st (.t 2) (.t 76) 5)),(aj 3 (.aT (.c (.int .i64 501))))]) .ret) .skip)) (.seq (.rg [(av 77 8),(av 78 6),(aj 79 (.build [(.int .i64 0),(.str []),(.str []),(.str []),(.int .i64 0)] [(0,(1,(.t 77))),(1,(1,(.t 78)))])),(cZ (.st (.t 2) (.t 79) 5)),(aj 3 (.aT (.c (.int .i64 0))))]) .ret))))))))))
theorem KF:bL Tryz.prog 8 80 [(.cell 2 26),(.tmp 3)] (erase KE):=⟨Tryz.f8,_,rfl,by decide,rfl,by kernel_rfl,rfl,rfl⟩
abbrev kV:List Nat:=[0,2,3,4,5,6,7,8,9,10,12,13,14,25,43,44,47,53,59,64,70,75]
def me (s1:List UInt8) (t3:Int):Option (Bool):=
 (idx s1 t3).bind fun x6=>
 (if (decide (x6<32)) then
  some true
 else
  some (decide (126<x6)))
def gl (s1:List UInt8):(Int×aC)→Option (St (aC×Int) aC (Int×aC))
 |(t3,s4)=>
  (if (decide (t3<(s1.length:Int))) then
   (me s1 t3).bind fun t8=>
   (if t8 then
    some (.ret ((aC.mk 0 ([]:List UInt8) (aB.mk ([]:List UInt8) ([]:List UInt8)) 0),500))
   else
    some (.cA ((IntKind.wrap .i64 (t3+1)),s4)))
  else
   some (.dQ s4))
def oJ (cS:Int):Option (Bool):=
 (if (decide (cS=1)) then
  some (decide (cS=1))
 else
  some (decide (cS=2)))
def oK (cS:Int):Option (Bool):=
 (if (decide (cS=5)) then
  some (decide (cS=5))
 else
  (if (decide (cS=6)) then
   some (decide (cS=6))
  else
   some (decide (cS=8))))
def oL (F:Nat) (t26:Bool) (de:List UInt8) (cS:Int) (r16:Bool):Option (Bool):=
 (if t26 then
  (jb F de).bind fun r28=>some r28
 else
  (oK cS).bind fun t31=>
  (if t31 then
   some (!r16)
  else
   (if (decide (cS=9)) then
    some (!decide (de=([]:List UInt8)))
   else
    some true)))
def cV (F:Nat) (s1:List UInt8):Option (aC×Int):=
 ((iter (gl s1) F (0,(aC.mk 0 ([]:List UInt8) (aB.mk ([]:List UInt8) ([]:List UInt8)) 0))).bind fun X6=>
 match X6 with
 | .inr bn=>
   (gu s1 ([32]:List UInt8)).bind fun mM=>
   (strings_Cut mM ([32]:List UInt8)).bind fun (jS,de,r16)=>
   (gT F jS).bind fun zL=>
   (uW F zL).bind fun cS=>
   (sub mM (jS.length:Int) (mM.length:Int)).bind fun yH=>
   (if (decide (cS=0)) then
    some ((aC.mk 0 ([]:List UInt8) (aB.mk ([]:List UInt8) ([]:List UInt8)) 0),500)
   else
    (if (decide (cS=3)) then
     (vh F yH).bind fun (oT,nK)=>some (oT,nK)
    else
     (if (decide (cS=4)) then
      (vj F yH).bind fun (EG,F8)=>some (EG,F8)
     else
      (oJ cS).bind fun t26=>
      (oL F t26 de cS r16).bind fun abP=>
      (if (!abP) then
       some ((aC.mk 0 ([]:List UInt8) (aB.mk ([]:List UInt8) ([]:List UInt8)) 0),501)
      else
       some ((aC.mk cS de (aB.mk ([]:List UInt8) ([]:List UInt8)) 0),0)))))
 | .inl (vl,Ul)=>
   some (vl,Ul))
theorem Dw {s1:List UInt8} {t3:Int} {q5:Nat} {s4:aC} {H0 H:AH} (hfr:Fr H0 H0.length [] H) (ai:H[q5]? =some [(.int .i64 s4.kind),(.str s4.arg),(.str s4.path.ak),(.str s4.path.domain),(.int .i64 s4.size)]) (dB:H0.length≤q5) {K:Exit→Env→AH→Prop} {t7:Bool}
 (h:me s1 t3=some t7)
 (kn:∀H':AH,Fr H0 H0.length [] H'→H'[q5]? =some [(.int .i64 s4.kind),(.str s4.arg),(.str s4.path.ak),(.str s4.path.domain),(.int .i64 s4.size)]→K .normal [(0,(.str s1)),(2,(.ptr q5 0)),(12,(.int .i64 (s1.length:Int))),(13,(.int .i64 t3)),(25,(.bool t7))] H'):
 AX Tryz.prog kV 80 H0.length (erase w7) K [(0,(.str s1)),(2,(.ptr q5 0)),(4,(.int .i64 t3)),(12,(.int .i64 (s1.length:Int))),(13,(.int .i64 t3))] H:=by
 refine bY fun K' hK=> ?_
 have hle:=hfr.le
 have aL:=aN ai
 rw [me.eq_1] at h
 obtain ⟨x6,hy2,h⟩:=au h
 refine ax (aA hy2 ai) ?_
 refine bT h (fun hy3 h=> ?_) fun hy3 h=> ?_
 · refine ax (aA hy3 ai) ?_
   obtain rfl:=aD h
   exact hK _ _ _ _ _ aK aq (kn _ hfr (ai.trans rfl))
 · refine ax (aA hy3 (aA hy2 ai)) ?_
   obtain rfl:=aD h
   exact hK _ _ _ _ _ aK aq (kn _ hfr (ai.trans rfl))
theorem Dx {F:Nat} {t3:Int} {s1:List UInt8} {s4:aC} {q2:Nat} {H0 H:AH} (hfr:Fr H0 H0.length [] H) (ai:H[q2]? =some [(.int .i64 s4.kind),(.str s4.arg),(.str s4.path.ak),(.str s4.path.domain),(.int .i64 s4.size)]) (dB:H0.length≤q2) {K:Exit→Env→AH→Prop} {o:(aC×Int)⊕(aC)}
 (h:iter (gl s1) F (t3,s4)=some o)
 (dz:∀o':aC,o= .inr o'→∀H':AH,Fr H0 H0.length [] H'→H'[q2]? =some [(.int .i64 o'.kind),(.str o'.arg),(.str o'.path.ak),(.str o'.path.domain),(.int .i64 o'.size)]→K (.exit 0) [(0,(.str s1)),(2,(.ptr q2 0))] H')
 (kr:∀o':aC×Int,o= .inl o'→∀H':AH,Fr H0 H0.length [] H'→H'[q2]? =some [(.int .i64 o'.1.kind),(.str o'.1.arg),(.str o'.1.path.ak),(.str o'.1.path.domain),(.int .i64 o'.1.size)]→K .ret [(2,(.ptr q2 0)),(3,(.int .i64 o'.2))] H'):
 AX Tryz.prog kV 80 H0.length (.loop (erase vk)) K [(0,(.str s1)),(2,(.ptr q2 0)),(12,(.int .i64 (s1.length:Int))),(13,(.int .i64 t3))] H:=by
 refine iE (fun s e H1=>match s with|(t3,s4)=>e=[(0,(.str s1)),(2,(.ptr q2 0)),(12,(.int .i64 (s1.length:Int))),(13,(.int .i64 t3))]∧Fr H0 H0.length [] H1∧H1[q2]? =some [(.int .i64 s4.kind),(.str s4.arg),(.str s4.path.ak),(.str s4.path.domain),(.int .i64 s4.size)]) h ⟨rfl,hfr,ai⟩ ?_
 rintro K' ⟨t3,s4⟩ st e H ⟨rfl,hfr,ai⟩ h hN hB hR hX
 have hle:=hfr.le
 have aL:=aN ai
 rw [gl.eq_1] at h
 refine ax ai ?_
 refine bk h (fun hy1 h=> ?_) fun hy1 h=> ?_
 · refine ax ai ?_
   obtain ⟨t8,hy4,h⟩:=au h
   refine bA aq (Dw (s4:=s4) (q5:=q2) hfr (ai.trans rfl) bU hy4 ?_)
   intro H hfr ai
   have hle:=hfr.le
   have aL:=aN ai
   refine ax ai ?_
   refine bk h (fun bJ h=> ?_) fun bJ h=> ?_
   · refine ax ai ?_
     obtain rfl:=aD h
     exact hX _ _ _ _ _ dH aK aq (kr _ (hR _ rfl) _ (b6 _ hfr) cL)
   · refine ax ai ?_
     obtain rfl:=aD h
     exact hN _ rfl _ _ _ _ aK aq ⟨rfl,hfr,(ai.trans rfl)⟩
 · refine ax ai ?_
   obtain rfl:=aD h
   exact hX _ _ _ _ _ dH aK aq (dz _ (hB _ rfl) _ hfr (ai.trans rfl))
theorem Dy {cS:Int} {Dz:Nat} {de:List UInt8} {r16:Bool} {bn:aC} {H0 H:AH} (hfr:Fr H0 H0.length [] H) (ai:H[Dz]? =some [(.int .i64 bn.kind),(.str bn.arg),(.str bn.path.ak),(.str bn.path.domain),(.int .i64 bn.size)]) (dB:H0.length≤Dz) {K:Exit→Env→AH→Prop} {t25:Bool}
 (h:oJ cS=some t25)
 (kn:∀H':AH,Fr H0 H0.length [] H'→H'[Dz]? =some [(.int .i64 bn.kind),(.str bn.arg),(.str bn.path.ak),(.str bn.path.domain),(.int .i64 bn.size)]→K .normal [(2,(.ptr Dz 0)),(6,(.str de)),(7,(.bool r16)),(8,(.int .i64 cS)),(10,(.bool true)),(43,(.int .i64 cS)),(59,(.bool t25))] H'):
 AX Tryz.prog kV 80 H0.length (erase w9) K [(2,(.ptr Dz 0)),(6,(.str de)),(7,(.bool r16)),(8,(.int .i64 cS)),(10,(.bool true)),(43,(.int .i64 cS)),(59,(.bool (decide (cS=1))))] H:=by
 refine bY fun K' hK=> ?_
 have hle:=hfr.le
 have aL:=aN ai
 rw [oJ.eq_1] at h
 refine ax ai ?_
 refine bk h (fun gi h=> ?_) fun gi h=> ?_
 · refine ax ai ?_
   obtain rfl:=aD h
   exact hK _ _ _ _ _ aK aq (kn _ hfr (ai.trans rfl))
 · refine ax ai ?_
   obtain rfl:=aD h
   exact hK _ _ _ _ _ aK aq (kn _ hfr (ai.trans rfl))
theorem DA {cS:Int} {Um:Nat} {de:List UInt8} {r16:Bool} {bn:aC} {H0 H:AH} (hfr:Fr H0 H0.length [] H) (ai:H[Um]? =some [(.int .i64 bn.kind),(.str bn.arg),(.str bn.path.ak),(.str bn.path.domain),(.int .i64 bn.size)]) (dB:H0.length≤Um) {K:Exit→Env→AH→Prop} {t30:Bool}
 (h:oK cS=some t30)
 (kn:∀H':AH,Fr H0 H0.length [] H'→H'[Um]? =some [(.int .i64 bn.kind),(.str bn.arg),(.str bn.path.ak),(.str bn.path.domain),(.int .i64 bn.size)]→K .normal [(2,(.ptr Um 0)),(6,(.str de)),(7,(.bool r16)),(8,(.int .i64 cS)),(10,(.bool true)),(43,(.int .i64 cS)),(64,(.bool t30))] H'):
 AX Tryz.prog kV 80 H0.length (erase xb) K [(2,(.ptr Um 0)),(6,(.str de)),(7,(.bool r16)),(8,(.int .i64 cS)),(10,(.bool true)),(43,(.int .i64 cS)),(64,(.bool (decide (cS=5))))] H:=by
 refine bY fun K' hK=> ?_
 have hle:=hfr.le
 have aL:=aN ai
 rw [oK.eq_1] at h
 refine ax ai ?_
 refine bk h (fun eT h=> ?_) fun eT h=> ?_
 · refine ax ai ?_
   obtain rfl:=aD h
   exact hK _ _ _ _ _ aK aq (kn _ hfr (ai.trans rfl))
 · refine ax ai ?_
   refine bk h (fun fT h=> ?_) fun fT h=> ?_
   · refine ax ai ?_
     obtain rfl:=aD h
     exact hK _ _ _ _ _ aK aq (kn _ hfr (ai.trans rfl))
   · refine ax ai ?_
     obtain rfl:=aD h
     exact hK _ _ _ _ _ aK aq (kn _ hfr (ai.trans rfl))
theorem DB {F:Nat} {t26:Bool} {de:List UInt8} {cS:Int} {r16:Bool} {P9:Nat} {bn:aC} {H0 H:AH} (hfr:Fr H0 H0.length [] H) (ai:H[P9]? =some [(.int .i64 bn.kind),(.str bn.arg),(.str bn.path.ak),(.str bn.path.domain),(.int .i64 bn.size)]) (dB:H0.length≤P9) {K:Exit→Env→AH→Prop} {abQ:Bool}
 (h:oL F t26 de cS r16=some abQ)
 (kn:∀H':AH,Fr H0 H0.length [] H'→H'[P9]? =some [(.int .i64 bn.kind),(.str bn.arg),(.str bn.path.ak),(.str bn.path.domain),(.int .i64 bn.size)]→K .normal [(2,(.ptr P9 0)),(6,(.str de)),(8,(.int .i64 cS)),(10,(.bool abQ))] H'):
 AX Tryz.prog kV 80 H0.length (erase xd) K [(2,(.ptr P9 0)),(6,(.str de)),(7,(.bool r16)),(8,(.int .i64 cS)),(10,(.bool true)),(43,(.int .i64 cS)),(59,(.bool t26))] H:=by
 refine bY fun K' hK=> ?_
 have hle:=hfr.le
 have aL:=aN ai
 rw [oL.eq_1] at h
 refine ax ai ?_
 refine bk h (fun fC h=> ?_) fun fC h=> ?_
 · refine ax ai ?_
   obtain ⟨r28,eA,h⟩:=au h
   refine bw aq (wY eA) ?_
   refine ax ai ?_
   obtain rfl:=aD h
   exact hK _ _ _ _ _ aK aq (kn _ hfr (ai.trans rfl))
 · refine ax ai ?_
   obtain ⟨t31,jo,h⟩:=au h
   refine bA aq (DA (de:=de) (r16:=r16) (bn:=bn) (Um:=P9) hfr (ai.trans rfl) bU jo ?_)
   intro H hfr ai
   have hle:=hfr.le
   have aL:=aN ai
   refine ax ai ?_
   refine bk h (fun ie h=> ?_) fun ie h=> ?_
   · refine ax ai ?_
     obtain rfl:=aD h
     exact hK _ _ _ _ _ aK aq (kn _ hfr (ai.trans rfl))
   · refine ax ai ?_
     refine bk h (fun iF h=> ?_) fun iF h=> ?_
     · refine ax ai ?_
       obtain rfl:=aD h
       exact hK _ _ _ _ _ aK aq (kn _ hfr (ai.trans rfl))
     · refine ax ai ?_
       obtain rfl:=aD h
       exact hK _ _ _ _ _ aK aq (kn _ hfr (ai.trans rfl))
theorem cC {F:Nat} {s1:List UInt8} {H0:AH} {aS:aC} {fE:Int} (h:cV F s1=some (aS,fE)):
 aG Tryz.prog 8 [(.str s1)] H0 fun v H'=>v=(.bG [(.agg [(.int .i64 aS.kind),(.str aS.arg),(.str aS.path.ak),(.str aS.path.domain),(.int .i64 aS.size)]),(.int .i64 fE)])∧H'=H0:=by
 refine lN KF kV [] fun hcl K0 aP H hH hfr=> ?_
 clear hH
 have hle:=hfr.le
 rw [cV.eq_1] at h
 refine cj ?_
 obtain ⟨q2,hO⟩:∃q:Nat,H.length=q:=⟨_,rfl⟩
 try rw [hO]
 obtain ⟨X6,ck,h⟩:=au h
 refine bA aq (Dx (q2:=q2) (Fr.app hfr) pJ bU ck ?_ ?_)
 · rintro bn rfl H hfr ai
   try dsimp only at h ai
   have hle:=hfr.le
   have aL:=aN ai
   refine ax ai ?_
   obtain ⟨mM,cF,h⟩:=au h
   refine bw aq (xD (s1:=s1) (s2:=([32]:List UInt8)) cF) ?_
   refine ax ai ?_
   obtain ⟨⟨jS,de,r16⟩,cv,h⟩:=au h
   dsimp only at h
   refine bw aq (Em (s1:=mM) (s2:=([32]:List UInt8)) cv) ?_
   refine ax ai ?_
   obtain ⟨zL,cM,h⟩:=au h
   refine bw aq (nr cM) ?_
   refine ax ai ?_
   obtain ⟨cS,cc,h⟩:=au h
   refine bw aq (Kq cc) ?_
   refine ax ai ?_
   obtain ⟨yH,cx,h⟩:=au h
   refine ax (aA cx ai) ?_
   refine bk h (fun cN h=> ?_) fun cN h=> ?_
   · refine ax ai ?_
     obtain ⟨rfl,rfl⟩:=cT h
     exact aP _ _ _ bh (aR (b6 _ hfr) hcl (br (cs:=[(.int .i64 0),(.str ([]:List UInt8)),(.str ([]:List UInt8)),(.str ([]:List UInt8)),(.int .i64 0)]) (v:=(.agg [(.int .i64 0),(.str ([]:List UInt8)),(.str ([]:List UInt8)),(.str ([]:List UInt8)),(.int .i64 0)])) (by kernel_rfl) (n:=(some 5)) (by kernel_rfl) rfl cL (by simp [bO,bN,eC,aX,AV.flat,cu,cR,AV.bB,Tg.sh]) (aU aZ (.int .i64 500))) bf aW ⟨rfl,rfl⟩)
   · refine ax ai ?_
     refine bk h (fun cI h=> ?_) fun cI h=> ?_
     · refine ax ai ?_
       obtain ⟨⟨oT,nK⟩,dD,h⟩:=au h
       dsimp only at h
       refine bw aq (KC dD) ?_
       refine ax ai ?_
       obtain ⟨rfl,rfl⟩:=cT h
       exact aP _ _ _ bh (aR (b6 _ hfr) hcl (br (cs:=[(.int .i64 oT.kind),(.str oT.arg),(.str oT.path.ak),(.str oT.path.domain),(.int .i64 oT.size)]) (v:=(.agg [(.int .i64 oT.kind),(.str oT.arg),(.str oT.path.ak),(.str oT.path.domain),(.int .i64 oT.size)])) (by kernel_rfl) (n:=(some 5)) (by kernel_rfl) rfl cL (by simp [bO,bN,eC,aX,AV.flat,cu,cR,AV.bB,Tg.sh]) (aU aZ (.int .i64 nK))) bf aW ⟨rfl,rfl⟩)
     · refine ax ai ?_
       refine bk h (fun eM h=> ?_) fun eM h=> ?_
       · refine ax ai ?_
         obtain ⟨⟨EG,F8⟩,dM,h⟩:=au h
         dsimp only at h
         refine bw aq (KD dM) ?_
         refine ax ai ?_
         obtain ⟨rfl,rfl⟩:=cT h
         exact aP _ _ _ bh (aR (b6 _ hfr) hcl (br (cs:=[(.int .i64 EG.kind),(.str EG.arg),(.str EG.path.ak),(.str EG.path.domain),(.int .i64 EG.size)]) (v:=(.agg [(.int .i64 EG.kind),(.str EG.arg),(.str EG.path.ak),(.str EG.path.domain),(.int .i64 EG.size)])) (by kernel_rfl) (n:=(some 5)) (by kernel_rfl) rfl cL (by simp [bO,bN,eC,aX,AV.flat,cu,cR,AV.bB,Tg.sh]) (aU aZ (.int .i64 F8))) bf aW ⟨rfl,rfl⟩)
       · refine ax ai ?_
         obtain ⟨t26,fS,h⟩:=au h
         refine bA aq (Dy (de:=de) (r16:=r16) (bn:=bn) (Dz:=q2) hfr (ai.trans rfl) bU fS ?_)
         intro H hfr ai
         have hle:=hfr.le
         have aL:=aN ai
         refine ax ai ?_
         obtain ⟨abP,kq,h⟩:=au h
         refine bA aq (DB (bn:=bn) (P9:=q2) hfr (ai.trans rfl) bU kq ?_)
         intro H hfr ai
         have hle:=hfr.le
         have aL:=aN ai
         refine ax ai ?_
         refine bk h (fun rD h=> ?_) fun rD h=> ?_
         · refine ax ai ?_
           obtain ⟨rfl,rfl⟩:=cT h
           exact aP _ _ _ bh (aR (b6 _ hfr) hcl (br (cs:=[(.int .i64 0),(.str ([]:List UInt8)),(.str ([]:List UInt8)),(.str ([]:List UInt8)),(.int .i64 0)]) (v:=(.agg [(.int .i64 0),(.str ([]:List UInt8)),(.str ([]:List UInt8)),(.str ([]:List UInt8)),(.int .i64 0)])) (by kernel_rfl) (n:=(some 5)) (by kernel_rfl) rfl cL (by simp [bO,bN,eC,aX,AV.flat,cu,cR,AV.bB,Tg.sh]) (aU aZ (.int .i64 501))) bf aW ⟨rfl,rfl⟩)
         · refine ax ai ?_
           obtain ⟨rfl,rfl⟩:=cT h
           exact aP _ _ _ bh (aR (b6 _ hfr) hcl (br (cs:=[(.int .i64 cS),(.str de),(.str ([]:List UInt8)),(.str ([]:List UInt8)),(.int .i64 0)]) (v:=(.agg [(.int .i64 cS),(.str de),(.str ([]:List UInt8)),(.str ([]:List UInt8)),(.int .i64 0)])) (by kernel_rfl) (n:=(some 5)) (by kernel_rfl) rfl cL (by simp [bO,bN,eC,aX,AV.flat,cu,cR,AV.bB,Tg.sh]) (aU aZ (.int .i64 0))) bf aW ⟨rfl,rfl⟩)
 · rintro ⟨vl,Ul⟩ rfl H hfr ai
   try dsimp only at h ai
   have hle:=hfr.le
   have aL:=aN ai
   refine ax ai ?_
   obtain ⟨rfl,rfl⟩:=cT h
   exact aP _ _ _ bh (aR hfr hcl (br (cs:=[(.int .i64 vl.kind),(.str vl.arg),(.str vl.path.ak),(.str vl.path.domain),(.int .i64 vl.size)]) (v:=(.agg [(.int .i64 vl.kind),(.str vl.arg),(.str vl.path.ak),(.str vl.path.domain),(.int .i64 vl.size)])) (by kernel_rfl) (n:=(some 5)) (by kernel_rfl) rfl (ai.trans rfl) (by simp [bO,bN,eC,aX,AV.flat,cu,cR,AV.bB,Tg.sh]) (aU aZ (.int .i64 Ul))) bf aW ⟨rfl,rfl⟩)
abbrev Ia:az:=(.seq (.rg [(aj 1 (.box (.t 0))),(aj 2 (.aT (.c (.str []))))]) (.seq (.blk 0 (.seq (.rg [(aj 4 (.ld (.t 1) (some 2))),(aj 5 (.call (.c (.fn 30 [])) [(.t 4)])),(aO 3 5)]) (.cond (.t 3) (.seq (.rg [(aj 2 (.aT (.c (.str [60,62]))))]) .ret) (.seq (.rg [(aj 7 (.ld (.t 1) (some 2))),(aj 8 (.call (.c (.fn 10 [])) [(.t 7)])),(aj 9 (.un .not (.t 8))),(aO 6 9)]) (.cond (.t 6) (.seq (.rg [(aj 2 (.aT (.c (.str []))))]) .ret) .skip))))) (.seq (.rg [(aj 10 (.ld (.t 1) (some 2))),(aj 11 (.call (.c (.fn 32 [])) [(.t 10)])),(aO 2 11)]) .ret)))
theorem Ib:bL Tryz.prog 11 12 [(.tmp 2)] (erase Ia):=⟨Tryz.f11,_,rfl,by decide,rfl,by kernel_rfl,rfl,rfl⟩
abbrev Ic:List Nat:=[0,1,2,3,6]
def iS (F:Nat) (a1:aB):Option ((List UInt8)):=
 (oy a1).bind fun r2=>
 (if r2 then
  some ([60,62]:List UInt8)
 else
  (ku F a1).bind fun r3=>
  (if (!r3) then
   some ([]:List UInt8)
  else
   (oz F a1).bind fun r4=>some r4))
theorem rE {F:Nat} {a1:aB} {H0:AH} {aS:List UInt8} (h:iS F a1=some aS):
 aG Tryz.prog 11 [(.agg [(.str a1.ak),(.str a1.domain)])] H0 fun v H'=>v=(.str aS)∧H'=H0:=by
 refine lN Ib Ic [] fun hcl K0 aP H hH hfr=> ?_
 clear hH
 have hle:=hfr.le
 rw [iS.eq_1] at h
 refine cj ?_
 obtain ⟨r2,hy1,h⟩:=au h
 refine bw aq (z8 hy1) ?_
 refine cj ?_
 refine bk h (fun hy2 h=> ?_) fun hy2 h=> ?_
 · refine cj ?_
   obtain rfl:=aD h
   exact aP _ _ _ bh (aR (Fr.app hfr) hcl (aU aZ (.str ([60,62]:List UInt8))) bf aW ⟨rfl,rfl⟩)
 · refine cj ?_
   obtain ⟨r3,hy3,h⟩:=au h
   refine bw aq (rz hy3) ?_
   refine cj ?_
   refine bk h (fun hy4 h=> ?_) fun hy4 h=> ?_
   · refine cj ?_
     obtain rfl:=aD h
     exact aP _ _ _ bh (aR (Fr.app hfr) hcl (aU aZ (.str ([]:List UInt8))) bf aW ⟨rfl,rfl⟩)
   · refine cj ?_
     obtain ⟨r4,bJ,h⟩:=au h
     refine bw aq (Ab bJ) ?_
     refine cj ?_
     obtain rfl:=aD h
     exact aP _ _ _ bh (aR (Fr.app hfr) hcl (aU aZ (.str r4)) bf aW ⟨rfl,rfl⟩)
abbrev xe:az:=(.cond (.t 15) .skip (.seq (.rg [(aj 17 (.bin .eql (.t 8) (.c (.int .i64 2)))),(aO 15 17)]) (.cond (.t 15) .skip (.rg [(aj 18 (.bin .eql (.t 8) (.c (.int .i64 9)))),(aO 15 18)]))))
abbrev xg:az:=(.cond (.t 27) (.rg [(av 28 3),(aj 29 (.cw (.t 1) 4)),(aj 30 (.ld (.t 29) none)),(aj 31 (.call (.c (.fn 34 [])) [(.t 30)])),(aj 32 (.bin .add (.c (.str [32,83,73,90,69,61])) (.t 31))),(aj 33 (.bin .add (.t 28) (.t 32))),(aO 3 33)]) .skip)
abbrev KG:az:=(.seq (.rg [(aj 1 (.box (.t 0))),(aj 2 (.aT (.c (.str []))))]) (.seq (.rg [(aj 4 (.cw (.t 1) 0)),(aj 5 (.ld (.t 4) none)),(aj 6 (.call (.c (.fn 33 [])) [(.t 5)])),(aO 3 6)]) (.seq (.seq (.rg [(aj 7 (.cw (.t 1) 0)),(aj 8 (.ld (.t 7) none))]) (.blk 0 (.seq (.blk 4 (.seq (.blk 3 (.seq (.blk 2 (.seq (.blk 1 (.seq (.seq (.seq (.rg [(aj 10 (.bin .eql (.t 8) (.c (.int .i64 3)))),(aO 9 10)]) (.cond (.t 9) (.exit 1) .skip)) (.seq (.seq (.rg [(aj 12 (.bin .eql (.t 8) (.c (.int .i64 4)))),(aO 11 12)]) (.cond (.t 11) (.exit 2) .skip)) (.seq (.seq (.rg [(aj 14 (.bin .eql (.t 8) (.c (.int .i64 7)))),(aO 13 14)]) (.cond (.t 13) (.exit 3) .skip)) (.seq (.seq (.rg [(aj 16 (.bin .eql (.t 8) (.c (.int .i64 1)))),(aO 15 16)]) (.sem (erase xe))) (.cond (.t 15) (.exit 4) .skip))))) (.exit 0))) (.seq (.seq (.rg [(av 19 3),(aj 20 (.cw (.t 1) 2)),(aj 21 (.ld (.t 20) (some 2))),(aj 22 (.call (.c (.fn 11 [])) [(.t 21)])),(aj 23 (.bin .add (.c (.str [32,70,82,79,77,58])) (.t 22))),(aj 24 (.bin .add (.t 19) (.t 23))),(aO 3 24)]) (.seq (.rg [(aj 25 (.cw (.t 1) 4)),(aj 26 (.ld (.t 25) none)),(aj 27 (.bin .neq (.t 26) (.c (.int .i64 (-1)))))]) (.sem (erase xg)))) (.exit 0)))) (.seq (.rg [(av 34 3),(aj 35 (.cw (.t 1) 2)),(aj 36 (.ld (.t 35) (some 2))),(aj 37 (.call (.c (.fn 11 [])) [(.t 36)])),(aj 38 (.bin .add (.c (.str [32,84,79,58])) (.t 37))),(aj 39 (.bin .add (.t 34) (.t 38))),(aO 3 39)]) (.exit 0)))) (.seq (.rg [(aj 40 (.cw (.t 1) 1)),(aj 41 (.ld (.t 40) none)),(aj 42 (.bin .eql (.t 41) (.c (.str []))))]) (.cond (.t 42) (.exit 0) .skip)))) (.seq (.rg [(av 43 3),(aj 44 (.cw (.t 1) 1)),(aj 45 (.ld (.t 44) none)),(aj 46 (.bin .add (.c (.str [32])) (.t 45))),(aj 47 (.bin .add (.t 43) (.t 46))),(aO 3 47)]) (.exit 0))))) (.seq (.rg [(av 48 3),(aO 2 48)]) .ret))))
theorem KH:bL Tryz.prog 14 49 [(.tmp 2)] (erase KG):=⟨Tryz.f14,_,rfl,by decide,rfl,by kernel_rfl,rfl,rfl⟩
abbrev wD:List Nat:=[0,1,2,3,8,9,11,13,15,27,42]
def oM (c1:aC) (x5:List UInt8):Option ((List UInt8)):=
 (if (!decide (c1.size=(-1))) then
  (strconv_Itoa c1.size).bind fun r7=>
  (cat ([32,83,73,90,69,61]:List UInt8) r7).bind fun x8=>(cat x5 x8).bind fun x9=>some x9
 else
  some x5)
def oN (c1:aC):Option (Bool):=
 (if (decide (c1.kind=1)) then
  some (decide (c1.kind=1))
 else
  (if (decide (c1.kind=2)) then
   some (decide (c1.kind=2))
  else
   some (decide (c1.kind=9))))
def mN (F:Nat) (c1:aC):Option ((List UInt8)):=
 (kP c1.kind).bind fun r2=>
 (if (decide (c1.kind=3)) then
  (iS F c1.path).bind fun r3=>
  (cat ([32,70,82,79,77,58]:List UInt8) r3).bind fun x4=>
  (cat r2 x4).bind fun x5=>(oM c1 x5).bind fun qT=>
  some qT
 else
  (if (decide (c1.kind=4)) then
   (iS F c1.path).bind fun jQ=>
   (cat ([32,84,79,58]:List UInt8) jQ).bind fun iu=>(cat r2 iu).bind fun Dr=>some Dr
  else
   (if (decide (c1.kind=7)) then
    (if (decide (c1.arg=([]:List UInt8))) then
     some r2
    else
     (cat ([32]:List UInt8) c1.arg).bind fun n9=>(cat r2 n9).bind fun jl=>some jl)
   else
    (oN c1).bind fun t19=>
    (if t19 then
     (cat ([32]:List UInt8) c1.arg).bind fun oa=>(cat r2 oa).bind fun yI=>some yI
    else
     some r2))))
theorem DC {c1:aC} {x5:List UInt8} {q6:Nat} {H0 H:AH} (hfr:Fr H0 H0.length [] H) (ai:H[q6]? =some [(.int .i64 c1.kind),(.str c1.arg),(.str c1.path.ak),(.str c1.path.domain),(.int .i64 c1.size)]) (dB:H0.length≤q6) {K:Exit→Env→AH→Prop} {X4:List UInt8}
 (h:oM c1 x5=some X4)
 (kn:∀H':AH,Fr H0 H0.length [] H'→H'[q6]? =some [(.int .i64 c1.kind),(.str c1.arg),(.str c1.path.ak),(.str c1.path.domain),(.int .i64 c1.size)]→K .normal [(3,(.str X4))] H'):
 AX Tryz.prog wD 49 H0.length (erase xg) K [(1,(.ptr q6 0)),(3,(.str x5)),(27,(.bool (!decide (c1.size=(-1)))))] H:=by
 refine bY fun K' hK=> ?_
 have hle:=hfr.le
 have aL:=aN ai
 rw [oM.eq_1] at h
 refine ax ai ?_
 refine bk h (fun ck h=> ?_) fun ck h=> ?_
 · refine ax ai ?_
   obtain ⟨r7,cF,h⟩:=au h
   refine bw aq (uU (i1:=c1.size) cF) ?_
   refine ax ai ?_
   obtain ⟨x8,cv,h⟩:=au h
   obtain ⟨x9,cM,h⟩:=au h
   refine ax (aA cv (aA cM ai)) ?_
   obtain rfl:=aD h
   exact hK _ _ _ _ _ aK aq (kn _ hfr (ai.trans rfl))
 · refine ax ai ?_
   obtain rfl:=aD h
   exact hK _ _ _ _ _ aK aq (kn _ hfr (ai.trans rfl))
theorem DD {c1:aC} {wE:Nat} {r2:List UInt8} {H0 H:AH} (hfr:Fr H0 H0.length [] H) (ai:H[wE]? =some [(.int .i64 c1.kind),(.str c1.arg),(.str c1.path.ak),(.str c1.path.domain),(.int .i64 c1.size)]) (dB:H0.length≤wE) {K:Exit→Env→AH→Prop} {t18:Bool}
 (h:oN c1=some t18)
 (kn:∀H':AH,Fr H0 H0.length [] H'→H'[wE]? =some [(.int .i64 c1.kind),(.str c1.arg),(.str c1.path.ak),(.str c1.path.domain),(.int .i64 c1.size)]→K .normal [(1,(.ptr wE 0)),(3,(.str r2)),(15,(.bool t18))] H'):
 AX Tryz.prog wD 49 H0.length (erase xe) K [(1,(.ptr wE 0)),(3,(.str r2)),(8,(.int .i64 c1.kind)),(15,(.bool (decide (c1.kind=1))))] H:=by
 refine bY fun K' hK=> ?_
 have hle:=hfr.le
 have aL:=aN ai
 rw [oN.eq_1] at h
 refine ax ai ?_
 refine bk h (fun fC h=> ?_) fun fC h=> ?_
 · refine ax ai ?_
   obtain rfl:=aD h
   exact hK _ _ _ _ _ aK aq (kn _ hfr (ai.trans rfl))
 · refine ax ai ?_
   refine bk h (fun eA h=> ?_) fun eA h=> ?_
   · refine ax ai ?_
     obtain rfl:=aD h
     exact hK _ _ _ _ _ aK aq (kn _ hfr (ai.trans rfl))
   · refine ax ai ?_
     obtain rfl:=aD h
     exact hK _ _ _ _ _ aK aq (kn _ hfr (ai.trans rfl))
theorem uN {F:Nat} {c1:aC} {H0:AH} {aS:List UInt8} (h:mN F c1=some aS):
 aG Tryz.prog 14 [(.agg [(.int .i64 c1.kind),(.str c1.arg),(.str c1.path.ak),(.str c1.path.domain),(.int .i64 c1.size)])] H0 fun v H'=>v=(.str aS)∧H'=H0:=by
 refine lN KH wD [] fun hcl K0 aP H hH hfr=> ?_
 clear hH
 have hle:=hfr.le
 rw [mN.eq_1] at h
 refine cj ?_
 obtain ⟨r2,hy1,h⟩:=au h
 refine bw aq (BX hy1) ?_
 refine cj ?_
 refine bk h (fun hy2 h=> ?_) fun hy2 h=> ?_
 · refine cj ?_
   obtain ⟨r3,hy3,h⟩:=au h
   refine bw aq (rE hy3) ?_
   refine cj ?_
   obtain ⟨x4,hy4,h⟩:=au h
   obtain ⟨x5,bJ,h⟩:=au h
   refine ax (aA hy4 bJ) ?_
   obtain ⟨q6,rB⟩:∃q:Nat,H.length=q:=⟨_,rfl⟩
   try rw [rB]
   obtain ⟨qT,cc,h⟩:=au h
   refine bA aq (DC (q6:=q6) (Fr.app hfr) pJ bU cc ?_)
   intro H hfr ai
   have hle:=hfr.le
   have aL:=aN ai
   refine ax ai ?_
   obtain rfl:=aD h
   exact aP _ _ _ bh (aR hfr hcl (aU aZ (.str qT)) bf aW ⟨rfl,rfl⟩)
 · refine cj ?_
   refine bk h (fun cx h=> ?_) fun cx h=> ?_
   · refine cj ?_
     obtain ⟨jQ,cN,h⟩:=au h
     refine bw aq (rE cN) ?_
     refine cj ?_
     obtain ⟨iu,cI,h⟩:=au h
     obtain ⟨Dr,dD,h⟩:=au h
     refine ax (aA cI dD) ?_
     obtain rfl:=aD h
     exact aP _ _ _ bh (aR (Fr.app hfr) hcl (aU aZ (.str Dr)) bf aW ⟨rfl,rfl⟩)
   · refine cj ?_
     refine bk h (fun eM h=> ?_) fun eM h=> ?_
     · refine cj ?_
       refine bk h (fun dM h=> ?_) fun dM h=> ?_
       · refine cj ?_
         obtain rfl:=aD h
         exact aP _ _ _ bh (aR (Fr.app hfr) hcl (aU aZ (.str r2)) bf aW ⟨rfl,rfl⟩)
       · obtain ⟨n9,gi,h⟩:=au h
         obtain ⟨jl,fS,h⟩:=au h
         refine ax (aA gi fS) ?_
         obtain rfl:=aD h
         exact aP _ _ _ bh (aR (Fr.app hfr) hcl (aU aZ (.str jl)) bf aW ⟨rfl,rfl⟩)
     · refine cj ?_
       obtain ⟨wE,KI⟩:∃q:Nat,H.length=q:=⟨_,rfl⟩
       try rw [KI]
       obtain ⟨t19,eT,h⟩:=au h
       refine bA aq (DD (r2:=r2) (wE:=wE) (Fr.app hfr) pJ bU eT ?_)
       intro H hfr ai
       have hle:=hfr.le
       have aL:=aN ai
       refine ax ai ?_
       refine bk h (fun fT h=> ?_) fun fT h=> ?_
       · obtain ⟨oa,jo,h⟩:=au h
         obtain ⟨yI,ie,h⟩:=au h
         refine ax (aA jo (aA ie ai)) ?_
         obtain rfl:=aD h
         exact aP _ _ _ bh (aR hfr hcl (aU aZ (.str yI)) bf aW ⟨rfl,rfl⟩)
       · refine ax ai ?_
         obtain rfl:=aD h
         exact aP _ _ _ bh (aR hfr hcl (aU aZ (.str r2)) bf aW ⟨rfl,rfl⟩)
abbrev th:az:=(.rg ((av 25 2)::(aj 26 (.bin .eql (.t 25) (.c (.int .i64 0))))::(av 27 26)::(ay 28 (.cw (.t 1) 0) 27 true)::(ay 29 (.ld (.t 28) none) 27 true)::(ay 30 (.bin .eql (.t 29) (.c (.int .i64 3))) 27 true)::(aj 31 (.pick (.t 27) (.t 30) (.c (.bool false))))::(av 32 31)::(ay 33 (.cw (.t 1) 4) 32 true)::(ay 34 (.ld (.t 33) none) 32 true)::(ay 35 (.bin .eql (.t 34) (.c (.int .i64 12))) 32 true)::(aj 36 (.pick (.t 32) (.t 35) (.c (.bool false))))::(av 37 36)::(ay 38 (.cw (.t 1) 2) 37 true)::(ay 39 (.cw (.t 38) 0) 37 true)::(ay 40 (.ld (.t 39) none) 37 true)::(ay 41 (.bin .eql (.t 40) (.c (.str [97]))) 37 true)::(aj 42 (.pick (.t 37) (.t 41) (.c (.bool false))))::(av 43 42)::(ay 44 (.mv (.t 4)) 43 true)::(ay 45 (.bin .eql (.t 44) (.c (.int .i64 501))) 43 true)::(aj 46 (.pick (.t 43) (.t 45) (.c (.bool false))))::(av 47 46)::(ay 48 (.mv (.t 6)) 47 true)::(ay 49 (.bin .eql (.t 48) (.c (.int .i64 555))) 47 true)::(aj 50 (.pick (.t 47) (.t 49) (.c (.bool false))))::(av 51 50)::(ay 52 (.mv (.t 8)) 51 true)::(ay 53 (.bin .eql (.t 52) (.c (.int .i64 500))) 51 true)::(aj 54 (.pick (.t 51) (.t 53) (.c (.bool false))))::(av 55 54)::(ay 56 (.ld (.t 1) (some 5)) 55 true)::(ay 57 (.call (.c (.fn 14 [])) [(.t 56)]) 55 true)::(ay 58 (.bin .eql (.t 57) (.c (.str [77,65,73,76,32,70,82,79,77,58,60,97,64,98,62,32,83,73,90,69,61,49,50]))) 55 true)::(aj 59 (.pick (.t 55) (.t 58) (.c (.bool false))))::(aO 0 59)::[]))
abbrev F9:az:=(.seq (.rg [(aj 0 (.aT (.c (.bool false))))]) (.seq (.rg [(aj 10 (.call (.c (.fn 8 [])) [(.c (.str [109,97,105,108,32,70,82,79,77,58,60,97,64,98,62,32,83,73,90,69,61,49,50,32,32]))])),(av 9 10),(aj 11 (.ext (.t 9) 0)),(aj 12 (.ext (.t 9) 1)),(aj 1 (.alloc [(.int .i64 0),(.str []),(.str []),(.str []),(.int .i64 0)])),(cZ (.st (.t 1) (.t 11) 5)),(aO 2 12)]) (.seq (.rg [(aj 14 (.call (.c (.fn 8 [])) [(.c (.str [82,67,80,84,32,84,79,58,60,62]))])),(av 13 14),(aj 15 (.ext (.t 13) 0)),(aj 16 (.ext (.t 13) 1)),(aj 3 (.alloc [(.int .i64 0),(.str []),(.str []),(.str []),(.int .i64 0)])),(cZ (.st (.t 3) (.t 15) 5)),(aO 4 16)]) (.seq (.rg [(aj 18 (.call (.c (.fn 8 [])) [(.c (.str [77,65,73,76,32,70,82,79,77,58,60,97,64,98,62,32,66,79,68,89,61,56,66,73,84]))])),(av 17 18),(aj 19 (.ext (.t 17) 0)),(aj 20 (.ext (.t 17) 1)),(aj 5 (.alloc [(.int .i64 0),(.str []),(.str []),(.str []),(.int .i64 0)])),(cZ (.st (.t 5) (.t 19) 5)),(aO 6 20)]) (.seq (.rg [(aj 22 (.call (.c (.fn 8 [])) [(.c (.str [70,79,79]))])),(av 21 22),(aj 23 (.ext (.t 21) 0)),(aj 24 (.ext (.t 21) 1)),(aj 7 (.alloc [(.int .i64 0),(.str []),(.str []),(.str []),(.int .i64 0)])),(cZ (.st (.t 7) (.t 23) 5)),(aO 8 24)]) (.seq (.sem (erase th)) .ret))))))
theorem Ga:bL Tryz.prog 7 60 [(.tmp 0)] (erase F9):=⟨Tryz.f7,_,rfl,by decide,rfl,by kernel_rfl,rfl,rfl⟩
abbrev yR:List Nat:=[0,1,2,4,6,8]
def pO (F:Nat) (r2:Int) (r1:aC) (r4:Int) (r6:Int) (r8:Int):Option (Bool):=
 (if (decide (r2=0)) then
  (if (decide (r1.kind=3)) then
   (if (decide (r1.size=12)) then
    (if (decide (r1.path.ak=([97]:List UInt8))) then
     (if (decide (r4=501)) then
      (if (decide (r6=555)) then
       (if (decide (r8=500)) then
        (mN F r1).bind fun dR=>
        some (decide (dR=([77,65,73,76,32,70,82,79,77,58,60,97,64,98,62,32,83,73,90,69,61,49,50]:List UInt8)))
       else
        some false)
      else
       some false)
     else
      some false)
    else
     some false)
   else
    some false)
  else
   some false)
 else
  some false)
def jd (F:Nat):Option (Bool):=
 (cV F ([109,97,105,108,32,70,82,79,77,58,60,97,64,98,62,32,83,73,90,69,61,49,50,32,32]:List UInt8)).bind fun (r1,r2)=>
 (cV F ([82,67,80,84,32,84,79,58,60,62]:List UInt8)).bind fun (r3,r4)=>
 (cV F ([77,65,73,76,32,70,82,79,77,58,60,97,64,98,62,32,66,79,68,89,61,56,66,73,84]:List UInt8)).bind fun (r5,r6)=>
 (cV F ([70,79,79]:List UInt8)).bind fun (r7,r8)=>(pO F r2 r1 r4 r6 r8).bind fun t12=>
 some t12
theorem Aw {F:Nat} {r2:Int} {r1:aC} {r4:Int} {r6:Int} {r8:Int} {q9:Nat} {H0 H:AH} (hfr:Fr H0 H0.length [] H) (ai:H[q9]? =some [(.int .i64 r1.kind),(.str r1.arg),(.str r1.path.ak),(.str r1.path.domain),(.int .i64 r1.size)]) (dB:H0.length≤q9) {K:Exit→Env→AH→Prop} {t11:Bool}
 (h:pO F r2 r1 r4 r6 r8=some t11)
 (kn:∀H':AH,Fr H0 H0.length [] H'→H'[q9]? =some [(.int .i64 r1.kind),(.str r1.arg),(.str r1.path.ak),(.str r1.path.domain),(.int .i64 r1.size)]→K .normal [(0,(.bool t11))] H'):
 AX Tryz.prog yR 60 H0.length (erase th) K [(0,(.bool false)),(1,(.ptr q9 0)),(2,(.int .i64 r2)),(4,(.int .i64 r4)),(6,(.int .i64 r6)),(8,(.int .i64 r8))] H:=by
 refine bY fun K' hK=> ?_
 have hle:=hfr.le
 have aL:=aN ai
 rw [pO.eq_1] at h
 refine ax ai ?_
 refine bT h (fun bJ h=> ?_) fun bJ h=> ?_
 · refine ax (aA bJ ai) ?_
   refine bT h (fun ck h=> ?_) fun ck h=> ?_
   · refine ax (aA ck ai) ?_
     refine bT h (fun cF h=> ?_) fun cF h=> ?_
     · refine ax (aA cF ai) ?_
       refine bT h (fun cv h=> ?_) fun cv h=> ?_
       · refine ax (aA cv ai) ?_
         refine bT h (fun cM h=> ?_) fun cM h=> ?_
         · refine ax (aA cM ai) ?_
           refine bT h (fun cc h=> ?_) fun cc h=> ?_
           · refine ax (aA cc ai) ?_
             refine bT h (fun cx h=> ?_) fun cx h=> ?_
             · refine ax (aA cx ai) ?_
               obtain ⟨dR,cN,h⟩:=au h
               refine bw aq (uN cN) ?_
               refine ax ai ?_
               obtain rfl:=aD h
               exact hK _ _ _ _ _ aK aq (kn _ hfr (ai.trans rfl))
             · refine ax (aA cx ai) ?_
               obtain rfl:=aD h
               exact hK _ _ _ _ _ aK aq (kn _ hfr (ai.trans rfl))
           · refine ax (aA cc ai) ?_
             obtain rfl:=aD h
             exact hK _ _ _ _ _ aK aq (kn _ hfr (ai.trans rfl))
         · refine ax (aA cM ai) ?_
           obtain rfl:=aD h
           exact hK _ _ _ _ _ aK aq (kn _ hfr (ai.trans rfl))
       · refine ax (aA cv ai) ?_
         obtain rfl:=aD h
         exact hK _ _ _ _ _ aK aq (kn _ hfr (ai.trans rfl))
     · refine ax (aA cF ai) ?_
       obtain rfl:=aD h
       exact hK _ _ _ _ _ aK aq (kn _ hfr (ai.trans rfl))
   · refine ax (aA ck ai) ?_
     obtain rfl:=aD h
     exact hK _ _ _ _ _ aK aq (kn _ hfr (ai.trans rfl))
 · refine ax (aA bJ ai) ?_
   obtain rfl:=aD h
   exact hK _ _ _ _ _ aK aq (kn _ hfr (ai.trans rfl))
theorem pP {F:Nat} {H0:AH} {aS:Bool} (h:jd F=some aS):
 aG Tryz.prog 7 [] H0 fun v H'=>v=(.bool aS)∧H'=H0:=by
 refine lN Ga yR [] fun hcl K0 aP H hH hfr=> ?_
 clear hH
 have hle:=hfr.le
 rw [jd.eq_1] at h
 refine cj ?_
 obtain ⟨⟨r1,r2⟩,hy1,h⟩:=au h
 dsimp only at h
 refine bw aq (cC hy1) ?_
 refine cj ?_
 obtain ⟨⟨r3,r4⟩,hy2,h⟩:=au h
 dsimp only at h
 refine bw aq (cC hy2) ?_
 refine cj ?_
 obtain ⟨⟨r5,r6⟩,hy3,h⟩:=au h
 dsimp only at h
 refine bw aq (cC hy3) ?_
 refine cj ?_
 obtain ⟨⟨r7,r8⟩,hy4,h⟩:=au h
 dsimp only at h
 refine bw aq (cC hy4) ?_
 refine cj ?_
 obtain ⟨q9,adE⟩:∃q:Nat,H.length=q:=⟨_,rfl⟩
 try rw [adE]
 obtain ⟨t12,cI,h⟩:=au h
 refine bA aq (Aw (q9:=q9) (b6 _ (Fr.app (b6 _ (Fr.app (b6 _ (Fr.app (b6 _ (Fr.app hfr)))))))) (gq (lU (gq (lU (gq (lU cL)))))) bU cI ?_)
 intro H hfr ai
 have hle:=hfr.le
 have aL:=aN ai
 refine ax ai ?_
 obtain rfl:=aD h
 exact aP _ _ _ bh (aR hfr hcl (aU aZ (.bool t12)) bf aW ⟨rfl,rfl⟩)
abbrev tj:az:=(.rg [(av 13 3),(av 14 4),(aj 15 (.pI 1 (.t 13) (.t 14))),(aj 16 (.ld (.t 15) none)),(aj 17 (.bin .geq (.t 16) (.c (b8 65)))),(av 18 17),(ay 19 (.mv (.t 3)) 18 true),(ay 20 (.mv (.t 4)) 18 true),(ay 21 (.pI 1 (.t 19) (.t 20)) 18 true),(ay 22 (.ld (.t 21) none) 18 true),(ay 23 (.bin .leq (.t 22) (.c (b8 90))) 18 true),(aj 24 (.pick (.t 18) (.t 23) (.c (.bool false))))])
abbrev rF:az:=(.seq (.seq (.rg [(av 7 4),(av 8 3),(aj 9 (.len (.t 8))),(aj 10 (.bin .lss (.t 7) (.t 9)))]) (.cond (.t 10) .skip (.exit 0))) (.seq (.blk 1 (.seq (.sem (erase tj)) (.cond (.t 24) (.rg [(av 25 3),(av 26 4),(av 27 3),(av 28 4),(aj 29 (.pI 1 (.t 27) (.t 28))),(aj 30 (.ld (.t 29) none)),(aj 31 (.bin .add (.t 30) (.c (b8 32)))),(aj 32 (.pI 1 (.t 25) (.t 26))),(cZ (.st (.t 32) (.t 31) 1))]) .skip))) (.rg [(av 11 4),(aj 12 (.bin .add (.t 11) (.c (.int .i64 1)))),(aO 4 12)])))
abbrev Gb:az:=(.seq (.rg [(aj 2 (.aT (.c (.str []))))]) (.seq (.rg [(av 5 0),(aj 6 (.qC (.t 5))),(aO 3 6)]) (.seq (.seq (.rg [(aj 4 (.aT (.c (.int .i64 0))))]) (.blk 0 (.loop (erase rF)))) (.seq (.rg [(av 33 3),(aj 34 (.iT .bs (.t 33))),(aO 2 34)]) .ret))))
theorem Gc:bL Tryz.prog 27 35 [(.tmp 2)] (erase Gb):=⟨Tryz.f27,_,rfl,by decide,rfl,by kernel_rfl,rfl,rfl⟩
abbrev rG:List Nat:=[0,2,3,4,10,24]
def jq (s1:List UInt8) (i3:Int) (s4:List UInt8):Option (Bool):=
 (zE s1.length i3).bind fun j6=>
 (s4[j6]?).bind fun x7=>
 (if (decide (65≤x7)) then
  some (decide (x7≤90))
 else
  some false)
def fH (s1:List UInt8):(Int×(List UInt8))→Option (St (List UInt8) (List UInt8) (Int×(List UInt8)))
 |(i3,s4)=>
  (if (decide (i3<(s1.length:Int))) then
   (jq s1 i3 s4).bind fun t9=>
   (if t9 then
    (zE s1.length i3).bind fun j10=>
    (s4[j10]?).bind fun ig=>
    (FN s4 j10 (ig+32)).bind fun bn=>some (.cA ((IntKind.wrap .i64 (i3+1)),bn))
   else
    some (.cA ((IntKind.wrap .i64 (i3+1)),s4)))
  else
   some (.dQ s4))
def kW (F:Nat) (s1:List UInt8):Option ((List UInt8)):=
 ((iter (fH s1) F (0,s1)).bind fun ML=>
 match ML with
 | .inr ij=>
   (sub ij 0 (s1.length:Int)).bind fun n9=>some n9
 | .inl _=>none)
theorem Ax {s1:List UInt8} {i3:Int} {s4:List UInt8} {q5:Nat} {H0 H:AH} (hfr:Fr H0 H0.length [] H) (ai:H[q5]? =some (ml b8 s4)) (dB:H0.length≤q5) {K:Exit→Env→AH→Prop} {t8:Bool}
 (h:jq s1 i3 s4=some t8)
 (kn:∀H':AH,Fr H0 H0.length [] H'→H'[q5]? =some (ml b8 s4)→K .normal [(3,(.cE q5 1 0 s1.length)),(4,(.int .i64 i3)),(24,(.bool t8))] H'):
 AX Tryz.prog rG 35 H0.length (erase tj) K [(3,(.cE q5 1 0 s1.length)),(4,(.int .i64 i3))] H:=by
 refine bY fun K' hK=> ?_
 have hle:=hfr.le
 have aL:=aN ai
 rw [jq.eq_1] at h
 obtain ⟨j6,hy2,h⟩:=au h
 obtain ⟨x7,hy3,h⟩:=au h
 refine ax (aA hy2 (aA hy3 ai)) ?_
 refine bT h (fun hy4 h=> ?_) fun hy4 h=> ?_
 · refine ax (aA hy4 (aA hy2 (aA hy3 ai))) ?_
   obtain rfl:=aD h
   exact hK _ _ _ _ _ aK aq (kn _ hfr (ai.trans rfl))
 · refine ax (aA hy4 ai) ?_
   obtain rfl:=aD h
   exact hK _ _ _ _ _ aK aq (kn _ hfr (ai.trans rfl))
theorem Ay {F:Nat} {i3:Int} {s1:List UInt8} {s4:List UInt8} {q2:Nat} {H0 H:AH} (hfr:Fr H0 H0.length [] H) (ai:H[q2]? =some (ml b8 s4)) (dB:H0.length≤q2) {K:Exit→Env→AH→Prop} {o:((List UInt8))⊕((List UInt8))}
 (h:iter (fH s1) F (i3,s4)=some o)
 (dz:∀o':(List UInt8),o= .inr o'→∀H':AH,Fr H0 H0.length [] H'→H'[q2]? =some (ml b8 o')→K (.exit 0) [(3,(.cE q2 1 0 s1.length))] H'):
 AX Tryz.prog rG 35 H0.length (.loop (erase rF)) K [(3,(.cE q2 1 0 s1.length)),(4,(.int .i64 i3))] H:=by
 refine iE (fun s e H1=>match s with|(i3,s4)=>e=[(3,(.cE q2 1 0 s1.length)),(4,(.int .i64 i3))]∧Fr H0 H0.length [] H1∧H1[q2]? =some (ml b8 s4)) h ⟨rfl,hfr,ai⟩ ?_
 rintro K' ⟨i3,s4⟩ st e H ⟨rfl,hfr,ai⟩ h hN hB hR hX
 have hle:=hfr.le
 have aL:=aN ai
 rw [fH.eq_1] at h
 refine ax ai ?_
 refine bk h (fun hy1 h=> ?_) fun hy1 h=> ?_
 · refine ax ai ?_
   obtain ⟨t9,bJ,h⟩:=au h
   refine bA aq (Ax (q5:=q2) hfr (ai.trans rfl) bU bJ ?_)
   intro H hfr ai
   have hle:=hfr.le
   have aL:=aN ai
   refine ax ai ?_
   refine bk h (fun ck h=> ?_) fun ck h=> ?_
   · obtain ⟨j10,cF,h⟩:=au h
     obtain ⟨ig,cv,h⟩:=au h
     obtain ⟨bn,cM,h⟩:=au h
     refine ax (aA cF (aA cv (aA cF (aA cM ai)))) ?_
     obtain rfl:=aD h
     exact hN _ rfl _ _ _ _ aK aq ⟨rfl,(b6 _ hfr),cL⟩
   · refine ax ai ?_
     obtain rfl:=aD h
     exact hN _ rfl _ _ _ _ aK aq ⟨rfl,hfr,(ai.trans rfl)⟩
 · refine ax ai ?_
   obtain rfl:=aD h
   exact hX _ _ _ _ _ dH aK aq (dz _ (hB _ rfl) _ hfr (ai.trans rfl))
theorem xh {F:Nat} {s1:List UInt8} {H0:AH} {aS:List UInt8} (h:kW F s1=some aS):
 aG Tryz.prog 27 [(.str s1)] H0 fun v H'=>v=(.str aS)∧H'=H0:=by
 refine lN Gc rG [] fun hcl K0 aP H hH hfr=> ?_
 clear hH
 have hle:=hfr.le
 rw [kW.eq_1] at h
 refine cj ?_
 obtain ⟨q2,hO⟩:∃q:Nat,H.length=q:=⟨_,rfl⟩
 try rw [hO]
 obtain ⟨ML,cc,h⟩:=au h
 refine bA aq (Ay (q2:=q2) (Fr.app hfr) pJ bU cc ?_)
 · rintro ij rfl H hfr ai
   try dsimp only at h ai
   have hle:=hfr.le
   have aL:=aN ai
   refine cj ?_
   obtain ⟨n9,cx,h⟩:=au h
   refine ax (aA cx ai) ?_
   obtain rfl:=aD h
   exact aP _ _ _ bh (aR hfr hcl (aU aZ (.str n9)) bf aW ⟨rfl,rfl⟩)
abbrev tq:az:=(.seq (.seq (.rg [(av 6 4),(av 7 3),(aj 8 (.len (.t 7))),(aj 9 (.bin .lss (.t 6) (.t 8)))]) (.cond (.t 9) .skip (.exit 0))) (.seq (.blk 1 (.seq (.rg [(av 12 3),(av 13 4),(aj 14 (.pI 1 (.t 12) (.t 13))),(aj 15 (.ld (.t 14) none)),(av 16 0),(aj 17 (.bin .eql (.t 15) (.t 16)))]) (.cond (.t 17) (.seq (.rg [(av 18 4),(aO 2 18)]) .ret) .skip))) (.rg [(av 10 4),(aj 11 (.bin .add (.t 10) (.c (.int .i64 1)))),(aO 4 11)])))
abbrev Ie:az:=(.seq (.rg [(aj 2 (.aT (.c (.int .i64 0))))]) (.seq (.rg [(aj 5 (.pH 1 [(.c (.str [])),(.c (.str [104,101,108,111])),(.c (.str [101,104,108,111])),(.c (.str [109,97,105,108])),(.c (.str [114,99,112,116])),(.c (.str [100,97,116,97])),(.c (.str [114,115,101,116])),(.c (.str [110,111,111,112])),(.c (.str [113,117,105,116])),(.c (.str [118,114,102,121]))])),(aO 3 5)]) (.seq (.seq (.rg [(aj 4 (.aT (.c (.int .i64 1))))]) (.blk 0 (.loop (erase tq)))) (.seq (.rg [(aj 2 (.aT (.c (.int .i64 0))))]) .ret))))
theorem Ig:bL Tryz.prog 26 19 [(.tmp 2)] (erase Ie):=⟨Tryz.f26,_,rfl,by decide,rfl,by kernel_rfl,rfl,rfl⟩
abbrev Ad:List Nat:=[0,2,3,4,9,17]
def iG (w1:List UInt8):(Int×Int)→Option (St Int Unit (Int×Int))
 |(t2,i3)=>
  (if (decide (i3<((10:Nat):Int))) then
   (idx ([([]:List UInt8),([104,101,108,111]:List UInt8),([101,104,108,111]:List UInt8),([109,97,105,108]:List UInt8),([114,99,112,116]:List UInt8),([100,97,116,97]:List UInt8),([114,115,101,116]:List UInt8),([110,111,111,112]:List UInt8),([113,117,105,116]:List UInt8),([118,114,102,121]:List UInt8)]:List (List UInt8)) i3).bind fun x4=>
   (if (decide (x4=w1)) then
    some (.ret i3)
   else
    some (.cA (t2,(IntKind.wrap .i64 (i3+1)))))
  else
   some (.dQ ()))
def oU (F:Nat) (w1:List UInt8):Option (Int):=
 ((iter (iG w1) F (0,1)).bind fun o7=>
 match o7 with
 | .inr ()=>
   some 0
 | .inl r6=>
   some r6)
theorem B9 {F:Nat} {i3:Int} {w1:List UInt8} {t2:Int} {H:AH} {K:Exit→Env→AH→Prop} {o:(Int)⊕(Unit)}
 (h:iter (iG w1) F (t2,i3)=some o)
 (dz:∀o':Unit,o= .inr o'→K (.exit 0) [] H)
 (kr:∀o':Int,o= .inl o'→K .ret [(2,(.int .i64 o'))] H):
 AX Tryz.prog Ad 19 H.length (.loop (erase tq)) K [(0,(.str w1)),(2,(.int .i64 t2)),(3,(.sl .ex 1 [(.str ([]:List UInt8)),(.str ([104,101,108,111]:List UInt8)),(.str ([101,104,108,111]:List UInt8)),(.str ([109,97,105,108]:List UInt8)),(.str ([114,99,112,116]:List UInt8)),(.str ([100,97,116,97]:List UInt8)),(.str ([114,115,101,116]:List UInt8)),(.str ([110,111,111,112]:List UInt8)),(.str ([113,117,105,116]:List UInt8)),(.str ([118,114,102,121]:List UInt8))])),(4,(.int .i64 i3))] H:=by
 refine iE (fun s e H1=>match s with|(t2,i3)=>e=[(0,(.str w1)),(2,(.int .i64 t2)),(3,(.sl .ex 1 [(.str ([]:List UInt8)),(.str ([104,101,108,111]:List UInt8)),(.str ([101,104,108,111]:List UInt8)),(.str ([109,97,105,108]:List UInt8)),(.str ([114,99,112,116]:List UInt8)),(.str ([100,97,116,97]:List UInt8)),(.str ([114,115,101,116]:List UInt8)),(.str ([110,111,111,112]:List UInt8)),(.str ([113,117,105,116]:List UInt8)),(.str ([118,114,102,121]:List UInt8))])),(4,(.int .i64 i3))]∧H1=H) h ⟨rfl,rfl⟩ ?_
 rintro K' ⟨t2,i3⟩ st e H ⟨rfl,rfl⟩ h hN hB hR hX
 rw [iG.eq_1] at h
 refine aF ?_
 refine bk h (fun hy1 h=> ?_) fun hy1 h=> ?_
 · obtain ⟨x4,hy2,h⟩:=au h
   have hy3:idx [(.str ([]:List UInt8)),(.str ([104,101,108,111]:List UInt8)),(.str ([101,104,108,111]:List UInt8)),(.str ([109,97,105,108]:List UInt8)),(.str ([114,99,112,116]:List UInt8)),(.str ([100,97,116,97]:List UInt8)),(.str ([114,115,101,116]:List UInt8)),(.str ([110,111,111,112]:List UInt8)),(.str ([113,117,105,116]:List UInt8)),(.str ([118,114,102,121]:List UInt8))] i3=some (AV.str x4):=Kh (f:=AV.str) hy2
   refine aY hy3 ?_
   refine bk h (fun hy4 h=> ?_) fun hy4 h=> ?_
   · refine aF ?_
     obtain rfl:=aD h
     exact hX _ _ _ _ _ dH aK aq (kr _ (hR _ rfl))
   · refine aF ?_
     obtain rfl:=aD h
     exact hN _ rfl _ _ _ _ aK aq ⟨rfl,rfl⟩
 · refine aF ?_
   obtain rfl:=aD h
   exact hX _ _ _ _ _ dH WE.nil aq (dz _ (hB _ rfl))
theorem Gd {F:Nat} {w1:List UInt8} {H0:AH} {aS:Int} (h:oU F w1=some aS):
 aG Tryz.prog 26 [(.str w1)] H0 fun v H'=>v=(.int .i64 aS)∧H'=H0:=by
 refine gr Ig Ad fun hcl K0 aP=> ?_
 rw [oU.eq_1] at h
 refine aF ?_
 obtain ⟨o7,bJ,h⟩:=au h
 refine bA aq (B9 bJ ?_ ?_)
 · rintro ⟨⟩ rfl
   try dsimp only at h
   refine aF ?_
   obtain rfl:=aD h
   exact aP _ _ _ bh (aM hcl (aU aZ (.int .i64 0)) bf aW ⟨rfl,rfl⟩)
 · rintro r6 rfl
   try dsimp only at h
   refine aF ?_
   obtain rfl:=aD h
   exact aP _ _ _ bh (aM hcl (aU aZ (.int .i64 r6)) bf aW ⟨rfl,rfl⟩)
abbrev tr:az:=(.rg [(av 3 0),(aj 4 (.bin .geq (.t 3) (.c (b8 48)))),(av 5 4),(ay 6 (.mv (.t 0)) 5 true),(ay 7 (.bin .leq (.t 6) (.c (b8 57))) 5 true),(aj 8 (.pick (.t 5) (.t 7) (.c (.bool false)))),(aO 2 8)])
abbrev Ge:az:=(.seq (.rg [(aj 2 (.aT (.c (.bool false))))]) (.seq (.sem (erase tr)) .ret))
theorem Gf:bL Tryz.prog 74 9 [(.tmp 2)] (erase Ge):=⟨Tryz.f74,_,rfl,by decide,rfl,by kernel_rfl,rfl,rfl⟩
abbrev yS:List Nat:=[0,2]
def ga (c1:UInt8):Option (Bool):=
 some ((decide (48≤c1))&&(decide (c1≤57)))
theorem Az {c1:UInt8} {H:AH} {K:Exit→Env→AH→Prop}
 (kn:K .normal [(2,(.bool ((decide (48≤c1))&&(decide (c1≤57)))))] H):
 AX Tryz.prog yS 9 H.length (erase tr) K [(0,(b8 c1)),(2,(.bool false))] H:=by
 refine bY fun K' hK=> ?_
 refine aF ?_
 refine gG (fun hy1=> ?_) fun hy1=> ?_
 · refine aY hy1 ?_
   exact hK _ _ _ _ _ (dj hy1) aq kn
 · refine aY hy1 ?_
   exact hK _ _ _ _ _ (dj hy1) aq kn
theorem jr {c1:UInt8} {H0:AH} {aS:Bool} (h:ga c1=some aS):
 aG Tryz.prog 74 [(b8 c1)] H0 fun v H'=>v=(.bool aS)∧H'=H0:=by
 refine gr Gf yS fun hcl K0 aP=> ?_
 rw [ga.eq_1] at h
 refine aF ?_
 refine bA aq (Az (c1:=c1) ?_)
 refine aF ?_
 obtain rfl:=aD h
 exact aP _ _ _ bh (aM hcl (aU aZ (.bool ((decide (48≤c1))&&(decide (c1≤57))))) bf aW ⟨rfl,rfl⟩)
abbrev tu:az:=(.rg [(av 5 0),(aj 6 (.bin .eql (.t 5) (.c (.str [])))),(av 7 6),(ay 8 (.mv (.t 0)) 7 false),(ay 9 (.lens (.t 8)) 7 false),(ay 10 (.bin .gtr (.t 9) (.c (.int .i64 3))) 7 false),(aj 11 (.pick (.t 7) (.c (.bool true)) (.t 10))),(av 12 11),(ay 13 (.mv (.t 0)) 12 false),(ay 14 (.ixs (.t 13) (.c (.int .i64 0))) 12 false),(ay 15 (.bin .eql (.t 14) (.c (b8 48))) 12 false),(ay 16 (.mv (.t 15)) 12 false),(ay 17 (.mv (.t 0)) 16 true),(ay 18 (.lens (.t 17)) 16 true),(ay 19 (.bin .gtr (.t 18) (.c (.int .i64 1))) 16 true),(ay 20 (.pick (.t 16) (.t 19) (.c (.bool false))) 12 false),(aj 21 (.pick (.t 12) (.c (.bool true)) (.t 20)))])
abbrev rH:az:=(.seq (.seq (.rg [(av 22 4),(av 23 0),(aj 24 (.lens (.t 23))),(aj 25 (.bin .lss (.t 22) (.t 24)))]) (.cond (.t 25) .skip (.exit 0))) (.seq (.blk 1 (.seq (.seq (.rg [(av 28 0),(av 29 4),(aj 30 (.ixs (.t 28) (.t 29))),(aj 31 (.call (.c (.fn 74 [])) [(.t 30)])),(aj 32 (.un .not (.t 31)))]) (.cond (.t 32) (.seq (.rg [(aj 2 (.aT (.c (.bool false))))]) .ret) .skip)) (.rg [(av 33 3),(aj 34 (.bin .mul (.c (.int .i64 10)) (.t 33))),(av 35 0),(av 36 4),(aj 37 (.ixs (.t 35) (.t 36))),(aj 38 (.bin .sub (.t 37) (.c (b8 48)))),(aj 39 (.iT (.int .i64) (.t 38))),(aj 40 (.bin .add (.t 34) (.t 39))),(aO 3 40)]))) (.rg [(av 26 4),(aj 27 (.bin .add (.t 26) (.c (.int .i64 1)))),(aO 4 27)])))
abbrev Gg:az:=(.seq (.rg [(aj 2 (.aT (.c (.bool false))))]) (.seq (.seq (.sem (erase tu)) (.cond (.t 21) (.seq (.rg [(aj 2 (.aT (.c (.bool false))))]) .ret) .skip)) (.seq (.rg [(aj 3 (.aT (.c (.int .i64 0))))]) (.seq (.seq (.rg [(aj 4 (.aT (.c (.int .i64 0))))]) (.blk 0 (.loop (erase rH)))) (.seq (.rg [(av 41 3),(aj 42 (.bin .leq (.t 41) (.c (.int .i64 255)))),(aO 2 42)]) .ret)))))
theorem Gh:bL Tryz.prog 48 43 [(.tmp 2)] (erase Gg):=⟨Tryz.f48,_,rfl,by decide,rfl,by kernel_rfl,rfl,rfl⟩
abbrev rI:List Nat:=[0,2,3,4,21,25,32]
def fI (s1:List UInt8):Option (Bool):=
 (if (decide (s1=([]:List UInt8))) then
  some true
 else
  (if (decide (3<(s1.length:Int))) then
   some true
  else
   (idx s1 0).bind fun x2=>
   (if (decide (x2=48)) then
    some (decide (1<(s1.length:Int)))
   else
    some false)))
def gM (s1:List UInt8):(Int×Int)→Option (St Bool Int (Int×Int))
 |(MV,i6)=>
  (if (decide (i6<(s1.length:Int))) then
   (idx s1 i6).bind fun x7=>
   (ga x7).bind fun r8=>
   (if (!r8) then
    some (.ret false)
   else
    some (.cA ((IntKind.wrap .i64 ((IntKind.wrap .i64 (10*MV))+(IntKind.wrap .i64 ((x7 - 48).toNat:Int)))),(IntKind.wrap .i64 (i6+1)))))
  else
   some (.dQ MV))
def fA (F:Nat) (s1:List UInt8):Option (Bool):=
 (fI s1).bind fun t4=>
 (if t4 then
  some false
 else
  ((iter (gM s1) F (0,0)).bind fun X7=>
  match X7 with
  | .inr vi=>
    some (decide (vi≤255))
  | .inl jQ=>
    some jQ))
theorem AA {s1:List UInt8} {H:AH} {K:Exit→Env→AH→Prop} {t3:Bool}
 (h:fI s1=some t3)
 (kn:K .normal [(0,(.str s1)),(21,(.bool t3))] H):
 AX Tryz.prog rI 43 H.length (erase tu) K [(0,(.str s1))] H:=by
 refine bY fun K' hK=> ?_
 rw [fI.eq_1] at h
 refine aF ?_
 refine bT h (fun hy1 h=> ?_) fun hy1 h=> ?_
 · refine aY hy1 ?_
   obtain rfl:=aD h
   exact hK _ _ _ _ _ aK aq kn
 · refine aY hy1 ?_
   refine bT h (fun hy2 h=> ?_) fun hy2 h=> ?_
   · refine aY hy2 ?_
     obtain rfl:=aD h
     exact hK _ _ _ _ _ aK aq kn
   · obtain ⟨x2,hy3,h⟩:=au h
     refine aY (aA hy2 hy3) ?_
     refine bT h (fun hy4 h=> ?_) fun hy4 h=> ?_
     · refine aY hy4 ?_
       obtain rfl:=aD h
       exact hK _ _ _ _ _ aK aq kn
     · refine aY hy4 ?_
       obtain rfl:=aD h
       exact hK _ _ _ _ _ aK aq kn
theorem AB {F:Nat} {i6:Int} {s1:List UInt8} {MV:Int} {H:AH} {K:Exit→Env→AH→Prop} {o:(Bool)⊕(Int)}
 (h:iter (gM s1) F (MV,i6)=some o)
 (dz:∀o':Int,o= .inr o'→K (.exit 0) [(3,(.int .i64 o'))] H)
 (kr:∀o':Bool,o= .inl o'→K .ret [(2,(.bool o'))] H):
 AX Tryz.prog rI 43 H.length (.loop (erase rH)) K [(0,(.str s1)),(3,(.int .i64 MV)),(4,(.int .i64 i6))] H:=by
 refine iE (fun s e H1=>match s with|(MV,i6)=>e=[(0,(.str s1)),(3,(.int .i64 MV)),(4,(.int .i64 i6))]∧H1=H) h ⟨rfl,rfl⟩ ?_
 rintro K' ⟨MV,i6⟩ st e H ⟨rfl,rfl⟩ h hN hB hR hX
 rw [gM.eq_1] at h
 refine aF ?_
 refine bk h (fun cF h=> ?_) fun cF h=> ?_
 · obtain ⟨x7,cv,h⟩:=au h
   refine aY cv ?_
   obtain ⟨r8,cM,h⟩:=au h
   refine bw aq (jr cM) ?_
   refine aF ?_
   refine bk h (fun cc h=> ?_) fun cc h=> ?_
   · refine aF ?_
     obtain rfl:=aD h
     exact hX _ _ _ _ _ dH aK aq (kr _ (hR _ rfl))
   · refine aY cv ?_
     obtain rfl:=aD h
     exact hN _ rfl _ _ _ _ aK aq ⟨rfl,rfl⟩
 · refine aF ?_
   obtain rfl:=aD h
   exact hX _ _ _ _ _ dH aK aq (dz _ (hB _ rfl))
theorem EH {F:Nat} {s1:List UInt8} {H0:AH} {aS:Bool} (h:fA F s1=some aS):
 aG Tryz.prog 48 [(.str s1)] H0 fun v H'=>v=(.bool aS)∧H'=H0:=by
 refine gr Gh rI fun hcl K0 aP=> ?_
 rw [fA.eq_1] at h
 refine aF ?_
 obtain ⟨t4,bJ,h⟩:=au h
 refine bA aq (AA bJ ?_)
 refine aF ?_
 refine bk h (fun ck h=> ?_) fun ck h=> ?_
 · refine aF ?_
   obtain rfl:=aD h
   exact aP _ _ _ bh (aM hcl (aU aZ (.bool false)) bf aW ⟨rfl,rfl⟩)
 · refine aF ?_
   obtain ⟨X7,cx,h⟩:=au h
   refine bA aq (AB cx ?_ ?_)
   · rintro vi rfl
     try dsimp only at h
     refine aF ?_
     obtain rfl:=aD h
     exact aP _ _ _ bh (aM hcl (aU aZ (.bool (decide (vi≤255)))) bf aW ⟨rfl,rfl⟩)
   · rintro jQ rfl
     try dsimp only at h
     refine aF ?_
     obtain rfl:=aD h
     exact aP _ _ _ bh (aM hcl (aU aZ (.bool jQ)) bf aW ⟨rfl,rfl⟩)
abbrev rJ:az:=(.rg [(av 3 0),(aj 4 (.bin .geq (.t 3) (.c (b8 65)))),(av 5 4),(ay 6 (.mv (.t 0)) 5 true),(ay 7 (.bin .leq (.t 6) (.c (b8 90))) 5 true),(aj 8 (.pick (.t 5) (.t 7) (.c (.bool false)))),(av 9 8),(ay 10 (.mv (.t 0)) 9 false),(ay 11 (.bin .geq (.t 10) (.c (b8 97))) 9 false),(ay 12 (.mv (.t 11)) 9 false),(ay 13 (.mv (.t 0)) 12 true),(ay 14 (.bin .leq (.t 13) (.c (b8 122))) 12 true),(ay 15 (.pick (.t 12) (.t 14) (.c (.bool false))) 9 false),(aj 16 (.pick (.t 9) (.c (.bool true)) (.t 15))),(aO 2 16)])
abbrev EI:az:=(.seq (.rg [(aj 2 (.aT (.c (.bool false))))]) (.seq (.sem (erase rJ)) .ret))
theorem EJ:bL Tryz.prog 75 17 [(.tmp 2)] (erase EI):=⟨Tryz.f75,_,rfl,by decide,rfl,by kernel_rfl,rfl,rfl⟩
abbrev xj:List Nat:=[0,2]
def gm (c1:UInt8):Option (Bool):=
 some (((decide (65≤c1))&&(decide (c1≤90)))||((decide (97≤c1))&&(decide (c1≤122))))
theorem zM {c1:UInt8} {H:AH} {K:Exit→Env→AH→Prop}
 (kn:K .normal [(2,(.bool (((decide (65≤c1))&&(decide (c1≤90)))||((decide (97≤c1))&&(decide (c1≤122))))))] H):
 AX Tryz.prog xj 17 H.length (erase rJ) K [(0,(b8 c1)),(2,(.bool false))] H:=by
 refine bY fun K' hK=> ?_
 refine aF ?_
 refine gG (fun hy1=> ?_) fun hy1=> ?_
 · refine aY hy1 ?_
   refine gG (fun hy2=> ?_) fun hy2=> ?_
   · refine aY hy2 ?_
     exact hK _ _ _ _ _ (dj (aA hy1 hy2)) aq kn
   · refine aY hy2 ?_
     refine gG (fun hy3=> ?_) fun hy3=> ?_
     · refine aY hy3 ?_
       exact hK _ _ _ _ _ (dj (aA hy1 (aA hy2 hy3))) aq kn
     · refine aY hy3 ?_
       exact hK _ _ _ _ _ (dj (aA hy1 (aA hy2 hy3))) aq kn
 · refine aY hy1 ?_
   refine gG (fun hy4=> ?_) fun hy4=> ?_
   · refine aY hy4 ?_
     exact hK _ _ _ _ _ (dj (aA hy1 hy4)) aq kn
   · refine aY hy4 ?_
     exact hK _ _ _ _ _ (dj (aA hy1 hy4)) aq kn
theorem kX {c1:UInt8} {H0:AH} {aS:Bool} (h:gm c1=some aS):
 aG Tryz.prog 75 [(b8 c1)] H0 fun v H'=>v=(.bool aS)∧H'=H0:=by
 refine gr EJ xj fun hcl K0 aP=> ?_
 rw [gm.eq_1] at h
 refine aF ?_
 refine bA aq (zM (c1:=c1) ?_)
 refine aF ?_
 obtain rfl:=aD h
 exact aP _ _ _ bh (aM hcl (aU aZ (.bool (((decide (65≤c1))&&(decide (c1≤90)))||((decide (97≤c1))&&(decide (c1≤122)))))) bf aW ⟨rfl,rfl⟩)
abbrev tw:az:=(.rg [(av 4 0),(aj 5 (.bin .eql (.t 4) (.c (.str [])))),(av 6 5),(ay 7 (.mv (.t 0)) 6 false),(ay 8 (.lens (.t 7)) 6 false),(ay 9 (.bin .gtr (.t 8) (.c (.int .i64 63))) 6 false),(aj 10 (.pick (.t 6) (.c (.bool true)) (.t 9))),(av 11 10),(ay 12 (.mv (.t 0)) 11 false),(ay 13 (.ixs (.t 12) (.c (.int .i64 0))) 11 false),(ay 14 (.bin .eql (.t 13) (.c (b8 45))) 11 false),(aj 15 (.pick (.t 11) (.c (.bool true)) (.t 14))),(av 16 15),(ay 17 (.mv (.t 0)) 16 false),(ay 18 (.mv (.t 0)) 16 false),(ay 19 (.lens (.t 18)) 16 false),(ay 20 (.bin .sub (.t 19) (.c (.int .i64 1))) 16 false),(ay 21 (.ixs (.t 17) (.t 20)) 16 false),(ay 22 (.bin .eql (.t 21) (.c (b8 45))) 16 false),(aj 23 (.pick (.t 16) (.c (.bool true)) (.t 22)))])
abbrev tA:az:=(.rg [(av 30 0),(av 31 3),(aj 32 (.ixs (.t 30) (.t 31))),(aj 33 (.call (.c (.fn 75 [])) [(.t 32)])),(aj 34 (.un .not (.t 33))),(av 35 34),(ay 36 (.mv (.t 0)) 35 true),(ay 37 (.mv (.t 3)) 35 true),(ay 38 (.ixs (.t 36) (.t 37)) 35 true),(ay 39 (.call (.c (.fn 74 [])) [(.t 38)]) 35 true),(ay 40 (.un .not (.t 39)) 35 true),(aj 41 (.pick (.t 35) (.t 40) (.c (.bool false)))),(av 42 41),(ay 43 (.mv (.t 0)) 42 true),(ay 44 (.mv (.t 3)) 42 true),(ay 45 (.ixs (.t 43) (.t 44)) 42 true),(ay 46 (.bin .neq (.t 45) (.c (b8 45))) 42 true),(aj 47 (.pick (.t 42) (.t 46) (.c (.bool false))))])
abbrev rK:az:=(.seq (.seq (.rg [(av 24 3),(av 25 0),(aj 26 (.lens (.t 25))),(aj 27 (.bin .lss (.t 24) (.t 26)))]) (.cond (.t 27) .skip (.exit 0))) (.seq (.blk 1 (.seq (.sem (erase tA)) (.cond (.t 47) (.seq (.rg [(aj 2 (.aT (.c (.bool false))))]) .ret) .skip))) (.rg [(av 28 3),(aj 29 (.bin .add (.t 28) (.c (.int .i64 1)))),(aO 3 29)])))
abbrev Gi:az:=(.seq (.rg [(aj 2 (.aT (.c (.bool false))))]) (.seq (.seq (.sem (erase tw)) (.cond (.t 23) (.seq (.rg [(aj 2 (.aT (.c (.bool false))))]) .ret) .skip)) (.seq (.seq (.rg [(aj 3 (.aT (.c (.int .i64 0))))]) (.blk 0 (.loop (erase rK)))) (.seq (.rg [(aj 2 (.aT (.c (.bool true))))]) .ret))))
theorem Gj:bL Tryz.prog 49 48 [(.tmp 2)] (erase Gi):=⟨Tryz.f49,_,rfl,by decide,rfl,by kernel_rfl,rfl,rfl⟩
abbrev nL:List Nat:=[0,2,3,23,27,47]
def mq (s1:List UInt8):Option (Bool):=
 (if (decide (s1=([]:List UInt8))) then
  some true
 else
  (if (decide (63<(s1.length:Int))) then
   some true
  else
   (idx s1 0).bind fun x2=>
   (if (decide (x2=45)) then
    some true
   else
    (idx s1 (IntKind.wrap .i64 ((s1.length:Int) - 1))).bind fun x3=>some (decide (x3=45)))))
def js (s1:List UInt8) (i6:Int):Option (Bool):=
 (idx s1 i6).bind fun x7=>
 (gm x7).bind fun r8=>
 (if (!r8) then
  (ga x7).bind fun r9=>(if (!r9) then
   some (!decide (x7=45))
  else
   some false)
 else
  some false)
def fJ (s1:List UInt8):Int→Option (St Bool Unit Int)
 |i6=>
  (if (decide (i6<(s1.length:Int))) then
   (js s1 i6).bind fun t11=>
   (if t11 then
    some (.ret false)
   else
    some (.cA (IntKind.wrap .i64 (i6+1))))
  else
   some (.dQ ()))
def nM (F:Nat) (s1:List UInt8):Option (Bool):=
 (mq s1).bind fun t5=>
 (if t5 then
  some false
 else
  ((iter (fJ s1) F 0).bind fun o14=>
  match o14 with
  | .inr ()=>
    some true
  | .inl mM=>
    some mM))
theorem AD {s1:List UInt8} {H:AH} {K:Exit→Env→AH→Prop} {t4:Bool}
 (h:mq s1=some t4)
 (kn:K .normal [(0,(.str s1)),(23,(.bool t4))] H):
 AX Tryz.prog nL 48 H.length (erase tw) K [(0,(.str s1))] H:=by
 refine bY fun K' hK=> ?_
 rw [mq.eq_1] at h
 refine aF ?_
 refine bT h (fun hy1 h=> ?_) fun hy1 h=> ?_
 · refine aY hy1 ?_
   obtain rfl:=aD h
   exact hK _ _ _ _ _ aK aq kn
 · refine aY hy1 ?_
   refine bT h (fun hy2 h=> ?_) fun hy2 h=> ?_
   · refine aY hy2 ?_
     obtain rfl:=aD h
     exact hK _ _ _ _ _ aK aq kn
   · obtain ⟨x2,hy3,h⟩:=au h
     refine aY (aA hy2 hy3) ?_
     refine bT h (fun hy4 h=> ?_) fun hy4 h=> ?_
     · refine aY hy4 ?_
       obtain rfl:=aD h
       exact hK _ _ _ _ _ aK aq kn
     · obtain ⟨x3,bJ,h⟩:=au h
       refine aY (aA hy4 bJ) ?_
       obtain rfl:=aD h
       exact hK _ _ _ _ _ aK aq kn
theorem AE {s1:List UInt8} {i6:Int} {H:AH} {K:Exit→Env→AH→Prop} {t10:Bool}
 (h:js s1 i6=some t10)
 (kn:K .normal [(0,(.str s1)),(3,(.int .i64 i6)),(47,(.bool t10))] H):
 AX Tryz.prog nL 48 H.length (erase tA) K [(0,(.str s1)),(3,(.int .i64 i6))] H:=by
 refine bY fun K' hK=> ?_
 rw [js.eq_1] at h
 obtain ⟨x7,cM,h⟩:=au h
 refine aY cM ?_
 obtain ⟨r8,cc,h⟩:=au h
 refine bw aq (kX cc) ?_
 refine aF ?_
 refine bT h (fun cx h=> ?_) fun cx h=> ?_
 · refine aY (aA cx cM) ?_
   obtain ⟨r9,cN,h⟩:=au h
   refine bw aq (jr cN) ?_
   refine aF ?_
   refine bT h (fun cI h=> ?_) fun cI h=> ?_
   · refine aY (aA cI cM) ?_
     obtain rfl:=aD h
     exact hK _ _ _ _ _ aK aq kn
   · refine aY cI ?_
     obtain rfl:=aD h
     exact hK _ _ _ _ _ aK aq kn
 · refine aY cx ?_
   obtain rfl:=aD h
   exact hK _ _ _ _ _ aK aq kn
theorem AF {F:Nat} {i6:Int} {s1:List UInt8} {H:AH} {K:Exit→Env→AH→Prop} {o:(Bool)⊕(Unit)}
 (h:iter (fJ s1) F i6=some o)
 (dz:∀o':Unit,o= .inr o'→K (.exit 0) [] H)
 (kr:∀o':Bool,o= .inl o'→K .ret [(2,(.bool o'))] H):
 AX Tryz.prog nL 48 H.length (.loop (erase rK)) K [(0,(.str s1)),(3,(.int .i64 i6))] H:=by
 refine iE (fun s e H1=>match s with|i6=>e=[(0,(.str s1)),(3,(.int .i64 i6))]∧H1=H) h ⟨rfl,rfl⟩ ?_
 rintro K' i6 st e H ⟨rfl,rfl⟩ h hN hB hR hX
 rw [fJ.eq_1] at h
 refine aF ?_
 refine bk h (fun cv h=> ?_) fun cv h=> ?_
 · refine aF ?_
   obtain ⟨t11,dD,h⟩:=au h
   refine bA aq (AE dD ?_)
   refine aF ?_
   refine bk h (fun eM h=> ?_) fun eM h=> ?_
   · refine aF ?_
     obtain rfl:=aD h
     exact hX _ _ _ _ _ dH aK aq (kr _ (hR _ rfl))
   · refine aF ?_
     obtain rfl:=aD h
     exact hN _ rfl _ _ _ _ aK aq ⟨rfl,rfl⟩
 · refine aF ?_
   obtain rfl:=aD h
   exact hX _ _ _ _ _ dH WE.nil aq (dz _ (hB _ rfl))
theorem EL {F:Nat} {s1:List UInt8} {H0:AH} {aS:Bool} (h:nM F s1=some aS):
 aG Tryz.prog 49 [(.str s1)] H0 fun v H'=>v=(.bool aS)∧H'=H0:=by
 refine gr Gj nL fun hcl K0 aP=> ?_
 rw [nM.eq_1] at h
 refine aF ?_
 obtain ⟨t5,ck,h⟩:=au h
 refine bA aq (AD ck ?_)
 refine aF ?_
 refine bk h (fun cF h=> ?_) fun cF h=> ?_
 · refine aF ?_
   obtain rfl:=aD h
   exact aP _ _ _ bh (aM hcl (aU aZ (.bool false)) bf aW ⟨rfl,rfl⟩)
 · refine aF ?_
   obtain ⟨o14,dM,h⟩:=au h
   refine bA aq (AF dM ?_ ?_)
   · rintro ⟨⟩ rfl
     try dsimp only at h
     refine aF ?_
     obtain rfl:=aD h
     exact aP _ _ _ bh (aM hcl (aU aZ (.bool true)) bf aW ⟨rfl,rfl⟩)
   · rintro mM rfl
     try dsimp only at h
     refine aF ?_
     obtain rfl:=aD h
     exact aP _ _ _ bh (aM hcl (aU aZ (.bool mM)) bf aW ⟨rfl,rfl⟩)
abbrev rL:az:=(.rg [(av 7 0),(aj 8 (.bin .eql (.t 7) (.c (.str [])))),(av 9 8),(ay 10 (.mv (.t 0)) 9 false),(ay 11 (.lens (.t 10)) 9 false),(ay 12 (.bin .gtr (.t 11) (.c (.int .i64 255))) 9 false),(aj 13 (.pick (.t 9) (.c (.bool true)) (.t 12)))])
abbrev rM:az:=(.rg [(av 18 0),(av 19 0),(aj 20 (.lens (.t 19))),(aj 21 (.bin .sub (.t 20) (.c (.int .i64 1)))),(aj 22 (.ixs (.t 18) (.t 21))),(aj 23 (.bin .neq (.t 22) (.c (b8 93)))),(av 24 23),(ay 25 (.mv (.t 0)) 24 false),(ay 26 (.lens (.t 25)) 24 false),(ay 27 (.bin .lss (.t 26) (.c (.int .i64 2))) 24 false),(aj 28 (.pick (.t 24) (.c (.bool true)) (.t 27)))])
abbrev rN:az:=(.cond (.t 17) (.seq (.seq (.sem (erase rM)) (.cond (.t 28) (.seq (.rg [(aj 2 (.aT (.c (.bool false))))]) .ret) .skip)) (.rg [(av 29 0),(av 30 0),(aj 31 (.lens (.t 30))),(aj 32 (.bin .sub (.t 31) (.c (.int .i64 1)))),(aj 33 (.iP (.t 29) (some (.c (.int .i64 1))) (some (.t 32)))),(aO 0 33)])) .skip)
abbrev rO:az:=(.rg [(av 40 6),(av 41 0),(aj 42 (.lens (.t 41))),(aj 43 (.bin .lss (.t 40) (.t 42))),(av 44 43),(ay 45 (.mv (.t 0)) 44 true),(ay 46 (.mv (.t 6)) 44 true),(ay 47 (.ixs (.t 45) (.t 46)) 44 true),(ay 48 (.bin .neq (.t 47) (.c (b8 46))) 44 true),(aj 49 (.pick (.t 44) (.t 48) (.c (.bool false))))])
abbrev rP:az:=(.rg [(av 50 3),(av 51 50),(ay 52 (.mv (.t 0)) 51 true),(ay 53 (.mv (.t 4)) 51 true),(ay 54 (.mv (.t 6)) 51 true),(ay 55 (.iP (.t 52) (some (.t 53)) (some (.t 54))) 51 true),(ay 56 (.call (.c (.fn 48 [])) [(.t 55)]) 51 true),(ay 57 (.un .not (.t 56)) 51 true),(aj 58 (.pick (.t 51) (.t 57) (.c (.bool false)))),(av 59 58),(ay 60 (.mv (.t 3)) 59 false),(ay 61 (.un .not (.t 60)) 59 false),(ay 62 (.mv (.t 61)) 59 false),(ay 63 (.mv (.t 0)) 62 true),(ay 64 (.mv (.t 4)) 62 true),(ay 65 (.mv (.t 6)) 62 true),(ay 66 (.iP (.t 63) (some (.t 64)) (some (.t 65))) 62 true),(ay 67 (.call (.c (.fn 49 [])) [(.t 66)]) 62 true),(ay 68 (.un .not (.t 67)) 62 true),(ay 69 (.pick (.t 62) (.t 68) (.c (.bool false))) 59 false),(aj 70 (.pick (.t 59) (.c (.bool true)) (.t 69)))])
abbrev pX:az:=(.seq (.seq (.rg [(av 34 6),(av 35 0),(aj 36 (.lens (.t 35))),(aj 37 (.bin .leq (.t 34) (.t 36)))]) (.cond (.t 37) .skip (.exit 0))) (.seq (.blk 1 (.seq (.seq (.sem (erase rO)) (.cond (.t 49) (.exit 1) .skip)) (.seq (.seq (.sem (erase rP)) (.cond (.t 70) (.seq (.rg [(aj 2 (.aT (.c (.bool false))))]) .ret) .skip)) (.seq (.rg [(av 71 5),(aj 72 (.bin .add (.t 71) (.c (.int .i64 1)))),(aO 5 72)]) (.rg [(av 73 6),(aj 74 (.bin .add (.t 73) (.c (.int .i64 1)))),(aO 4 74)]))))) (.rg [(av 38 6),(aj 39 (.bin .add (.t 38) (.c (.int .i64 1)))),(aO 6 39)])))
abbrev rQ:az:=(.rg [(av 75 3),(aj 76 (.un .not (.t 75))),(av 77 76),(ay 78 (.mv (.t 5)) 77 false),(ay 79 (.bin .eql (.t 78) (.c (.int .i64 4))) 77 false),(aj 80 (.pick (.t 77) (.c (.bool true)) (.t 79))),(aO 2 80)])
abbrev EM:az:=(.seq (.rg [(aj 2 (.aT (.c (.bool false))))]) (.seq (.seq (.sem (erase rL)) (.cond (.t 13) (.seq (.rg [(aj 2 (.aT (.c (.bool false))))]) .ret) .skip)) (.seq (.rg [(av 14 0),(aj 15 (.ixs (.t 14) (.c (.int .i64 0)))),(aj 16 (.bin .eql (.t 15) (.c (b8 91)))),(aO 3 16)]) (.seq (.seq (.rg [(av 17 3)]) (.sem (erase rN))) (.seq (.rg [(aj 4 (.aT (.c (.int .i64 0))))]) (.seq (.rg [(aj 5 (.aT (.c (.int .i64 0))))]) (.seq (.seq (.rg [(aj 6 (.aT (.c (.int .i64 0))))]) (.blk 0 (.loop (erase pX)))) (.seq (.sem (erase rQ)) .ret))))))))
theorem EN:bL Tryz.prog 28 81 [(.tmp 2)] (erase EM):=⟨Tryz.f28,_,rfl,by decide,rfl,by kernel_rfl,rfl,rfl⟩
abbrev eU:List Nat:=[0,2,3,4,5,6,13,17,28,37,49,70]
def kY (s1:List UInt8):Option (Bool):=
 (idx s1 (IntKind.wrap .i64 ((s1.length:Int) - 1))).bind fun x3=>
 (if (!decide (x3=93)) then
  some true
 else
  some (decide ((s1.length:Int)<2)))
def iH (x2:UInt8) (s1:List UInt8):Option (St Bool Unit (List UInt8)):=
 (if (decide (x2=91)) then
  (kY s1).bind fun t5=>
  (if t5 then
   some (.ret false)
  else
   (sub s1 1 (IntKind.wrap .i64 ((s1.length:Int) - 1))).bind fun x6=>some (.cA x6))
 else
  some (.cA s1))
def fm (i12:Int) (s9:List UInt8):Option (Bool):=
 (if (decide (i12<(s9.length:Int))) then
  (idx s9 i12).bind fun iu=>some (!decide (iu=46))
 else
  some false)
def iI (F:Nat) (x2:UInt8) (s9:List UInt8) (nN:Int) (i12:Int):Option (Bool):=
 (if (decide (x2=91)) then
  (sub s9 nN i12).bind fun jl=>
  (fA F jl).bind fun zL=>(if (!zL) then
   some true
  else
   some false)
 else
  (sub s9 nN i12).bind fun Ey=>(nM F Ey).bind fun lO=>some (!lO))
def cJ (F:Nat) (s9:List UInt8) (x2:UInt8):(Int×Int×Int)→Option (St Bool Int (Int×Int×Int))
 |(nN,eN,i12)=>
  (if (decide (i12≤(s9.length:Int))) then
   (fm i12 s9).bind fun t15=>
   (if t15 then
    some (.cA (nN,eN,(IntKind.wrap .i64 (i12+1))))
   else
    (iI F x2 s9 nN i12).bind fun t21=>
    (if t21 then
     some (.ret false)
    else
     some (.cA ((IntKind.wrap .i64 (i12+1)),(IntKind.wrap .i64 (eN+1)),(IntKind.wrap .i64 (i12+1))))))
  else
   some (.dQ eN))
def dF (F:Nat) (s1:List UInt8):Option (Bool):=
 (if ((decide (s1=([]:List UInt8)))||(decide (255<(s1.length:Int)))) then
  some false
 else
  (idx s1 0).bind fun x2=>
  ((iH x2 s1).bind fun X8=>
  match X8 with
  | .cA s9=>
    ((iter (cJ F s9 x2) F (0,0,0)).bind fun X9=>
    match X9 with
    | .inr oV=>
      some ((!(decide (x2=91)))||(decide (oV=4)))
    | .inl ob=>
      some ob)
  | .ret r27=>
    some r27
  | .dQ _=>none))
theorem zN {s1:List UInt8} {H:AH} {K:Exit→Env→AH→Prop}
 (kn:K .normal [(0,(.str s1)),(13,(.bool ((decide (s1=([]:List UInt8)))||(decide (255<(s1.length:Int))))))] H):
 AX Tryz.prog eU 81 H.length (erase rL) K [(0,(.str s1))] H:=by
 refine bY fun K' hK=> ?_
 refine aF ?_
 refine gG (fun hy1=> ?_) fun hy1=> ?_
 · refine aY hy1 ?_
   exact hK _ _ _ _ _ (dj hy1) aq kn
 · refine aY hy1 ?_
   exact hK _ _ _ _ _ (dj hy1) aq kn
theorem zO {s1:List UInt8} {x2:UInt8} {H:AH} {K:Exit→Env→AH→Prop} {t4:Bool}
 (h:kY s1=some t4)
 (kn:K .normal [(0,(.str s1)),(3,(.bool (decide (x2=91)))),(28,(.bool t4))] H):
 AX Tryz.prog eU 81 H.length (erase rM) K [(0,(.str s1)),(3,(.bool (decide (x2=91))))] H:=by
 refine bY fun K' hK=> ?_
 rw [kY.eq_1] at h
 obtain ⟨x3,bJ,h⟩:=au h
 refine aY bJ ?_
 refine bT h (fun ck h=> ?_) fun ck h=> ?_
 · refine aY ck ?_
   obtain rfl:=aD h
   exact hK _ _ _ _ _ aK aq kn
 · refine aY ck ?_
   obtain rfl:=aD h
   exact hK _ _ _ _ _ aK aq kn
theorem zP {x2:UInt8} {s1:List UInt8} {H:AH} {K:Exit→Env→AH→Prop} {o:St Bool Unit (List UInt8)}
 (h:iH x2 s1=some o)
 (kn:∀o':(List UInt8),o= .cA o'→K .normal [(0,(.str o')),(3,(.bool (decide (x2=91))))] H)
 (kr:∀o':Bool,o= .ret o'→K .ret [(2,(.bool o'))] H):
 AX Tryz.prog eU 81 H.length (erase rN) K [(0,(.str s1)),(3,(.bool (decide (x2=91)))),(17,(.bool (decide (x2=91))))] H:=by
 refine bY fun K' hK=> ?_
 rw [iH.eq_1] at h
 refine aF ?_
 refine bk h (fun hy4 h=> ?_) fun hy4 h=> ?_
 · refine aF ?_
   obtain ⟨t5,cF,h⟩:=au h
   refine bA aq (zO (x2:=x2) cF ?_)
   refine aF ?_
   refine bk h (fun cv h=> ?_) fun cv h=> ?_
   · refine aF ?_
     obtain rfl:=aD h
     exact hK _ _ _ _ _ aK aq (kr _ rfl)
   · obtain ⟨x6,cM,h⟩:=au h
     refine aY cM ?_
     obtain rfl:=aD h
     exact hK _ _ _ _ _ aK aq (kn _ rfl)
 · refine aF ?_
   obtain rfl:=aD h
   exact hK _ _ _ _ _ aK aq (kn _ rfl)
theorem zQ {i12:Int} {s9:List UInt8} {x2:UInt8} {nN:Int} {eN:Int} {H:AH} {K:Exit→Env→AH→Prop} {t14:Bool}
 (h:fm i12 s9=some t14)
 (kn:K .normal [(0,(.str s9)),(3,(.bool (decide (x2=91)))),(4,(.int .i64 nN)),(5,(.int .i64 eN)),(6,(.int .i64 i12)),(49,(.bool t14))] H):
 AX Tryz.prog eU 81 H.length (erase rO) K [(0,(.str s9)),(3,(.bool (decide (x2=91)))),(4,(.int .i64 nN)),(5,(.int .i64 eN)),(6,(.int .i64 i12))] H:=by
 refine bY fun K' hK=> ?_
 rw [fm.eq_1] at h
 refine aF ?_
 refine bT h (fun cN h=> ?_) fun cN h=> ?_
 · obtain ⟨iu,cI,h⟩:=au h
   refine aY (aA cN cI) ?_
   obtain rfl:=aD h
   exact hK _ _ _ _ _ aK aq kn
 · refine aY cN ?_
   obtain rfl:=aD h
   exact hK _ _ _ _ _ aK aq kn
theorem zR {F:Nat} {x2:UInt8} {s9:List UInt8} {nN:Int} {i12:Int} {eN:Int} {H:AH} {K:Exit→Env→AH→Prop} {t20:Bool}
 (h:iI F x2 s9 nN i12=some t20)
 (kn:K .normal [(0,(.str s9)),(3,(.bool (decide (x2=91)))),(5,(.int .i64 eN)),(6,(.int .i64 i12)),(70,(.bool t20))] H):
 AX Tryz.prog eU 81 H.length (erase rP) K [(0,(.str s9)),(3,(.bool (decide (x2=91)))),(4,(.int .i64 nN)),(5,(.int .i64 eN)),(6,(.int .i64 i12))] H:=by
 refine bY fun K' hK=> ?_
 rw [iI.eq_1] at h
 refine aF ?_
 refine bT h (fun dM h=> ?_) fun dM h=> ?_
 · obtain ⟨jl,gi,h⟩:=au h
   refine aY (aA dM gi) ?_
   obtain ⟨zL,fS,h⟩:=au h
   refine bw aq (EH fS) ?_
   refine aF ?_
   refine bT h (fun fC h=> ?_) fun fC h=> ?_
   · refine aY fC ?_
     obtain rfl:=aD h
     exact hK _ _ _ _ _ (dj (aA dM fC)) aq kn
   · refine aY fC ?_
     obtain rfl:=aD h
     exact hK _ _ _ _ _ (dj (aA dM fC)) aq kn
 · obtain ⟨Ey,eA,h⟩:=au h
   refine aY (aA dM eA) ?_
   obtain ⟨lO,eT,h⟩:=au h
   refine bw aq (EL eT) ?_
   refine aF ?_
   obtain rfl:=aD h
   exact hK _ _ _ _ _ (dj dM) aq kn
theorem zS {F:Nat} {i12:Int} {s9:List UInt8} {nN:Int} {eN:Int} {x2:UInt8} {H:AH} {K:Exit→Env→AH→Prop} {o:(Bool)⊕(Int)}
 (h:iter (cJ F s9 x2) F (nN,eN,i12)=some o)
 (dz:∀o':Int,o= .inr o'→K (.exit 0) [(3,(.bool (decide (x2=91)))),(5,(.int .i64 o'))] H)
 (kr:∀o':Bool,o= .inl o'→K .ret [(2,(.bool o'))] H):
 AX Tryz.prog eU 81 H.length (.loop (erase pX)) K [(0,(.str s9)),(3,(.bool (decide (x2=91)))),(4,(.int .i64 nN)),(5,(.int .i64 eN)),(6,(.int .i64 i12))] H:=by
 refine iE (fun s e H1=>match s with|(nN,eN,i12)=>e=[(0,(.str s9)),(3,(.bool (decide (x2=91)))),(4,(.int .i64 nN)),(5,(.int .i64 eN)),(6,(.int .i64 i12))]∧H1=H) h ⟨rfl,rfl⟩ ?_
 rintro K' ⟨nN,eN,i12⟩ st e H ⟨rfl,rfl⟩ h hN hB hR hX
 rw [cJ.eq_1] at h
 refine aF ?_
 refine bk h (fun cx h=> ?_) fun cx h=> ?_
 · refine aF ?_
   obtain ⟨t15,dD,h⟩:=au h
   refine bA aq (zQ (x2:=x2) (nN:=nN) (eN:=eN) dD ?_)
   refine aF ?_
   refine bk h (fun eM h=> ?_) fun eM h=> ?_
   · refine aF ?_
     obtain rfl:=aD h
     exact hN _ rfl _ _ _ _ aK aq ⟨rfl,rfl⟩
   · refine aF ?_
     obtain ⟨t21,fT,h⟩:=au h
     refine bA aq (zR (eN:=eN) fT ?_)
     refine aF ?_
     refine bk h (fun jo h=> ?_) fun jo h=> ?_
     · refine aF ?_
       obtain rfl:=aD h
       exact hX _ _ _ _ _ dH aK aq (kr _ (hR _ rfl))
     · refine aF ?_
       obtain rfl:=aD h
       exact hN _ rfl _ _ _ _ aK aq ⟨rfl,rfl⟩
 · refine aF ?_
   obtain rfl:=aD h
   exact hX _ _ _ _ _ dH aK aq (dz _ (hB _ rfl))
theorem zT {x2:UInt8} {oV:Int} {H:AH} {K:Exit→Env→AH→Prop}
 (kn:K .normal [(2,(.bool ((!(decide (x2=91)))||(decide (oV=4)))))] H):
 AX Tryz.prog eU 81 H.length (erase rQ) K [(3,(.bool (decide (x2=91)))),(5,(.int .i64 oV))] H:=by
 refine bY fun K' hK=> ?_
 refine aF ?_
 refine gG (fun iF=> ?_) fun iF=> ?_
 · refine aY iF ?_
   exact hK _ _ _ _ _ (dj iF) aq kn
 · refine aY iF ?_
   exact hK _ _ _ _ _ (dj iF) aq kn
theorem oA {F:Nat} {s1:List UInt8} {H0:AH} {aS:Bool} (h:dF F s1=some aS):
 aG Tryz.prog 28 [(.str s1)] H0 fun v H'=>v=(.bool aS)∧H'=H0:=by
 refine gr EN eU fun hcl K0 aP=> ?_
 rw [dF.eq_1] at h
 refine aF ?_
 refine bA aq (zN (s1:=s1) ?_)
 refine aF ?_
 refine bk h (fun hy2 h=> ?_) fun hy2 h=> ?_
 · refine aF ?_
   obtain rfl:=aD h
   exact aP _ _ _ bh (aM hcl (aU aZ (.bool false)) bf aW ⟨rfl,rfl⟩)
 · obtain ⟨x2,hy3,h⟩:=au h
   refine aY hy3 ?_
   obtain ⟨X8,cc,h⟩:=au h
   refine bA aq (zP cc ?_ ?_)
   · rintro s9 rfl
     try dsimp only at h
     refine aF ?_
     obtain ⟨X9,ie,h⟩:=au h
     refine bA aq (zS ie ?_ ?_)
     · rintro oV rfl
       try dsimp only at h
       refine aF ?_
       refine bA aq (zT (x2:=x2) (oV:=oV) ?_)
       refine aF ?_
       obtain rfl:=aD h
       exact aP _ _ _ bh (aM hcl (aU aZ (.bool ((!(decide (x2=91)))||(decide (oV=4))))) bf aW ⟨rfl,rfl⟩)
     · rintro ob rfl
       try dsimp only at h
       refine aF ?_
       obtain rfl:=aD h
       exact aP _ _ _ bh (aM hcl (aU aZ (.bool ob)) bf aW ⟨rfl,rfl⟩)
   · rintro r27 rfl
     try dsimp only at h
     refine aF ?_
     obtain rfl:=aD h
     exact aP _ _ _ bh (aM hcl (aU aZ (.bool r27)) bf aW ⟨rfl,rfl⟩)
abbrev tB:az:=(.rg [(av 5 0),(aj 6 (.lens (.t 5))),(av 7 1),(aj 8 (.lens (.t 7))),(aj 9 (.bin .geq (.t 6) (.t 8))),(av 10 9),(ay 11 (.mv (.t 0)) 10 true),(ay 12 (.mv (.t 1)) 10 true),(ay 13 (.lens (.t 12)) 10 true),(ay 14 (.iP (.t 11) none (some (.t 13))) 10 true),(ay 15 (.call (.c (.fn 27 [])) [(.t 14)]) 10 true),(ay 16 (.mv (.t 1)) 10 true),(ay 17 (.bin .eql (.t 15) (.t 16)) 10 true),(aj 18 (.pick (.t 10) (.t 17) (.c (.bool false)))),(aO 4 18)])
abbrev Gk:az:=(.seq (.rg [(aj 4 (.aT (.c (.bool false))))]) (.seq (.sem (erase tB)) .ret))
theorem Gl:bL Tryz.prog 50 19 [(.tmp 4)] (erase Gk):=⟨Tryz.f50,_,rfl,by decide,rfl,by kernel_rfl,rfl,rfl⟩
abbrev yT:List Nat:=[0,1,4]
def mu (F:Nat) (rR:List UInt8) (s1:List UInt8):Option (Bool):=
 (if (decide ((rR.length:Int)≤(s1.length:Int))) then
  (sub s1 0 (rR.length:Int)).bind fun x3=>(kW F x3).bind fun r4=>some (decide (r4=rR))
 else
  some false)
def kZ (F:Nat) (s1:List UInt8) (rR:List UInt8):Option (Bool):=
 (mu F rR s1).bind fun t6=>
 some t6
theorem AG {F:Nat} {rR:List UInt8} {s1:List UInt8} {H:AH} {K:Exit→Env→AH→Prop} {t5:Bool}
 (h:mu F rR s1=some t5)
 (kn:K .normal [(4,(.bool t5))] H):
 AX Tryz.prog yT 19 H.length (erase tB) K [(0,(.str s1)),(1,(.str rR)),(4,(.bool false))] H:=by
 refine bY fun K' hK=> ?_
 rw [mu.eq_1] at h
 refine aF ?_
 refine bT h (fun hy1 h=> ?_) fun hy1 h=> ?_
 · obtain ⟨x3,hy2,h⟩:=au h
   refine aY (aA hy1 hy2) ?_
   obtain ⟨r4,hy3,h⟩:=au h
   refine bw aq (xh hy3) ?_
   refine aF ?_
   obtain rfl:=aD h
   exact hK _ _ _ _ _ aK aq kn
 · refine aY hy1 ?_
   obtain rfl:=aD h
   exact hK _ _ _ _ _ aK aq kn
theorem xk {F:Nat} {s1:List UInt8} {rR:List UInt8} {H0:AH} {aS:Bool} (h:kZ F s1 rR=some aS):
 aG Tryz.prog 50 [(.str s1),(.str rR)] H0 fun v H'=>v=(.bool aS)∧H'=H0:=by
 refine gr Gl yT fun hcl K0 aP=> ?_
 rw [kZ.eq_1] at h
 refine aF ?_
 obtain ⟨t6,hy4,h⟩:=au h
 refine bA aq (AG hy4 ?_)
 refine aF ?_
 obtain rfl:=aD h
 exact aP _ _ _ bh (aM hcl (aU aZ (.bool t6)) bf aW ⟨rfl,rfl⟩)
abbrev vm:az:=(.rg [(av 3 0),(aj 4 (.bin .neq (.t 3) (.c (.str [])))),(av 5 4),(ay 6 (.mv (.t 0)) 5 true),(ay 7 (.ixs (.t 6) (.c (.int .i64 0))) 5 true),(ay 8 (.bin .eql (.t 7) (.c (b8 32))) 5 true),(aj 9 (.pick (.t 5) (.t 8) (.c (.bool false))))])
abbrev tC:az:=(.seq (.seq (.sem (erase vm)) (.cond (.t 9) .skip (.exit 0))) (.blk 1 (.rg [(av 10 0),(aj 11 (.iP (.t 10) (some (.c (.int .i64 1))) none)),(aO 0 11)])))
abbrev Ih:az:=(.seq (.rg [(aj 2 (.aT (.c (.str []))))]) (.seq (.blk 0 (.loop (erase tC))) (.seq (.rg [(av 12 0),(aO 2 12)]) .ret)))
theorem Ii:bL Tryz.prog 52 13 [(.tmp 2)] (erase Ih):=⟨Tryz.f52,_,rfl,by decide,rfl,by kernel_rfl,rfl,rfl⟩
abbrev uO:List Nat:=[0,2,9]
def iJ (s2:List UInt8):Option (Bool):=
 (if (!decide (s2=([]:List UInt8))) then
  (idx s2 0).bind fun x3=>some (decide (x3=32))
 else
  some false)
def eO:(List UInt8)→Option (St (List UInt8) (List UInt8) (List UInt8))
 |s2=>
  (iJ s2).bind fun t5=>
  (if t5 then
   (sub s2 1 (s2.length:Int)).bind fun x6=>some (.cA x6)
  else
   some (.dQ s2))
def oW (F:Nat) (s1:List UInt8):Option ((List UInt8)):=
 ((iter eO F s1).bind fun o9=>
 match o9 with
 | .inr s8=>
   some s8
 | .inl _=>none)
theorem Ca {s2:List UInt8} {H:AH} {K:Exit→Env→AH→Prop} {t4:Bool}
 (h:iJ s2=some t4)
 (kn:K .normal [(0,(.str s2)),(9,(.bool t4))] H):
 AX Tryz.prog uO 13 H.length (erase vm) K [(0,(.str s2))] H:=by
 refine bY fun K' hK=> ?_
 rw [iJ.eq_1] at h
 refine aF ?_
 refine bT h (fun hy1 h=> ?_) fun hy1 h=> ?_
 · obtain ⟨x3,hy2,h⟩:=au h
   refine aY (aA hy1 hy2) ?_
   obtain rfl:=aD h
   exact hK _ _ _ _ _ aK aq kn
 · refine aY hy1 ?_
   obtain rfl:=aD h
   exact hK _ _ _ _ _ aK aq kn
theorem Cb {F:Nat} {s2:List UInt8} {H:AH} {K:Exit→Env→AH→Prop} {o:((List UInt8))⊕((List UInt8))}
 (h:iter eO F s2=some o)
 (dz:∀o':(List UInt8),o= .inr o'→K (.exit 0) [(0,(.str o'))] H):
 AX Tryz.prog uO 13 H.length (.loop (erase tC)) K [(0,(.str s2))] H:=by
 refine iE (fun s e H1=>match s with|s2=>e=[(0,(.str s2))]∧H1=H) h ⟨rfl,rfl⟩ ?_
 rintro K' s2 st e H ⟨rfl,rfl⟩ h hN hB hR hX
 rw [eO.eq_1] at h
 refine aF ?_
 obtain ⟨t5,hy3,h⟩:=au h
 refine bA aq (Ca hy3 ?_)
 refine aF ?_
 refine bk h (fun hy4 h=> ?_) fun hy4 h=> ?_
 · obtain ⟨x6,bJ,h⟩:=au h
   refine aY bJ ?_
   obtain rfl:=aD h
   exact hN _ rfl _ _ _ _ aK aq ⟨rfl,rfl⟩
 · refine aF ?_
   obtain rfl:=aD h
   exact hX _ _ _ _ _ dH aK aq (dz _ (hB _ rfl))
theorem Gm {F:Nat} {s1:List UInt8} {H0:AH} {aS:List UInt8} (h:oW F s1=some aS):
 aG Tryz.prog 52 [(.str s1)] H0 fun v H'=>v=(.str aS)∧H'=H0:=by
 refine gr Ii uO fun hcl K0 aP=> ?_
 rw [oW.eq_1] at h
 refine aF ?_
 obtain ⟨o9,ck,h⟩:=au h
 refine bA aq (Cb ck ?_)
 · rintro s8 rfl
   try dsimp only at h
   refine aF ?_
   obtain rfl:=aD h
   exact aP _ _ _ bh (aM hcl (aU aZ (.str s8)) bf aW ⟨rfl,rfl⟩)
abbrev rS:az:=(.rg ((av 4 3)::(av 5 0)::(aj 6 (.lens (.t 5)))::(aj 7 (.bin .lss (.t 4) (.t 6)))::(av 8 7)::(ay 9 (.mv (.t 0)) 8 true)::(ay 10 (.mv (.t 3)) 8 true)::(ay 11 (.ixs (.t 9) (.t 10)) 8 true)::(ay 12 (.call (.c (.fn 75 [])) [(.t 11)]) 8 true)::(ay 13 (.mv (.t 12)) 8 true)::(ay 14 (.mv (.t 0)) 13 false)::(ay 15 (.mv (.t 3)) 13 false)::(ay 16 (.ixs (.t 14) (.t 15)) 13 false)::(ay 17 (.call (.c (.fn 74 [])) [(.t 16)]) 13 false)::(ay 18 (.pick (.t 13) (.c (.bool true)) (.t 17)) 8 true)::(ay 19 (.mv (.t 18)) 8 true)::(ay 20 (.mv (.t 0)) 19 false)::(ay 21 (.mv (.t 3)) 19 false)::(ay 22 (.ixs (.t 20) (.t 21)) 19 false)::(ay 23 (.bin .eql (.t 22) (.c (b8 45))) 19 false)::(ay 24 (.pick (.t 19) (.c (.bool true)) (.t 23)) 8 true)::(ay 25 (.mv (.t 24)) 8 true)::(ay 26 (.mv (.t 0)) 25 false)::(ay 27 (.mv (.t 3)) 25 false)::(ay 28 (.ixs (.t 26) (.t 27)) 25 false)::(ay 29 (.bin .eql (.t 28) (.c (b8 46))) 25 false)::(ay 30 (.pick (.t 25) (.c (.bool true)) (.t 29)) 8 true)::(ay 31 (.mv (.t 30)) 8 true)::(ay 32 (.mv (.t 0)) 31 false)::(ay 33 (.mv (.t 3)) 31 false)::(ay 34 (.ixs (.t 32) (.t 33)) 31 false)::(ay 35 (.bin .eql (.t 34) (.c (b8 91))) 31 false)::(ay 36 (.pick (.t 31) (.c (.bool true)) (.t 35)) 8 true)::(ay 37 (.mv (.t 36)) 8 true)::(ay 38 (.mv (.t 0)) 37 false)::(ay 39 (.mv (.t 3)) 37 false)::(ay 40 (.ixs (.t 38) (.t 39)) 37 false)::(ay 41 (.bin .eql (.t 40) (.c (b8 93))) 37 false)::(ay 42 (.pick (.t 37) (.c (.bool true)) (.t 41)) 8 true)::(aj 43 (.pick (.t 8) (.t 42) (.c (.bool false))))::[]))
abbrev pY:az:=(.seq (.seq (.sem (erase rS)) (.cond (.t 43) .skip (.exit 0))) (.blk 1 (.rg [(av 44 3),(aj 45 (.bin .add (.t 44) (.c (.int .i64 1)))),(aO 3 45)])))
abbrev EO:az:=(.seq (.rg [(aj 2 (.aT (.c (.int .i64 0))))]) (.seq (.rg [(aj 3 (.aT (.c (.int .i64 0))))]) (.seq (.blk 0 (.loop (erase pY))) (.seq (.rg [(av 46 3),(aO 2 46)]) .ret))))
theorem EP:bL Tryz.prog 78 47 [(.tmp 2)] (erase EO):=⟨Tryz.f78,_,rfl,by decide,rfl,by kernel_rfl,rfl,rfl⟩
abbrev pQ:List Nat:=[0,2,3,43]
def iK (mZ:Int) (s1:List UInt8):Option (Bool):=
 (if (decide (mZ<(s1.length:Int))) then
  (idx s1 mZ).bind fun x3=>
  (gm x3).bind fun r4=>
  (if r4 then
   some true
  else
   (ga x3).bind fun r5=>
   (if r5 then
    some true
   else
    (if (decide (x3=45)) then
     some true
    else
     (if (decide (x3=46)) then
      some true
     else
      (if (decide (x3=91)) then
       some true
      else
       some (decide (x3=93)))))))
 else
  some false)
def fo (s1:List UInt8):Int→Option (St Int Int Int)
 |mZ=>
  (iK mZ s1).bind fun t7=>
  (if t7 then
   some (.cA (IntKind.wrap .i64 (mZ+1)))
  else
   some (.dQ mZ))
def jL (F:Nat) (s1:List UInt8):Option (Int):=
 ((iter (fo s1) F 0).bind fun MW=>
 match MW with
 | .inr Uk=>
   some Uk
 | .inl _=>none)
theorem zU {mZ:Int} {s1:List UInt8} {H:AH} {K:Exit→Env→AH→Prop} {t6:Bool}
 (h:iK mZ s1=some t6)
 (kn:K .normal [(0,(.str s1)),(3,(.int .i64 mZ)),(43,(.bool t6))] H):
 AX Tryz.prog pQ 47 H.length (erase rS) K [(0,(.str s1)),(3,(.int .i64 mZ))] H:=by
 refine bY fun K' hK=> ?_
 rw [iK.eq_1] at h
 refine aF ?_
 refine bT h (fun hy1 h=> ?_) fun hy1 h=> ?_
 · obtain ⟨x3,hy2,h⟩:=au h
   refine aY (aA hy1 hy2) ?_
   obtain ⟨r4,hy3,h⟩:=au h
   refine bw aq (kX hy3) ?_
   refine aF ?_
   refine bT h (fun hy4 h=> ?_) fun hy4 h=> ?_
   · refine aY hy4 ?_
     obtain rfl:=aD h
     exact hK _ _ _ _ _ aK aq kn
   · refine aY (aA hy4 hy2) ?_
     obtain ⟨r5,bJ,h⟩:=au h
     refine bw aq (jr bJ) ?_
     refine aF ?_
     refine bT h (fun ck h=> ?_) fun ck h=> ?_
     · refine aY ck ?_
       obtain rfl:=aD h
       exact hK _ _ _ _ _ aK aq kn
     · refine aY (aA ck hy2) ?_
       refine bT h (fun cF h=> ?_) fun cF h=> ?_
       · refine aY cF ?_
         obtain rfl:=aD h
         exact hK _ _ _ _ _ aK aq kn
       · refine aY (aA cF hy2) ?_
         refine bT h (fun cv h=> ?_) fun cv h=> ?_
         · refine aY cv ?_
           obtain rfl:=aD h
           exact hK _ _ _ _ _ aK aq kn
         · refine aY (aA cv hy2) ?_
           refine bT h (fun cM h=> ?_) fun cM h=> ?_
           · refine aY cM ?_
             obtain rfl:=aD h
             exact hK _ _ _ _ _ aK aq kn
           · refine aY (aA cM hy2) ?_
             obtain rfl:=aD h
             exact hK _ _ _ _ _ aK aq kn
 · refine aY hy1 ?_
   obtain rfl:=aD h
   exact hK _ _ _ _ _ aK aq kn
theorem zV {F:Nat} {mZ:Int} {s1:List UInt8} {H:AH} {K:Exit→Env→AH→Prop} {o:(Int)⊕(Int)}
 (h:iter (fo s1) F mZ=some o)
 (dz:∀o':Int,o= .inr o'→K (.exit 0) [(3,(.int .i64 o'))] H):
 AX Tryz.prog pQ 47 H.length (.loop (erase pY)) K [(0,(.str s1)),(3,(.int .i64 mZ))] H:=by
 refine iE (fun s e H1=>match s with|mZ=>e=[(0,(.str s1)),(3,(.int .i64 mZ))]∧H1=H) h ⟨rfl,rfl⟩ ?_
 rintro K' mZ st e H ⟨rfl,rfl⟩ h hN hB hR hX
 rw [fo.eq_1] at h
 refine aF ?_
 obtain ⟨t7,cc,h⟩:=au h
 refine bA aq (zU cc ?_)
 refine aF ?_
 refine bk h (fun cx h=> ?_) fun cx h=> ?_
 · refine aF ?_
   obtain rfl:=aD h
   exact hN _ rfl _ _ _ _ aK aq ⟨rfl,rfl⟩
 · refine aF ?_
   obtain rfl:=aD h
   exact hX _ _ _ _ _ dH aK aq (dz _ (hB _ rfl))
theorem vn {F:Nat} {s1:List UInt8} {H0:AH} {aS:Int} (h:jL F s1=some aS):
 aG Tryz.prog 78 [(.str s1)] H0 fun v H'=>v=(.int .i64 aS)∧H'=H0:=by
 refine gr EP pQ fun hcl K0 aP=> ?_
 rw [jL.eq_1] at h
 refine aF ?_
 obtain ⟨MW,cN,h⟩:=au h
 refine bA aq (zV cN ?_)
 · rintro Uk rfl
   try dsimp only at h
   refine aF ?_
   obtain rfl:=aD h
   exact aP _ _ _ bh (aM hcl (aU aZ (.int .i64 Uk)) bf aW ⟨rfl,rfl⟩)
abbrev tD:az:=(.rg [(av 9 0),(aj 10 (.bin .eql (.t 9) (.c (.str [])))),(av 11 10),(ay 12 (.mv (.t 0)) 11 false),(ay 13 (.ixs (.t 12) (.c (.int .i64 0))) 11 false),(ay 14 (.bin .eql (.t 13) (.c (b8 91))) 11 false),(aj 15 (.pick (.t 11) (.c (.bool true)) (.t 14)))])
abbrev tE:az:=(.rg [(av 22 4),(av 23 0),(aj 24 (.lens (.t 23))),(aj 25 (.bin .lss (.t 22) (.t 24))),(av 26 25),(ay 27 (.mv (.t 0)) 26 true),(ay 28 (.mv (.t 4)) 26 true),(ay 29 (.ixs (.t 27) (.t 28)) 26 true),(ay 30 (.bin .neq (.t 29) (.c (b8 46))) 26 true),(aj 31 (.pick (.t 26) (.t 30) (.c (.bool false))))])
abbrev tF:az:=(.rg [(av 36 5),(aj 37 (.bin .eql (.t 36) (.c (.str [])))),(av 38 37),(ay 39 (.mv (.t 5)) 38 false),(ay 40 (.ixs (.t 39) (.c (.int .i64 0))) 38 false),(ay 41 (.bin .eql (.t 40) (.c (b8 45))) 38 false),(aj 42 (.pick (.t 38) (.c (.bool true)) (.t 41))),(av 43 42),(ay 44 (.mv (.t 5)) 43 false),(ay 45 (.mv (.t 5)) 43 false),(ay 46 (.lens (.t 45)) 43 false),(ay 47 (.bin .sub (.t 46) (.c (.int .i64 1))) 43 false),(ay 48 (.ixs (.t 44) (.t 47)) 43 false),(ay 49 (.bin .eql (.t 48) (.c (b8 45))) 43 false),(aj 50 (.pick (.t 43) (.c (.bool true)) (.t 49)))])
abbrev tG:az:=(.rg [(av 57 5),(av 58 6),(aj 59 (.ixs (.t 57) (.t 58))),(aj 60 (.call (.c (.fn 75 [])) [(.t 59)])),(aj 61 (.un .not (.t 60))),(av 62 61),(ay 63 (.mv (.t 5)) 62 true),(ay 64 (.mv (.t 6)) 62 true),(ay 65 (.ixs (.t 63) (.t 64)) 62 true),(ay 66 (.call (.c (.fn 74 [])) [(.t 65)]) 62 true),(ay 67 (.un .not (.t 66)) 62 true),(aj 68 (.pick (.t 62) (.t 67) (.c (.bool false)))),(av 69 68),(ay 70 (.mv (.t 5)) 69 true),(ay 71 (.mv (.t 6)) 69 true),(ay 72 (.ixs (.t 70) (.t 71)) 69 true),(ay 73 (.bin .neq (.t 72) (.c (b8 45))) 69 true),(aj 74 (.pick (.t 69) (.t 73) (.c (.bool false))))])
abbrev rT:az:=(.seq (.seq (.rg [(av 51 6),(av 52 5),(aj 53 (.lens (.t 52))),(aj 54 (.bin .lss (.t 51) (.t 53)))]) (.cond (.t 54) .skip (.exit 2))) (.seq (.blk 3 (.seq (.sem (erase tG)) (.cond (.t 74) (.seq (.rg [(aj 2 (.aT (.c (.bool false))))]) .ret) .skip))) (.rg [(av 55 6),(aj 56 (.bin .add (.t 55) (.c (.int .i64 1)))),(aO 6 56)])))
abbrev rU:az:=(.seq (.seq (.rg [(av 16 4),(av 17 0),(aj 18 (.lens (.t 17))),(aj 19 (.bin .leq (.t 16) (.t 18)))]) (.cond (.t 19) .skip (.exit 0))) (.seq (.blk 1 (.seq (.seq (.sem (erase tE)) (.cond (.t 31) (.exit 1) .skip)) (.seq (.rg [(av 32 0),(av 33 3),(av 34 4),(aj 35 (.iP (.t 32) (some (.t 33)) (some (.t 34)))),(aO 5 35)]) (.seq (.seq (.sem (erase tF)) (.cond (.t 50) (.seq (.rg [(aj 2 (.aT (.c (.bool false))))]) .ret) .skip)) (.seq (.seq (.rg [(aj 6 (.aT (.c (.int .i64 0))))]) (.blk 2 (.loop (erase rT)))) (.rg [(av 75 4),(aj 76 (.bin .add (.t 75) (.c (.int .i64 1)))),(aO 3 76)])))))) (.rg [(av 20 4),(aj 21 (.bin .add (.t 20) (.c (.int .i64 1)))),(aO 4 21)])))
abbrev Gn:az:=(.seq (.rg [(aj 2 (.aT (.c (.bool false))))]) (.seq (.seq (.rg [(av 7 0),(aj 8 (.call (.c (.fn 28 [])) [(.t 7)]))]) (.cond (.t 8) (.seq (.rg [(aj 2 (.aT (.c (.bool true))))]) .ret) .skip)) (.seq (.seq (.sem (erase tD)) (.cond (.t 15) (.seq (.rg [(aj 2 (.aT (.c (.bool false))))]) .ret) .skip)) (.seq (.rg [(aj 3 (.aT (.c (.int .i64 0))))]) (.seq (.seq (.rg [(aj 4 (.aT (.c (.int .i64 0))))]) (.blk 0 (.loop (erase rU)))) (.seq (.rg [(aj 2 (.aT (.c (.bool true))))]) .ret))))))
theorem Gp:bL Tryz.prog 79 77 [(.tmp 2)] (erase Gn):=⟨Tryz.f79,_,rfl,by decide,rfl,by kernel_rfl,rfl,rfl⟩
abbrev gw:List Nat:=[0,2,3,4,5,6,8,15,19,31,50,54,74]
def jt (s1:List UInt8):Option (Bool):=
 (if (decide (s1=([]:List UInt8))) then
  some true
 else
  (idx s1 0).bind fun x3=>some (decide (x3=91)))
def fK (i7:Int) (s1:List UInt8):Option (Bool):=
 (if (decide (i7<(s1.length:Int))) then
  (idx s1 i7).bind fun x8=>some (!decide (x8=46))
 else
  some false)
def gN (ig:List UInt8):Option (Bool):=
 (if (decide (ig=([]:List UInt8))) then
  some true
 else
  (idx ig 0).bind fun lZ=>
  (if (decide (lZ=45)) then
   some true
  else
   (idx ig (IntKind.wrap .i64 ((ig.length:Int) - 1))).bind fun iu=>some (decide (iu=45))))
def ju (ig:List UInt8) (rV:Int):Option (Bool):=
 (idx ig rV).bind fun jT=>
 (gm jT).bind fun cS=>
 (if (!cS) then
  (ga jT).bind fun lO=>
  (if (!lO) then
   some (!decide (jT=45))
  else
   some false)
 else
  some false)
def dS (ig:List UInt8):Int→Option (St Bool Unit Int)
 |rV=>
  (if (decide (rV<(ig.length:Int))) then
   (ju ig rV).bind fun t21=>
   (if t21 then
    some (.ret false)
   else
    some (.cA (IntKind.wrap .i64 (rV+1))))
  else
   some (.dQ ()))
def dU (F:Nat) (s1:List UInt8):(Int×Int)→Option (St Bool Unit (Int×Int))
 |(DE,i7)=>
  (if (decide (i7≤(s1.length:Int))) then
   (fK i7 s1).bind fun t10=>
   (if t10 then
    some (.cA (DE,(IntKind.wrap .i64 (i7+1))))
   else
    (sub s1 DE i7).bind fun ig=>
    (gN ig).bind fun t15=>
    (if t15 then
     some (.ret false)
    else
     ((iter (dS ig) F 0).bind fun o24=>
     match o24 with
     | .inr ()=>
       some (.cA ((IntKind.wrap .i64 (i7+1)),(IntKind.wrap .i64 (i7+1))))
     | .inl F8=>
       some (.ret F8))))
  else
   some (.dQ ()))
def k6 (F:Nat) (s1:List UInt8):Option (Bool):=
 (dF F s1).bind fun r2=>
 (if r2 then
  some true
 else
  (jt s1).bind fun t5=>
  (if t5 then
   some false
  else
   ((iter (dU F s1) F (0,0)).bind fun o27=>
   match o27 with
   | .inr ()=>
     some true
   | .inl Gq=>
     some Gq)))
theorem AI {s1:List UInt8} {H:AH} {K:Exit→Env→AH→Prop} {t4:Bool}
 (h:jt s1=some t4)
 (kn:K .normal [(0,(.str s1)),(15,(.bool t4))] H):
 AX Tryz.prog gw 77 H.length (erase tD) K [(0,(.str s1))] H:=by
 refine bY fun K' hK=> ?_
 rw [jt.eq_1] at h
 refine aF ?_
 refine bT h (fun hy3 h=> ?_) fun hy3 h=> ?_
 · refine aY hy3 ?_
   obtain rfl:=aD h
   exact hK _ _ _ _ _ aK aq kn
 · obtain ⟨x3,hy4,h⟩:=au h
   refine aY (aA hy3 hy4) ?_
   obtain rfl:=aD h
   exact hK _ _ _ _ _ aK aq kn
theorem AJ {i7:Int} {s1:List UInt8} {DE:Int} {H:AH} {K:Exit→Env→AH→Prop} {t9:Bool}
 (h:fK i7 s1=some t9)
 (kn:K .normal [(0,(.str s1)),(3,(.int .i64 DE)),(4,(.int .i64 i7)),(31,(.bool t9))] H):
 AX Tryz.prog gw 77 H.length (erase tE) K [(0,(.str s1)),(3,(.int .i64 DE)),(4,(.int .i64 i7))] H:=by
 refine bY fun K' hK=> ?_
 rw [fK.eq_1] at h
 refine aF ?_
 refine bT h (fun cv h=> ?_) fun cv h=> ?_
 · obtain ⟨x8,cM,h⟩:=au h
   refine aY (aA cv cM) ?_
   obtain rfl:=aD h
   exact hK _ _ _ _ _ aK aq kn
 · refine aY cv ?_
   obtain rfl:=aD h
   exact hK _ _ _ _ _ aK aq kn
theorem AK {ig:List UInt8} {s1:List UInt8} {i7:Int} {H:AH} {K:Exit→Env→AH→Prop} {t14:Bool}
 (h:gN ig=some t14)
 (kn:K .normal [(0,(.str s1)),(4,(.int .i64 i7)),(5,(.str ig)),(50,(.bool t14))] H):
 AX Tryz.prog gw 77 H.length (erase tF) K [(0,(.str s1)),(4,(.int .i64 i7)),(5,(.str ig))] H:=by
 refine bY fun K' hK=> ?_
 rw [gN.eq_1] at h
 refine aF ?_
 refine bT h (fun cI h=> ?_) fun cI h=> ?_
 · refine aY cI ?_
   obtain rfl:=aD h
   exact hK _ _ _ _ _ aK aq kn
 · obtain ⟨lZ,dD,h⟩:=au h
   refine aY (aA cI dD) ?_
   refine bT h (fun eM h=> ?_) fun eM h=> ?_
   · refine aY eM ?_
     obtain rfl:=aD h
     exact hK _ _ _ _ _ aK aq kn
   · obtain ⟨iu,dM,h⟩:=au h
     refine aY (aA eM dM) ?_
     obtain rfl:=aD h
     exact hK _ _ _ _ _ aK aq kn
theorem AL {ig:List UInt8} {rV:Int} {s1:List UInt8} {i7:Int} {H:AH} {K:Exit→Env→AH→Prop} {t20:Bool}
 (h:ju ig rV=some t20)
 (kn:K .normal [(0,(.str s1)),(4,(.int .i64 i7)),(5,(.str ig)),(6,(.int .i64 rV)),(74,(.bool t20))] H):
 AX Tryz.prog gw 77 H.length (erase tG) K [(0,(.str s1)),(4,(.int .i64 i7)),(5,(.str ig)),(6,(.int .i64 rV))] H:=by
 refine bY fun K' hK=> ?_
 rw [ju.eq_1] at h
 obtain ⟨jT,eA,h⟩:=au h
 refine aY eA ?_
 obtain ⟨cS,eT,h⟩:=au h
 refine bw aq (kX eT) ?_
 refine aF ?_
 refine bT h (fun fT h=> ?_) fun fT h=> ?_
 · refine aY (aA fT eA) ?_
   obtain ⟨lO,jo,h⟩:=au h
   refine bw aq (jr jo) ?_
   refine aF ?_
   refine bT h (fun ie h=> ?_) fun ie h=> ?_
   · refine aY (aA ie eA) ?_
     obtain rfl:=aD h
     exact hK _ _ _ _ _ aK aq kn
   · refine aY ie ?_
     obtain rfl:=aD h
     exact hK _ _ _ _ _ aK aq kn
 · refine aY fT ?_
   obtain rfl:=aD h
   exact hK _ _ _ _ _ aK aq kn
theorem AM {F:Nat} {rV:Int} {ig:List UInt8} {s1:List UInt8} {i7:Int} {H:AH} {K:Exit→Env→AH→Prop} {o:(Bool)⊕(Unit)}
 (h:iter (dS ig) F rV=some o)
 (Qa:∀o':Unit,o= .inr o'→K (.exit 2) [(0,(.str s1)),(4,(.int .i64 i7))] H)
 (kr:∀o':Bool,o= .inl o'→K .ret [(2,(.bool o'))] H):
 AX Tryz.prog gw 77 H.length (.loop (erase rT)) K [(0,(.str s1)),(4,(.int .i64 i7)),(5,(.str ig)),(6,(.int .i64 rV))] H:=by
 refine iE (fun s e H1=>match s with|rV=>e=[(0,(.str s1)),(4,(.int .i64 i7)),(5,(.str ig)),(6,(.int .i64 rV))]∧H1=H) h ⟨rfl,rfl⟩ ?_
 rintro K' rV st e H ⟨rfl,rfl⟩ h hN hB hR hX
 rw [dS.eq_1] at h
 refine aF ?_
 refine bk h (fun fC h=> ?_) fun fC h=> ?_
 · refine aF ?_
   obtain ⟨t21,iF,h⟩:=au h
   refine bA aq (AL (s1:=s1) (i7:=i7) iF ?_)
   refine aF ?_
   refine bk h (fun kq h=> ?_) fun kq h=> ?_
   · refine aF ?_
     obtain rfl:=aD h
     exact hX _ _ _ _ _ dH aK aq (kr _ (hR _ rfl))
   · refine aF ?_
     obtain rfl:=aD h
     exact hN _ rfl _ _ _ _ aK aq ⟨rfl,rfl⟩
 · refine aF ?_
   obtain rfl:=aD h
   exact hX _ _ _ _ _ dH aK aq (Qa _ (hB _ rfl))
theorem AN {F:Nat} {i7:Int} {s1:List UInt8} {DE:Int} {H:AH} {K:Exit→Env→AH→Prop} {o:(Bool)⊕(Unit)}
 (h:iter (dU F s1) F (DE,i7)=some o)
 (dz:∀o':Unit,o= .inr o'→K (.exit 0) [] H)
 (kr:∀o':Bool,o= .inl o'→K .ret [(2,(.bool o'))] H):
 AX Tryz.prog gw 77 H.length (.loop (erase rU)) K [(0,(.str s1)),(3,(.int .i64 DE)),(4,(.int .i64 i7))] H:=by
 refine iE (fun s e H1=>match s with|(DE,i7)=>e=[(0,(.str s1)),(3,(.int .i64 DE)),(4,(.int .i64 i7))]∧H1=H) h ⟨rfl,rfl⟩ ?_
 rintro K' ⟨DE,i7⟩ st e H ⟨rfl,rfl⟩ h hN hB hR hX
 rw [dU.eq_1] at h
 refine aF ?_
 refine bk h (fun cF h=> ?_) fun cF h=> ?_
 · refine aF ?_
   obtain ⟨t10,cc,h⟩:=au h
   refine bA aq (AJ (DE:=DE) cc ?_)
   refine aF ?_
   refine bk h (fun cx h=> ?_) fun cx h=> ?_
   · refine aF ?_
     obtain rfl:=aD h
     exact hN _ rfl _ _ _ _ aK aq ⟨rfl,rfl⟩
   · obtain ⟨ig,cN,h⟩:=au h
     refine aY cN ?_
     obtain ⟨t15,gi,h⟩:=au h
     refine bA aq (AK (s1:=s1) (i7:=i7) gi ?_)
     refine aF ?_
     refine bk h (fun fS h=> ?_) fun fS h=> ?_
     · refine aF ?_
       obtain rfl:=aD h
       exact hX _ _ _ _ _ dH aK aq (kr _ (hR _ rfl))
     · refine aF ?_
       obtain ⟨o24,rD,h⟩:=au h
       refine bA aq (AM (s1:=s1) (i7:=i7) rD ?_ ?_)
       · rintro ⟨⟩ rfl
         try dsimp only at h
         refine aF ?_
         obtain rfl:=aD h
         exact hN _ rfl _ _ _ _ aK aq ⟨rfl,rfl⟩
       · rintro F8 rfl
         try dsimp only at h
         refine aF ?_
         obtain rfl:=aD h
         exact hX _ _ _ _ _ dH aK aq (kr _ (hR _ rfl))
 · refine aF ?_
   obtain rfl:=aD h
   exact hX _ _ _ _ _ dH WE.nil aq (dz _ (hB _ rfl))
theorem xl {F:Nat} {s1:List UInt8} {H0:AH} {aS:Bool} (h:k6 F s1=some aS):
 aG Tryz.prog 79 [(.str s1)] H0 fun v H'=>v=(.bool aS)∧H'=H0:=by
 refine gr Gp gw fun hcl K0 aP=> ?_
 rw [k6.eq_1] at h
 refine aF ?_
 obtain ⟨r2,hy1,h⟩:=au h
 refine bw aq (oA hy1) ?_
 refine aF ?_
 refine bk h (fun hy2 h=> ?_) fun hy2 h=> ?_
 · refine aF ?_
   obtain rfl:=aD h
   exact aP _ _ _ bh (aM hcl (aU aZ (.bool true)) bf aW ⟨rfl,rfl⟩)
 · refine aF ?_
   obtain ⟨t5,bJ,h⟩:=au h
   refine bA aq (AI bJ ?_)
   refine aF ?_
   refine bk h (fun ck h=> ?_) fun ck h=> ?_
   · refine aF ?_
     obtain rfl:=aD h
     exact aP _ _ _ bh (aM hcl (aU aZ (.bool false)) bf aW ⟨rfl,rfl⟩)
   · refine aF ?_
     obtain ⟨o27,tH,h⟩:=au h
     refine bA aq (AN tH ?_ ?_)
     · rintro ⟨⟩ rfl
       try dsimp only at h
       refine aF ?_
       obtain rfl:=aD h
       exact aP _ _ _ bh (aM hcl (aU aZ (.bool true)) bf aW ⟨rfl,rfl⟩)
     · rintro Gq rfl
       try dsimp only at h
       refine aF ?_
       obtain rfl:=aD h
       exact aP _ _ _ bh (aM hcl (aU aZ (.bool Gq)) bf aW ⟨rfl,rfl⟩)
abbrev tI:az:=(.rg [(av 5 0),(aj 6 (.bin .eql (.t 5) (.c (.str [])))),(av 7 6),(ay 8 (.mv (.t 0)) 7 false),(ay 9 (.ixs (.t 8) (.c (.int .i64 0))) 7 false),(ay 10 (.bin .neq (.t 9) (.c (b8 64))) 7 false),(aj 11 (.pick (.t 7) (.c (.bool true)) (.t 10)))])
abbrev tJ:az:=(.rg [(av 12 3),(av 13 0),(aj 14 (.lens (.t 13))),(aj 15 (.bin .lss (.t 12) (.t 14))),(av 16 15),(ay 17 (.mv (.t 0)) 16 true),(ay 18 (.mv (.t 3)) 16 true),(ay 19 (.ixs (.t 17) (.t 18)) 16 true),(ay 20 (.bin .eql (.t 19) (.c (b8 64))) 16 true),(aj 21 (.pick (.t 16) (.t 20) (.c (.bool false))))])
abbrev tK:az:=(.rg [(av 41 3),(av 42 0),(aj 43 (.lens (.t 42))),(aj 44 (.bin .lss (.t 41) (.t 43))),(av 45 44),(ay 46 (.mv (.t 0)) 45 true),(ay 47 (.mv (.t 3)) 45 true),(ay 48 (.ixs (.t 46) (.t 47)) 45 true),(ay 49 (.bin .eql (.t 48) (.c (b8 58))) 45 true),(aj 50 (.pick (.t 45) (.t 49) (.c (.bool false))))])
abbrev tL:az:=(.rg [(av 53 3),(av 54 0),(aj 55 (.lens (.t 54))),(aj 56 (.bin .geq (.t 53) (.t 55))),(av 57 56),(ay 58 (.mv (.t 0)) 57 false),(ay 59 (.mv (.t 3)) 57 false),(ay 60 (.ixs (.t 58) (.t 59)) 57 false),(ay 61 (.bin .neq (.t 60) (.c (b8 44))) 57 false),(aj 62 (.pick (.t 57) (.c (.bool true)) (.t 61)))])
abbrev rW:az:=(.seq (.seq (.sem (erase tJ)) (.cond (.t 21) .skip (.exit 0))) (.blk 1 (.seq (.rg [(av 22 0),(av 23 3),(aj 24 (.bin .add (.t 23) (.c (.int .i64 1)))),(aj 25 (.iP (.t 22) (some (.t 24)) none)),(aj 26 (.call (.c (.fn 78 [])) [(.t 25)])),(aO 4 26)]) (.seq (.seq (.rg [(av 27 0),(av 28 3),(aj 29 (.bin .add (.t 28) (.c (.int .i64 1)))),(av 30 3),(aj 31 (.bin .add (.t 30) (.c (.int .i64 1)))),(av 32 4),(aj 33 (.bin .add (.t 31) (.t 32))),(aj 34 (.iP (.t 27) (some (.t 29)) (some (.t 33)))),(aj 35 (.call (.c (.fn 79 [])) [(.t 34)])),(aj 36 (.un .not (.t 35)))]) (.cond (.t 36) (.seq (.rg [(aj 2 (.aT (.c (.int .i64 (-1)))))]) .ret) .skip)) (.seq (.rg [(av 37 3),(aj 38 (.bin .add (.t 37) (.c (.int .i64 1)))),(av 39 4),(aj 40 (.bin .add (.t 38) (.t 39))),(aO 3 40)]) (.seq (.seq (.sem (erase tK)) (.cond (.t 50) (.seq (.rg [(av 51 3),(aj 52 (.bin .add (.t 51) (.c (.int .i64 1)))),(aO 2 52)]) .ret) .skip)) (.seq (.seq (.sem (erase tL)) (.cond (.t 62) (.seq (.rg [(aj 2 (.aT (.c (.int .i64 (-1)))))]) .ret) .skip)) (.rg [(av 63 3),(aj 64 (.bin .add (.t 63) (.c (.int .i64 1)))),(aO 3 64)]))))))))
abbrev Gr:az:=(.seq (.rg [(aj 2 (.aT (.c (.int .i64 0))))]) (.seq (.seq (.sem (erase tI)) (.cond (.t 11) (.seq (.rg [(aj 2 (.aT (.c (.int .i64 0))))]) .ret) .skip)) (.seq (.rg [(aj 3 (.aT (.c (.int .i64 0))))]) (.seq (.blk 0 (.loop (erase rW))) (.seq (.rg [(aj 2 (.aT (.c (.int .i64 (-1)))))]) .ret)))))
theorem Gs:bL Tryz.prog 76 65 [(.tmp 2)] (erase Gr):=⟨Tryz.f76,_,rfl,by decide,rfl,by kernel_rfl,rfl,rfl⟩
abbrev iL:List Nat:=[0,2,3,4,11,21,36,50,62]
def jv (s1:List UInt8):Option (Bool):=
 (if (decide (s1=([]:List UInt8))) then
  some true
 else
  (idx s1 0).bind fun x2=>some (!decide (x2=64)))
def jx (i5:Int) (s1:List UInt8):Option (Bool):=
 (if (decide (i5<(s1.length:Int))) then
  (idx s1 i5).bind fun x6=>some (decide (x6=64))
 else
  some false)
def jy (i5:Int) (dR:Int) (s1:List UInt8):Option (Bool):=
 (if (decide ((IntKind.wrap .i64 ((IntKind.wrap .i64 (i5+1))+dR))<(s1.length:Int))) then
  (idx s1 (IntKind.wrap .i64 ((IntKind.wrap .i64 (i5+1))+dR))).bind fun iu=>some (decide (iu=58))
 else
  some false)
def jz (s1:List UInt8) (i5:Int) (dR:Int):Option (Bool):=
 (if (decide ((s1.length:Int)≤(IntKind.wrap .i64 ((IntKind.wrap .i64 (i5+1))+dR)))) then
  some true
 else
  (idx s1 (IntKind.wrap .i64 ((IntKind.wrap .i64 (i5+1))+dR))).bind fun jl=>some (!decide (jl=44)))
def dV (F:Nat) (s1:List UInt8):Int→Option (St Int Unit Int)
 |i5=>
  (jx i5 s1).bind fun t8=>
  (if t8 then
   (sub s1 (IntKind.wrap .i64 (i5+1)) (s1.length:Int)).bind fun x9=>
   (jL F x9).bind fun dR=>
   (sub s1 (IntKind.wrap .i64 (i5+1)) (IntKind.wrap .i64 ((IntKind.wrap .i64 (i5+1))+dR))).bind fun ig=>
   (k6 F ig).bind fun jQ=>
   (if (!jQ) then
    some (.ret (-1))
   else
    (jy i5 dR s1).bind fun t15=>
    (if t15 then
     some (.ret (IntKind.wrap .i64 ((IntKind.wrap .i64 ((IntKind.wrap .i64 (i5+1))+dR))+1)))
    else
     (jz s1 i5 dR).bind fun t18=>
     (if t18 then
      some (.ret (-1))
     else
      some (.cA (IntKind.wrap .i64 ((IntKind.wrap .i64 ((IntKind.wrap .i64 (i5+1))+dR))+1))))))
  else
   some (.dQ ()))
def k8 (F:Nat) (s1:List UInt8):Option (Int):=
 (jv s1).bind fun t4=>
 (if t4 then
  some 0
 else
  ((iter (dV F s1) F 0).bind fun o21=>
  match o21 with
  | .inr ()=>
    some (-1)
  | .inl oT=>
    some oT))
theorem AO {s1:List UInt8} {H:AH} {K:Exit→Env→AH→Prop} {t3:Bool}
 (h:jv s1=some t3)
 (kn:K .normal [(0,(.str s1)),(11,(.bool t3))] H):
 AX Tryz.prog iL 65 H.length (erase tI) K [(0,(.str s1))] H:=by
 refine bY fun K' hK=> ?_
 rw [jv.eq_1] at h
 refine aF ?_
 refine bT h (fun hy1 h=> ?_) fun hy1 h=> ?_
 · refine aY hy1 ?_
   obtain rfl:=aD h
   exact hK _ _ _ _ _ aK aq kn
 · obtain ⟨x2,hy2,h⟩:=au h
   refine aY (aA hy1 hy2) ?_
   obtain rfl:=aD h
   exact hK _ _ _ _ _ aK aq kn
theorem AP {i5:Int} {s1:List UInt8} {H:AH} {K:Exit→Env→AH→Prop} {t7:Bool}
 (h:jx i5 s1=some t7)
 (kn:K .normal [(0,(.str s1)),(3,(.int .i64 i5)),(21,(.bool t7))] H):
 AX Tryz.prog iL 65 H.length (erase tJ) K [(0,(.str s1)),(3,(.int .i64 i5))] H:=by
 refine bY fun K' hK=> ?_
 rw [jx.eq_1] at h
 refine aF ?_
 refine bT h (fun bJ h=> ?_) fun bJ h=> ?_
 · obtain ⟨x6,ck,h⟩:=au h
   refine aY (aA bJ ck) ?_
   obtain rfl:=aD h
   exact hK _ _ _ _ _ aK aq kn
 · refine aY bJ ?_
   obtain rfl:=aD h
   exact hK _ _ _ _ _ aK aq kn
theorem AQ {i5:Int} {dR:Int} {s1:List UInt8} {H:AH} {K:Exit→Env→AH→Prop} {t14:Bool}
 (h:jy i5 dR s1=some t14)
 (kn:K .normal [(0,(.str s1)),(3,(.int .i64 (IntKind.wrap .i64 ((IntKind.wrap .i64 (i5+1))+dR)))),(50,(.bool t14))] H):
 AX Tryz.prog iL 65 H.length (erase tK) K [(0,(.str s1)),(3,(.int .i64 (IntKind.wrap .i64 ((IntKind.wrap .i64 (i5+1))+dR))))] H:=by
 refine bY fun K' hK=> ?_
 rw [jy.eq_1] at h
 refine aF ?_
 refine bT h (fun dD h=> ?_) fun dD h=> ?_
 · obtain ⟨iu,eM,h⟩:=au h
   refine aY (aA dD eM) ?_
   obtain rfl:=aD h
   exact hK _ _ _ _ _ aK aq kn
 · refine aY dD ?_
   obtain rfl:=aD h
   exact hK _ _ _ _ _ aK aq kn
theorem AR {s1:List UInt8} {i5:Int} {dR:Int} {H:AH} {K:Exit→Env→AH→Prop} {t17:Bool}
 (h:jz s1 i5 dR=some t17)
 (kn:K .normal [(0,(.str s1)),(3,(.int .i64 (IntKind.wrap .i64 ((IntKind.wrap .i64 (i5+1))+dR)))),(62,(.bool t17))] H):
 AX Tryz.prog iL 65 H.length (erase tL) K [(0,(.str s1)),(3,(.int .i64 (IntKind.wrap .i64 ((IntKind.wrap .i64 (i5+1))+dR))))] H:=by
 refine bY fun K' hK=> ?_
 rw [jz.eq_1] at h
 refine aF ?_
 refine bT h (fun fS h=> ?_) fun fS h=> ?_
 · refine aY fS ?_
   obtain rfl:=aD h
   exact hK _ _ _ _ _ aK aq kn
 · obtain ⟨jl,fC,h⟩:=au h
   refine aY (aA fS fC) ?_
   obtain rfl:=aD h
   exact hK _ _ _ _ _ aK aq kn
theorem AS {F:Nat} {i5:Int} {s1:List UInt8} {H:AH} {K:Exit→Env→AH→Prop} {o:(Int)⊕(Unit)}
 (h:iter (dV F s1) F i5=some o)
 (dz:∀o':Unit,o= .inr o'→K (.exit 0) [] H)
 (kr:∀o':Int,o= .inl o'→K .ret [(2,(.int .i64 o'))] H):
 AX Tryz.prog iL 65 H.length (.loop (erase rW)) K [(0,(.str s1)),(3,(.int .i64 i5))] H:=by
 refine iE (fun s e H1=>match s with|i5=>e=[(0,(.str s1)),(3,(.int .i64 i5))]∧H1=H) h ⟨rfl,rfl⟩ ?_
 rintro K' i5 st e H ⟨rfl,rfl⟩ h hN hB hR hX
 rw [dV.eq_1] at h
 refine aF ?_
 obtain ⟨t8,cF,h⟩:=au h
 refine bA aq (AP cF ?_)
 refine aF ?_
 refine bk h (fun cv h=> ?_) fun cv h=> ?_
 · obtain ⟨x9,cM,h⟩:=au h
   refine aY cM ?_
   obtain ⟨dR,cc,h⟩:=au h
   refine bw aq (vn cc) ?_
   refine aF ?_
   obtain ⟨ig,cx,h⟩:=au h
   refine aY cx ?_
   obtain ⟨jQ,cN,h⟩:=au h
   refine bw aq (xl cN) ?_
   refine aF ?_
   refine bk h (fun cI h=> ?_) fun cI h=> ?_
   · refine aF ?_
     obtain rfl:=aD h
     exact hX _ _ _ _ _ dH aK aq (kr _ (hR _ rfl))
   · refine aF ?_
     obtain ⟨t15,dM,h⟩:=au h
     refine bA aq (AQ dM ?_)
     refine aF ?_
     refine bk h (fun gi h=> ?_) fun gi h=> ?_
     · refine aF ?_
       obtain rfl:=aD h
       exact hX _ _ _ _ _ dH aK aq (kr _ (hR _ rfl))
     · refine aF ?_
       obtain ⟨t18,eA,h⟩:=au h
       refine bA aq (AR eA ?_)
       refine aF ?_
       refine bk h (fun eT h=> ?_) fun eT h=> ?_
       · refine aF ?_
         obtain rfl:=aD h
         exact hX _ _ _ _ _ dH aK aq (kr _ (hR _ rfl))
       · refine aF ?_
         obtain rfl:=aD h
         exact hN _ rfl _ _ _ _ aK aq ⟨rfl,rfl⟩
 · refine aF ?_
   obtain rfl:=aD h
   exact hX _ _ _ _ _ dH WE.nil aq (dz _ (hB _ rfl))
theorem ER {F:Nat} {s1:List UInt8} {H0:AH} {aS:Int} (h:k8 F s1=some aS):
 aG Tryz.prog 76 [(.str s1)] H0 fun v H'=>v=(.int .i64 aS)∧H'=H0:=by
 refine gr Gs iL fun hcl K0 aP=> ?_
 rw [k8.eq_1] at h
 refine aF ?_
 obtain ⟨t4,hy3,h⟩:=au h
 refine bA aq (AO hy3 ?_)
 refine aF ?_
 refine bk h (fun hy4 h=> ?_) fun hy4 h=> ?_
 · refine aF ?_
   obtain rfl:=aD h
   exact aP _ _ _ bh (aM hcl (aU aZ (.int .i64 0)) bf aW ⟨rfl,rfl⟩)
 · refine aF ?_
   obtain ⟨o21,fT,h⟩:=au h
   refine bA aq (AS fT ?_ ?_)
   · rintro ⟨⟩ rfl
     try dsimp only at h
     refine aF ?_
     obtain rfl:=aD h
     exact aP _ _ _ bh (aM hcl (aU aZ (.int .i64 (-1))) bf aW ⟨rfl,rfl⟩)
   · rintro oT rfl
     try dsimp only at h
     refine aF ?_
     obtain rfl:=aD h
     exact aP _ _ _ bh (aM hcl (aU aZ (.int .i64 oT)) bf aW ⟨rfl,rfl⟩)
abbrev tM:az:=(.rg [(av 5 0),(aj 6 (.call (.c (.fn 75 [])) [(.t 5)])),(av 7 6),(ay 8 (.mv (.t 0)) 7 false),(ay 9 (.call (.c (.fn 74 [])) [(.t 8)]) 7 false),(aj 10 (.pick (.t 7) (.c (.bool true)) (.t 9)))])
abbrev rX:az:=(.seq (.seq (.rg [(av 11 4),(av 12 3),(aj 13 (.lens (.t 12))),(aj 14 (.bin .lss (.t 11) (.t 13)))]) (.cond (.t 14) .skip (.exit 0))) (.seq (.blk 1 (.seq (.rg [(av 17 3),(av 18 4),(aj 19 (.ixs (.t 17) (.t 18))),(av 20 0),(aj 21 (.bin .eql (.t 19) (.t 20)))]) (.cond (.t 21) (.seq (.rg [(aj 2 (.aT (.c (.bool true))))]) .ret) .skip))) (.rg [(av 15 4),(aj 16 (.bin .add (.t 15) (.c (.int .i64 1)))),(aO 4 16)])))
abbrev Gt:az:=(.seq (.rg [(aj 2 (.aT (.c (.bool false))))]) (.seq (.seq (.sem (erase tM)) (.cond (.t 10) (.seq (.rg [(aj 2 (.aT (.c (.bool true))))]) .ret) .skip)) (.seq (.rg [(aj 3 (.aT (.c (.str [33,35,36,37,38,39,42,43,45,47,61,63,94,95,123,124,125,126]))))]) (.seq (.seq (.rg [(aj 4 (.aT (.c (.int .i64 0))))]) (.blk 0 (.loop (erase rX)))) (.seq (.rg [(av 22 0),(aj 23 (.bin .eql (.t 22) (.c (b8 96)))),(aO 2 23)]) .ret)))))
theorem Gu:bL Tryz.prog 107 24 [(.tmp 2)] (erase Gt):=⟨Tryz.f107,_,rfl,by decide,rfl,by kernel_rfl,rfl,rfl⟩
abbrev rY:List Nat:=[0,2,3,4,10,14,21]
def pR (c1:UInt8):Option (Bool):=
 (gm c1).bind fun r2=>
 (if r2 then
  some true
 else
  (ga c1).bind fun r3=>some r3)
def pS (c1:UInt8):Int→Option (St Bool Unit Int)
 |i6=>
  (if (decide (i6<(([33,35,36,37,38,39,42,43,45,47,61,63,94,95,123,124,125,126]:List UInt8).length:Int))) then
   (idx ([33,35,36,37,38,39,42,43,45,47,61,63,94,95,123,124,125,126]:List UInt8) i6).bind fun x7=>
   (if (decide (x7=c1)) then
    some (.ret true)
   else
    some (.cA (IntKind.wrap .i64 (i6+1))))
  else
   some (.dQ ()))
def je (F:Nat) (c1:UInt8):Option (Bool):=
 (pR c1).bind fun t5=>
 (if t5 then
  some true
 else
  ((iter (pS c1) F 0).bind fun MW=>
  match MW with
  | .inr ()=>
    some (decide (c1=96))
  | .inl r9=>
    some r9))
theorem AT {c1:UInt8} {H:AH} {K:Exit→Env→AH→Prop} {t4:Bool}
 (h:pR c1=some t4)
 (kn:K .normal [(0,(b8 c1)),(10,(.bool t4))] H):
 AX Tryz.prog rY 24 H.length (erase tM) K [(0,(b8 c1))] H:=by
 refine bY fun K' hK=> ?_
 rw [pR.eq_1] at h
 refine aF ?_
 obtain ⟨r2,hy1,h⟩:=au h
 refine bw aq (kX hy1) ?_
 refine aF ?_
 refine bT h (fun hy2 h=> ?_) fun hy2 h=> ?_
 · refine aY hy2 ?_
   obtain rfl:=aD h
   exact hK _ _ _ _ _ aK aq kn
 · refine aY hy2 ?_
   obtain ⟨r3,hy3,h⟩:=au h
   refine bw aq (jr hy3) ?_
   refine aF ?_
   obtain rfl:=aD h
   exact hK _ _ _ _ _ aK aq kn
theorem AU {F:Nat} {i6:Int} {c1:UInt8} {H:AH} {K:Exit→Env→AH→Prop} {o:(Bool)⊕(Unit)}
 (h:iter (pS c1) F i6=some o)
 (dz:∀o':Unit,o= .inr o'→K (.exit 0) [(0,(b8 c1))] H)
 (kr:∀o':Bool,o= .inl o'→K .ret [(2,(.bool o'))] H):
 AX Tryz.prog rY 24 H.length (.loop (erase rX)) K [(0,(b8 c1)),(3,(.str ([33,35,36,37,38,39,42,43,45,47,61,63,94,95,123,124,125,126]:List UInt8))),(4,(.int .i64 i6))] H:=by
 refine iE (fun s e H1=>match s with|i6=>e=[(0,(b8 c1)),(3,(.str ([33,35,36,37,38,39,42,43,45,47,61,63,94,95,123,124,125,126]:List UInt8))),(4,(.int .i64 i6))]∧H1=H) h ⟨rfl,rfl⟩ ?_
 rintro K' i6 st e H ⟨rfl,rfl⟩ h hN hB hR hX
 rw [pS.eq_1] at h
 refine aF ?_
 refine bk h (fun ck h=> ?_) fun ck h=> ?_
 · obtain ⟨x7,cF,h⟩:=au h
   refine aY cF ?_
   refine bk h (fun cv h=> ?_) fun cv h=> ?_
   · refine aF ?_
     obtain rfl:=aD h
     exact hX _ _ _ _ _ dH aK aq (kr _ (hR _ rfl))
   · refine aF ?_
     obtain rfl:=aD h
     exact hN _ rfl _ _ _ _ aK aq ⟨rfl,rfl⟩
 · refine aF ?_
   obtain rfl:=aD h
   exact hX _ _ _ _ _ dH aK aq (dz _ (hB _ rfl))
theorem xm {F:Nat} {c1:UInt8} {H0:AH} {aS:Bool} (h:je F c1=some aS):
 aG Tryz.prog 107 [(b8 c1)] H0 fun v H'=>v=(.bool aS)∧H'=H0:=by
 refine gr Gu rY fun hcl K0 aP=> ?_
 rw [je.eq_1] at h
 refine aF ?_
 obtain ⟨t5,hy4,h⟩:=au h
 refine bA aq (AT hy4 ?_)
 refine aF ?_
 refine bk h (fun bJ h=> ?_) fun bJ h=> ?_
 · refine aF ?_
   obtain rfl:=aD h
   exact aP _ _ _ bh (aM hcl (aU aZ (.bool true)) bf aW ⟨rfl,rfl⟩)
 · refine aF ?_
   obtain ⟨MW,cM,h⟩:=au h
   refine bA aq (AU cM ?_ ?_)
   · rintro ⟨⟩ rfl
     try dsimp only at h
     refine aF ?_
     obtain rfl:=aD h
     exact aP _ _ _ bh (aM hcl (aU aZ (.bool (decide (c1=96)))) bf aW ⟨rfl,rfl⟩)
   · rintro r9 rfl
     try dsimp only at h
     refine aF ?_
     obtain rfl:=aD h
     exact aP _ _ _ bh (aM hcl (aU aZ (.bool r9)) bf aW ⟨rfl,rfl⟩)
abbrev tN:az:=(.rg [(av 11 0),(av 12 3),(aj 13 (.ixs (.t 11) (.t 12))),(aj 14 (.bin .eql (.t 13) (.c (b8 46)))),(av 15 14),(ay 16 (.mv (.t 3)) 15 true),(ay 17 (.bin .gtr (.t 16) (.c (.int .i64 0))) 15 true),(aj 18 (.pick (.t 15) (.t 17) (.c (.bool false)))),(av 19 18),(ay 20 (.mv (.t 3)) 19 true),(ay 21 (.bin .add (.t 20) (.c (.int .i64 1))) 19 true),(ay 22 (.mv (.t 0)) 19 true),(ay 23 (.lens (.t 22)) 19 true),(ay 24 (.bin .lss (.t 21) (.t 23)) 19 true),(aj 25 (.pick (.t 19) (.t 24) (.c (.bool false)))),(av 26 25),(ay 27 (.mv (.t 0)) 26 true),(ay 28 (.mv (.t 3)) 26 true),(ay 29 (.bin .sub (.t 28) (.c (.int .i64 1))) 26 true),(ay 30 (.ixs (.t 27) (.t 29)) 26 true),(ay 31 (.bin .neq (.t 30) (.c (b8 46))) 26 true),(aj 32 (.pick (.t 26) (.t 31) (.c (.bool false)))),(aO 4 32)])
abbrev tO:az:=(.rg [(av 33 4),(aj 34 (.un .not (.t 33))),(av 35 34),(ay 36 (.mv (.t 0)) 35 true),(ay 37 (.mv (.t 3)) 35 true),(ay 38 (.ixs (.t 36) (.t 37)) 35 true),(ay 39 (.call (.c (.fn 107 [])) [(.t 38)]) 35 true),(ay 40 (.un .not (.t 39)) 35 true),(aj 41 (.pick (.t 35) (.t 40) (.c (.bool false))))])
abbrev rZ:az:=(.seq (.seq (.rg [(av 5 3),(av 6 0),(aj 7 (.lens (.t 6))),(aj 8 (.bin .lss (.t 5) (.t 7)))]) (.cond (.t 8) .skip (.exit 0))) (.seq (.blk 1 (.seq (.sem (erase tN)) (.seq (.sem (erase tO)) (.cond (.t 41) (.seq (.rg [(aj 2 (.aT (.c (.bool false))))]) .ret) .skip)))) (.rg [(av 9 3),(aj 10 (.bin .add (.t 9) (.c (.int .i64 1)))),(aO 3 10)])))
abbrev Gv:az:=(.seq (.rg [(aj 2 (.aT (.c (.bool false))))]) (.seq (.seq (.rg [(aj 3 (.aT (.c (.int .i64 0))))]) (.blk 0 (.loop (erase rZ)))) (.seq (.rg [(av 42 0),(aj 43 (.bin .neq (.t 42) (.c (.str [])))),(aO 2 43)]) .ret)))
theorem Gw:bL Tryz.prog 84 44 [(.tmp 2)] (erase Gv):=⟨Tryz.f84,_,rfl,by decide,rfl,by kernel_rfl,rfl,rfl⟩
abbrev nO:List Nat:=[0,2,3,4,8,41]
def jA (s1:List UInt8) (i2:Int):Option (Bool):=
 (idx s1 i2).bind fun x3=>
 (if (decide (x3=46)) then
  (if (decide (0<i2)) then
   (if (decide ((IntKind.wrap .i64 (i2+1))<(s1.length:Int))) then
    (idx s1 (IntKind.wrap .i64 (i2 - 1))).bind fun x4=>some (!decide (x4=46))
   else
    some false)
  else
   some false)
 else
  some false)
def mw (F:Nat) (Gx:Bool) (s1:List UInt8) (i2:Int):Option (Bool):=
 (if (!Gx) then
  (idx s1 i2).bind fun x7=>(je F x7).bind fun r8=>some (!r8)
 else
  some false)
def fL (F:Nat) (s1:List UInt8):Int→Option (St Bool Unit Int)
 |i2=>
  (if (decide (i2<(s1.length:Int))) then
   (jA s1 i2).bind fun Gx=>
   (mw F Gx s1 i2).bind fun t10=>
   (if t10 then
    some (.ret false)
   else
    some (.cA (IntKind.wrap .i64 (i2+1))))
  else
   some (.dQ ()))
def k9 (F:Nat) (s1:List UInt8):Option (Bool):=
 ((iter (fL F s1) F 0).bind fun X7=>
 match X7 with
 | .inr ()=>
   some (!decide (s1=([]:List UInt8)))
 | .inl jQ=>
   some jQ)
theorem AY {s1:List UInt8} {i2:Int} {H:AH} {K:Exit→Env→AH→Prop} {abR:Bool}
 (h:jA s1 i2=some abR)
 (kn:K .normal [(0,(.str s1)),(3,(.int .i64 i2)),(4,(.bool abR))] H):
 AX Tryz.prog nO 44 H.length (erase tN) K [(0,(.str s1)),(3,(.int .i64 i2))] H:=by
 refine bY fun K' hK=> ?_
 rw [jA.eq_1] at h
 obtain ⟨x3,hy2,h⟩:=au h
 refine aY hy2 ?_
 refine bT h (fun hy3 h=> ?_) fun hy3 h=> ?_
 · refine aY hy3 ?_
   refine bT h (fun hy4 h=> ?_) fun hy4 h=> ?_
   · refine aY hy4 ?_
     refine bT h (fun bJ h=> ?_) fun bJ h=> ?_
     · obtain ⟨x4,ck,h⟩:=au h
       refine aY (aA bJ ck) ?_
       obtain rfl:=aD h
       exact hK _ _ _ _ _ aK aq kn
     · refine aY bJ ?_
       obtain rfl:=aD h
       exact hK _ _ _ _ _ aK aq kn
   · refine aY hy4 ?_
     obtain rfl:=aD h
     exact hK _ _ _ _ _ aK aq kn
 · refine aY hy3 ?_
   obtain rfl:=aD h
   exact hK _ _ _ _ _ aK aq kn
theorem AZ {F:Nat} {Gx:Bool} {s1:List UInt8} {i2:Int} {H:AH} {K:Exit→Env→AH→Prop} {t9:Bool}
 (h:mw F Gx s1 i2=some t9)
 (kn:K .normal [(0,(.str s1)),(3,(.int .i64 i2)),(41,(.bool t9))] H):
 AX Tryz.prog nO 44 H.length (erase tO) K [(0,(.str s1)),(3,(.int .i64 i2)),(4,(.bool Gx))] H:=by
 refine bY fun K' hK=> ?_
 rw [mw.eq_1] at h
 refine aF ?_
 refine bT h (fun cv h=> ?_) fun cv h=> ?_
 · obtain ⟨x7,cM,h⟩:=au h
   refine aY (aA cv cM) ?_
   obtain ⟨r8,cc,h⟩:=au h
   refine bw aq (xm cc) ?_
   refine aF ?_
   obtain rfl:=aD h
   exact hK _ _ _ _ _ aK aq kn
 · refine aY cv ?_
   obtain rfl:=aD h
   exact hK _ _ _ _ _ aK aq kn
theorem A1 {F:Nat} {i2:Int} {s1:List UInt8} {H:AH} {K:Exit→Env→AH→Prop} {o:(Bool)⊕(Unit)}
 (h:iter (fL F s1) F i2=some o)
 (dz:∀o':Unit,o= .inr o'→K (.exit 0) [(0,(.str s1))] H)
 (kr:∀o':Bool,o= .inl o'→K .ret [(2,(.bool o'))] H):
 AX Tryz.prog nO 44 H.length (.loop (erase rZ)) K [(0,(.str s1)),(3,(.int .i64 i2))] H:=by
 refine iE (fun s e H1=>match s with|i2=>e=[(0,(.str s1)),(3,(.int .i64 i2))]∧H1=H) h ⟨rfl,rfl⟩ ?_
 rintro K' i2 st e H ⟨rfl,rfl⟩ h hN hB hR hX
 rw [fL.eq_1] at h
 refine aF ?_
 refine bk h (fun hy1 h=> ?_) fun hy1 h=> ?_
 · refine aF ?_
   obtain ⟨Gx,cF,h⟩:=au h
   refine bA aq (AY cF ?_)
   refine aF ?_
   obtain ⟨t10,cx,h⟩:=au h
   refine bA aq (AZ cx ?_)
   refine aF ?_
   refine bk h (fun cN h=> ?_) fun cN h=> ?_
   · refine aF ?_
     obtain rfl:=aD h
     exact hX _ _ _ _ _ dH aK aq (kr _ (hR _ rfl))
   · refine aF ?_
     obtain rfl:=aD h
     exact hN _ rfl _ _ _ _ aK aq ⟨rfl,rfl⟩
 · refine aF ?_
   obtain rfl:=aD h
   exact hX _ _ _ _ _ dH aK aq (dz _ (hB _ rfl))
theorem xo {F:Nat} {s1:List UInt8} {H0:AH} {aS:Bool} (h:k9 F s1=some aS):
 aG Tryz.prog 84 [(.str s1)] H0 fun v H'=>v=(.bool aS)∧H'=H0:=by
 refine gr Gw nO fun hcl K0 aP=> ?_
 rw [k9.eq_1] at h
 refine aF ?_
 obtain ⟨X7,cI,h⟩:=au h
 refine bA aq (A1 cI ?_ ?_)
 · rintro ⟨⟩ rfl
   try dsimp only at h
   refine aF ?_
   obtain rfl:=aD h
   exact aP _ _ _ bh (aM hcl (aU aZ (.bool (!decide (s1=([]:List UInt8))))) bf aW ⟨rfl,rfl⟩)
 · rintro jQ rfl
   try dsimp only at h
   refine aF ?_
   obtain rfl:=aD h
   exact aP _ _ _ bh (aM hcl (aU aZ (.bool jQ)) bf aW ⟨rfl,rfl⟩)
abbrev tP:az:=(.rg [(av 7 0),(aj 8 (.bin .neq (.t 7) (.c (.str [])))),(av 9 8),(ay 10 (.mv (.t 0)) 9 true),(ay 11 (.ixs (.t 10) (.c (.int .i64 0))) 9 true),(ay 12 (.bin .eql (.t 11) (.c (b8 34))) 9 true),(aj 13 (.pick (.t 9) (.t 12) (.c (.bool false))))])
abbrev tQ:az:=(.rg [(av 14 5),(av 15 0),(aj 16 (.lens (.t 15))),(aj 17 (.bin .lss (.t 14) (.t 16))),(av 18 17),(ay 19 (.mv (.t 0)) 18 true),(ay 20 (.mv (.t 5)) 18 true),(ay 21 (.ixs (.t 19) (.t 20)) 18 true),(ay 22 (.bin .neq (.t 21) (.c (b8 34))) 18 true),(aj 23 (.pick (.t 18) (.t 22) (.c (.bool false))))])
abbrev tR:az:=(.cond (.t 27) (.rg [(av 28 5),(aj 29 (.bin .add (.t 28) (.c (.int .i64 1)))),(aO 5 29)]) .skip)
abbrev tS:az:=(.rg [(av 30 5),(av 31 0),(aj 32 (.lens (.t 31))),(aj 33 (.bin .geq (.t 30) (.t 32))),(av 34 33),(ay 35 (.mv (.t 0)) 34 false),(ay 36 (.mv (.t 5)) 34 false),(ay 37 (.ixs (.t 35) (.t 36)) 34 false),(ay 38 (.bin .lss (.t 37) (.c (b8 32))) 34 false),(aj 39 (.pick (.t 34) (.c (.bool true)) (.t 38))),(av 40 39),(ay 41 (.mv (.t 0)) 40 false),(ay 42 (.mv (.t 5)) 40 false),(ay 43 (.ixs (.t 41) (.t 42)) 40 false),(ay 44 (.bin .gtr (.t 43) (.c (b8 126))) 40 false),(aj 45 (.pick (.t 40) (.c (.bool true)) (.t 44)))])
abbrev sg:az:=(.seq (.seq (.sem (erase tQ)) (.cond (.t 23) .skip (.exit 0))) (.blk 1 (.seq (.seq (.rg [(av 24 0),(av 25 5),(aj 26 (.ixs (.t 24) (.t 25))),(aj 27 (.bin .eql (.t 26) (.c (b8 92))))]) (.sem (erase tR))) (.seq (.seq (.sem (erase tS)) (.cond (.t 45) (.seq (.rg [(aj 2 (.aT (.c (.str [])))),(aj 3 (.aT (.c (.int .i64 (-1)))))]) .ret) .skip)) (.seq (.rg [(av 46 4),(av 47 0),(av 48 5),(aj 49 (.ixs (.t 47) (.t 48))),(aj 50 (.pH 1 [(.t 49)])),(aj 51 (.app 1 1 (.t 46) (.t 50))),(aO 4 51)]) (.rg [(av 52 5),(aj 53 (.bin .add (.t 52) (.c (.int .i64 1)))),(aO 5 53)]))))))
abbrev tT:az:=(.rg [(av 54 5),(av 55 0),(aj 56 (.lens (.t 55))),(aj 57 (.bin .geq (.t 54) (.t 56))),(av 58 57),(ay 59 (.mv (.t 4)) 58 false),(ay 60 (.len (.t 59)) 58 false),(ay 61 (.bin .eql (.t 60) (.c (.int .i64 0))) 58 false),(aj 62 (.pick (.t 58) (.c (.bool true)) (.t 61)))])
abbrev tU:az:=(.rg [(av 67 6),(av 68 0),(aj 69 (.lens (.t 68))),(aj 70 (.bin .lss (.t 67) (.t 69))),(av 71 70),(ay 72 (.mv (.t 0)) 71 true),(ay 73 (.mv (.t 6)) 71 true),(ay 74 (.ixs (.t 72) (.t 73)) 71 true),(ay 75 (.call (.c (.fn 107 [])) [(.t 74)]) 71 true),(ay 76 (.mv (.t 75)) 71 true),(ay 77 (.mv (.t 0)) 76 false),(ay 78 (.mv (.t 6)) 76 false),(ay 79 (.ixs (.t 77) (.t 78)) 76 false),(ay 80 (.bin .eql (.t 79) (.c (b8 46))) 76 false),(ay 81 (.pick (.t 76) (.c (.bool true)) (.t 80)) 71 true),(aj 82 (.pick (.t 71) (.t 81) (.c (.bool false))))])
abbrev si:az:=(.seq (.seq (.sem (erase tU)) (.cond (.t 82) .skip (.exit 2))) (.blk 3 (.rg [(av 83 6),(aj 84 (.bin .add (.t 83) (.c (.int .i64 1)))),(aO 6 84)])))
abbrev Gy:az:=(.seq (.rg [(aj 2 (.aT (.c (.str [])))),(aj 3 (.aT (.c (.int .i64 0))))]) (.seq (.seq (.sem (erase tP)) (.cond (.t 13) (.seq (.rg [(aj 4 (.aT (.c (.sl .ex 1 []))))]) (.seq (.rg [(aj 5 (.aT (.c (.int .i64 1))))]) (.seq (.blk 0 (.loop (erase sg))) (.seq (.seq (.sem (erase tT)) (.cond (.t 62) (.seq (.rg [(aj 2 (.aT (.c (.str [])))),(aj 3 (.aT (.c (.int .i64 (-1)))))]) .ret) .skip)) (.seq (.rg [(av 63 4),(aj 64 (.iT .bs (.t 63))),(av 65 5),(aj 66 (.bin .add (.t 65) (.c (.int .i64 1)))),(aO 2 64),(aO 3 66)]) .ret))))) .skip)) (.seq (.rg [(aj 6 (.aT (.c (.int .i64 0))))]) (.seq (.blk 2 (.loop (erase si))) (.seq (.seq (.rg [(av 85 0),(av 86 6),(aj 87 (.iP (.t 85) none (some (.t 86)))),(aj 88 (.call (.c (.fn 84 [])) [(.t 87)])),(aj 89 (.un .not (.t 88)))]) (.cond (.t 89) (.seq (.rg [(aj 2 (.aT (.c (.str [])))),(aj 3 (.aT (.c (.int .i64 (-1)))))]) .ret) .skip)) (.seq (.rg [(av 90 0),(av 91 6),(aj 92 (.iP (.t 90) none (some (.t 91)))),(av 93 6),(aO 2 92),(aO 3 93)]) .ret))))))
theorem Gz:bL Tryz.prog 77 94 [(.tmp 2),(.tmp 3)] (erase Gy):=⟨Tryz.f77,_,rfl,by decide,rfl,by kernel_rfl,rfl,rfl⟩
abbrev eP:List Nat:=[0,2,3,4,5,6,13,23,27,45,62,82,89]
def jB (s1:List UInt8):Option (Bool):=
 (if (!decide (s1=([]:List UInt8))) then
  (idx s1 0).bind fun x2=>some (decide (x2=34))
 else
  some false)
def gO (i6:Int) (s1:List UInt8):Option (Bool):=
 (if (decide (i6<(s1.length:Int))) then
  (idx s1 i6).bind fun x7=>some (!decide (x7=34))
 else
  some false)
def jC (wA:UInt8) (i6:Int):Option (Int):=
 (if (decide (wA=92)) then
  some (IntKind.wrap .i64 (i6+1))
 else
  some i6)
def fM (s1:List UInt8) (i12:Int):Option (Bool):=
 (if (decide ((s1.length:Int)≤i12)) then
  some true
 else
  (idx s1 i12).bind fun iu=>
  (if (decide (iu<32)) then
   some true
  else
   some (decide (126<iu))))
def bV (s1:List UInt8):((List UInt8)×Int)→Option (St ((List UInt8)×Int) ((List UInt8)×Int) ((List UInt8)×Int))
 |(b5,i6)=>
  (gO i6 s1).bind fun t9=>
  (if t9 then
   (idx s1 i6).bind fun wA=>
   (jC wA i6).bind fun i12=>
   (fM s1 i12).bind fun t15=>
   (if t15 then
    some (.ret (([]:List UInt8),(-1)))
   else
    (idx s1 i12).bind fun jl=>
    (fq 1 b5 ([jl]:List UInt8)).bind fun jT=>some (.cA (jT,(IntKind.wrap .i64 (i12+1)))))
  else
   some (.dQ (b5,i6)))
def jD (F:Nat) (pZ:Int) (s1:List UInt8):Option (Bool):=
 (if (decide (pZ<(s1.length:Int))) then
  (idx s1 pZ).bind fun zW=>
  (je F zW).bind fun gH=>(if gH then
   some true
  else
   some (decide (zW=46)))
 else
  some false)
def fN (F:Nat) (s1:List UInt8):Int→Option (St ((List UInt8)×Int) Int Int)
 |pZ=>
  (jD F pZ s1).bind fun t31=>
  (if t31 then
   some (.cA (IntKind.wrap .i64 (pZ+1)))
  else
   some (.dQ pZ))
def lf (F:Nat) (s1:List UInt8):Option ((List UInt8)×Int):=
 (jB s1).bind fun t4=>
 (if t4 then
  ((iter (bV s1) F (([]:List UInt8),1)).bind fun X9=>
  match X9 with
  | .inr (Ij,i23)=>
    (if ((decide ((s1.length:Int)≤i23))||(decide ((Ij.length:Int)=0))) then
     some (([]:List UInt8),(-1))
    else
     some (Ij,(IntKind.wrap .i64 (i23+1))))
  | .inl (Un,ob)=>
    some (Un,ob))
 else
  ((iter (fN F s1) F 0).bind fun X6=>
  match X6 with
  | .inr Rr=>
    (sub s1 0 Rr).bind fun x34=>
    (k9 F x34).bind fun Ul=>
    (if (!Ul) then
     some (([]:List UInt8),(-1))
    else
     some (x34,Rr))
  | .inl _=>none))
theorem A2 {s1:List UInt8} {H:AH} {K:Exit→Env→AH→Prop} {t3:Bool}
 (h:jB s1=some t3)
 (kn:K .normal [(0,(.str s1)),(13,(.bool t3))] H):
 AX Tryz.prog eP 94 H.length (erase tP) K [(0,(.str s1))] H:=by
 refine bY fun K' hK=> ?_
 rw [jB.eq_1] at h
 refine aF ?_
 refine bT h (fun hy1 h=> ?_) fun hy1 h=> ?_
 · obtain ⟨x2,hy2,h⟩:=au h
   refine aY (aA hy1 hy2) ?_
   obtain rfl:=aD h
   exact hK _ _ _ _ _ aK aq kn
 · refine aY hy1 ?_
   obtain rfl:=aD h
   exact hK _ _ _ _ _ aK aq kn
theorem A3 {i6:Int} {s1:List UInt8} {b5:List UInt8} {H:AH} {K:Exit→Env→AH→Prop} {t8:Bool}
 (h:gO i6 s1=some t8)
 (kn:K .normal [(0,(.str s1)),(4,(.sl .own 1 (ml b8 b5))),(5,(.int .i64 i6)),(23,(.bool t8))] H):
 AX Tryz.prog eP 94 H.length (erase tQ) K [(0,(.str s1)),(4,(.sl .own 1 (ml b8 b5))),(5,(.int .i64 i6))] H:=by
 refine bY fun K' hK=> ?_
 rw [gO.eq_1] at h
 refine aF ?_
 refine bT h (fun bJ h=> ?_) fun bJ h=> ?_
 · obtain ⟨x7,ck,h⟩:=au h
   refine aY (aA bJ ck) ?_
   obtain rfl:=aD h
   exact hK _ _ _ _ _ aK aq kn
 · refine aY bJ ?_
   obtain rfl:=aD h
   exact hK _ _ _ _ _ aK aq kn
theorem A4 {wA:UInt8} {i6:Int} {s1:List UInt8} {b5:List UInt8} {H:AH} {K:Exit→Env→AH→Prop} {i11:Int}
 (h:jC wA i6=some i11)
 (kn:K .normal [(0,(.str s1)),(4,(.sl .own 1 (ml b8 b5))),(5,(.int .i64 i11))] H):
 AX Tryz.prog eP 94 H.length (erase tR) K [(0,(.str s1)),(4,(.sl .own 1 (ml b8 b5))),(5,(.int .i64 i6)),(27,(.bool (decide (wA=92))))] H:=by
 refine bY fun K' hK=> ?_
 rw [jC.eq_1] at h
 refine aF ?_
 refine bk h (fun cc h=> ?_) fun cc h=> ?_
 · refine aF ?_
   obtain rfl:=aD h
   exact hK _ _ _ _ _ aK aq kn
 · refine aF ?_
   obtain rfl:=aD h
   exact hK _ _ _ _ _ aK aq kn
theorem A5 {s1:List UInt8} {i12:Int} {b5:List UInt8} {H:AH} {K:Exit→Env→AH→Prop} {t14:Bool}
 (h:fM s1 i12=some t14)
 (kn:K .normal [(0,(.str s1)),(4,(.sl .own 1 (ml b8 b5))),(5,(.int .i64 i12)),(45,(.bool t14))] H):
 AX Tryz.prog eP 94 H.length (erase tS) K [(0,(.str s1)),(4,(.sl .own 1 (ml b8 b5))),(5,(.int .i64 i12))] H:=by
 refine bY fun K' hK=> ?_
 rw [fM.eq_1] at h
 refine aF ?_
 refine bT h (fun cN h=> ?_) fun cN h=> ?_
 · refine aY cN ?_
   obtain rfl:=aD h
   exact hK _ _ _ _ _ aK aq kn
 · obtain ⟨iu,cI,h⟩:=au h
   refine aY (aA cN cI) ?_
   refine bT h (fun dD h=> ?_) fun dD h=> ?_
   · refine aY dD ?_
     obtain rfl:=aD h
     exact hK _ _ _ _ _ aK aq kn
   · refine aY (aA dD cI) ?_
     obtain rfl:=aD h
     exact hK _ _ _ _ _ aK aq kn
theorem A6 {F:Nat} {i6:Int} {s1:List UInt8} {b5:List UInt8} {H:AH} {K:Exit→Env→AH→Prop} {o:((List UInt8)×Int)⊕((List UInt8)×Int)}
 (h:iter (bV s1) F (b5,i6)=some o)
 (dz:∀o':(List UInt8)×Int,o= .inr o'→K (.exit 0) [(0,(.str s1)),(4,(.sl .own 1 (ml b8 o'.1))),(5,(.int .i64 o'.2))] H)
 (kr:∀o':(List UInt8)×Int,o= .inl o'→K .ret [(2,(.str o'.1)),(3,(.int .i64 o'.2))] H):
 AX Tryz.prog eP 94 H.length (.loop (erase sg)) K [(0,(.str s1)),(4,(.sl .own 1 (ml b8 b5))),(5,(.int .i64 i6))] H:=by
 refine iE (fun s e H1=>match s with|(b5,i6)=>e=[(0,(.str s1)),(4,(.sl .own 1 (ml b8 b5))),(5,(.int .i64 i6))]∧H1=H) h ⟨rfl,rfl⟩ ?_
 rintro K' ⟨b5,i6⟩ st e H ⟨rfl,rfl⟩ h hN hB hR hX
 rw [bV.eq_1] at h
 refine aF ?_
 obtain ⟨t9,cF,h⟩:=au h
 refine bA aq (A3 (b5:=b5) cF ?_)
 refine aF ?_
 refine bk h (fun cv h=> ?_) fun cv h=> ?_
 · obtain ⟨wA,cM,h⟩:=au h
   refine aY cM ?_
   obtain ⟨i12,cx,h⟩:=au h
   refine bA aq (A4 (s1:=s1) (b5:=b5) cx ?_)
   refine aF ?_
   obtain ⟨t15,eM,h⟩:=au h
   refine bA aq (A5 (b5:=b5) eM ?_)
   refine aF ?_
   refine bk h (fun dM h=> ?_) fun dM h=> ?_
   · refine aF ?_
     obtain rfl:=aD h
     exact hX _ _ _ _ _ dH aK aq (kr _ (hR _ rfl))
   · obtain ⟨jl,gi,h⟩:=au h
     obtain ⟨jT,fS,h⟩:=au h
     have fC:fq 1 (ml b8 b5) [(b8 jl)]=some (ml b8 jT):=oH (f:=b8) fS
     refine aY (aA gi fC) ?_
     obtain rfl:=aD h
     exact hN _ rfl _ _ _ _ aK aq ⟨rfl,rfl⟩
 · refine aF ?_
   obtain rfl:=aD h
   exact hX _ _ _ _ _ dH aK aq (dz _ (hB _ rfl))
theorem A7 {s1:List UInt8} {Ij:List UInt8} {i23:Int} {H:AH} {K:Exit→Env→AH→Prop}
 (kn:K .normal [(4,(.sl .own 1 (ml b8 Ij))),(5,(.int .i64 i23)),(62,(.bool ((decide ((s1.length:Int)≤i23))||(decide ((Ij.length:Int)=0)))))] H):
 AX Tryz.prog eP 94 H.length (erase tT) K [(0,(.str s1)),(4,(.sl .own 1 (ml b8 Ij))),(5,(.int .i64 i23))] H:=by
 refine bY fun K' hK=> ?_
 refine aF ?_
 refine gG (fun eT=> ?_) fun eT=> ?_
 · refine aY eT ?_
   exact hK _ _ _ _ _ (dj eT) aq kn
 · refine aY eT ?_
   exact hK _ _ _ _ _ (dj eT) aq kn
theorem A8 {F:Nat} {pZ:Int} {s1:List UInt8} {H:AH} {K:Exit→Env→AH→Prop} {t30:Bool}
 (h:jD F pZ s1=some t30)
 (kn:K .normal [(0,(.str s1)),(6,(.int .i64 pZ)),(82,(.bool t30))] H):
 AX Tryz.prog eP 94 H.length (erase tU) K [(0,(.str s1)),(6,(.int .i64 pZ))] H:=by
 refine bY fun K' hK=> ?_
 rw [jD.eq_1] at h
 refine aF ?_
 refine bT h (fun jo h=> ?_) fun jo h=> ?_
 · obtain ⟨zW,ie,h⟩:=au h
   refine aY (aA jo ie) ?_
   obtain ⟨gH,iF,h⟩:=au h
   refine bw aq (xm iF) ?_
   refine aF ?_
   refine bT h (fun kq h=> ?_) fun kq h=> ?_
   · refine aY kq ?_
     obtain rfl:=aD h
     exact hK _ _ _ _ _ aK aq kn
   · refine aY (aA kq ie) ?_
     obtain rfl:=aD h
     exact hK _ _ _ _ _ aK aq kn
 · refine aY jo ?_
   obtain rfl:=aD h
   exact hK _ _ _ _ _ aK aq kn
theorem A9 {F:Nat} {pZ:Int} {s1:List UInt8} {H:AH} {K:Exit→Env→AH→Prop} {o:((List UInt8)×Int)⊕(Int)}
 (h:iter (fN F s1) F pZ=some o)
 (Qa:∀o':Int,o= .inr o'→K (.exit 2) [(0,(.str s1)),(6,(.int .i64 o'))] H):
 AX Tryz.prog eP 94 H.length (.loop (erase si)) K [(0,(.str s1)),(6,(.int .i64 pZ))] H:=by
 refine iE (fun s e H1=>match s with|pZ=>e=[(0,(.str s1)),(6,(.int .i64 pZ))]∧H1=H) h ⟨rfl,rfl⟩ ?_
 rintro K' pZ st e H ⟨rfl,rfl⟩ h hN hB hR hX
 rw [fN.eq_1] at h
 refine aF ?_
 obtain ⟨t31,rD,h⟩:=au h
 refine bA aq (A8 rD ?_)
 refine aF ?_
 refine bk h (fun tH h=> ?_) fun tH h=> ?_
 · refine aF ?_
   obtain rfl:=aD h
   exact hN _ rfl _ _ _ _ aK aq ⟨rfl,rfl⟩
 · refine aF ?_
   obtain rfl:=aD h
   exact hX _ _ _ _ _ dH aK aq (Qa _ (hB _ rfl))
theorem ES {F:Nat} {s1:List UInt8} {H0:AH} {aS:List UInt8} {fE:Int} (h:lf F s1=some (aS,fE)):
 aG Tryz.prog 77 [(.str s1)] H0 fun v H'=>v=(.bG [(.str aS),(.int .i64 fE)])∧H'=H0:=by
 refine gr Gz eP fun hcl K0 aP=> ?_
 rw [lf.eq_1] at h
 refine aF ?_
 obtain ⟨t4,hy3,h⟩:=au h
 refine bA aq (A2 hy3 ?_)
 refine aF ?_
 refine bk h (fun hy4 h=> ?_) fun hy4 h=> ?_
 · refine aF ?_
   obtain ⟨X9,eA,h⟩:=au h
   refine bA aq (A6 eA ?_ ?_)
   · rintro ⟨Ij,i23⟩ rfl
     try dsimp only at h
     refine aF ?_
     refine bA aq (A7 (s1:=s1) (Ij:=Ij) (i23:=i23) ?_)
     refine aF ?_
     refine bk h (fun fT h=> ?_) fun fT h=> ?_
     · refine aF ?_
       obtain ⟨rfl,rfl⟩:=cT h
       exact aP _ _ _ bh (aM hcl (aU (aU aZ (.int .i64 (-1))) (.str ([]:List UInt8))) bf aW ⟨rfl,rfl⟩)
     · refine aF ?_
       obtain ⟨rfl,rfl⟩:=cT h
       exact aP _ _ _ bh (aM hcl (aU (aU aZ (.int .i64 (IntKind.wrap .i64 (i23+1)))) (.str Ij)) bf aW ⟨rfl,rfl⟩)
   · rintro ⟨Un,ob⟩ rfl
     try dsimp only at h
     refine aF ?_
     obtain ⟨rfl,rfl⟩:=cT h
     exact aP _ _ _ bh (aM hcl (aU (aU aZ (.int .i64 ob)) (.str Un)) bf aW ⟨rfl,rfl⟩)
 · refine aF ?_
   obtain ⟨X6,GA,h⟩:=au h
   refine bA aq (A9 GA ?_)
   · rintro Rr rfl
     try dsimp only at h
     refine aF ?_
     obtain ⟨x34,D9,h⟩:=au h
     refine aY D9 ?_
     obtain ⟨Ul,GB,h⟩:=au h
     refine bw aq (xo GB) ?_
     refine aF ?_
     refine bk h (fun GC h=> ?_) fun GC h=> ?_
     · refine aF ?_
       obtain ⟨rfl,rfl⟩:=cT h
       exact aP _ _ _ bh (aM hcl (aU (aU aZ (.int .i64 (-1))) (.str ([]:List UInt8))) bf aW ⟨rfl,rfl⟩)
     · refine aY D9 ?_
       obtain ⟨rfl,rfl⟩:=cT h
       exact aP _ _ _ bh (aM hcl (aU (aU aZ (.int .i64 Rr)) (.str x34)) bf aW ⟨rfl,rfl⟩)
abbrev tV:az:=(.rg [(av 4 0),(aj 5 (.bin .eql (.t 4) (.c (.str [])))),(av 6 5),(ay 7 (.mv (.t 0)) 6 false),(ay 8 (.lens (.t 7)) 6 false),(ay 9 (.bin .gtr (.t 8) (.c (.int .i64 64))) 6 false),(aj 10 (.pick (.t 6) (.c (.bool true)) (.t 9)))])
abbrev tW:az:=(.rg [(av 17 0),(av 18 3),(aj 19 (.ixs (.t 17) (.t 18))),(aj 20 (.bin .lss (.t 19) (.c (b8 32)))),(av 21 20),(ay 22 (.mv (.t 0)) 21 false),(ay 23 (.mv (.t 3)) 21 false),(ay 24 (.ixs (.t 22) (.t 23)) 21 false),(ay 25 (.bin .gtr (.t 24) (.c (b8 126))) 21 false),(aj 26 (.pick (.t 21) (.c (.bool true)) (.t 25)))])
abbrev sj:az:=(.seq (.seq (.rg [(av 11 3),(av 12 0),(aj 13 (.lens (.t 12))),(aj 14 (.bin .lss (.t 11) (.t 13)))]) (.cond (.t 14) .skip (.exit 0))) (.seq (.blk 1 (.seq (.sem (erase tW)) (.cond (.t 26) (.seq (.rg [(aj 2 (.aT (.c (.bool false))))]) .ret) .skip))) (.rg [(av 15 3),(aj 16 (.bin .add (.t 15) (.c (.int .i64 1)))),(aO 3 16)])))
abbrev GD:az:=(.seq (.rg [(aj 2 (.aT (.c (.bool false))))]) (.seq (.seq (.sem (erase tV)) (.cond (.t 10) (.seq (.rg [(aj 2 (.aT (.c (.bool false))))]) .ret) .skip)) (.seq (.seq (.rg [(aj 3 (.aT (.c (.int .i64 0))))]) (.blk 0 (.loop (erase sj)))) (.seq (.rg [(aj 2 (.aT (.c (.bool true))))]) .ret))))
theorem GG:bL Tryz.prog 83 27 [(.tmp 2)] (erase GD):=⟨Tryz.f83,_,rfl,by decide,rfl,by kernel_rfl,rfl,rfl⟩
abbrev nP:List Nat:=[0,2,3,10,14,26]
def jE (s1:List UInt8) (i2:Int):Option (Bool):=
 (idx s1 i2).bind fun x3=>
 (if (decide (x3<32)) then
  some true
 else
  some (decide (126<x3)))
def fO (s1:List UInt8):Int→Option (St Bool Unit Int)
 |i2=>
  (if (decide (i2<(s1.length:Int))) then
   (jE s1 i2).bind fun t5=>
   (if t5 then
    some (.ret false)
   else
    some (.cA (IntKind.wrap .i64 (i2+1))))
  else
   some (.dQ ()))
def nQ (F:Nat) (s1:List UInt8):Option (Bool):=
 (if ((decide (s1=([]:List UInt8)))||(decide (64<(s1.length:Int)))) then
  some false
 else
  ((iter (fO s1) F 0).bind fun o8=>
  match o8 with
  | .inr ()=>
    some true
  | .inl r7=>
    some r7))
theorem Ba {s1:List UInt8} {H:AH} {K:Exit→Env→AH→Prop}
 (kn:K .normal [(0,(.str s1)),(10,(.bool ((decide (s1=([]:List UInt8)))||(decide (64<(s1.length:Int))))))] H):
 AX Tryz.prog nP 27 H.length (erase tV) K [(0,(.str s1))] H:=by
 refine bY fun K' hK=> ?_
 refine aF ?_
 refine gG (fun hy1=> ?_) fun hy1=> ?_
 · refine aY hy1 ?_
   exact hK _ _ _ _ _ (dj hy1) aq kn
 · refine aY hy1 ?_
   exact hK _ _ _ _ _ (dj hy1) aq kn
theorem Bb {s1:List UInt8} {i2:Int} {H:AH} {K:Exit→Env→AH→Prop} {t4:Bool}
 (h:jE s1 i2=some t4)
 (kn:K .normal [(0,(.str s1)),(3,(.int .i64 i2)),(26,(.bool t4))] H):
 AX Tryz.prog nP 27 H.length (erase tW) K [(0,(.str s1)),(3,(.int .i64 i2))] H:=by
 refine bY fun K' hK=> ?_
 rw [jE.eq_1] at h
 obtain ⟨x3,hy4,h⟩:=au h
 refine aY hy4 ?_
 refine bT h (fun bJ h=> ?_) fun bJ h=> ?_
 · refine aY bJ ?_
   obtain rfl:=aD h
   exact hK _ _ _ _ _ aK aq kn
 · refine aY (aA bJ hy4) ?_
   obtain rfl:=aD h
   exact hK _ _ _ _ _ aK aq kn
theorem Bc {F:Nat} {i2:Int} {s1:List UInt8} {H:AH} {K:Exit→Env→AH→Prop} {o:(Bool)⊕(Unit)}
 (h:iter (fO s1) F i2=some o)
 (dz:∀o':Unit,o= .inr o'→K (.exit 0) [] H)
 (kr:∀o':Bool,o= .inl o'→K .ret [(2,(.bool o'))] H):
 AX Tryz.prog nP 27 H.length (.loop (erase sj)) K [(0,(.str s1)),(3,(.int .i64 i2))] H:=by
 refine iE (fun s e H1=>match s with|i2=>e=[(0,(.str s1)),(3,(.int .i64 i2))]∧H1=H) h ⟨rfl,rfl⟩ ?_
 rintro K' i2 st e H ⟨rfl,rfl⟩ h hN hB hR hX
 rw [fO.eq_1] at h
 refine aF ?_
 refine bk h (fun hy3 h=> ?_) fun hy3 h=> ?_
 · refine aF ?_
   obtain ⟨t5,ck,h⟩:=au h
   refine bA aq (Bb ck ?_)
   refine aF ?_
   refine bk h (fun cF h=> ?_) fun cF h=> ?_
   · refine aF ?_
     obtain rfl:=aD h
     exact hX _ _ _ _ _ dH aK aq (kr _ (hR _ rfl))
   · refine aF ?_
     obtain rfl:=aD h
     exact hN _ rfl _ _ _ _ aK aq ⟨rfl,rfl⟩
 · refine aF ?_
   obtain rfl:=aD h
   exact hX _ _ _ _ _ dH WE.nil aq (dz _ (hB _ rfl))
theorem ET {F:Nat} {s1:List UInt8} {H0:AH} {aS:Bool} (h:nQ F s1=some aS):
 aG Tryz.prog 83 [(.str s1)] H0 fun v H'=>v=(.bool aS)∧H'=H0:=by
 refine gr GG nP fun hcl K0 aP=> ?_
 rw [nQ.eq_1] at h
 refine aF ?_
 refine bA aq (Ba (s1:=s1) ?_)
 refine aF ?_
 refine bk h (fun hy2 h=> ?_) fun hy2 h=> ?_
 · refine aF ?_
   obtain rfl:=aD h
   exact aP _ _ _ bh (aM hcl (aU aZ (.bool false)) bf aW ⟨rfl,rfl⟩)
 · refine aF ?_
   obtain ⟨o8,cv,h⟩:=au h
   refine bA aq (Bc cv ?_ ?_)
   · rintro ⟨⟩ rfl
     try dsimp only at h
     refine aF ?_
     obtain rfl:=aD h
     exact aP _ _ _ bh (aM hcl (aU aZ (.bool true)) bf aW ⟨rfl,rfl⟩)
   · rintro r7 rfl
     try dsimp only at h
     refine aF ?_
     obtain rfl:=aD h
     exact aP _ _ _ bh (aM hcl (aU aZ (.bool r7)) bf aW ⟨rfl,rfl⟩)
abbrev vo:az:=(.rg [(aj 5 (.cw (.t 1) 0)),(aj 6 (.ld (.t 5) none)),(aj 7 (.bin .eql (.t 6) (.c (.str [])))),(av 8 7),(ay 9 (.cw (.t 1) 1) 8 true),(ay 10 (.ld (.t 9) none) 8 true),(ay 11 (.bin .eql (.t 10) (.c (.str []))) 8 true),(aj 12 (.pick (.t 8) (.t 11) (.c (.bool false))))])
abbrev vp:az:=(.rg [(aj 32 (.cw (.t 1) 0)),(aj 33 (.ld (.t 32) none)),(av 34 4),(aj 35 (.ixs (.t 33) (.t 34))),(aj 36 (.bin .eql (.t 35) (.c (b8 34)))),(av 37 36),(ay 38 (.cw (.t 1) 0) 37 false),(ay 39 (.ld (.t 38) none) 37 false),(ay 40 (.mv (.t 4)) 37 false),(ay 41 (.ixs (.t 39) (.t 40)) 37 false),(ay 42 (.bin .eql (.t 41) (.c (b8 92))) 37 false),(aj 43 (.pick (.t 37) (.c (.bool true)) (.t 42)))])
abbrev tX:az:=(.seq (.seq (.rg [(av 25 4),(aj 26 (.cw (.t 1) 0)),(aj 27 (.ld (.t 26) none)),(aj 28 (.lens (.t 27))),(aj 29 (.bin .lss (.t 25) (.t 28)))]) (.cond (.t 29) .skip (.exit 0))) (.seq (.blk 1 (.seq (.seq (.sem (erase vp)) (.cond (.t 43) (.rg [(av 44 3),(aj 45 (.pH 1 [(.c (b8 92))])),(aj 46 (.app 1 1 (.t 44) (.t 45))),(aO 3 46)]) .skip)) (.rg [(av 47 3),(aj 48 (.cw (.t 1) 0)),(aj 49 (.ld (.t 48) none)),(av 50 4),(aj 51 (.ixs (.t 49) (.t 50))),(aj 52 (.pH 1 [(.t 51)])),(aj 53 (.app 1 1 (.t 47) (.t 52))),(aO 3 53)]))) (.rg [(av 30 4),(aj 31 (.bin .add (.t 30) (.c (.int .i64 1)))),(aO 4 31)])))
abbrev vq:az:=(.rg [(av 54 3),(aj 59 (.cw (.t 1) 1)),(aj 60 (.CT (.t 59) none)),(aj 55 (.pH 1 [(.c (b8 34))])),(aj 56 (.app 1 1 (.t 54) (.t 55))),(aj 57 (.La (.t 56))),(aj 58 (.bin .add (.t 57) (.c (.str [64])))),(aj 61 (.bin .add (.t 58) (.t 60))),(aj 62 (.bin .add (.t 61) (.c (.str [62])))),(aO 2 62)])
abbrev Ik:az:=(.seq (.rg [(aj 1 (.box (.t 0))),(aj 2 (.aT (.c (.str []))))]) (.seq (.seq (.sem (erase vo)) (.cond (.t 12) (.seq (.rg [(aj 2 (.aT (.c (.str [60,62]))))]) .ret) .skip)) (.seq (.seq (.rg [(aj 13 (.cw (.t 1) 0)),(aj 14 (.ld (.t 13) none)),(aj 15 (.call (.c (.fn 84 [])) [(.t 14)]))]) (.cond (.t 15) (.seq (.rg [(aj 16 (.cw (.t 1) 0)),(aj 17 (.ld (.t 16) none)),(aj 18 (.bin .add (.c (.str [60])) (.t 17))),(aj 19 (.bin .add (.t 18) (.c (.str [64])))),(aj 20 (.cw (.t 1) 1)),(aj 21 (.ld (.t 20) none)),(aj 22 (.bin .add (.t 19) (.t 21))),(aj 23 (.bin .add (.t 22) (.c (.str [62])))),(aO 2 23)]) .ret) .skip)) (.seq (.rg [(aj 24 (.pH 1 [(.c (b8 60)),(.c (b8 34))])),(aO 3 24)]) (.seq (.seq (.rg [(aj 4 (.aT (.c (.int .i64 0))))]) (.blk 0 (.loop (erase tX)))) (.seq (.sem (erase vq)) .ret))))))
theorem Il:bL Tryz.prog 59 63 [(.tmp 2)] (erase Ik):=⟨Tryz.f59,_,rfl,by decide,rfl,by kernel_rfl,rfl,rfl⟩
abbrev mg:List Nat:=[0,1,2,3,4,12,15,29,43]
def nR (a1:aB) (i10:Int):Option (Bool):=
 (idx a1.ak i10).bind fun lZ=>
 (if (decide (lZ=34)) then
  some true
 else
  some (decide (lZ=92)))
def gx (a1:aB):((List UInt8)×Int)→Option (St (List UInt8) (List UInt8) ((List UInt8)×Int))
 |(b9,i10)=>
  (if (decide (i10<(a1.ak.length:Int))) then
   (nR a1 i10).bind fun t14=>
   (if t14 then
    (fq 1 b9 ([92]:List UInt8)).bind fun n9=>
    (idx a1.ak i10).bind fun jl=>
    (fq 1 n9 ([jl]:List UInt8)).bind fun jT=>some (.cA (jT,(IntKind.wrap .i64 (i10+1))))
   else
    (idx a1.ak i10).bind fun Ey=>
    (fq 1 b9 ([Ey]:List UInt8)).bind fun yH=>some (.cA (yH,(IntKind.wrap .i64 (i10+1)))))
  else
   some (.dQ b9))
def nS (MX:List UInt8) (a1:aB):Option ((List UInt8)):=
 (fq 1 MX ([34]:List UInt8)).bind fun KJ=>
 (cat KJ ([64]:List UInt8)).bind fun F4=>
 (cat F4 a1.domain).bind fun F5=>(cat F5 ([62]:List UInt8)).bind fun F6=>some F6
def kA (F:Nat) (a1:aB):Option ((List UInt8)):=
 (if ((decide (a1.ak=([]:List UInt8)))&&(decide (a1.domain=([]:List UInt8)))) then
  some ([60,62]:List UInt8)
 else
  (k9 F a1.ak).bind fun r3=>
  (if r3 then
   (cat ([60]:List UInt8) a1.ak).bind fun x4=>
   (cat x4 ([64]:List UInt8)).bind fun x5=>
   (cat x5 a1.domain).bind fun x6=>(cat x6 ([62]:List UInt8)).bind fun x7=>some x7
  else
   ((iter (gx a1) F (([60,34]:List UInt8),0)).bind fun X8=>
   match X8 with
   | .inr MX=>
     (nS MX a1).bind fun t27=>
     some t27
   | .inl _=>none)))
theorem Cc {q2:Nat} {a1:aB} {H0 H:AH} (hfr:Fr H0 H0.length [] H) (ai:H[q2]? =some [(.str a1.ak),(.str a1.domain)]) (dB:H0.length≤q2) {K:Exit→Env→AH→Prop}
 (kn:∀H':AH,Fr H0 H0.length [] H'→H'[q2]? =some [(.str a1.ak),(.str a1.domain)]→K .normal [(1,(.ptr q2 0)),(12,(.bool ((decide (a1.ak=([]:List UInt8)))&&(decide (a1.domain=([]:List UInt8))))))] H'):
 AX Tryz.prog mg 63 H0.length (erase vo) K [(1,(.ptr q2 0))] H:=by
 refine bY fun K' hK=> ?_
 have hle:=hfr.le
 have aL:=aN ai
 refine ax ai ?_
 refine gG (fun hy1=> ?_) fun hy1=> ?_
 · refine ax (aA hy1 ai) ?_
   exact hK _ _ _ _ _ (dj hy1) aq (kn _ hfr (ai.trans rfl))
 · refine ax (aA hy1 ai) ?_
   exact hK _ _ _ _ _ (dj hy1) aq (kn _ hfr (ai.trans rfl))
theorem Cd {a1:aB} {i10:Int} {Uo:Nat} {b9:List UInt8} {H0 H:AH} (hfr:Fr H0 H0.length [] H) (ai:H[Uo]? =some [(.str a1.ak),(.str a1.domain)]) (dB:H0.length≤Uo) {K:Exit→Env→AH→Prop} {t13:Bool}
 (h:nR a1 i10=some t13)
 (kn:∀H':AH,Fr H0 H0.length [] H'→H'[Uo]? =some [(.str a1.ak),(.str a1.domain)]→K .normal [(1,(.ptr Uo 0)),(3,(.sl .own 1 (ml b8 b9))),(4,(.int .i64 i10)),(43,(.bool t13))] H'):
 AX Tryz.prog mg 63 H0.length (erase vp) K [(1,(.ptr Uo 0)),(3,(.sl .own 1 (ml b8 b9))),(4,(.int .i64 i10))] H:=by
 refine bY fun K' hK=> ?_
 have hle:=hfr.le
 have aL:=aN ai
 rw [nR.eq_1] at h
 obtain ⟨lZ,cc,h⟩:=au h
 refine ax (aA cc ai) ?_
 refine bT h (fun cx h=> ?_) fun cx h=> ?_
 · refine ax (aA cx ai) ?_
   obtain rfl:=aD h
   exact hK _ _ _ _ _ aK aq (kn _ hfr (ai.trans rfl))
 · refine ax (aA cx (aA cc ai)) ?_
   obtain rfl:=aD h
   exact hK _ _ _ _ _ aK aq (kn _ hfr (ai.trans rfl))
theorem Ce {F:Nat} {i10:Int} {a1:aB} {b9:List UInt8} {q8:Nat} {H0 H:AH} (hfr:Fr H0 H0.length [] H) (ai:H[q8]? =some [(.str a1.ak),(.str a1.domain)]) (dB:H0.length≤q8) {K:Exit→Env→AH→Prop} {o:((List UInt8))⊕((List UInt8))}
 (h:iter (gx a1) F (b9,i10)=some o)
 (dz:∀o':(List UInt8),o= .inr o'→∀H':AH,Fr H0 H0.length [] H'→H'[q8]? =some [(.str a1.ak),(.str a1.domain)]→K (.exit 0) [(1,(.ptr q8 0)),(3,(.sl .own 1 (ml b8 o')))] H'):
 AX Tryz.prog mg 63 H0.length (.loop (erase tX)) K [(1,(.ptr q8 0)),(3,(.sl .own 1 (ml b8 b9))),(4,(.int .i64 i10))] H:=by
 refine iE (fun s e H1=>match s with|(b9,i10)=>e=[(1,(.ptr q8 0)),(3,(.sl .own 1 (ml b8 b9))),(4,(.int .i64 i10))]∧Fr H0 H0.length [] H1∧H1[q8]? =some [(.str a1.ak),(.str a1.domain)]) h ⟨rfl,hfr,ai⟩ ?_
 rintro K' ⟨b9,i10⟩ st e H ⟨rfl,hfr,ai⟩ h hN hB hR hX
 have hle:=hfr.le
 have aL:=aN ai
 rw [gx.eq_1] at h
 refine ax ai ?_
 refine bk h (fun cM h=> ?_) fun cM h=> ?_
 · refine ax ai ?_
   obtain ⟨t14,cN,h⟩:=au h
   refine bA aq (Cd (b9:=b9) (Uo:=q8) hfr (ai.trans rfl) bU cN ?_)
   intro H hfr ai
   have hle:=hfr.le
   have aL:=aN ai
   refine ax ai ?_
   refine bk h (fun cI h=> ?_) fun cI h=> ?_
   · obtain ⟨n9,dD,h⟩:=au h
     have eM:fq 1 (ml b8 b9) [(b8 92)]=some (ml b8 n9):=oH (f:=b8) dD
     obtain ⟨jl,dM,h⟩:=au h
     obtain ⟨jT,gi,h⟩:=au h
     have fS:fq 1 (ml b8 n9) [(b8 jl)]=some (ml b8 jT):=oH (f:=b8) gi
     refine ax (aA eM (aA dM (aA fS ai))) ?_
     obtain rfl:=aD h
     exact hN _ rfl _ _ _ _ aK aq ⟨rfl,hfr,(ai.trans rfl)⟩
   · obtain ⟨Ey,fC,h⟩:=au h
     obtain ⟨yH,eA,h⟩:=au h
     have eT:fq 1 (ml b8 b9) [(b8 Ey)]=some (ml b8 yH):=oH (f:=b8) eA
     refine ax (aA fC (aA eT ai)) ?_
     obtain rfl:=aD h
     exact hN _ rfl _ _ _ _ aK aq ⟨rfl,hfr,(ai.trans rfl)⟩
 · refine ax ai ?_
   obtain rfl:=aD h
   exact hX _ _ _ _ _ dH aK aq (dz _ (hB _ rfl) _ hfr (ai.trans rfl))
theorem Cf {MX:List UInt8} {a1:aB} {H0 H:AH} (hfr:Fr H0 H0.length [] H) {K:Exit→Env→AH→Prop} {t26:List UInt8}
 (h:nS MX a1=some t26)
 (kn:∀H':AH,Fr H0 H0.length [] H'→K .normal [(2,(.str t26))] H'):
 AX Tryz.prog mg 63 H0.length (erase vq) K [(1,(.ep (.agg [(.str a1.ak),(.str a1.domain)]) 0)),(3,(.sl .own 1 (ml b8 MX)))] H:=by
 refine bY fun K' hK=> ?_
 have hle:=hfr.le
 rw [nS.eq_1] at h
 obtain ⟨KJ,jo,h⟩:=au h
 have ie:fq 1 (ml b8 MX) [(b8 34)]=some (ml b8 KJ):=oH (f:=b8) jo
 obtain ⟨F4,iF,h⟩:=au h
 obtain ⟨F5,kq,h⟩:=au h
 obtain ⟨F6,rD,h⟩:=au h
 refine ax (aA ie (aA iF (aA kq rD))) ?_
 obtain rfl:=aD h
 exact hK _ _ _ _ _ aK aq (kn _ hfr)
theorem yU {F:Nat} {a1:aB} {H0:AH} {aS:List UInt8} (h:kA F a1=some aS):
 aG Tryz.prog 59 [(.agg [(.str a1.ak),(.str a1.domain)])] H0 fun v H'=>v=(.str aS)∧H'=H0:=by
 refine lN Il mg [] fun hcl K0 aP H hH hfr=> ?_
 clear hH
 have hle:=hfr.le
 rw [kA.eq_1] at h
 refine cj ?_
 obtain ⟨q2,hO⟩:∃q:Nat,H.length=q:=⟨_,rfl⟩
 try rw [hO]
 refine bA aq (Cc (q2:=q2) (a1:=a1) (Fr.app hfr) pJ bU ?_)
 intro H hfr ai
 have hle:=hfr.le
 have aL:=aN ai
 refine ax ai ?_
 refine bk h (fun hy2 h=> ?_) fun hy2 h=> ?_
 · refine ax ai ?_
   obtain rfl:=aD h
   exact aP _ _ _ bh (aR hfr hcl (aU aZ (.str ([60,62]:List UInt8))) bf aW ⟨rfl,rfl⟩)
 · refine ax ai ?_
   obtain ⟨r3,hy3,h⟩:=au h
   refine bw aq (xo hy3) ?_
   refine ax ai ?_
   refine bk h (fun hy4 h=> ?_) fun hy4 h=> ?_
   · obtain ⟨x4,bJ,h⟩:=au h
     obtain ⟨x5,ck,h⟩:=au h
     obtain ⟨x6,cF,h⟩:=au h
     obtain ⟨x7,cv,h⟩:=au h
     refine ax (aA bJ (aA ck (aA cF (aA cv ai)))) ?_
     obtain rfl:=aD h
     exact aP _ _ _ bh (aR hfr hcl (aU aZ (.str x7)) bf aW ⟨rfl,rfl⟩)
   · refine ax ai ?_
     obtain ⟨X8,fT,h⟩:=au h
     refine bA aq (Ce (q8:=q2) hfr (ai.trans rfl) bU fT ?_)
     · rintro MX rfl H hfr ai
       try dsimp only at h ai
       have hle:=hfr.le
       have aL:=aN ai
       refine ax ai ?_
       refine XX ?_
       apply AX.freeze (s:=q2) (cs:=[(.str a1.ak),(.str a1.domain)]) (by exact (ai.trans rfl)) (gR.same (gR.same (gR.nil))) (by simp) rfl
       · repeat (first|exact FZ.nil|apply FZ.ep|apply FZ.same)
       refine ouZ ?_
       obtain ⟨t27,tH,h⟩:=au h
       refine bA aq (Cf (b6 _ hfr) tH ?_)
       intro H hfr
       have hle:=hfr.le
       refine cj ?_
       obtain rfl:=aD h
       exact aP _ _ _ bh (aR hfr hcl (aU aZ (.str t27)) bf aW ⟨rfl,rfl⟩)
abbrev tY:az:=(.rg [(aj 3 (.cw (.t 1) 0)),(aj 4 (.ld (.t 3) none)),(aj 5 (.bin .eql (.t 4) (.c (.str [])))),(av 6 5),(ay 7 (.cw (.t 1) 1) 6 true),(ay 8 (.ld (.t 7) none) 6 true),(ay 9 (.bin .eql (.t 8) (.c (.str []))) 6 true),(aj 10 (.pick (.t 6) (.t 9) (.c (.bool false))))])
abbrev tZ:az:=(.rg [(aj 11 (.cw (.t 1) 0)),(aj 12 (.ld (.t 11) none)),(aj 13 (.call (.c (.fn 83 [])) [(.t 12)])),(av 14 13),(ay 15 (.cw (.t 1) 1) 14 true),(ay 16 (.ld (.t 15) none) 14 true),(ay 17 (.call (.c (.fn 28 [])) [(.t 16)]) 14 true),(aj 18 (.pick (.t 14) (.t 17) (.c (.bool false)))),(av 19 18),(ay 20 (.ld (.t 1) (some 2)) 19 true),(ay 21 (.call (.c (.fn 59 [])) [(.t 20)]) 19 true),(ay 22 (.lens (.t 21)) 19 true),(ay 23 (.bin .leq (.t 22) (.c (.int .i64 256))) 19 true),(aj 24 (.pick (.t 19) (.t 23) (.c (.bool false)))),(aO 2 24)])
abbrev GH:az:=(.seq (.rg [(aj 1 (.box (.t 0))),(aj 2 (.aT (.c (.bool false))))]) (.seq (.seq (.sem (erase tY)) (.cond (.t 10) (.seq (.rg [(aj 2 (.aT (.c (.bool true))))]) .ret) .skip)) (.seq (.sem (erase tZ)) .ret)))
theorem GI:bL Tryz.prog 58 25 [(.tmp 2)] (erase GH):=⟨Tryz.f58,_,rfl,by decide,rfl,by kernel_rfl,rfl,rfl⟩
abbrev sn:List Nat:=[0,1,2,10]
def mz (F:Nat) (a1:aB):Option (Bool):=
 (nQ F a1.ak).bind fun r4=>
 (if r4 then
  (dF F a1.domain).bind fun r5=>
  (if r5 then
   (kA F a1).bind fun r6=>some (decide ((r6.length:Int)≤256))
  else
   some false)
 else
  some false)
def lg (F:Nat) (a1:aB):Option (Bool):=
 (if ((decide (a1.ak=([]:List UInt8)))&&(decide (a1.domain=([]:List UInt8)))) then
  some true
 else
  (mz F a1).bind fun t8=>
  some t8)
theorem Bd {q2:Nat} {a1:aB} {H0 H:AH} (hfr:Fr H0 H0.length [] H) (ai:H[q2]? =some [(.str a1.ak),(.str a1.domain)]) (dB:H0.length≤q2) {K:Exit→Env→AH→Prop}
 (kn:∀H':AH,Fr H0 H0.length [] H'→H'[q2]? =some [(.str a1.ak),(.str a1.domain)]→K .normal [(1,(.ptr q2 0)),(10,(.bool ((decide (a1.ak=([]:List UInt8)))&&(decide (a1.domain=([]:List UInt8))))))] H'):
 AX Tryz.prog sn 25 H0.length (erase tY) K [(1,(.ptr q2 0))] H:=by
 refine bY fun K' hK=> ?_
 have hle:=hfr.le
 have aL:=aN ai
 refine ax ai ?_
 refine gG (fun hy1=> ?_) fun hy1=> ?_
 · refine ax (aA hy1 ai) ?_
   exact hK _ _ _ _ _ (dj hy1) aq (kn _ hfr (ai.trans rfl))
 · refine ax (aA hy1 ai) ?_
   exact hK _ _ _ _ _ (dj hy1) aq (kn _ hfr (ai.trans rfl))
theorem Be {F:Nat} {a1:aB} {q3:Nat} {H0 H:AH} (hfr:Fr H0 H0.length [] H) (ai:H[q3]? =some [(.str a1.ak),(.str a1.domain)]) (dB:H0.length≤q3) {K:Exit→Env→AH→Prop} {t7:Bool}
 (h:mz F a1=some t7)
 (kn:∀H':AH,Fr H0 H0.length [] H'→H'[q3]? =some [(.str a1.ak),(.str a1.domain)]→K .normal [(2,(.bool t7))] H'):
 AX Tryz.prog sn 25 H0.length (erase tZ) K [(1,(.ptr q3 0))] H:=by
 refine bY fun K' hK=> ?_
 have hle:=hfr.le
 have aL:=aN ai
 rw [mz.eq_1] at h
 refine ax ai ?_
 obtain ⟨r4,hy3,h⟩:=au h
 refine bw aq (ET hy3) ?_
 refine ax ai ?_
 refine bT h (fun hy4 h=> ?_) fun hy4 h=> ?_
 · refine ax (aA hy4 ai) ?_
   obtain ⟨r5,bJ,h⟩:=au h
   refine bw aq (oA bJ) ?_
   refine ax ai ?_
   refine bT h (fun ck h=> ?_) fun ck h=> ?_
   · refine ax (aA ck ai) ?_
     obtain ⟨r6,cF,h⟩:=au h
     refine bw aq (yU cF) ?_
     refine ax ai ?_
     obtain rfl:=aD h
     exact hK _ _ _ _ _ aK aq (kn _ hfr (ai.trans rfl))
   · refine ax (aA ck ai) ?_
     obtain rfl:=aD h
     exact hK _ _ _ _ _ aK aq (kn _ hfr (ai.trans rfl))
 · refine ax (aA hy4 ai) ?_
   obtain rfl:=aD h
   exact hK _ _ _ _ _ aK aq (kn _ hfr (ai.trans rfl))
theorem xp {F:Nat} {a1:aB} {H0:AH} {aS:Bool} (h:lg F a1=some aS):
 aG Tryz.prog 58 [(.agg [(.str a1.ak),(.str a1.domain)])] H0 fun v H'=>v=(.bool aS)∧H'=H0:=by
 refine lN GI sn [] fun hcl K0 aP H hH hfr=> ?_
 clear hH
 have hle:=hfr.le
 rw [lg.eq_1] at h
 refine cj ?_
 obtain ⟨q2,hO⟩:∃q:Nat,H.length=q:=⟨_,rfl⟩
 try rw [hO]
 refine bA aq (Bd (q2:=q2) (a1:=a1) (Fr.app hfr) pJ bU ?_)
 intro H hfr ai
 have hle:=hfr.le
 have aL:=aN ai
 refine ax ai ?_
 refine bk h (fun hy2 h=> ?_) fun hy2 h=> ?_
 · refine ax ai ?_
   obtain rfl:=aD h
   exact aP _ _ _ bh (aR hfr hcl (aU aZ (.bool true)) bf aW ⟨rfl,rfl⟩)
 · refine ax ai ?_
   obtain ⟨t8,cv,h⟩:=au h
   refine bA aq (Be (q3:=q2) hfr (ai.trans rfl) bU cv ?_)
   intro H hfr ai
   have hle:=hfr.le
   have aL:=aN ai
   refine ax ai ?_
   obtain rfl:=aD h
   exact aP _ _ _ bh (aR hfr hcl (aU aZ (.bool t8)) bf aW ⟨rfl,rfl⟩)
end Go.Proofs.cQ
end
section
set_option maxRecDepth 100000
namespace Go.Proofs.cQ
open Go Go.Am Go.Proofs
open Nat renaming reduceEqDiff→nA,reduceLT→nB,reduceLeDiff→nC,reduceAdd→nD,reduceSub→nE,reduceMul→nF,reduceBEq→nG
set_option maxHeartbeats 2000000
abbrev vt:az:=(.rg [(av 11 0),(aj 12 (.bin .eql (.t 11) (.c (.str [])))),(av 13 12),(ay 14 (.mv (.t 0)) 13 false),(ay 15 (.ixs (.t 14) (.c (.int .i64 0))) 13 false),(ay 16 (.bin .neq (.t 15) (.c (b8 60))) 13 false),(aj 17 (.pick (.t 13) (.c (.bool true)) (.t 16)))])
abbrev vu:az:=(.rg [(av 19 0),(aj 20 (.lens (.t 19))),(aj 21 (.bin .gtr (.t 20) (.c (.int .i64 1)))),(av 22 21),(ay 23 (.mv (.t 0)) 22 true),(ay 24 (.ixs (.t 23) (.c (.int .i64 1))) 22 true),(ay 25 (.bin .eql (.t 24) (.c (b8 62))) 22 true),(aj 26 (.pick (.t 22) (.t 25) (.c (.bool false))))])
abbrev vv:az:=(.rg [(av 45 8),(aj 46 (.bin .lss (.t 45) (.c (.int .i64 0)))),(av 47 46),(ay 48 (.mv (.t 8)) 47 false),(ay 49 (.mv (.t 6)) 47 false),(ay 50 (.lens (.t 49)) 47 false),(ay 51 (.bin .geq (.t 48) (.t 50)) 47 false),(aj 52 (.pick (.t 47) (.c (.bool true)) (.t 51))),(av 53 52),(ay 54 (.mv (.t 6)) 53 false),(ay 55 (.mv (.t 8)) 53 false),(ay 56 (.ixs (.t 54) (.t 55)) 53 false),(ay 57 (.bin .neq (.t 56) (.c (b8 64))) 53 false),(aj 58 (.pick (.t 53) (.c (.bool true)) (.t 57)))])
abbrev vw:az:=(.rg [(av 66 6),(av 67 9),(aj 68 (.iP (.t 66) none (some (.t 67)))),(aj 69 (.call (.c (.fn 79 [])) [(.t 68)])),(aj 70 (.un .not (.t 69))),(av 71 70),(ay 72 (.mv (.t 9)) 71 false),(ay 73 (.mv (.t 6)) 71 false),(ay 74 (.lens (.t 73)) 71 false),(ay 75 (.bin .geq (.t 72) (.t 74)) 71 false),(aj 76 (.pick (.t 71) (.c (.bool true)) (.t 75))),(av 77 76),(ay 78 (.mv (.t 6)) 77 false),(ay 79 (.mv (.t 9)) 77 false),(ay 80 (.ixs (.t 78) (.t 79)) 77 false),(ay 81 (.bin .neq (.t 80) (.c (b8 62))) 77 false),(aj 82 (.pick (.t 77) (.c (.bool true)) (.t 81)))])
abbrev vz:az:=(.rg [(aj 93 (.CT (.t 10) (some 2))),(av 94 6),(av 95 9),(aj 96 (.bin .add (.t 95) (.c (.int .i64 1)))),(aj 97 (.iP (.t 94) (some (.t 96)) none)),(cZ (.st (.t 2) (.t 93) 2)),(aO 3 97),(aj 4 (.aT (.c (.int .i64 0))))])
abbrev Im:az:=(.seq (.rg [(aj 2 (.alloc [(.str []),(.str [])])),(aj 3 (.aT (.c (.str [])))),(aj 4 (.aT (.c (.int .i64 0))))]) (.seq (.seq (.sem (erase vt)) (.cond (.t 17) (.seq (.rg [(aj 18 (.build [(.str []),(.str [])] [])),(cZ (.st (.t 2) (.t 18) 2)),(aj 3 (.aT (.c (.str [])))),(aj 4 (.aT (.c (.int .i64 3))))]) .ret) .skip)) (.seq (.seq (.sem (erase vu)) (.cond (.t 26) (.seq (.rg [(aj 27 (.build [(.str []),(.str [])] [])),(av 28 0),(aj 29 (.iP (.t 28) (some (.c (.int .i64 2))) none)),(cZ (.st (.t 2) (.t 27) 2)),(aO 3 29),(aj 4 (.aT (.c (.int .i64 0))))]) .ret) .skip)) (.seq (.rg [(av 30 0),(aj 31 (.iP (.t 30) (some (.c (.int .i64 1))) none)),(aj 32 (.call (.c (.fn 76 [])) [(.t 31)])),(aO 5 32)]) (.seq (.seq (.rg [(av 33 5),(aj 34 (.bin .lss (.t 33) (.c (.int .i64 0))))]) (.cond (.t 34) (.seq (.rg [(aj 35 (.build [(.str []),(.str [])] [])),(cZ (.st (.t 2) (.t 35) 2)),(aj 3 (.aT (.c (.str [])))),(aj 4 (.aT (.c (.int .i64 3))))]) .ret) .skip)) (.seq (.rg [(av 36 0),(av 37 5),(aj 38 (.bin .add (.c (.int .i64 1)) (.t 37))),(aj 39 (.iP (.t 36) (some (.t 38)) none)),(aO 6 39)]) (.seq (.rg [(av 41 6),(aj 42 (.call (.c (.fn 77 [])) [(.t 41)])),(av 40 42),(aj 43 (.ext (.t 40) 0)),(aj 44 (.ext (.t 40) 1)),(aO 7 43),(aO 8 44)]) (.seq (.seq (.sem (erase vv)) (.cond (.t 58) (.seq (.rg [(aj 59 (.build [(.str []),(.str [])] [])),(cZ (.st (.t 2) (.t 59) 2)),(aj 3 (.aT (.c (.str [])))),(aj 4 (.aT (.c (.int .i64 3))))]) .ret) .skip)) (.seq (.rg [(av 60 6),(av 61 8),(aj 62 (.bin .add (.t 61) (.c (.int .i64 1)))),(aj 63 (.iP (.t 60) (some (.t 62)) none)),(aO 6 63)]) (.seq (.rg [(av 64 6),(aj 65 (.call (.c (.fn 78 [])) [(.t 64)])),(aO 9 65)]) (.seq (.seq (.sem (erase vw)) (.cond (.t 82) (.seq (.rg [(aj 83 (.build [(.str []),(.str [])] [])),(cZ (.st (.t 2) (.t 83) 2)),(aj 3 (.aT (.c (.str [])))),(aj 4 (.aT (.c (.int .i64 3))))]) .ret) .skip)) (.seq (.rg [(av 84 7),(av 85 6),(av 86 9),(aj 87 (.iP (.t 85) none (some (.t 86)))),(aj 88 (.build [(.str []),(.str [])] [(0,(1,(.t 84))),(1,(1,(.t 87)))])),(aj 10 (.alloc [(.str []),(.str [])])),(cZ (.st (.t 10) (.t 88) 2))]) (.seq (.seq (.rg [(aj 89 (.ld (.t 10) (some 2))),(aj 90 (.call (.c (.fn 58 [])) [(.t 89)])),(aj 91 (.un .not (.t 90)))]) (.cond (.t 91) (.seq (.rg [(aj 92 (.build [(.str []),(.str [])] [])),(cZ (.st (.t 2) (.t 92) 2)),(aj 3 (.aT (.c (.str [])))),(aj 4 (.aT (.c (.int .i64 5))))]) .ret) .skip)) (.seq (.sem (erase vz)) .ret))))))))))))))
theorem Io:bL Tryz.prog 51 98 [(.cell 2 24),(.tmp 3),(.tmp 4)] (erase Im):=⟨Tryz.f51,_,rfl,by decide,rfl,by kernel_rfl,rfl,rfl⟩
abbrev jM:List Nat:=[0,2,3,4,5,6,7,8,9,10,17,26,34,58,82,91]
def kB (s1:List UInt8):Option (Bool):=
 (if (decide (s1=([]:List UInt8))) then
  some true
 else
  (idx s1 0).bind fun x3=>some (!decide (x3=60)))
def kC (s1:List UInt8):Option (Bool):=
 (if (decide (1<(s1.length:Int))) then
  (idx s1 1).bind fun x7=>some (decide (x7=62))
 else
  some false)
def kD (de:Int) (iu:List UInt8):Option (Bool):=
 (if (decide (de<0)) then
  some true
 else
  (if (decide ((iu.length:Int)≤de)) then
   some true
  else
   (idx iu de).bind fun jT=>some (!decide (jT=64))))
def kE (F:Nat) (oa:List UInt8) (nK:Int):Option (Bool):=
 (sub oa 0 nK).bind fun F4=>
 (k6 F F4).bind fun Un=>
 (if (!Un) then
  some true
 else
  (if (decide ((oa.length:Int)≤nK)) then
   some true
  else
   (idx oa nK).bind fun F6=>some (!decide (F6=62))))
def nT (oa:List UInt8) (nK:Int) (jS:List UInt8) (zW:List UInt8):Option ((List UInt8)×Int×aB):=
 (sub oa (IntKind.wrap .i64 (nK+1)) (oa.length:Int)).bind fun Up=>some (Up,0,(aB.mk jS zW))
def oX (F:Nat) (s1:List UInt8):Option (aB×(List UInt8)×Int):=
 (kB s1).bind fun t5=>
 (if t5 then
  some ((aB.mk ([]:List UInt8) ([]:List UInt8)),([]:List UInt8),3)
 else
  (kC s1).bind fun t9=>
  (if t9 then
   (sub s1 2 (s1.length:Int)).bind fun wA=>
   some ((aB.mk ([]:List UInt8) ([]:List UInt8)),wA,0)
  else
   (sub s1 1 (s1.length:Int)).bind fun ig=>
   (k8 F ig).bind fun jQ=>
   (if (decide (jQ<0)) then
    some ((aB.mk ([]:List UInt8) ([]:List UInt8)),([]:List UInt8),3)
   else
    (sub s1 (IntKind.wrap .i64 (1+jQ)) (s1.length:Int)).bind fun iu=>
    (lf F iu).bind fun (jS,de)=>
    (kD de iu).bind fun t19=>
    (if t19 then
     some ((aB.mk ([]:List UInt8) ([]:List UInt8)),([]:List UInt8),3)
    else
     (sub iu (IntKind.wrap .i64 (de+1)) (iu.length:Int)).bind fun oa=>
     (jL F oa).bind fun nK=>
     (kE F oa nK).bind fun t27=>
     (if t27 then
      some ((aB.mk ([]:List UInt8) ([]:List UInt8)),([]:List UInt8),3)
     else
      (sub oa 0 nK).bind fun zW=>
      (lg F (aB.mk jS zW)).bind fun gH=>
      (if (!gH) then
       some ((aB.mk ([]:List UInt8) ([]:List UInt8)),([]:List UInt8),5)
      else
       (nT oa nK jS zW).bind fun (t35,t36,Uq)=>
       some (Uq,t35,t36)))))))
theorem Cg {s1:List UInt8} {q2:Nat} {H0 H:AH} (hfr:Fr H0 H0.length [] H) (ai:H[q2]? =some [(.str ([]:List UInt8)),(.str ([]:List UInt8))]) (dB:H0.length≤q2) {K:Exit→Env→AH→Prop} {t4:Bool}
 (h:kB s1=some t4)
 (kn:∀H':AH,Fr H0 H0.length [] H'→H'[q2]? =some [(.str ([]:List UInt8)),(.str ([]:List UInt8))]→K .normal [(0,(.str s1)),(2,(.ptr q2 0)),(17,(.bool t4))] H'):
 AX Tryz.prog jM 98 H0.length (erase vt) K [(0,(.str s1)),(2,(.ptr q2 0))] H:=by
 refine bY fun K' hK=> ?_
 have hle:=hfr.le
 have aL:=aN ai
 rw [kB.eq_1] at h
 refine ax ai ?_
 refine bT h (fun hy1 h=> ?_) fun hy1 h=> ?_
 · refine ax (aA hy1 ai) ?_
   obtain rfl:=aD h
   exact hK _ _ _ _ _ aK aq (kn _ hfr (ai.trans rfl))
 · obtain ⟨x3,hy2,h⟩:=au h
   refine ax (aA hy1 (aA hy2 ai)) ?_
   obtain rfl:=aD h
   exact hK _ _ _ _ _ aK aq (kn _ hfr (ai.trans rfl))
theorem Ch {s1:List UInt8} {q6:Nat} {H0 H:AH} (hfr:Fr H0 H0.length [] H) (ai:H[q6]? =some [(.str ([]:List UInt8)),(.str ([]:List UInt8))]) (dB:H0.length≤q6) {K:Exit→Env→AH→Prop} {t8:Bool}
 (h:kC s1=some t8)
 (kn:∀H':AH,Fr H0 H0.length [] H'→H'[q6]? =some [(.str ([]:List UInt8)),(.str ([]:List UInt8))]→K .normal [(0,(.str s1)),(2,(.ptr q6 0)),(26,(.bool t8))] H'):
 AX Tryz.prog jM 98 H0.length (erase vu) K [(0,(.str s1)),(2,(.ptr q6 0))] H:=by
 refine bY fun K' hK=> ?_
 have hle:=hfr.le
 have aL:=aN ai
 rw [kC.eq_1] at h
 refine ax ai ?_
 refine bT h (fun bJ h=> ?_) fun bJ h=> ?_
 · obtain ⟨x7,ck,h⟩:=au h
   refine ax (aA bJ (aA ck ai)) ?_
   obtain rfl:=aD h
   exact hK _ _ _ _ _ aK aq (kn _ hfr (ai.trans rfl))
 · refine ax (aA bJ ai) ?_
   obtain rfl:=aD h
   exact hK _ _ _ _ _ aK aq (kn _ hfr (ai.trans rfl))
theorem Ci {de:Int} {iu:List UInt8} {Cj:Nat} {jS:List UInt8} {H0 H:AH} (hfr:Fr H0 H0.length [] H) (ai:H[Cj]? =some [(.str ([]:List UInt8)),(.str ([]:List UInt8))]) (dB:H0.length≤Cj) {K:Exit→Env→AH→Prop} {t18:Bool}
 (h:kD de iu=some t18)
 (kn:∀H':AH,Fr H0 H0.length [] H'→H'[Cj]? =some [(.str ([]:List UInt8)),(.str ([]:List UInt8))]→K .normal [(2,(.ptr Cj 0)),(6,(.str iu)),(7,(.str jS)),(8,(.int .i64 de)),(58,(.bool t18))] H'):
 AX Tryz.prog jM 98 H0.length (erase vv) K [(2,(.ptr Cj 0)),(6,(.str iu)),(7,(.str jS)),(8,(.int .i64 de))] H:=by
 refine bY fun K' hK=> ?_
 have hle:=hfr.le
 have aL:=aN ai
 rw [kD.eq_1] at h
 refine ax ai ?_
 refine bT h (fun eM h=> ?_) fun eM h=> ?_
 · refine ax (aA eM ai) ?_
   obtain rfl:=aD h
   exact hK _ _ _ _ _ aK aq (kn _ hfr (ai.trans rfl))
 · refine ax (aA eM ai) ?_
   refine bT h (fun dM h=> ?_) fun dM h=> ?_
   · refine ax (aA dM ai) ?_
     obtain rfl:=aD h
     exact hK _ _ _ _ _ aK aq (kn _ hfr (ai.trans rfl))
   · obtain ⟨jT,gi,h⟩:=au h
     refine ax (aA dM (aA gi ai)) ?_
     obtain rfl:=aD h
     exact hK _ _ _ _ _ aK aq (kn _ hfr (ai.trans rfl))
theorem Ck {F:Nat} {oa:List UInt8} {nK:Int} {qt:Nat} {jS:List UInt8} {H0 H:AH} (hfr:Fr H0 H0.length [] H) (ai:H[qt]? =some [(.str ([]:List UInt8)),(.str ([]:List UInt8))]) (dB:H0.length≤qt) {K:Exit→Env→AH→Prop} {t26:Bool}
 (h:kE F oa nK=some t26)
 (kn:∀H':AH,Fr H0 H0.length [] H'→H'[qt]? =some [(.str ([]:List UInt8)),(.str ([]:List UInt8))]→K .normal [(2,(.ptr qt 0)),(6,(.str oa)),(7,(.str jS)),(9,(.int .i64 nK)),(82,(.bool t26))] H'):
 AX Tryz.prog jM 98 H0.length (erase vw) K [(2,(.ptr qt 0)),(6,(.str oa)),(7,(.str jS)),(9,(.int .i64 nK))] H:=by
 refine bY fun K' hK=> ?_
 have hle:=hfr.le
 have aL:=aN ai
 rw [kE.eq_1] at h
 obtain ⟨F4,fT,h⟩:=au h
 refine ax (aA fT ai) ?_
 obtain ⟨Un,jo,h⟩:=au h
 refine bw aq (xl jo) ?_
 refine ax ai ?_
 refine bT h (fun ie h=> ?_) fun ie h=> ?_
 · refine ax (aA ie ai) ?_
   obtain rfl:=aD h
   exact hK _ _ _ _ _ aK aq (kn _ hfr (ai.trans rfl))
 · refine ax (aA ie ai) ?_
   refine bT h (fun iF h=> ?_) fun iF h=> ?_
   · refine ax (aA iF ai) ?_
     obtain rfl:=aD h
     exact hK _ _ _ _ _ aK aq (kn _ hfr (ai.trans rfl))
   · obtain ⟨F6,kq,h⟩:=au h
     refine ax (aA iF (aA kq ai)) ?_
     obtain rfl:=aD h
     exact hK _ _ _ _ _ aK aq (kn _ hfr (ai.trans rfl))
theorem Cm {oa:List UInt8} {nK:Int} {jS:List UInt8} {zW:List UInt8} {Ur:Nat} {H0 H:AH} (hfr:Fr H0 H0.length [] H) (ai:H[Ur]? =some [(.str ([]:List UInt8)),(.str ([]:List UInt8))]) (dB:H0.length≤Ur) {K:Exit→Env→AH→Prop} {t32:List UInt8} {t33:Int} {s34:aB}
 (h:nT oa nK jS zW=some (t32,t33,s34))
 (kn:∀H':AH,Fr H0 H0.length [] H'→H'[Ur]? =some [(.str s34.ak),(.str s34.domain)]→K .normal [(2,(.ptr Ur 0)),(3,(.str t32)),(4,(.int .i64 t33))] H'):
 AX Tryz.prog jM 98 H0.length (erase vz) K [(2,(.ptr Ur 0)),(6,(.str oa)),(9,(.int .i64 nK)),(10,(.ep (.agg [(.str jS),(.str zW)]) 0))] H:=by
 refine bY fun K' hK=> ?_
 have hle:=hfr.le
 have aL:=aN ai
 rw [nT.eq_1] at h
 obtain ⟨Up,GC,h⟩:=au h
 refine ax (aA GC ai) ?_
 obtain ⟨rfl,rfl,rfl⟩:=qN h
 exact hK _ _ _ _ _ aK aq (kn _ (b6 _ hfr) cL)
theorem GJ {F:Nat} {s1:List UInt8} {H0:AH} {aS:aB} {fE:List UInt8} {MM:Int} (h:oX F s1=some (aS,fE,MM)):
 aG Tryz.prog 51 [(.str s1)] H0 fun v H'=>v=(.bG [(.agg [(.str aS.ak),(.str aS.domain)]),(.str fE),(.int .i64 MM)])∧H'=H0:=by
 refine lN Io jM [] fun hcl K0 aP H hH hfr=> ?_
 clear hH
 have hle:=hfr.le
 rw [oX.eq_1] at h
 refine cj ?_
 obtain ⟨q2,hO⟩:∃q:Nat,H.length=q:=⟨_,rfl⟩
 try rw [hO]
 obtain ⟨t5,hy3,h⟩:=au h
 refine bA aq (Cg (q2:=q2) (Fr.app hfr) pJ bU hy3 ?_)
 intro H hfr ai
 have hle:=hfr.le
 have aL:=aN ai
 refine ax ai ?_
 refine bk h (fun hy4 h=> ?_) fun hy4 h=> ?_
 · refine ax ai ?_
   obtain ⟨rfl,rfl,rfl⟩:=qN h
   exact aP _ _ _ bh (aR (b6 _ hfr) hcl (br (cs:=[(.str ([]:List UInt8)),(.str ([]:List UInt8))]) (v:=(.agg [(.str ([]:List UInt8)),(.str ([]:List UInt8))])) (by kernel_rfl) (n:=(some 2)) (by kernel_rfl) rfl cL (by simp [bO,bN,eC,aX,AV.flat,cu,cR,AV.bB,Tg.sh]) (aU (aU aZ (.int .i64 3)) (.str ([]:List UInt8)))) bf aW ⟨rfl,rfl⟩)
 · refine ax ai ?_
   obtain ⟨t9,cF,h⟩:=au h
   refine bA aq (Ch (q6:=q2) hfr (ai.trans rfl) bU cF ?_)
   intro H hfr ai
   have hle:=hfr.le
   have aL:=aN ai
   refine ax ai ?_
   refine bk h (fun cv h=> ?_) fun cv h=> ?_
   · obtain ⟨wA,cM,h⟩:=au h
     refine ax (aA cM ai) ?_
     obtain ⟨rfl,rfl,rfl⟩:=qN h
     exact aP _ _ _ bh (aR (b6 _ hfr) hcl (br (cs:=[(.str ([]:List UInt8)),(.str ([]:List UInt8))]) (v:=(.agg [(.str ([]:List UInt8)),(.str ([]:List UInt8))])) (by kernel_rfl) (n:=(some 2)) (by kernel_rfl) rfl cL (by simp [bO,bN,eC,aX,AV.flat,cu,cR,AV.bB,Tg.sh]) (aU (aU aZ (.int .i64 0)) (.str wA))) bf aW ⟨rfl,rfl⟩)
   · obtain ⟨ig,cc,h⟩:=au h
     refine ax (aA cc ai) ?_
     obtain ⟨jQ,cx,h⟩:=au h
     refine bw aq (ER cx) ?_
     refine ax ai ?_
     refine bk h (fun cN h=> ?_) fun cN h=> ?_
     · refine ax ai ?_
       obtain ⟨rfl,rfl,rfl⟩:=qN h
       exact aP _ _ _ bh (aR (b6 _ hfr) hcl (br (cs:=[(.str ([]:List UInt8)),(.str ([]:List UInt8))]) (v:=(.agg [(.str ([]:List UInt8)),(.str ([]:List UInt8))])) (by kernel_rfl) (n:=(some 2)) (by kernel_rfl) rfl cL (by simp [bO,bN,eC,aX,AV.flat,cu,cR,AV.bB,Tg.sh]) (aU (aU aZ (.int .i64 3)) (.str ([]:List UInt8)))) bf aW ⟨rfl,rfl⟩)
     · obtain ⟨iu,cI,h⟩:=au h
       refine ax (aA cI ai) ?_
       obtain ⟨⟨jS,de⟩,dD,h⟩:=au h
       dsimp only at h
       refine bw aq (ES dD) ?_
       refine ax ai ?_
       obtain ⟨t19,fS,h⟩:=au h
       refine bA aq (Ci (jS:=jS) (Cj:=q2) hfr (ai.trans rfl) bU fS ?_)
       intro H hfr ai
       have hle:=hfr.le
       have aL:=aN ai
       refine ax ai ?_
       refine bk h (fun fC h=> ?_) fun fC h=> ?_
       · refine ax ai ?_
         obtain ⟨rfl,rfl,rfl⟩:=qN h
         exact aP _ _ _ bh (aR (b6 _ hfr) hcl (br (cs:=[(.str ([]:List UInt8)),(.str ([]:List UInt8))]) (v:=(.agg [(.str ([]:List UInt8)),(.str ([]:List UInt8))])) (by kernel_rfl) (n:=(some 2)) (by kernel_rfl) rfl cL (by simp [bO,bN,eC,aX,AV.flat,cu,cR,AV.bB,Tg.sh]) (aU (aU aZ (.int .i64 3)) (.str ([]:List UInt8)))) bf aW ⟨rfl,rfl⟩)
       · obtain ⟨oa,eA,h⟩:=au h
         refine ax (aA eA ai) ?_
         obtain ⟨nK,eT,h⟩:=au h
         refine bw aq (vn eT) ?_
         refine ax ai ?_
         obtain ⟨t27,rD,h⟩:=au h
         refine bA aq (Ck (jS:=jS) (qt:=q2) hfr (ai.trans rfl) bU rD ?_)
         intro H hfr ai
         have hle:=hfr.le
         have aL:=aN ai
         refine ax ai ?_
         refine bk h (fun tH h=> ?_) fun tH h=> ?_
         · refine ax ai ?_
           obtain ⟨rfl,rfl,rfl⟩:=qN h
           exact aP _ _ _ bh (aR (b6 _ hfr) hcl (br (cs:=[(.str ([]:List UInt8)),(.str ([]:List UInt8))]) (v:=(.agg [(.str ([]:List UInt8)),(.str ([]:List UInt8))])) (by kernel_rfl) (n:=(some 2)) (by kernel_rfl) rfl cL (by simp [bO,bN,eC,aX,AV.flat,cu,cR,AV.bB,Tg.sh]) (aU (aU aZ (.int .i64 3)) (.str ([]:List UInt8)))) bf aW ⟨rfl,rfl⟩)
         · obtain ⟨zW,GA,h⟩:=au h
           refine ax (aA GA ai) ?_
           obtain ⟨gH,D9,h⟩:=au h
           refine bw aq (xp D9) ?_
           refine ax ai ?_
           refine bk h (fun GB h=> ?_) fun GB h=> ?_
           · refine ax ai ?_
             obtain ⟨rfl,rfl,rfl⟩:=qN h
             exact aP _ _ _ bh (aR (b6 _ (b6 _ (Fr.app hfr))) hcl (br (cs:=[(.str ([]:List UInt8)),(.str ([]:List UInt8))]) (v:=(.agg [(.str ([]:List UInt8)),(.str ([]:List UInt8))])) (by kernel_rfl) (n:=(some 2)) (by kernel_rfl) rfl cL (by simp [bO,bN,eC,aX,AV.flat,cu,cR,AV.bB,Tg.sh]) (aU (aU aZ (.int .i64 5)) (.str ([]:List UInt8)))) bf aW ⟨rfl,rfl⟩)
           · refine ax ai ?_
             refine XX ?_
             apply AX.freeze (s:=H.length) (cs:=[(.str jS),(.str zW)]) (by exact cL) (gR.same (gR.same (gR.nil))) (by simp) rfl
             · repeat (first|exact FZ.nil|apply FZ.ep|apply FZ.same)
             refine ouZ ?_
             obtain ⟨⟨t35,t36,Uq⟩,MY,h⟩:=au h
             dsimp only at h
             refine bA aq (Cm (Ur:=q2) (b6 _ (b6 _ (Fr.app hfr))) (gq (gq (lU (ai.trans rfl)))) bU MY ?_)
             intro H hfr ai
             have hle:=hfr.le
             have aL:=aN ai
             refine ax ai ?_
             obtain ⟨rfl,rfl,rfl⟩:=qN h
             exact aP _ _ _ bh (aR hfr hcl (br (cs:=[(.str Uq.ak),(.str Uq.domain)]) (v:=(.agg [(.str Uq.ak),(.str Uq.domain)])) (by kernel_rfl) (n:=(some 2)) (by kernel_rfl) rfl (ai.trans rfl) (by simp [bO,bN,eC,aX,AV.flat,cu,cR,AV.bB,Tg.sh]) (aU (aU aZ (.int .i64 t36)) (.str t35))) bf aW ⟨rfl,rfl⟩)
abbrev vA:az:=(.rg [(av 12 4),(aj 13 (.bin .eql (.t 12) (.c (.str [])))),(av 14 13),(ay 15 (.mv (.t 4)) 14 false),(ay 16 (.lens (.t 15)) 14 false),(ay 17 (.bin .gtr (.t 16) (.c (.int .i64 9))) 14 false),(aj 18 (.pick (.t 14) (.c (.bool true)) (.t 17)))])
abbrev vB:az:=(.rg [(av 25 4),(av 26 6),(aj 27 (.ixs (.t 25) (.t 26))),(aj 28 (.bin .lss (.t 27) (.c (b8 48)))),(av 29 28),(ay 30 (.mv (.t 4)) 29 false),(ay 31 (.mv (.t 6)) 29 false),(ay 32 (.ixs (.t 30) (.t 31)) 29 false),(ay 33 (.bin .gtr (.t 32) (.c (b8 57))) 29 false),(aj 34 (.pick (.t 29) (.c (.bool true)) (.t 33)))])
abbrev ua:az:=(.seq (.seq (.rg [(av 19 6),(av 20 4),(aj 21 (.lens (.t 20))),(aj 22 (.bin .lss (.t 19) (.t 21)))]) (.cond (.t 22) .skip (.exit 0))) (.seq (.blk 1 (.seq (.seq (.sem (erase vB)) (.cond (.t 34) (.seq (.rg [(aj 2 (.aT (.c (.int .i64 0)))),(aj 3 (.aT (.c (.bool false))))]) .ret) .skip)) (.rg [(av 35 5),(aj 36 (.bin .mul (.c (.int .i64 10)) (.t 35))),(av 37 4),(av 38 6),(aj 39 (.ixs (.t 37) (.t 38))),(aj 40 (.bin .sub (.t 39) (.c (b8 48)))),(aj 41 (.iT (.int .i64) (.t 40))),(aj 42 (.bin .add (.t 36) (.t 41))),(aO 5 42)]))) (.rg [(av 23 6),(aj 24 (.bin .add (.t 23) (.c (.int .i64 1)))),(aO 6 24)])))
abbrev Ip:az:=(.seq (.rg [(aj 2 (.aT (.c (.int .i64 0)))),(aj 3 (.aT (.c (.bool false))))]) (.seq (.seq (.rg [(av 7 0),(aj 8 (.call (.c (.fn 50 [])) [(.t 7),(.c (.str [32,115,105,122,101,61]))])),(aj 9 (.un .not (.t 8)))]) (.cond (.t 9) (.seq (.rg [(aj 2 (.aT (.c (.int .i64 0)))),(aj 3 (.aT (.c (.bool false))))]) .ret) .skip)) (.seq (.rg [(av 10 0),(aj 11 (.iP (.t 10) (some (.c (.int .i64 6))) none)),(aO 4 11)]) (.seq (.seq (.sem (erase vA)) (.cond (.t 18) (.seq (.rg [(aj 2 (.aT (.c (.int .i64 0)))),(aj 3 (.aT (.c (.bool false))))]) .ret) .skip)) (.seq (.rg [(aj 5 (.aT (.c (.int .i64 0))))]) (.seq (.seq (.rg [(aj 6 (.aT (.c (.int .i64 0))))]) (.blk 0 (.loop (erase ua)))) (.seq (.rg [(av 43 5),(aO 2 43),(aj 3 (.aT (.c (.bool true))))]) .ret)))))))
theorem Iq:bL Tryz.prog 53 44 [(.tmp 2),(.tmp 3)] (erase Ip):=⟨Tryz.f53,_,rfl,by decide,rfl,by kernel_rfl,rfl,rfl⟩
abbrev oO:List Nat:=[0,2,3,4,5,6,9,18,22,34]
def nU (x3:List UInt8) (i5:Int):Option (Bool):=
 (idx x3 i5).bind fun x6=>
 (if (decide (x6<48)) then
  some true
 else
  some (decide (57<x6)))
def fD (x3:List UInt8):(Int×Int)→Option (St (Int×Bool) Int (Int×Int))
 |(DF,i5)=>
  (if (decide (i5<(x3.length:Int))) then
   (nU x3 i5).bind fun t8=>
   (if t8 then
    some (.ret (0,false))
   else
    (idx x3 i5).bind fun x9=>
    some (.cA ((IntKind.wrap .i64 ((IntKind.wrap .i64 (10*DF))+(IntKind.wrap .i64 ((x9 - 48).toNat:Int)))),(IntKind.wrap .i64 (i5+1)))))
  else
   some (.dQ DF))
def oY (F:Nat) (s1:List UInt8):Option (Int×Bool):=
 (kZ F s1 ([32,115,105,122,101,61]:List UInt8)).bind fun r2=>
 (if (!r2) then
  some (0,false)
 else
  (sub s1 6 (s1.length:Int)).bind fun x3=>
  (if ((decide (x3=([]:List UInt8)))||(decide (9<(x3.length:Int)))) then
   some (0,false)
  else
   ((iter (fD x3) F (0,0)).bind fun ML=>
   match ML with
   | .inr Ya=>
     some (Ya,true)
   | .inl (jS,de)=>
     some (jS,de))))
theorem Cn {x3:List UInt8} {H:AH} {K:Exit→Env→AH→Prop}
 (kn:K .normal [(4,(.str x3)),(18,(.bool ((decide (x3=([]:List UInt8)))||(decide (9<(x3.length:Int))))))] H):
 AX Tryz.prog oO 44 H.length (erase vA) K [(4,(.str x3))] H:=by
 refine bY fun K' hK=> ?_
 refine aF ?_
 refine gG (fun hy4=> ?_) fun hy4=> ?_
 · refine aY hy4 ?_
   exact hK _ _ _ _ _ (dj hy4) aq kn
 · refine aY hy4 ?_
   exact hK _ _ _ _ _ (dj hy4) aq kn
theorem Co {x3:List UInt8} {i5:Int} {DF:Int} {H:AH} {K:Exit→Env→AH→Prop} {t7:Bool}
 (h:nU x3 i5=some t7)
 (kn:K .normal [(4,(.str x3)),(5,(.int .i64 DF)),(6,(.int .i64 i5)),(34,(.bool t7))] H):
 AX Tryz.prog oO 44 H.length (erase vB) K [(4,(.str x3)),(5,(.int .i64 DF)),(6,(.int .i64 i5))] H:=by
 refine bY fun K' hK=> ?_
 rw [nU.eq_1] at h
 obtain ⟨x6,cF,h⟩:=au h
 refine aY cF ?_
 refine bT h (fun cv h=> ?_) fun cv h=> ?_
 · refine aY cv ?_
   obtain rfl:=aD h
   exact hK _ _ _ _ _ aK aq kn
 · refine aY (aA cv cF) ?_
   obtain rfl:=aD h
   exact hK _ _ _ _ _ aK aq kn
theorem Cp {F:Nat} {i5:Int} {x3:List UInt8} {DF:Int} {H:AH} {K:Exit→Env→AH→Prop} {o:(Int×Bool)⊕(Int)}
 (h:iter (fD x3) F (DF,i5)=some o)
 (dz:∀o':Int,o= .inr o'→K (.exit 0) [(5,(.int .i64 o'))] H)
 (kr:∀o':Int×Bool,o= .inl o'→K .ret [(2,(.int .i64 o'.1)),(3,(.bool o'.2))] H):
 AX Tryz.prog oO 44 H.length (.loop (erase ua)) K [(4,(.str x3)),(5,(.int .i64 DF)),(6,(.int .i64 i5))] H:=by
 refine iE (fun s e H1=>match s with|(DF,i5)=>e=[(4,(.str x3)),(5,(.int .i64 DF)),(6,(.int .i64 i5))]∧H1=H) h ⟨rfl,rfl⟩ ?_
 rintro K' ⟨DF,i5⟩ st e H ⟨rfl,rfl⟩ h hN hB hR hX
 rw [fD.eq_1] at h
 refine aF ?_
 refine bk h (fun ck h=> ?_) fun ck h=> ?_
 · refine aF ?_
   obtain ⟨t8,cM,h⟩:=au h
   refine bA aq (Co (DF:=DF) cM ?_)
   refine aF ?_
   refine bk h (fun cc h=> ?_) fun cc h=> ?_
   · refine aF ?_
     obtain rfl:=aD h
     exact hX _ _ _ _ _ dH aK aq (kr _ (hR _ rfl))
   · obtain ⟨x9,cx,h⟩:=au h
     refine aY cx ?_
     obtain rfl:=aD h
     exact hN _ rfl _ _ _ _ aK aq ⟨rfl,rfl⟩
 · refine aF ?_
   obtain rfl:=aD h
   exact hX _ _ _ _ _ dH aK aq (dz _ (hB _ rfl))
theorem GK {F:Nat} {s1:List UInt8} {H0:AH} {aS:Int} {fE:Bool} (h:oY F s1=some (aS,fE)):
 aG Tryz.prog 53 [(.str s1)] H0 fun v H'=>v=(.bG [(.int .i64 aS),(.bool fE)])∧H'=H0:=by
 refine gr Iq oO fun hcl K0 aP=> ?_
 rw [oY.eq_1] at h
 refine aF ?_
 obtain ⟨r2,hy1,h⟩:=au h
 refine bw aq (xk hy1) ?_
 refine aF ?_
 refine bk h (fun hy2 h=> ?_) fun hy2 h=> ?_
 · refine aF ?_
   obtain ⟨rfl,rfl⟩:=cT h
   exact aP _ _ _ bh (aM hcl (aU (aU aZ (.bool false)) (.int .i64 0)) bf aW ⟨rfl,rfl⟩)
 · obtain ⟨x3,hy3,h⟩:=au h
   refine aY hy3 ?_
   refine bA aq (Cn (x3:=x3) ?_)
   refine aF ?_
   refine bk h (fun bJ h=> ?_) fun bJ h=> ?_
   · refine aF ?_
     obtain ⟨rfl,rfl⟩:=cT h
     exact aP _ _ _ bh (aM hcl (aU (aU aZ (.bool false)) (.int .i64 0)) bf aW ⟨rfl,rfl⟩)
   · refine aF ?_
     obtain ⟨ML,cN,h⟩:=au h
     refine bA aq (Cp cN ?_ ?_)
     · rintro Ya rfl
       try dsimp only at h
       refine aF ?_
       obtain ⟨rfl,rfl⟩:=cT h
       exact aP _ _ _ bh (aM hcl (aU (aU aZ (.bool true)) (.int .i64 Ya)) bf aW ⟨rfl,rfl⟩)
     · rintro ⟨jS,de⟩ rfl
       try dsimp only at h
       refine aF ?_
       obtain ⟨rfl,rfl⟩:=cT h
       exact aP _ _ _ bh (aM hcl (aU (aU aZ (.bool de)) (.int .i64 jS)) bf aW ⟨rfl,rfl⟩)
abbrev vC:az:=(.cond (.t 15) (.rg [(aj 6 (.aT (.c (.str [32,116,111,58]))))]) .skip)
abbrev vD:az:=(.rg [(aj 31 (.cw (.t 7) 0)),(aj 32 (.ld (.t 31) none)),(aj 33 (.bin .eql (.t 32) (.c (.str [])))),(av 34 33),(ay 35 (.cw (.t 7) 1) 34 true),(ay 36 (.ld (.t 35) none) 34 true),(ay 37 (.bin .eql (.t 36) (.c (.str []))) 34 true),(aj 38 (.pick (.t 34) (.t 37) (.c (.bool false)))),(aO 10 38)])
abbrev vE:az:=(.rg [(av 39 9),(aj 40 (.bin .neq (.t 39) (.c (.int .i64 0)))),(av 41 40),(ay 42 (.mv (.t 0)) 41 false),(ay 43 (.bin .eql (.t 42) (.c (.int .i64 4))) 41 false),(ay 44 (.mv (.t 43)) 41 false),(ay 45 (.mv (.t 10)) 44 true),(ay 46 (.pick (.t 44) (.t 45) (.c (.bool false))) 41 false),(aj 47 (.pick (.t 41) (.c (.bool true)) (.t 46)))])
abbrev vF:az:=(.cond (.t 53) (.rg [(aj 54 (.cw (.t 11) 4)),(cZ (.st (.t 54) (.c (.int .i64 (-1))) 1))]) .skip)
abbrev vG:az:=(.rg [(av 63 13),(av 64 63),(ay 65 (.mv (.t 0)) 64 true),(ay 66 (.bin .eql (.t 65) (.c (.int .i64 3))) 64 true),(aj 67 (.pick (.t 64) (.t 66) (.c (.bool false))))])
abbrev Ir:az:=(.seq (.rg [(aj 4 (.alloc [(.int .i64 0),(.str []),(.str []),(.str []),(.int .i64 0)])),(aj 5 (.aT (.c (.int .i64 0))))]) (.seq (.rg [(aj 6 (.aT (.c (.str [32,102,114,111,109,58]))))]) (.seq (.seq (.rg [(av 14 0),(aj 15 (.bin .eql (.t 14) (.c (.int .i64 4))))]) (.sem (erase vC))) (.seq (.seq (.rg [(av 16 1),(av 17 6),(aj 18 (.call (.c (.fn 50 [])) [(.t 16),(.t 17)])),(aj 19 (.un .not (.t 18)))]) (.cond (.t 19) (.seq (.rg [(aj 20 (.build [(.int .i64 0),(.str []),(.str []),(.str []),(.int .i64 0)] [])),(cZ (.st (.t 4) (.t 20) 5)),(aj 5 (.aT (.c (.int .i64 501))))]) .ret) .skip)) (.seq (.rg [(av 22 1),(av 23 6),(aj 24 (.lens (.t 23))),(aj 25 (.iP (.t 22) (some (.t 24)) none)),(aj 26 (.call (.c (.fn 52 [])) [(.t 25)])),(aj 27 (.call (.c (.fn 51 [])) [(.t 26)])),(av 21 27),(aj 28 (.ext (.t 21) 0)),(aj 29 (.ext (.t 21) 1)),(aj 30 (.ext (.t 21) 2)),(aj 7 (.alloc [(.str []),(.str [])])),(cZ (.st (.t 7) (.t 28) 2)),(aO 8 29),(aO 9 30)]) (.seq (.sem (erase vD)) (.seq (.seq (.sem (erase vE)) (.cond (.t 47) (.seq (.rg [(aj 48 (.build [(.int .i64 0),(.str []),(.str []),(.str []),(.int .i64 0)] [])),(cZ (.st (.t 4) (.t 48) 5)),(aj 5 (.aT (.c (.int .i64 501))))]) .ret) .skip)) (.seq (.rg [(av 49 0),(aj 50 (.ld (.t 7) (some 2))),(aj 51 (.build [(.int .i64 0),(.str []),(.str []),(.str []),(.int .i64 0)] [(0,(1,(.t 49))),(2,(2,(.t 50)))])),(aj 11 (.alloc [(.int .i64 0),(.str []),(.str []),(.str []),(.int .i64 0)])),(cZ (.st (.t 11) (.t 51) 5))]) (.seq (.seq (.rg [(av 52 0),(aj 53 (.bin .eql (.t 52) (.c (.int .i64 3))))]) (.sem (erase vF))) (.seq (.seq (.rg [(av 55 8),(aj 56 (.bin .eql (.t 55) (.c (.str []))))]) (.cond (.t 56) (.seq (.rg [(aj 57 (.ld (.t 11) (some 5))),(cZ (.st (.t 4) (.t 57) 5)),(aj 5 (.aT (.c (.int .i64 0))))]) .ret) .skip)) (.seq (.rg [(av 59 8),(aj 60 (.call (.c (.fn 53 [])) [(.t 59)])),(av 58 60),(aj 61 (.ext (.t 58) 0)),(aj 62 (.ext (.t 58) 1)),(aO 12 61),(aO 13 62)]) (.seq (.seq (.sem (erase vG)) (.cond (.t 67) (.seq (.rg [(av 68 12),(aj 69 (.cw (.t 11) 4)),(cZ (.st (.t 69) (.t 68) 1))]) (.seq (.rg [(aj 70 (.ld (.t 11) (some 5))),(cZ (.st (.t 4) (.t 70) 5)),(aj 5 (.aT (.c (.int .i64 0))))]) .ret)) .skip)) (.seq (.seq (.rg [(av 71 8),(aj 72 (.ixs (.t 71) (.c (.int .i64 0)))),(aj 73 (.bin .eql (.t 72) (.c (b8 32))))]) (.cond (.t 73) (.seq (.rg [(aj 74 (.build [(.int .i64 0),(.str []),(.str []),(.str []),(.int .i64 0)] [])),(cZ (.st (.t 4) (.t 74) 5)),(aj 5 (.aT (.c (.int .i64 555))))]) .ret) .skip)) (.seq (.rg [(aj 75 (.build [(.int .i64 0),(.str []),(.str []),(.str []),(.int .i64 0)] [])),(cZ (.st (.t 4) (.t 75) 5)),(aj 5 (.aT (.c (.int .i64 501))))]) .ret))))))))))))))
theorem Is:bL Tryz.prog 29 76 [(.cell 4 29),(.tmp 5)] (erase Ir):=⟨Tryz.f29,_,rfl,by decide,rfl,by kernel_rfl,rfl,rfl⟩
abbrev jN:List Nat:=[0,1,4,5,6,7,8,9,10,11,12,13,15,19,47,53,56,67,73]
def kF (iQ:Int):Option ((List UInt8)):=
 (if (decide (iQ=4)) then
  some ([32,116,111,58]:List UInt8)
 else
  some ([32,102,114,111,109,58]:List UInt8))
def kG (iQ:Int) (r9:aB):Option (aC):=
 (if (decide (iQ=3)) then
  some (aC.mk iQ ([]:List UInt8) r9 (-1))
 else
  some (aC.mk iQ ([]:List UInt8) r9 0))
def kH (F:Nat) (iQ:Int) (so:List UInt8):Option (aC×Int):=
 (kF iQ).bind fun Qb=>
 (kZ F so Qb).bind fun r6=>
 (if (!r6) then
  some ((aC.mk 0 ([]:List UInt8) (aB.mk ([]:List UInt8) ([]:List UInt8)) 0),501)
 else
  (sub so (Qb.length:Int) (so.length:Int)).bind fun x7=>
  (oW F x7).bind fun r8=>
  (oX F r8).bind fun (r9,dR,mY)=>
  (if ((!decide (mY=0))||((decide (iQ=4))&&((decide (r9.ak=([]:List UInt8)))&&(decide (r9.domain=([]:List UInt8)))))) then
   some ((aC.mk 0 ([]:List UInt8) (aB.mk ([]:List UInt8) ([]:List UInt8)) 0),501)
  else
   (kG iQ r9).bind fun j0=>
   (if (decide (dR=([]:List UInt8))) then
    some (j0,0)
   else
    (oY F dR).bind fun (oT,nK)=>
    (if (nK&&(decide (iQ=3))) then
     some ((aC.mk j0.kind j0.arg j0.path oT),0)
    else
     (idx dR 0).bind fun F5=>
     (if (decide (F5=32)) then
      some ((aC.mk 0 ([]:List UInt8) (aB.mk ([]:List UInt8) ([]:List UInt8)) 0),555)
     else
      some ((aC.mk 0 ([]:List UInt8) (aB.mk ([]:List UInt8) ([]:List UInt8)) 0),501))))))
theorem Cq {iQ:Int} {so:List UInt8} {q3:Nat} {H0 H:AH} (hfr:Fr H0 H0.length [] H) (ai:H[q3]? =some [(.int .i64 0),(.str ([]:List UInt8)),(.str ([]:List UInt8)),(.str ([]:List UInt8)),(.int .i64 0)]) (dB:H0.length≤q3) {K:Exit→Env→AH→Prop} {Yb:List UInt8}
 (h:kF iQ=some Yb)
 (kn:∀H':AH,Fr H0 H0.length [] H'→H'[q3]? =some [(.int .i64 0),(.str ([]:List UInt8)),(.str ([]:List UInt8)),(.str ([]:List UInt8)),(.int .i64 0)]→K .normal [(0,(.int .i64 iQ)),(1,(.str so)),(4,(.ptr q3 0)),(6,(.str Yb))] H'):
 AX Tryz.prog jN 76 H0.length (erase vC) K [(0,(.int .i64 iQ)),(1,(.str so)),(4,(.ptr q3 0)),(6,(.str ([32,102,114,111,109,58]:List UInt8))),(15,(.bool (decide (iQ=4))))] H:=by
 refine bY fun K' hK=> ?_
 have hle:=hfr.le
 have aL:=aN ai
 rw [kF.eq_1] at h
 refine ax ai ?_
 refine bk h (fun hy1 h=> ?_) fun hy1 h=> ?_
 · refine ax ai ?_
   obtain rfl:=aD h
   exact hK _ _ _ _ _ aK aq (kn _ hfr (ai.trans rfl))
 · refine ax ai ?_
   obtain rfl:=aD h
   exact hK _ _ _ _ _ aK aq (kn _ hfr (ai.trans rfl))
theorem Cr {iQ:Int} {Qc:Nat} {kz:Nat} {dR:List UInt8} {mY:Int} {r9:aB} {H0 H:AH} (hfr:Fr H0 H0.length [] H) (ai:H[Qc]? =some [(.int .i64 0),(.str ([]:List UInt8)),(.str ([]:List UInt8)),(.str ([]:List UInt8)),(.int .i64 0)]) (aJ:H[kz]? =some [(.str r9.ak),(.str r9.domain)]) (dB:H0.length≤Qc) (hi1:H0.length≤kz) (hi2:Qc≠kz) {K:Exit→Env→AH→Prop}
 (kn:∀H':AH,Fr H0 H0.length [] H'→H'[Qc]? =some [(.int .i64 0),(.str ([]:List UInt8)),(.str ([]:List UInt8)),(.str ([]:List UInt8)),(.int .i64 0)]→H'[kz]? =some [(.str r9.ak),(.str r9.domain)]→K .normal [(0,(.int .i64 iQ)),(4,(.ptr Qc 0)),(7,(.ptr kz 0)),(8,(.str dR)),(9,(.int .i64 mY)),(10,(.bool ((decide (r9.ak=([]:List UInt8)))&&(decide (r9.domain=([]:List UInt8))))))] H'):
 AX Tryz.prog jN 76 H0.length (erase vD) K [(0,(.int .i64 iQ)),(4,(.ptr Qc 0)),(7,(.ptr kz 0)),(8,(.str dR)),(9,(.int .i64 mY))] H:=by
 refine bY fun K' hK=> ?_
 have hle:=hfr.le
 have aL:=aN ai
 have jc:=aN aJ
 refine ax (aA ai aJ) ?_
 refine gG (fun cv=> ?_) fun cv=> ?_
 · refine ax (aA cv (aA ai aJ)) ?_
   exact hK _ _ _ _ _ (dj cv) aq (kn _ hfr (ai.trans rfl) (aJ.trans rfl))
 · refine ax (aA cv (aA ai aJ)) ?_
   exact hK _ _ _ _ _ (dj cv) aq (kn _ hfr (ai.trans rfl) (aJ.trans rfl))
theorem Cs {iQ:Int} {Av:Nat} {Ct:Nat} {dR:List UInt8} {mY:Int} {r9:aB} {H0 H:AH} (hfr:Fr H0 H0.length [] H) (ai:H[Av]? =some [(.int .i64 0),(.str ([]:List UInt8)),(.str ([]:List UInt8)),(.str ([]:List UInt8)),(.int .i64 0)]) (aJ:H[Ct]? =some [(.str r9.ak),(.str r9.domain)]) (dB:H0.length≤Av) (hi1:H0.length≤Ct) (hi2:Av≠Ct) {K:Exit→Env→AH→Prop}
 (kn:∀H':AH,Fr H0 H0.length [] H'→H'[Av]? =some [(.int .i64 0),(.str ([]:List UInt8)),(.str ([]:List UInt8)),(.str ([]:List UInt8)),(.int .i64 0)]→H'[Ct]? =some [(.str r9.ak),(.str r9.domain)]→K .normal [(0,(.int .i64 iQ)),(4,(.ptr Av 0)),(7,(.ptr Ct 0)),(8,(.str dR)),(47,(.bool ((!decide (mY=0))||((decide (iQ=4))&&((decide (r9.ak=([]:List UInt8)))&&(decide (r9.domain=([]:List UInt8))))))))] H'):
 AX Tryz.prog jN 76 H0.length (erase vE) K [(0,(.int .i64 iQ)),(4,(.ptr Av 0)),(7,(.ptr Ct 0)),(8,(.str dR)),(9,(.int .i64 mY)),(10,(.bool ((decide (r9.ak=([]:List UInt8)))&&(decide (r9.domain=([]:List UInt8))))))] H:=by
 refine bY fun K' hK=> ?_
 have hle:=hfr.le
 have aL:=aN ai
 have jc:=aN aJ
 refine ax (aA ai aJ) ?_
 refine gG (fun cM=> ?_) fun cM=> ?_
 · refine ax (aA cM (aA ai aJ)) ?_
   exact hK _ _ _ _ _ (dj cM) aq (kn _ hfr (ai.trans rfl) (aJ.trans rfl))
 · refine ax (aA cM (aA ai aJ)) ?_
   refine gG (fun cc=> ?_) fun cc=> ?_
   · refine ax (aA cc (aA ai aJ)) ?_
     exact hK _ _ _ _ _ (dj (aA cM cc)) aq (kn _ hfr (ai.trans rfl) (aJ.trans rfl))
   · refine ax (aA cc (aA ai aJ)) ?_
     exact hK _ _ _ _ _ (dj (aA cM cc)) aq (kn _ hfr (ai.trans rfl) (aJ.trans rfl))
theorem Cu {iQ:Int} {r9:aB} {Cj:Nat} {dR:List UInt8} {wE:Nat} {H0 H:AH} (hfr:Fr H0 H0.length [] H) (ai:H[Cj]? =some [(.int .i64 0),(.str ([]:List UInt8)),(.str ([]:List UInt8)),(.str ([]:List UInt8)),(.int .i64 0)]) (bg:H[wE]? =some [(.int .i64 iQ),(.str ([]:List UInt8)),(.str r9.ak),(.str r9.domain),(.int .i64 0)]) (dB:H0.length≤Cj) (hi1:H0.length≤wE) (hi2:Cj≠wE) {K:Exit→Env→AH→Prop} {qk:aC}
 (h:kG iQ r9=some qk)
 (kn:∀H':AH,Fr H0 H0.length [] H'→H'[Cj]? =some [(.int .i64 0),(.str ([]:List UInt8)),(.str ([]:List UInt8)),(.str ([]:List UInt8)),(.int .i64 0)]→H'[wE]? =some [(.int .i64 qk.kind),(.str qk.arg),(.str qk.path.ak),(.str qk.path.domain),(.int .i64 qk.size)]→K .normal [(0,(.int .i64 iQ)),(4,(.ptr Cj 0)),(8,(.str dR)),(11,(.ptr wE 0))] H'):
 AX Tryz.prog jN 76 H0.length (erase vF) K [(0,(.int .i64 iQ)),(4,(.ptr Cj 0)),(8,(.str dR)),(11,(.ptr wE 0)),(53,(.bool (decide (iQ=3))))] H:=by
 refine bY fun K' hK=> ?_
 have hle:=hfr.le
 have aL:=aN ai
 have wC:=aN bg
 rw [kG.eq_1] at h
 refine ax (aA ai bg) ?_
 refine bk h (fun cN h=> ?_) fun cN h=> ?_
 · refine ax (aA ai bg) ?_
   obtain rfl:=aD h
   exact hK _ _ _ _ _ aK aq (kn _ (b6 _ hfr) (gq (ai.trans rfl)) cL)
 · refine ax (aA ai bg) ?_
   obtain rfl:=aD h
   exact hK _ _ _ _ _ aK aq (kn _ hfr (ai.trans rfl) (bg.trans rfl))
theorem Cw {iQ:Int} {qt:Nat} {dR:List UInt8} {Qd:Nat} {oT:Int} {nK:Bool} {j0:aC} {H0 H:AH} (hfr:Fr H0 H0.length [] H) (ai:H[qt]? =some [(.int .i64 0),(.str ([]:List UInt8)),(.str ([]:List UInt8)),(.str ([]:List UInt8)),(.int .i64 0)]) (bg:H[Qd]? =some [(.int .i64 j0.kind),(.str j0.arg),(.str j0.path.ak),(.str j0.path.domain),(.int .i64 j0.size)]) (dB:H0.length≤qt) (hi1:H0.length≤Qd) (hi2:qt≠Qd) {K:Exit→Env→AH→Prop}
 (kn:∀H':AH,Fr H0 H0.length [] H'→H'[qt]? =some [(.int .i64 0),(.str ([]:List UInt8)),(.str ([]:List UInt8)),(.str ([]:List UInt8)),(.int .i64 0)]→H'[Qd]? =some [(.int .i64 j0.kind),(.str j0.arg),(.str j0.path.ak),(.str j0.path.domain),(.int .i64 j0.size)]→K .normal [(4,(.ptr qt 0)),(8,(.str dR)),(11,(.ptr Qd 0)),(12,(.int .i64 oT)),(67,(.bool (nK&&(decide (iQ=3)))))] H'):
 AX Tryz.prog jN 76 H0.length (erase vG) K [(0,(.int .i64 iQ)),(4,(.ptr qt 0)),(8,(.str dR)),(11,(.ptr Qd 0)),(12,(.int .i64 oT)),(13,(.bool nK))] H:=by
 refine bY fun K' hK=> ?_
 have hle:=hfr.le
 have aL:=aN ai
 have wC:=aN bg
 refine ax (aA ai bg) ?_
 refine gG (fun dM=> ?_) fun dM=> ?_
 · refine ax (aA dM (aA ai bg)) ?_
   exact hK _ _ _ _ _ (dj dM) aq (kn _ hfr (ai.trans rfl) (bg.trans rfl))
 · refine ax (aA dM (aA ai bg)) ?_
   exact hK _ _ _ _ _ (dj dM) aq (kn _ hfr (ai.trans rfl) (bg.trans rfl))
theorem GL {F:Nat} {iQ:Int} {so:List UInt8} {H0:AH} {aS:aC} {fE:Int} (h:kH F iQ so=some (aS,fE)):
 aG Tryz.prog 29 [(.int .i64 iQ),(.str so)] H0 fun v H'=>v=(.bG [(.agg [(.int .i64 aS.kind),(.str aS.arg),(.str aS.path.ak),(.str aS.path.domain),(.int .i64 aS.size)]),(.int .i64 fE)])∧H'=H0:=by
 refine lN Is jN [] fun hcl K0 aP H hH hfr=> ?_
 clear hH
 have hle:=hfr.le
 rw [kH.eq_1] at h
 refine cj ?_
 obtain ⟨q3,Au⟩:∃q:Nat,H.length=q:=⟨_,rfl⟩
 try rw [Au]
 obtain ⟨Qb,hy2,h⟩:=au h
 refine bA aq (Cq (so:=so) (q3:=q3) (Fr.app hfr) pJ bU hy2 ?_)
 intro H hfr ai
 have hle:=hfr.le
 have aL:=aN ai
 refine ax ai ?_
 obtain ⟨r6,hy3,h⟩:=au h
 refine bw aq (xk hy3) ?_
 refine ax ai ?_
 refine bk h (fun hy4 h=> ?_) fun hy4 h=> ?_
 · refine ax ai ?_
   obtain ⟨rfl,rfl⟩:=cT h
   exact aP _ _ _ bh (aR (b6 _ hfr) hcl (br (cs:=[(.int .i64 0),(.str ([]:List UInt8)),(.str ([]:List UInt8)),(.str ([]:List UInt8)),(.int .i64 0)]) (v:=(.agg [(.int .i64 0),(.str ([]:List UInt8)),(.str ([]:List UInt8)),(.str ([]:List UInt8)),(.int .i64 0)])) (by kernel_rfl) (n:=(some 5)) (by kernel_rfl) rfl cL (by simp [bO,bN,eC,aX,AV.flat,cu,cR,AV.bB,Tg.sh]) (aU aZ (.int .i64 501))) bf aW ⟨rfl,rfl⟩)
 · obtain ⟨x7,bJ,h⟩:=au h
   refine ax (aA bJ ai) ?_
   obtain ⟨r8,ck,h⟩:=au h
   refine bw aq (Gm ck) ?_
   refine ax ai ?_
   obtain ⟨⟨r9,dR,mY⟩,cF,h⟩:=au h
   dsimp only at h
   refine bw aq (GJ cF) ?_
   refine ax ai ?_
   obtain ⟨kz,aaV⟩:∃q:Nat,H.length=q:=⟨_,rfl⟩
   try rw [aaV]
   refine bA aq (Cr (iQ:=iQ) (Qc:=q3) (kz:=kz) (dR:=dR) (mY:=mY) (r9:=r9) (b6 _ (Fr.app hfr)) (gq (lU (ai.trans rfl))) cL bU bU bU ?_)
   intro H hfr ai aJ
   have hle:=hfr.le
   have aL:=aN ai
   have jc:=aN aJ
   refine ax (aA ai aJ) ?_
   refine bA aq (Cs (iQ:=iQ) (Av:=q3) (Ct:=kz) (dR:=dR) (mY:=mY) (r9:=r9) hfr (ai.trans rfl) (aJ.trans rfl) bU bU bU ?_)
   intro H hfr ai aJ
   have hle:=hfr.le
   have aL:=aN ai
   have jc:=aN aJ
   refine ax (aA ai aJ) ?_
   refine bk h (fun cx h=> ?_) fun cx h=> ?_
   · refine ax (aA ai aJ) ?_
     obtain ⟨rfl,rfl⟩:=cT h
     exact aP _ _ _ bh (aR (b6 _ hfr) hcl (br (cs:=[(.int .i64 0),(.str ([]:List UInt8)),(.str ([]:List UInt8)),(.str ([]:List UInt8)),(.int .i64 0)]) (v:=(.agg [(.int .i64 0),(.str ([]:List UInt8)),(.str ([]:List UInt8)),(.str ([]:List UInt8)),(.int .i64 0)])) (by kernel_rfl) (n:=(some 5)) (by kernel_rfl) rfl cL (by simp [bO,bN,eC,aX,AV.flat,cu,cR,AV.bB,Tg.sh]) (aU aZ (.int .i64 501))) bf aW ⟨rfl,rfl⟩)
   · refine ax (aA ai aJ) ?_
     obtain ⟨wE,KI⟩:∃q:Nat,H.length=q:=⟨_,rfl⟩
     try rw [KI]
     obtain ⟨j0,cI,h⟩:=au h
     refine bA aq (Cu (dR:=dR) (Cj:=q3) (wE:=wE) (b6 _ (Fr.app hfr)) (gq (lU (ai.trans rfl))) cL bU bU bU cI ?_)
     intro H hfr ai bg
     have hle:=hfr.le
     have aL:=aN ai
     have wC:=aN bg
     refine ax (aA ai bg) ?_
     refine bk h (fun dD h=> ?_) fun dD h=> ?_
     · refine ax (aA ai bg) ?_
       obtain ⟨rfl,rfl⟩:=cT h
       exact aP _ _ _ bh (aR (b6 _ hfr) hcl (br (cs:=[(.int .i64 j0.kind),(.str j0.arg),(.str j0.path.ak),(.str j0.path.domain),(.int .i64 j0.size)]) (v:=(.agg [(.int .i64 j0.kind),(.str j0.arg),(.str j0.path.ak),(.str j0.path.domain),(.int .i64 j0.size)])) (by kernel_rfl) (n:=(some 5)) (by kernel_rfl) rfl cL (by simp [bO,bN,eC,aX,AV.flat,cu,cR,AV.bB,Tg.sh]) (aU aZ (.int .i64 0))) bf aW ⟨rfl,rfl⟩)
     · refine ax (aA ai bg) ?_
       obtain ⟨⟨oT,nK⟩,eM,h⟩:=au h
       dsimp only at h
       refine bw aq (GK eM) ?_
       refine ax (aA ai bg) ?_
       refine bA aq (Cw (iQ:=iQ) (qt:=q3) (dR:=dR) (Qd:=wE) (oT:=oT) (nK:=nK) (j0:=j0) hfr (ai.trans rfl) (bg.trans rfl) bU bU bU ?_)
       intro H hfr ai bg
       have hle:=hfr.le
       have aL:=aN ai
       have wC:=aN bg
       refine ax (aA ai bg) ?_
       refine bk h (fun gi h=> ?_) fun gi h=> ?_
       · refine ax (aA ai bg) ?_
         obtain ⟨rfl,rfl⟩:=cT h
         exact aP _ _ _ bh (aR (b6 _ (b6 _ hfr)) hcl (br (cs:=[(.int .i64 j0.kind),(.str j0.arg),(.str j0.path.ak),(.str j0.path.domain),(.int .i64 oT)]) (v:=(.agg [(.int .i64 j0.kind),(.str j0.arg),(.str j0.path.ak),(.str j0.path.domain),(.int .i64 oT)])) (by kernel_rfl) (n:=(some 5)) (by kernel_rfl) rfl cL (by simp [bO,bN,eC,aX,AV.flat,cu,cR,AV.bB,Tg.sh]) (aU aZ (.int .i64 0))) bf aW ⟨rfl,rfl⟩)
       · obtain ⟨F5,fS,h⟩:=au h
         refine ax (aA fS (aA ai bg)) ?_
         refine bk h (fun fC h=> ?_) fun fC h=> ?_
         · refine ax (aA ai bg) ?_
           obtain ⟨rfl,rfl⟩:=cT h
           exact aP _ _ _ bh (aR (b6 _ hfr) hcl (br (cs:=[(.int .i64 0),(.str ([]:List UInt8)),(.str ([]:List UInt8)),(.str ([]:List UInt8)),(.int .i64 0)]) (v:=(.agg [(.int .i64 0),(.str ([]:List UInt8)),(.str ([]:List UInt8)),(.str ([]:List UInt8)),(.int .i64 0)])) (by kernel_rfl) (n:=(some 5)) (by kernel_rfl) rfl cL (by simp [bO,bN,eC,aX,AV.flat,cu,cR,AV.bB,Tg.sh]) (aU aZ (.int .i64 555))) bf aW ⟨rfl,rfl⟩)
         · refine ax (aA ai bg) ?_
           obtain ⟨rfl,rfl⟩:=cT h
           exact aP _ _ _ bh (aR (b6 _ hfr) hcl (br (cs:=[(.int .i64 0),(.str ([]:List UInt8)),(.str ([]:List UInt8)),(.str ([]:List UInt8)),(.int .i64 0)]) (v:=(.agg [(.int .i64 0),(.str ([]:List UInt8)),(.str ([]:List UInt8)),(.str ([]:List UInt8)),(.int .i64 0)])) (by kernel_rfl) (n:=(some 5)) (by kernel_rfl) rfl cL (by simp [bO,bN,eC,aX,AV.flat,cu,cR,AV.bB,Tg.sh]) (aU aZ (.int .i64 501))) bf aW ⟨rfl,rfl⟩)
abbrev uc:az:=(.rg [(av 14 0),(av 15 4),(aj 16 (.ixs (.t 14) (.t 15))),(aj 17 (.bin .lss (.t 16) (.c (b8 32)))),(av 18 17),(ay 19 (.mv (.t 0)) 18 false),(ay 20 (.mv (.t 4)) 18 false),(ay 21 (.ixs (.t 19) (.t 20)) 18 false),(ay 22 (.bin .gtr (.t 21) (.c (b8 126))) 18 false),(aj 23 (.pick (.t 18) (.c (.bool true)) (.t 22)))])
abbrev sr:az:=(.seq (.seq (.rg [(av 8 4),(av 9 0),(aj 10 (.lens (.t 9))),(aj 11 (.bin .lss (.t 8) (.t 10)))]) (.cond (.t 11) .skip (.exit 0))) (.seq (.blk 1 (.seq (.sem (erase uc)) (.cond (.t 23) (.seq (.rg [(aj 24 (.build [(.int .i64 0),(.str []),(.str []),(.str []),(.int .i64 0)] [])),(cZ (.st (.t 2) (.t 24) 5)),(aj 3 (.aT (.c (.int .i64 500))))]) .ret) .skip))) (.rg [(av 12 4),(aj 13 (.bin .add (.t 12) (.c (.int .i64 1)))),(aO 4 13)])))
abbrev ud:az:=(.rg [(av 25 0),(aj 26 (.bin .neq (.t 25) (.c (.str [])))),(av 27 26),(ay 28 (.mv (.t 0)) 27 true),(ay 29 (.mv (.t 0)) 27 true),(ay 30 (.lens (.t 29)) 27 true),(ay 31 (.bin .sub (.t 30) (.c (.int .i64 1))) 27 true),(ay 32 (.ixs (.t 28) (.t 31)) 27 true),(ay 33 (.bin .eql (.t 32) (.c (b8 32))) 27 true),(aj 34 (.pick (.t 27) (.t 33) (.c (.bool false))))])
abbrev su:az:=(.seq (.seq (.sem (erase ud)) (.cond (.t 34) .skip (.exit 2))) (.blk 3 (.rg [(av 35 0),(av 36 0),(aj 37 (.lens (.t 36))),(aj 38 (.bin .sub (.t 37) (.c (.int .i64 1)))),(aj 39 (.iP (.t 35) none (some (.t 38)))),(aO 0 39)])))
abbrev ue:az:=(.rg [(av 40 5),(av 41 0),(aj 42 (.lens (.t 41))),(aj 43 (.bin .lss (.t 40) (.t 42))),(av 44 43),(ay 45 (.mv (.t 0)) 44 true),(ay 46 (.mv (.t 5)) 44 true),(ay 47 (.ixs (.t 45) (.t 46)) 44 true),(ay 48 (.bin .neq (.t 47) (.c (b8 32))) 44 true),(aj 49 (.pick (.t 44) (.t 48) (.c (.bool false))))])
abbrev sw:az:=(.seq (.seq (.sem (erase ue)) (.cond (.t 49) .skip (.exit 4))) (.blk 5 (.rg [(av 50 5),(aj 51 (.bin .add (.t 50) (.c (.int .i64 1)))),(aO 5 51)])))
abbrev uf:az:=(.cond (.t 64) .skip (.rg [(aj 66 (.bin .eql (.t 60) (.c (.int .i64 2)))),(aO 64 66)]))
abbrev ug:az:=(.rg [(av 67 7),(aj 68 (.bin .eql (.t 67) (.c (.str [])))),(av 69 68),(ay 70 (.mv (.t 7)) 69 false),(ay 71 (.iP (.t 70) (some (.c (.int .i64 1))) none) 69 false),(ay 72 (.call (.c (.fn 28 [])) [(.t 71)]) 69 false),(ay 73 (.un .not (.t 72)) 69 false),(aj 74 (.pick (.t 69) (.c (.bool true)) (.t 73)))])
abbrev uh:az:=(.cond (.t 80) .skip (.rg [(aj 82 (.bin .eql (.t 60) (.c (.int .i64 4)))),(aO 80 82)]))
abbrev uj:az:=(.cond (.t 88) .skip (.rg [(aj 90 (.bin .eql (.t 60) (.c (.int .i64 9)))),(aO 88 90)]))
abbrev uk:az:=(.rg [(av 91 7),(aj 92 (.bin .eql (.t 91) (.c (.str [])))),(av 93 92),(ay 94 (.mv (.t 6)) 93 true),(ay 95 (.bin .eql (.t 94) (.c (.int .i64 9))) 93 true),(aj 96 (.pick (.t 93) (.t 95) (.c (.bool false))))])
abbrev GM:az:=(.seq (.rg [(aj 2 (.alloc [(.int .i64 0),(.str []),(.str []),(.str []),(.int .i64 0)])),(aj 3 (.aT (.c (.int .i64 0))))]) (.seq (.seq (.rg [(aj 4 (.aT (.c (.int .i64 0))))]) (.blk 0 (.loop (erase sr)))) (.seq (.blk 2 (.loop (erase su))) (.seq (.rg [(aj 5 (.aT (.c (.int .i64 0))))]) (.seq (.blk 4 (.loop (erase sw))) (.seq (.rg [(av 52 0),(av 53 5),(aj 54 (.iP (.t 52) none (some (.t 53)))),(aj 55 (.call (.c (.fn 27 [])) [(.t 54)])),(aj 56 (.call (.c (.fn 26 [])) [(.t 55)])),(aO 6 56)]) (.seq (.rg [(av 57 0),(av 58 5),(aj 59 (.iP (.t 57) (some (.t 58)) none)),(aO 7 59)]) (.seq (.seq (.rg [(av 60 6)]) (.blk 6 (.seq (.rg [(aj 62 (.bin .eql (.t 60) (.c (.int .i64 0)))),(aO 61 62)]) (.cond (.t 61) (.seq (.rg [(aj 63 (.build [(.int .i64 0),(.str []),(.str []),(.str []),(.int .i64 0)] [])),(cZ (.st (.t 2) (.t 63) 5)),(aj 3 (.aT (.c (.int .i64 500))))]) .ret) (.seq (.seq (.rg [(aj 65 (.bin .eql (.t 60) (.c (.int .i64 1)))),(aO 64 65)]) (.sem (erase uf))) (.cond (.t 64) (.seq (.seq (.sem (erase ug)) (.cond (.t 74) (.seq (.rg [(aj 75 (.build [(.int .i64 0),(.str []),(.str []),(.str []),(.int .i64 0)] [])),(cZ (.st (.t 2) (.t 75) 5)),(aj 3 (.aT (.c (.int .i64 501))))]) .ret) .skip)) (.seq (.rg [(av 76 6),(av 77 7),(aj 78 (.iP (.t 77) (some (.c (.int .i64 1))) none)),(aj 79 (.build [(.int .i64 0),(.str []),(.str []),(.str []),(.int .i64 0)] [(0,(1,(.t 76))),(1,(1,(.t 78)))])),(cZ (.st (.t 2) (.t 79) 5)),(aj 3 (.aT (.c (.int .i64 0))))]) .ret)) (.seq (.seq (.rg [(aj 81 (.bin .eql (.t 60) (.c (.int .i64 3)))),(aO 80 81)]) (.sem (erase uh))) (.cond (.t 80) (.seq (.rg [(av 83 6),(av 84 7),(aj 85 (.call (.c (.fn 29 [])) [(.t 83),(.t 84)])),(aj 86 (.ext (.t 85) 0)),(aj 87 (.ext (.t 85) 1)),(cZ (.st (.t 2) (.t 86) 5)),(aO 3 87)]) .ret) (.seq (.seq (.rg [(aj 89 (.bin .eql (.t 60) (.c (.int .i64 7)))),(aO 88 89)]) (.sem (erase uj))) (.cond (.t 88) (.seq (.seq (.sem (erase uk)) (.cond (.t 96) (.seq (.rg [(aj 97 (.build [(.int .i64 0),(.str []),(.str []),(.str []),(.int .i64 0)] [])),(cZ (.st (.t 2) (.t 97) 5)),(aj 3 (.aT (.c (.int .i64 501))))]) .ret) .skip)) (.seq (.seq (.rg [(av 98 7),(aj 99 (.bin .eql (.t 98) (.c (.str []))))]) (.cond (.t 99) (.seq (.rg [(av 100 6),(aj 101 (.build [(.int .i64 0),(.str []),(.str []),(.str []),(.int .i64 0)] [(0,(1,(.t 100)))])),(cZ (.st (.t 2) (.t 101) 5)),(aj 3 (.aT (.c (.int .i64 0))))]) .ret) .skip)) (.seq (.rg [(av 102 6),(av 103 7),(aj 104 (.iP (.t 103) (some (.c (.int .i64 1))) none)),(aj 105 (.build [(.int .i64 0),(.str []),(.str []),(.str []),(.int .i64 0)] [(0,(1,(.t 102))),(1,(1,(.t 104)))])),(cZ (.st (.t 2) (.t 105) 5)),(aj 3 (.aT (.c (.int .i64 0))))]) .ret))) .skip)))))))))) (.seq (.seq (.rg [(av 106 7),(aj 107 (.bin .neq (.t 106) (.c (.str []))))]) (.cond (.t 107) (.seq (.rg [(aj 108 (.build [(.int .i64 0),(.str []),(.str []),(.str []),(.int .i64 0)] [])),(cZ (.st (.t 2) (.t 108) 5)),(aj 3 (.aT (.c (.int .i64 501))))]) .ret) .skip)) (.seq (.rg [(av 109 6),(aj 110 (.build [(.int .i64 0),(.str []),(.str []),(.str []),(.int .i64 0)] [(0,(1,(.t 109)))])),(cZ (.st (.t 2) (.t 110) 5)),(aj 3 (.aT (.c (.int .i64 0))))]) .ret))))))))))
theorem GN:bL Tryz.prog 9 111 [(.cell 2 29),(.tmp 3)] (erase GM):=⟨Tryz.f9,_,rfl,by decide,rfl,by kernel_rfl,rfl,rfl⟩
abbrev dm:List Nat:=[0,2,3,4,5,6,7,11,23,34,49,60,61,64,74,80,88,96,99,107]
def jF (s1:List UInt8) (i3:Int):Option (Bool):=
 (idx s1 i3).bind fun x6=>
 (if (decide (x6<32)) then
  some true
 else
  some (decide (126<x6)))
def eV (s1:List UInt8):(Int×aC)→Option (St (aC×Int) aC (Int×aC))
 |(i3,s4)=>
  (if (decide (i3<(s1.length:Int))) then
   (jF s1 i3).bind fun t8=>
   (if t8 then
    some (.ret ((aC.mk 0 ([]:List UInt8) (aB.mk ([]:List UInt8) ([]:List UInt8)) 0),500))
   else
    some (.cA ((IntKind.wrap .i64 (i3+1)),s4)))
  else
   some (.dQ s4))
def gP (ij:List UInt8):Option (Bool):=
 (if (!decide (ij=([]:List UInt8))) then
  (idx ij (IntKind.wrap .i64 ((ij.length:Int) - 1))).bind fun jl=>some (decide (jl=32))
 else
  some false)
def dW:(List UInt8)→Option (St (aC×Int) (List UInt8) (List UInt8))
 |ij=>
  (gP ij).bind fun t18=>
  (if t18 then
   (sub ij 0 (IntKind.wrap .i64 ((ij.length:Int) - 1))).bind fun yH=>some (.cA yH)
  else
   some (.dQ ij))
def gQ (p6:Int) (qh:List UInt8):Option (Bool):=
 (if (decide (p6<(qh.length:Int))) then
  (idx qh p6).bind fun F6=>some (!decide (F6=32))
 else
  some false)
def dX (qh:List UInt8):Int→Option (St (aC×Int) Int Int)
 |p6=>
  (gQ p6 qh).bind fun t27=>
  (if t27 then
   some (.cA (IntKind.wrap .i64 (p6+1)))
  else
   some (.dQ p6))
def mA (r32:Int):Option (Bool):=
 (if (decide (r32=1)) then
  some (decide (r32=1))
 else
  some (decide (r32=2)))
def mC (F:Nat) (jf:List UInt8):Option (Bool):=
 (if (decide (jf=([]:List UInt8))) then
  some true
 else
  (sub jf 1 (jf.length:Int)).bind fun Yc=>(dF F Yc).bind fun r39=>some (!r39))
def mD (r32:Int):Option (Bool):=
 (if (decide (r32=3)) then
  some (decide (r32=3))
 else
  some (decide (r32=4)))
def mE (r32:Int):Option (Bool):=
 (if (decide (r32=7)) then
  some (decide (r32=7))
 else
  some (decide (r32=9)))
def nV (F:Nat) (s1:List UInt8):Option (aC×Int):=
 ((iter (eV s1) F (0,(aC.mk 0 ([]:List UInt8) (aB.mk ([]:List UInt8) ([]:List UInt8)) 0))).bind fun o57=>
 match o57 with
 | .inr bn=>
   ((iter dW F s1).bind fun o54=>
   match o54 with
   | .inr qh=>
     ((iter (dX qh) F 0).bind fun o53=>
     match o53 with
     | .inr Yd=>
       (sub qh 0 Yd).bind fun x30=>
       (kW F x30).bind fun r31=>
       (oU F r31).bind fun r32=>
       (sub qh Yd (qh.length:Int)).bind fun jf=>
       (if (decide (r32=0)) then
        some ((aC.mk 0 ([]:List UInt8) (aB.mk ([]:List UInt8) ([]:List UInt8)) 0),500)
       else
        (mA r32).bind fun t36=>
        (if t36 then
         (mC F jf).bind fun t41=>
         (if t41 then
          some ((aC.mk 0 ([]:List UInt8) (aB.mk ([]:List UInt8) ([]:List UInt8)) 0),501)
         else
          (sub jf 1 (jf.length:Int)).bind fun x42=>
          some ((aC.mk r32 x42 (aB.mk ([]:List UInt8) ([]:List UInt8)) 0),0))
        else
         (mD r32).bind fun t45=>
         (if t45 then
          (kH F r32 jf).bind fun (EU,r47)=>some (EU,r47)
         else
          (mE r32).bind fun t50=>
          (if t50 then
           (if ((decide (jf=([]:List UInt8)))&&(decide (r32=9))) then
            some ((aC.mk 0 ([]:List UInt8) (aB.mk ([]:List UInt8) ([]:List UInt8)) 0),501)
           else
            (if (decide (jf=([]:List UInt8))) then
             some ((aC.mk r32 ([]:List UInt8) (aB.mk ([]:List UInt8) ([]:List UInt8)) 0),0)
            else
             (sub jf 1 (jf.length:Int)).bind fun x52=>
             some ((aC.mk r32 x52 (aB.mk ([]:List UInt8) ([]:List UInt8)) 0),0)))
          else
           (if (!decide (jf=([]:List UInt8))) then
            some ((aC.mk 0 ([]:List UInt8) (aB.mk ([]:List UInt8) ([]:List UInt8)) 0),501)
           else
            some ((aC.mk r32 ([]:List UInt8) (aB.mk ([]:List UInt8) ([]:List UInt8)) 0),0))))))
     | .inl _=>none)
   | .inl _=>none)
 | .inl (EV,r56)=>
   some (EV,r56))
theorem Bg {s1:List UInt8} {i3:Int} {q5:Nat} {s4:aC} {H0 H:AH} (hfr:Fr H0 H0.length [] H) (ai:H[q5]? =some [(.int .i64 s4.kind),(.str s4.arg),(.str s4.path.ak),(.str s4.path.domain),(.int .i64 s4.size)]) (dB:H0.length≤q5) {K:Exit→Env→AH→Prop} {t7:Bool}
 (h:jF s1 i3=some t7)
 (kn:∀H':AH,Fr H0 H0.length [] H'→H'[q5]? =some [(.int .i64 s4.kind),(.str s4.arg),(.str s4.path.ak),(.str s4.path.domain),(.int .i64 s4.size)]→K .normal [(0,(.str s1)),(2,(.ptr q5 0)),(4,(.int .i64 i3)),(23,(.bool t7))] H'):
 AX Tryz.prog dm 111 H0.length (erase uc) K [(0,(.str s1)),(2,(.ptr q5 0)),(4,(.int .i64 i3))] H:=by
 refine bY fun K' hK=> ?_
 have hle:=hfr.le
 have aL:=aN ai
 rw [jF.eq_1] at h
 obtain ⟨x6,hy2,h⟩:=au h
 refine ax (aA hy2 ai) ?_
 refine bT h (fun hy3 h=> ?_) fun hy3 h=> ?_
 · refine ax (aA hy3 ai) ?_
   obtain rfl:=aD h
   exact hK _ _ _ _ _ aK aq (kn _ hfr (ai.trans rfl))
 · refine ax (aA hy3 (aA hy2 ai)) ?_
   obtain rfl:=aD h
   exact hK _ _ _ _ _ aK aq (kn _ hfr (ai.trans rfl))
theorem Bh {F:Nat} {i3:Int} {s1:List UInt8} {s4:aC} {q2:Nat} {H0 H:AH} (hfr:Fr H0 H0.length [] H) (ai:H[q2]? =some [(.int .i64 s4.kind),(.str s4.arg),(.str s4.path.ak),(.str s4.path.domain),(.int .i64 s4.size)]) (dB:H0.length≤q2) {K:Exit→Env→AH→Prop} {o:(aC×Int)⊕(aC)}
 (h:iter (eV s1) F (i3,s4)=some o)
 (dz:∀o':aC,o= .inr o'→∀H':AH,Fr H0 H0.length [] H'→H'[q2]? =some [(.int .i64 o'.kind),(.str o'.arg),(.str o'.path.ak),(.str o'.path.domain),(.int .i64 o'.size)]→K (.exit 0) [(0,(.str s1)),(2,(.ptr q2 0))] H')
 (kr:∀o':aC×Int,o= .inl o'→∀H':AH,Fr H0 H0.length [] H'→H'[q2]? =some [(.int .i64 o'.1.kind),(.str o'.1.arg),(.str o'.1.path.ak),(.str o'.1.path.domain),(.int .i64 o'.1.size)]→K .ret [(2,(.ptr q2 0)),(3,(.int .i64 o'.2))] H'):
 AX Tryz.prog dm 111 H0.length (.loop (erase sr)) K [(0,(.str s1)),(2,(.ptr q2 0)),(4,(.int .i64 i3))] H:=by
 refine iE (fun s e H1=>match s with|(i3,s4)=>e=[(0,(.str s1)),(2,(.ptr q2 0)),(4,(.int .i64 i3))]∧Fr H0 H0.length [] H1∧H1[q2]? =some [(.int .i64 s4.kind),(.str s4.arg),(.str s4.path.ak),(.str s4.path.domain),(.int .i64 s4.size)]) h ⟨rfl,hfr,ai⟩ ?_
 rintro K' ⟨i3,s4⟩ st e H ⟨rfl,hfr,ai⟩ h hN hB hR hX
 have hle:=hfr.le
 have aL:=aN ai
 rw [eV.eq_1] at h
 refine ax ai ?_
 refine bk h (fun hy1 h=> ?_) fun hy1 h=> ?_
 · refine ax ai ?_
   obtain ⟨t8,hy4,h⟩:=au h
   refine bA aq (Bg (s4:=s4) (q5:=q2) hfr (ai.trans rfl) bU hy4 ?_)
   intro H hfr ai
   have hle:=hfr.le
   have aL:=aN ai
   refine ax ai ?_
   refine bk h (fun bJ h=> ?_) fun bJ h=> ?_
   · refine ax ai ?_
     obtain rfl:=aD h
     exact hX _ _ _ _ _ dH aK aq (kr _ (hR _ rfl) _ (b6 _ hfr) cL)
   · refine ax ai ?_
     obtain rfl:=aD h
     exact hN _ rfl _ _ _ _ aK aq ⟨rfl,hfr,(ai.trans rfl)⟩
 · refine ax ai ?_
   obtain rfl:=aD h
   exact hX _ _ _ _ _ dH aK aq (dz _ (hB _ rfl) _ hfr (ai.trans rfl))
theorem Bi {ij:List UInt8} {Ct:Nat} {bn:aC} {H0 H:AH} (hfr:Fr H0 H0.length [] H) (ai:H[Ct]? =some [(.int .i64 bn.kind),(.str bn.arg),(.str bn.path.ak),(.str bn.path.domain),(.int .i64 bn.size)]) (dB:H0.length≤Ct) {K:Exit→Env→AH→Prop} {t17:Bool}
 (h:gP ij=some t17)
 (kn:∀H':AH,Fr H0 H0.length [] H'→H'[Ct]? =some [(.int .i64 bn.kind),(.str bn.arg),(.str bn.path.ak),(.str bn.path.domain),(.int .i64 bn.size)]→K .normal [(0,(.str ij)),(2,(.ptr Ct 0)),(34,(.bool t17))] H'):
 AX Tryz.prog dm 111 H0.length (erase ud) K [(0,(.str ij)),(2,(.ptr Ct 0))] H:=by
 refine bY fun K' hK=> ?_
 have hle:=hfr.le
 have aL:=aN ai
 rw [gP.eq_1] at h
 refine ax ai ?_
 refine bT h (fun cF h=> ?_) fun cF h=> ?_
 · obtain ⟨jl,cv,h⟩:=au h
   refine ax (aA cF (aA cv ai)) ?_
   obtain rfl:=aD h
   exact hK _ _ _ _ _ aK aq (kn _ hfr (ai.trans rfl))
 · refine ax (aA cF ai) ?_
   obtain rfl:=aD h
   exact hK _ _ _ _ _ aK aq (kn _ hfr (ai.trans rfl))
theorem Bj {F:Nat} {ij:List UInt8} {kz:Nat} {bn:aC} {H0 H:AH} (hfr:Fr H0 H0.length [] H) (ai:H[kz]? =some [(.int .i64 bn.kind),(.str bn.arg),(.str bn.path.ak),(.str bn.path.domain),(.int .i64 bn.size)]) (dB:H0.length≤kz) {K:Exit→Env→AH→Prop} {o:(aC×Int)⊕((List UInt8))}
 (h:iter dW F ij=some o)
 (Qa:∀o':(List UInt8),o= .inr o'→∀H':AH,Fr H0 H0.length [] H'→H'[kz]? =some [(.int .i64 bn.kind),(.str bn.arg),(.str bn.path.ak),(.str bn.path.domain),(.int .i64 bn.size)]→K (.exit 2) [(0,(.str o')),(2,(.ptr kz 0))] H'):
 AX Tryz.prog dm 111 H0.length (.loop (erase su)) K [(0,(.str ij)),(2,(.ptr kz 0))] H:=by
 refine iE (fun s e H1=>match s with|ij=>e=[(0,(.str ij)),(2,(.ptr kz 0))]∧Fr H0 H0.length [] H1∧H1[kz]? =some [(.int .i64 bn.kind),(.str bn.arg),(.str bn.path.ak),(.str bn.path.domain),(.int .i64 bn.size)]) h ⟨rfl,hfr,ai⟩ ?_
 rintro K' ij st e H ⟨rfl,hfr,ai⟩ h hN hB hR hX
 have hle:=hfr.le
 have aL:=aN ai
 rw [dW.eq_1] at h
 refine ax ai ?_
 obtain ⟨t18,cM,h⟩:=au h
 refine bA aq (Bi (bn:=bn) (Ct:=kz) hfr (ai.trans rfl) bU cM ?_)
 intro H hfr ai
 have hle:=hfr.le
 have aL:=aN ai
 refine ax ai ?_
 refine bk h (fun cc h=> ?_) fun cc h=> ?_
 · obtain ⟨yH,cx,h⟩:=au h
   refine ax (aA cx ai) ?_
   obtain rfl:=aD h
   exact hN _ rfl _ _ _ _ aK aq ⟨rfl,hfr,(ai.trans rfl)⟩
 · refine ax ai ?_
   obtain rfl:=aD h
   exact hX _ _ _ _ _ dH aK aq (Qa _ (hB _ rfl) _ hfr (ai.trans rfl))
theorem Bk {p6:Int} {qh:List UInt8} {Dz:Nat} {bn:aC} {H0 H:AH} (hfr:Fr H0 H0.length [] H) (ai:H[Dz]? =some [(.int .i64 bn.kind),(.str bn.arg),(.str bn.path.ak),(.str bn.path.domain),(.int .i64 bn.size)]) (dB:H0.length≤Dz) {K:Exit→Env→AH→Prop} {t26:Bool}
 (h:gQ p6 qh=some t26)
 (kn:∀H':AH,Fr H0 H0.length [] H'→H'[Dz]? =some [(.int .i64 bn.kind),(.str bn.arg),(.str bn.path.ak),(.str bn.path.domain),(.int .i64 bn.size)]→K .normal [(0,(.str qh)),(2,(.ptr Dz 0)),(5,(.int .i64 p6)),(49,(.bool t26))] H'):
 AX Tryz.prog dm 111 H0.length (erase ue) K [(0,(.str qh)),(2,(.ptr Dz 0)),(5,(.int .i64 p6))] H:=by
 refine bY fun K' hK=> ?_
 have hle:=hfr.le
 have aL:=aN ai
 rw [gQ.eq_1] at h
 refine ax ai ?_
 refine bT h (fun cI h=> ?_) fun cI h=> ?_
 · obtain ⟨F6,dD,h⟩:=au h
   refine ax (aA cI (aA dD ai)) ?_
   obtain rfl:=aD h
   exact hK _ _ _ _ _ aK aq (kn _ hfr (ai.trans rfl))
 · refine ax (aA cI ai) ?_
   obtain rfl:=aD h
   exact hK _ _ _ _ _ aK aq (kn _ hfr (ai.trans rfl))
theorem Bl {F:Nat} {p6:Int} {qh:List UInt8} {qt:Nat} {bn:aC} {H0 H:AH} (hfr:Fr H0 H0.length [] H) (ai:H[qt]? =some [(.int .i64 bn.kind),(.str bn.arg),(.str bn.path.ak),(.str bn.path.domain),(.int .i64 bn.size)]) (dB:H0.length≤qt) {K:Exit→Env→AH→Prop} {o:(aC×Int)⊕(Int)}
 (h:iter (dX qh) F p6=some o)
 (kb4:∀o':Int,o= .inr o'→∀H':AH,Fr H0 H0.length [] H'→H'[qt]? =some [(.int .i64 bn.kind),(.str bn.arg),(.str bn.path.ak),(.str bn.path.domain),(.int .i64 bn.size)]→K (.exit 4) [(0,(.str qh)),(2,(.ptr qt 0)),(5,(.int .i64 o'))] H'):
 AX Tryz.prog dm 111 H0.length (.loop (erase sw)) K [(0,(.str qh)),(2,(.ptr qt 0)),(5,(.int .i64 p6))] H:=by
 refine iE (fun s e H1=>match s with|p6=>e=[(0,(.str qh)),(2,(.ptr qt 0)),(5,(.int .i64 p6))]∧Fr H0 H0.length [] H1∧H1[qt]? =some [(.int .i64 bn.kind),(.str bn.arg),(.str bn.path.ak),(.str bn.path.domain),(.int .i64 bn.size)]) h ⟨rfl,hfr,ai⟩ ?_
 rintro K' p6 st e H ⟨rfl,hfr,ai⟩ h hN hB hR hX
 have hle:=hfr.le
 have aL:=aN ai
 rw [dX.eq_1] at h
 refine ax ai ?_
 obtain ⟨t27,eM,h⟩:=au h
 refine bA aq (Bk (bn:=bn) (Dz:=qt) hfr (ai.trans rfl) bU eM ?_)
 intro H hfr ai
 have hle:=hfr.le
 have aL:=aN ai
 refine ax ai ?_
 refine bk h (fun dM h=> ?_) fun dM h=> ?_
 · refine ax ai ?_
   obtain rfl:=aD h
   exact hN _ rfl _ _ _ _ aK aq ⟨rfl,hfr,(ai.trans rfl)⟩
 · refine ax ai ?_
   obtain rfl:=aD h
   exact hX _ _ _ _ _ dH aK aq (kb4 _ (hB _ rfl) _ hfr (ai.trans rfl))
theorem Bm {r32:Int} {Us:Nat} {jf:List UInt8} {bn:aC} {H0 H:AH} (hfr:Fr H0 H0.length [] H) (ai:H[Us]? =some [(.int .i64 bn.kind),(.str bn.arg),(.str bn.path.ak),(.str bn.path.domain),(.int .i64 bn.size)]) (dB:H0.length≤Us) {K:Exit→Env→AH→Prop} {t35:Bool}
 (h:mA r32=some t35)
 (kn:∀H':AH,Fr H0 H0.length [] H'→H'[Us]? =some [(.int .i64 bn.kind),(.str bn.arg),(.str bn.path.ak),(.str bn.path.domain),(.int .i64 bn.size)]→K .normal [(2,(.ptr Us 0)),(6,(.int .i64 r32)),(7,(.str jf)),(60,(.int .i64 r32)),(64,(.bool t35))] H'):
 AX Tryz.prog dm 111 H0.length (erase uf) K [(2,(.ptr Us 0)),(6,(.int .i64 r32)),(7,(.str jf)),(60,(.int .i64 r32)),(64,(.bool (decide (r32=1))))] H:=by
 refine bY fun K' hK=> ?_
 have hle:=hfr.le
 have aL:=aN ai
 rw [mA.eq_1] at h
 refine ax ai ?_
 refine bk h (fun jo h=> ?_) fun jo h=> ?_
 · refine ax ai ?_
   obtain rfl:=aD h
   exact hK _ _ _ _ _ aK aq (kn _ hfr (ai.trans rfl))
 · refine ax ai ?_
   obtain rfl:=aD h
   exact hK _ _ _ _ _ aK aq (kn _ hfr (ai.trans rfl))
theorem Bn {F:Nat} {jf:List UInt8} {Ut:Nat} {r32:Int} {bn:aC} {H0 H:AH} (hfr:Fr H0 H0.length [] H) (ai:H[Ut]? =some [(.int .i64 bn.kind),(.str bn.arg),(.str bn.path.ak),(.str bn.path.domain),(.int .i64 bn.size)]) (dB:H0.length≤Ut) {K:Exit→Env→AH→Prop} {t40:Bool}
 (h:mC F jf=some t40)
 (kn:∀H':AH,Fr H0 H0.length [] H'→H'[Ut]? =some [(.int .i64 bn.kind),(.str bn.arg),(.str bn.path.ak),(.str bn.path.domain),(.int .i64 bn.size)]→K .normal [(2,(.ptr Ut 0)),(6,(.int .i64 r32)),(7,(.str jf)),(74,(.bool t40))] H'):
 AX Tryz.prog dm 111 H0.length (erase ug) K [(2,(.ptr Ut 0)),(6,(.int .i64 r32)),(7,(.str jf))] H:=by
 refine bY fun K' hK=> ?_
 have hle:=hfr.le
 have aL:=aN ai
 rw [mC.eq_1] at h
 refine ax ai ?_
 refine bT h (fun kq h=> ?_) fun kq h=> ?_
 · refine ax (aA kq ai) ?_
   obtain rfl:=aD h
   exact hK _ _ _ _ _ aK aq (kn _ hfr (ai.trans rfl))
 · obtain ⟨Yc,rD,h⟩:=au h
   refine ax (aA kq (aA rD ai)) ?_
   obtain ⟨r39,tH,h⟩:=au h
   refine bw aq (oA tH) ?_
   refine ax ai ?_
   obtain rfl:=aD h
   exact hK _ _ _ _ _ aK aq (kn _ hfr (ai.trans rfl))
theorem Bo {r32:Int} {wF:Nat} {jf:List UInt8} {bn:aC} {H0 H:AH} (hfr:Fr H0 H0.length [] H) (ai:H[wF]? =some [(.int .i64 bn.kind),(.str bn.arg),(.str bn.path.ak),(.str bn.path.domain),(.int .i64 bn.size)]) (dB:H0.length≤wF) {K:Exit→Env→AH→Prop} {t44:Bool}
 (h:mD r32=some t44)
 (kn:∀H':AH,Fr H0 H0.length [] H'→H'[wF]? =some [(.int .i64 bn.kind),(.str bn.arg),(.str bn.path.ak),(.str bn.path.domain),(.int .i64 bn.size)]→K .normal [(2,(.ptr wF 0)),(6,(.int .i64 r32)),(7,(.str jf)),(60,(.int .i64 r32)),(80,(.bool t44))] H'):
 AX Tryz.prog dm 111 H0.length (erase uh) K [(2,(.ptr wF 0)),(6,(.int .i64 r32)),(7,(.str jf)),(60,(.int .i64 r32)),(80,(.bool (decide (r32=3))))] H:=by
 refine bY fun K' hK=> ?_
 have hle:=hfr.le
 have aL:=aN ai
 rw [mD.eq_1] at h
 refine ax ai ?_
 refine bk h (fun GC h=> ?_) fun GC h=> ?_
 · refine ax ai ?_
   obtain rfl:=aD h
   exact hK _ _ _ _ _ aK aq (kn _ hfr (ai.trans rfl))
 · refine ax ai ?_
   obtain rfl:=aD h
   exact hK _ _ _ _ _ aK aq (kn _ hfr (ai.trans rfl))
theorem Bp {r32:Int} {Uu:Nat} {jf:List UInt8} {bn:aC} {H0 H:AH} (hfr:Fr H0 H0.length [] H) (ai:H[Uu]? =some [(.int .i64 bn.kind),(.str bn.arg),(.str bn.path.ak),(.str bn.path.domain),(.int .i64 bn.size)]) (dB:H0.length≤Uu) {K:Exit→Env→AH→Prop} {t49:Bool}
 (h:mE r32=some t49)
 (kn:∀H':AH,Fr H0 H0.length [] H'→H'[Uu]? =some [(.int .i64 bn.kind),(.str bn.arg),(.str bn.path.ak),(.str bn.path.domain),(.int .i64 bn.size)]→K .normal [(2,(.ptr Uu 0)),(6,(.int .i64 r32)),(7,(.str jf)),(88,(.bool t49))] H'):
 AX Tryz.prog dm 111 H0.length (erase uj) K [(2,(.ptr Uu 0)),(6,(.int .i64 r32)),(7,(.str jf)),(60,(.int .i64 r32)),(88,(.bool (decide (r32=7))))] H:=by
 refine bY fun K' hK=> ?_
 have hle:=hfr.le
 have aL:=aN ai
 rw [mE.eq_1] at h
 refine ax ai ?_
 refine bk h (fun vH h=> ?_) fun vH h=> ?_
 · refine ax ai ?_
   obtain rfl:=aD h
   exact hK _ _ _ _ _ aK aq (kn _ hfr (ai.trans rfl))
 · refine ax ai ?_
   obtain rfl:=aD h
   exact hK _ _ _ _ _ aK aq (kn _ hfr (ai.trans rfl))
theorem Bq {Uv:Nat} {r32:Int} {jf:List UInt8} {bn:aC} {H0 H:AH} (hfr:Fr H0 H0.length [] H) (ai:H[Uv]? =some [(.int .i64 bn.kind),(.str bn.arg),(.str bn.path.ak),(.str bn.path.domain),(.int .i64 bn.size)]) (dB:H0.length≤Uv) {K:Exit→Env→AH→Prop}
 (kn:∀H':AH,Fr H0 H0.length [] H'→H'[Uv]? =some [(.int .i64 bn.kind),(.str bn.arg),(.str bn.path.ak),(.str bn.path.domain),(.int .i64 bn.size)]→K .normal [(2,(.ptr Uv 0)),(6,(.int .i64 r32)),(7,(.str jf)),(96,(.bool ((decide (jf=([]:List UInt8)))&&(decide (r32=9)))))] H'):
 AX Tryz.prog dm 111 H0.length (erase uk) K [(2,(.ptr Uv 0)),(6,(.int .i64 r32)),(7,(.str jf))] H:=by
 refine bY fun K' hK=> ?_
 have hle:=hfr.le
 have aL:=aN ai
 refine ax ai ?_
 refine gG (fun um=> ?_) fun um=> ?_
 · refine ax (aA um ai) ?_
   exact hK _ _ _ _ _ (dj um) aq (kn _ hfr (ai.trans rfl))
 · refine ax (aA um ai) ?_
   exact hK _ _ _ _ _ (dj um) aq (kn _ hfr (ai.trans rfl))
theorem EW {F:Nat} {s1:List UInt8} {H0:AH} {aS:aC} {fE:Int} (h:nV F s1=some (aS,fE)):
 aG Tryz.prog 9 [(.str s1)] H0 fun v H'=>v=(.bG [(.agg [(.int .i64 aS.kind),(.str aS.arg),(.str aS.path.ak),(.str aS.path.domain),(.int .i64 aS.size)]),(.int .i64 fE)])∧H'=H0:=by
 refine lN GN dm [] fun hcl K0 aP H hH hfr=> ?_
 clear hH
 have hle:=hfr.le
 rw [nV.eq_1] at h
 refine cj ?_
 obtain ⟨q2,hO⟩:∃q:Nat,H.length=q:=⟨_,rfl⟩
 try rw [hO]
 obtain ⟨o57,ck,h⟩:=au h
 refine bA aq (Bh (q2:=q2) (Fr.app hfr) pJ bU ck ?_ ?_)
 · rintro bn rfl H hfr ai
   try dsimp only at h ai
   have hle:=hfr.le
   have aL:=aN ai
   refine ax ai ?_
   obtain ⟨o54,cN,h⟩:=au h
   refine bA aq (Bj (bn:=bn) (kz:=q2) hfr (ai.trans rfl) bU cN ?_)
   · rintro qh rfl H hfr ai
     try dsimp only at h ai
     have hle:=hfr.le
     have aL:=aN ai
     refine ax ai ?_
     obtain ⟨o53,gi,h⟩:=au h
     refine bA aq (Bl (bn:=bn) (qt:=q2) hfr (ai.trans rfl) bU gi ?_)
     · rintro Yd rfl H hfr ai
       try dsimp only at h ai
       have hle:=hfr.le
       have aL:=aN ai
       refine ax ai ?_
       obtain ⟨x30,fS,h⟩:=au h
       refine ax (aA fS ai) ?_
       obtain ⟨r31,fC,h⟩:=au h
       refine bw aq (xh fC) ?_
       refine ax ai ?_
       obtain ⟨r32,eA,h⟩:=au h
       refine bw aq (Gd eA) ?_
       refine ax ai ?_
       obtain ⟨jf,eT,h⟩:=au h
       refine ax (aA eT ai) ?_
       refine bk h (fun fT h=> ?_) fun fT h=> ?_
       · refine ax ai ?_
         obtain ⟨rfl,rfl⟩:=cT h
         exact aP _ _ _ bh (aR (b6 _ hfr) hcl (br (cs:=[(.int .i64 0),(.str ([]:List UInt8)),(.str ([]:List UInt8)),(.str ([]:List UInt8)),(.int .i64 0)]) (v:=(.agg [(.int .i64 0),(.str ([]:List UInt8)),(.str ([]:List UInt8)),(.str ([]:List UInt8)),(.int .i64 0)])) (by kernel_rfl) (n:=(some 5)) (by kernel_rfl) rfl cL (by simp [bO,bN,eC,aX,AV.flat,cu,cR,AV.bB,Tg.sh]) (aU aZ (.int .i64 500))) bf aW ⟨rfl,rfl⟩)
       · refine ax ai ?_
         obtain ⟨t36,ie,h⟩:=au h
         refine bA aq (Bm (jf:=jf) (bn:=bn) (Us:=q2) hfr (ai.trans rfl) bU ie ?_)
         intro H hfr ai
         have hle:=hfr.le
         have aL:=aN ai
         refine ax ai ?_
         refine bk h (fun iF h=> ?_) fun iF h=> ?_
         · refine ax ai ?_
           obtain ⟨t41,GA,h⟩:=au h
           refine bA aq (Bn (r32:=r32) (bn:=bn) (Ut:=q2) hfr (ai.trans rfl) bU GA ?_)
           intro H hfr ai
           have hle:=hfr.le
           have aL:=aN ai
           refine ax ai ?_
           refine bk h (fun D9 h=> ?_) fun D9 h=> ?_
           · refine ax ai ?_
             obtain ⟨rfl,rfl⟩:=cT h
             exact aP _ _ _ bh (aR (b6 _ hfr) hcl (br (cs:=[(.int .i64 0),(.str ([]:List UInt8)),(.str ([]:List UInt8)),(.str ([]:List UInt8)),(.int .i64 0)]) (v:=(.agg [(.int .i64 0),(.str ([]:List UInt8)),(.str ([]:List UInt8)),(.str ([]:List UInt8)),(.int .i64 0)])) (by kernel_rfl) (n:=(some 5)) (by kernel_rfl) rfl cL (by simp [bO,bN,eC,aX,AV.flat,cu,cR,AV.bB,Tg.sh]) (aU aZ (.int .i64 501))) bf aW ⟨rfl,rfl⟩)
           · obtain ⟨x42,GB,h⟩:=au h
             refine ax (aA GB ai) ?_
             obtain ⟨rfl,rfl⟩:=cT h
             exact aP _ _ _ bh (aR (b6 _ hfr) hcl (br (cs:=[(.int .i64 r32),(.str x42),(.str ([]:List UInt8)),(.str ([]:List UInt8)),(.int .i64 0)]) (v:=(.agg [(.int .i64 r32),(.str x42),(.str ([]:List UInt8)),(.str ([]:List UInt8)),(.int .i64 0)])) (by kernel_rfl) (n:=(some 5)) (by kernel_rfl) rfl cL (by simp [bO,bN,eC,aX,AV.flat,cu,cR,AV.bB,Tg.sh]) (aU aZ (.int .i64 0))) bf aW ⟨rfl,rfl⟩)
         · refine ax ai ?_
           obtain ⟨t45,MY,h⟩:=au h
           refine bA aq (Bo (jf:=jf) (bn:=bn) (wF:=q2) hfr (ai.trans rfl) bU MY ?_)
           intro H hfr ai
           have hle:=hfr.le
           have aL:=aN ai
           refine ax ai ?_
           refine bk h (fun Ye h=> ?_) fun Ye h=> ?_
           · refine ax ai ?_
             obtain ⟨⟨EU,r47⟩,uo,h⟩:=au h
             dsimp only at h
             refine bw aq (GL uo) ?_
             refine ax ai ?_
             obtain ⟨rfl,rfl⟩:=cT h
             exact aP _ _ _ bh (aR (b6 _ hfr) hcl (br (cs:=[(.int .i64 EU.kind),(.str EU.arg),(.str EU.path.ak),(.str EU.path.domain),(.int .i64 EU.size)]) (v:=(.agg [(.int .i64 EU.kind),(.str EU.arg),(.str EU.path.ak),(.str EU.path.domain),(.int .i64 EU.size)])) (by kernel_rfl) (n:=(some 5)) (by kernel_rfl) rfl cL (by simp [bO,bN,eC,aX,AV.flat,cu,cR,AV.bB,Tg.sh]) (aU aZ (.int .i64 r47))) bf aW ⟨rfl,rfl⟩)
           · refine ax ai ?_
             obtain ⟨t50,xq,h⟩:=au h
             refine bA aq (Bp (jf:=jf) (bn:=bn) (Uu:=q2) hfr (ai.trans rfl) bU xq ?_)
             intro H hfr ai
             have hle:=hfr.le
             have aL:=aN ai
             refine ax ai ?_
             refine bk h (fun yV h=> ?_) fun yV h=> ?_
             · refine ax ai ?_
               refine bA aq (Bq (Uv:=q2) (r32:=r32) (jf:=jf) (bn:=bn) hfr (ai.trans rfl) bU ?_)
               intro H hfr ai
               have hle:=hfr.le
               have aL:=aN ai
               refine ax ai ?_
               refine bk h (fun Cy h=> ?_) fun Cy h=> ?_
               · refine ax ai ?_
                 obtain ⟨rfl,rfl⟩:=cT h
                 exact aP _ _ _ bh (aR (b6 _ hfr) hcl (br (cs:=[(.int .i64 0),(.str ([]:List UInt8)),(.str ([]:List UInt8)),(.str ([]:List UInt8)),(.int .i64 0)]) (v:=(.agg [(.int .i64 0),(.str ([]:List UInt8)),(.str ([]:List UInt8)),(.str ([]:List UInt8)),(.int .i64 0)])) (by kernel_rfl) (n:=(some 5)) (by kernel_rfl) rfl cL (by simp [bO,bN,eC,aX,AV.flat,cu,cR,AV.bB,Tg.sh]) (aU aZ (.int .i64 501))) bf aW ⟨rfl,rfl⟩)
               · refine ax ai ?_
                 refine bk h (fun Ea h=> ?_) fun Ea h=> ?_
                 · refine ax ai ?_
                   obtain ⟨rfl,rfl⟩:=cT h
                   exact aP _ _ _ bh (aR (b6 _ hfr) hcl (br (cs:=[(.int .i64 r32),(.str ([]:List UInt8)),(.str ([]:List UInt8)),(.str ([]:List UInt8)),(.int .i64 0)]) (v:=(.agg [(.int .i64 r32),(.str ([]:List UInt8)),(.str ([]:List UInt8)),(.str ([]:List UInt8)),(.int .i64 0)])) (by kernel_rfl) (n:=(some 5)) (by kernel_rfl) rfl cL (by simp [bO,bN,eC,aX,AV.flat,cu,cR,AV.bB,Tg.sh]) (aU aZ (.int .i64 0))) bf aW ⟨rfl,rfl⟩)
                 · obtain ⟨x52,GP,h⟩:=au h
                   refine ax (aA GP ai) ?_
                   obtain ⟨rfl,rfl⟩:=cT h
                   exact aP _ _ _ bh (aR (b6 _ hfr) hcl (br (cs:=[(.int .i64 r32),(.str x52),(.str ([]:List UInt8)),(.str ([]:List UInt8)),(.int .i64 0)]) (v:=(.agg [(.int .i64 r32),(.str x52),(.str ([]:List UInt8)),(.str ([]:List UInt8)),(.int .i64 0)])) (by kernel_rfl) (n:=(some 5)) (by kernel_rfl) rfl cL (by simp [bO,bN,eC,aX,AV.flat,cu,cR,AV.bB,Tg.sh]) (aU aZ (.int .i64 0))) bf aW ⟨rfl,rfl⟩)
             · refine ax ai ?_
               refine bk h (fun Yf h=> ?_) fun Yf h=> ?_
               · refine ax ai ?_
                 obtain ⟨rfl,rfl⟩:=cT h
                 exact aP _ _ _ bh (aR (b6 _ hfr) hcl (br (cs:=[(.int .i64 0),(.str ([]:List UInt8)),(.str ([]:List UInt8)),(.str ([]:List UInt8)),(.int .i64 0)]) (v:=(.agg [(.int .i64 0),(.str ([]:List UInt8)),(.str ([]:List UInt8)),(.str ([]:List UInt8)),(.int .i64 0)])) (by kernel_rfl) (n:=(some 5)) (by kernel_rfl) rfl cL (by simp [bO,bN,eC,aX,AV.flat,cu,cR,AV.bB,Tg.sh]) (aU aZ (.int .i64 501))) bf aW ⟨rfl,rfl⟩)
               · refine ax ai ?_
                 obtain ⟨rfl,rfl⟩:=cT h
                 exact aP _ _ _ bh (aR (b6 _ hfr) hcl (br (cs:=[(.int .i64 r32),(.str ([]:List UInt8)),(.str ([]:List UInt8)),(.str ([]:List UInt8)),(.int .i64 0)]) (v:=(.agg [(.int .i64 r32),(.str ([]:List UInt8)),(.str ([]:List UInt8)),(.str ([]:List UInt8)),(.int .i64 0)])) (by kernel_rfl) (n:=(some 5)) (by kernel_rfl) rfl cL (by simp [bO,bN,eC,aX,AV.flat,cu,cR,AV.bB,Tg.sh]) (aU aZ (.int .i64 0))) bf aW ⟨rfl,rfl⟩)
 · rintro ⟨EV,r56⟩ rfl H hfr ai
   try dsimp only at h ai
   have hle:=hfr.le
   have aL:=aN ai
   refine ax ai ?_
   obtain ⟨rfl,rfl⟩:=cT h
   exact aP _ _ _ bh (aR hfr hcl (br (cs:=[(.int .i64 EV.kind),(.str EV.arg),(.str EV.path.ak),(.str EV.path.domain),(.int .i64 EV.size)]) (v:=(.agg [(.int .i64 EV.kind),(.str EV.arg),(.str EV.path.ak),(.str EV.path.domain),(.int .i64 EV.size)])) (by kernel_rfl) (n:=(some 5)) (by kernel_rfl) rfl (ai.trans rfl) (by simp [bO,bN,eC,aX,AV.flat,cu,cR,AV.bB,Tg.sh]) (aU aZ (.int .i64 r56))) bf aW ⟨rfl,rfl⟩)
end Go.Proofs.cQ
end
section
namespace Go.Am
open Go
theorem wr {n:Int} (h1: -9223372036854775808≤n) (h2:n≤9223372036854775807):IntKind.wrap .i64 n=n:=by
 simp only [IntKind.wrap,IntKind.bits,IntKind.signed,Bool.true_and,decide_eq_true_eq,Int.reducePow,Nat.reduceSub,ge_iff_le]
 split<;>omega
theorem Cz {α:Type} (l:List α) (n:Nat):idx l (n:Int)=l[n]? :=by simp [idx]
theorem bz {α:Type} {l:List α} {n:Nat} {x:α} (h:l[n]? =some x):idx l (n:Int)=some x:=by rw [Cz,h]
theorem aaW {α:Type} {l:List α} {n:Nat} (h:n<l.length):idx l (n:Int)=some l[n]:=by rw [Cz,List.getElem?_eq_getElem h]
theorem afX {α:Type} {l:List α} {i:Int} (h0:0≤i) (h1:i<l.length):∃x,idx l i=some x∧l[i.toNat]? =some x:=by
 obtain ⟨n,rfl⟩:=Int.eq_ofNat_of_zero_le h0
 have hn:n<l.length:=by omega
 exact ⟨l[n],aaW hn,by simp [List.getElem?_eq_getElem hn]⟩
theorem qu {α:Type} {l:List α} {i j:Nat} (h:i≤j) (h2:j≤l.length):sub l (i:Int) (j:Int)=some ((l.take j).drop i):=by
 unfold sub;rw [if_pos (by omega)];simp
theorem gy {α:Type} {l:List α} {i:Nat} (h:i≤l.length):sub l (i:Int) (l.length:Int)=some (l.drop i):=by
 rw [qu h (Nat.le_refl _),List.take_length]
theorem nW {α:Type} {l:List α} {j:Nat} (h:j≤l.length):sub l 0 (j:Int)=some (l.take j):=by
 have:=qu (l:=l) (i:=0) (Nat.zero_le j) h
 simpa using this
theorem afy {α:Type} {l:List α} {i:Int} (h0:0≤i) (h:i≤l.length):sub l i (l.length:Int)=some (l.drop i.toNat):=by
 obtain ⟨n,rfl⟩:=Int.eq_ofNat_of_zero_le h0
 rw [gy (by omega)];simp
theorem sub_one {α:Type} {l:List α} {c:α} {r:List α} (h:l=c::r):sub l 1 (l.length:Int)=some r:=by
 have:=gy (l:=l) (i:=1) (by rw [h];simp)
 rw [h] at this ⊢;simpa using this
theorem fU {α:Type} {b:Nat} {xs ys:List α} (h:xs.length+ys.length≤1000000000) (hb:b≤1000):fq b xs ys=some (xs++ys):=by
 unfold fq
 rw [if_pos]
 refine ⟨?_,by omega⟩
 calc (xs.length+ys.length)*b≤1000000000*1000:=Nat.mul_le_mul h hb
  _≤_:=by omega
theorem bD {l m:List UInt8} (h:l.length+m.length≤1000000000):cat l m=some (l++m):=by
 unfold cat;rw [if_pos (by omega)]
theorem bW {ρ τ σ:Type} {body:σ→Option (St ρ τ σ)} {F:Nat} {s s':σ} (h:body s=some (.cA s')):iter body (F+1) s=iter body F s':=by simp only [iter,h]
theorem bu {ρ τ σ:Type} {body:σ→Option (St ρ τ σ)} {F:Nat} {s:σ} {t:τ} (h:body s=some (.dQ t)):iter body (F+1) s=some (.inr t):=by simp only [iter,h]
theorem c6 {ρ τ σ:Type} {body:σ→Option (St ρ τ σ)} {F:Nat} {s:σ} {r:ρ} (h:body s=some (.ret r)):iter body (F+1) s=some (.inl r):=by simp only [iter,h]
theorem ad6 {ρ τ σ:Type} {body:σ→Option (St ρ τ σ)} (I:σ→Prop) (m:σ→Nat) (post:ρ⊕τ→Prop)
 (step:∀s,I s→(∃r,body s=some (.ret r)∧post (.inl r))∨(∃t,body s=some (.dQ t)∧post (.inr t))∨∃s',body s=some (.cA s')∧I s'∧m s'<m s):
 ∀(F:Nat) (s:σ),I s→m s<F→∃o,iter body F s=some o∧post o:=by
 intro F
 induction F with
 |zero=>intro s _ h;omega
 |succ F ih=>
  intro s hI hm
  rcases step s hI with ⟨r,h,hp⟩|⟨t,h,hp⟩|⟨s',h,hI',hlt⟩
  · exact ⟨_,c6 h,hp⟩
  · exact ⟨_,bu h,hp⟩
  · obtain ⟨o,ho,hp⟩:=ih s' hI' (by omega)
    exact ⟨o,by rw [bW h];exact ho,hp⟩
theorem drop_cons {α:Type} {l r:List α} {i:Nat} {c:α} (h:l.drop i=c::r):i<l.length∧l[i]? =some c∧l.drop (i+1)=r:=by
 have hlt:i<l.length:=by
  rcases Nat.lt_or_ge i l.length with h1|h1
  · exact h1
  · rw [List.drop_eq_nil_of_le h1] at h;cases h
 rw [List.drop_eq_getElem_cons hlt] at h
 injection h with h1 h2
 exact ⟨hlt,by rw [List.getElem?_eq_getElem hlt,h1],h2⟩
theorem aaX {α:Type} {l:List α} {i:Nat} (h:l.drop i=[]):l.length≤i:=List.drop_eq_nil_iff.1 h
theorem bH {n F:Nat} (h:n<F):∃G,F=G+1:=⟨F - 1,by omega⟩
end Go.Am
end
section
set_option maxRecDepth 100000
namespace Go.Proofs.cQ
open Go Go.Am Go.Proofs
theorem e7 {p:UInt8→Bool} (h:(List.range 256).all (fun n=>p (UInt8.ofNat n))=true) (c:UInt8):p c=true:=by
 have:=List.all_eq_true.1 h c.toNat (by simpa using c.toNat_lt)
 simpa using this
theorem scan {α ρ τ σ:Type} {s:List α} {body:σ→Option (St ρ τ σ)} {mk:Nat→σ} {p:α→Bool} {rr:Nat→ρ} {tt:τ}
 (h1:∀i x,s[i]? =some x→p x=true→body (mk i)=some (.cA (mk (i+1)))) (h2:∀i x,s[i]? =some x→p x=false→body (mk i)=some (.ret (rr i)))
 (h3:body (mk s.length)=some (.dQ tt)) {F:Nat} (hF:s.length<F):
 (s.all p=true→iter body F (mk 0)=some (.inr tt))∧(s.all p=false→∃j,iter body F (mk 0)=some (.inl (rr j))):=by
 suffices h:∀(r:List α) (i F:Nat),s.drop i=r→i+r.length=s.length→r.length<F→
  (r.all p=true→iter body F (mk i)=some (.inr tt))∧(r.all p=false→∃j,iter body F (mk i)=some (.inl (rr j))) from h s 0 F rfl (by simp) hF
 intro r
 induction r with
 |nil=>
  intro i F hd hl hF
  obtain ⟨G,rfl⟩:=bH hF
  have:i=s.length:=by simpa using hl
  subst this
  exact ⟨fun _=>bu h3,fun h=>by simp at h⟩
 |cons x r ih=>
  intro i F hd hl hF
  obtain ⟨G,rfl⟩:=bH hF
  obtain ⟨hi,hx,hr⟩:=drop_cons hd
  simp only [List.length_cons] at hl hF
  cases hp:p x with
  |true=>
   rw [bW (h1 i x hx hp)]
   simp only [List.all_cons,hp,Bool.true_and]
   exact ih (i+1) G hr (by omega) (by omega)
  |false=>
   rw [c6 (h2 i x hx hp)]
   simp only [List.all_cons,hp,Bool.false_and]
   exact ⟨fun h=>by simp at h,fun _=>⟨i,rfl⟩⟩
theorem wi {n:Nat} (h:n≤1000000000):IntKind.wrap .i64 ((n:Int)+1)=((n+1:Nat):Int):=by rw [wr (by omega) (by omega)];simp
def EX (c:UInt8):Bool:=(decide (65≤c)&&decide (c≤90))||(decide (97≤c)&&decide (c≤122))
def eE (c:UInt8):Bool:=decide (48≤c)&&decide (c≤57)
def yW (c:UInt8):Bool:=EX c||eE c||c==45
theorem ad7 (c:UInt8):ja c=some (EX c||eE c):=by
 have:=e7 (p:=fun c=>decide (ja c=some (EX c||eE c))) (by kernel_rfl) c
 simpa using this
theorem MZ (c:UInt8):lV c=some (yW c):=by
 have:=e7 (p:=fun c=>decide (lV c=some (yW c))) (by kernel_rfl) c
 simpa using this
theorem vI (c:UInt8):gm c=some (EX c):=by
 have:=e7 (p:=fun c=>decide (gm c=some (EX c))) (by kernel_rfl) c
 simpa using this
theorem vJ (c:UInt8):ga c=some (eE c):=by
 have:=e7 (p:=fun c=>decide (ga c=some (eE c))) (by kernel_rfl) c
 simpa using this
def aV:List UInt8→List (List UInt8)
 |[]=>[[]]
 |c::r=>if c=46 then []::aV r else match aV r with|[]=>[[c]]|h::t=>(c::h)::t
theorem ic:∀s,aV s≠[]
 |[]=>by simp [aV]
 |c::r=>by
  unfold aV
  split
  · simp
  · split<;>simp
theorem Qe (r:List UInt8):Lib.split (46::r) [46]=[]::Lib.split r [46]:=by
 have hi:Lib.index (46::r) [46]=((0:Nat):Int):=by unfold Lib.index;rw [if_pos (by simp [List.isPrefixOf])];rfl
 have hc:=Lib.count_hit (by simp) hi
 unfold Lib.split
 rw [hc,Nat.add_comm]
 simp only [Lib.splitK,hi]
 rfl
theorem M0 {c:UInt8} (hc:c≠46) (r:List UInt8):Lib.split (c::r) [46]=match Lib.split r [46] with|[]=>[[c]]|h::t=>(c::h)::t:=by
 have hp:([46]:List UInt8).isPrefixOf (c::r)=false:=by simp [List.isPrefixOf];exact fun h=>hc h.symm
 have hi:Lib.index (c::r) [46]=if Lib.index r [46]== -1 then -1 else Lib.index r [46]+1:=by
  conv=>lhs;unfold Lib.index
  rw [if_neg (by rw [hp];simp)]
 rcases Lib.index_spec r [46] with ⟨h, -⟩|⟨i,h, -, -, -⟩
 · rw [h] at hi
   unfold Lib.split
   rw [Lib.count_miss h,Lib.count_miss hi]
   rfl
 · have hne:(((i:Nat):Int)== -1)=false:=by rw [beq_eq_false_iff_ne];omega
   rw [h,hne] at hi
   have hi':Lib.index (c::r) [46]=((i+1:Nat):Int):=by rw [hi];simp
   unfold Lib.split
   rw [Lib.count_hit (by simp) h,Lib.count_hit (by simp) hi',Nat.add_comm 1,Nat.add_comm 1]
   have yg:(((i+1:Nat):Int)== -1)=false:=by rw [beq_eq_false_iff_ne];omega
   simp only [Lib.splitK,h,hi',hne,yg,Bool.false_eq_true,if_false,Int.toNat_natCast,Nat.add_zero,List.take_succ_cons,List.length_cons,List.length_nil,Nat.zero_add,List.drop_succ_cons]
theorem DG:∀s:List UInt8,Lib.split s [46]=aV s
 |[]=>by rfl
 |c::r=>by
  by_cases hc:c=46
  · subst hc;rw [Qe,DG r];simp [aV]
  · rw [M0 hc,DG r];simp only [aV,if_neg hc]
theorem mU (s:List UInt8):∀p∈aV s,p.length≤s.length:=by
 induction s with
 |nil=>simp [aV]
 |cons c r ih=>
  unfold aV
  split
  · intro p hp
    rcases List.mem_cons.1 hp with rfl|hp
    · simp
    · have:=ih p hp;simp;omega
  · cases hs:aV r with
    |nil=>exact absurd hs (ic r)
    |cons h t=>
     simp only
     intro p hp
     rcases List.mem_cons.1 hp with rfl|hp
     · have:=ih h (by rw [hs];simp);simp;omega
     · have:=ih p (by rw [hs];simp [hp]);simp;omega
theorem zx (s:List UInt8):(aV s).length≤s.length+1:=by
 induction s with
 |nil=>simp [aV]
 |cons c r ih=>
  unfold aV
  split
  · simp;omega
  · cases hs:aV r with
    |nil=>exact absurd hs (ic r)
    |cons h t=>rw [hs] at ih;simp at ih ⊢;omega
theorem Eb {p:List UInt8} (hp:∀c∈p,c≠46) (r:List UInt8):aV (p++46::r)=p::aV r:=by
 induction p with
 |nil=>simp [aV]
 |cons c p ih=>
  simp only [List.cons_append,aV,if_neg (hp c (by simp)),ih fun x hx=>hp x (by simp [hx])]
theorem Ec {p:List UInt8} (hp:∀c∈p,c≠46):aV p=[p]:=by
 induction p with
 |nil=>simp [aV]
 |cons c p ih=>
  simp only [aV,if_neg (hp c (by simp)),ih fun x hx=>hp x (by simp [hx])]
def Yg:List (List UInt8):=(List.range 256).map fun n:Nat=>Lib.itoa (n:Int)
def kI (s:List UInt8):Bool:=Yg.contains s
theorem M1:(List.range 256).all (fun n:Nat=>decide (kR (Lib.itoa (n:Int))=some true))=true:=by kernel_rfl
theorem Uw:Yg.all (fun s=>decide (s.length≤3∧s.all eE=true∧s≠[]∧(s.head?=some 48→s.length≤1)))=true:=by kernel_rfl
theorem zy {s:List UInt8}:kI s=true↔∃n:Nat,n<256∧Lib.itoa (n:Int)=s:=by
 simp [kI,Yg]
theorem sx {s:List UInt8} (h:kI s=true):s.length≤3∧s.all eE=true∧s≠[]∧(s.head?=some 48→s.length≤1):=by
 have:=List.all_eq_true.1 Uw s (by simpa [kI] using h)
 exact of_decide_eq_true this
def vK (s:List UInt8):Nat:=s.foldl (fun a c=>10*a+(c.toNat - 48)) 0
theorem Ux:(List.range 256).all (fun n:Nat=>decide (vK (Lib.itoa (n:Int))=n))=true:=by kernel_rfl
def Ed (s:List UInt8):Bool:=decide (vK s<256)&&decide (Lib.itoa (vK s:Int)=s)
theorem aaY (s:List UInt8):kI s=Ed s:=by
 cases h:kI s with
 |true=>
  obtain ⟨n,hn,rfl⟩:=zy.1 h
  have hv:vK (Lib.itoa (n:Int))=n:=of_decide_eq_true (List.all_eq_true.1 Ux n (by simpa using hn))
  unfold Ed
  rw [hv]
  simp [hn]
 |false=>
  cases h':Ed s with
  |false=>rfl
  |true=>
   simp only [Ed,Bool.and_eq_true,decide_eq_true_eq] at h'
   rw [zy.2 ⟨vK s,h'.1,h'.2⟩] at h;cases h
theorem Qf {s:List UInt8} (hs:s.length≤100000):kR s=some (kI s):=by
 cases hn:kI s with
 |true=>
  obtain ⟨n,hlt,rfl⟩:=zy.1 hn
  have:=List.all_eq_true.1 M1 n (by simpa using hlt)
  simpa using this
 |false=>
  unfold kR strconv_Atoi
  rw [if_pos (by omega)]
  rcases Ak:Lib.atoiAll s with v|_|_
  · simp only [Option.bind_some,gL,Bool.not_false,if_true,decide_eq_true_eq]
    by_cases h0:0≤v
    · by_cases h1:v≤255
      · rw [if_pos h0,if_pos h1]
        unfold strconv_Itoa
        rw [if_pos (by omega)]
        simp only [Option.bind_some,Option.some.injEq,decide_eq_false_iff_not]
        intro he
        have:kI s=true:=zy.2 ⟨v.toNat,by omega,by rw [←he];congr 1;omega⟩
        rw [hn] at this;cases this
      · rw [if_pos h0,if_neg h1];rfl
    · rw [if_neg h0];rfl
  · simp [gL]
  · simp [gL]
end Go.Proofs.cQ
end
section
set_option maxRecDepth 100000
namespace Go.Proofs.cQ
open Go Go.Am Go.Proofs
def gJ (s:List UInt8):Bool:=s !=[]&&s.head? !=some 45&&s.getLast? !=some 45&&s.all yW
def pT (s:List UInt8):Bool:=decide (1<s.length)&&s.head?==some 91&&s.getLast?==some 93
def inner (s:List UInt8):List UInt8:=(s.drop 1).dropLast
def dY (s:List UInt8):Bool:=if pT s then decide ((aV (inner s)).length=4)&&(aV (inner s)).all kI else (aV s).all gJ
def fV (s:List UInt8):Bool:=decide (s.length≤255)&&dY s&&(aV s).all fun p=>decide (p.length≤63)
theorem yX (c:UInt8) (r:List UInt8):∃x,(c::r).getLast?=some x:=by
 cases h:(c::r).getLast? with
 |none=>simp at h
 |some x=>exact ⟨x,rfl⟩
theorem vL {s:List UInt8} {x:UInt8} (h:s.getLast?=some x) (hl:s.length≤1000000):idx s (IntKind.wrap .i64 ((s.length:Int) - 1))=some x:=by
 have hp:0<s.length:=by cases s with|nil=>simp at h|cons=>simp
 rw [wr (by omega) (by omega),show (s.length:Int) - 1=((s.length - 1:Nat):Int) by omega,Cz, ←List.getLast?_eq_getElem?,h]
theorem Yh {s:List UInt8} {F:Nat} (hl:s.length≤1000000) (hF:s.length<F):lW F s=some (s.all yW):=by
 unfold lW
 have hh:=scan (s:=s) (body:=fk s) (mk:=fun i=>(false,(i:Int))) (p:=yW) (rr:=fun _=>false) (tt:=()) ?_ ?_ ?_ hF
 · cases ha:s.all yW with
   |true=>have:=hh.1 ha;rw [show ((0:Nat):Int)=0 from rfl] at this;rw [this];rfl
   |false=>obtain ⟨j,hj⟩:=hh.2 ha;rw [show ((0:Nat):Int)=0 from rfl] at hj;rw [hj];rfl
 · intro i x hx hp
   have hi:=(List.getElem?_eq_some_iff.1 hx).1
   simp only [fk]
   rw [if_pos (by simpa using hi),bz hx,Option.bind_some,MZ,Option.bind_some,hp,wi (by omega)];rfl
 · intro i x hx hp
   have hi:=(List.getElem?_eq_some_iff.1 hx).1
   simp only [fk]
   rw [if_pos (by simpa using hi),bz hx,Option.bind_some,MZ,Option.bind_some,hp];rfl
 · simp [fk]
theorem Yi {s:List UInt8} {F:Nat} (hl:s.length≤1000000) (hF:s.length<F):oQ F s=some (gJ s):=by
 unfold oQ nu gJ
 cases s with
 |nil=>simp
 |cons c r=>
  obtain ⟨x,hx⟩:∃x,(c::r).getLast?=some x:=yX c r
  rw [vL hx hl,Yh hl hF,hx]
  have h0:idx (c::r) 0=some c:=by simp [idx]
  rw [h0]
  by_cases h1:c=45
  · simp [h1]
  · by_cases h2:x=45
    · simp [h1,h2]
    · simp [h1,h2]
theorem IX {x:List UInt8} (hx:x.length≤100000):j8 x=some (!kI x):=by simp [j8,Qf hx]
theorem IY {F:Nat} {x:List UInt8} (hx:x.length≤100000) (hF:x.length<F):j9 F x=some (!gJ x):=by simp [j9,Yi (by omega:x.length≤1000000) hF]
theorem M3 {l:List (List UInt8)} {F:Nat} (hl:l.length≤1000000) (hF:l.length<F) (hx:∀x∈l,x.length≤100000):eH F l=some (!l.all kI):=by
 unfold eH iy
 have hh:=scan (s:=l) (body:=dc l) (mk:=fun i=>(0,(i:Int))) (p:=kI) (rr:=fun i=>(i:Int)) (tt:=()) ?_ ?_ ?_ hF
 · cases ha:l.all kI with
   |true=>have:=hh.1 ha;rw [show ((0:Nat):Int)=0 from rfl] at this;rw [this];rfl
   |false=>obtain ⟨j,hj⟩:=hh.2 ha;rw [show ((0:Nat):Int)=0 from rfl] at hj;rw [hj];simp
 · intro i x hx' hp
   have hi:=(List.getElem?_eq_some_iff.1 hx').1
   simp only [dc]
   rw [if_pos (by simpa using hi),bz hx',Option.bind_some,IX (hx x (List.mem_of_getElem? hx')),Option.bind_some,hp,wi (by omega)];rfl
 · intro i x hx' hp
   have hi:=(List.getElem?_eq_some_iff.1 hx').1
   simp only [dc]
   rw [if_pos (by simpa using hi),bz hx',Option.bind_some,IX (hx x (List.mem_of_getElem? hx')),Option.bind_some,hp];rfl
 · simp [dc]
theorem M4 {l:List (List UInt8)} {F:Nat} (hl:l.length≤1000000) (hF:l.length<F) (hx:∀x∈l,x.length≤100000∧x.length<F):eo F l=some (!l.all gJ):=by
 unfold eo gU
 have hh:=scan (s:=l) (body:=cU F l) (mk:=fun i=>(0,(i:Int))) (p:=gJ) (rr:=fun i=>(i:Int)) (tt:=()) ?_ ?_ ?_ hF
 · cases ha:l.all gJ with
   |true=>have:=hh.1 ha;rw [show ((0:Nat):Int)=0 from rfl] at this;rw [this];rfl
   |false=>obtain ⟨j,hj⟩:=hh.2 ha;rw [show ((0:Nat):Int)=0 from rfl] at hj;rw [hj];simp
 · intro i x hx' hp
   have hi:=(List.getElem?_eq_some_iff.1 hx').1
   obtain ⟨ha,hb⟩:=hx x (List.mem_of_getElem? hx')
   simp only [cU]
   rw [if_pos (by simpa using hi),bz hx',Option.bind_some,IY ha hb,Option.bind_some,hp,wi (by omega)];rfl
 · intro i x hx' hp
   have hi:=(List.getElem?_eq_some_iff.1 hx').1
   obtain ⟨ha,hb⟩:=hx x (List.mem_of_getElem? hx')
   simp only [cU]
   rw [if_pos (by simpa using hi),bz hx',Option.bind_some,IY ha hb,Option.bind_some,hp];rfl
 · simp [cU]
theorem M5 {l:List (List UInt8)} {F:Nat} (hl:l.length≤1000000) (hF:l.length<F):dI F l=some (!l.all fun p=>decide (p.length≤63)):=by
 unfold dI fZ
 have hh:=scan (s:=l) (body:=cG l) (mk:=fun i=>(0,(i:Int))) (p:=fun p=>decide (p.length≤63)) (rr:=fun i=>(i:Int)) (tt:=()) ?_ ?_ ?_ hF
 · cases ha:l.all fun p=>decide (p.length≤63) with
   |true=>have:=hh.1 ha;rw [show ((0:Nat):Int)=0 from rfl] at this;rw [this];rfl
   |false=>obtain ⟨j,hj⟩:=hh.2 ha;rw [show ((0:Nat):Int)=0 from rfl] at hj;rw [hj];simp
 · intro i x hx' hp
   have hi:=(List.getElem?_eq_some_iff.1 hx').1
   simp only [cG]
   rw [if_pos (by simpa using hi),bz hx',Option.bind_some,ko,Option.bind_some,if_neg (by simp at hp ⊢;omega),wi (by omega)]
 · intro i x hx' hp
   have hi:=(List.getElem?_eq_some_iff.1 hx').1
   simp only [cG]
   rw [if_pos (by simpa using hi),bz hx',Option.bind_some,ko,Option.bind_some,if_pos (by simp at hp ⊢;omega)]
 · simp [cG]
theorem uq {s:List UInt8} (h:s.length≤1000000):strings_Split s [46]=some (aV s):=by
 unfold strings_Split;rw [if_pos (by simp;omega),DG]
theorem GQ {s:List UInt8} {F:Nat} (hl:s.length≤99000) (hF:s.length+1<F):kS F s=some (dY s):=by
 have GR:jk s=some (pT s):=by
  unfold jk pT
  by_cases h1:1<s.length
  · cases s with
    |nil=>simp at h1
    |cons c r=>
     obtain ⟨x,hx⟩:∃x,(c::r).getLast?=some x:=yX c r
     rw [if_pos (by simp at h1 ⊢;omega),vL hx (by omega),hx,show idx (c::r) 0=some c by simp [idx]]
     rw [decide_eq_true h1]
     by_cases h2:c=91
     · simp [h2];rfl
     · simp [h2]
  · rw [if_neg (by simp;omega)];simp [h1]
 unfold kS dY
 rw [GR,Option.bind_some]
 cases hi:pT s with
 |true=>
  have h1:1<s.length:=by simp [pT] at hi;omega
  simp only [if_true]
  rw [wr (by omega) (by omega)]
  have hsub:sub s 1 ((s.length:Int) - 1)=some (inner s):=by
   rw [show (1:Int)=((1:Nat):Int) from rfl,show (s.length:Int) - ((1:Nat):Int)=((s.length - 1:Nat):Int) by omega,qu (by omega) (by omega)]
   congr 1
   unfold inner
   rw [List.dropLast_eq_take,List.length_drop,List.drop_take]
  have hil:(inner s).length+2=s.length:=by simp [inner];omega
  rw [hsub,Option.bind_some,uq (by omega),Option.bind_some]
  unfold mh
  have hn:=zx (inner s)
  by_cases h4:(aV (inner s)).length=4
  · rw [if_pos (by simpa using by omega),M3 (by omega) (by omega) fun x hx=>by have:=mU _ x hx;omega]
    simp [h4]
  · rw [if_neg (by simpa using by omega)]
    simp [h4]
 |false=>
  have hn:=zx s
  simp only [Bool.false_eq_true,if_false]
  rw [uq (by omega),Option.bind_some,M4 (by omega) (by omega) fun x hx=>by have:=mU _ x hx;omega]
  simp
theorem Yj {s:List UInt8} {F:Nat} (hl:s.length≤99000) (hF:s.length+1<F):jb F s=some (fV s):=by
 unfold jb mo fV
 by_cases h:s.length≤255
 · rw [if_pos (by simpa using by omega),GQ hl hF]
   have hn:=zx s
   cases dY s with
   |true=>simp only [Option.bind_some,if_true];rw [uq (by omega),Option.bind_some,M5 (by omega) (by omega)];simp [h]
   |false=>simp
 · rw [if_neg (by simpa using by omega)];simp [h]
end Go.Proofs.cQ
end
section
set_option maxRecDepth 100000
namespace Go.Proofs.cQ
open Go Go.Am Go.Proofs
def Ee:List UInt8:=(List.range 10).map fun n=>UInt8.ofNat (48+n)
theorem adF (n:Nat):Ee.all (fun a=>decide (fA (n+10) [a]=some (Ed [a])))=true:=by kernel_rfl
theorem adG (n:Nat):Ee.all (fun a=>Ee.all fun b=>decide (fA (n+10) [a,b]=some (Ed [a,b])))=true:=by kernel_rfl
theorem adH (n:Nat):Ee.all (fun a=>Ee.all fun b=>Ee.all fun c=>decide (fA (n+10) [a,b,c]=some (Ed [a,b,c])))=true:=by kernel_rfl
theorem qB {c:UInt8} (h:eE c=true):c∈Ee:=by
 have:=e7 (p:=fun c=> !eE c||Ee.contains c) (by kernel_rfl) c
 simpa [h] using this
theorem Uy {s:List UInt8} {F:Nat} (hF:10≤F) (hl:s.length≤100000):fA F s=some (kI s):=by
 by_cases h3:3<s.length
 · have hn:kI s=false:=by
    cases h:kI s with
    |false=>rfl
    |true=>have:=(sx h).1;omega
   have hne:s≠[]:=by intro h;subst h;simp at h3
   unfold fA fI
   simp only [hne,decide_false,Bool.false_eq_true,if_false]
   rw [if_pos (by simp;omega),hn];rfl
 · by_cases hd:s.all eE=true
   · obtain ⟨G,rfl⟩:∃G,F=G+10:=⟨F - 10,by omega⟩
     rw [List.all_eq_true] at hd
     rw [aaY]
     match s,h3,hd with
     |[],_,_=>rw [show Ed []=false by kernel_rfl];simp [fA,fI]
     |[a],_,hd=>exact of_decide_eq_true (List.all_eq_true.1 (adF G) a (qB (hd a (by simp))))
     |[a,b],_,hd=>exact of_decide_eq_true (List.all_eq_true.1 (List.all_eq_true.1 (adG G) a (qB (hd a (by simp)))) b (qB (hd b (by simp))))
     |[a,b,c],_,hd=>exact of_decide_eq_true (List.all_eq_true.1 (List.all_eq_true.1 (List.all_eq_true.1 (adH G) a (qB (hd a (by simp)))) b (qB (hd b (by simp)))) c (qB (hd c (by simp))))
     |a::b::c::d::r,h3,_=>simp at h3
   · have hn:kI s=false:=by
      cases h:kI s with
      |false=>rfl
      |true=>exact absurd (sx h).2.1 hd
     rw [hn]
     have hp:∃b,fI s=some b:=by
      unfold fI
      cases s with
      |nil=>simp
      |cons c r=>
       rw [show idx (c::r) 0=some c by simp [idx]]
       simp only [Option.bind_some]
       repeat' split
       all_goals exact ⟨_,rfl⟩
     obtain ⟨b,hb⟩:=hp
     unfold fA
     rw [hb,Option.bind_some]
     cases b with
     |true=>rfl
     |false=>
      simp only [Bool.false_eq_true,if_false]
      have GS:∀(r:List UInt8) (i F:Nat) (n:Int),s.drop i=r→i+r.length=s.length→r.length<F→r.all eE=false→iter (gM s) F (n,(i:Int))=some (.inl false):=by
       intro r
       induction r with
       |nil=>intro i F n _ _ _ h;simp at h
       |cons x r ih=>
        intro i F n hdr hlr hF ha
        obtain ⟨G,rfl⟩:=bH hF
        obtain ⟨hi,hx,hr⟩:=drop_cons hdr
        simp only [List.length_cons] at hlr hF
        have hstep:gM s (n,(i:Int))=if (!eE x)=true then some (.ret false) else some (.cA ((IntKind.wrap .i64 ((IntKind.wrap .i64 (10*n))+(IntKind.wrap .i64 ((x - 48).toNat:Int)))),((i+1:Nat):Int))):=by
         simp only [gM]
         rw [if_pos (by simpa using hi),bz hx,Option.bind_some,vJ,Option.bind_some,wi (by omega)]
        cases hx':eE x with
        |false=>rw [hx'] at hstep;exact c6 (by rw [hstep];rfl)
        |true=>
         rw [hx'] at hstep
         rw [bW (by rw [hstep];rfl)]
         exact ih (i+1) G _ hr (by omega) (by omega) (by simpa [hx'] using ha)
      rw [show (0,(0:Int))=((0:Int),((0:Nat):Int)) from rfl,GS s 0 F 0 rfl (by simp) (by omega) (by simpa using hd)]
      rfl
def IZ (s:List UInt8):Bool:=gJ s&&decide (s.length≤63)
theorem Yk {s:List UInt8} {F:Nat} (hl:s.length≤100000) (hF:s.length<F):nM F s=some (IZ s):=by
 unfold nM mq IZ gJ
 cases s with
 |nil=>simp
 |cons c r=>
  obtain ⟨x,hx⟩:=yX c r
  rw [vL hx (by omega),hx,show idx (c::r) 0=some c by simp [idx]]
  by_cases h0:63<(c::r).length
  · rw [if_neg (by simp),if_pos (by simp at h0 ⊢;omega)]
    have:decide ((c::r).length≤63)=false:=by simp at h0 ⊢;omega
    rw [this];simp
  · have h0':decide ((c::r).length≤63)=true:=by simp at h0 ⊢;omega
    rw [if_neg (by simp),if_neg (by simp at h0 ⊢;omega),h0']
    by_cases h1:c=45
    · simp [h1]
    · by_cases h2:x=45
      · simp [h1,h2]
      · have hh:=scan (s:=c::r) (body:=fJ (c::r)) (mk:=fun i=>(i:Int)) (p:=yW) (rr:=fun _=>false) (tt:=()) ?_ ?_ ?_ hF
        · simp only [Option.bind_some,h1,h2,decide_false,Bool.false_eq_true,if_false]
          cases ha:(c::r).all yW with
          |true=>have:=hh.1 ha;rw [show ((0:Nat):Int)=0 from rfl] at this;rw [this];simp [h1,h2]
          |false=>obtain ⟨j,hj⟩:=hh.2 ha;rw [show ((0:Nat):Int)=0 from rfl] at hj;rw [hj];simp [h1,h2]
        · intro i y hy hp
          have hi:=(List.getElem?_eq_some_iff.1 hy).1
          simp only [fJ,js]
          rw [if_pos (by simp at hi ⊢;omega),bz hy,Option.bind_some,vI,Option.bind_some,vJ,Option.bind_some,wi (by omega)]
          simp only [yW] at hp
          cases h1:EX y<;>cases h2:eE y<;>simp [h1,h2] at hp ⊢
          exact hp
        · intro i y hy hp
          have hi:=(List.getElem?_eq_some_iff.1 hy).1
          simp only [fJ,js]
          rw [if_pos (by simp at hi ⊢;omega),bz hy,Option.bind_some,vI,Option.bind_some,vJ,Option.bind_some]
          simp only [yW] at hp
          cases h1:EX y<;>cases h2:eE y<;>simp [h1,h2] at hp ⊢
          exact hp
        · simp [fJ]
end Go.Proofs.cQ
end
section
set_option maxRecDepth 100000
namespace Go.Proofs.cQ
open Go Go.Am Go.Proofs
def KK (num:Bool) (s:List UInt8):Bool:=if num then kI s else IZ s
theorem Yl {F:Nat} {x:UInt8} {s:List UInt8} {a i:Nat} (h:a≤i) (hi:i≤s.length) (hl:s.length≤99000) (hF:s.length+10<F):
 iI F x s (a:Int) (i:Int)=some (!KK (x==91) ((s.take i).drop a)):=by
 have hlen:((s.take i).drop a).length≤s.length:=by simp;omega
 unfold iI KK
 rw [qu h hi]
 by_cases hx:x=91
 · rw [if_pos (by simpa using hx)]
   simp only [Option.bind_some]
   rw [Uy (by omega) (by omega)]
   simp only [Option.bind_some,hx,beq_self_eq_true,if_true]
   cases kI ((s.take i).drop a)<;>rfl
 · rw [if_neg (by simpa using hx)]
   simp only [Option.bind_some]
   rw [Yk (by omega) (by omega)]
   have:(x==91)=false:=by simpa using hx
   simp [this]
theorem I0 {F:Nat} {x:UInt8} {s:List UInt8} (hl:s.length≤99000) (DH:s.length+10<F):∀(r cur:List UInt8) (a k i G:Nat),(∀c∈cur,c≠46)→s.drop a=cur++r→a+cur.length=i→i+r.length=s.length→r.length+1<G→k≤i→
 iter (cJ F s x) G ((a:Int),(k:Int),(i:Int))=some (if (aV (cur++r)).all (KK (x==91)) then .inr ((k+(aV (cur++r)).length:Nat):Int) else .inl false):=by
 have xB:∀(cur r:List UInt8) (a i:Nat),s.drop a=cur++r→a+cur.length=i→(s.take i).drop a=cur:=by
  intro cur r a i h hi
  rw [List.drop_take,h, ←hi,Nat.add_sub_cancel_left,List.take_left' rfl]
 intro r
 induction r with
 |nil=>
  intro cur a k i G hc hd ha hi hG hk
  obtain ⟨G,rfl⟩:=bH (show 0<G by omega)
  obtain ⟨G,rfl⟩:=bH (show 0<G by simp at hG;omega)
  have hie:i=s.length:=by simpa using hi
  have hstep:cJ F s x ((a:Int),(k:Int),(i:Int))=if (!KK (x==91) cur)=true then some (.ret false) else some (.cA (((i+1:Nat):Int),((k+1:Nat):Int),((i+1:Nat):Int))):=by
   simp only [cJ]
   rw [if_pos (by simp;omega)]
   have:fm (i:Int) s=some false:=by unfold fm;rw [if_neg (by simp;omega)]
   rw [this,Option.bind_some]
   simp only [Bool.false_eq_true,if_false]
   rw [Yl (by omega) (by omega) hl DH,Option.bind_some,xB cur [] a i hd ha,wi (by omega),wi (by omega)]
  rw [List.append_nil,Ec hc]
  cases hx:KK (x==91) cur with
  |false=>rw [hx] at hstep;rw [c6 (by rw [hstep];rfl)];simp [hx]
  |true=>
   rw [hx] at hstep
   rw [bW (by rw [hstep];rfl)]
   have:cJ F s x (((i+1:Nat):Int),((k+1:Nat):Int),((i+1:Nat):Int))=some (.dQ ((k+1:Nat):Int)):=by
    simp only [cJ]
    rw [if_neg (by simp;omega)]
   rw [bu this]
   simp [hx]
 |cons c r ih=>
  intro cur a k i G hc hd ha hi hG hk
  obtain ⟨G,rfl⟩:=bH (show 0<G by omega)
  simp only [List.length_cons] at hi hG
  have hci:s[i]? =some c:=by
   have:(s.drop a)[cur.length]? =some c:=by rw [hd];simp
   rw [List.getElem?_drop,ha] at this;exact this
  have hp4:fm (i:Int) s=some (!decide (c=46)):=by unfold fm;rw [if_pos (by simp;omega),bz hci];rfl
  by_cases GU:c=46
  · subst GU
    have hstep:cJ F s x ((a:Int),(k:Int),(i:Int))=if (!KK (x==91) cur)=true then some (.ret false) else some (.cA (((i+1:Nat):Int),((k+1:Nat):Int),((i+1:Nat):Int))):=by
     simp only [cJ]
     rw [if_pos (by simp;omega),hp4,Option.bind_some]
     simp only [decide_true,Bool.not_true,Bool.false_eq_true,if_false]
     rw [Yl (by omega) (by omega) hl DH,Option.bind_some,xB cur _ a i hd ha,wi (by omega),wi (by omega)]
    rw [Eb hc]
    cases hx:KK (x==91) cur with
    |false=>rw [hx] at hstep;rw [c6 (by rw [hstep];rfl)];simp [hx]
    |true=>
     rw [hx] at hstep
     rw [bW (by rw [hstep];rfl)]
     have hd':s.drop (i+1)=r:=by
      have:(s.drop a).drop (cur.length+1)=r:=by rw [hd,List.drop_append];simp
      rw [List.drop_drop] at this
      rw [←this];congr 1;omega
     have:=ih [] (i+1) (k+1) (i+1) G (by simp) (by simpa using hd') (by simp) (by omega) (by omega) (by omega)
     rw [List.nil_append] at this
     rw [this]
     simp only [List.all_cons,hx,Bool.true_and,List.length_cons]
     congr 3
     omega
  · have hstep:cJ F s x ((a:Int),(k:Int),(i:Int))=some (.cA ((a:Int),(k:Int),((i+1:Nat):Int))):=by
     simp only [cJ]
     rw [if_pos (by simp;omega),hp4,Option.bind_some]
     simp only [GU,decide_false,Bool.not_false,if_true]
     rw [wi (by omega)]
    rw [bW hstep]
    have:=ih (cur++[c]) a k (i+1) G (by intro y hy;rcases List.mem_append.1 hy with h|h;exact hc y h;simp at h;subst h;exact GU) (by rw [hd];simp) (by simp;omega) (by omega) (by omega) (by omega)
    rw [this]
    simp
theorem Uz (l:List (List UInt8)):l.all IZ=(l.all gJ&&l.all fun p=>decide (p.length≤63)):=by
 induction l with
 |nil=>rfl
 |cons a l ih=>simp only [List.all_cons,ih,IZ];cases gJ a<;>cases decide (a.length≤63)<;>simp
theorem Ef (s:List UInt8):((aV s).map List.length).sum+(aV s).length=s.length+1:=by
 induction s with
 |nil=>simp [aV]
 |cons c r ih=>
  unfold aV
  split
  · simp;omega
  · cases h:aV r with
    |nil=>exact absurd h (ic r)
    |cons a t=>rw [h] at ih;simp at ih ⊢;omega
theorem four {l:List (List UInt8)} (h4:l.length=4) (h:∀p∈l,p.length≤3):(l.map List.length).sum≤12:=by
 match l,h4 with
 |[a,b,c,d],_=>
  have ha:=h a (by simp);have hb:=h b (by simp);have hc:=h c (by simp);have hd:=h d (by simp)
  simp;omega
theorem GV (r:List UInt8):(aV (91::r)).all gJ=false:=by
 have h1:∀t:List UInt8,gJ (91::t)=false:=by
  intro t
  have:yW 91=false:=by decide
  simp [gJ,this]
 simp only [aV]
 rw [if_neg (by decide)]
 split
 · simp [h1]
 · simp [h1]
theorem adI {s:List UInt8} {F:Nat} (hl:s.length≤99000) (hF:s.length+10<F):dF F s=some (fV s):=by
 cases s with
 |nil=>simp [dF,fV,dY,pT,aV,gJ]
 |cons c r=>
  unfold dF
  by_cases Rs:255<(c::r).length
  · rw [if_pos (by simp at Rs ⊢;omega)]
    have:decide ((c::r).length≤255)=false:=by simp at Rs ⊢;omega
    unfold fV;rw [this];rfl
  · have Ym:decide ((c::r).length≤255)=true:=by simp at Rs ⊢;omega
    rw [if_neg (by simp at Rs ⊢;omega),show idx (c::r) 0=some c by simp [idx],Option.bind_some]
    obtain ⟨x,hx⟩:=yX c r
    by_cases hc:c=91
    · subst hc
      unfold iH kY
      rw [if_pos (by rfl),vL hx (by omega),Option.bind_some]
      by_cases hin:pT (91::r)=true
      · have Vr:x=93:=by rw [pT,hx] at hin;simpa using (by simp at hin;exact hin.2)
        have h1:1<(91::r).length:=by rw [pT] at hin;simp at hin ⊢;exact hin.1
        subst Vr
        rw [if_neg (by simp)]
        have:decide ((((91::r).length:Nat):Int)<2)=false:=by simp at h1 ⊢;omega
        rw [this]
        simp only [Option.bind_some,Bool.false_eq_true,if_false]
        have hsub:sub (91::r) 1 (IntKind.wrap .i64 ((((91::r).length:Nat):Int) - 1))=some (inner (91::r)):=by
         rw [wr (by omega) (by omega),show (1:Int)=((1:Nat):Int) from rfl,show (((91::r).length:Nat):Int) - ((1:Nat):Int)=(((91::r).length - 1:Nat):Int) by omega,qu (by omega) (by omega)]
         congr 1
         unfold inner
         rw [List.dropLast_eq_take,List.length_drop,List.drop_take]
        rw [hsub]
        simp only [Option.bind_some]
        have hil:(inner (91::r)).length≤(91::r).length:=by simp [inner];omega
        have Yn:=I0 (F:=F) (x:=91) (s:=inner (91::r)) (by omega) (by omega) (inner (91::r)) [] 0 0 0 F (by simp) (by simp) (by simp) (by simp) (by omega) (Nat.le_refl _)
        simp only [List.nil_append,Int.natCast_zero,Nat.zero_add] at Yn
        rw [show ((0:Int),(0:Int),(0:Int))=(((0:Nat):Int),((0:Nat):Int),((0:Nat):Int)) from rfl]
        rw [show (((0:Nat):Int),((0:Nat):Int),((0:Nat):Int))=((0:Int),(0:Int),(0:Int)) from rfl,Yn]
        have Yo:(aV (inner (91::r))).all (KK ((91:UInt8)==91))=(aV (inner (91::r))).all kI:=by congr 1
        rw [Yo]
        unfold fV dY
        rw [Ym,hin]
        simp only [if_true,Bool.true_and]
        cases hall:(aV (inner (91::r))).all kI with
        |false=>simp
        |true=>
         by_cases h4:(aV (inner (91::r))).length=4
         · have hsum:=four h4 fun p hp=>(sx (List.all_eq_true.1 hall p hp)).1
           have htot:=Ef (inner (91::r))
           have hlen:(91::r).length=(inner (91::r)).length+2:=by simp [inner];simp at h1;omega
           have:(aV (91::r)).all (fun p=>decide (p.length≤63))=true:=by
            rw [List.all_eq_true]
            intro p hp
            have:=mU _ p hp
            simp only [decide_eq_true_eq]
            omega
           rw [this]
           simp [h4]
         · simp [h4];omega
      · have afz:pT (91::r)=false:=by simpa using hin
        have hdf:fV (91::r)=false:=by unfold fV dY;rw [afz];simp only [Bool.false_eq_true,if_false,GV];simp
        rw [hdf]
        by_cases abS:x=93
        · subst abS
          have h1:¬1<(91::r).length:=by intro h;rw [pT,hx,decide_eq_true h] at hin;simp at hin
          rw [if_neg (by simp),decide_eq_true (by omega)]
          rfl
        · rw [if_pos (by simpa using abS)];rfl
    · unfold iH
      rw [if_neg (by simpa using hc)]
      simp only [Option.bind_some]
      have Yn:=I0 (F:=F) (x:=c) (s:=c::r) hl hF (c::r) [] 0 0 0 F (by simp) (by simp) (by simp) (by simp) (by omega) (Nat.le_refl _)
      simp only [List.nil_append,Int.natCast_zero,Nat.zero_add] at Yn
      rw [Yn]
      have XT:(c==91)=false:=by simpa using hc
      have Yo:(aV (c::r)).all (KK (c==91))=(aV (c::r)).all IZ:=by rw [XT];congr 1
      rw [Yo,Uz]
      have hin:pT (c::r)=false:=by unfold pT;simp [hc]
      unfold fV dY
      rw [Ym,hin]
      simp only [Bool.false_eq_true,if_false,Bool.true_and]
      cases (aV (c::r)).all gJ<;>cases (aV (c::r)).all (fun p=>decide (p.length≤63))<;>simp [hc]
end Go.Proofs.cQ
end
section
set_option maxRecDepth 100000
namespace Go.Proofs.cQ
open Go Go.Am Go.Proofs
theorem abT (a b:List UInt8):aV (a++46::b)=aV a++aV b:=by
 induction a with
 |nil=>simp [aV]
 |cons c a ih=>
  simp only [List.cons_append,aV,ih]
  by_cases hc:c=46
  · simp [hc]
  · simp only [if_neg hc]
    cases h:aV a with
    |nil=>exact absurd h (ic a)
    |cons x t=>simp
theorem Br (s:List UInt8):∀c∈s,c=46∨∃p∈aV s,c∈p:=by
 induction s with
 |nil=>simp
 |cons a r ih=>
  intro c hc
  simp only [aV]
  rcases List.mem_cons.1 hc with rfl|hc
  · by_cases h:c=46
    · exact .inl h
    · right
      rw [if_neg h]
      cases hs:aV r with
      |nil=>exact absurd hs (ic r)
      |cons x t=>exact ⟨c::x,by simp,by simp⟩
  · rcases ih c hc with h|⟨p,hp,kM⟩
    · exact .inl h
    · right
      by_cases ha:a=46
      · rw [if_pos ha];exact ⟨p,by simp [hp],kM⟩
      · rw [if_neg ha]
        cases hs:aV r with
        |nil=>exact absurd hs (ic r)
        |cons x t=>
         rw [hs] at hp
         rcases List.mem_cons.1 hp with rfl|hp
         · exact ⟨a::p,by simp,by simp [kM]⟩
         · exact ⟨p,by simp [hp],kM⟩
theorem aaZ {s:List UInt8} (h:s.head?≠some 91):pT s=false:=by
 unfold pT
 have:(s.head?==some 91)=false:=by simpa using h
 rw [this];simp
theorem afA {s:List UInt8} (h:s.getLast?≠some 93):pT s=false:=by
 unfold pT
 have:(s.getLast?==some 93)=false:=by simpa using h
 rw [this];simp
theorem afB {s:List UInt8} (hi:pT s=false) {p:List UInt8} (hp:p∈aV s) (hl:gJ p=false):fV s=false:=by
 unfold fV dY
 rw [hi]
 have:(aV s).all gJ=false:=by
  rw [List.all_eq_false]
  exact ⟨p,hp,by simp [hl]⟩
 simp [this]
end Go.Proofs.cQ
end
