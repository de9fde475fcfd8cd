import Derived.Test.YtomkmghgppgegaaGreatDoorM3
set_option linter.unusedSimpArgs false
set_option linter.unusedVariables false
set_option linter.unusedSectionVars false
set_option linter.defProp false
section
set_option maxRecDepth 100000
namespace Go.Proofs.cI
open Go Go.Am Go.Proofs
open Nat renaming reduceEqDiff→nA,reduceLT→nB,reduceLeDiff→nC,reduceAdd→nD,reduceSub→nE,reduceMul→nF,reduceBEq→nG
set_option maxHeartbeats 2000000
structure ay where
 aC:List UInt8
 domain:List UInt8
 deriving DecidableEq
structure ic where
 HA:ay
 state:Int
 tries:Int
 next:Int
 code:Int
 why:List UInt8
 deriving DecidableEq
structure bu where
 bD:ay
 born:Int
 size:Int
 sum:Int
 c8:List ic
 deriving DecidableEq
structure b7 where
 name:List UInt8
 value:List UInt8
 deriving DecidableEq
structure aD where
 s:List UInt8
 dc:Int
 bad:Bool
 deriving DecidableEq
abbrev bH (x:ic):AV:= .agg [(.str x.HA.aC),(.str x.HA.domain),(.int .i64 x.state),(.int .i64 x.tries),(.int .i64 x.next),(.int .i64 x.code),(.str x.why)]
abbrev oq (x:List UInt8):AV:= .sl .n 1 (ml b8 x)
abbrev aU (x:b7):AV:= .agg [(.str x.name),(.str x.value)]
abbrev bB (x:ay):AV:= .agg [(.str x.aC),(.str x.domain)]
abbrev J8:av:=(.seq (.rg [(aj 1 (.box (.t 0))),(aj 2 (.aO (.c (.bool false))))]) (.seq (.rg [(aj 3 (.cj (.t 1) 0)),(aj 4 (.ld (.t 3) (some 2))),(aj 5 (.build [(.str []),(.str [])] [])),(aj 6 (.seq [.s, .s] false (.t 4) (.t 5))),(aP 2 6)]) .ret))
theorem J9:bw Tryz.prog 16 7 [(.tmp 2)] (erase J8):=⟨Tryz.f16,_,rfl,by decide,rfl,by kernel_rfl,rfl,rfl⟩
abbrev Ka:List Nat:=[0,1,2]
def vB (e1:bu):Option (Bool):=
 some (decide (e1.bD.aC=([]:List UInt8))&&decide (e1.bD.domain=([]:List UInt8)))
theorem zq {e1:bu} {H0:AH} {aJ:Bool} (h:vB e1=some aJ):
 aA Tryz.prog 16 [(.agg [(.str e1.bD.aC),(.str e1.bD.domain),(.int .i64 e1.born),(.int .i64 e1.size),(.int .u32 e1.sum),(.sl .n 7 (ml bH e1.c8))])] H0 fun v H'=>v=(.bool aJ)∧H'=H0:=by
 refine mD J9 Ka [] fun hcl K0 aN H hH hfr=> ?_
 clear hH
 have hle:=hfr.le
 rw [vB.eq_1] at h
 refine cm ?_
 obtain rfl:=aB h
 exact aN _ _ _ bt (bE (Fr.app hfr) hcl (aT bn (.bool (decide (e1.bD.aC=([]:List UInt8))&&decide (e1.bD.domain=([]:List UInt8))))) bp aX ⟨rfl,rfl⟩)
abbrev si:av:=(.rg [(au 10 4),(aj 11 (.iq false (.t 10) (.c (.v .nilIface)))),(au 12 11),(ax 13 (.mv (.t 3)) 12 true),(ax 14 (.bin .geq (.t 13) (.c (.int .i64 0))) 12 true),(aj 15 (.pick (.t 12) (.t 14) (.c (.bool false)))),(au 16 15),(ax 17 (.mv (.t 3)) 16 true),(ax 18 (.bin .leq (.t 17) (.c (.int .i64 255))) 16 true),(aj 19 (.pick (.t 16) (.t 18) (.c (.bool false)))),(au 20 19),(ax 21 (.mv (.t 3)) 20 true),(ax 22 (.call (.c (.fn 38 [])) [(.t 21)]) 20 true),(ax 23 (.mv (.t 0)) 20 true),(ax 24 (.bin .eql (.t 22) (.t 23)) 20 true),(aj 25 (.pick (.t 20) (.t 24) (.c (.bool false)))),(aP 2 25)])
abbrev FR:av:=(.seq (.rg [(aj 2 (.aO (.c (.bool false))))]) (.seq (.rg [(au 6 0),(aj 7 (.call (.c (.fn 137 [])) [(.t 6)])),(au 5 7),(aj 8 (.ext (.t 5) 0)),(aj 9 (.ext (.t 5) 1)),(aP 3 8),(aP 4 9)]) (.seq (.sem (erase si)) .ret)))
theorem FT:bw Tryz.prog 109 26 [(.tmp 2)] (erase FR):=⟨Tryz.f109,_,rfl,by decide,rfl,by kernel_rfl,rfl,rfl⟩
abbrev xJ:List Nat:=[0,2,3,4]
def gB (r3:Bool) (r2:Int) (s1:List UInt8):Option (Bool):=
 (if (!r3) then
  (if (decide (0≤r2)) then
   (if (decide (r2≤255)) then
    (strconv_Itoa r2).bind fun r4=>some (decide (r4=s1))
   else
    some false)
  else
   some false)
 else
  some false)
def kf (s1:List UInt8):Option (Bool):=
 (strconv_Atoi s1).bind fun (r2,r3)=>(gB r3 r2 s1).bind fun t6=>
 some t6
theorem zV {r3:Bool} {r2:Int} {s1:List UInt8} {H:AH} {K:Exit→Env→AH→Prop} {t5:Bool}
 (h:gB r3 r2 s1=some t5)
 (kn:K .normal [(2,(.bool t5))] H):
 AX Tryz.prog xJ 26 H.length (erase si) K [(0,(.str s1)),(2,(.bool false)),(3,(.int .i64 r2)),(4,(eE r3))] H:=by
 refine cB fun K' hK=> ?_
 rw [gB.eq_1] at h
 refine az ?_
 refine bZ h (fun aS h=> ?_) fun aS h=> ?_
 · refine aQ aS ?_
   refine bZ h (fun aZ h=> ?_) fun aZ h=> ?_
   · refine aQ aZ ?_
     refine bZ h (fun br h=> ?_) fun br h=> ?_
     · refine aQ br ?_
       obtain ⟨r4,bC,h⟩:=ak h
       refine aY aq (gZ (i1:=r2) bC) ?_
       refine az ?_
       obtain rfl:=aB h
       exact hK _ _ _ _ _ aK aq kn
     · refine aQ br ?_
       obtain rfl:=aB h
       exact hK _ _ _ _ _ aK aq kn
   · refine aQ aZ ?_
     obtain rfl:=aB h
     exact hK _ _ _ _ _ aK aq kn
 · refine aQ aS ?_
   obtain rfl:=aB h
   exact hK _ _ _ _ _ aK aq kn
theorem Eg {s1:List UInt8} {H0:AH} {aJ:Bool} (h:kf s1=some aJ):
 aA Tryz.prog 109 [(.str s1)] H0 fun v H'=>v=(.bool aJ)∧H'=H0:=by
 refine eF FT xJ fun hcl K0 aN=> ?_
 rw [kf.eq_1] at h
 refine az ?_
 obtain ⟨⟨r2,r3⟩,hy1,h⟩:=ak h
 dsimp only at h
 refine aY aq (strconv_Atoi_ok (s1:=s1) hy1) ?_
 refine az ?_
 obtain ⟨t6,bW,h⟩:=ak h
 refine bF aq (zV bW ?_)
 refine az ?_
 obtain rfl:=aB h
 exact aN _ _ _ bt (aI hcl (aT bn (.bool t6)) bp aX ⟨rfl,rfl⟩)
abbrev CT:av:=(.seq (.rg [(aj 2 (.aO (.c (.bool false))))]) (.seq (.rg [(au 3 0),(aj 4 (.call (.c (.fn 109 [])) [(.t 3)])),(aj 5 (.un .not (.t 4))),(aP 2 5)]) .ret))
theorem CU:bw Tryz.prog 108 6 [(.tmp 2)] (erase CT):=⟨Tryz.f108,_,rfl,by decide,rfl,by kernel_rfl,rfl,rfl⟩
abbrev CV:List Nat:=[0,2]
def jL (x1:List UInt8):Option (Bool):=
 (kf x1).bind fun r2=>some (!r2)
theorem BD {x1:List UInt8} {H0:AH} {aJ:Bool} (h:jL x1=some aJ):
 aA Tryz.prog 108 [(.str x1)] H0 fun v H'=>v=(.bool aJ)∧H'=H0:=by
 refine eF CU CV fun hcl K0 aN=> ?_
 rw [jL.eq_1] at h
 refine az ?_
 obtain ⟨r2,hy1,h⟩:=ak h
 refine aY aq (Eg hy1) ?_
 refine az ?_
 obtain rfl:=aB h
 exact aN _ _ _ bt (aI hcl (aT bn (.bool (!r2))) bp aX ⟨rfl,rfl⟩)
abbrev kJ:av:=(.seq (.rg [(aj 9 (.bin .lss (.t 8) (.t 7)))]) (.seq (.cond (.t 9) .skip (.exit 0)) (.seq (.blk 1 (.seq (.rg [(au 10 8),(aP 5 10)]) (.seq (.rg [(au 11 1),(au 12 0),(au 13 5),(aj 14 (.mj 1 (.t 12) (.t 13))),(aj 15 (.ld (.t 14) none)),(aj 16 (.call (.t 11) [(.t 15)]))]) (.cond (.t 16) (.seq (.rg [(au 17 5),(aP 4 17)]) .ret) .skip)))) (.rg [(aj 18 (.bin .add (.t 8) (.c (.int .i64 1)))),(au 8 18)]))))
abbrev wX:av:=(.seq (.rg [(aj 4 (.aO (.c (.int .i64 0))))]) (.seq (.seq (.rg [(au 6 0),(aj 7 (.len (.t 6))),(aj 8 (.mv (.c (.int .i64 0))))]) (.blk 0 (.loop (erase kJ)))) (.seq (.rg [(aj 4 (.aO (.c (.int .i64 (-1)))))]) .ret)))
theorem wY:bw Tryz.prog 112 19 [(.tmp 4)] (erase wX):=⟨Tryz.f112,_,rfl,by decide,rfl,by kernel_rfl,rfl,rfl⟩
abbrev nI:List Nat:=[0,1,4,5,7,8,9,16]
def de (s1:List (List UInt8)):(Int×Int)→Option (St Int Unit (Int×Int))
 |(t2,t3)=>
  (if (decide (t3<(s1.length:Int))) then
   (idx s1 t3).bind fun x4=>
   (jL x4).bind fun r5=>
   (if r5 then
    some (.ret t3)
   else
    some (.cv (t2,(IntKind.wrap .i64 (t3+1)))))
  else
   some (.eC ()))
def gR (F:Nat) (s1:List (List UInt8)):Option (Int):=
 ((iter (de s1) F (0,0)).bind fun o8=>
 match o8 with
 | .inr ()=>
   some (-1)
 | .inl r7=>
   some r7)
theorem rI {F:Nat} {t3:Int} {s1:List (List UInt8)} {t2:Int} {H:AH} {K:Exit→Env→AH→Prop} {o:(Int)⊕(Unit)}
 (h:iter (de s1) F (t2,t3)=some o)
 (dw:∀o':Unit,o= .inr o'→K (.exit 0) [] H)
 (kr:∀o':Int,o= .inl o'→K .ret [(4,(.int .i64 o'))] H):
 AX Tryz.prog nI 19 H.length (.loop (erase kJ)) K [(0,(.sl .n 1 (ml AV.str s1))),(1,(.fn 108 [])),(4,(.int .i64 t2)),(7,(.int .i64 (s1.length:Int))),(8,(.int .i64 t3))] H:=by
 refine gY (fun s e H1=>match s with|(t2,t3)=>e=[(0,(.sl .n 1 (ml AV.str s1))),(1,(.fn 108 [])),(4,(.int .i64 t2)),(7,(.int .i64 (s1.length:Int))),(8,(.int .i64 t3))]∧H1=H) h ⟨rfl,rfl⟩ ?_
 rintro K' ⟨t2,t3⟩ st e H ⟨rfl,rfl⟩ h hN hB hR hX
 rw [de.eq_1] at h
 refine az ?_
 refine bL h (fun hy1 h=> ?_) fun hy1 h=> ?_
 · obtain ⟨x4,aS,h⟩:=ak h
   refine aQ aS ?_
   obtain ⟨r5,aZ,h⟩:=ak h
   refine aY aq (BD aZ) ?_
   refine az ?_
   refine bL h (fun br h=> ?_) fun br h=> ?_
   · refine az ?_
     obtain rfl:=aB h
     exact hX _ _ _ _ _ dI aK aq (kr _ (hR _ rfl))
   · refine az ?_
     obtain rfl:=aB h
     exact hN _ rfl _ _ _ _ aK aq ⟨rfl,rfl⟩
 · refine az ?_
   obtain rfl:=aB h
   exact hX _ _ _ _ _ dI WE.nil aq (dw _ (hB _ rfl))
theorem vC {F:Nat} {s1:List (List UInt8)} {H0:AH} {aJ:Int} (h:gR F s1=some aJ):
 aA Tryz.prog 112 [(.sl .n 1 (ml AV.str s1)),(.fn 108 [])] H0 fun v H'=>v=(.int .i64 aJ)∧H'=H0:=by
 refine eF wY nI fun hcl K0 aN=> ?_
 rw [gR.eq_1] at h
 refine az ?_
 obtain ⟨o8,bC,h⟩:=ak h
 refine bF aq (rI bC ?_ ?_)
 · rintro ⟨⟩ rfl
   try dsimp only at h
   refine az ?_
   obtain rfl:=aB h
   exact aN _ _ _ bt (aI hcl (aT bn (.int .i64 (-1))) bp aX ⟨rfl,rfl⟩)
 · rintro r7 rfl
   try dsimp only at h
   refine az ?_
   obtain rfl:=aB h
   exact aN _ _ _ bt (aI hcl (aT bn (.int .i64 r7)) bp aX ⟨rfl,rfl⟩)
abbrev tH:av:=(.seq (.rg [(aj 4 (.aO (.c (.bool false))))]) (.seq (.rg [(au 5 0),(au 6 1),(aj 7 (.call (.c (.fn 112 [])) [(.t 5),(.t 6)])),(aj 8 (.bin .geq (.t 7) (.c (.int .i64 0)))),(aP 4 8)]) .ret))
theorem tI:bw Tryz.prog 72 9 [(.tmp 4)] (erase tH):=⟨Tryz.f72,_,rfl,by decide,rfl,by kernel_rfl,rfl,rfl⟩
abbrev tJ:List Nat:=[0,1,4]
def eI (F:Nat) (s1:List (List UInt8)):Option (Bool):=
 (gR F s1).bind fun r2=>some (decide (0≤r2))
theorem rJ {F:Nat} {s1:List (List UInt8)} {H0:AH} {aJ:Bool} (h:eI F s1=some aJ):
 aA Tryz.prog 72 [(.sl .n 1 (ml AV.str s1)),(.fn 108 [])] H0 fun v H'=>v=(.bool aJ)∧H'=H0:=by
 refine eF tI tJ fun hcl K0 aN=> ?_
 rw [eI.eq_1] at h
 refine az ?_
 obtain ⟨r2,hy1,h⟩:=ak h
 refine aY aq (vC hy1) ?_
 refine az ?_
 obtain rfl:=aB h
 exact aN _ _ _ bt (aI hcl (aT bn (.bool (decide (0≤r2)))) bp aX ⟨rfl,rfl⟩)
abbrev sj:av:=(.rg [(au 3 0),(aj 4 (.bin .or (.t 3) (.c (b8 32)))),(aj 5 (.bin .geq (.t 4) (.c (b8 97)))),(au 6 5),(ax 7 (.mv (.t 0)) 6 true),(ax 8 (.bin .or (.t 7) (.c (b8 32))) 6 true),(ax 9 (.bin .leq (.t 8) (.c (b8 122))) 6 true),(aj 10 (.pick (.t 6) (.t 9) (.c (.bool false)))),(au 11 10),(ax 12 (.mv (.t 0)) 11 false),(ax 13 (.bin .geq (.t 12) (.c (b8 48))) 11 false),(ax 14 (.mv (.t 13)) 11 false),(ax 15 (.mv (.t 0)) 14 true),(ax 16 (.bin .leq (.t 15) (.c (b8 57))) 14 true),(ax 17 (.pick (.t 14) (.t 16) (.c (.bool false))) 11 false),(aj 18 (.pick (.t 11) (.c (.bool true)) (.t 17))),(aP 2 18)])
abbrev FU:av:=(.seq (.rg [(aj 2 (.aO (.c (.bool false))))]) (.seq (.sem (erase sj)) .ret))
theorem FV:bw Tryz.prog 134 19 [(.tmp 2)] (erase FU):=⟨Tryz.f134,_,rfl,by decide,rfl,by kernel_rfl,rfl,rfl⟩
abbrev xK:List Nat:=[0,2]
def iM (c1:UInt8):Option (Bool):=
 some (((decide (97≤(c1 ||| 32)))&&(decide ((c1 ||| 32)≤122)))||((decide (48≤c1))&&(decide (c1≤57))))
theorem zW {c1:UInt8} {H:AH} {K:Exit→Env→AH→Prop}
 (kn:K .normal [(2,(.bool (((decide (97≤(c1 ||| 32)))&&(decide ((c1 ||| 32)≤122)))||((decide (48≤c1))&&(decide (c1≤57))))))] H):
 AX Tryz.prog xK 19 H.length (erase sj) K [(0,(b8 c1)),(2,(.bool false))] H:=by
 refine cB fun K' hK=> ?_
 refine az ?_
 refine om (fun hy1=> ?_) fun hy1=> ?_
 · refine aQ hy1 ?_
   refine om (fun aS=> ?_) fun aS=> ?_
   · refine aQ aS ?_
     exact hK _ _ _ _ _ (fh (aH hy1 aS)) aq kn
   · refine aQ aS ?_
     refine om (fun aZ=> ?_) fun aZ=> ?_
     · refine aQ aZ ?_
       exact hK _ _ _ _ _ (fh (aH hy1 (aH aS aZ))) aq kn
     · refine aQ aZ ?_
       exact hK _ _ _ _ _ (fh (aH hy1 (aH aS aZ))) aq kn
 · refine aQ hy1 ?_
   refine om (fun br=> ?_) fun br=> ?_
   · refine aQ br ?_
     exact hK _ _ _ _ _ (fh (aH hy1 br)) aq kn
   · refine aQ br ?_
     exact hK _ _ _ _ _ (fh (aH hy1 br)) aq kn
theorem oG {c1:UInt8} {H0:AH} {aJ:Bool} (h:iM c1=some aJ):
 aA Tryz.prog 134 [(b8 c1)] H0 fun v H'=>v=(.bool aJ)∧H'=H0:=by
 refine eF FV xK fun hcl K0 aN=> ?_
 rw [iM.eq_1] at h
 refine az ?_
 refine bF aq (zW (c1:=c1) ?_)
 refine az ?_
 obtain rfl:=aB h
 exact aN _ _ _ bt (aI hcl (aT bn (.bool (((decide (97≤(c1 ||| 32)))&&(decide ((c1 ||| 32)≤122)))||((decide (48≤c1))&&(decide (c1≤57)))))) bp aX ⟨rfl,rfl⟩)
abbrev qf:av:=(.rg [(au 3 0),(aj 4 (.call (.c (.fn 134 [])) [(.t 3)])),(au 5 4),(ax 6 (.mv (.t 0)) 5 false),(ax 7 (.bin .eql (.t 6) (.c (b8 45))) 5 false),(aj 8 (.pick (.t 5) (.c (.bool true)) (.t 7))),(aP 2 8)])
abbrev Eh:av:=(.seq (.rg [(aj 2 (.aO (.c (.bool false))))]) (.seq (.sem (erase qf)) .ret))
theorem Ei:bw Tryz.prog 138 9 [(.tmp 2)] (erase Eh):=⟨Tryz.f138,_,rfl,by decide,rfl,by kernel_rfl,rfl,rfl⟩
abbrev wm:List Nat:=[0,2]
def nR (c1:UInt8):Option (Bool):=
 (iM c1).bind fun r2=>(if r2 then
  some true
 else
  some (decide (c1=45)))
def kZ (c1:UInt8):Option (Bool):=
 (nR c1).bind fun t4=>
 some t4
theorem yM {c1:UInt8} {H:AH} {K:Exit→Env→AH→Prop} {t3:Bool}
 (h:nR c1=some t3)
 (kn:K .normal [(2,(.bool t3))] H):
 AX Tryz.prog wm 9 H.length (erase qf) K [(0,(b8 c1)),(2,(.bool false))] H:=by
 refine cB fun K' hK=> ?_
 rw [nR.eq_1] at h
 refine az ?_
 obtain ⟨r2,hy1,h⟩:=ak h
 refine aY aq (oG hy1) ?_
 refine az ?_
 refine bZ h (fun aS h=> ?_) fun aS h=> ?_
 · refine aQ aS ?_
   obtain rfl:=aB h
   exact hK _ _ _ _ _ aK aq kn
 · refine aQ aS ?_
   obtain rfl:=aB h
   exact hK _ _ _ _ _ aK aq kn
theorem CW {c1:UInt8} {H0:AH} {aJ:Bool} (h:kZ c1=some aJ):
 aA Tryz.prog 138 [(b8 c1)] H0 fun v H'=>v=(.bool aJ)∧H'=H0:=by
 refine eF Ei wm fun hcl K0 aN=> ?_
 rw [kZ.eq_1] at h
 refine az ?_
 obtain ⟨t4,aZ,h⟩:=ak h
 refine bF aq (yM aZ ?_)
 refine az ?_
 obtain rfl:=aB h
 exact aN _ _ _ bt (aI hcl (aT bn (.bool t4)) bp aX ⟨rfl,rfl⟩)
abbrev oV:av:=(.seq (.rg [(aj 9 (.bin .lss (.t 8) (.t 7)))]) (.seq (.cond (.t 9) .skip (.exit 0)) (.seq (.blk 1 (.seq (.rg [(au 10 8),(aP 5 10)]) (.seq (.rg [(au 11 1),(au 12 0),(au 13 5),(aj 14 (.ixs (.t 12) (.t 13))),(aj 15 (.call (.t 11) [(.t 14)])),(aj 16 (.un .not (.t 15)))]) (.cond (.t 16) (.seq (.rg [(aj 4 (.aO (.c (.bool false))))]) .ret) .skip)))) (.rg [(aj 17 (.bin .add (.t 8) (.c (.int .i64 1)))),(au 8 17)]))))
abbrev Ej:av:=(.seq (.rg [(aj 4 (.aO (.c (.bool false))))]) (.seq (.seq (.rg [(au 6 0),(aj 7 (.lens (.t 6))),(aj 8 (.mv (.c (.int .i64 0))))]) (.blk 0 (.loop (erase oV)))) (.seq (.rg [(aj 4 (.aO (.c (.bool true))))]) .ret)))
theorem Ek:bw Tryz.prog 120 18 [(.tmp 4)] (erase Ej):=⟨Tryz.f120,_,rfl,by decide,rfl,by kernel_rfl,rfl,rfl⟩
abbrev wo:List Nat:=[0,1,4,5,7,8,9,16]
def e9 (s1:List UInt8):(Bool×Int)→Option (St Bool Unit (Bool×Int))
 |(t2,t3)=>
  (if (decide (t3<(s1.length:Int))) then
   (idx s1 t3).bind fun x4=>
   (kZ x4).bind fun r5=>
   (if (!r5) then
    some (.ret false)
   else
    some (.cv (t2,(IntKind.wrap .i64 (t3+1)))))
  else
   some (.eC ()))
def k8 (F:Nat) (s1:List UInt8):Option (Bool):=
 ((iter (e9 s1) F (false,0)).bind fun o8=>
 match o8 with
 | .inr ()=>
   some true
 | .inl r7=>
   some r7)
theorem yN {F:Nat} {t3:Int} {s1:List UInt8} {t2:Bool} {H:AH} {K:Exit→Env→AH→Prop} {o:(Bool)⊕(Unit)}
 (h:iter (e9 s1) F (t2,t3)=some o)
 (dw:∀o':Unit,o= .inr o'→K (.exit 0) [] H)
 (kr:∀o':Bool,o= .inl o'→K .ret [(4,(.bool o'))] H):
 AX Tryz.prog wo 18 H.length (.loop (erase oV)) K [(0,(.str s1)),(1,(.fn 138 [])),(4,(.bool t2)),(7,(.int .i64 (s1.length:Int))),(8,(.int .i64 t3))] H:=by
 refine gY (fun s e H1=>match s with|(t2,t3)=>e=[(0,(.str s1)),(1,(.fn 138 [])),(4,(.bool t2)),(7,(.int .i64 (s1.length:Int))),(8,(.int .i64 t3))]∧H1=H) h ⟨rfl,rfl⟩ ?_
 rintro K' ⟨t2,t3⟩ st e H ⟨rfl,rfl⟩ h hN hB hR hX
 rw [e9.eq_1] at h
 refine az ?_
 refine bL h (fun hy1 h=> ?_) fun hy1 h=> ?_
 · obtain ⟨x4,aS,h⟩:=ak h
   refine aQ aS ?_
   obtain ⟨r5,aZ,h⟩:=ak h
   refine aY aq (CW aZ) ?_
   refine az ?_
   refine bL h (fun br h=> ?_) fun br h=> ?_
   · refine az ?_
     obtain rfl:=aB h
     exact hX _ _ _ _ _ dI aK aq (kr _ (hR _ rfl))
   · refine az ?_
     obtain rfl:=aB h
     exact hN _ rfl _ _ _ _ aK aq ⟨rfl,rfl⟩
 · refine az ?_
   obtain rfl:=aB h
   exact hX _ _ _ _ _ dI WE.nil aq (dw _ (hB _ rfl))
theorem CX {F:Nat} {s1:List UInt8} {H0:AH} {aJ:Bool} (h:k8 F s1=some aJ):
 aA Tryz.prog 120 [(.str s1),(.fn 138 [])] H0 fun v H'=>v=(.bool aJ)∧H'=H0:=by
 refine eF Ek wo fun hcl K0 aN=> ?_
 rw [k8.eq_1] at h
 refine az ?_
 obtain ⟨o8,bC,h⟩:=ak h
 refine bF aq (yN bC ?_ ?_)
 · rintro ⟨⟩ rfl
   try dsimp only at h
   refine az ?_
   obtain rfl:=aB h
   exact aN _ _ _ bt (aI hcl (aT bn (.bool true)) bp aX ⟨rfl,rfl⟩)
 · rintro r7 rfl
   try dsimp only at h
   refine az ?_
   obtain rfl:=aB h
   exact aN _ _ _ bt (aI hcl (aT bn (.bool r7)) bp aX ⟨rfl,rfl⟩)
abbrev ux:av:=(.rg [(au 3 0),(aj 4 (.bin .neq (.t 3) (.c (.str [])))),(au 5 4),(ax 6 (.mv (.t 0)) 5 true),(ax 7 (.ixs (.t 6) (.c (.int .i64 0))) 5 true),(ax 8 (.bin .neq (.t 7) (.c (b8 45))) 5 true),(aj 9 (.pick (.t 5) (.t 8) (.c (.bool false)))),(au 10 9),(ax 11 (.mv (.t 0)) 10 true),(ax 12 (.mv (.t 0)) 10 true),(ax 13 (.lens (.t 12)) 10 true),(ax 14 (.bin .sub (.t 13) (.c (.int .i64 1))) 10 true),(ax 15 (.ixs (.t 11) (.t 14)) 10 true),(ax 16 (.bin .neq (.t 15) (.c (b8 45))) 10 true),(aj 17 (.pick (.t 10) (.t 16) (.c (.bool false)))),(au 18 17),(ax 19 (.mv (.t 0)) 18 true),(ax 20 (.call (.c (.fn 120 [])) [(.t 19),(.c (.fn 138 []))]) 18 true),(aj 21 (.pick (.t 18) (.t 20) (.c (.bool false)))),(aP 2 21)])
abbrev HB:av:=(.seq (.rg [(aj 2 (.aO (.c (.bool false))))]) (.seq (.sem (erase ux)) .ret))
theorem HC:bw Tryz.prog 111 22 [(.tmp 2)] (erase HB):=⟨Tryz.f111,_,rfl,by decide,rfl,by kernel_rfl,rfl,rfl⟩
abbrev zu:List Nat:=[0,2]
def mE (F:Nat) (s1:List UInt8):Option (Bool):=
 (if (!decide (s1=([]:List UInt8))) then
  (idx s1 0).bind fun x2=>
  (if (!decide (x2=45)) then
   (idx s1 (IntKind.wrap .i64 ((s1.length:Int) - 1))).bind fun x3=>
   (if (!decide (x3=45)) then
    (k8 F s1).bind fun r4=>some r4
   else
    some false)
  else
   some false)
 else
  some false)
def ot (F:Nat) (s1:List UInt8):Option (Bool):=
 (mE F s1).bind fun t6=>
 some t6
theorem BF {F:Nat} {s1:List UInt8} {H:AH} {K:Exit→Env→AH→Prop} {t5:Bool}
 (h:mE F s1=some t5)
 (kn:K .normal [(2,(.bool t5))] H):
 AX Tryz.prog zu 22 H.length (erase ux) K [(0,(.str s1)),(2,(.bool false))] H:=by
 refine cB fun K' hK=> ?_
 rw [mE.eq_1] at h
 refine az ?_
 refine bZ h (fun hy1 h=> ?_) fun hy1 h=> ?_
 · obtain ⟨x2,aS,h⟩:=ak h
   refine aQ (aH hy1 aS) ?_
   refine bZ h (fun aZ h=> ?_) fun aZ h=> ?_
   · obtain ⟨x3,br,h⟩:=ak h
     refine aQ (aH aZ br) ?_
     refine bZ h (fun bC h=> ?_) fun bC h=> ?_
     · refine aQ bC ?_
       obtain ⟨r4,bW,h⟩:=ak h
       refine aY aq (CX bW) ?_
       refine az ?_
       obtain rfl:=aB h
       exact hK _ _ _ _ _ aK aq kn
     · refine aQ bC ?_
       obtain rfl:=aB h
       exact hK _ _ _ _ _ aK aq kn
   · refine aQ aZ ?_
     obtain rfl:=aB h
     exact hK _ _ _ _ _ aK aq kn
 · refine aQ hy1 ?_
   obtain rfl:=aB h
   exact hK _ _ _ _ _ aK aq kn
theorem FW {F:Nat} {s1:List UInt8} {H0:AH} {aJ:Bool} (h:ot F s1=some aJ):
 aA Tryz.prog 111 [(.str s1)] H0 fun v H'=>v=(.bool aJ)∧H'=H0:=by
 refine eF HC zu fun hcl K0 aN=> ?_
 rw [ot.eq_1] at h
 refine az ?_
 obtain ⟨t6,cO,h⟩:=ak h
 refine bF aq (BF cO ?_)
 refine az ?_
 obtain rfl:=aB h
 exact aN _ _ _ bt (aI hcl (aT bn (.bool t6)) bp aX ⟨rfl,rfl⟩)
abbrev CY:av:=(.seq (.rg [(aj 2 (.aO (.c (.bool false))))]) (.seq (.rg [(au 3 0),(aj 4 (.call (.c (.fn 111 [])) [(.t 3)])),(aj 5 (.un .not (.t 4))),(aP 2 5)]) .ret))
theorem CZ:bw Tryz.prog 110 6 [(.tmp 2)] (erase CY):=⟨Tryz.f110,_,rfl,by decide,rfl,by kernel_rfl,rfl,rfl⟩
abbrev C3:List Nat:=[0,2]
def jM (F:Nat) (x1:List UInt8):Option (Bool):=
 (ot F x1).bind fun r2=>some (!r2)
theorem BG {F:Nat} {x1:List UInt8} {H0:AH} {aJ:Bool} (h:jM F x1=some aJ):
 aA Tryz.prog 110 [(.str x1)] H0 fun v H'=>v=(.bool aJ)∧H'=H0:=by
 refine eF CZ C3 fun hcl K0 aN=> ?_
 rw [jM.eq_1] at h
 refine az ?_
 obtain ⟨r2,hy1,h⟩:=ak h
 refine aY aq (FW hy1) ?_
 refine az ?_
 obtain rfl:=aB h
 exact aN _ _ _ bt (aI hcl (aT bn (.bool (!r2))) bp aX ⟨rfl,rfl⟩)
abbrev jN:av:=(.seq (.rg [(aj 9 (.bin .lss (.t 8) (.t 7)))]) (.seq (.cond (.t 9) .skip (.exit 0)) (.seq (.blk 1 (.seq (.rg [(au 10 8),(aP 5 10)]) (.seq (.rg [(au 11 1),(au 12 0),(au 13 5),(aj 14 (.mj 1 (.t 12) (.t 13))),(aj 15 (.ld (.t 14) none)),(aj 16 (.call (.t 11) [(.t 15)]))]) (.cond (.t 16) (.seq (.rg [(au 17 5),(aP 4 17)]) .ret) .skip)))) (.rg [(aj 18 (.bin .add (.t 8) (.c (.int .i64 1)))),(au 8 18)]))))
abbrev vD:av:=(.seq (.rg [(aj 4 (.aO (.c (.int .i64 0))))]) (.seq (.seq (.rg [(au 6 0),(aj 7 (.len (.t 6))),(aj 8 (.mv (.c (.int .i64 0))))]) (.blk 0 (.loop (erase jN)))) (.seq (.rg [(aj 4 (.aO (.c (.int .i64 (-1)))))]) .ret)))
theorem vE:bw Tryz.prog 112 19 [(.tmp 4)] (erase vD):=⟨Tryz.f112,_,rfl,by decide,rfl,by kernel_rfl,rfl,rfl⟩
abbrev mF:List Nat:=[0,1,4,5,7,8,9,16]
def cT (F:Nat) (s1:List (List UInt8)):(Int×Int)→Option (St Int Unit (Int×Int))
 |(t2,t3)=>
  (if (decide (t3<(s1.length:Int))) then
   (idx s1 t3).bind fun x4=>
   (jM F x4).bind fun r5=>
   (if r5 then
    some (.ret t3)
   else
    some (.cv (t2,(IntKind.wrap .i64 (t3+1)))))
  else
   some (.eC ()))
def gI (F:Nat) (s1:List (List UInt8)):Option (Int):=
 ((iter (cT F s1) F (0,0)).bind fun o8=>
 match o8 with
 | .inr ()=>
   some (-1)
 | .inl r7=>
   some r7)
theorem qg {F:Nat} {t3:Int} {s1:List (List UInt8)} {t2:Int} {H:AH} {K:Exit→Env→AH→Prop} {o:(Int)⊕(Unit)}
 (h:iter (cT F s1) F (t2,t3)=some o)
 (dw:∀o':Unit,o= .inr o'→K (.exit 0) [] H)
 (kr:∀o':Int,o= .inl o'→K .ret [(4,(.int .i64 o'))] H):
 AX Tryz.prog mF 19 H.length (.loop (erase jN)) K [(0,(.sl .n 1 (ml AV.str s1))),(1,(.fn 110 [])),(4,(.int .i64 t2)),(7,(.int .i64 (s1.length:Int))),(8,(.int .i64 t3))] H:=by
 refine gY (fun s e H1=>match s with|(t2,t3)=>e=[(0,(.sl .n 1 (ml AV.str s1))),(1,(.fn 110 [])),(4,(.int .i64 t2)),(7,(.int .i64 (s1.length:Int))),(8,(.int .i64 t3))]∧H1=H) h ⟨rfl,rfl⟩ ?_
 rintro K' ⟨t2,t3⟩ st e H ⟨rfl,rfl⟩ h hN hB hR hX
 rw [cT.eq_1] at h
 refine az ?_
 refine bL h (fun hy1 h=> ?_) fun hy1 h=> ?_
 · obtain ⟨x4,aS,h⟩:=ak h
   refine aQ aS ?_
   obtain ⟨r5,aZ,h⟩:=ak h
   refine aY aq (BG aZ) ?_
   refine az ?_
   refine bL h (fun br h=> ?_) fun br h=> ?_
   · refine az ?_
     obtain rfl:=aB h
     exact hX _ _ _ _ _ dI aK aq (kr _ (hR _ rfl))
   · refine az ?_
     obtain rfl:=aB h
     exact hN _ rfl _ _ _ _ aK aq ⟨rfl,rfl⟩
 · refine az ?_
   obtain rfl:=aB h
   exact hX _ _ _ _ _ dI WE.nil aq (dw _ (hB _ rfl))
theorem uy {F:Nat} {s1:List (List UInt8)} {H0:AH} {aJ:Int} (h:gI F s1=some aJ):
 aA Tryz.prog 112 [(.sl .n 1 (ml AV.str s1)),(.fn 110 [])] H0 fun v H'=>v=(.int .i64 aJ)∧H'=H0:=by
 refine eF vE mF fun hcl K0 aN=> ?_
 rw [gI.eq_1] at h
 refine az ?_
 obtain ⟨o8,bC,h⟩:=ak h
 refine bF aq (qg bC ?_ ?_)
 · rintro ⟨⟩ rfl
   try dsimp only at h
   refine az ?_
   obtain rfl:=aB h
   exact aN _ _ _ bt (aI hcl (aT bn (.int .i64 (-1))) bp aX ⟨rfl,rfl⟩)
 · rintro r7 rfl
   try dsimp only at h
   refine az ?_
   obtain rfl:=aB h
   exact aN _ _ _ bt (aI hcl (aT bn (.int .i64 r7)) bp aX ⟨rfl,rfl⟩)
abbrev rK:av:=(.seq (.rg [(aj 4 (.aO (.c (.bool false))))]) (.seq (.rg [(au 5 0),(au 6 1),(aj 7 (.call (.c (.fn 112 [])) [(.t 5),(.t 6)])),(aj 8 (.bin .geq (.t 7) (.c (.int .i64 0)))),(aP 4 8)]) .ret))
theorem rL:bw Tryz.prog 72 9 [(.tmp 4)] (erase rK):=⟨Tryz.f72,_,rfl,by decide,rfl,by kernel_rfl,rfl,rfl⟩
abbrev rM:List Nat:=[0,1,4]
def eu (F:Nat) (s1:List (List UInt8)):Option (Bool):=
 (gI F s1).bind fun r2=>some (decide (0≤r2))
theorem qh {F:Nat} {s1:List (List UInt8)} {H0:AH} {aJ:Bool} (h:eu F s1=some aJ):
 aA Tryz.prog 72 [(.sl .n 1 (ml AV.str s1)),(.fn 110 [])] H0 fun v H'=>v=(.bool aJ)∧H'=H0:=by
 refine eF rL rM fun hcl K0 aN=> ?_
 rw [eu.eq_1] at h
 refine az ?_
 obtain ⟨r2,hy1,h⟩:=ak h
 refine aY aq (uy hy1) ?_
 refine az ?_
 obtain rfl:=aB h
 exact aN _ _ _ bt (aI hcl (aT bn (.bool (decide (0≤r2)))) bp aX ⟨rfl,rfl⟩)
abbrev sn:av:=(.rg [(au 4 0),(aj 5 (.lens (.t 4))),(aj 6 (.bin .gtr (.t 5) (.c (.int .i64 1)))),(au 7 6),(ax 8 (.mv (.t 0)) 7 true),(ax 9 (.ixs (.t 8) (.c (.int .i64 0))) 7 true),(ax 10 (.bin .eql (.t 9) (.c (b8 91))) 7 true),(aj 11 (.pick (.t 7) (.t 10) (.c (.bool false)))),(au 12 11),(ax 13 (.mv (.t 0)) 12 true),(ax 14 (.mv (.t 0)) 12 true),(ax 15 (.lens (.t 14)) 12 true),(ax 16 (.bin .sub (.t 15) (.c (.int .i64 1))) 12 true),(ax 17 (.ixs (.t 13) (.t 16)) 12 true),(ax 18 (.bin .eql (.t 17) (.c (b8 93))) 12 true),(aj 19 (.pick (.t 12) (.t 18) (.c (.bool false))))])
abbrev sr:av:=(.rg [(au 26 3),(aj 27 (.len (.t 26))),(aj 28 (.bin .eql (.t 27) (.c (.int .i64 4)))),(au 29 28),(ax 30 (.mv (.t 3)) 29 true),(ax 31 (.call (.c (.fn 72 [])) [(.t 30),(.c (.fn 108 []))]) 29 true),(ax 32 (.un .not (.t 31)) 29 true),(aj 33 (.pick (.t 29) (.t 32) (.c (.bool false)))),(aP 2 33)])
abbrev FX:av:=(.seq (.rg [(aj 2 (.aO (.c (.bool false))))]) (.seq (.seq (.sem (erase sn)) (.cond (.t 19) (.seq (.rg [(au 20 0),(au 21 0),(aj 22 (.lens (.t 21))),(aj 23 (.bin .sub (.t 22) (.c (.int .i64 1)))),(aj 24 (.mh (.t 20) (some (.c (.int .i64 1))) (some (.t 23)))),(aj 25 (.call (.c (.fn 65 [])) [(.t 24),(.c (.str [46]))])),(aP 3 25)]) (.seq (.sem (erase sr)) .ret)) .skip)) (.seq (.rg [(au 34 0),(aj 35 (.call (.c (.fn 65 [])) [(.t 34),(.c (.str [46]))])),(aj 36 (.call (.c (.fn 72 [])) [(.t 35),(.c (.fn 110 []))])),(aj 37 (.un .not (.t 36))),(aP 2 37)]) .ret)))
theorem FY:bw Tryz.prog 71 38 [(.tmp 2)] (erase FX):=⟨Tryz.f71,_,rfl,by decide,rfl,by kernel_rfl,rfl,rfl⟩
abbrev qi:List Nat:=[0,2,3,19]
def iV (s1:List UInt8):Option (Bool):=
 (if (decide (1<(s1.length:Int))) then
  (idx s1 0).bind fun x2=>
  (if (decide (x2=91)) then
   (idx s1 (IntKind.wrap .i64 ((s1.length:Int) - 1))).bind fun x3=>some (decide (x3=93))
  else
   some false)
 else
  some false)
def lK (F:Nat) (r7:List (List UInt8)):Option (Bool):=
 (if (decide ((r7.length:Int)=4)) then
  (eI F r7).bind fun r8=>some (!r8)
 else
  some false)
def kg (F:Nat) (s1:List UInt8):Option (Bool):=
 (iV s1).bind fun t5=>
 (if t5 then
  (sub s1 1 (IntKind.wrap .i64 ((s1.length:Int) - 1))).bind fun x6=>
  (strings_Split x6 ([46]:List UInt8)).bind fun r7=>(lK F r7).bind fun t10=>
  some t10
 else
  (strings_Split s1 ([46]:List UInt8)).bind fun e7=>(eu F e7).bind fun gv=>some (!gv))
theorem zX {s1:List UInt8} {H:AH} {K:Exit→Env→AH→Prop} {t4:Bool}
 (h:iV s1=some t4)
 (kn:K .normal [(0,(.str s1)),(19,(.bool t4))] H):
 AX Tryz.prog qi 38 H.length (erase sn) K [(0,(.str s1))] H:=by
 refine cB fun K' hK=> ?_
 rw [iV.eq_1] at h
 refine az ?_
 refine bZ h (fun hy1 h=> ?_) fun hy1 h=> ?_
 · obtain ⟨x2,aS,h⟩:=ak h
   refine aQ (aH hy1 aS) ?_
   refine bZ h (fun aZ h=> ?_) fun aZ h=> ?_
   · obtain ⟨x3,br,h⟩:=ak h
     refine aQ (aH aZ br) ?_
     obtain rfl:=aB h
     exact hK _ _ _ _ _ aK aq kn
   · refine aQ aZ ?_
     obtain rfl:=aB h
     exact hK _ _ _ _ _ aK aq kn
 · refine aQ hy1 ?_
   obtain rfl:=aB h
   exact hK _ _ _ _ _ aK aq kn
theorem zY {F:Nat} {r7:List (List UInt8)} {H:AH} {K:Exit→Env→AH→Prop} {t9:Bool}
 (h:lK F r7=some t9)
 (kn:K .normal [(2,(.bool t9))] H):
 AX Tryz.prog qi 38 H.length (erase sr) K [(3,(.sl .n 1 (ml AV.str r7)))] H:=by
 refine cB fun K' hK=> ?_
 rw [lK.eq_1] at h
 refine az ?_
 refine bZ h (fun dA h=> ?_) fun dA h=> ?_
 · refine aQ dA ?_
   obtain ⟨r8,cJ,h⟩:=ak h
   refine aY aq (rJ cJ) ?_
   refine az ?_
   obtain rfl:=aB h
   exact hK _ _ _ _ _ aK aq kn
 · refine aQ dA ?_
   obtain rfl:=aB h
   exact hK _ _ _ _ _ aK aq kn
theorem wq {F:Nat} {s1:List UInt8} {H0:AH} {aJ:Bool} (h:kg F s1=some aJ):
 aA Tryz.prog 71 [(.str s1)] H0 fun v H'=>v=(.bool aJ)∧H'=H0:=by
 refine eF FY qi fun hcl K0 aN=> ?_
 rw [kg.eq_1] at h
 refine az ?_
 obtain ⟨t5,bC,h⟩:=ak h
 refine bF aq (zX bC ?_)
 refine az ?_
 refine bL h (fun bW h=> ?_) fun bW h=> ?_
 · obtain ⟨x6,cO,h⟩:=ak h
   refine aQ cO ?_
   obtain ⟨r7,cD,h⟩:=ak h
   refine aY aq (gH (s1:=x6) (s2:=([46]:List UInt8)) cD) ?_
   refine az ?_
   obtain ⟨t10,cG,h⟩:=ak h
   refine bF aq (zY cG ?_)
   refine az ?_
   obtain rfl:=aB h
   exact aN _ _ _ bt (aI hcl (aT bn (.bool t10)) bp aX ⟨rfl,rfl⟩)
 · refine az ?_
   obtain ⟨e7,cS,h⟩:=ak h
   refine aY aq (gH (s1:=s1) (s2:=([46]:List UInt8)) cS) ?_
   refine az ?_
   obtain ⟨gv,cW,h⟩:=ak h
   refine aY aq (qh cW) ?_
   refine az ?_
   obtain rfl:=aB h
   exact aN _ _ _ bt (aI hcl (aT bn (.bool (!gv))) bp aX ⟨rfl,rfl⟩)
abbrev C4:av:=(.seq (.rg [(aj 2 (.aO (.c (.bool false))))]) (.seq (.rg [(au 3 0),(aj 4 (.lens (.t 3))),(aj 5 (.bin .gtr (.t 4) (.c (.int .i64 63)))),(aP 2 5)]) .ret))
theorem C5:bw Tryz.prog 70 6 [(.tmp 2)] (erase C4):=⟨Tryz.f70,_,rfl,by decide,rfl,by kernel_rfl,rfl,rfl⟩
abbrev C6:List Nat:=[0,2]
def jO (x1:List UInt8):Option (Bool):=
 some (decide (63<(x1.length:Int)))
theorem BH {x1:List UInt8} {H0:AH} {aJ:Bool} (h:jO x1=some aJ):
 aA Tryz.prog 70 [(.str x1)] H0 fun v H'=>v=(.bool aJ)∧H'=H0:=by
 refine eF C5 C6 fun hcl K0 aN=> ?_
 rw [jO.eq_1] at h
 refine az ?_
 obtain rfl:=aB h
 exact aN _ _ _ bt (aI hcl (aT bn (.bool (decide (63<(x1.length:Int))))) bp aX ⟨rfl,rfl⟩)
abbrev jC:av:=(.seq (.rg [(aj 9 (.bin .lss (.t 8) (.t 7)))]) (.seq (.cond (.t 9) .skip (.exit 0)) (.seq (.blk 1 (.seq (.rg [(au 10 8),(aP 5 10)]) (.seq (.rg [(au 11 1),(au 12 0),(au 13 5),(aj 14 (.mj 1 (.t 12) (.t 13))),(aj 15 (.ld (.t 14) none)),(aj 16 (.call (.t 11) [(.t 15)]))]) (.cond (.t 16) (.seq (.rg [(au 17 5),(aP 4 17)]) .ret) .skip)))) (.rg [(aj 18 (.bin .add (.t 8) (.c (.int .i64 1)))),(au 8 18)]))))
abbrev uz:av:=(.seq (.rg [(aj 4 (.aO (.c (.int .i64 0))))]) (.seq (.seq (.rg [(au 6 0),(aj 7 (.len (.t 6))),(aj 8 (.mv (.c (.int .i64 0))))]) (.blk 0 (.loop (erase jC)))) (.seq (.rg [(aj 4 (.aO (.c (.int .i64 (-1)))))]) .ret)))
theorem uA:bw Tryz.prog 112 19 [(.tmp 4)] (erase uz):=⟨Tryz.f112,_,rfl,by decide,rfl,by kernel_rfl,rfl,rfl⟩
abbrev l6:List Nat:=[0,1,4,5,7,8,9,16]
def cQ (s1:List (List UInt8)):(Int×Int)→Option (St Int Unit (Int×Int))
 |(t2,t3)=>
  (if (decide (t3<(s1.length:Int))) then
   (idx s1 t3).bind fun x4=>
   (jO x4).bind fun r5=>
   (if r5 then
    some (.ret t3)
   else
    some (.cv (t2,(IntKind.wrap .i64 (t3+1)))))
  else
   some (.eC ()))
def gp (F:Nat) (s1:List (List UInt8)):Option (Int):=
 ((iter (cQ s1) F (0,0)).bind fun o8=>
 match o8 with
 | .inr ()=>
   some (-1)
 | .inl r7=>
   some r7)
theorem pI {F:Nat} {t3:Int} {s1:List (List UInt8)} {t2:Int} {H:AH} {K:Exit→Env→AH→Prop} {o:(Int)⊕(Unit)}
 (h:iter (cQ s1) F (t2,t3)=some o)
 (dw:∀o':Unit,o= .inr o'→K (.exit 0) [] H)
 (kr:∀o':Int,o= .inl o'→K .ret [(4,(.int .i64 o'))] H):
 AX Tryz.prog l6 19 H.length (.loop (erase jC)) K [(0,(.sl .n 1 (ml AV.str s1))),(1,(.fn 70 [])),(4,(.int .i64 t2)),(7,(.int .i64 (s1.length:Int))),(8,(.int .i64 t3))] H:=by
 refine gY (fun s e H1=>match s with|(t2,t3)=>e=[(0,(.sl .n 1 (ml AV.str s1))),(1,(.fn 70 [])),(4,(.int .i64 t2)),(7,(.int .i64 (s1.length:Int))),(8,(.int .i64 t3))]∧H1=H) h ⟨rfl,rfl⟩ ?_
 rintro K' ⟨t2,t3⟩ st e H ⟨rfl,rfl⟩ h hN hB hR hX
 rw [cQ.eq_1] at h
 refine az ?_
 refine bL h (fun hy1 h=> ?_) fun hy1 h=> ?_
 · obtain ⟨x4,aS,h⟩:=ak h
   refine aQ aS ?_
   obtain ⟨r5,aZ,h⟩:=ak h
   refine aY aq (BH aZ) ?_
   refine az ?_
   refine bL h (fun br h=> ?_) fun br h=> ?_
   · refine az ?_
     obtain rfl:=aB h
     exact hX _ _ _ _ _ dI aK aq (kr _ (hR _ rfl))
   · refine az ?_
     obtain rfl:=aB h
     exact hN _ rfl _ _ _ _ aK aq ⟨rfl,rfl⟩
 · refine az ?_
   obtain rfl:=aB h
   exact hX _ _ _ _ _ dI WE.nil aq (dw _ (hB _ rfl))
theorem tK {F:Nat} {s1:List (List UInt8)} {H0:AH} {aJ:Int} (h:gp F s1=some aJ):
 aA Tryz.prog 112 [(.sl .n 1 (ml AV.str s1)),(.fn 70 [])] H0 fun v H'=>v=(.int .i64 aJ)∧H'=H0:=by
 refine eF uA l6 fun hcl K0 aN=> ?_
 rw [gp.eq_1] at h
 refine az ?_
 obtain ⟨o8,bC,h⟩:=ak h
 refine bF aq (pI bC ?_ ?_)
 · rintro ⟨⟩ rfl
   try dsimp only at h
   refine az ?_
   obtain rfl:=aB h
   exact aN _ _ _ bt (aI hcl (aT bn (.int .i64 (-1))) bp aX ⟨rfl,rfl⟩)
 · rintro r7 rfl
   try dsimp only at h
   refine az ?_
   obtain rfl:=aB h
   exact aN _ _ _ bt (aI hcl (aT bn (.int .i64 r7)) bp aX ⟨rfl,rfl⟩)
abbrev qj:av:=(.seq (.rg [(aj 4 (.aO (.c (.bool false))))]) (.seq (.rg [(au 5 0),(au 6 1),(aj 7 (.call (.c (.fn 112 [])) [(.t 5),(.t 6)])),(aj 8 (.bin .geq (.t 7) (.c (.int .i64 0)))),(aP 4 8)]) .ret))
theorem qk:bw Tryz.prog 72 9 [(.tmp 4)] (erase qj):=⟨Tryz.f72,_,rfl,by decide,rfl,by kernel_rfl,rfl,rfl⟩
abbrev ql:List Nat:=[0,1,4]
def dS (F:Nat) (s1:List (List UInt8)):Option (Bool):=
 (gp F s1).bind fun r2=>some (decide (0≤r2))
theorem pJ {F:Nat} {s1:List (List UInt8)} {H0:AH} {aJ:Bool} (h:dS F s1=some aJ):
 aA Tryz.prog 72 [(.sl .n 1 (ml AV.str s1)),(.fn 70 [])] H0 fun v H'=>v=(.bool aJ)∧H'=H0:=by
 refine eF qk ql fun hcl K0 aN=> ?_
 rw [dS.eq_1] at h
 refine az ?_
 obtain ⟨r2,hy1,h⟩:=ak h
 refine aY aq (tK hy1) ?_
 refine az ?_
 obtain rfl:=aB h
 exact aN _ _ _ bt (aI hcl (aT bn (.bool (decide (0≤r2)))) bp aX ⟨rfl,rfl⟩)
abbrev su:av:=(.rg [(au 4 0),(aj 5 (.lens (.t 4))),(aj 6 (.bin .leq (.t 5) (.c (.int .i64 255)))),(au 7 6),(ax 8 (.mv (.t 0)) 7 true),(ax 9 (.call (.c (.fn 71 [])) [(.t 8)]) 7 true),(aj 10 (.pick (.t 7) (.t 9) (.c (.bool false)))),(au 11 10),(ax 12 (.mv (.t 0)) 11 true),(ax 13 (.call (.c (.fn 65 [])) [(.t 12),(.c (.str [46]))]) 11 true),(ax 14 (.mv (.t 3)) 11 true),(ax 15 (.call (.c (.fn 72 [])) [(.t 13),(.t 14)]) 11 true),(ax 16 (.un .not (.t 15)) 11 true),(aj 17 (.pick (.t 11) (.t 16) (.c (.bool false)))),(aP 2 17)])
abbrev F0:av:=(.seq (.rg [(aj 2 (.aO (.c (.bool false))))]) (.seq (.rg [(aj 3 (.aO (.c (.fn 70 []))))]) (.seq (.sem (erase su)) .ret)))
theorem F1:bw Tryz.prog 31 18 [(.tmp 2)] (erase F0):=⟨Tryz.f31,_,rfl,by decide,rfl,by kernel_rfl,rfl,rfl⟩
abbrev xL:List Nat:=[0,2,3]
def lM (F:Nat) (s1:List UInt8):Option (Bool):=
 (if (decide ((s1.length:Int)≤255)) then
  (kg F s1).bind fun r2=>
  (if r2 then
   (strings_Split s1 ([46]:List UInt8)).bind fun r3=>(dS F r3).bind fun r4=>some (!r4)
  else
   some false)
 else
  some false)
def kj (F:Nat) (s1:List UInt8):Option (Bool):=
 (lM F s1).bind fun t6=>
 some t6
theorem zZ {F:Nat} {s1:List UInt8} {H:AH} {K:Exit→Env→AH→Prop} {t5:Bool}
 (h:lM F s1=some t5)
 (kn:K .normal [(2,(.bool t5))] H):
 AX Tryz.prog xL 18 H.length (erase su) K [(0,(.str s1)),(2,(.bool false)),(3,(.fn 70 []))] H:=by
 refine cB fun K' hK=> ?_
 rw [lM.eq_1] at h
 refine az ?_
 refine bZ h (fun hy1 h=> ?_) fun hy1 h=> ?_
 · refine aQ hy1 ?_
   obtain ⟨r2,aS,h⟩:=ak h
   refine aY aq (wq aS) ?_
   refine az ?_
   refine bZ h (fun aZ h=> ?_) fun aZ h=> ?_
   · refine aQ aZ ?_
     obtain ⟨r3,br,h⟩:=ak h
     refine aY aq (gH (s1:=s1) (s2:=([46]:List UInt8)) br) ?_
     refine az ?_
     obtain ⟨r4,bC,h⟩:=ak h
     refine aY aq (pJ bC) ?_
     refine az ?_
     obtain rfl:=aB h
     exact hK _ _ _ _ _ aK aq kn
   · refine aQ aZ ?_
     obtain rfl:=aB h
     exact hK _ _ _ _ _ aK aq kn
 · refine aQ hy1 ?_
   obtain rfl:=aB h
   exact hK _ _ _ _ _ aK aq kn
theorem wu {F:Nat} {s1:List UInt8} {H0:AH} {aJ:Bool} (h:kj F s1=some aJ):
 aA Tryz.prog 31 [(.str s1)] H0 fun v H'=>v=(.bool aJ)∧H'=H0:=by
 refine eF F1 xL fun hcl K0 aN=> ?_
 rw [kj.eq_1] at h
 refine az ?_
 obtain ⟨t6,bW,h⟩:=ak h
 refine bF aq (zZ bW ?_)
 refine az ?_
 obtain rfl:=aB h
 exact aN _ _ _ bt (aI hcl (aT bn (.bool t6)) bp aX ⟨rfl,rfl⟩)
abbrev mG:av:=(.seq (.seq (.rg [(au 6 4),(aj 7 (.bin .geq (.t 6) (.c (.int .i64 0))))]) (.cond (.t 7) .skip (.exit 0))) (.seq (.blk 1 (.rg [(au 10 3),(au 11 0),(au 12 4),(aj 13 (.bin .shr (.t 11) (.t 12))),(aj 14 (.bin .and (.t 13) (.c (.int .u32 15)))),(aj 15 (.ixs (.c (.str [48,49,50,51,52,53,54,55,56,57,97,98,99,100,101,102])) (.t 14))),(aj 16 (.gA 1 [(.t 15)])),(aj 17 (.app 1 1 (.t 10) (.t 16))),(aP 3 17)])) (.rg [(au 8 4),(aj 9 (.bin .sub (.t 8) (.c (.int .i64 4)))),(aP 4 9)])))
abbrev z1:av:=(.seq (.rg [(aj 2 (.aO (.c (.str []))))]) (.seq (.rg [(aj 5 (.gA 1 [(.c (b8 98))])),(aP 3 5)]) (.seq (.seq (.rg [(aj 4 (.aO (.c (.int .i64 28))))]) (.blk 0 (.loop (erase mG)))) (.seq (.rg [(au 18 3),(aj 19 (.iS .bs (.t 18))),(aP 2 19)]) .ret))))
theorem z6:bw Tryz.prog 32 20 [(.tmp 2)] (erase z1):=⟨Tryz.f32,_,rfl,by decide,rfl,by kernel_rfl,rfl,rfl⟩
abbrev qm:List Nat:=[0,2,3,4,7]
def kT (zw:Int):((List UInt8)×Int)→Option (St (List UInt8) (List UInt8) ((List UInt8)×Int))
 |(b2,Kb)=>
  (if (decide (0≤Kb)) then
   (Xk .u32 zw Kb).bind fun x4=>
   (idx ([48,49,50,51,52,53,54,55,56,57,97,98,99,100,101,102]:List UInt8) (QD .u32 x4 15)).bind fun x5=>
   (cw 1 b2 ([x5]:List UInt8)).bind fun x6=>some (.cv (x6,(IntKind.wrap .i64 (Kb - 4))))
  else
   some (.eC b2))
def nS (F:Nat) (zw:Int):Option ((List UInt8)):=
 ((iter (kT zw) F (([98]:List UInt8),28)).bind fun o9=>
 match o9 with
 | .inr b8=>
   some b8
 | .inl _=>none)
theorem vF {F:Nat} {Kb:Int} {zw:Int} {b2:List UInt8} {H:AH} {K:Exit→Env→AH→Prop} {o:((List UInt8))⊕((List UInt8))}
 (h:iter (kT zw) F (b2,Kb)=some o)
 (dw:∀o':(List UInt8),o= .inr o'→K (.exit 0) [(3,(.sl .own 1 (ml b8 o')))] H):
 AX Tryz.prog qm 20 H.length (.loop (erase mG)) K [(0,(.int .u32 zw)),(3,(.sl .own 1 (ml b8 b2))),(4,(.int .i64 Kb))] H:=by
 refine gY (fun s e H1=>match s with|(b2,Kb)=>e=[(0,(.int .u32 zw)),(3,(.sl .own 1 (ml b8 b2))),(4,(.int .i64 Kb))]∧H1=H) h ⟨rfl,rfl⟩ ?_
 rintro K' ⟨b2,Kb⟩ st e H ⟨rfl,rfl⟩ h hN hB hR hX
 rw [kT.eq_1] at h
 refine az ?_
 refine bL h (fun hy1 h=> ?_) fun hy1 h=> ?_
 · obtain ⟨x4,aS,h⟩:=ak h
   have aZ:=Xl (k':= .i64) aS
   obtain ⟨x5,br,h⟩:=ak h
   obtain ⟨x6,bC,h⟩:=ak h
   have bW:cw 1 (ml b8 b2) [(b8 x5)]=some (ml b8 x6):=eH (f:=b8) bC
   refine aQ (aH aZ (aH br bW)) ?_
   obtain rfl:=aB h
   exact hN _ rfl _ _ _ _ aK aq ⟨rfl,rfl⟩
 · refine az ?_
   obtain rfl:=aB h
   exact hX _ _ _ _ _ dI aK aq (dw _ (hB _ rfl))
theorem yO {F:Nat} {zw:Int} {H0:AH} {aJ:List UInt8} (h:nS F zw=some aJ):
 aA Tryz.prog 32 [(.int .u32 zw)] H0 fun v H'=>v=(.str aJ)∧H'=H0:=by
 refine eF z6 qm fun hcl K0 aN=> ?_
 rw [nS.eq_1] at h
 refine az ?_
 obtain ⟨o9,cO,h⟩:=ak h
 refine bF aq (vF cO ?_)
 · rintro b8 rfl
   try dsimp only at h
   refine az ?_
   obtain rfl:=aB h
   exact aN _ _ _ bt (aI hcl (aT bn (.str b8)) bp aX ⟨rfl,rfl⟩)
abbrev Kc:av:=(.seq (.rg [(aj 1 (.box (.t 0))),(aj 2 (.aO (.c (.bool false))))]) (.seq (.rg [(aj 3 (.ld (.t 1) (some 2))),(aj 4 (.build [(.str []),(.str [])] [])),(aj 5 (.seq [.s, .s] false (.t 3) (.t 4))),(aP 2 5)]) .ret))
theorem Kd:bw Tryz.prog 75 6 [(.tmp 2)] (erase Kc):=⟨Tryz.f75,_,rfl,by decide,rfl,by kernel_rfl,rfl,rfl⟩
abbrev Ke:List Nat:=[0,1,2]
def nT (a1:ay):Option (Bool):=
 some (decide (a1.aC=([]:List UInt8))&&decide (a1.domain=([]:List UInt8)))
theorem zx {a1:ay} {H0:AH} {aJ:Bool} (h:nT a1=some aJ):
 aA Tryz.prog 75 [(.agg [(.str a1.aC),(.str a1.domain)])] H0 fun v H'=>v=(.bool aJ)∧H'=H0:=by
 refine mD Kd Ke [] fun hcl K0 aN H hH hfr=> ?_
 clear hH
 have hle:=hfr.le
 rw [nT.eq_1] at h
 refine cm ?_
 obtain rfl:=aB h
 exact aN _ _ _ bt (bE (Fr.app hfr) hcl (aT bn (.bool (decide (a1.aC=([]:List UInt8))&&decide (a1.domain=([]:List UInt8))))) bp aX ⟨rfl,rfl⟩)
abbrev qn:av:=(.rg [(au 3 0),(aj 4 (.bin .geq (.t 3) (.c (b8 32)))),(au 5 4),(ax 6 (.mv (.t 0)) 5 true),(ax 7 (.bin .leq (.t 6) (.c (b8 126))) 5 true),(aj 8 (.pick (.t 5) (.t 7) (.c (.bool false)))),(aP 2 8)])
abbrev El:av:=(.seq (.rg [(aj 2 (.aO (.c (.bool false))))]) (.seq (.sem (erase qn)) .ret))
theorem Em:bw Tryz.prog 121 9 [(.tmp 2)] (erase El):=⟨Tryz.f121,_,rfl,by decide,rfl,by kernel_rfl,rfl,rfl⟩
abbrev wv:List Nat:=[0,2]
def k9 (c1:UInt8):Option (Bool):=
 some ((decide (32≤c1))&&(decide (c1≤126)))
theorem yP {c1:UInt8} {H:AH} {K:Exit→Env→AH→Prop}
 (kn:K .normal [(2,(.bool ((decide (32≤c1))&&(decide (c1≤126)))))] H):
 AX Tryz.prog wv 9 H.length (erase qn) K [(0,(b8 c1)),(2,(.bool false))] H:=by
 refine cB fun K' hK=> ?_
 refine az ?_
 refine om (fun hy1=> ?_) fun hy1=> ?_
 · refine aQ hy1 ?_
   exact hK _ _ _ _ _ (fh hy1) aq kn
 · refine aQ hy1 ?_
   exact hK _ _ _ _ _ (fh hy1) aq kn
theorem uB {c1:UInt8} {H0:AH} {aJ:Bool} (h:k9 c1=some aJ):
 aA Tryz.prog 121 [(b8 c1)] H0 fun v H'=>v=(.bool aJ)∧H'=H0:=by
 refine eF Em wv fun hcl K0 aN=> ?_
 rw [k9.eq_1] at h
 refine az ?_
 refine bF aq (yP (c1:=c1) ?_)
 refine az ?_
 obtain rfl:=aB h
 exact aN _ _ _ bt (aI hcl (aT bn (.bool ((decide (32≤c1))&&(decide (c1≤126))))) bp aX ⟨rfl,rfl⟩)
abbrev ou:av:=(.seq (.rg [(aj 9 (.bin .lss (.t 8) (.t 7)))]) (.seq (.cond (.t 9) .skip (.exit 0)) (.seq (.blk 1 (.seq (.rg [(au 10 8),(aP 5 10)]) (.seq (.rg [(au 11 1),(au 12 0),(au 13 5),(aj 14 (.ixs (.t 12) (.t 13))),(aj 15 (.call (.t 11) [(.t 14)])),(aj 16 (.un .not (.t 15)))]) (.cond (.t 16) (.seq (.rg [(aj 4 (.aO (.c (.bool false))))]) .ret) .skip)))) (.rg [(aj 17 (.bin .add (.t 8) (.c (.int .i64 1)))),(au 8 17)]))))
abbrev C7:av:=(.seq (.rg [(aj 4 (.aO (.c (.bool false))))]) (.seq (.seq (.rg [(au 6 0),(aj 7 (.lens (.t 6))),(aj 8 (.mv (.c (.int .i64 0))))]) (.blk 0 (.loop (erase ou)))) (.seq (.rg [(aj 4 (.aO (.c (.bool true))))]) .ret)))
theorem C8:bw Tryz.prog 120 18 [(.tmp 4)] (erase C7):=⟨Tryz.f120,_,rfl,by decide,rfl,by kernel_rfl,rfl,rfl⟩
abbrev uC:List Nat:=[0,1,4,5,7,8,9,16]
def eJ (s1:List UInt8):(Bool×Int)→Option (St Bool Unit (Bool×Int))
 |(t2,t3)=>
  (if (decide (t3<(s1.length:Int))) then
   (idx s1 t3).bind fun x4=>
   (k9 x4).bind fun r5=>
   (if (!r5) then
    some (.ret false)
   else
    some (.cv (t2,(IntKind.wrap .i64 (t3+1)))))
  else
   some (.eC ()))
def jP (F:Nat) (s1:List UInt8):Option (Bool):=
 ((iter (eJ s1) F (false,0)).bind fun o8=>
 match o8 with
 | .inr ()=>
   some true
 | .inl r7=>
   some r7)
theorem xM {F:Nat} {t3:Int} {s1:List UInt8} {t2:Bool} {H:AH} {K:Exit→Env→AH→Prop} {o:(Bool)⊕(Unit)}
 (h:iter (eJ s1) F (t2,t3)=some o)
 (dw:∀o':Unit,o= .inr o'→K (.exit 0) [] H)
 (kr:∀o':Bool,o= .inl o'→K .ret [(4,(.bool o'))] H):
 AX Tryz.prog uC 18 H.length (.loop (erase ou)) K [(0,(.str s1)),(1,(.fn 121 [])),(4,(.bool t2)),(7,(.int .i64 (s1.length:Int))),(8,(.int .i64 t3))] H:=by
 refine gY (fun s e H1=>match s with|(t2,t3)=>e=[(0,(.str s1)),(1,(.fn 121 [])),(4,(.bool t2)),(7,(.int .i64 (s1.length:Int))),(8,(.int .i64 t3))]∧H1=H) h ⟨rfl,rfl⟩ ?_
 rintro K' ⟨t2,t3⟩ st e H ⟨rfl,rfl⟩ h hN hB hR hX
 rw [eJ.eq_1] at h
 refine az ?_
 refine bL h (fun hy1 h=> ?_) fun hy1 h=> ?_
 · obtain ⟨x4,aS,h⟩:=ak h
   refine aQ aS ?_
   obtain ⟨r5,aZ,h⟩:=ak h
   refine aY aq (uB aZ) ?_
   refine az ?_
   refine bL h (fun br h=> ?_) fun br h=> ?_
   · refine az ?_
     obtain rfl:=aB h
     exact hX _ _ _ _ _ dI aK aq (kr _ (hR _ rfl))
   · refine az ?_
     obtain rfl:=aB h
     exact hN _ rfl _ _ _ _ aK aq ⟨rfl,rfl⟩
 · refine az ?_
   obtain rfl:=aB h
   exact hX _ _ _ _ _ dI WE.nil aq (dw _ (hB _ rfl))
theorem BI {F:Nat} {s1:List UInt8} {H0:AH} {aJ:Bool} (h:jP F s1=some aJ):
 aA Tryz.prog 120 [(.str s1),(.fn 121 [])] H0 fun v H'=>v=(.bool aJ)∧H'=H0:=by
 refine eF C8 uC fun hcl K0 aN=> ?_
 rw [jP.eq_1] at h
 refine az ?_
 obtain ⟨o8,bC,h⟩:=ak h
 refine bF aq (xM bC ?_ ?_)
 · rintro ⟨⟩ rfl
   try dsimp only at h
   refine az ?_
   obtain rfl:=aB h
   exact aN _ _ _ bt (aI hcl (aT bn (.bool true)) bp aX ⟨rfl,rfl⟩)
 · rintro r7 rfl
   try dsimp only at h
   refine az ?_
   obtain rfl:=aB h
   exact aN _ _ _ bt (aI hcl (aT bn (.bool r7)) bp aX ⟨rfl,rfl⟩)
abbrev uD:av:=(.rg [(au 3 0),(aj 4 (.bin .neq (.t 3) (.c (.str [])))),(au 5 4),(ax 6 (.mv (.t 0)) 5 true),(ax 7 (.lens (.t 6)) 5 true),(ax 8 (.bin .leq (.t 7) (.c (.int .i64 64))) 5 true),(aj 9 (.pick (.t 5) (.t 8) (.c (.bool false)))),(au 10 9),(ax 11 (.mv (.t 0)) 10 true),(ax 12 (.call (.c (.fn 120 [])) [(.t 11),(.c (.fn 121 []))]) 10 true),(aj 13 (.pick (.t 10) (.t 12) (.c (.bool false)))),(aP 2 13)])
abbrev HD:av:=(.seq (.rg [(aj 2 (.aO (.c (.bool false))))]) (.seq (.sem (erase uD)) .ret))
theorem HF:bw Tryz.prog 84 14 [(.tmp 2)] (erase HD):=⟨Tryz.f84,_,rfl,by decide,rfl,by kernel_rfl,rfl,rfl⟩
abbrev zy:List Nat:=[0,2]
def mH (F:Nat) (s1:List UInt8):Option (Bool):=
 (if (!decide (s1=([]:List UInt8))) then
  (if (decide ((s1.length:Int)≤64)) then
   (jP F s1).bind fun r2=>some r2
  else
   some false)
 else
  some false)
def ov (F:Nat) (s1:List UInt8):Option (Bool):=
 (mH F s1).bind fun t4=>
 some t4
theorem BJ {F:Nat} {s1:List UInt8} {H:AH} {K:Exit→Env→AH→Prop} {t3:Bool}
 (h:mH F s1=some t3)
 (kn:K .normal [(2,(.bool t3))] H):
 AX Tryz.prog zy 14 H.length (erase uD) K [(0,(.str s1)),(2,(.bool false))] H:=by
 refine cB fun K' hK=> ?_
 rw [mH.eq_1] at h
 refine az ?_
 refine bZ h (fun hy1 h=> ?_) fun hy1 h=> ?_
 · refine aQ hy1 ?_
   refine bZ h (fun aS h=> ?_) fun aS h=> ?_
   · refine aQ aS ?_
     obtain ⟨r2,aZ,h⟩:=ak h
     refine aY aq (BI aZ) ?_
     refine az ?_
     obtain rfl:=aB h
     exact hK _ _ _ _ _ aK aq kn
   · refine aQ aS ?_
     obtain rfl:=aB h
     exact hK _ _ _ _ _ aK aq kn
 · refine aQ hy1 ?_
   obtain rfl:=aB h
   exact hK _ _ _ _ _ aK aq kn
theorem F2 {F:Nat} {s1:List UInt8} {H0:AH} {aJ:Bool} (h:ov F s1=some aJ):
 aA Tryz.prog 84 [(.str s1)] H0 fun v H'=>v=(.bool aJ)∧H'=H0:=by
 refine eF HF zy fun hcl K0 aN=> ?_
 rw [ov.eq_1] at h
 refine az ?_
 obtain ⟨t4,br,h⟩:=ak h
 refine bF aq (BJ br ?_)
 refine az ?_
 obtain rfl:=aB h
 exact aN _ _ _ bt (aI hcl (aT bn (.bool t4)) bp aX ⟨rfl,rfl⟩)
abbrev wz:av:=(.rg [(au 3 0),(aj 4 (.call (.c (.fn 134 [])) [(.t 3)])),(au 5 4),(ax 6 (.mv (.t 0)) 5 false),(ax 7 (.call (.c (.fn 152 [])) [(.c (.str [33,35,36,37,38,39,42,43,45,47,61,63,94,95,96,123,124,125,126])),(.t 6)]) 5 false),(ax 8 (.bin .geq (.t 7) (.c (.int .i64 0))) 5 false),(aj 9 (.pick (.t 5) (.c (.bool true)) (.t 8))),(aP 2 9)])
abbrev Kf:av:=(.seq (.rg [(aj 2 (.aO (.c (.bool false))))]) (.seq (.sem (erase wz)) .ret))
theorem Kg:bw Tryz.prog 133 10 [(.tmp 2)] (erase Kf):=⟨Tryz.f133,_,rfl,by decide,rfl,by kernel_rfl,rfl,rfl⟩
abbrev BK:List Nat:=[0,2]
def tL (c1:UInt8):Option (Bool):=
 (iM c1).bind fun r2=>
 (if r2 then
  some true
 else
  (strings_IndexByte ([33,35,36,37,38,39,42,43,45,47,61,63,94,95,96,123,124,125,126]:List UInt8) c1).bind fun r3=>some (decide (0≤r3)))
def nU (c1:UInt8):Option (Bool):=
 (tL c1).bind fun t5=>
 some t5
theorem C9 {c1:UInt8} {H:AH} {K:Exit→Env→AH→Prop} {t4:Bool}
 (h:tL c1=some t4)
 (kn:K .normal [(2,(.bool t4))] H):
 AX Tryz.prog BK 10 H.length (erase wz) K [(0,(b8 c1)),(2,(.bool false))] H:=by
 refine cB fun K' hK=> ?_
 rw [tL.eq_1] at h
 refine az ?_
 obtain ⟨r2,hy1,h⟩:=ak h
 refine aY aq (oG hy1) ?_
 refine az ?_
 refine bZ h (fun aS h=> ?_) fun aS h=> ?_
 · refine aQ aS ?_
   obtain rfl:=aB h
   exact hK _ _ _ _ _ aK aq kn
 · refine aQ aS ?_
   obtain ⟨r3,aZ,h⟩:=ak h
   refine aY aq (wV (s1:=([33,35,36,37,38,39,42,43,45,47,61,63,94,95,96,123,124,125,126]:List UInt8)) (c2:=c1) aZ) ?_
   refine az ?_
   obtain rfl:=aB h
   exact hK _ _ _ _ _ aK aq kn
theorem zz {c1:UInt8} {H0:AH} {aJ:Bool} (h:nU c1=some aJ):
 aA Tryz.prog 133 [(b8 c1)] H0 fun v H'=>v=(.bool aJ)∧H'=H0:=by
 refine eF Kg BK fun hcl K0 aN=> ?_
 rw [nU.eq_1] at h
 refine az ?_
 obtain ⟨t5,br,h⟩:=ak h
 refine bF aq (C9 br ?_)
 refine az ?_
 obtain rfl:=aB h
 exact aN _ _ _ bt (aI hcl (aT bn (.bool t5)) bp aX ⟨rfl,rfl⟩)
abbrev nJ:av:=(.seq (.rg [(aj 9 (.bin .lss (.t 8) (.t 7)))]) (.seq (.cond (.t 9) .skip (.exit 0)) (.seq (.blk 1 (.seq (.rg [(au 10 8),(aP 5 10)]) (.seq (.rg [(au 11 1),(au 12 0),(au 13 5),(aj 14 (.ixs (.t 12) (.t 13))),(aj 15 (.call (.t 11) [(.t 14)])),(aj 16 (.un .not (.t 15)))]) (.cond (.t 16) (.seq (.rg [(aj 4 (.aO (.c (.bool false))))]) .ret) .skip)))) (.rg [(aj 17 (.bin .add (.t 8) (.c (.int .i64 1)))),(au 8 17)]))))
abbrev BL:av:=(.seq (.rg [(aj 4 (.aO (.c (.bool false))))]) (.seq (.seq (.rg [(au 6 0),(aj 7 (.lens (.t 6))),(aj 8 (.mv (.c (.int .i64 0))))]) (.blk 0 (.loop (erase nJ)))) (.seq (.rg [(aj 4 (.aO (.c (.bool true))))]) .ret)))
theorem BM:bw Tryz.prog 120 18 [(.tmp 4)] (erase BL):=⟨Tryz.f120,_,rfl,by decide,rfl,by kernel_rfl,rfl,rfl⟩
abbrev sw:List Nat:=[0,1,4,5,7,8,9,16]
def ek (s1:List UInt8):(Bool×Int)→Option (St Bool Unit (Bool×Int))
 |(t2,t3)=>
  (if (decide (t3<(s1.length:Int))) then
   (idx s1 t3).bind fun x4=>
   (nU x4).bind fun r5=>
   (if (!r5) then
    some (.ret false)
   else
    some (.cv (t2,(IntKind.wrap .i64 (t3+1)))))
  else
   some (.eC ()))
def iW (F:Nat) (s1:List UInt8):Option (Bool):=
 ((iter (ek s1) F (false,0)).bind fun o8=>
 match o8 with
 | .inr ()=>
   some true
 | .inl r7=>
   some r7)
theorem wZ {F:Nat} {t3:Int} {s1:List UInt8} {t2:Bool} {H:AH} {K:Exit→Env→AH→Prop} {o:(Bool)⊕(Unit)}
 (h:iter (ek s1) F (t2,t3)=some o)
 (dw:∀o':Unit,o= .inr o'→K (.exit 0) [] H)
 (kr:∀o':Bool,o= .inl o'→K .ret [(4,(.bool o'))] H):
 AX Tryz.prog sw 18 H.length (.loop (erase nJ)) K [(0,(.str s1)),(1,(.fn 133 [])),(4,(.bool t2)),(7,(.int .i64 (s1.length:Int))),(8,(.int .i64 t3))] H:=by
 refine gY (fun s e H1=>match s with|(t2,t3)=>e=[(0,(.str s1)),(1,(.fn 133 [])),(4,(.bool t2)),(7,(.int .i64 (s1.length:Int))),(8,(.int .i64 t3))]∧H1=H) h ⟨rfl,rfl⟩ ?_
 rintro K' ⟨t2,t3⟩ st e H ⟨rfl,rfl⟩ h hN hB hR hX
 rw [ek.eq_1] at h
 refine az ?_
 refine bL h (fun hy1 h=> ?_) fun hy1 h=> ?_
 · obtain ⟨x4,aS,h⟩:=ak h
   refine aQ aS ?_
   obtain ⟨r5,aZ,h⟩:=ak h
   refine aY aq (zz aZ) ?_
   refine az ?_
   refine bL h (fun br h=> ?_) fun br h=> ?_
   · refine az ?_
     obtain rfl:=aB h
     exact hX _ _ _ _ _ dI aK aq (kr _ (hR _ rfl))
   · refine az ?_
     obtain rfl:=aB h
     exact hN _ rfl _ _ _ _ aK aq ⟨rfl,rfl⟩
 · refine az ?_
   obtain rfl:=aB h
   exact hX _ _ _ _ _ dI WE.nil aq (dw _ (hB _ rfl))
theorem z7 {F:Nat} {s1:List UInt8} {H0:AH} {aJ:Bool} (h:iW F s1=some aJ):
 aA Tryz.prog 120 [(.str s1),(.fn 133 [])] H0 fun v H'=>v=(.bool aJ)∧H'=H0:=by
 refine eF BM sw fun hcl K0 aN=> ?_
 rw [iW.eq_1] at h
 refine az ?_
 obtain ⟨o8,bC,h⟩:=ak h
 refine bF aq (wZ bC ?_ ?_)
 · rintro ⟨⟩ rfl
   try dsimp only at h
   refine az ?_
   obtain rfl:=aB h
   exact aN _ _ _ bt (aI hcl (aT bn (.bool true)) bp aX ⟨rfl,rfl⟩)
 · rintro r7 rfl
   try dsimp only at h
   refine az ?_
   obtain rfl:=aB h
   exact aN _ _ _ bt (aI hcl (aT bn (.bool r7)) bp aX ⟨rfl,rfl⟩)
abbrev qo:av:=(.rg [(au 3 0),(aj 4 (.bin .eql (.t 3) (.c (.str [])))),(au 5 4),(ax 6 (.mv (.t 0)) 5 false),(ax 7 (.call (.c (.fn 120 [])) [(.t 6),(.c (.fn 133 []))]) 5 false),(ax 8 (.un .not (.t 7)) 5 false),(aj 9 (.pick (.t 5) (.c (.bool true)) (.t 8))),(aP 2 9)])
abbrev En:av:=(.seq (.rg [(aj 2 (.aO (.c (.bool false))))]) (.seq (.sem (erase qo)) .ret))
theorem Eo:bw Tryz.prog 140 10 [(.tmp 2)] (erase En):=⟨Tryz.f140,_,rfl,by decide,rfl,by kernel_rfl,rfl,rfl⟩
abbrev wA:List Nat:=[0,2]
def ko (F:Nat) (x1:List UInt8):Option (Bool):=
 (if (decide (x1=([]:List UInt8))) then
  some true
 else
  (iW F x1).bind fun r2=>some (!r2))
def lg (F:Nat) (x1:List UInt8):Option (Bool):=
 (ko F x1).bind fun t4=>
 some t4
theorem yQ {F:Nat} {x1:List UInt8} {H:AH} {K:Exit→Env→AH→Prop} {t3:Bool}
 (h:ko F x1=some t3)
 (kn:K .normal [(2,(.bool t3))] H):
 AX Tryz.prog wA 10 H.length (erase qo) K [(0,(.str x1)),(2,(.bool false))] H:=by
 refine cB fun K' hK=> ?_
 rw [ko.eq_1] at h
 refine az ?_
 refine bZ h (fun hy1 h=> ?_) fun hy1 h=> ?_
 · refine aQ hy1 ?_
   obtain rfl:=aB h
   exact hK _ _ _ _ _ aK aq kn
 · refine aQ hy1 ?_
   obtain ⟨r2,aS,h⟩:=ak h
   refine aY aq (z7 aS) ?_
   refine az ?_
   obtain rfl:=aB h
   exact hK _ _ _ _ _ aK aq kn
theorem Da {F:Nat} {x1:List UInt8} {H0:AH} {aJ:Bool} (h:lg F x1=some aJ):
 aA Tryz.prog 140 [(.str x1)] H0 fun v H'=>v=(.bool aJ)∧H'=H0:=by
 refine eF Eo wA fun hcl K0 aN=> ?_
 rw [lg.eq_1] at h
 refine az ?_
 obtain ⟨t4,aZ,h⟩:=ak h
 refine bF aq (yQ aZ ?_)
 refine az ?_
 obtain rfl:=aB h
 exact aN _ _ _ bt (aI hcl (aT bn (.bool t4)) bp aX ⟨rfl,rfl⟩)
abbrev iX:av:=(.seq (.rg [(aj 9 (.bin .lss (.t 8) (.t 7)))]) (.seq (.cond (.t 9) .skip (.exit 0)) (.seq (.blk 1 (.seq (.rg [(au 10 8),(aP 5 10)]) (.seq (.rg [(au 11 1),(au 12 0),(au 13 5),(aj 14 (.mj 1 (.t 12) (.t 13))),(aj 15 (.ld (.t 14) none)),(aj 16 (.call (.t 11) [(.t 15)]))]) (.cond (.t 16) (.seq (.rg [(au 17 5),(aP 4 17)]) .ret) .skip)))) (.rg [(aj 18 (.bin .add (.t 8) (.c (.int .i64 1)))),(au 8 18)]))))
abbrev tM:av:=(.seq (.rg [(aj 4 (.aO (.c (.int .i64 0))))]) (.seq (.seq (.rg [(au 6 0),(aj 7 (.len (.t 6))),(aj 8 (.mv (.c (.int .i64 0))))]) (.blk 0 (.loop (erase iX)))) (.seq (.rg [(aj 4 (.aO (.c (.int .i64 (-1)))))]) .ret)))
theorem tN:bw Tryz.prog 112 19 [(.tmp 4)] (erase tM):=⟨Tryz.f112,_,rfl,by decide,rfl,by kernel_rfl,rfl,rfl⟩
abbrev lq:List Nat:=[0,1,4,5,7,8,9,16]
def cF (F:Nat) (s1:List (List UInt8)):(Int×Int)→Option (St Int Unit (Int×Int))
 |(t2,t3)=>
  (if (decide (t3<(s1.length:Int))) then
   (idx s1 t3).bind fun x4=>
   (lg F x4).bind fun r5=>
   (if r5 then
    some (.ret t3)
   else
    some (.cv (t2,(IntKind.wrap .i64 (t3+1)))))
  else
   some (.eC ()))
def fO (F:Nat) (s1:List (List UInt8)):Option (Int):=
 ((iter (cF F s1) F (0,0)).bind fun o8=>
 match o8 with
 | .inr ()=>
   some (-1)
 | .inl r7=>
   some r7)
theorem oH {F:Nat} {t3:Int} {s1:List (List UInt8)} {t2:Int} {H:AH} {K:Exit→Env→AH→Prop} {o:(Int)⊕(Unit)}
 (h:iter (cF F s1) F (t2,t3)=some o)
 (dw:∀o':Unit,o= .inr o'→K (.exit 0) [] H)
 (kr:∀o':Int,o= .inl o'→K .ret [(4,(.int .i64 o'))] H):
 AX Tryz.prog lq 19 H.length (.loop (erase iX)) K [(0,(.sl .n 1 (ml AV.str s1))),(1,(.fn 140 [])),(4,(.int .i64 t2)),(7,(.int .i64 (s1.length:Int))),(8,(.int .i64 t3))] H:=by
 refine gY (fun s e H1=>match s with|(t2,t3)=>e=[(0,(.sl .n 1 (ml AV.str s1))),(1,(.fn 140 [])),(4,(.int .i64 t2)),(7,(.int .i64 (s1.length:Int))),(8,(.int .i64 t3))]∧H1=H) h ⟨rfl,rfl⟩ ?_
 rintro K' ⟨t2,t3⟩ st e H ⟨rfl,rfl⟩ h hN hB hR hX
 rw [cF.eq_1] at h
 refine az ?_
 refine bL h (fun hy1 h=> ?_) fun hy1 h=> ?_
 · obtain ⟨x4,aS,h⟩:=ak h
   refine aQ aS ?_
   obtain ⟨r5,aZ,h⟩:=ak h
   refine aY aq (Da aZ) ?_
   refine az ?_
   refine bL h (fun br h=> ?_) fun br h=> ?_
   · refine az ?_
     obtain rfl:=aB h
     exact hX _ _ _ _ _ dI aK aq (kr _ (hR _ rfl))
   · refine az ?_
     obtain rfl:=aB h
     exact hN _ rfl _ _ _ _ aK aq ⟨rfl,rfl⟩
 · refine az ?_
   obtain rfl:=aB h
   exact hX _ _ _ _ _ dI WE.nil aq (dw _ (hB _ rfl))
theorem rN {F:Nat} {s1:List (List UInt8)} {H0:AH} {aJ:Int} (h:fO F s1=some aJ):
 aA Tryz.prog 112 [(.sl .n 1 (ml AV.str s1)),(.fn 140 [])] H0 fun v H'=>v=(.int .i64 aJ)∧H'=H0:=by
 refine eF tN lq fun hcl K0 aN=> ?_
 rw [fO.eq_1] at h
 refine az ?_
 obtain ⟨o8,bC,h⟩:=ak h
 refine bF aq (oH bC ?_ ?_)
 · rintro ⟨⟩ rfl
   try dsimp only at h
   refine az ?_
   obtain rfl:=aB h
   exact aN _ _ _ bt (aI hcl (aT bn (.int .i64 (-1))) bp aX ⟨rfl,rfl⟩)
 · rintro r7 rfl
   try dsimp only at h
   refine az ?_
   obtain rfl:=aB h
   exact aN _ _ _ bt (aI hcl (aT bn (.int .i64 r7)) bp aX ⟨rfl,rfl⟩)
abbrev pK:av:=(.seq (.rg [(aj 4 (.aO (.c (.bool false))))]) (.seq (.rg [(au 5 0),(au 6 1),(aj 7 (.call (.c (.fn 112 [])) [(.t 5),(.t 6)])),(aj 8 (.bin .geq (.t 7) (.c (.int .i64 0)))),(aP 4 8)]) .ret))
theorem pL:bw Tryz.prog 72 9 [(.tmp 4)] (erase pK):=⟨Tryz.f72,_,rfl,by decide,rfl,by kernel_rfl,rfl,rfl⟩
abbrev pM:List Nat:=[0,1,4]
def eZ (F:Nat) (s1:List (List UInt8)):Option (Bool):=
 (fO F s1).bind fun r2=>some (decide (0≤r2))
theorem oI {F:Nat} {s1:List (List UInt8)} {H0:AH} {aJ:Bool} (h:eZ F s1=some aJ):
 aA Tryz.prog 72 [(.sl .n 1 (ml AV.str s1)),(.fn 140 [])] H0 fun v H'=>v=(.bool aJ)∧H'=H0:=by
 refine eF pL pM fun hcl K0 aN=> ?_
 rw [eZ.eq_1] at h
 refine az ?_
 obtain ⟨r2,hy1,h⟩:=ak h
 refine aY aq (rN hy1) ?_
 refine az ?_
 obtain rfl:=aB h
 exact aN _ _ _ bt (aI hcl (aT bn (.bool (decide (0≤r2)))) bp aX ⟨rfl,rfl⟩)
abbrev HG:av:=(.seq (.rg [(aj 2 (.aO (.c (.bool false))))]) (.seq (.rg [(au 3 0),(aj 4 (.call (.c (.fn 65 [])) [(.t 3),(.c (.str [46]))])),(aj 5 (.call (.c (.fn 72 [])) [(.t 4),(.c (.fn 140 []))])),(aj 6 (.un .not (.t 5))),(aP 2 6)]) .ret))
theorem HH:bw Tryz.prog 115 7 [(.tmp 2)] (erase HG):=⟨Tryz.f115,_,rfl,by decide,rfl,by kernel_rfl,rfl,rfl⟩
abbrev HI:List Nat:=[0,2]
def l7 (F:Nat) (s1:List UInt8):Option (Bool):=
 (strings_Split s1 ([46]:List UInt8)).bind fun r2=>(eZ F r2).bind fun r3=>some (!r3)
theorem xN {F:Nat} {s1:List UInt8} {H0:AH} {aJ:Bool} (h:l7 F s1=some aJ):
 aA Tryz.prog 115 [(.str s1)] H0 fun v H'=>v=(.bool aJ)∧H'=H0:=by
 refine eF HH HI fun hcl K0 aN=> ?_
 rw [l7.eq_1] at h
 refine az ?_
 obtain ⟨r2,hy1,h⟩:=ak h
 refine aY aq (gH (s1:=s1) (s2:=([46]:List UInt8)) hy1) ?_
 refine az ?_
 obtain ⟨r3,aS,h⟩:=ak h
 refine aY aq (oI aS) ?_
 refine az ?_
 obtain rfl:=aB h
 exact aN _ _ _ bt (aI hcl (aT bn (.bool (!r3))) bp aX ⟨rfl,rfl⟩)
abbrev wB:av:=(.rg [(au 17 3),(au 18 5),(aj 19 (.ixs (.t 17) (.t 18))),(aj 20 (.bin .eql (.t 19) (.c (b8 34)))),(au 21 20),(ax 22 (.mv (.t 3)) 21 false),(ax 23 (.mv (.t 5)) 21 false),(ax 24 (.ixs (.t 22) (.t 23)) 21 false),(ax 25 (.bin .eql (.t 24) (.c (b8 92))) 21 false),(aj 26 (.pick (.t 21) (.c (.bool true)) (.t 25)))])
abbrev uE:av:=(.seq (.rg [(aj 15 (.bin .lss (.t 14) (.t 13)))]) (.seq (.cond (.t 15) .skip (.exit 0)) (.seq (.blk 1 (.seq (.rg [(au 16 14),(aP 5 16)]) (.seq (.seq (.sem (erase wB)) (.cond (.t 26) (.rg [(au 27 4),(aj 28 (.gA 1 [(.c (b8 92))])),(aj 29 (.app 1 1 (.t 27) (.t 28))),(aP 4 29)]) .skip)) (.rg [(au 30 4),(au 31 3),(au 32 5),(aj 33 (.ixs (.t 31) (.t 32))),(aj 34 (.gA 1 [(.t 33)])),(aj 35 (.app 1 1 (.t 30) (.t 34))),(aP 4 35)])))) (.rg [(aj 36 (.bin .add (.t 14) (.c (.int .i64 1)))),(au 14 36)]))))
abbrev Kh:av:=(.seq (.rg [(aj 1 (.box (.t 0))),(aj 2 (.aO (.c (.str []))))]) (.seq (.rg [(aj 6 (.cj (.t 1) 0)),(aj 7 (.ld (.t 6) none)),(aP 3 7)]) (.seq (.seq (.rg [(au 8 3),(aj 9 (.call (.c (.fn 115 [])) [(.t 8)])),(aj 10 (.un .not (.t 9)))]) (.cond (.t 10) (.seq (.rg [(aj 11 (.gA 1 [(.c (b8 34))])),(aP 4 11)]) (.seq (.seq (.rg [(au 12 3),(aj 13 (.lens (.t 12))),(aj 14 (.mv (.c (.int .i64 0))))]) (.blk 0 (.loop (erase uE)))) (.rg [(au 37 4),(aj 38 (.gA 1 [(.c (b8 34))])),(aj 39 (.app 1 1 (.t 37) (.t 38))),(aj 40 (.iS .bs (.t 39))),(aP 3 40)]))) .skip)) (.seq (.rg [(au 41 3),(aj 42 (.bin .add (.c (.str [60])) (.t 41))),(aj 43 (.bin .add (.t 42) (.c (.str [64])))),(aj 44 (.cj (.t 1) 1)),(aj 45 (.ld (.t 44) none)),(aj 46 (.bin .add (.t 43) (.t 45))),(aj 47 (.bin .add (.t 46) (.c (.str [62])))),(aP 2 47)]) .ret))))
theorem Ki:bw Tryz.prog 76 48 [(.tmp 2)] (erase Kh):=⟨Tryz.f76,_,rfl,by decide,rfl,by kernel_rfl,rfl,rfl⟩
abbrev vG:List Nat:=[0,1,2,3,4,5,10,13,14,15,26]
def oc (a1:ay) (t5:Int):Option (Bool):=
 (idx a1.aC t5).bind fun x7=>
 (if (decide (x7=34)) then
  some true
 else
  some (decide (x7=92)))
def gL (a1:ay):((List UInt8)×Int)→Option (St (List UInt8) (List UInt8) ((List UInt8)×Int))
 |(b4,t5)=>
  (if (decide (t5<(a1.aC.length:Int))) then
   (oc a1 t5).bind fun t9=>
   (if t9 then
    (cw 1 b4 ([92]:List UInt8)).bind fun iY=>
    (idx a1.aC t5).bind fun fj=>
    (cw 1 iY ([fj]:List UInt8)).bind fun nV=>some (.cv (nV,(IntKind.wrap .i64 (t5+1))))
   else
    (idx a1.aC t5).bind fun jG=>
    (cw 1 b4 ([jG]:List UInt8)).bind fun TI=>some (.cv (TI,(IntKind.wrap .i64 (t5+1)))))
  else
   some (.eC b4))
def nW (F:Nat) (a1:ay):Option ((List UInt8)):=
 (l7 F a1.aC).bind fun r2=>
 (if (!r2) then
  ((iter (gL a1) F (([34]:List UInt8),0)).bind fun o22=>
  match o22 with
  | .inr b16=>
    (cw 1 b16 ([34]:List UInt8)).bind fun kU=>
    (cat ([60]:List UInt8) kU).bind fun Ep=>
    (cat Ep ([64]:List UInt8)).bind fun xO=>
    (cat xO a1.domain).bind fun lT=>(cat lT ([62]:List UInt8)).bind fun yR=>some yR
  | .inl _=>none)
 else
  (cat ([60]:List UInt8) a1.aC).bind fun F3=>
  (cat F3 ([64]:List UInt8)).bind fun Er=>
  (cat Er a1.domain).bind fun MG=>(cat MG ([62]:List UInt8)).bind fun x26=>some x26)
theorem Db {a1:ay} {t5:Int} {q6:Nat} {b4:List UInt8} {H0 H:AH} (hfr:Fr H0 H0.length [] H) (ai:H[q6]? =some [(.str a1.aC),(.str a1.domain)]) (hi0:H0.length≤q6) {K:Exit→Env→AH→Prop} {t8:Bool}
 (h:oc a1 t5=some t8)
 (kn:∀H':AH,Fr H0 H0.length [] H'→H'[q6]? =some [(.str a1.aC),(.str a1.domain)]→K .normal [(1,(.ptr q6 0)),(3,(.str a1.aC)),(4,(.sl .own 1 (ml b8 b4))),(5,(.int .i64 t5)),(13,(.int .i64 (a1.aC.length:Int))),(14,(.int .i64 t5)),(26,(.bool t8))] H'):
 AX Tryz.prog vG 48 H0.length (erase wB) K [(1,(.ptr q6 0)),(3,(.str a1.aC)),(4,(.sl .own 1 (ml b8 b4))),(5,(.int .i64 t5)),(13,(.int .i64 (a1.aC.length:Int))),(14,(.int .i64 t5))] H:=by
 refine cB fun K' hK=> ?_
 have hle:=hfr.le
 have aW:=aV ai
 rw [oc.eq_1] at h
 obtain ⟨x7,br,h⟩:=ak h
 refine aG (aH br ai) ?_
 refine bZ h (fun bC h=> ?_) fun bC h=> ?_
 · refine aG (aH bC ai) ?_
   obtain rfl:=aB h
   exact hK _ _ _ _ _ aK aq (kn _ hfr (ai.trans rfl))
 · refine aG (aH bC (aH br ai)) ?_
   obtain rfl:=aB h
   exact hK _ _ _ _ _ aK aq (kn _ hfr (ai.trans rfl))
theorem Dc {F:Nat} {t5:Int} {a1:ay} {b4:List UInt8} {q3:Nat} {H0 H:AH} (hfr:Fr H0 H0.length [] H) (ai:H[q3]? =some [(.str a1.aC),(.str a1.domain)]) (hi0:H0.length≤q3) {K:Exit→Env→AH→Prop} {o:((List UInt8))⊕((List UInt8))}
 (h:iter (gL a1) F (b4,t5)=some o)
 (dw:∀o':(List UInt8),o= .inr o'→∀H':AH,Fr H0 H0.length [] H'→H'[q3]? =some [(.str a1.aC),(.str a1.domain)]→K (.exit 0) [(1,(.ptr q3 0)),(4,(.sl .own 1 (ml b8 o')))] H'):
 AX Tryz.prog vG 48 H0.length (.loop (erase uE)) K [(1,(.ptr q3 0)),(3,(.str a1.aC)),(4,(.sl .own 1 (ml b8 b4))),(13,(.int .i64 (a1.aC.length:Int))),(14,(.int .i64 t5))] H:=by
 refine gY (fun s e H1=>match s with|(b4,t5)=>e=[(1,(.ptr q3 0)),(3,(.str a1.aC)),(4,(.sl .own 1 (ml b8 b4))),(13,(.int .i64 (a1.aC.length:Int))),(14,(.int .i64 t5))]∧Fr H0 H0.length [] H1∧H1[q3]? =some [(.str a1.aC),(.str a1.domain)]) h ⟨rfl,hfr,ai⟩ ?_
 rintro K' ⟨b4,t5⟩ st e H ⟨rfl,hfr,ai⟩ h hN hB hR hX
 have hle:=hfr.le
 have aW:=aV ai
 rw [gL.eq_1] at h
 refine aG ai ?_
 refine bL h (fun aZ h=> ?_) fun aZ h=> ?_
 · refine aG ai ?_
   obtain ⟨t9,bW,h⟩:=ak h
   refine bF aq (Db (b4:=b4) (q6:=q3) hfr (ai.trans rfl) dG bW ?_)
   intro H hfr ai
   have hle:=hfr.le
   have aW:=aV ai
   refine aG ai ?_
   refine bL h (fun cO h=> ?_) fun cO h=> ?_
   · obtain ⟨iY,cD,h⟩:=ak h
     have dA:cw 1 (ml b8 b4) [(b8 92)]=some (ml b8 iY):=eH (f:=b8) cD
     obtain ⟨fj,cJ,h⟩:=ak h
     obtain ⟨nV,cG,h⟩:=ak h
     have cS:cw 1 (ml b8 iY) [(b8 fj)]=some (ml b8 nV):=eH (f:=b8) cG
     refine aG (aH dA (aH cJ (aH cS ai))) ?_
     obtain rfl:=aB h
     exact hN _ rfl _ _ _ _ aK aq ⟨rfl,hfr,(ai.trans rfl)⟩
   · obtain ⟨jG,cW,h⟩:=ak h
     obtain ⟨TI,eT,h⟩:=ak h
     have gh:cw 1 (ml b8 b4) [(b8 jG)]=some (ml b8 TI):=eH (f:=b8) eT
     refine aG (aH cW (aH gh ai)) ?_
     obtain rfl:=aB h
     exact hN _ rfl _ _ _ _ aK aq ⟨rfl,hfr,(ai.trans rfl)⟩
 · refine aG ai ?_
   obtain rfl:=aB h
   exact hX _ _ _ _ _ dI aK aq (dw _ (hB _ rfl) _ hfr (ai.trans rfl))
theorem zA {F:Nat} {a1:ay} {H0:AH} {aJ:List UInt8} (h:nW F a1=some aJ):
 aA Tryz.prog 76 [(.agg [(.str a1.aC),(.str a1.domain)])] H0 fun v H'=>v=(.str aJ)∧H'=H0:=by
 refine mD Ki vG [] fun hcl K0 aN H hH hfr=> ?_
 clear hH
 have hle:=hfr.le
 rw [nW.eq_1] at h
 refine cm ?_
 obtain ⟨r2,hy1,h⟩:=ak h
 refine aY aq (xN hy1) ?_
 refine cm ?_
 refine bL h (fun aS h=> ?_) fun aS h=> ?_
 · refine cm ?_
   obtain ⟨q3,F4⟩:∃q:Nat,H.length=q:=⟨_,rfl⟩
   try rw [F4]
   obtain ⟨o22,gx,h⟩:=ak h
   refine bF aq (Dc (q3:=q3) (Fr.app hfr) xH dG gx ?_)
   · rintro b16 rfl H hfr ai
     try dsimp only at h ai
     have hle:=hfr.le
     have aW:=aV ai
     refine cm ?_
     obtain ⟨kU,lu,h⟩:=ak h
     have jD:cw 1 (ml b8 b16) [(b8 34)]=some (ml b8 kU):=eH (f:=b8) lu
     obtain ⟨Ep,jQ,h⟩:=ak h
     obtain ⟨xO,lz,h⟩:=ak h
     obtain ⟨lT,ig,h⟩:=ak h
     obtain ⟨yR,lA,h⟩:=ak h
     refine aG (aH jD (aH jQ (aH lz (aH ig (aH lA ai))))) ?_
     obtain rfl:=aB h
     exact aN _ _ _ bt (bE hfr hcl (aT bn (.str yR)) bp aX ⟨rfl,rfl⟩)
 · obtain ⟨F3,mI,h⟩:=ak h
   obtain ⟨Er,iD,h⟩:=ak h
   obtain ⟨MG,jR,h⟩:=ak h
   obtain ⟨x26,ow,h⟩:=ak h
   refine aG (aH mI (aH iD (aH jR ow))) ?_
   obtain rfl:=aB h
   exact aN _ _ _ bt (bE (Fr.app hfr) hcl (aT bn (.str x26)) bp aX ⟨rfl,rfl⟩)
abbrev uF:av:=(.rg [(aj 3 (.ld (.t 1) (some 2))),(aj 4 (.call (.c (.fn 75 [])) [(.t 3)])),(au 5 4),(ax 6 (.cj (.t 1) 0) 5 false),(ax 7 (.ld (.t 6) none) 5 false),(ax 8 (.call (.c (.fn 84 [])) [(.t 7)]) 5 false),(ax 9 (.mv (.t 8)) 5 false),(ax 10 (.cj (.t 1) 1) 9 true),(ax 11 (.ld (.t 10) none) 9 true),(ax 12 (.call (.c (.fn 31 [])) [(.t 11)]) 9 true),(ax 13 (.pick (.t 9) (.t 12) (.c (.bool false))) 5 false),(ax 14 (.mv (.t 13)) 5 false),(ax 15 (.ld (.t 1) (some 2)) 14 true),(ax 16 (.call (.c (.fn 76 [])) [(.t 15)]) 14 true),(ax 17 (.lens (.t 16)) 14 true),(ax 18 (.bin .leq (.t 17) (.c (.int .i64 256))) 14 true),(ax 19 (.pick (.t 14) (.t 18) (.c (.bool false))) 5 false),(aj 20 (.pick (.t 5) (.c (.bool true)) (.t 19))),(aP 2 20)])
abbrev HJ:av:=(.seq (.rg [(aj 1 (.box (.t 0))),(aj 2 (.aO (.c (.bool false))))]) (.seq (.sem (erase uF)) .ret))
theorem HK:bw Tryz.prog 44 21 [(.tmp 2)] (erase HJ):=⟨Tryz.f44,_,rfl,by decide,rfl,by kernel_rfl,rfl,rfl⟩
abbrev zB:List Nat:=[0,1,2]
def mJ (F:Nat) (a1:ay):Option (Bool):=
 (nT a1).bind fun r3=>
 (if r3 then
  some true
 else
  (ov F a1.aC).bind fun r4=>
  (if r4 then
   (kj F a1.domain).bind fun r5=>
   (if r5 then
    (nW F a1).bind fun r6=>some (decide ((r6.length:Int)≤256))
   else
    some false)
  else
   some false))
def l8 (F:Nat) (a1:ay):Option (Bool):=
 (mJ F a1).bind fun t8=>
 some t8
theorem BN {F:Nat} {a1:ay} {q2:Nat} {H0 H:AH} (hfr:Fr H0 H0.length [] H) (ai:H[q2]? =some [(.str a1.aC),(.str a1.domain)]) (hi0:H0.length≤q2) {K:Exit→Env→AH→Prop} {t7:Bool}
 (h:mJ F a1=some t7)
 (kn:∀H':AH,Fr H0 H0.length [] H'→H'[q2]? =some [(.str a1.aC),(.str a1.domain)]→K .normal [(2,(.bool t7))] H'):
 AX Tryz.prog zB 21 H0.length (erase uF) K [(1,(.ptr q2 0)),(2,(.bool false))] H:=by
 refine cB fun K' hK=> ?_
 have hle:=hfr.le
 have aW:=aV ai
 rw [mJ.eq_1] at h
 refine aG ai ?_
 obtain ⟨r3,hy1,h⟩:=ak h
 refine aY aq (zx hy1) ?_
 refine aG ai ?_
 refine bZ h (fun aS h=> ?_) fun aS h=> ?_
 · refine aG (aH aS ai) ?_
   obtain rfl:=aB h
   exact hK _ _ _ _ _ aK aq (kn _ hfr (ai.trans rfl))
 · refine aG (aH aS ai) ?_
   obtain ⟨r4,aZ,h⟩:=ak h
   refine aY aq (F2 aZ) ?_
   refine aG ai ?_
   refine bZ h (fun br h=> ?_) fun br h=> ?_
   · refine aG (aH br ai) ?_
     obtain ⟨r5,bC,h⟩:=ak h
     refine aY aq (wu bC) ?_
     refine aG ai ?_
     refine bZ h (fun bW h=> ?_) fun bW h=> ?_
     · refine aG (aH bW ai) ?_
       obtain ⟨r6,cO,h⟩:=ak h
       refine aY aq (zA cO) ?_
       refine aG ai ?_
       obtain rfl:=aB h
       exact hK _ _ _ _ _ aK aq (kn _ hfr (ai.trans rfl))
     · refine aG (aH bW ai) ?_
       obtain rfl:=aB h
       exact hK _ _ _ _ _ aK aq (kn _ hfr (ai.trans rfl))
   · refine aG (aH br ai) ?_
     obtain rfl:=aB h
     exact hK _ _ _ _ _ aK aq (kn _ hfr (ai.trans rfl))
theorem xP {F:Nat} {a1:ay} {H0:AH} {aJ:Bool} (h:l8 F a1=some aJ):
 aA Tryz.prog 44 [(.agg [(.str a1.aC),(.str a1.domain)])] H0 fun v H'=>v=(.bool aJ)∧H'=H0:=by
 refine mD HK zB [] fun hcl K0 aN H hH hfr=> ?_
 clear hH
 have hle:=hfr.le
 rw [l8.eq_1] at h
 refine cm ?_
 obtain ⟨q2,nX⟩:∃q:Nat,H.length=q:=⟨_,rfl⟩
 try rw [nX]
 obtain ⟨t8,cD,h⟩:=ak h
 refine bF aq (BN (q2:=q2) (Fr.app hfr) xH dG cD ?_)
 intro H hfr ai
 have hle:=hfr.le
 have aW:=aV ai
 refine aG ai ?_
 obtain rfl:=aB h
 exact aN _ _ _ bt (bE hfr hcl (aT bn (.bool t8)) bp aX ⟨rfl,rfl⟩)
abbrev HL:av:=(.seq (.rg [(aj 1 (.box (.t 0))),(aj 2 (.aO (.c (.str []))))]) (.seq (.blk 0 (.seq (.rg [(aj 4 (.ld (.t 1) (some 2))),(aj 5 (.call (.c (.fn 75 [])) [(.t 4)])),(aP 3 5)]) (.cond (.t 3) (.seq (.rg [(aj 2 (.aO (.c (.str [60,62]))))]) .ret) (.seq (.rg [(aj 7 (.ld (.t 1) (some 2))),(aj 8 (.call (.c (.fn 44 [])) [(.t 7)])),(aj 9 (.un .not (.t 8))),(aP 6 9)]) (.cond (.t 6) (.seq (.rg [(aj 2 (.aO (.c (.str []))))]) .ret) .skip))))) (.seq (.rg [(aj 10 (.ld (.t 1) (some 2))),(aj 11 (.call (.c (.fn 76 [])) [(.t 10)])),(aP 2 11)]) .ret)))
theorem HM:bw Tryz.prog 36 12 [(.tmp 2)] (erase HL):=⟨Tryz.f36,_,rfl,by decide,rfl,by kernel_rfl,rfl,rfl⟩
abbrev HN:List Nat:=[0,1,2,3,6]
def l9 (F:Nat) (a1:ay):Option ((List UInt8)):=
 (nT a1).bind fun r2=>
 (if r2 then
  some ([60,62]:List UInt8)
 else
  (l8 F a1).bind fun r3=>
  (if (!r3) then
   some ([]:List UInt8)
  else
   (nW F a1).bind fun r4=>some r4))
theorem xQ {F:Nat} {a1:ay} {H0:AH} {aJ:List UInt8} (h:l9 F a1=some aJ):
 aA Tryz.prog 36 [(.agg [(.str a1.aC),(.str a1.domain)])] H0 fun v H'=>v=(.str aJ)∧H'=H0:=by
 refine mD HM HN [] fun hcl K0 aN H hH hfr=> ?_
 clear hH
 have hle:=hfr.le
 rw [l9.eq_1] at h
 refine cm ?_
 obtain ⟨r2,hy1,h⟩:=ak h
 refine aY aq (zx hy1) ?_
 refine cm ?_
 refine bL h (fun aS h=> ?_) fun aS h=> ?_
 · refine cm ?_
   obtain rfl:=aB h
   exact aN _ _ _ bt (bE (Fr.app hfr) hcl (aT bn (.str ([60,62]:List UInt8))) bp aX ⟨rfl,rfl⟩)
 · refine cm ?_
   obtain ⟨r3,aZ,h⟩:=ak h
   refine aY aq (xP aZ) ?_
   refine cm ?_
   refine bL h (fun br h=> ?_) fun br h=> ?_
   · refine cm ?_
     obtain rfl:=aB h
     exact aN _ _ _ bt (bE (Fr.app hfr) hcl (aT bn (.str ([]:List UInt8))) bp aX ⟨rfl,rfl⟩)
   · refine cm ?_
     obtain ⟨r4,bC,h⟩:=ak h
     refine aY aq (zA bC) ?_
     refine cm ?_
     obtain rfl:=aB h
     exact aN _ _ _ bt (bE (Fr.app hfr) hcl (aT bn (.str r4)) bp aX ⟨rfl,rfl⟩)
abbrev wC:av:=(.rg [(au 3 0),(aj 4 (.bin .rem (.t 3) (.c (.int .i64 4)))),(aj 5 (.bin .eql (.t 4) (.c (.int .i64 0)))),(au 6 5),(ax 7 (.mv (.t 0)) 6 true),(ax 8 (.bin .rem (.t 7) (.c (.int .i64 100))) 6 true),(ax 9 (.bin .neq (.t 8) (.c (.int .i64 0))) 6 true),(ax 10 (.mv (.t 9)) 6 true),(ax 11 (.mv (.t 0)) 10 false),(ax 12 (.bin .rem (.t 11) (.c (.int .i64 400))) 10 false),(ax 13 (.bin .eql (.t 12) (.c (.int .i64 0))) 10 false),(ax 14 (.pick (.t 10) (.c (.bool true)) (.t 13)) 6 true),(aj 15 (.pick (.t 6) (.t 14) (.c (.bool false)))),(aP 2 15)])
abbrev Kj:av:=(.seq (.rg [(aj 2 (.aO (.c (.bool false))))]) (.seq (.sem (erase wC)) .ret))
theorem Kk:bw Tryz.prog 116 16 [(.tmp 2)] (erase Kj):=⟨Tryz.f116,_,rfl,by decide,rfl,by kernel_rfl,rfl,rfl⟩
abbrev BO:List Nat:=[0,2]
def vH (y1:Int):Option (Bool):=
 some ((decide ((Int.tmod y1 4)=0))&&((!decide ((Int.tmod y1 100)=0))||(decide ((Int.tmod y1 400)=0))))
theorem Dd {y1:Int} {H:AH} {K:Exit→Env→AH→Prop}
 (kn:K .normal [(2,(.bool ((decide ((Int.tmod y1 4)=0))&&((!decide ((Int.tmod y1 100)=0))||(decide ((Int.tmod y1 400)=0))))))] H):
 AX Tryz.prog BO 16 H.length (erase wC) K [(0,(.int .i64 y1)),(2,(.bool false))] H:=by
 refine cB fun K' hK=> ?_
 have br:rm .i64 y1 4=some (Int.tmod y1 4):=rfl
 refine aQ br ?_
 refine om (fun bC=> ?_) fun bC=> ?_
 · have bW:rm .i64 y1 100=some (Int.tmod y1 100):=rfl
   refine aQ (aH bC bW) ?_
   refine om (fun cO=> ?_) fun cO=> ?_
   · refine aQ cO ?_
     exact hK _ _ _ _ _ (fh (aH bC cO)) aq kn
   · have cD:rm .i64 y1 400=some (Int.tmod y1 400):=rfl
     refine aQ (aH cO cD) ?_
     exact hK _ _ _ _ _ (fh (aH bC cO)) aq kn
 · refine aQ bC ?_
   exact hK _ _ _ _ _ (fh bC) aq kn
theorem zC {y1:Int} {H0:AH} {aJ:Bool} (h:vH y1=some aJ):
 aA Tryz.prog 116 [(.int .i64 y1)] H0 fun v H'=>v=(.bool aJ)∧H'=H0:=by
 refine eF Kk BO fun hcl K0 aN=> ?_
 rw [vH.eq_1] at h
 refine az ?_
 refine bF aq (Dd (y1:=y1) ?_)
 refine az ?_
 obtain rfl:=aB h
 exact aN _ _ _ bt (aI hcl (aT bn (.bool ((decide ((Int.tmod y1 4)=0))&&((!decide ((Int.tmod y1 100)=0))||(decide ((Int.tmod y1 400)=0)))))) bp aX ⟨rfl,rfl⟩)
abbrev wD:av:=(.rg [(au 7 1),(aj 8 (.bin .eql (.t 7) (.c (.int .i64 1)))),(au 9 8),(ax 10 (.mv (.t 0)) 9 true),(ax 11 (.call (.c (.fn 116 [])) [(.t 10)]) 9 true),(aj 12 (.pick (.t 9) (.t 11) (.c (.bool false))))])
abbrev Kl:av:=(.seq (.rg [(aj 4 (.aO (.c (.int .i64 0))))]) (.seq (.rg [(aj 6 (.build [(.int .i64 31),(.int .i64 28),(.int .i64 31),(.int .i64 30),(.int .i64 31),(.int .i64 30),(.int .i64 31),(.int .i64 31),(.int .i64 30),(.int .i64 31),(.int .i64 30),(.int .i64 31)] [])),(aj 5 (.alloc [(.int .i64 0),(.int .i64 0),(.int .i64 0),(.int .i64 0),(.int .i64 0),(.int .i64 0),(.int .i64 0),(.int .i64 0),(.int .i64 0),(.int .i64 0),(.int .i64 0),(.int .i64 0)])),(gu (.st (.t 5) (.t 6) 12))]) (.seq (.seq (.sem (erase wD)) (.cond (.t 12) (.seq (.rg [(aj 4 (.aO (.c (.int .i64 29))))]) .ret) .skip)) (.seq (.rg [(au 13 1),(aj 14 (.Ul 1 12 (.t 5) (.t 13))),(aj 15 (.ld (.t 14) none)),(aP 4 15)]) .ret))))
theorem Km:bw Tryz.prog 117 16 [(.tmp 4)] (erase Kl):=⟨Tryz.f117,_,rfl,by decide,rfl,by kernel_rfl,rfl,rfl⟩
abbrev BP:List Nat:=[0,1,4,5,12]
def nY:List Int:=[31,28,31,30,31,30,31,31,30,31,30,31]
def tO (m2:Int) (y1:Int):Option (Bool):=
 (if (decide (m2=1)) then
  (vH y1).bind fun r4=>some r4
 else
  some false)
def vI (y1:Int) (m2:Int):Option (Int):=
 (tO m2 y1).bind fun t6=>
 (if t6 then
  some 29
 else
  (Bw 12 m2).bind fun j7=>(nY[j7]?).bind fun x8=>some x8)
theorem De {m2:Int} {y1:Int} {q3:Nat} {H0 H:AH} (hfr:Fr H0 H0.length [] H) (ai:H[q3]? =some (ml (rY .i64) nY)) (hi0:H0.length≤q3) {K:Exit→Env→AH→Prop} {t5:Bool}
 (h:tO m2 y1=some t5)
 (kn:∀H':AH,Fr H0 H0.length [] H'→H'[q3]? =some (ml (rY .i64) nY)→K .normal [(1,(.int .i64 m2)),(5,(.ptr q3 0)),(12,(.bool t5))] H'):
 AX Tryz.prog BP 16 H0.length (erase wD) K [(0,(.int .i64 y1)),(1,(.int .i64 m2)),(5,(.ptr q3 0))] H:=by
 refine cB fun K' hK=> ?_
 have hle:=hfr.le
 have aW:=aV ai
 rw [tO.eq_1] at h
 refine aG ai ?_
 refine bZ h (fun hy1 h=> ?_) fun hy1 h=> ?_
 · refine aG (aH hy1 ai) ?_
   obtain ⟨r4,aS,h⟩:=ak h
   refine aY aq (zC aS) ?_
   refine aG ai ?_
   obtain rfl:=aB h
   exact hK _ _ _ _ _ aK aq (kn _ hfr (ai.trans rfl))
 · refine aG (aH hy1 ai) ?_
   obtain rfl:=aB h
   exact hK _ _ _ _ _ aK aq (kn _ hfr (ai.trans rfl))
theorem zD {y1:Int} {m2:Int} {H0:AH} {aJ:Int} (h:vI y1 m2=some aJ):
 aA Tryz.prog 117 [(.int .i64 y1),(.int .i64 m2)] H0 fun v H'=>v=(.int .i64 aJ)∧H'=H0:=by
 refine mD Km BP [] fun hcl K0 aN H hH hfr=> ?_
 clear hH
 have hle:=hfr.le
 rw [vI.eq_1] at h
 refine cm ?_
 obtain ⟨q3,F4⟩:∃q:Nat,H.length=q:=⟨_,rfl⟩
 try rw [F4]
 obtain ⟨t6,aZ,h⟩:=ak h
 refine bF aq (De (q3:=q3) (cE _ (Fr.app hfr)) dK dG aZ ?_)
 intro H hfr ai
 have hle:=hfr.le
 have aW:=aV ai
 refine aG ai ?_
 refine bL h (fun br h=> ?_) fun br h=> ?_
 · refine aG ai ?_
   obtain rfl:=aB h
   exact aN _ _ _ bt (bE hfr hcl (aT bn (.int .i64 29)) bp aX ⟨rfl,rfl⟩)
 · obtain ⟨j7,bC,h⟩:=ak h
   obtain ⟨x8,bW,h⟩:=ak h
   have cO:=yD (f:=(rY .i64)) bW
   refine aG (aH bC (aH cO ai)) ?_
   obtain rfl:=aB h
   exact aN _ _ _ bt (bE hfr hcl (aT bn (.int .i64 x8)) bp aX ⟨rfl,rfl⟩)
abbrev wE:av:=(.cond (.t 7) (.rg [(au 8 5),(aj 9 (.bin .add (.t 8) (.c (.int .i64 1)))),(aP 5 9)]) .skip)
abbrev uG:av:=(.blk 1 (.seq (.rg [(aj 5 (.aO (.c (.int .i64 365))))]) (.seq (.seq (.rg [(au 6 2),(aj 7 (.call (.c (.fn 116 [])) [(.t 6)]))]) (.sem (erase wE))) (.seq (.seq (.rg [(au 10 0),(au 11 5),(aj 12 (.bin .lss (.t 10) (.t 11)))]) (.cond (.t 12) (.exit 0) .skip)) (.seq (.rg [(au 13 0),(au 14 5),(aj 15 (.bin .sub (.t 13) (.t 14))),(aP 0 15)]) (.rg [(au 16 2),(aj 17 (.bin .add (.t 16) (.c (.int .i64 1)))),(aP 2 17)]))))))
abbrev uH:av:=(.seq (.seq (.rg [(au 18 0),(au 19 2),(au 20 3),(aj 21 (.call (.c (.fn 117 [])) [(.t 19),(.t 20)])),(aj 22 (.bin .geq (.t 18) (.t 21)))]) (.cond (.t 22) .skip (.exit 2))) (.blk 3 (.seq (.rg [(au 23 0),(au 24 2),(au 25 3),(aj 26 (.call (.c (.fn 117 [])) [(.t 24),(.t 25)])),(aj 27 (.bin .sub (.t 23) (.t 26))),(aP 0 27)]) (.rg [(au 28 3),(aj 29 (.bin .add (.t 28) (.c (.int .i64 1)))),(aP 3 29)]))))
abbrev Kn:av:=(.seq (.rg [(aj 2 (.aO (.c (.int .i64 0)))),(aj 3 (.aO (.c (.int .i64 0)))),(aj 4 (.aO (.c (.int .i64 0))))]) (.seq (.rg [(aj 2 (.aO (.c (.int .i64 1970))))]) (.seq .skip (.seq (.blk 0 (.loop (erase uG))) (.seq (.blk 2 (.loop (erase uH))) (.seq (.rg [(au 30 2),(au 31 3),(au 32 0),(aj 33 (.bin .add (.t 32) (.c (.int .i64 1)))),(aP 2 30),(aP 3 31),(aP 4 33)]) .ret))))))
theorem Ko:bw Tryz.prog 77 34 [(.tmp 2),(.tmp 3),(.tmp 4)] (erase Kn):=⟨Tryz.f77,_,rfl,by decide,rfl,by kernel_rfl,rfl,rfl⟩
abbrev pN:List Nat:=[0,2,3,4,5,7,12,22]
def tP (r4:Bool):Option (Int):=
 (if r4 then
  some (IntKind.wrap .i64 (365+1))
 else
  some 365)
def tQ:(Int×Int)→Option (St (Int×Int×Int) (Int×Int) (Int×Int))
 |(lU,y3)=>
  (vH y3).bind fun r4=>
  (tP r4).bind fun Xz=>
  (if (decide (lU<Xz)) then
   some (.eC (lU,y3))
  else
   some (.cv ((IntKind.wrap .i64 (lU - Xz)),(IntKind.wrap .i64 (y3+1)))))
def tR (Es:Int):(Int×Int)→Option (St (Int×Int×Int) (Int×Int) (Int×Int))
 |(uI,m12)=>
  (vI Es m12).bind fun lB=>
  (if (decide (lB≤uI)) then
   (vI Es m12).bind fun gM=>
   some (.cv ((IntKind.wrap .i64 (uI - gM)),(IntKind.wrap .i64 (m12+1))))
  else
   some (.eC (uI,m12)))
def z8 (F:Nat) (ox:Int):Option (Int×Int×Int):=
 ((iter tQ F (ox,1970)).bind fun o20=>
 match o20 with
 | .inr (TJ,Es)=>
   ((iter (tR Es) F (TJ,0)).bind fun XA=>
   match XA with
   | .inr (XB,m18)=>
     some (Es,m18,(IntKind.wrap .i64 (XB+1)))
   | .inl _=>none)
 | .inl _=>none)
theorem Df {r4:Bool} {lU:Int} {y3:Int} {H:AH} {K:Exit→Env→AH→Prop} {aaQ:Int}
 (h:tP r4=some aaQ)
 (kn:K .normal [(0,(.int .i64 lU)),(2,(.int .i64 y3)),(3,(.int .i64 0)),(5,(.int .i64 aaQ))] H):
 AX Tryz.prog pN 34 H.length (erase wE) K [(0,(.int .i64 lU)),(2,(.int .i64 y3)),(3,(.int .i64 0)),(5,(.int .i64 365)),(7,(.bool r4))] H:=by
 refine cB fun K' hK=> ?_
 rw [tP.eq_1] at h
 refine az ?_
 refine bL h (fun aS h=> ?_) fun aS h=> ?_
 · refine az ?_
   obtain rfl:=aB h
   exact hK _ _ _ _ _ aK aq kn
 · refine az ?_
   obtain rfl:=aB h
   exact hK _ _ _ _ _ aK aq kn
theorem Dg {F:Nat} {y3:Int} {lU:Int} {H:AH} {K:Exit→Env→AH→Prop} {o:(Int×Int×Int)⊕(Int×Int)}
 (h:iter tQ F (lU,y3)=some o)
 (dw:∀o':Int×Int,o= .inr o'→K (.exit 0) [(0,(.int .i64 o'.1)),(2,(.int .i64 o'.2)),(3,(.int .i64 0))] H):
 AX Tryz.prog pN 34 H.length (.loop (erase uG)) K [(0,(.int .i64 lU)),(2,(.int .i64 y3)),(3,(.int .i64 0))] H:=by
 refine gY (fun s e H1=>match s with|(lU,y3)=>e=[(0,(.int .i64 lU)),(2,(.int .i64 y3)),(3,(.int .i64 0))]∧H1=H) h ⟨rfl,rfl⟩ ?_
 rintro K' ⟨lU,y3⟩ st e H ⟨rfl,rfl⟩ h hN hB hR hX
 rw [tQ.eq_1] at h
 refine az ?_
 obtain ⟨r4,hy1,h⟩:=ak h
 refine aY aq (zC hy1) ?_
 refine az ?_
 obtain ⟨Xz,aZ,h⟩:=ak h
 refine bF aq (Df (lU:=lU) (y3:=y3) aZ ?_)
 refine az ?_
 refine bL h (fun br h=> ?_) fun br h=> ?_
 · refine az ?_
   obtain rfl:=aB h
   exact hX _ _ _ _ _ dI aK aq (dw _ (hB _ rfl))
 · refine az ?_
   obtain rfl:=aB h
   exact hN _ rfl _ _ _ _ aK aq ⟨rfl,rfl⟩
theorem Dh {F:Nat} {Es:Int} {m12:Int} {uI:Int} {H:AH} {K:Exit→Env→AH→Prop} {o:(Int×Int×Int)⊕(Int×Int)}
 (h:iter (tR Es) F (uI,m12)=some o)
 (PO:∀o':Int×Int,o= .inr o'→K (.exit 2) [(0,(.int .i64 o'.1)),(2,(.int .i64 Es)),(3,(.int .i64 o'.2))] H):
 AX Tryz.prog pN 34 H.length (.loop (erase uH)) K [(0,(.int .i64 uI)),(2,(.int .i64 Es)),(3,(.int .i64 m12))] H:=by
 refine gY (fun s e H1=>match s with|(uI,m12)=>e=[(0,(.int .i64 uI)),(2,(.int .i64 Es)),(3,(.int .i64 m12))]∧H1=H) h ⟨rfl,rfl⟩ ?_
 rintro K' ⟨uI,m12⟩ st e H ⟨rfl,rfl⟩ h hN hB hR hX
 rw [tR.eq_1] at h
 refine az ?_
 obtain ⟨lB,bW,h⟩:=ak h
 refine aY aq (zD bW) ?_
 refine az ?_
 refine bL h (fun cO h=> ?_) fun cO h=> ?_
 · refine az ?_
   obtain ⟨gM,cD,h⟩:=ak h
   refine aY aq (zD cD) ?_
   refine az ?_
   obtain rfl:=aB h
   exact hN _ rfl _ _ _ _ aK aq ⟨rfl,rfl⟩
 · refine az ?_
   obtain rfl:=aB h
   exact hX _ _ _ _ _ dI aK aq (PO _ (hB _ rfl))
theorem HO {F:Nat} {ox:Int} {H0:AH} {aJ:Int} {eS:Int} {FQ:Int} (h:z8 F ox=some (aJ,eS,FQ)):
 aA Tryz.prog 77 [(.int .i64 ox)] H0 fun v H'=>v=(.bz [(.int .i64 aJ),(.int .i64 eS),(.int .i64 FQ)])∧H'=H0:=by
 refine eF Ko pN fun hcl K0 aN=> ?_
 rw [z8.eq_1] at h
 refine az ?_
 obtain ⟨o20,bC,h⟩:=ak h
 refine bF aq (Dg bC ?_)
 · rintro ⟨TJ,Es⟩ rfl
   try dsimp only at h
   refine az ?_
   obtain ⟨XA,dA,h⟩:=ak h
   refine bF aq (Dh dA ?_)
   · rintro ⟨XB,m18⟩ rfl
     try dsimp only at h
     refine az ?_
     obtain ⟨rfl,rfl,rfl⟩:=rZ h
     exact aN _ _ _ bt (aI hcl (aT (aT (aT bn (.int .i64 (IntKind.wrap .i64 (XB+1)))) (.int .i64 m18)) (.int .i64 Es)) bp aX ⟨rfl,rfl⟩)
abbrev MH:av:=(.seq (.rg [(aj 2 (.aO (.c (.str []))))]) (.seq (.rg [(au 3 0),(aj 4 (.bin .quo (.t 3) (.c (.int .i64 10)))),(aj 5 (.call (.c (.fn 38 [])) [(.t 4)])),(au 6 0),(aj 7 (.bin .rem (.t 6) (.c (.int .i64 10)))),(aj 8 (.call (.c (.fn 38 [])) [(.t 7)])),(aj 9 (.bin .add (.t 5) (.t 8))),(aP 2 9)]) .ret))
theorem MI:bw Tryz.prog 78 10 [(.tmp 2)] (erase MH):=⟨Tryz.f78,_,rfl,by decide,rfl,by kernel_rfl,rfl,rfl⟩
abbrev MJ:List Nat:=[0,2]
def mb (ox:Int):Option ((List UInt8)):=
 (strconv_Itoa (IntKind.wrap .i64 (Int.tdiv ox 10))).bind fun r2=>
 (strconv_Itoa (Int.tmod ox 10)).bind fun r3=>(cat r2 r3).bind fun x4=>some x4
theorem ku {ox:Int} {H0:AH} {aJ:List UInt8} (h:mb ox=some aJ):
 aA Tryz.prog 78 [(.int .i64 ox)] H0 fun v H'=>v=(.str aJ)∧H'=H0:=by
 refine eF MI MJ fun hcl K0 aN=> ?_
 rw [mb.eq_1] at h
 have hy1:dv .i64 ox 10=some (IntKind.wrap .i64 (Int.tdiv ox 10)):=rfl
 refine aQ hy1 ?_
 obtain ⟨r2,aS,h⟩:=ak h
 refine aY aq (gZ (i1:=(IntKind.wrap .i64 (Int.tdiv ox 10))) aS) ?_
 refine az ?_
 have aZ:rm .i64 ox 10=some (Int.tmod ox 10):=rfl
 refine aQ aZ ?_
 obtain ⟨r3,br,h⟩:=ak h
 refine aY aq (gZ (i1:=(Int.tmod ox 10)) br) ?_
 refine az ?_
 obtain ⟨x4,bC,h⟩:=ak h
 refine aQ bC ?_
 obtain rfl:=aB h
 exact aN _ _ _ bt (aI hcl (aT bn (.str x4)) bp aX ⟨rfl,rfl⟩)
abbrev Kp:av:=(.seq (.rg [(aj 2 (.aO (.c (.str []))))]) (.seq (.rg [(au 3 0),(aj 4 (.bin .quo (.t 3) (.c (.int .i64 100)))),(aj 5 (.call (.c (.fn 78 [])) [(.t 4)])),(au 6 0),(aj 7 (.bin .rem (.t 6) (.c (.int .i64 100)))),(aj 8 (.call (.c (.fn 78 [])) [(.t 7)])),(aj 9 (.bin .add (.t 5) (.t 8))),(aP 2 9)]) .ret))
theorem Kq:bw Tryz.prog 79 10 [(.tmp 2)] (erase Kp):=⟨Tryz.f79,_,rfl,by decide,rfl,by kernel_rfl,rfl,rfl⟩
abbrev Kr:List Nat:=[0,2]
def Aa (ox:Int):Option ((List UInt8)):=
 (mb (IntKind.wrap .i64 (Int.tdiv ox 100))).bind fun r2=>
 (mb (Int.tmod ox 100)).bind fun r3=>(cat r2 r3).bind fun x4=>some x4
theorem HP {ox:Int} {H0:AH} {aJ:List UInt8} (h:Aa ox=some aJ):
 aA Tryz.prog 79 [(.int .i64 ox)] H0 fun v H'=>v=(.str aJ)∧H'=H0:=by
 refine eF Kq Kr fun hcl K0 aN=> ?_
 rw [Aa.eq_1] at h
 have hy1:dv .i64 ox 100=some (IntKind.wrap .i64 (Int.tdiv ox 100)):=rfl
 refine aQ hy1 ?_
 obtain ⟨r2,aS,h⟩:=ak h
 refine aY aq (ku aS) ?_
 refine az ?_
 have aZ:rm .i64 ox 100=some (Int.tmod ox 100):=rfl
 refine aQ aZ ?_
 obtain ⟨r3,br,h⟩:=ak h
 refine aY aq (ku br) ?_
 refine az ?_
 obtain ⟨x4,bC,h⟩:=ak h
 refine aQ bC ?_
 obtain rfl:=aB h
 exact aN _ _ _ bt (aI hcl (aT bn (.str x4)) bp aX ⟨rfl,rfl⟩)
abbrev Ks:av:=(.seq (.rg [(aj 2 (.aO (.c (.str []))))]) (.seq (.rg [(au 9 0),(aj 10 (.mm true (.t 9) (.c (.int .i64 0)))),(aj 11 (.mm false (.t 10) (.c (.int .i64 253402300799)))),(aP 0 11)]) (.seq (.rg [(au 12 0),(aj 13 (.bin .quo (.t 12) (.c (.int .i64 86400)))),(au 14 0),(aj 15 (.bin .rem (.t 14) (.c (.int .i64 86400)))),(aP 3 13),(aP 4 15)]) (.seq (.rg [(au 17 3),(aj 18 (.call (.c (.fn 77 [])) [(.t 17)])),(au 16 18),(aj 19 (.ext (.t 16) 0)),(aj 20 (.ext (.t 16) 1)),(aj 21 (.ext (.t 16) 2)),(aP 5 19),(aP 6 20),(aP 7 21)]) (.seq (.rg [(au 22 3),(aj 23 (.bin .rem (.t 22) (.c (.int .i64 7)))),(aP 8 23)]) (.seq (.rg ((au 24 8)::(aj 25 (.bin .mul (.c (.int .i64 3)) (.t 24)))::(au 26 8)::(aj 27 (.bin .mul (.c (.int .i64 3)) (.t 26)))::(aj 28 (.bin .add (.t 27) (.c (.int .i64 3))))::(aj 29 (.mh (.c (.str [84,104,117,70,114,105,83,97,116,83,117,110,77,111,110,84,117,101,87,101,100])) (some (.t 25)) (some (.t 28))))::(aj 30 (.bin .add (.t 29) (.c (.str [44,32]))))::(au 31 7)::(au 35 6)::(aj 36 (.bin .mul (.c (.int .i64 3)) (.t 35)))::(au 37 6)::(aj 38 (.bin .mul (.c (.int .i64 3)) (.t 37)))::(aj 39 (.bin .add (.t 38) (.c (.int .i64 3))))::(aj 40 (.mh (.c (.str (74::97::110::70::101::98::77::97::114::65::112::114::77::97::121::74::117::110::74::117::108::65::117::103::83::101::112::79::99::116::78::111::118::68::101::99::[]))) (some (.t 36)) (some (.t 39))))::(au 43 5)::(au 47 4)::(aj 48 (.bin .quo (.t 47) (.c (.int .i64 3600))))::(au 52 4)::(aj 53 (.bin .quo (.t 52) (.c (.int .i64 60))))::(aj 54 (.bin .rem (.t 53) (.c (.int .i64 60))))::(au 58 4)::(aj 59 (.bin .rem (.t 58) (.c (.int .i64 60))))::(aj 32 (.call (.c (.fn 78 [])) [(.t 31)]))::(aj 33 (.bin .add (.t 30) (.t 32)))::(aj 34 (.bin .add (.t 33) (.c (.str [32]))))::(aj 41 (.bin .add (.t 34) (.t 40)))::(aj 42 (.bin .add (.t 41) (.c (.str [32]))))::(aj 44 (.call (.c (.fn 79 [])) [(.t 43)]))::(aj 45 (.bin .add (.t 42) (.t 44)))::(aj 46 (.bin .add (.t 45) (.c (.str [32]))))::(aj 49 (.call (.c (.fn 78 [])) [(.t 48)]))::(aj 50 (.bin .add (.t 46) (.t 49)))::(aj 51 (.bin .add (.t 50) (.c (.str [58]))))::(aj 55 (.call (.c (.fn 78 [])) [(.t 54)]))::(aj 56 (.bin .add (.t 51) (.t 55)))::(aj 57 (.bin .add (.t 56) (.c (.str [58]))))::(aj 60 (.call (.c (.fn 78 [])) [(.t 59)]))::(aj 61 (.bin .add (.t 57) (.t 60)))::(aj 62 (.bin .add (.t 61) (.c (.str [32,43,48,48,48,48]))))::(aP 2 62)::[])) .ret))))))
theorem Kt:bw Tryz.prog 37 63 [(.tmp 2)] (erase Ks):=⟨Tryz.f37,_,rfl,by decide,rfl,by kernel_rfl,rfl,rfl⟩
abbrev Ku:List Nat:=[0,2,3,4,5,6,7,8]
def Ab (F:Nat) (t1:Int):Option ((List UInt8)):=
 (z8 F (IntKind.wrap .i64 (Int.tdiv (min (max t1 0) 253402300799) 86400))).bind fun (r2,r3,r4)=>
 (sub ([84,104,117,70,114,105,83,97,116,83,117,110,77,111,110,84,117,101,87,101,100]:List UInt8) (IntKind.wrap .i64 (3*(Int.tmod (IntKind.wrap .i64 (Int.tdiv (min (max t1 0) 253402300799) 86400)) 7))) (IntKind.wrap .i64 ((IntKind.wrap .i64 (3*(Int.tmod (IntKind.wrap .i64 (Int.tdiv (min (max t1 0) 253402300799) 86400)) 7)))+3))).bind fun x5=>
 (cat x5 ([44,32]:List UInt8)).bind fun x6=>
 (sub ((74::97::110::70::101::98::77::97::114::65::112::114::77::97::121::74::117::110::74::117::108::65::117::103::83::101::112::79::99::116::78::111::118::68::101::99::[]):List UInt8) (IntKind.wrap .i64 (3*r3)) (IntKind.wrap .i64 ((IntKind.wrap .i64 (3*r3))+3))).bind fun x7=>
 (mb r4).bind fun r8=>
 (cat x6 r8).bind fun x9=>
 (cat x9 ([32]:List UInt8)).bind fun iY=>
 (cat iY x7).bind fun fj=>
 (cat fj ([32]:List UInt8)).bind fun nV=>
 (Aa r2).bind fun lB=>
 (cat nV lB).bind fun TI=>
 (cat TI ([32]:List UInt8)).bind fun mK=>
 (mb (IntKind.wrap .i64 (Int.tdiv (Int.tmod (min (max t1 0) 253402300799) 86400) 3600))).bind fun r16=>
 (cat mK r16).bind fun kU=>
 (cat kU ([58]:List UInt8)).bind fun Ep=>
 (mb (Int.tmod (IntKind.wrap .i64 (Int.tdiv (Int.tmod (min (max t1 0) 253402300799) 86400) 60)) 60)).bind fun F5=>
 (cat Ep F5).bind fun lT=>
 (cat lT ([58]:List UInt8)).bind fun yR=>
 (mb (Int.tmod (Int.tmod (min (max t1 0) 253402300799) 86400) 60)).bind fun r22=>
 (cat yR r22).bind fun F3=>
 (cat F3 ([32,43,48,48,48,48]:List UInt8)).bind fun Er=>some Er
theorem HQ {F:Nat} {t1:Int} {H0:AH} {aJ:List UInt8} (h:Ab F t1=some aJ):
 aA Tryz.prog 37 [(.int .i64 t1)] H0 fun v H'=>v=(.str aJ)∧H'=H0:=by
 refine eF Kt Ku fun hcl K0 aN=> ?_
 rw [Ab.eq_1] at h
 have hy1:dv .i64 (min (max t1 0) 253402300799) 86400=some (IntKind.wrap .i64 (Int.tdiv (min (max t1 0) 253402300799) 86400)):=rfl
 have aS:rm .i64 (min (max t1 0) 253402300799) 86400=some (Int.tmod (min (max t1 0) 253402300799) 86400):=rfl
 refine aQ (aH hy1 aS) ?_
 obtain ⟨⟨r2,r3,r4⟩,aZ,h⟩:=ak h
 dsimp only at h
 refine aY aq (HO aZ) ?_
 refine az ?_
 have br:rm .i64 (IntKind.wrap .i64 (Int.tdiv (min (max t1 0) 253402300799) 86400)) 7=some (Int.tmod (IntKind.wrap .i64 (Int.tdiv (min (max t1 0) 253402300799) 86400)) 7):=rfl
 obtain ⟨x5,bC,h⟩:=ak h
 obtain ⟨x6,bW,h⟩:=ak h
 obtain ⟨x7,cO,h⟩:=ak h
 have cD:dv .i64 (Int.tmod (min (max t1 0) 253402300799) 86400) 3600=some (IntKind.wrap .i64 (Int.tdiv (Int.tmod (min (max t1 0) 253402300799) 86400) 3600)):=rfl
 have dA:dv .i64 (Int.tmod (min (max t1 0) 253402300799) 86400) 60=some (IntKind.wrap .i64 (Int.tdiv (Int.tmod (min (max t1 0) 253402300799) 86400) 60)):=rfl
 have cJ:rm .i64 (IntKind.wrap .i64 (Int.tdiv (Int.tmod (min (max t1 0) 253402300799) 86400) 60)) 60=some (Int.tmod (IntKind.wrap .i64 (Int.tdiv (Int.tmod (min (max t1 0) 253402300799) 86400) 60)) 60):=rfl
 have cG:rm .i64 (Int.tmod (min (max t1 0) 253402300799) 86400) 60=some (Int.tmod (Int.tmod (min (max t1 0) 253402300799) 86400) 60):=rfl
 refine aQ (aH br (aH bC (aH bW (aH cO (aH cD (aH dA (aH cJ cG))))))) ?_
 obtain ⟨r8,cS,h⟩:=ak h
 refine aY aq (ku cS) ?_
 refine az ?_
 obtain ⟨x9,cW,h⟩:=ak h
 obtain ⟨iY,eT,h⟩:=ak h
 obtain ⟨fj,gh,h⟩:=ak h
 obtain ⟨nV,gx,h⟩:=ak h
 refine aQ (aH cW (aH eT (aH gh gx))) ?_
 obtain ⟨lB,lu,h⟩:=ak h
 refine aY aq (HP lu) ?_
 refine az ?_
 obtain ⟨TI,jD,h⟩:=ak h
 obtain ⟨mK,jQ,h⟩:=ak h
 refine aQ (aH jD jQ) ?_
 obtain ⟨r16,lz,h⟩:=ak h
 refine aY aq (ku lz) ?_
 refine az ?_
 obtain ⟨kU,ig,h⟩:=ak h
 obtain ⟨Ep,lA,h⟩:=ak h
 refine aQ (aH ig lA) ?_
 obtain ⟨F5,mI,h⟩:=ak h
 refine aY aq (ku mI) ?_
 refine az ?_
 obtain ⟨lT,iD,h⟩:=ak h
 obtain ⟨yR,jR,h⟩:=ak h
 refine aQ (aH iD jR) ?_
 obtain ⟨r22,ow,h⟩:=ak h
 refine aY aq (ku ow) ?_
 refine az ?_
 obtain ⟨F3,uJ,h⟩:=ak h
 obtain ⟨Er,xR,h⟩:=ak h
 refine aQ (aH uJ xR) ?_
 obtain rfl:=aB h
 exact aN _ _ _ bt (aI hcl (aT bn (.str Er)) bp aX ⟨rfl,rfl⟩)
abbrev Di:av:=(.seq (.rg [(aj 2 (.aO (.c (.str []))))]) (.seq (.rg [(au 3 0),(aj 4 (.call (.c (.fn 74 [])) [(.t 3),(.c (.str [13,10]))])),(aj 5 (.bin .add (.t 4) (.c (.str [13,10])))),(aP 2 5)]) .ret))
theorem Dj:bw Tryz.prog 35 6 [(.tmp 2)] (erase Di):=⟨Tryz.f35,_,rfl,by decide,rfl,by kernel_rfl,rfl,rfl⟩
abbrev Dk:List Nat:=[0,2]
def qp (l1:List (List UInt8)):Option ((List UInt8)):=
 (strings_Join l1 ([13,10]:List UInt8)).bind fun r2=>(cat r2 ([13,10]:List UInt8)).bind fun x3=>some x3
theorem BQ {l1:List (List UInt8)} {H0:AH} {aJ:List UInt8} (h:qp l1=some aJ):
 aA Tryz.prog 35 [(.sl .n 1 (ml AV.str l1))] H0 fun v H'=>v=(.str aJ)∧H'=H0:=by
 refine eF Dj Dk fun hcl K0 aN=> ?_
 rw [qp.eq_1] at h
 refine az ?_
 obtain ⟨r2,hy1,h⟩:=ak h
 refine aY aq (CS (s1:=l1) (s2:=([13,10]:List UInt8)) hy1) ?_
 refine az ?_
 obtain ⟨x3,aS,h⟩:=ak h
 refine aQ aS ?_
 obtain rfl:=aB h
 exact aN _ _ _ bt (aI hcl (aT bn (.str x3)) bp aX ⟨rfl,rfl⟩)
abbrev yS:av:=(.rg [(au 3 0),(aj 4 (.call (.c (.fn 35 [])) [(.t 3)])),(aj 5 (.call (.c (.fn 34 [])) [(.t 1),(.t 4)]))])
theorem yT:bw Tryz.prog 33 6 [] (erase yS):=⟨Tryz.f33,_,rfl,by decide,rfl,by kernel_rfl,rfl,rfl⟩
abbrev yU:List Nat:=[0,1]
def dx (l1:List (List UInt8)) (v3:List UInt8):Option ((List UInt8)):=
 (qp l1).bind fun r4=>
 (dW v3 r4).bind fun (r5,r6,r7)=>some r7
theorem dF {l1:List (List UInt8)} {v3:List UInt8} {q2:Nat} {H0:AH} (ai:H0[q2]? =some [(.dy 76),(.dn 5 v3)]) {aJ:List UInt8} (h:dx l1 v3=some aJ):
 aA Tryz.prog 33 [(.sl .n 1 (ml AV.str l1)),(.ptr q2 0)] H0 fun v H'=>v=(.bz [])∧H'=(H0.set q2 [(.dy 76),(.dn 5 aJ)]):=by
 have aW:=aV ai
 refine mD yT yU [q2] fun hcl K0 aN H hH hfr=> ?_
 rw [←hH] at ai
 clear hH
 have hle:=hfr.le
 have Dl:=aV ai
 rw [dx.eq_1] at h
 refine aG ai ?_
 obtain ⟨r4,hy1,h⟩:=ak h
 refine aY aq (BQ hy1) ?_
 refine aG ai ?_
 obtain ⟨⟨r5,r6,r7⟩,aS,h⟩:=ak h
 dsimp only at h
 refine aY aq (gQ (b2:=v3) (s3:=r4) (q1:=q2) (ai.trans rfl) aS) ?_
 refine aG ai ?_
 obtain rfl:=aB h
 exact aN _ _ _ Z6 (jK (cE _ hfr) hcl bn bp aX dK dG FK CN ⟨rfl,rfl⟩)
abbrev sx:av:=(.rg [(au 3 0),(aj 4 (.bin .lss (.t 3) (.c (.int .i64 200)))),(au 5 4),(ax 6 (.mv (.t 0)) 5 false),(ax 7 (.bin .gtr (.t 6) (.c (.int .i64 599))) 5 false),(aj 8 (.pick (.t 5) (.c (.bool true)) (.t 7)))])
abbrev F6:av:=(.seq (.rg [(aj 2 (.aO (.c (.int .i64 0))))]) (.seq (.seq (.sem (erase sx)) (.cond (.t 8) (.seq (.rg [(aj 2 (.aO (.c (.int .i64 0))))]) .ret) .skip)) (.seq (.rg [(au 9 0),(aj 10 (.bin .quo (.t 9) (.c (.int .i64 100)))),(aP 2 10)]) .ret)))
theorem F7:bw Tryz.prog 59 11 [(.tmp 2)] (erase F6):=⟨Tryz.f59,_,rfl,by decide,rfl,by kernel_rfl,rfl,rfl⟩
abbrev xS:List Nat:=[0,2,8]
def vJ (gN:Int):Option (Int):=
 (if ((decide (gN<200))||(decide (599<gN))) then
  some 0
 else
  some (IntKind.wrap .i64 (Int.tdiv gN 100)))
theorem Ac {gN:Int} {H:AH} {K:Exit→Env→AH→Prop}
 (kn:K .normal [(0,(.int .i64 gN)),(8,(.bool ((decide (gN<200))||(decide (599<gN)))))] H):
 AX Tryz.prog xS 11 H.length (erase sx) K [(0,(.int .i64 gN))] H:=by
 refine cB fun K' hK=> ?_
 refine az ?_
 refine om (fun hy1=> ?_) fun hy1=> ?_
 · refine aQ hy1 ?_
   exact hK _ _ _ _ _ (fh hy1) aq kn
 · refine aQ hy1 ?_
   exact hK _ _ _ _ _ (fh hy1) aq kn
theorem Et {gN:Int} {H0:AH} {aJ:Int} (h:vJ gN=some aJ):
 aA Tryz.prog 59 [(.int .i64 gN)] H0 fun v H'=>v=(.int .i64 aJ)∧H'=H0:=by
 refine eF F7 xS fun hcl K0 aN=> ?_
 rw [vJ.eq_1] at h
 refine az ?_
 refine bF aq (Ac (gN:=gN) ?_)
 refine az ?_
 refine bL h (fun aS h=> ?_) fun aS h=> ?_
 · refine az ?_
   obtain rfl:=aB h
   exact aN _ _ _ bt (aI hcl (aT bn (.int .i64 0)) bp aX ⟨rfl,rfl⟩)
 · have aZ:dv .i64 gN 100=some (IntKind.wrap .i64 (Int.tdiv gN 100)):=rfl
   refine aQ aZ ?_
   obtain rfl:=aB h
   exact aN _ _ _ bt (aI hcl (aT bn (.int .i64 (IntKind.wrap .i64 (Int.tdiv gN 100)))) bp aX ⟨rfl,rfl⟩)
abbrev Dm:av:=(.seq (.rg [(aj 2 (.aO (.c (.str []))))]) (.seq (.seq (.rg [(au 4 0),(aj 5 (.call (.c (.fn 59 [])) [(.t 4)])),(aP 3 5)]) (.seq (.rg [(au 6 3),(aj 7 (.bin .gtr (.t 6) (.c (.int .i64 0))))]) (.cond (.t 7) (.seq (.rg [(au 8 3),(aj 9 (.call (.c (.fn 38 [])) [(.t 8)])),(aj 10 (.bin .add (.t 9) (.c (.str [46,48,46,48])))),(aP 2 10)]) .ret) .skip))) (.seq (.rg [(aj 2 (.aO (.c (.str [52,46,52,46,55]))))]) .ret)))
theorem Dn:bw Tryz.prog 19 11 [(.tmp 2)] (erase Dm):=⟨Tryz.f19,_,rfl,by decide,rfl,by kernel_rfl,rfl,rfl⟩
abbrev Dp:List Nat:=[0,2,3,7]
def jS (gN:Int):Option ((List UInt8)):=
 (vJ gN).bind fun r2=>
 (if (decide (0<r2)) then
  (strconv_Itoa r2).bind fun r3=>
  (cat r3 ([46,48,46,48]:List UInt8)).bind fun x4=>some x4
 else
  some ([52,46,52,46,55]:List UInt8))
theorem mL {gN:Int} {H0:AH} {aJ:List UInt8} (h:jS gN=some aJ):
 aA Tryz.prog 19 [(.int .i64 gN)] H0 fun v H'=>v=(.str aJ)∧H'=H0:=by
 refine eF Dn Dp fun hcl K0 aN=> ?_
 rw [jS.eq_1] at h
 refine az ?_
 obtain ⟨r2,hy1,h⟩:=ak h
 refine aY aq (Et hy1) ?_
 refine az ?_
 refine bL h (fun aS h=> ?_) fun aS h=> ?_
 · refine az ?_
   obtain ⟨r3,aZ,h⟩:=ak h
   refine aY aq (gZ (i1:=r2) aZ) ?_
   refine az ?_
   obtain ⟨x4,br,h⟩:=ak h
   refine aQ br ?_
   obtain rfl:=aB h
   exact aN _ _ _ bt (aI hcl (aT bn (.str x4)) bp aX ⟨rfl,rfl⟩)
 · refine az ?_
   obtain rfl:=aB h
   exact aN _ _ _ bt (aI hcl (aT bn (.str ([52,46,52,46,55]:List UInt8))) bp aX ⟨rfl,rfl⟩)
abbrev F8:av:=(.seq (.rg [(aj 4 (.aO (.c (.bool false))))]) (.seq (.rg [(au 5 0),(aj 6 (.iS .bs (.t 5))),(au 7 1),(aj 8 (.iS .bs (.t 7))),(aj 9 (.bin .eql (.t 6) (.t 8))),(aP 4 9)]) .ret))
theorem F9:bw Tryz.prog 125 10 [(.tmp 4)] (erase F8):=⟨Tryz.f125,_,rfl,by decide,rfl,by kernel_rfl,rfl,rfl⟩
abbrev Ga:List Nat:=[0,1,4]
def bytes_Equal (a1:List UInt8) (b2:List UInt8):Option (Bool):=
 some (decide (a1=b2))
theorem Eu {a1:List UInt8} {b2:List UInt8} {H0:AH} {aJ:Bool} (h:bytes_Equal a1 b2=some aJ):
 aA Tryz.prog 125 [(.sl .n 1 (ml b8 a1)),(.sl .n 1 (ml b8 b2))] H0 fun v H'=>v=(.bool aJ)∧H'=H0:=by
 refine eF F9 Ga fun hcl K0 aN=> ?_
 rw [bytes_Equal.eq_1] at h
 refine az ?_
 obtain rfl:=aB h
 exact aN _ _ _ bt (aI hcl (aT bn (.bool (decide (a1=b2)))) bp aX ⟨rfl,rfl⟩)
abbrev nK:av:=(.rg [(au 5 0),(aj 6 (.len (.t 5))),(au 7 1),(aj 8 (.len (.t 7))),(aj 9 (.bin .geq (.t 6) (.t 8))),(au 10 9),(ax 11 (.mv (.t 0)) 10 true),(ax 12 (.mv (.t 0)) 10 true),(ax 13 (.len (.t 12)) 10 true),(ax 14 (.mv (.t 1)) 10 true),(ax 15 (.len (.t 14)) 10 true),(ax 16 (.bin .sub (.t 13) (.t 15)) 10 true),(ax 17 (.slc 1 (.t 11) (some (.t 16)) none none) 10 true),(ax 18 (.mv (.t 1)) 10 true),(ax 19 (.call (.c (.fn 125 [])) [(.t 17),(.t 18)]) 10 true),(aj 20 (.pick (.t 10) (.t 19) (.c (.bool false)))),(aP 4 20)])
abbrev Ad:av:=(.seq (.rg [(aj 4 (.aO (.c (.bool false))))]) (.seq (.sem (erase nK)) .ret))
theorem Ae:bw Tryz.prog 92 21 [(.tmp 4)] (erase Ad):=⟨Tryz.f92,_,rfl,by decide,rfl,by kernel_rfl,rfl,rfl⟩
abbrev qq:List Nat:=[0,1,4]
def gS (jT:List UInt8) (s1:List UInt8):Option (Bool):=
 (if (decide ((jT.length:Int)≤(s1.length:Int))) then
  (sub s1 (IntKind.wrap .i64 ((s1.length:Int) - (jT.length:Int))) (s1.length:Int)).bind fun x3=>(bytes_Equal x3 jT).bind fun r4=>some r4
 else
  some false)
def bytes_HasSuffix (s1:List UInt8) (jT:List UInt8):Option (Bool):=
 (gS jT s1).bind fun t6=>
 some t6
theorem vK {jT:List UInt8} {s1:List UInt8} {H:AH} {K:Exit→Env→AH→Prop} {t5:Bool}
 (h:gS jT s1=some t5)
 (kn:K .normal [(4,(.bool t5))] H):
 AX Tryz.prog qq 21 H.length (erase nK) K [(0,(.sl .n 1 (ml b8 s1))),(1,(.sl .n 1 (ml b8 jT))),(4,(.bool false))] H:=by
 refine cB fun K' hK=> ?_
 rw [gS.eq_1] at h
 refine az ?_
 refine bZ h (fun hy1 h=> ?_) fun hy1 h=> ?_
 · obtain ⟨x3,aS,h⟩:=ak h
   have aZ:=CM (f:=b8) aS
   refine aQ (aH hy1 aS) ?_
   obtain ⟨r4,br,h⟩:=ak h
   refine aY aq (Eu br) ?_
   refine az ?_
   obtain rfl:=aB h
   exact hK _ _ _ _ _ aK aq kn
 · refine aQ hy1 ?_
   obtain rfl:=aB h
   exact hK _ _ _ _ _ aK aq kn
theorem yV {s1:List UInt8} {jT:List UInt8} {H0:AH} {aJ:Bool} (h:bytes_HasSuffix s1 jT=some aJ):
 aA Tryz.prog 92 [(.sl .n 1 (ml b8 s1)),(.sl .n 1 (ml b8 jT))] H0 fun v H'=>v=(.bool aJ)∧H'=H0:=by
 refine eF Ae qq fun hcl K0 aN=> ?_
 rw [bytes_HasSuffix.eq_1] at h
 refine az ?_
 obtain ⟨t6,bC,h⟩:=ak h
 refine bF aq (vK bC ?_)
 refine az ?_
 obtain rfl:=aB h
 exact aN _ _ _ bt (aI hcl (aT bn (.bool t6)) bp aX ⟨rfl,rfl⟩)
theorem Ev:bw Tryz.prog 93 8 [(.tmp 2)] (yE 1 1):=⟨Tryz.f93,_,rfl,by decide,rfl,by kernel_rfl,rfl,rfl⟩
def tS (s1:List UInt8):Option (List UInt8):=cw 1 [] s1
theorem Dq {s1:List UInt8} {H0:AH} {aJ:List UInt8} (h:tS s1=some aJ):aA Tryz.prog 93 [(.sl .n 1 (ml b8 s1))] H0 fun v H'=>v=(.sl .own 1 (ml b8 aJ))∧H'=H0:=Bz Ev (eH (f:=b8) h)
abbrev oy:av:=(.seq (.rg [(aj 12 (.bin .lss (.t 11) (.t 10)))]) (.seq (.cond (.t 12) .skip (.exit 0)) (.seq (.blk 1 (.seq (.rg [(aj 13 (.mj 1 (.t 9) (.t 11))),(aj 14 (.ld (.t 13) none)),(aP 5 14)]) (.seq (.rg [(au 15 3),(au 16 5),(aj 17 (.len (.t 16))),(aj 18 (.bin .add (.t 15) (.t 17))),(aP 3 18)]) (.seq (.rg [(au 19 3),(aj 20 (.bin .lss (.t 19) (.c (.int .i64 0))))]) (.cond (.t 20) (.rg [(aj 21 .bad),(gu .bad)]) .skip))))) (.rg [(aj 22 (.bin .add (.t 11) (.c (.int .i64 1)))),(au 11 22)]))))
abbrev oz:av:=(.seq (.rg [(aj 28 (.bin .lss (.t 27) (.t 26)))]) (.seq (.cond (.t 28) .skip (.exit 2)) (.seq (.blk 3 (.seq (.rg [(aj 29 (.mj 1 (.t 25) (.t 27))),(aj 30 (.ld (.t 29) none)),(aP 8 30)]) (.rg [(au 31 6),(au 32 8),(aj 33 (.app 1 1 (.t 31) (.t 32))),(aP 6 33)]))) (.rg [(aj 34 (.bin .add (.t 27) (.c (.int .i64 1)))),(au 27 34)]))))
abbrev Dr:av:=(.seq (.rg [(aj 2 (.aO (.c (.sl .ex 1 []))))]) (.seq (.rg [(aj 3 (.aO (.c (.int .i64 0))))]) (.seq (.seq (.rg [(au 9 0),(aj 10 (.len (.t 9))),(aj 11 (.mv (.c (.int .i64 0))))]) (.blk 0 (.loop (erase oy)))) (.seq (.rg [(au 23 3),(aj 24 (.call (.c (.fn 83 [])) [(.c (.sl .ex 1 [])),(.t 23)])),(aP 6 24)]) (.seq (.seq (.rg [(au 25 0),(aj 26 (.len (.t 25))),(aj 27 (.mv (.c (.int .i64 0))))]) (.blk 2 (.loop (erase oz)))) (.seq (.rg [(au 35 6),(aj 2 (.yJ 1 (.t 35)))]) .ret))))))
theorem Ds:bw Tryz.prog 42 36 [(.tmp 2)] (erase Dr):=⟨Tryz.f42,_,rfl,by decide,rfl,by kernel_rfl,rfl,rfl⟩
abbrev nZ:List Nat:=[0,2,3,5,6,8,9,10,11,12,20,25,26,27,28]
def cK (cZ:List (List UInt8)):(Int×Int)→Option (St (List UInt8) Int (Int×Int))
 |(vL,t3)=>
  (if (decide (t3<(cZ.length:Int))) then
   (idx cZ t3).bind fun x4=>
   (if (decide ((IntKind.wrap .i64 (vL+(x4.length:Int)))<0)) then
    none
   else
    some (.cv ((IntKind.wrap .i64 (vL+(x4.length:Int))),(IntKind.wrap .i64 (t3+1)))))
  else
   some (.eC vL))
def cL (cZ:List (List UInt8)):((List UInt8)×Int)→Option (St (List UInt8) (List UInt8) ((List UInt8)×Int))
 |(iN,t9)=>
  (if (decide (t9<(cZ.length:Int))) then
   (idx cZ t9).bind fun iY=>
   (cw 1 iN iY).bind fun fj=>some (.cv (fj,(IntKind.wrap .i64 (t9+1))))
  else
   some (.eC iN))
def ij (F:Nat) (cZ:List (List UInt8)):Option ((List UInt8)):=
 ((iter (cK cZ) F (0,0)).bind fun XC=>
 match XC with
 | .inr PR=>
   (j9 PR).bind fun r7=>
   ((iter (cL cZ) F (r7,0)).bind fun BS=>
   match BS with
   | .inr xT=>
     some xT
   | .inl _=>none)
 | .inl _=>none)
theorem xU {F:Nat} {t3:Int} {cZ:List (List UInt8)} {vL:Int} {H:AH} {K:Exit→Env→AH→Prop} {o:((List UInt8))⊕(Int)}
 (h:iter (cK cZ) F (vL,t3)=some o)
 (dw:∀o':Int,o= .inr o'→K (.exit 0) [(0,(.sl .n 1 (ml oq cZ))),(3,(.int .i64 o'))] H):
 AX Tryz.prog nZ 36 H.length (.loop (erase oy)) K [(0,(.sl .n 1 (ml oq cZ))),(3,(.int .i64 vL)),(9,(.sl .n 1 (ml oq cZ))),(10,(.int .i64 (cZ.length:Int))),(11,(.int .i64 t3))] H:=by
 refine gY (fun s e H1=>match s with|(vL,t3)=>e=[(0,(.sl .n 1 (ml oq cZ))),(3,(.int .i64 vL)),(9,(.sl .n 1 (ml oq cZ))),(10,(.int .i64 (cZ.length:Int))),(11,(.int .i64 t3))]∧H1=H) h ⟨rfl,rfl⟩ ?_
 rintro K' ⟨vL,t3⟩ st e H ⟨rfl,rfl⟩ h hN hB hR hX
 rw [cK.eq_1] at h
 refine az ?_
 refine bL h (fun hy1 h=> ?_) fun hy1 h=> ?_
 · obtain ⟨x4,aS,h⟩:=ak h
   refine aQ aS ?_
   refine bL h (fun aZ h=> ?_) fun aZ h=> ?_
   · cases h
   · refine az ?_
     obtain rfl:=aB h
     exact hN _ rfl _ _ _ _ aK aq ⟨rfl,rfl⟩
 · refine az ?_
   obtain rfl:=aB h
   exact hX _ _ _ _ _ dI aK aq (dw _ (hB _ rfl))
theorem xV {F:Nat} {t9:Int} {cZ:List (List UInt8)} {iN:List UInt8} {H:AH} {K:Exit→Env→AH→Prop} {o:((List UInt8))⊕((List UInt8))}
 (h:iter (cL cZ) F (iN,t9)=some o)
 (PO:∀o':(List UInt8),o= .inr o'→K (.exit 2) [(6,(.sl .own 1 (ml b8 o')))] H):
 AX Tryz.prog nZ 36 H.length (.loop (erase oz)) K [(6,(.sl .own 1 (ml b8 iN))),(25,(.sl .n 1 (ml oq cZ))),(26,(.int .i64 (cZ.length:Int))),(27,(.int .i64 t9))] H:=by
 refine gY (fun s e H1=>match s with|(iN,t9)=>e=[(6,(.sl .own 1 (ml b8 iN))),(25,(.sl .n 1 (ml oq cZ))),(26,(.int .i64 (cZ.length:Int))),(27,(.int .i64 t9))]∧H1=H) h ⟨rfl,rfl⟩ ?_
 rintro K' ⟨iN,t9⟩ st e H ⟨rfl,rfl⟩ h hN hB hR hX
 rw [cL.eq_1] at h
 refine az ?_
 refine bL h (fun bW h=> ?_) fun bW h=> ?_
 · obtain ⟨iY,cO,h⟩:=ak h
   obtain ⟨fj,cD,h⟩:=ak h
   have dA:cw 1 (ml b8 iN) (ml b8 iY)=some (ml b8 fj):=eH (f:=b8) cD
   refine aQ (aH cO dA) ?_
   obtain rfl:=aB h
   exact hN _ rfl _ _ _ _ aK aq ⟨rfl,rfl⟩
 · refine az ?_
   obtain rfl:=aB h
   exact hX _ _ _ _ _ dI aK aq (PO _ (hB _ rfl))
theorem sy {F:Nat} {cZ:List (List UInt8)} {H0:AH} {aJ:List UInt8} (h:ij F cZ=some aJ):
 aA Tryz.prog 42 [(.sl .n 1 (ml oq cZ))] H0 fun v H'=>v=(.sl .own 1 (ml b8 aJ))∧H'=H0:=by
 refine eF Ds nZ fun hcl K0 aN=> ?_
 rw [ij.eq_1] at h
 refine az ?_
 obtain ⟨XC,br,h⟩:=ak h
 refine bF aq (xU br ?_)
 · rintro PR rfl
   try dsimp only at h
   refine az ?_
   obtain ⟨r7,bC,h⟩:=ak h
   refine aY aq (Ef (i1:=PR) bC) ?_
   refine az ?_
   obtain ⟨BS,cJ,h⟩:=ak h
   refine bF aq (xV cJ ?_)
   · rintro xT rfl
     try dsimp only at h
     refine az ?_
     obtain rfl:=aB h
     exact aN _ _ _ bt (aI hcl (aT bn (.sl .own 1 (ml b8 xT))) bp aX ⟨rfl,rfl⟩)
abbrev wF:av:=(.rg [(au 3 0),(aj 4 (.len (.t 3))),(aj 5 (.bin .eql (.t 4) (.c (.int .i64 0)))),(au 6 5),(ax 7 (.mv (.t 0)) 6 false),(ax 8 (.mv (.c .un)) 6 false),(ax 9 (.lit 8 [13,10]) 6 false),(ax 10 (.call (.c (.fn 92 [])) [(.t 7),(.t 9)]) 6 false),(aj 11 (.pick (.t 6) (.c (.bool true)) (.t 10)))])
abbrev Kv:av:=(.seq (.rg [(aj 2 (.aO (.c (.sl .ex 1 []))))]) (.seq (.seq (.sem (erase wF)) (.cond (.t 11) (.seq (.rg [(au 12 0),(aj 13 (.call (.c (.fn 93 [])) [(.t 12)])),(aP 2 13)]) .ret) .skip)) (.seq (.rg [(au 14 0),(aj 16 (.lit 15 [13,10])),(aj 17 (.gA 1 [(.t 14),(.t 16)])),(aj 18 (.call (.c (.fn 42 [])) [(.t 17)])),(aP 2 18)]) .ret)))
theorem Kw:bw Tryz.prog 61 19 [(.tmp 2)] (erase Kv):=⟨Tryz.f61,_,rfl,by decide,rfl,by kernel_rfl,rfl,rfl⟩
abbrev BT:List Nat:=[0,2,11]
def lC (b1:List UInt8):Option (Bool):=
 (if (decide ((b1.length:Int)=0)) then
  some true
 else
  (bytes_HasSuffix b1 ([13,10]:List UInt8)).bind fun r2=>some r2)
def n5 (F:Nat) (b1:List UInt8):Option ((List UInt8)):=
 (lC b1).bind fun t4=>
 (if t4 then
  (tS b1).bind fun r5=>some r5
 else
  (ij F ([b1,([13,10]:List UInt8)]:List (List UInt8))).bind fun r6=>some r6)
theorem Dt {b1:List UInt8} {H:AH} {K:Exit→Env→AH→Prop} {t3:Bool}
 (h:lC b1=some t3)
 (kn:K .normal [(0,(.sl .n 1 (ml b8 b1))),(11,(.bool t3))] H):
 AX Tryz.prog BT 19 H.length (erase wF) K [(0,(.sl .n 1 (ml b8 b1)))] H:=by
 refine cB fun K' hK=> ?_
 rw [lC.eq_1] at h
 refine az ?_
 refine bZ h (fun hy1 h=> ?_) fun hy1 h=> ?_
 · refine aQ hy1 ?_
   obtain rfl:=aB h
   exact hK _ _ _ _ _ aK aq kn
 · refine aQ hy1 ?_
   obtain ⟨r2,aS,h⟩:=ak h
   refine aY aq (yV aS) ?_
   refine az ?_
   obtain rfl:=aB h
   exact hK _ _ _ _ _ aK aq kn
theorem zE {F:Nat} {b1:List UInt8} {H0:AH} {aJ:List UInt8} (h:n5 F b1=some aJ):
 aA Tryz.prog 61 [(.sl .n 1 (ml b8 b1))] H0 fun v H'=>v=(.sl .own 1 (ml b8 aJ))∧H'=H0:=by
 refine eF Kw BT fun hcl K0 aN=> ?_
 rw [n5.eq_1] at h
 refine az ?_
 obtain ⟨t4,aZ,h⟩:=ak h
 refine bF aq (Dt aZ ?_)
 refine az ?_
 refine bL h (fun br h=> ?_) fun br h=> ?_
 · refine az ?_
   obtain ⟨r5,bC,h⟩:=ak h
   refine aY aq (Dq bC) ?_
   refine az ?_
   obtain rfl:=aB h
   exact aN _ _ _ bt (aI hcl (aT bn (.sl .own 1 (ml b8 r5))) bp aX ⟨rfl,rfl⟩)
 · refine az ?_
   obtain ⟨r6,bW,h⟩:=ak h
   refine aY aq (sy bW) ?_
   refine az ?_
   obtain rfl:=aB h
   exact aN _ _ _ bt (aI hcl (aT bn (.sl .own 1 (ml b8 r6))) bp aX ⟨rfl,rfl⟩)
abbrev wG:av:=(.rg [(au 9 0),(au 10 3),(aj 11 (.ixs (.t 9) (.t 10))),(aj 12 (.bin .lss (.t 11) (.c (b8 33)))),(au 13 12),(ax 14 (.mv (.t 0)) 13 false),(ax 15 (.mv (.t 3)) 13 false),(ax 16 (.ixs (.t 14) (.t 15)) 13 false),(ax 17 (.bin .gtr (.t 16) (.c (b8 126))) 13 false),(aj 18 (.pick (.t 13) (.c (.bool true)) (.t 17))),(au 19 18),(ax 20 (.mv (.t 0)) 19 false),(ax 21 (.mv (.t 3)) 19 false),(ax 22 (.ixs (.t 20) (.t 21)) 19 false),(ax 23 (.bin .eql (.t 22) (.c (b8 58))) 19 false),(aj 24 (.pick (.t 19) (.c (.bool true)) (.t 23)))])
abbrev uK:av:=(.seq (.rg [(aj 7 (.bin .lss (.t 6) (.t 5)))]) (.seq (.cond (.t 7) .skip (.exit 0)) (.seq (.blk 1 (.seq (.rg [(au 8 6),(aP 3 8)]) (.seq (.sem (erase wG)) (.cond (.t 24) (.seq (.rg [(aj 2 (.aO (.c (.bool false))))]) .ret) .skip)))) (.rg [(aj 25 (.bin .add (.t 6) (.c (.int .i64 1)))),(au 6 25)]))))
abbrev wH:av:=(.rg [(au 26 0),(aj 27 (.bin .neq (.t 26) (.c (.str [])))),(au 28 27),(ax 29 (.mv (.t 0)) 28 true),(ax 30 (.lens (.t 29)) 28 true),(ax 31 (.bin .leq (.t 30) (.c (.int .i64 76))) 28 true),(aj 32 (.pick (.t 28) (.t 31) (.c (.bool false)))),(aP 2 32)])
abbrev Kx:av:=(.seq (.rg [(aj 2 (.aO (.c (.bool false))))]) (.seq (.seq (.rg [(au 4 0),(aj 5 (.lens (.t 4))),(aj 6 (.mv (.c (.int .i64 0))))]) (.blk 0 (.loop (erase uK)))) (.seq (.sem (erase wH)) .ret)))
theorem Ky:bw Tryz.prog 41 33 [(.tmp 2)] (erase Kx):=⟨Tryz.f41,_,rfl,by decide,rfl,by kernel_rfl,rfl,rfl⟩
abbrev pO:List Nat:=[0,2,3,5,6,7,24]
def tT (s1:List UInt8) (t2:Int):Option (Bool):=
 (idx s1 t2).bind fun x3=>
 (if (decide (x3<33)) then
  some true
 else
  (if (decide (126<x3)) then
   some true
  else
   some (decide (x3=58))))
def tU (s1:List UInt8):Int→Option (St Bool Unit Int)
 |t2=>
  (if (decide (t2<(s1.length:Int))) then
   (tT s1 t2).bind fun t5=>
   (if t5 then
    some (.ret false)
   else
    some (.cv (IntKind.wrap .i64 (t2+1))))
  else
   some (.eC ()))
def vM (F:Nat) (s1:List UInt8):Option (Bool):=
 ((iter (tU s1) F 0).bind fun o8=>
 match o8 with
 | .inr ()=>
   some ((!decide (s1=([]:List UInt8)))&&(decide ((s1.length:Int)≤76)))
 | .inl r7=>
   some r7)
theorem Du {s1:List UInt8} {t2:Int} {H:AH} {K:Exit→Env→AH→Prop} {t4:Bool}
 (h:tT s1 t2=some t4)
 (kn:K .normal [(0,(.str s1)),(5,(.int .i64 (s1.length:Int))),(6,(.int .i64 t2)),(24,(.bool t4))] H):
 AX Tryz.prog pO 33 H.length (erase wG) K [(0,(.str s1)),(3,(.int .i64 t2)),(5,(.int .i64 (s1.length:Int))),(6,(.int .i64 t2))] H:=by
 refine cB fun K' hK=> ?_
 rw [tT.eq_1] at h
 obtain ⟨x3,aS,h⟩:=ak h
 refine aQ aS ?_
 refine bZ h (fun aZ h=> ?_) fun aZ h=> ?_
 · refine aQ aZ ?_
   obtain rfl:=aB h
   exact hK _ _ _ _ _ aK aq kn
 · refine aQ (aH aZ aS) ?_
   refine bZ h (fun br h=> ?_) fun br h=> ?_
   · refine aQ br ?_
     obtain rfl:=aB h
     exact hK _ _ _ _ _ aK aq kn
   · refine aQ (aH br aS) ?_
     obtain rfl:=aB h
     exact hK _ _ _ _ _ aK aq kn
theorem Dv {F:Nat} {t2:Int} {s1:List UInt8} {H:AH} {K:Exit→Env→AH→Prop} {o:(Bool)⊕(Unit)}
 (h:iter (tU s1) F t2=some o)
 (dw:∀o':Unit,o= .inr o'→K (.exit 0) [(0,(.str s1))] H)
 (kr:∀o':Bool,o= .inl o'→K .ret [(2,(.bool o'))] H):
 AX Tryz.prog pO 33 H.length (.loop (erase uK)) K [(0,(.str s1)),(5,(.int .i64 (s1.length:Int))),(6,(.int .i64 t2))] H:=by
 refine gY (fun s e H1=>match s with|t2=>e=[(0,(.str s1)),(5,(.int .i64 (s1.length:Int))),(6,(.int .i64 t2))]∧H1=H) h ⟨rfl,rfl⟩ ?_
 rintro K' t2 st e H ⟨rfl,rfl⟩ h hN hB hR hX
 rw [tU.eq_1] at h
 refine az ?_
 refine bL h (fun hy1 h=> ?_) fun hy1 h=> ?_
 · refine az ?_
   obtain ⟨t5,bC,h⟩:=ak h
   refine bF aq (Du bC ?_)
   refine az ?_
   refine bL h (fun bW h=> ?_) fun bW h=> ?_
   · refine az ?_
     obtain rfl:=aB h
     exact hX _ _ _ _ _ dI aK aq (kr _ (hR _ rfl))
   · refine az ?_
     obtain rfl:=aB h
     exact hN _ rfl _ _ _ _ aK aq ⟨rfl,rfl⟩
 · refine az ?_
   obtain rfl:=aB h
   exact hX _ _ _ _ _ dI aK aq (dw _ (hB _ rfl))
theorem Dw {s1:List UInt8} {H:AH} {K:Exit→Env→AH→Prop}
 (kn:K .normal [(2,(.bool ((!decide (s1=([]:List UInt8)))&&(decide ((s1.length:Int)≤76)))))] H):
 AX Tryz.prog pO 33 H.length (erase wH) K [(0,(.str s1))] H:=by
 refine cB fun K' hK=> ?_
 refine az ?_
 refine om (fun cD=> ?_) fun cD=> ?_
 · refine aQ cD ?_
   exact hK _ _ _ _ _ (fh cD) aq kn
 · refine aQ cD ?_
   exact hK _ _ _ _ _ (fh cD) aq kn
theorem zF {F:Nat} {s1:List UInt8} {H0:AH} {aJ:Bool} (h:vM F s1=some aJ):
 aA Tryz.prog 41 [(.str s1)] H0 fun v H'=>v=(.bool aJ)∧H'=H0:=by
 refine eF Ky pO fun hcl K0 aN=> ?_
 rw [vM.eq_1] at h
 refine az ?_
 obtain ⟨o8,cO,h⟩:=ak h
 refine bF aq (Dv cO ?_ ?_)
 · rintro ⟨⟩ rfl
   try dsimp only at h
   refine az ?_
   refine bF aq (Dw (s1:=s1) ?_)
   refine az ?_
   obtain rfl:=aB h
   exact aN _ _ _ bt (aI hcl (aT bn (.bool ((!decide (s1=([]:List UInt8)))&&(decide ((s1.length:Int)≤76))))) bp aX ⟨rfl,rfl⟩)
 · rintro r7 rfl
   try dsimp only at h
   refine az ?_
   obtain rfl:=aB h
   exact aN _ _ _ bt (aI hcl (aT bn (.bool r7)) bp aX ⟨rfl,rfl⟩)
abbrev uL:av:=(.rg [(au 33 4),(aj 34 (.len (.t 33))),(aj 35 (.bin .gtr (.t 34) (.c (.int .i64 0)))),(au 36 35),(ax 37 (.mv (.t 6)) 36 true),(ax 38 (.bin .neq (.t 37) (.c (.str []))) 36 true),(aj 39 (.pick (.t 36) (.t 38) (.c (.bool false)))),(au 40 39),(ax 41 (.mv (.t 6)) 40 true),(ax 42 (.ixs (.t 41) (.c (.int .i64 0))) 40 true),(ax 43 (.bin .eql (.t 42) (.c (b8 32))) 40 true),(ax 44 (.mv (.t 43)) 40 true),(ax 45 (.mv (.t 6)) 44 false),(ax 46 (.ixs (.t 45) (.c (.int .i64 0))) 44 false),(ax 47 (.bin .eql (.t 46) (.c (b8 9))) 44 false),(ax 48 (.pick (.t 44) (.c (.bool true)) (.t 47)) 40 true),(aj 49 (.pick (.t 40) (.t 48) (.c (.bool false)))),(aP 32 49)])
abbrev uM:av:=(.rg [(au 63 11),(au 64 63),(ax 65 (.mv (.t 9)) 64 true),(ax 66 (.call (.c (.fn 41 [])) [(.t 65)]) 64 true),(aj 67 (.pick (.t 64) (.t 66) (.c (.bool false)))),(aP 62 67)])
abbrev uN:av:=(.rg [(au 77 4),(au 78 7),(aj 79 (.iS .sb (.t 78))),(aP 2 77),(aP 3 79)])
abbrev uO:av:=(.rg [(au 29 4),(au 30 5),(aj 31 (.iS .sb (.t 30))),(aP 2 29),(aP 3 31)])
abbrev sA:av:=(.seq (.seq (.rg [(au 15 5),(aj 16 (.bin .neq (.t 15) (.c (.str []))))]) (.cond (.t 16) .skip (.exit 0))) (.blk 1 (.seq (.rg [(au 18 5),(aj 19 (.call (.c (.fn 62 [])) [(.t 18),(.c (.str [13,10]))])),(au 17 19),(aj 20 (.ext (.t 17) 0)),(aj 21 (.ext (.t 17) 1)),(aj 22 (.ext (.t 17) 2)),(aP 6 20),(aP 7 21),(aP 8 22)]) (.seq (.rg [(au 24 6),(aj 25 (.call (.c (.fn 62 [])) [(.t 24),(.c (.str [58]))])),(au 23 25),(aj 26 (.ext (.t 23) 0)),(aj 27 (.ext (.t 23) 1)),(aj 28 (.ext (.t 23) 2)),(aP 9 26),(aP 10 27),(aP 11 28)]) (.seq (.blk 2 (.seq (.sem (erase uL)) (.cond (.t 32) (.rg [(au 50 4),(au 51 4),(aj 52 (.len (.t 51))),(aj 53 (.bin .sub (.t 52) (.c (.int .i64 1)))),(aj 54 (.mj 2 (.t 50) (.t 53))),(aj 55 (.cj (.t 54) 1)),(aj 56 (.ld (.t 55) none)),(au 57 6),(aj 58 (.bin .add (.c (.str [13,10])) (.t 57))),(aj 59 (.bin .add (.t 56) (.t 58))),(aj 60 (.mj 2 (.t 50) (.t 53))),(aj 61 (.cj (.t 60) 1)),(gu (.st (.t 61) (.t 59) 1))]) (.seq (.sem (erase uM)) (.cond (.t 62) (.rg [(au 68 4),(au 69 9),(au 70 10),(aj 71 (.build [(.str []),(.str [])] [(0,(1,(.t 69))),(1,(1,(.t 70)))])),(aj 72 (.gA 2 [(.t 71)])),(aj 73 (.mu 2 32 (.t 68) (.t 72))),(aP 4 73)]) (.seq (.rg [(au 75 6),(aj 76 (.bin .eql (.t 75) (.c (.str [])))),(aP 74 76)]) (.cond (.t 74) (.seq (.sem (erase uN)) .ret) (.seq (.sem (erase uO)) .ret)))))))) (.rg [(au 80 7),(aP 5 80)]))))))
abbrev uP:av:=(.rg [(au 81 4),(aP 2 81),(aj 3 (.aO (.c (.sl .ex 1 []))))])
abbrev HR:av:=(.seq (.rg [(aj 2 (.aO (.c (.sl .ex 2 [])))),(aj 3 (.aO (.c (.sl .ex 1 []))))]) (.seq (.rg [(aj 4 (.yJ 2 (.c (.sl .ex 2 []))))]) (.seq (.rg [(au 12 0),(aj 13 (.call (.c (.fn 61 [])) [(.t 12)])),(aj 14 (.iS .bs (.t 13))),(aP 5 14)]) (.seq (.blk 0 (.loop (erase sA))) (.seq (.sem (erase uP)) .ret)))))
theorem HS:bw Tryz.prog 22 82 [(.tmp 2),(.tmp 3)] (erase HR):=⟨Tryz.f22,_,rfl,by decide,rfl,by kernel_rfl,rfl,rfl⟩
abbrev gO:List Nat:=[0,2,3,4,5,6,7,9,10,11,16,32,62,74]
def qs (s6:List b7) (r7:List UInt8):Option (Bool):=
 (if (decide (0<(s6.length:Int))) then
  (if (!decide (r7=([]:List UInt8))) then
   (idx r7 0).bind fun mK=>
   (if (decide (mK=32)) then
    some true
   else
    some (decide (mK=9)))
  else
   some false)
 else
  some false)
def qt (F:Nat) (gv:Bool) (fA:List UInt8):Option (Bool):=
 (if gv then
  (vM F fA).bind fun Kz=>some Kz
 else
  some false)
def qu (F:Nat):((List UInt8)×(List b7))→Option (St ((List b7)×(List UInt8)) (List b7) ((List UInt8)×(List b7)))
 |(fB,s6)=>
  (if (!decide (fB=([]:List UInt8))) then
   (strings_Cut fB ([13,10]:List UInt8)).bind fun (r7,r8,r9)=>
   (strings_Cut r7 ([58]:List UInt8)).bind fun (fA,e7,gv)=>
   (qs s6 r7).bind fun t17=>
   (if t17 then
    (Bw s6.length (IntKind.wrap .i64 ((s6.length:Int) - 1))).bind fun TK=>
    (s6[TK]?).bind fun xO=>
    (cat ([13,10]:List UInt8) r7).bind fun lT=>
    (cat xO.value lT).bind fun yR=>some (.cv (r8,(List.set s6 TK (b7.mk xO.name yR))))
   else
    (qt F gv fA).bind fun t26=>
    (if t26 then
     (cw 32 s6 ([(b7.mk fA e7)]:List b7)).bind fun x27=>some (.cv (r8,x27))
    else
     (if (decide (r7=([]:List UInt8))) then
      some (.ret (s6,r8))
     else
      some (.ret (s6,fB)))))
  else
   some (.eC s6))
def xW (F:Nat) (b1:List UInt8):Option ((List b7)×(List UInt8)):=
 (n5 F b1).bind fun r2=>
 ((iter (qu F) F (r2,([]:List b7))).bind fun o42=>
 match o42 with
 | .inr KB=>
   some (KB,([]:List UInt8))
 | .inl (TL,r39)=>
   some (TL,r39))
theorem BU {s6:List b7} {r7:List UInt8} {q13:Nat} {q14:Nat} {fB:List UInt8} {r8:List UInt8} {fA:List UInt8} {e7:List UInt8} {gv:Bool} {H0 H:AH} (hfr:Fr H0 H0.length [] H) (ai:GF 2 H0.length q13 (ml aU s6) q14 H) {K:Exit→Env→AH→Prop} {t16:Bool}
 (h:qs s6 r7=some t16)
 (kn:∀H':AH,Fr H0 H0.length [] H'→GF 2 H0.length q13 (ml aU s6) q14 H'→K .normal [(4,(.cr q13 2 s6.length q14)),(5,(.str fB)),(6,(.str r7)),(7,(.str r8)),(9,(.str fA)),(10,(.str e7)),(11,(.bool gv)),(32,(.bool t16))] H'):
 AX Tryz.prog gO 82 H0.length (erase uL) K [(4,(.cr q13 2 s6.length q14)),(5,(.str fB)),(6,(.str r7)),(7,(.str r8)),(9,(.str fA)),(10,(.str e7)),(11,(.bool gv))] H:=by
 refine cB fun K' hK=> ?_
 have hle:=hfr.le
 rw [qs.eq_1] at h
 refine cm ?_
 refine bZ h (fun bC h=> ?_) fun bC h=> ?_
 · refine aG bC ?_
   refine bZ h (fun bW h=> ?_) fun bW h=> ?_
   · obtain ⟨mK,cO,h⟩:=ak h
     refine aG (aH bW cO) ?_
     refine bZ h (fun cD h=> ?_) fun cD h=> ?_
     · refine aG cD ?_
       obtain rfl:=aB h
       exact hK _ _ _ _ _ (fh (aH bC (aH bW cD))) aq (kn _ hfr ai)
     · refine aG (aH cD cO) ?_
       obtain rfl:=aB h
       exact hK _ _ _ _ _ (fh (aH bC (aH bW cD))) aq (kn _ hfr ai)
   · refine aG bW ?_
     obtain rfl:=aB h
     exact hK _ _ _ _ _ (fh (aH bC bW)) aq (kn _ hfr ai)
 · refine aG bC ?_
   obtain rfl:=aB h
   exact hK _ _ _ _ _ (fh bC) aq (kn _ hfr ai)
theorem BV {F:Nat} {gv:Bool} {fA:List UInt8} {Gb:Nat} {s6:List b7} {q23:Nat} {fB:List UInt8} {r7:List UInt8} {r8:List UInt8} {e7:List UInt8} {H0 H:AH} (hfr:Fr H0 H0.length [] H) (ai:GF 2 H0.length Gb (ml aU s6) q23 H) {K:Exit→Env→AH→Prop} {t25:Bool}
 (h:qt F gv fA=some t25)
 (kn:∀H':AH,Fr H0 H0.length [] H'→GF 2 H0.length Gb (ml aU s6) q23 H'→K .normal [(4,(.cr Gb 2 s6.length q23)),(5,(.str fB)),(6,(.str r7)),(7,(.str r8)),(9,(.str fA)),(10,(.str e7)),(62,(.bool t25))] H'):
 AX Tryz.prog gO 82 H0.length (erase uM) K [(4,(.cr Gb 2 s6.length q23)),(5,(.str fB)),(6,(.str r7)),(7,(.str r8)),(9,(.str fA)),(10,(.str e7)),(11,(.bool gv))] H:=by
 refine cB fun K' hK=> ?_
 have hle:=hfr.le
 rw [qt.eq_1] at h
 refine cm ?_
 refine bZ h (fun ig h=> ?_) fun ig h=> ?_
 · refine aG ig ?_
   obtain ⟨Kz,lA,h⟩:=ak h
   refine aY aq (zF lA) ?_
   refine cm ?_
   obtain rfl:=aB h
   exact hK _ _ _ _ _ (fh ig) aq (kn _ hfr ai)
 · refine aG ig ?_
   obtain rfl:=aB h
   exact hK _ _ _ _ _ (fh ig) aq (kn _ hfr ai)
theorem BX {s6:List b7} {r8:List UInt8} {H0 H:AH} (hfr:Fr H0 H0.length [] H) {K:Exit→Env→AH→Prop}
 (kn:∀H':AH,Fr H0 H0.length [] H'→K .normal [(2,(.sl .n 2 (ml aU s6))),(3,(.sl .own 1 (ml b8 r8)))] H'):
 AX Tryz.prog gO 82 H0.length (erase uN) K [(4,(.sl .n 2 (ml aU s6))),(7,(.str r8))] H:=by
 refine cB fun K' hK=> ?_
 have hle:=hfr.le
 refine cm ?_
 exact hK _ _ _ _ _ aK aq (kn _ hfr)
theorem BZ {s6:List b7} {fB:List UInt8} {H0 H:AH} (hfr:Fr H0 H0.length [] H) {K:Exit→Env→AH→Prop}
 (kn:∀H':AH,Fr H0 H0.length [] H'→K .normal [(2,(.sl .n 2 (ml aU s6))),(3,(.sl .own 1 (ml b8 fB)))] H'):
 AX Tryz.prog gO 82 H0.length (erase uO) K [(4,(.sl .n 2 (ml aU s6))),(5,(.str fB))] H:=by
 refine cB fun K' hK=> ?_
 have hle:=hfr.le
 refine cm ?_
 exact hK _ _ _ _ _ aK aq (kn _ hfr)
theorem B0 {F:Nat} {fB:List UInt8} {s6:List b7} {q3:Nat} {q4:Nat} {H0 H:AH} (hfr:Fr H0 H0.length [] H) (ai:GF 2 H0.length q3 (ml aU s6) q4 H) {K:Exit→Env→AH→Prop} {o:((List b7)×(List UInt8))⊕((List b7))}
 (h:iter (qu F) F (fB,s6)=some o)
 (dw:∀o':(List b7),o= .inr o'→∀H':AH,∀HT Ew:Nat,Fr H0 H0.length [] H'→GF 2 H0.length HT (ml aU o') Ew H'→K (.exit 0) [(4,(.cr HT 2 o'.length Ew))] H')
 (kr:∀o':(List b7)×(List UInt8),o= .inl o'→∀H':AH,Fr H0 H0.length [] H'→K .ret [(2,(.sl .n 2 (ml aU o'.1))),(3,(.sl .n 1 (ml b8 o'.2)))] H'):
 AX Tryz.prog gO 82 H0.length (.loop (erase sA)) K [(4,(.cr q3 2 s6.length q4)),(5,(.str fB))] H:=by
 refine gY (fun s e H1=>match s with|(fB,s6)=>∃q3 q4:Nat,e=[(4,(.cr q3 2 s6.length q4)),(5,(.str fB))]∧Fr H0 H0.length [] H1∧GF 2 H0.length q3 (ml aU s6) q4 H1) h ⟨q3,q4,rfl,hfr,ai⟩ ?_
 rintro K' ⟨fB,s6⟩ st e H ⟨q3,q4,rfl,hfr,ai⟩ h hN hB hR hX
 have hle:=hfr.le
 rw [qu.eq_1] at h
 refine cm ?_
 refine bL h (fun aS h=> ?_) fun aS h=> ?_
 · refine cm ?_
   obtain ⟨⟨r7,r8,r9⟩,aZ,h⟩:=ak h
   dsimp only at h
   refine aY aq (wj (s1:=fB) (s2:=([13,10]:List UInt8)) aZ) ?_
   refine cm ?_
   obtain ⟨⟨fA,e7,gv⟩,br,h⟩:=ak h
   dsimp only at h
   refine aY aq (wj (s1:=r7) (s2:=([58]:List UInt8)) br) ?_
   refine cm ?_
   obtain ⟨t17,dA,h⟩:=ak h
   refine bF aq (BU (fB:=fB) (r8:=r8) (fA:=fA) (e7:=e7) (gv:=gv) hfr ai dA ?_)
   intro H hfr ai
   have hle:=hfr.le
   refine cm ?_
   refine bL h (fun cJ h=> ?_) fun cJ h=> ?_
   · obtain ⟨TK,cG,h⟩:=ak h
     obtain ⟨xO,cS,h⟩:=ak h
     have cW:=GF.atM (f:=aU) (ai) cS
     have eT:(j4 2 (ml aU s6) q4)[TK*2+1]? =some (.str xO.value):=IB (f:=aU) (fun _=>⟨rfl,rfl,rfl,rfl⟩) cS (by decide)
     obtain ⟨lT,gh,h⟩:=ak h
     obtain ⟨yR,gx,h⟩:=ak h
     have lu:=GF.atM (f:=aU) (ai) cS
     have jQ:=GF.geM (f:=aU) (ai) cS
     have jD:over (j4 2 (ml aU s6) q4) (TK*2+1) [(.str yR)]=some (j4 2 (ml aU (List.set s6 TK (b7.mk xO.name yR))) q4):=FI (f:=aU) (x':=(b7.mk xO.name yR)) (fun _=>⟨rfl,rfl,rfl,rfl⟩) cS (by decide) rfl
     have lz:=GF.Xc (f:=aU) (x':=(b7.mk xO.name yR)) (ai) cS
     refine aG (aH cG (aH cW (aH eT (aH gh (aH gx (aH cG (aH lu jD))))))) ?_
     obtain rfl:=aB h
     exact hN _ rfl _ _ _ _ aK aq ⟨q3,q4,rfl,(Fr.set (s:=q3) hfr (.inr jQ)),lz⟩
   · refine cm ?_
     obtain ⟨t26,mI,h⟩:=ak h
     refine bF aq (BV (s6:=s6) (fB:=fB) (r7:=r7) (r8:=r8) (e7:=e7) hfr ai mI ?_)
     intro H hfr ai
     have hle:=hfr.le
     refine cm ?_
     refine bL h (fun iD h=> ?_) fun iD h=> ?_
     · obtain ⟨x27,jR,h⟩:=ak h
       refine cm ?_
       refine gaZ (f:=aU) (X:=s6) (Y:=([(b7.mk fA e7)]:List b7)) (n1:=H0.length) (fun _=>⟨rfl,rfl,rfl,rfl⟩) (by decide) rfl rfl rfl (by simp) jR (ai) (by first|assumption|omega|(simp only [zo,zp]<;>omega)|fail) fun q28 q29 H hsg Ed PS YW=> ?_
       have hfr:=Fr.grow hfr Ed PS
       have ai:=hsg
       have hle:=hfr.le
       refine cm ?_
       obtain rfl:=aB h
       exact hN _ rfl _ _ _ _ aK aq ⟨q28,q29,rfl,hfr,ai⟩
     · refine cm ?_
       refine bL h (fun ow h=> ?_) fun ow h=> ?_
       · refine cm ?_
         refine J3 ?_
         apply AX.Mx (n1:=H0.length) (by decide) (EK.ml (f:=aU) (fun _=>⟨rfl,rfl,rfl,rfl⟩) s6) (ai)
         · repeat (first|exact FG.nil|apply FG.lay _ _ _ _ (yC _ _).symm|apply FG.lay _ _ _ _ (by simp [ml])|apply FG.same)
         intro H Ed PS
         have hfr:=Fr.lay hfr Ed PS
         have hle:=hfr.le
         refine PG ?_
         refine bF aq (BX (s6:=s6) (r8:=r8) hfr ?_)
         intro H hfr
         have hle:=hfr.le
         refine cm ?_
         obtain rfl:=aB h
         exact hX _ _ _ _ _ dI aK aq (kr _ (hR _ rfl) _ hfr)
       · refine cm ?_
         refine J3 ?_
         apply AX.Mx (n1:=H0.length) (by decide) (EK.ml (f:=aU) (fun _=>⟨rfl,rfl,rfl,rfl⟩) s6) (ai)
         · repeat (first|exact FG.nil|apply FG.lay _ _ _ _ (yC _ _).symm|apply FG.lay _ _ _ _ (by simp [ml])|apply FG.same)
         intro H Ed PS
         have hfr:=Fr.lay hfr Ed PS
         have hle:=hfr.le
         refine PG ?_
         refine bF aq (BZ (s6:=s6) (fB:=fB) hfr ?_)
         intro H hfr
         have hle:=hfr.le
         refine cm ?_
         obtain rfl:=aB h
         exact hX _ _ _ _ _ dI aK aq (kr _ (hR _ rfl) _ hfr)
 · refine cm ?_
   obtain rfl:=aB h
   exact hX _ _ _ _ _ dI aK aq (dw _ (hB _ rfl) _ q3 q4 hfr ai)
theorem B1 {KB:List b7} {H0 H:AH} (hfr:Fr H0 H0.length [] H) {K:Exit→Env→AH→Prop}
 (kn:∀H':AH,Fr H0 H0.length [] H'→K .normal [(2,(.sl .n 2 (ml aU KB))),(3,(.sl .ex 1 []))] H'):
 AX Tryz.prog gO 82 H0.length (erase uP) K [(4,(.sl .n 2 (ml aU KB)))] H:=by
 refine cB fun K' hK=> ?_
 have hle:=hfr.le
 refine cm ?_
 exact hK _ _ _ _ _ aK aq (kn _ hfr)
theorem Gc {F:Nat} {b1:List UInt8} {H0:AH} {aJ:List b7} {eS:List UInt8} (h:xW F b1=some (aJ,eS)):
 aA Tryz.prog 22 [(.sl .n 1 (ml b8 b1))] H0 fun v H'=>v=(.bz [(.sl .n 2 (ml aU aJ)),(.sl .n 1 (ml b8 eS))])∧H'=H0:=by
 refine mD HS gO [] fun hcl K0 aN H hH hfr=> ?_
 clear hH
 have hle:=hfr.le
 rw [xW.eq_1] at h
 refine cm ?_
 obtain ⟨r2,hy1,h⟩:=ak h
 refine aY aq (zE hy1) ?_
 refine cm ?_
 obtain ⟨o42,uJ,h⟩:=ak h
 refine bF aq (B0 hfr GF.nil uJ ?_ ?_)
 · rintro KB rfl H q36 q37 hfr ai
   try dsimp only at h ai
   have hle:=hfr.le
   refine cm ?_
   refine J3 ?_
   apply AX.Mx (n1:=H0.length) (by decide) (EK.ml (f:=aU) (fun _=>⟨rfl,rfl,rfl,rfl⟩) KB) (ai)
   · repeat (first|exact FG.nil|apply FG.lay _ _ _ _ (yC _ _).symm|apply FG.lay _ _ _ _ (by simp [ml])|apply FG.same)
   intro H Ed PS
   have hfr:=Fr.lay hfr Ed PS
   have hle:=hfr.le
   refine PG ?_
   refine bF aq (B1 (KB:=KB) hfr ?_)
   intro H hfr
   have hle:=hfr.le
   refine cm ?_
   obtain ⟨rfl,rfl⟩:=gw h
   exact aN _ _ _ bt (bE hfr hcl (aT (aT bn (.sl .ex 1 [])) (.sl .n 2 (ml aU KB))) bp aX ⟨rfl,rfl⟩)
 · rintro ⟨TL,r39⟩ rfl H hfr
   try dsimp only at h
   have hle:=hfr.le
   refine cm ?_
   obtain ⟨rfl,rfl⟩:=gw h
   exact aN _ _ _ bt (bE hfr hcl (aT (aT bn (.sl .n 1 (ml b8 r39))) (.sl .n 2 (ml aU TL))) bp aX ⟨rfl,rfl⟩)
abbrev uQ:av:=(.seq (.rg [(aj 11 (.bin .lss (.t 10) (.t 9)))]) (.seq (.cond (.t 11) .skip (.exit 0)) (.seq (.blk 1 (.seq (.rg [(aj 12 (.mj 2 (.t 8) (.t 10))),(aj 13 (.ld (.t 12) (some 2))),(aj 7 (.alloc [(.str []),(.str [])])),(gu (.st (.t 7) (.t 13) 2))]) (.seq (.rg [(aj 14 (.cj (.t 7) 0)),(aj 15 (.ld (.t 14) none)),(aj 16 (.call (.c (.fn 41 [])) [(.t 15)]))]) (.cond (.t 16) (.rg [(au 17 5),(aj 18 (.cj (.t 7) 0)),(aj 19 (.ld (.t 18) none)),(aj 20 (.bin .add (.t 19) (.c (.str [58])))),(aj 21 (.cj (.t 7) 1)),(aj 22 (.ld (.t 21) none)),(aj 23 (.bin .add (.t 20) (.t 22))),(aj 24 (.bin .add (.t 23) (.c (.str [13,10])))),(aj 25 (.apps 1 (.t 17) (.t 24))),(aP 5 25)]) .skip)))) (.rg [(aj 26 (.bin .add (.t 10) (.c (.int .i64 1)))),(au 10 26)]))))
abbrev KC:av:=(.seq (.rg [(aj 4 (.aO (.c (.sl .ex 1 []))))]) (.seq (.rg [(aj 5 (.aO (.c (.sl .ex 1 []))))]) (.seq (.seq (.rg [(au 8 0),(aj 9 (.len (.t 8))),(aj 10 (.mv (.c (.int .i64 0))))]) (.blk 0 (.loop (erase uQ)))) (.seq (.rg [(au 27 5),(aj 29 (.lit 28 [13,10])),(au 30 1),(aj 31 (.gA 1 [(.t 27),(.t 29),(.t 30)])),(aj 32 (.call (.c (.fn 42 [])) [(.t 31)])),(aP 4 32)]) .ret))))
theorem KD:bw Tryz.prog 12 33 [(.tmp 4)] (erase KC):=⟨Tryz.f12,_,rfl,by decide,rfl,by kernel_rfl,rfl,rfl⟩
abbrev B2:List Nat:=[0,1,4,5,7,8,9,10,11,16]
def tV (F:Nat) (l1:List b7):((List UInt8)×Int)→Option (St (List UInt8) (List UInt8) ((List UInt8)×Int))
 |(dU,t4)=>
  (if (decide (t4<(l1.length:Int))) then
   (idx l1 t4).bind fun x5=>
   (vM F x5.name).bind fun r6=>
   (if r6 then
    (cat x5.name ([58]:List UInt8)).bind fun x7=>
    (cat x7 x5.value).bind fun x8=>
    (cat x8 ([13,10]:List UInt8)).bind fun x9=>
    (cw 1 dU x9).bind fun iY=>some (.cv (iY,(IntKind.wrap .i64 (t4+1))))
   else
    some (.cv (dU,(IntKind.wrap .i64 (t4+1)))))
  else
   some (.eC dU))
def Af (F:Nat) (l1:List b7) (tW:List UInt8):Option ((List UInt8)):=
 ((iter (tV F l1) F (([]:List UInt8),0)).bind fun BS=>
 match BS with
 | .inr XD=>
   (ij F ([XD,([13,10]:List UInt8),tW]:List (List UInt8))).bind fun lB=>some lB
 | .inl _=>none)
theorem Dx {F:Nat} {t4:Int} {l1:List b7} {dU:List UInt8} {tW:List UInt8} {H0 H:AH} (hfr:Fr H0 H0.length [] H) {K:Exit→Env→AH→Prop} {o:((List UInt8))⊕((List UInt8))}
 (h:iter (tV F l1) F (dU,t4)=some o)
 (dw:∀o':(List UInt8),o= .inr o'→∀H':AH,Fr H0 H0.length [] H'→K (.exit 0) [(1,(.sl .n 1 (ml b8 tW))),(5,(.sl .own 1 (ml b8 o')))] H'):
 AX Tryz.prog B2 33 H0.length (.loop (erase uQ)) K [(1,(.sl .n 1 (ml b8 tW))),(5,(.sl .own 1 (ml b8 dU))),(8,(.sl .n 2 (ml aU l1))),(9,(.int .i64 (l1.length:Int))),(10,(.int .i64 t4))] H:=by
 refine gY (fun s e H1=>match s with|(dU,t4)=>e=[(1,(.sl .n 1 (ml b8 tW))),(5,(.sl .own 1 (ml b8 dU))),(8,(.sl .n 2 (ml aU l1))),(9,(.int .i64 (l1.length:Int))),(10,(.int .i64 t4))]∧Fr H0 H0.length [] H1) h ⟨rfl,hfr⟩ ?_
 rintro K' ⟨dU,t4⟩ st e H ⟨rfl,hfr⟩ h hN hB hR hX
 have hle:=hfr.le
 rw [tV.eq_1] at h
 refine cm ?_
 refine bL h (fun hy1 h=> ?_) fun hy1 h=> ?_
 · obtain ⟨x5,aS,h⟩:=ak h
   refine aG aS ?_
   obtain ⟨r6,aZ,h⟩:=ak h
   refine aY aq (zF aZ) ?_
   refine cm ?_
   refine bL h (fun br h=> ?_) fun br h=> ?_
   · obtain ⟨x7,bC,h⟩:=ak h
     obtain ⟨x8,bW,h⟩:=ak h
     obtain ⟨x9,cO,h⟩:=ak h
     obtain ⟨iY,cD,h⟩:=ak h
     have dA:cw 1 (ml b8 dU) (ml b8 x9)=some (ml b8 iY):=eH (f:=b8) cD
     refine aG (aH bC (aH bW (aH cO dA))) ?_
     obtain rfl:=aB h
     exact hN _ rfl _ _ _ _ aK aq ⟨rfl,(cE _ (Fr.app hfr))⟩
   · refine cm ?_
     obtain rfl:=aB h
     exact hN _ rfl _ _ _ _ aK aq ⟨rfl,(cE _ (Fr.app hfr))⟩
 · refine cm ?_
   obtain rfl:=aB h
   exact hX _ _ _ _ _ dI aK aq (dw _ (hB _ rfl) _ hfr)
theorem HU {F:Nat} {l1:List b7} {tW:List UInt8} {H0:AH} {aJ:List UInt8} (h:Af F l1 tW=some aJ):
 aA Tryz.prog 12 [(.sl .n 2 (ml aU l1)),(.sl .n 1 (ml b8 tW))] H0 fun v H'=>v=(.sl .own 1 (ml b8 aJ))∧H'=H0:=by
 refine mD KD B2 [] fun hcl K0 aN H hH hfr=> ?_
 clear hH
 have hle:=hfr.le
 rw [Af.eq_1] at h
 refine cm ?_
 obtain ⟨BS,cJ,h⟩:=ak h
 refine bF aq (Dx (tW:=tW) hfr cJ ?_)
 · rintro XD rfl H hfr
   try dsimp only at h
   have hle:=hfr.le
   refine cm ?_
   obtain ⟨lB,cG,h⟩:=ak h
   refine aY aq (sy cG) ?_
   refine cm ?_
   obtain rfl:=aB h
   exact aN _ _ _ bt (bE hfr hcl (aT bn (.sl .own 1 (ml b8 lB))) bp aX ⟨rfl,rfl⟩)
abbrev nL:av:=(.seq (.rg [(aj 22 (.bin .lss (.t 21) (.t 20)))]) (.seq (.cond (.t 22) .skip (.exit 0)) (.seq (.blk 1 (.seq (.rg [(aj 23 (.mj 2 (.t 19) (.t 21))),(aj 24 (.ld (.t 23) (some 2))),(aj 7 (.alloc [(.str []),(.str [])])),(gu (.st (.t 7) (.t 24) 2))]) (.seq (.rg [(aj 25 (.cj (.t 7) 1)),(aj 26 (.ld (.t 25) none)),(aj 27 (.cj (.t 7) 1)),(aj 28 (.ld (.t 27) none)),(aj 29 (.lens (.t 28))),(aj 30 (.mm false (.t 29) (.c (.int .i64 200)))),(aj 31 (.mh (.t 26) none (some (.t 30)))),(aj 32 (.um (.t 31))),(aP 8 32)]) (.seq (.rg [(au 33 8),(aj 34 (.call (.c (.fn 81 [])) [(.t 33),(.c (.fn 82 []))])),(aj 35 (.iS .bs (.t 34))),(aj 36 (.cj (.t 7) 1)),(gu (.st (.t 36) (.t 35) 1))]) (.rg [(au 37 5),(aj 38 (.ld (.t 7) (some 2))),(aj 39 (.gA 2 [(.t 38)])),(aj 40 (.app 2 32 (.t 37) (.t 39))),(aP 5 40)]))))) (.rg [(aj 41 (.bin .add (.t 21) (.c (.int .i64 1)))),(au 21 41)]))))
abbrev B3:av:=(.seq (.rg [(aj 2 (.aO (.c (.str []))))]) (.seq (.rg [(au 11 0),(aj 12 (.call (.c (.fn 22 [])) [(.t 11)])),(au 10 12),(aj 13 (.ext (.t 10) 0)),(aj 14 (.ext (.t 10) 1)),(aP 3 13),(aP 4 14)]) (.seq (.rg [(aj 5 (.aO (.c (.sl .ex 2 []))))]) (.seq (.seq (.rg [(au 15 3),(au 16 3),(aj 17 (.len (.t 16))),(aj 18 (.mm false (.t 17) (.c (.int .i64 20)))),(aj 19 (.slc 2 (.t 15) none (some (.t 18)) none)),(aj 20 (.len (.t 19))),(aj 21 (.mv (.c (.int .i64 0))))]) (.blk 0 (.loop (erase nL)))) (.seq (.rg [(au 42 5),(aj 43 (.call (.c (.fn 12 [])) [(.t 42),(.c (.sl .ex 1 []))])),(aP 9 43)]) (.seq (.rg [(au 44 9),(au 45 9),(aj 46 (.len (.t 45))),(aj 47 (.bin .sub (.t 46) (.c (.int .i64 2)))),(aj 48 (.slc 1 (.t 44) none (some (.t 47)) none)),(aj 49 (.iS .bs (.t 48))),(aP 2 49)]) .ret))))))
theorem B4:bw Tryz.prog 39 50 [(.tmp 2)] (erase B3):=⟨Tryz.f39,_,rfl,by decide,rfl,by kernel_rfl,rfl,rfl⟩
abbrev sB:List Nat:=[0,2,3,5,7,8,9,19,20,21,22]
def lV (x4:List b7):((List b7)×Int)→Option (St (List UInt8) (List b7) ((List b7)×Int))
 |(B5,t6)=>
  (if (decide (t6<(x4.length:Int))) then
   (idx x4 t6).bind fun x7=>
   (sub x7.value 0 (min (x7.value.length:Int) 200)).bind fun x8=>
   (slices_DeleteFunc x8).bind fun r9=>
   (sub (r9++List.replicate (x8.length - r9.length) 0) 0 (r9.length:Int)).bind fun iY=>
   (cw 32 B5 ([(b7.mk x7.name iY)]:List b7)).bind fun fj=>some (.cv (fj,(IntKind.wrap .i64 (t6+1))))
  else
   some (.eC B5))
def oJ (F:Nat) (KE:List UInt8):Option ((List UInt8)):=
 (xW F KE).bind fun (r2,r3)=>
 (sub r2 0 (min (r2.length:Int) 20)).bind fun x4=>
 ((iter (lV x4) F (([]:List b7),0)).bind fun MK=>
 match MK with
 | .inr oK=>
   (Af F oK ([]:List UInt8)).bind fun gM=>
   (sub gM 0 (IntKind.wrap .i64 ((gM.length:Int) - 2))).bind fun mK=>some mK
 | .inl _=>none)
theorem w5 {F:Nat} {t6:Int} {x4:List b7} {B5:List b7} {H0 H:AH} (hfr:Fr H0 H0.length [] H) {K:Exit→Env→AH→Prop} {o:((List UInt8))⊕((List b7))}
 (h:iter (lV x4) F (B5,t6)=some o)
 (dw:∀o':(List b7),o= .inr o'→∀H':AH,Fr H0 H0.length [] H'→K (.exit 0) [(5,(.sl .own 2 (ml aU o')))] H'):
 AX Tryz.prog sB 50 H0.length (.loop (erase nL)) K [(5,(.sl .own 2 (ml aU B5))),(19,(.sl .n 2 (ml aU x4))),(20,(.int .i64 (x4.length:Int))),(21,(.int .i64 t6))] H:=by
 refine gY (fun s e H1=>match s with|(B5,t6)=>e=[(5,(.sl .own 2 (ml aU B5))),(19,(.sl .n 2 (ml aU x4))),(20,(.int .i64 (x4.length:Int))),(21,(.int .i64 t6))]∧Fr H0 H0.length [] H1) h ⟨rfl,hfr⟩ ?_
 rintro K' ⟨B5,t6⟩ st e H ⟨rfl,hfr⟩ h hN hB hR hX
 have hle:=hfr.le
 rw [lV.eq_1] at h
 refine cm ?_
 refine bL h (fun br h=> ?_) fun br h=> ?_
 · obtain ⟨x7,bC,h⟩:=ak h
   obtain ⟨x8,bW,h⟩:=ak h
   refine aG (aH bC bW) ?_
   obtain ⟨r9,cO,h⟩:=ak h
   refine aY aq (wW (s1:=x8) (q1:=(H.length+1)) xH cO) ?_
   refine cm ?_
   obtain ⟨iY,cD,h⟩:=ak h
   obtain ⟨fj,dA,h⟩:=ak h
   have cJ:cw 32 (ml aU B5) [(.agg [(.str x7.name),(.str iY)])]=some (ml aU fj):=eH (f:=aU) dA
   refine aG (aH cD cJ) ?_
   obtain rfl:=aB h
   exact hN _ rfl _ _ _ _ aK aq ⟨rfl,(cE _ (cE _ (Fr.app (cE _ (Fr.app hfr)))))⟩
 · refine cm ?_
   obtain rfl:=aB h
   exact hX _ _ _ _ _ dI aK aq (dw _ (hB _ rfl) _ hfr)
theorem Ag {F:Nat} {KE:List UInt8} {H0:AH} {aJ:List UInt8} (h:oJ F KE=some aJ):
 aA Tryz.prog 39 [(.sl .n 1 (ml b8 KE))] H0 fun v H'=>v=(.str aJ)∧H'=H0:=by
 refine mD B4 sB [] fun hcl K0 aN H hH hfr=> ?_
 clear hH
 have hle:=hfr.le
 rw [oJ.eq_1] at h
 refine cm ?_
 obtain ⟨⟨r2,r3⟩,hy1,h⟩:=ak h
 dsimp only at h
 refine aY aq (Gc hy1) ?_
 refine cm ?_
 obtain ⟨x4,aS,h⟩:=ak h
 have aZ:=CM (f:=aU) aS
 refine aG aS ?_
 obtain ⟨MK,cG,h⟩:=ak h
 refine bF aq (w5 hfr cG ?_)
 · rintro oK rfl H hfr
   try dsimp only at h
   have hle:=hfr.le
   refine cm ?_
   obtain ⟨gM,cS,h⟩:=ak h
   refine aY aq (HU cS) ?_
   refine cm ?_
   obtain ⟨mK,cW,h⟩:=ak h
   have eT:=CM (f:=b8) cW
   refine aG cW ?_
   obtain rfl:=aB h
   exact aN _ _ _ bt (bE hfr hcl (aT bn (.str mK)) bp aX ⟨rfl,rfl⟩)
end Go.Proofs.cI
end
