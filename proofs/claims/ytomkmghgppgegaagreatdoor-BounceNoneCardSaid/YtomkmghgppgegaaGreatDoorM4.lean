import Derived.Test.YtomkmghgppgegaaGreatDoorM3
set_option linter.unusedSimpArgs false
set_option linter.unusedVariables false
set_option linter.unusedSectionVars false
set_option linter.defProp false
section
set_option maxRecDepth 100000
namespace Go.Proofs.cD
open Go Go.Am Go.Proofs
open Nat renaming reduceEqDiff→nA,reduceLT→nB,reduceLeDiff→nC,reduceAdd→nD,reduceSub→nE,reduceMul→nF,reduceBEq→nG
set_option maxHeartbeats 2000000
structure aD where
 ax:List UInt8
 domain:List UInt8
 deriving DecidableEq
structure cJ where
 gh:aD
 state:Int
 tries:Int
 next:Int
 code:Int
 why:List UInt8
 deriving DecidableEq
structure aL where
 aQ:aD
 born:Int
 size:Int
 sum:Int
 bh:List cJ
 deriving DecidableEq
structure bV where
 name:List UInt8
 value:List UInt8
 deriving DecidableEq
structure aA where
 s:List UInt8
 cN:Int
 bad:Bool
 deriving DecidableEq
abbrev aR (x:cJ):AV:= .agg [(.str x.gh.ax),(.str x.gh.domain),(.int .i64 x.state),(.int .i64 x.tries),(.int .i64 x.next),(.int .i64 x.code),(.str x.why)]
abbrev mO (x:List UInt8):AV:= .sl .n 1 (ml b8 x)
abbrev aV (x:bV):AV:= .agg [(.str x.name),(.str x.value)]
abbrev cW (x:aD):AV:= .agg [(.str x.ax),(.str x.domain)]
abbrev H9:av:=(.seq (.rg [(aj 1 (.box (.t 0))),(aj 2 (.aS (.c (.bool false))))]) (.seq (.rg [(aj 3 (.bO (.t 1) 0)),(aj 4 (.ld (.t 3) (some 2))),(aj 5 (.build [(.str []),(.str [])] [])),(aj 6 (.seq [.s, .s] false (.t 4) (.t 5))),(aP 2 6)]) .ret))
theorem Ia:bu Tryz.prog 16 7 [(.tmp 2)] (erase H9):=⟨Tryz.f16,_,rfl,by decide,rfl,by kernel_rfl,rfl,rfl⟩
abbrev Ib:List Nat:=[0,1,2]
def iV (e1:aL):Option (Bool):=
 some (decide (e1.aQ.ax=([]:List UInt8))&&decide (e1.aQ.domain=([]:List UInt8)))
theorem rP {e1:aL} {H0:AH} {aJ:Bool} (h:iV e1=some aJ):
 ay Tryz.prog 16 [(.agg [(.str e1.aQ.ax),(.str e1.aQ.domain),(.int .i64 e1.born),(.int .i64 e1.size),(.int .u32 e1.sum),(.sl .n 7 (ml aR e1.bh))])] H0 fun v H'=>v=(.bool aJ)∧H'=H0:=by
 refine kO Ia Ib [] fun hcl K0 aO H hH hfr=> ?_
 clear hH
 have hle:=hfr.le
 rw [iV.eq_1] at h
 refine cj ?_
 obtain rfl:=aE h
 exact aO _ _ _ bC (bM (Fr.app hfr) hcl (br bA (.bool (decide (e1.aQ.ax=([]:List UInt8))&&decide (e1.aQ.domain=([]:List UInt8))))) bB bt ⟨rfl,rfl⟩)
abbrev qN:av:=(.rg [(au 10 4),(aj 11 (.iq false (.t 10) (.c (.v .nilIface)))),(au 12 11),(az 13 (.mv (.t 3)) 12 true),(az 14 (.bin .geq (.t 13) (.c (.int .i64 0))) 12 true),(aj 15 (.pick (.t 12) (.t 14) (.c (.bool false)))),(au 16 15),(az 17 (.mv (.t 3)) 16 true),(az 18 (.bin .leq (.t 17) (.c (.int .i64 255))) 16 true),(aj 19 (.pick (.t 16) (.t 18) (.c (.bool false)))),(au 20 19),(az 21 (.mv (.t 3)) 20 true),(az 22 (.call (.c (.fn 38 [])) [(.t 21)]) 20 true),(az 23 (.mv (.t 0)) 20 true),(az 24 (.bin .eql (.t 22) (.t 23)) 20 true),(aj 25 (.pick (.t 20) (.t 24) (.c (.bool false)))),(aP 2 25)])
abbrev D0:av:=(.seq (.rg [(aj 2 (.aS (.c (.bool false))))]) (.seq (.rg [(au 6 0),(aj 7 (.call (.c (.fn 137 [])) [(.t 6)])),(au 5 7),(aj 8 (.ext (.t 5) 0)),(aj 9 (.ext (.t 5) 1)),(aP 3 8),(aP 4 9)]) (.seq (.sem (erase qN)) .ret)))
theorem D1:bu Tryz.prog 109 26 [(.tmp 2)] (erase D0):=⟨Tryz.f109,_,rfl,by decide,rfl,by kernel_rfl,rfl,rfl⟩
abbrev vX:List Nat:=[0,2,3,4]
def ga (r3:Bool) (r2:Int) (s1:List UInt8):Option (Bool):=
 (if (!r3) then
  (if (decide (0≤r2)) then
   (if (decide (r2≤255)) then
    (strconv_Itoa r2).bind fun r4=>some (decide (r4=s1))
   else
    some false)
  else
   some false)
 else
  some false)
def jm (s1:List UInt8):Option (Bool):=
 (strconv_Atoi s1).bind fun (r2,r3)=>(ga r3 r2 s1).bind fun t6=>
 some t6
theorem yz {r3:Bool} {r2:Int} {s1:List UInt8} {H:AH} {K:Exit→Env→AH→Prop} {t5:Bool}
 (h:ga r3 r2 s1=some t5)
 (kn:K .normal [(2,(.bool t5))] H):
 AX Tryz.prog vX 26 H.length (erase qN) K [(0,(.str s1)),(2,(.bool false)),(3,(.int .i64 r2)),(4,(ec r3))] H:=by
 refine cU fun K' hK=> ?_
 rw [ga.eq_1] at h
 refine aG ?_
 refine b6 h (fun aU h=> ?_) fun aU h=> ?_
 · refine aW aU ?_
   refine b6 h (fun bp h=> ?_) fun bp h=> ?_
   · refine aW bp ?_
     refine b6 h (fun bn h=> ?_) fun bn h=> ?_
     · refine aW bn ?_
       obtain ⟨r4,bG,h⟩:=ak h
       refine aX aq (gE (i1:=r2) bG) ?_
       refine aG ?_
       obtain rfl:=aE h
       exact hK _ _ _ _ _ aN aq kn
     · refine aW bn ?_
       obtain rfl:=aE h
       exact hK _ _ _ _ _ aN aq kn
   · refine aW bp ?_
     obtain rfl:=aE h
     exact hK _ _ _ _ _ aN aq kn
 · refine aW aU ?_
   obtain rfl:=aE h
   exact hK _ _ _ _ _ aN aq kn
theorem CA {s1:List UInt8} {H0:AH} {aJ:Bool} (h:jm s1=some aJ):
 ay Tryz.prog 109 [(.str s1)] H0 fun v H'=>v=(.bool aJ)∧H'=H0:=by
 refine eC D1 vX fun hcl K0 aO=> ?_
 rw [jm.eq_1] at h
 refine aG ?_
 obtain ⟨⟨r2,r3⟩,hy1,h⟩:=ak h
 dsimp only at h
 refine aX aq (strconv_Atoi_ok (s1:=s1) hy1) ?_
 refine aG ?_
 obtain ⟨t6,bY,h⟩:=ak h
 refine bS aq (yz bY ?_)
 refine aG ?_
 obtain rfl:=aE h
 exact aO _ _ _ bC (aK hcl (br bA (.bool t6)) bB bt ⟨rfl,rfl⟩)
abbrev Be:av:=(.seq (.rg [(aj 2 (.aS (.c (.bool false))))]) (.seq (.rg [(au 3 0),(aj 4 (.call (.c (.fn 109 [])) [(.t 3)])),(aj 5 (.un .not (.t 4))),(aP 2 5)]) .ret))
theorem Bf:bu Tryz.prog 108 6 [(.tmp 2)] (erase Be):=⟨Tryz.f108,_,rfl,by decide,rfl,by kernel_rfl,rfl,rfl⟩
abbrev Bg:List Nat:=[0,2]
def iW (x1:List UInt8):Option (Bool):=
 (jm x1).bind fun r2=>some (!r2)
theorem zQ {x1:List UInt8} {H0:AH} {aJ:Bool} (h:iW x1=some aJ):
 ay Tryz.prog 108 [(.str x1)] H0 fun v H'=>v=(.bool aJ)∧H'=H0:=by
 refine eC Bf Bg fun hcl K0 aO=> ?_
 rw [iW.eq_1] at h
 refine aG ?_
 obtain ⟨r2,hy1,h⟩:=ak h
 refine aX aq (CA hy1) ?_
 refine aG ?_
 obtain rfl:=aE h
 exact aO _ _ _ bC (aK hcl (br bA (.bool (!r2))) bB bt ⟨rfl,rfl⟩)
abbrev jB:av:=(.seq (.rg [(aj 9 (.bin .lss (.t 8) (.t 7)))]) (.seq (.cond (.t 9) .skip (.exit 0)) (.seq (.blk 1 (.seq (.rg [(au 10 8),(aP 5 10)]) (.seq (.rg [(au 11 1),(au 12 0),(au 13 5),(aj 14 (.mK 1 (.t 12) (.t 13))),(aj 15 (.ld (.t 14) none)),(aj 16 (.call (.t 11) [(.t 15)]))]) (.cond (.t 16) (.seq (.rg [(au 17 5),(aP 4 17)]) .ret) .skip)))) (.rg [(aj 18 (.bin .add (.t 8) (.c (.int .i64 1)))),(au 8 18)]))))
abbrev vm:av:=(.seq (.rg [(aj 4 (.aS (.c (.int .i64 0))))]) (.seq (.seq (.rg [(au 6 0),(aj 7 (.len (.t 6))),(aj 8 (.mv (.c (.int .i64 0))))]) (.blk 0 (.loop (erase jB)))) (.seq (.rg [(aj 4 (.aS (.c (.int .i64 (-1)))))]) .ret)))
theorem vn:bu Tryz.prog 112 19 [(.tmp 4)] (erase vm):=⟨Tryz.f112,_,rfl,by decide,rfl,by kernel_rfl,rfl,rfl⟩
abbrev l7:List Nat:=[0,1,4,5,7,8,9,16]
def cO (s1:List (List UInt8)):(Int×Int)→Option (St Int Unit (Int×Int))
 |(t2,t3)=>
  (if (decide (t3<(s1.length:Int))) then
   (idx s1 t3).bind fun x4=>
   (iW x4).bind fun r5=>
   (if r5 then
    some (.ret t3)
   else
    some (.dz (t2,(IntKind.wrap .i64 (t3+1)))))
  else
   some (.eZ ()))
def gA (F:Nat) (s1:List (List UInt8)):Option (Int):=
 ((iter (cO s1) F (0,0)).bind fun o8=>
 match o8 with
 | .inr ()=>
   some (-1)
 | .inl r7=>
   some r7)
theorem qt {F:Nat} {t3:Int} {s1:List (List UInt8)} {t2:Int} {H:AH} {K:Exit→Env→AH→Prop} {o:(Int)⊕(Unit)}
 (h:iter (cO s1) F (t2,t3)=some o)
 (dN:∀o':Unit,o= .inr o'→K (.exit 0) [] H)
 (kr:∀o':Int,o= .inl o'→K .ret [(4,(.int .i64 o'))] H):
 AX Tryz.prog l7 19 H.length (.loop (erase jB)) K [(0,(.sl .n 1 (ml AV.str s1))),(1,(.fn 108 [])),(4,(.int .i64 t2)),(7,(.int .i64 (s1.length:Int))),(8,(.int .i64 t3))] H:=by
 refine jl (fun s e H1=>match s with|(t2,t3)=>e=[(0,(.sl .n 1 (ml AV.str s1))),(1,(.fn 108 [])),(4,(.int .i64 t2)),(7,(.int .i64 (s1.length:Int))),(8,(.int .i64 t3))]∧H1=H) h ⟨rfl,rfl⟩ ?_
 rintro K' ⟨t2,t3⟩ st e H ⟨rfl,rfl⟩ h hN hB hR hX
 rw [cO.eq_1] at h
 refine aG ?_
 refine b7 h (fun hy1 h=> ?_) fun hy1 h=> ?_
 · obtain ⟨x4,aU,h⟩:=ak h
   refine aW aU ?_
   obtain ⟨r5,bp,h⟩:=ak h
   refine aX aq (zQ bp) ?_
   refine aG ?_
   refine b7 h (fun bn h=> ?_) fun bn h=> ?_
   · refine aG ?_
     obtain rfl:=aE h
     exact hX _ _ _ _ _ eK aN aq (kr _ (hR _ rfl))
   · refine aG ?_
     obtain rfl:=aE h
     exact hN _ rfl _ _ _ _ aN aq ⟨rfl,rfl⟩
 · refine aG ?_
   obtain rfl:=aE h
   exact hX _ _ _ _ _ eK WE.nil aq (dN _ (hB _ rfl))
theorem tX {F:Nat} {s1:List (List UInt8)} {H0:AH} {aJ:Int} (h:gA F s1=some aJ):
 ay Tryz.prog 112 [(.sl .n 1 (ml AV.str s1)),(.fn 108 [])] H0 fun v H'=>v=(.int .i64 aJ)∧H'=H0:=by
 refine eC vn l7 fun hcl K0 aO=> ?_
 rw [gA.eq_1] at h
 refine aG ?_
 obtain ⟨o8,bG,h⟩:=ak h
 refine bS aq (qt bG ?_ ?_)
 · rintro ⟨⟩ rfl
   try dsimp only at h
   refine aG ?_
   obtain rfl:=aE h
   exact aO _ _ _ bC (aK hcl (br bA (.int .i64 (-1))) bB bt ⟨rfl,rfl⟩)
 · rintro r7 rfl
   try dsimp only at h
   refine aG ?_
   obtain rfl:=aE h
   exact aO _ _ _ bC (aK hcl (br bA (.int .i64 r7)) bB bt ⟨rfl,rfl⟩)
abbrev rQ:av:=(.seq (.rg [(aj 4 (.aS (.c (.bool false))))]) (.seq (.rg [(au 5 0),(au 6 1),(aj 7 (.call (.c (.fn 112 [])) [(.t 5),(.t 6)])),(aj 8 (.bin .geq (.t 7) (.c (.int .i64 0)))),(aP 4 8)]) .ret))
theorem rR:bu Tryz.prog 72 9 [(.tmp 4)] (erase rQ):=⟨Tryz.f72,_,rfl,by decide,rfl,by kernel_rfl,rfl,rfl⟩
abbrev rS:List Nat:=[0,1,4]
def ei (F:Nat) (s1:List (List UInt8)):Option (Bool):=
 (gA F s1).bind fun r2=>some (decide (0≤r2))
theorem qu {F:Nat} {s1:List (List UInt8)} {H0:AH} {aJ:Bool} (h:ei F s1=some aJ):
 ay Tryz.prog 72 [(.sl .n 1 (ml AV.str s1)),(.fn 108 [])] H0 fun v H'=>v=(.bool aJ)∧H'=H0:=by
 refine eC rR rS fun hcl K0 aO=> ?_
 rw [ei.eq_1] at h
 refine aG ?_
 obtain ⟨r2,hy1,h⟩:=ak h
 refine aX aq (tX hy1) ?_
 refine aG ?_
 obtain rfl:=aE h
 exact aO _ _ _ bC (aK hcl (br bA (.bool (decide (0≤r2)))) bB bt ⟨rfl,rfl⟩)
abbrev qO:av:=(.rg [(au 3 0),(aj 4 (.bin .or (.t 3) (.c (b8 32)))),(aj 5 (.bin .geq (.t 4) (.c (b8 97)))),(au 6 5),(az 7 (.mv (.t 0)) 6 true),(az 8 (.bin .or (.t 7) (.c (b8 32))) 6 true),(az 9 (.bin .leq (.t 8) (.c (b8 122))) 6 true),(aj 10 (.pick (.t 6) (.t 9) (.c (.bool false)))),(au 11 10),(az 12 (.mv (.t 0)) 11 false),(az 13 (.bin .geq (.t 12) (.c (b8 48))) 11 false),(az 14 (.mv (.t 13)) 11 false),(az 15 (.mv (.t 0)) 14 true),(az 16 (.bin .leq (.t 15) (.c (b8 57))) 14 true),(az 17 (.pick (.t 14) (.t 16) (.c (.bool false))) 11 false),(aj 18 (.pick (.t 11) (.c (.bool true)) (.t 17))),(aP 2 18)])
abbrev D2:av:=(.seq (.rg [(aj 2 (.aS (.c (.bool false))))]) (.seq (.sem (erase qO)) .ret))
theorem D3:bu Tryz.prog 134 19 [(.tmp 2)] (erase D2):=⟨Tryz.f134,_,rfl,by decide,rfl,by kernel_rfl,rfl,rfl⟩
abbrev vY:List Nat:=[0,2]
def gX (c1:UInt8):Option (Bool):=
 some (((decide (97≤(c1 ||| 32)))&&(decide ((c1 ||| 32)≤122)))||((decide (48≤c1))&&(decide (c1≤57))))
theorem yA {c1:UInt8} {H:AH} {K:Exit→Env→AH→Prop}
 (kn:K .normal [(2,(.bool (((decide (97≤(c1 ||| 32)))&&(decide ((c1 ||| 32)≤122)))||((decide (48≤c1))&&(decide (c1≤57))))))] H):
 AX Tryz.prog vY 19 H.length (erase qO) K [(0,(b8 c1)),(2,(.bool false))] H:=by
 refine cU fun K' hK=> ?_
 refine aG ?_
 refine ob (fun hy1=> ?_) fun hy1=> ?_
 · refine aW hy1 ?_
   refine ob (fun aU=> ?_) fun aU=> ?_
   · refine aW aU ?_
     exact hK _ _ _ _ _ (fq (aH hy1 aU)) aq kn
   · refine aW aU ?_
     refine ob (fun bp=> ?_) fun bp=> ?_
     · refine aW bp ?_
       exact hK _ _ _ _ _ (fq (aH hy1 (aH aU bp))) aq kn
     · refine aW bp ?_
       exact hK _ _ _ _ _ (fq (aH hy1 (aH aU bp))) aq kn
 · refine aW hy1 ?_
   refine ob (fun bn=> ?_) fun bn=> ?_
   · refine aW bn ?_
     exact hK _ _ _ _ _ (fq (aH hy1 bn)) aq kn
   · refine aW bn ?_
     exact hK _ _ _ _ _ (fq (aH hy1 bn)) aq kn
theorem nj {c1:UInt8} {H0:AH} {aJ:Bool} (h:gX c1=some aJ):
 ay Tryz.prog 134 [(b8 c1)] H0 fun v H'=>v=(.bool aJ)∧H'=H0:=by
 refine eC D3 vY fun hcl K0 aO=> ?_
 rw [gX.eq_1] at h
 refine aG ?_
 refine bS aq (yA (c1:=c1) ?_)
 refine aG ?_
 obtain rfl:=aE h
 exact aO _ _ _ bC (aK hcl (br bA (.bool (((decide (97≤(c1 ||| 32)))&&(decide ((c1 ||| 32)≤122)))||((decide (48≤c1))&&(decide (c1≤57)))))) bB bt ⟨rfl,rfl⟩)
abbrev oQ:av:=(.rg [(au 3 0),(aj 4 (.call (.c (.fn 134 [])) [(.t 3)])),(au 5 4),(az 6 (.mv (.t 0)) 5 false),(az 7 (.bin .eql (.t 6) (.c (b8 45))) 5 false),(aj 8 (.pick (.t 5) (.c (.bool true)) (.t 7))),(aP 2 8)])
abbrev CB:av:=(.seq (.rg [(aj 2 (.aS (.c (.bool false))))]) (.seq (.sem (erase oQ)) .ret))
theorem CC:bu Tryz.prog 138 9 [(.tmp 2)] (erase CB):=⟨Tryz.f138,_,rfl,by decide,rfl,by kernel_rfl,rfl,rfl⟩
abbrev uK:List Nat:=[0,2]
def mq (c1:UInt8):Option (Bool):=
 (gX c1).bind fun r2=>(if r2 then
  some true
 else
  some (decide (c1=45)))
def jS (c1:UInt8):Option (Bool):=
 (mq c1).bind fun t4=>
 some t4
theorem xk {c1:UInt8} {H:AH} {K:Exit→Env→AH→Prop} {t3:Bool}
 (h:mq c1=some t3)
 (kn:K .normal [(2,(.bool t3))] H):
 AX Tryz.prog uK 9 H.length (erase oQ) K [(0,(b8 c1)),(2,(.bool false))] H:=by
 refine cU fun K' hK=> ?_
 rw [mq.eq_1] at h
 refine aG ?_
 obtain ⟨r2,hy1,h⟩:=ak h
 refine aX aq (nj hy1) ?_
 refine aG ?_
 refine b6 h (fun aU h=> ?_) fun aU h=> ?_
 · refine aW aU ?_
   obtain rfl:=aE h
   exact hK _ _ _ _ _ aN aq kn
 · refine aW aU ?_
   obtain rfl:=aE h
   exact hK _ _ _ _ _ aN aq kn
theorem Bh {c1:UInt8} {H0:AH} {aJ:Bool} (h:jS c1=some aJ):
 ay Tryz.prog 138 [(b8 c1)] H0 fun v H'=>v=(.bool aJ)∧H'=H0:=by
 refine eC CC uK fun hcl K0 aO=> ?_
 rw [jS.eq_1] at h
 refine aG ?_
 obtain ⟨t4,bp,h⟩:=ak h
 refine bS aq (xk bp ?_)
 refine aG ?_
 obtain rfl:=aE h
 exact aO _ _ _ bC (aK hcl (br bA (.bool t4)) bB bt ⟨rfl,rfl⟩)
abbrev nS:av:=(.seq (.rg [(aj 9 (.bin .lss (.t 8) (.t 7)))]) (.seq (.cond (.t 9) .skip (.exit 0)) (.seq (.blk 1 (.seq (.rg [(au 10 8),(aP 5 10)]) (.seq (.rg [(au 11 1),(au 12 0),(au 13 5),(aj 14 (.ixs (.t 12) (.t 13))),(aj 15 (.call (.t 11) [(.t 14)])),(aj 16 (.un .not (.t 15)))]) (.cond (.t 16) (.seq (.rg [(aj 4 (.aS (.c (.bool false))))]) .ret) .skip)))) (.rg [(aj 17 (.bin .add (.t 8) (.c (.int .i64 1)))),(au 8 17)]))))
abbrev CD:av:=(.seq (.rg [(aj 4 (.aS (.c (.bool false))))]) (.seq (.seq (.rg [(au 6 0),(aj 7 (.lens (.t 6))),(aj 8 (.mv (.c (.int .i64 0))))]) (.blk 0 (.loop (erase nS)))) (.seq (.rg [(aj 4 (.aS (.c (.bool true))))]) .ret)))
theorem CE:bu Tryz.prog 120 18 [(.tmp 4)] (erase CD):=⟨Tryz.f120,_,rfl,by decide,rfl,by kernel_rfl,rfl,rfl⟩
abbrev uL:List Nat:=[0,1,4,5,7,8,9,16]
def eL (s1:List UInt8):(Bool×Int)→Option (St Bool Unit (Bool×Int))
 |(t2,t3)=>
  (if (decide (t3<(s1.length:Int))) then
   (idx s1 t3).bind fun x4=>
   (jS x4).bind fun r5=>
   (if (!r5) then
    some (.ret false)
   else
    some (.dz (t2,(IntKind.wrap .i64 (t3+1)))))
  else
   some (.eZ ()))
def jT (F:Nat) (s1:List UInt8):Option (Bool):=
 ((iter (eL s1) F (false,0)).bind fun o8=>
 match o8 with
 | .inr ()=>
   some true
 | .inl r7=>
   some r7)
theorem xl {F:Nat} {t3:Int} {s1:List UInt8} {t2:Bool} {H:AH} {K:Exit→Env→AH→Prop} {o:(Bool)⊕(Unit)}
 (h:iter (eL s1) F (t2,t3)=some o)
 (dN:∀o':Unit,o= .inr o'→K (.exit 0) [] H)
 (kr:∀o':Bool,o= .inl o'→K .ret [(4,(.bool o'))] H):
 AX Tryz.prog uL 18 H.length (.loop (erase nS)) K [(0,(.str s1)),(1,(.fn 138 [])),(4,(.bool t2)),(7,(.int .i64 (s1.length:Int))),(8,(.int .i64 t3))] H:=by
 refine jl (fun s e H1=>match s with|(t2,t3)=>e=[(0,(.str s1)),(1,(.fn 138 [])),(4,(.bool t2)),(7,(.int .i64 (s1.length:Int))),(8,(.int .i64 t3))]∧H1=H) h ⟨rfl,rfl⟩ ?_
 rintro K' ⟨t2,t3⟩ st e H ⟨rfl,rfl⟩ h hN hB hR hX
 rw [eL.eq_1] at h
 refine aG ?_
 refine b7 h (fun hy1 h=> ?_) fun hy1 h=> ?_
 · obtain ⟨x4,aU,h⟩:=ak h
   refine aW aU ?_
   obtain ⟨r5,bp,h⟩:=ak h
   refine aX aq (Bh bp) ?_
   refine aG ?_
   refine b7 h (fun bn h=> ?_) fun bn h=> ?_
   · refine aG ?_
     obtain rfl:=aE h
     exact hX _ _ _ _ _ eK aN aq (kr _ (hR _ rfl))
   · refine aG ?_
     obtain rfl:=aE h
     exact hN _ rfl _ _ _ _ aN aq ⟨rfl,rfl⟩
 · refine aG ?_
   obtain rfl:=aE h
   exact hX _ _ _ _ _ eK WE.nil aq (dN _ (hB _ rfl))
theorem Bi {F:Nat} {s1:List UInt8} {H0:AH} {aJ:Bool} (h:jT F s1=some aJ):
 ay Tryz.prog 120 [(.str s1),(.fn 138 [])] H0 fun v H'=>v=(.bool aJ)∧H'=H0:=by
 refine eC CE uL fun hcl K0 aO=> ?_
 rw [jT.eq_1] at h
 refine aG ?_
 obtain ⟨o8,bG,h⟩:=ak h
 refine bS aq (xl bG ?_ ?_)
 · rintro ⟨⟩ rfl
   try dsimp only at h
   refine aG ?_
   obtain rfl:=aE h
   exact aO _ _ _ bC (aK hcl (br bA (.bool true)) bB bt ⟨rfl,rfl⟩)
 · rintro r7 rfl
   try dsimp only at h
   refine aG ?_
   obtain rfl:=aE h
   exact aO _ _ _ bC (aK hcl (br bA (.bool r7)) bB bt ⟨rfl,rfl⟩)
abbrev sO:av:=(.rg [(au 3 0),(aj 4 (.bin .neq (.t 3) (.c (.str [])))),(au 5 4),(az 6 (.mv (.t 0)) 5 true),(az 7 (.ixs (.t 6) (.c (.int .i64 0))) 5 true),(az 8 (.bin .neq (.t 7) (.c (b8 45))) 5 true),(aj 9 (.pick (.t 5) (.t 8) (.c (.bool false)))),(au 10 9),(az 11 (.mv (.t 0)) 10 true),(az 12 (.mv (.t 0)) 10 true),(az 13 (.lens (.t 12)) 10 true),(az 14 (.bin .sub (.t 13) (.c (.int .i64 1))) 10 true),(az 15 (.ixs (.t 11) (.t 14)) 10 true),(az 16 (.bin .neq (.t 15) (.c (b8 45))) 10 true),(aj 17 (.pick (.t 10) (.t 16) (.c (.bool false)))),(au 18 17),(az 19 (.mv (.t 0)) 18 true),(az 20 (.call (.c (.fn 120 [])) [(.t 19),(.c (.fn 138 []))]) 18 true),(aj 21 (.pick (.t 18) (.t 20) (.c (.bool false)))),(aP 2 21)])
abbrev Fs:av:=(.seq (.rg [(aj 2 (.aS (.c (.bool false))))]) (.seq (.sem (erase sO)) .ret))
theorem Ft:bu Tryz.prog 111 22 [(.tmp 2)] (erase Fs):=⟨Tryz.f111,_,rfl,by decide,rfl,by kernel_rfl,rfl,rfl⟩
abbrev xS:List Nat:=[0,2]
def kV (F:Nat) (s1:List UInt8):Option (Bool):=
 (if (!decide (s1=([]:List UInt8))) then
  (idx s1 0).bind fun x2=>
  (if (!decide (x2=45)) then
   (idx s1 (IntKind.wrap .i64 ((s1.length:Int) - 1))).bind fun x3=>
   (if (!decide (x3=45)) then
    (jT F s1).bind fun r4=>some r4
   else
    some false)
  else
   some false)
 else
  some false)
def mP (F:Nat) (s1:List UInt8):Option (Bool):=
 (kV F s1).bind fun t6=>
 some t6
theorem zR {F:Nat} {s1:List UInt8} {H:AH} {K:Exit→Env→AH→Prop} {t5:Bool}
 (h:kV F s1=some t5)
 (kn:K .normal [(2,(.bool t5))] H):
 AX Tryz.prog xS 22 H.length (erase sO) K [(0,(.str s1)),(2,(.bool false))] H:=by
 refine cU fun K' hK=> ?_
 rw [kV.eq_1] at h
 refine aG ?_
 refine b6 h (fun hy1 h=> ?_) fun hy1 h=> ?_
 · obtain ⟨x2,aU,h⟩:=ak h
   refine aW (aH hy1 aU) ?_
   refine b6 h (fun bp h=> ?_) fun bp h=> ?_
   · obtain ⟨x3,bn,h⟩:=ak h
     refine aW (aH bp bn) ?_
     refine b6 h (fun bG h=> ?_) fun bG h=> ?_
     · refine aW bG ?_
       obtain ⟨r4,bY,h⟩:=ak h
       refine aX aq (Bi bY) ?_
       refine aG ?_
       obtain rfl:=aE h
       exact hK _ _ _ _ _ aN aq kn
     · refine aW bG ?_
       obtain rfl:=aE h
       exact hK _ _ _ _ _ aN aq kn
   · refine aW bp ?_
     obtain rfl:=aE h
     exact hK _ _ _ _ _ aN aq kn
 · refine aW hy1 ?_
   obtain rfl:=aE h
   exact hK _ _ _ _ _ aN aq kn
theorem D4 {F:Nat} {s1:List UInt8} {H0:AH} {aJ:Bool} (h:mP F s1=some aJ):
 ay Tryz.prog 111 [(.str s1)] H0 fun v H'=>v=(.bool aJ)∧H'=H0:=by
 refine eC Ft xS fun hcl K0 aO=> ?_
 rw [mP.eq_1] at h
 refine aG ?_
 obtain ⟨t6,cK,h⟩:=ak h
 refine bS aq (zR cK ?_)
 refine aG ?_
 obtain rfl:=aE h
 exact aO _ _ _ bC (aK hcl (br bA (.bool t6)) bB bt ⟨rfl,rfl⟩)
abbrev Bj:av:=(.seq (.rg [(aj 2 (.aS (.c (.bool false))))]) (.seq (.rg [(au 3 0),(aj 4 (.call (.c (.fn 111 [])) [(.t 3)])),(aj 5 (.un .not (.t 4))),(aP 2 5)]) .ret))
theorem Bk:bu Tryz.prog 110 6 [(.tmp 2)] (erase Bj):=⟨Tryz.f110,_,rfl,by decide,rfl,by kernel_rfl,rfl,rfl⟩
abbrev Bl:List Nat:=[0,2]
def iX (F:Nat) (x1:List UInt8):Option (Bool):=
 (mP F x1).bind fun r2=>some (!r2)
theorem zS {F:Nat} {x1:List UInt8} {H0:AH} {aJ:Bool} (h:iX F x1=some aJ):
 ay Tryz.prog 110 [(.str x1)] H0 fun v H'=>v=(.bool aJ)∧H'=H0:=by
 refine eC Bk Bl fun hcl K0 aO=> ?_
 rw [iX.eq_1] at h
 refine aG ?_
 obtain ⟨r2,hy1,h⟩:=ak h
 refine aX aq (D4 hy1) ?_
 refine aG ?_
 obtain rfl:=aE h
 exact aO _ _ _ bC (aK hcl (br bA (.bool (!r2))) bB bt ⟨rfl,rfl⟩)
abbrev iY:av:=(.seq (.rg [(aj 9 (.bin .lss (.t 8) (.t 7)))]) (.seq (.cond (.t 9) .skip (.exit 0)) (.seq (.blk 1 (.seq (.rg [(au 10 8),(aP 5 10)]) (.seq (.rg [(au 11 1),(au 12 0),(au 13 5),(aj 14 (.mK 1 (.t 12) (.t 13))),(aj 15 (.ld (.t 14) none)),(aj 16 (.call (.t 11) [(.t 15)]))]) (.cond (.t 16) (.seq (.rg [(au 17 5),(aP 4 17)]) .ret) .skip)))) (.rg [(aj 18 (.bin .add (.t 8) (.c (.int .i64 1)))),(au 8 18)]))))
abbrev tY:av:=(.seq (.rg [(aj 4 (.aS (.c (.int .i64 0))))]) (.seq (.seq (.rg [(au 6 0),(aj 7 (.len (.t 6))),(aj 8 (.mv (.c (.int .i64 0))))]) (.blk 0 (.loop (erase iY)))) (.seq (.rg [(aj 4 (.aS (.c (.int .i64 (-1)))))]) .ret)))
theorem tZ:bu Tryz.prog 112 19 [(.tmp 4)] (erase tY):=⟨Tryz.f112,_,rfl,by decide,rfl,by kernel_rfl,rfl,rfl⟩
abbrev kW:List Nat:=[0,1,4,5,7,8,9,16]
def cG (F:Nat) (s1:List (List UInt8)):(Int×Int)→Option (St Int Unit (Int×Int))
 |(t2,t3)=>
  (if (decide (t3<(s1.length:Int))) then
   (idx s1 t3).bind fun x4=>
   (iX F x4).bind fun r5=>
   (if r5 then
    some (.ret t3)
   else
    some (.dz (t2,(IntKind.wrap .i64 (t3+1)))))
  else
   some (.eZ ()))
def gi (F:Nat) (s1:List (List UInt8)):Option (Int):=
 ((iter (cG F s1) F (0,0)).bind fun o8=>
 match o8 with
 | .inr ()=>
   some (-1)
 | .inl r7=>
   some r7)
theorem oR {F:Nat} {t3:Int} {s1:List (List UInt8)} {t2:Int} {H:AH} {K:Exit→Env→AH→Prop} {o:(Int)⊕(Unit)}
 (h:iter (cG F s1) F (t2,t3)=some o)
 (dN:∀o':Unit,o= .inr o'→K (.exit 0) [] H)
 (kr:∀o':Int,o= .inl o'→K .ret [(4,(.int .i64 o'))] H):
 AX Tryz.prog kW 19 H.length (.loop (erase iY)) K [(0,(.sl .n 1 (ml AV.str s1))),(1,(.fn 110 [])),(4,(.int .i64 t2)),(7,(.int .i64 (s1.length:Int))),(8,(.int .i64 t3))] H:=by
 refine jl (fun s e H1=>match s with|(t2,t3)=>e=[(0,(.sl .n 1 (ml AV.str s1))),(1,(.fn 110 [])),(4,(.int .i64 t2)),(7,(.int .i64 (s1.length:Int))),(8,(.int .i64 t3))]∧H1=H) h ⟨rfl,rfl⟩ ?_
 rintro K' ⟨t2,t3⟩ st e H ⟨rfl,rfl⟩ h hN hB hR hX
 rw [cG.eq_1] at h
 refine aG ?_
 refine b7 h (fun hy1 h=> ?_) fun hy1 h=> ?_
 · obtain ⟨x4,aU,h⟩:=ak h
   refine aW aU ?_
   obtain ⟨r5,bp,h⟩:=ak h
   refine aX aq (zS bp) ?_
   refine aG ?_
   refine b7 h (fun bn h=> ?_) fun bn h=> ?_
   · refine aG ?_
     obtain rfl:=aE h
     exact hX _ _ _ _ _ eK aN aq (kr _ (hR _ rfl))
   · refine aG ?_
     obtain rfl:=aE h
     exact hN _ rfl _ _ _ _ aN aq ⟨rfl,rfl⟩
 · refine aG ?_
   obtain rfl:=aE h
   exact hX _ _ _ _ _ eK WE.nil aq (dN _ (hB _ rfl))
theorem sP {F:Nat} {s1:List (List UInt8)} {H0:AH} {aJ:Int} (h:gi F s1=some aJ):
 ay Tryz.prog 112 [(.sl .n 1 (ml AV.str s1)),(.fn 110 [])] H0 fun v H'=>v=(.int .i64 aJ)∧H'=H0:=by
 refine eC tZ kW fun hcl K0 aO=> ?_
 rw [gi.eq_1] at h
 refine aG ?_
 obtain ⟨o8,bG,h⟩:=ak h
 refine bS aq (oR bG ?_ ?_)
 · rintro ⟨⟩ rfl
   try dsimp only at h
   refine aG ?_
   obtain rfl:=aE h
   exact aO _ _ _ bC (aK hcl (br bA (.int .i64 (-1))) bB bt ⟨rfl,rfl⟩)
 · rintro r7 rfl
   try dsimp only at h
   refine aG ?_
   obtain rfl:=aE h
   exact aO _ _ _ bC (aK hcl (br bA (.int .i64 r7)) bB bt ⟨rfl,rfl⟩)
abbrev qv:av:=(.seq (.rg [(aj 4 (.aS (.c (.bool false))))]) (.seq (.rg [(au 5 0),(au 6 1),(aj 7 (.call (.c (.fn 112 [])) [(.t 5),(.t 6)])),(aj 8 (.bin .geq (.t 7) (.c (.int .i64 0)))),(aP 4 8)]) .ret))
theorem qw:bu Tryz.prog 72 9 [(.tmp 4)] (erase qv):=⟨Tryz.f72,_,rfl,by decide,rfl,by kernel_rfl,rfl,rfl⟩
abbrev qx:List Nat:=[0,1,4]
def dU (F:Nat) (s1:List (List UInt8)):Option (Bool):=
 (gi F s1).bind fun r2=>some (decide (0≤r2))
theorem oS {F:Nat} {s1:List (List UInt8)} {H0:AH} {aJ:Bool} (h:dU F s1=some aJ):
 ay Tryz.prog 72 [(.sl .n 1 (ml AV.str s1)),(.fn 110 [])] H0 fun v H'=>v=(.bool aJ)∧H'=H0:=by
 refine eC qw qx fun hcl K0 aO=> ?_
 rw [dU.eq_1] at h
 refine aG ?_
 obtain ⟨r2,hy1,h⟩:=ak h
 refine aX aq (sP hy1) ?_
 refine aG ?_
 obtain rfl:=aE h
 exact aO _ _ _ bC (aK hcl (br bA (.bool (decide (0≤r2)))) bB bt ⟨rfl,rfl⟩)
abbrev qP:av:=(.rg [(au 4 0),(aj 5 (.lens (.t 4))),(aj 6 (.bin .gtr (.t 5) (.c (.int .i64 1)))),(au 7 6),(az 8 (.mv (.t 0)) 7 true),(az 9 (.ixs (.t 8) (.c (.int .i64 0))) 7 true),(az 10 (.bin .eql (.t 9) (.c (b8 91))) 7 true),(aj 11 (.pick (.t 7) (.t 10) (.c (.bool false)))),(au 12 11),(az 13 (.mv (.t 0)) 12 true),(az 14 (.mv (.t 0)) 12 true),(az 15 (.lens (.t 14)) 12 true),(az 16 (.bin .sub (.t 15) (.c (.int .i64 1))) 12 true),(az 17 (.ixs (.t 13) (.t 16)) 12 true),(az 18 (.bin .eql (.t 17) (.c (b8 93))) 12 true),(aj 19 (.pick (.t 12) (.t 18) (.c (.bool false))))])
abbrev qQ:av:=(.rg [(au 26 3),(aj 27 (.len (.t 26))),(aj 28 (.bin .eql (.t 27) (.c (.int .i64 4)))),(au 29 28),(az 30 (.mv (.t 3)) 29 true),(az 31 (.call (.c (.fn 72 [])) [(.t 30),(.c (.fn 108 []))]) 29 true),(az 32 (.un .not (.t 31)) 29 true),(aj 33 (.pick (.t 29) (.t 32) (.c (.bool false)))),(aP 2 33)])
abbrev D5:av:=(.seq (.rg [(aj 2 (.aS (.c (.bool false))))]) (.seq (.seq (.sem (erase qP)) (.cond (.t 19) (.seq (.rg [(au 20 0),(au 21 0),(aj 22 (.lens (.t 21))),(aj 23 (.bin .sub (.t 22) (.c (.int .i64 1)))),(aj 24 (.xd (.t 20) (some (.c (.int .i64 1))) (some (.t 23)))),(aj 25 (.call (.c (.fn 65 [])) [(.t 24),(.c (.str [46]))])),(aP 3 25)]) (.seq (.sem (erase qQ)) .ret)) .skip)) (.seq (.rg [(au 34 0),(aj 35 (.call (.c (.fn 65 [])) [(.t 34),(.c (.str [46]))])),(aj 36 (.call (.c (.fn 72 [])) [(.t 35),(.c (.fn 110 []))])),(aj 37 (.un .not (.t 36))),(aP 2 37)]) .ret)))
theorem D6:bu Tryz.prog 71 38 [(.tmp 2)] (erase D5):=⟨Tryz.f71,_,rfl,by decide,rfl,by kernel_rfl,rfl,rfl⟩
abbrev oT:List Nat:=[0,2,3,19]
def iu (s1:List UInt8):Option (Bool):=
 (if (decide (1<(s1.length:Int))) then
  (idx s1 0).bind fun x2=>
  (if (decide (x2=91)) then
   (idx s1 (IntKind.wrap .i64 ((s1.length:Int) - 1))).bind fun x3=>some (decide (x3=93))
  else
   some false)
 else
  some false)
def j6 (F:Nat) (r7:List (List UInt8)):Option (Bool):=
 (if (decide ((r7.length:Int)=4)) then
  (ei F r7).bind fun r8=>some (!r8)
 else
  some false)
def jo (F:Nat) (s1:List UInt8):Option (Bool):=
 (iu s1).bind fun t5=>
 (if t5 then
  (sub s1 1 (IntKind.wrap .i64 ((s1.length:Int) - 1))).bind fun x6=>
  (strings_Split x6 ([46]:List UInt8)).bind fun r7=>(j6 F r7).bind fun t10=>
  some t10
 else
  (strings_Split s1 ([46]:List UInt8)).bind fun eM=>(dU F eM).bind fun gj=>some (!gj))
theorem yB {s1:List UInt8} {H:AH} {K:Exit→Env→AH→Prop} {t4:Bool}
 (h:iu s1=some t4)
 (kn:K .normal [(0,(.str s1)),(19,(.bool t4))] H):
 AX Tryz.prog oT 38 H.length (erase qP) K [(0,(.str s1))] H:=by
 refine cU fun K' hK=> ?_
 rw [iu.eq_1] at h
 refine aG ?_
 refine b6 h (fun hy1 h=> ?_) fun hy1 h=> ?_
 · obtain ⟨x2,aU,h⟩:=ak h
   refine aW (aH hy1 aU) ?_
   refine b6 h (fun bp h=> ?_) fun bp h=> ?_
   · obtain ⟨x3,bn,h⟩:=ak h
     refine aW (aH bp bn) ?_
     obtain rfl:=aE h
     exact hK _ _ _ _ _ aN aq kn
   · refine aW bp ?_
     obtain rfl:=aE h
     exact hK _ _ _ _ _ aN aq kn
 · refine aW hy1 ?_
   obtain rfl:=aE h
   exact hK _ _ _ _ _ aN aq kn
theorem yC {F:Nat} {r7:List (List UInt8)} {H:AH} {K:Exit→Env→AH→Prop} {t9:Bool}
 (h:j6 F r7=some t9)
 (kn:K .normal [(2,(.bool t9))] H):
 AX Tryz.prog oT 38 H.length (erase qQ) K [(3,(.sl .n 1 (ml AV.str r7)))] H:=by
 refine cU fun K' hK=> ?_
 rw [j6.eq_1] at h
 refine aG ?_
 refine b6 h (fun dO h=> ?_) fun dO h=> ?_
 · refine aW dO ?_
   obtain ⟨r8,cT,h⟩:=ak h
   refine aX aq (qu cT) ?_
   refine aG ?_
   obtain rfl:=aE h
   exact hK _ _ _ _ _ aN aq kn
 · refine aW dO ?_
   obtain rfl:=aE h
   exact hK _ _ _ _ _ aN aq kn
theorem uM {F:Nat} {s1:List UInt8} {H0:AH} {aJ:Bool} (h:jo F s1=some aJ):
 ay Tryz.prog 71 [(.str s1)] H0 fun v H'=>v=(.bool aJ)∧H'=H0:=by
 refine eC D6 oT fun hcl K0 aO=> ?_
 rw [jo.eq_1] at h
 refine aG ?_
 obtain ⟨t5,bG,h⟩:=ak h
 refine bS aq (yB bG ?_)
 refine aG ?_
 refine b7 h (fun bY h=> ?_) fun bY h=> ?_
 · obtain ⟨x6,cK,h⟩:=ak h
   refine aW cK ?_
   obtain ⟨r7,cE,h⟩:=ak h
   refine aX aq (gf (s1:=x6) (s2:=([46]:List UInt8)) cE) ?_
   refine aG ?_
   obtain ⟨t10,cP,h⟩:=ak h
   refine bS aq (yC cP ?_)
   refine aG ?_
   obtain rfl:=aE h
   exact aO _ _ _ bC (aK hcl (br bA (.bool t10)) bB bt ⟨rfl,rfl⟩)
 · refine aG ?_
   obtain ⟨eM,dI,h⟩:=ak h
   refine aX aq (gf (s1:=s1) (s2:=([46]:List UInt8)) dI) ?_
   refine aG ?_
   obtain ⟨gj,dx,h⟩:=ak h
   refine aX aq (oS dx) ?_
   refine aG ?_
   obtain rfl:=aE h
   exact aO _ _ _ bC (aK hcl (br bA (.bool (!gj))) bB bt ⟨rfl,rfl⟩)
abbrev Bm:av:=(.seq (.rg [(aj 2 (.aS (.c (.bool false))))]) (.seq (.rg [(au 3 0),(aj 4 (.lens (.t 3))),(aj 5 (.bin .gtr (.t 4) (.c (.int .i64 63)))),(aP 2 5)]) .ret))
theorem Bn:bu Tryz.prog 70 6 [(.tmp 2)] (erase Bm):=⟨Tryz.f70,_,rfl,by decide,rfl,by kernel_rfl,rfl,rfl⟩
abbrev Bo:List Nat:=[0,2]
def iZ (x1:List UInt8):Option (Bool):=
 some (decide (63<(x1.length:Int)))
theorem zT {x1:List UInt8} {H0:AH} {aJ:Bool} (h:iZ x1=some aJ):
 ay Tryz.prog 70 [(.str x1)] H0 fun v H'=>v=(.bool aJ)∧H'=H0:=by
 refine eC Bn Bo fun hcl K0 aO=> ?_
 rw [iZ.eq_1] at h
 refine aG ?_
 obtain rfl:=aE h
 exact aO _ _ _ bC (aK hcl (br bA (.bool (decide (63<(x1.length:Int))))) bB bt ⟨rfl,rfl⟩)
abbrev iQ:av:=(.seq (.rg [(aj 9 (.bin .lss (.t 8) (.t 7)))]) (.seq (.cond (.t 9) .skip (.exit 0)) (.seq (.blk 1 (.seq (.rg [(au 10 8),(aP 5 10)]) (.seq (.rg [(au 11 1),(au 12 0),(au 13 5),(aj 14 (.mK 1 (.t 12) (.t 13))),(aj 15 (.ld (.t 14) none)),(aj 16 (.call (.t 11) [(.t 15)]))]) (.cond (.t 16) (.seq (.rg [(au 17 5),(aP 4 17)]) .ret) .skip)))) (.rg [(aj 18 (.bin .add (.t 8) (.c (.int .i64 1)))),(au 8 18)]))))
abbrev sQ:av:=(.seq (.rg [(aj 4 (.aS (.c (.int .i64 0))))]) (.seq (.seq (.rg [(au 6 0),(aj 7 (.len (.t 6))),(aj 8 (.mv (.c (.int .i64 0))))]) (.blk 0 (.loop (erase iQ)))) (.seq (.rg [(aj 4 (.aS (.c (.int .i64 (-1)))))]) .ret)))
theorem sR:bu Tryz.prog 112 19 [(.tmp 4)] (erase sQ):=⟨Tryz.f112,_,rfl,by decide,rfl,by kernel_rfl,rfl,rfl⟩
abbrev kH:List Nat:=[0,1,4,5,7,8,9,16]
def cA (s1:List (List UInt8)):(Int×Int)→Option (St Int Unit (Int×Int))
 |(t2,t3)=>
  (if (decide (t3<(s1.length:Int))) then
   (idx s1 t3).bind fun x4=>
   (iZ x4).bind fun r5=>
   (if r5 then
    some (.ret t3)
   else
    some (.dz (t2,(IntKind.wrap .i64 (t3+1)))))
  else
   some (.eZ ()))
def fQ (F:Nat) (s1:List (List UInt8)):Option (Int):=
 ((iter (cA s1) F (0,0)).bind fun o8=>
 match o8 with
 | .inr ()=>
   some (-1)
 | .inl r7=>
   some r7)
theorem oc {F:Nat} {t3:Int} {s1:List (List UInt8)} {t2:Int} {H:AH} {K:Exit→Env→AH→Prop} {o:(Int)⊕(Unit)}
 (h:iter (cA s1) F (t2,t3)=some o)
 (dN:∀o':Unit,o= .inr o'→K (.exit 0) [] H)
 (kr:∀o':Int,o= .inl o'→K .ret [(4,(.int .i64 o'))] H):
 AX Tryz.prog kH 19 H.length (.loop (erase iQ)) K [(0,(.sl .n 1 (ml AV.str s1))),(1,(.fn 70 [])),(4,(.int .i64 t2)),(7,(.int .i64 (s1.length:Int))),(8,(.int .i64 t3))] H:=by
 refine jl (fun s e H1=>match s with|(t2,t3)=>e=[(0,(.sl .n 1 (ml AV.str s1))),(1,(.fn 70 [])),(4,(.int .i64 t2)),(7,(.int .i64 (s1.length:Int))),(8,(.int .i64 t3))]∧H1=H) h ⟨rfl,rfl⟩ ?_
 rintro K' ⟨t2,t3⟩ st e H ⟨rfl,rfl⟩ h hN hB hR hX
 rw [cA.eq_1] at h
 refine aG ?_
 refine b7 h (fun hy1 h=> ?_) fun hy1 h=> ?_
 · obtain ⟨x4,aU,h⟩:=ak h
   refine aW aU ?_
   obtain ⟨r5,bp,h⟩:=ak h
   refine aX aq (zT bp) ?_
   refine aG ?_
   refine b7 h (fun bn h=> ?_) fun bn h=> ?_
   · refine aG ?_
     obtain rfl:=aE h
     exact hX _ _ _ _ _ eK aN aq (kr _ (hR _ rfl))
   · refine aG ?_
     obtain rfl:=aE h
     exact hN _ rfl _ _ _ _ aN aq ⟨rfl,rfl⟩
 · refine aG ?_
   obtain rfl:=aE h
   exact hX _ _ _ _ _ eK WE.nil aq (dN _ (hB _ rfl))
theorem rT {F:Nat} {s1:List (List UInt8)} {H0:AH} {aJ:Int} (h:fQ F s1=some aJ):
 ay Tryz.prog 112 [(.sl .n 1 (ml AV.str s1)),(.fn 70 [])] H0 fun v H'=>v=(.int .i64 aJ)∧H'=H0:=by
 refine eC sR kH fun hcl K0 aO=> ?_
 rw [fQ.eq_1] at h
 refine aG ?_
 obtain ⟨o8,bG,h⟩:=ak h
 refine bS aq (oc bG ?_ ?_)
 · rintro ⟨⟩ rfl
   try dsimp only at h
   refine aG ?_
   obtain rfl:=aE h
   exact aO _ _ _ bC (aK hcl (br bA (.int .i64 (-1))) bB bt ⟨rfl,rfl⟩)
 · rintro r7 rfl
   try dsimp only at h
   refine aG ?_
   obtain rfl:=aE h
   exact aO _ _ _ bC (aK hcl (br bA (.int .i64 r7)) bB bt ⟨rfl,rfl⟩)
abbrev oU:av:=(.seq (.rg [(aj 4 (.aS (.c (.bool false))))]) (.seq (.rg [(au 5 0),(au 6 1),(aj 7 (.call (.c (.fn 112 [])) [(.t 5),(.t 6)])),(aj 8 (.bin .geq (.t 7) (.c (.int .i64 0)))),(aP 4 8)]) .ret))
theorem oV:bu Tryz.prog 72 9 [(.tmp 4)] (erase oU):=⟨Tryz.f72,_,rfl,by decide,rfl,by kernel_rfl,rfl,rfl⟩
abbrev oW:List Nat:=[0,1,4]
def dL (F:Nat) (s1:List (List UInt8)):Option (Bool):=
 (fQ F s1).bind fun r2=>some (decide (0≤r2))
theorem od {F:Nat} {s1:List (List UInt8)} {H0:AH} {aJ:Bool} (h:dL F s1=some aJ):
 ay Tryz.prog 72 [(.sl .n 1 (ml AV.str s1)),(.fn 70 [])] H0 fun v H'=>v=(.bool aJ)∧H'=H0:=by
 refine eC oV oW fun hcl K0 aO=> ?_
 rw [dL.eq_1] at h
 refine aG ?_
 obtain ⟨r2,hy1,h⟩:=ak h
 refine aX aq (rT hy1) ?_
 refine aG ?_
 obtain rfl:=aE h
 exact aO _ _ _ bC (aK hcl (br bA (.bool (decide (0≤r2)))) bB bt ⟨rfl,rfl⟩)
abbrev qR:av:=(.rg [(au 4 0),(aj 5 (.lens (.t 4))),(aj 6 (.bin .leq (.t 5) (.c (.int .i64 255)))),(au 7 6),(az 8 (.mv (.t 0)) 7 true),(az 9 (.call (.c (.fn 71 [])) [(.t 8)]) 7 true),(aj 10 (.pick (.t 7) (.t 9) (.c (.bool false)))),(au 11 10),(az 12 (.mv (.t 0)) 11 true),(az 13 (.call (.c (.fn 65 [])) [(.t 12),(.c (.str [46]))]) 11 true),(az 14 (.mv (.t 3)) 11 true),(az 15 (.call (.c (.fn 72 [])) [(.t 13),(.t 14)]) 11 true),(az 16 (.un .not (.t 15)) 11 true),(aj 17 (.pick (.t 11) (.t 16) (.c (.bool false)))),(aP 2 17)])
abbrev D7:av:=(.seq (.rg [(aj 2 (.aS (.c (.bool false))))]) (.seq (.rg [(aj 3 (.aS (.c (.fn 70 []))))]) (.seq (.sem (erase qR)) .ret)))
theorem D8:bu Tryz.prog 31 18 [(.tmp 2)] (erase D7):=⟨Tryz.f31,_,rfl,by decide,rfl,by kernel_rfl,rfl,rfl⟩
abbrev vZ:List Nat:=[0,2,3]
def j8 (F:Nat) (s1:List UInt8):Option (Bool):=
 (if (decide ((s1.length:Int)≤255)) then
  (jo F s1).bind fun r2=>
  (if r2 then
   (strings_Split s1 ([46]:List UInt8)).bind fun r3=>(dL F r3).bind fun r4=>some (!r4)
  else
   some false)
 else
  some false)
def gY (F:Nat) (s1:List UInt8):Option (Bool):=
 (j8 F s1).bind fun t6=>
 some t6
theorem yD {F:Nat} {s1:List UInt8} {H:AH} {K:Exit→Env→AH→Prop} {t5:Bool}
 (h:j8 F s1=some t5)
 (kn:K .normal [(2,(.bool t5))] H):
 AX Tryz.prog vZ 18 H.length (erase qR) K [(0,(.str s1)),(2,(.bool false)),(3,(.fn 70 []))] H:=by
 refine cU fun K' hK=> ?_
 rw [j8.eq_1] at h
 refine aG ?_
 refine b6 h (fun hy1 h=> ?_) fun hy1 h=> ?_
 · refine aW hy1 ?_
   obtain ⟨r2,aU,h⟩:=ak h
   refine aX aq (uM aU) ?_
   refine aG ?_
   refine b6 h (fun bp h=> ?_) fun bp h=> ?_
   · refine aW bp ?_
     obtain ⟨r3,bn,h⟩:=ak h
     refine aX aq (gf (s1:=s1) (s2:=([46]:List UInt8)) bn) ?_
     refine aG ?_
     obtain ⟨r4,bG,h⟩:=ak h
     refine aX aq (od bG) ?_
     refine aG ?_
     obtain rfl:=aE h
     exact hK _ _ _ _ _ aN aq kn
   · refine aW bp ?_
     obtain rfl:=aE h
     exact hK _ _ _ _ _ aN aq kn
 · refine aW hy1 ?_
   obtain rfl:=aE h
   exact hK _ _ _ _ _ aN aq kn
theorem uN {F:Nat} {s1:List UInt8} {H0:AH} {aJ:Bool} (h:gY F s1=some aJ):
 ay Tryz.prog 31 [(.str s1)] H0 fun v H'=>v=(.bool aJ)∧H'=H0:=by
 refine eC D8 vZ fun hcl K0 aO=> ?_
 rw [gY.eq_1] at h
 refine aG ?_
 obtain ⟨t6,bY,h⟩:=ak h
 refine bS aq (yD bY ?_)
 refine aG ?_
 obtain rfl:=aE h
 exact aO _ _ _ bC (aK hcl (br bA (.bool t6)) bB bt ⟨rfl,rfl⟩)
abbrev kX:av:=(.seq (.seq (.rg [(au 6 4),(aj 7 (.bin .geq (.t 6) (.c (.int .i64 0))))]) (.cond (.t 7) .skip (.exit 0))) (.seq (.blk 1 (.rg [(au 10 3),(au 11 0),(au 12 4),(aj 13 (.bin .shr (.t 11) (.t 12))),(aj 14 (.bin .and (.t 13) (.c (.int .u32 15)))),(aj 15 (.ixs (.c (.str [48,49,50,51,52,53,54,55,56,57,97,98,99,100,101,102])) (.t 14))),(aj 16 (.fS 1 [(.t 15)])),(aj 17 (.app 1 1 (.t 10) (.t 16))),(aP 3 17)])) (.rg [(au 8 4),(aj 9 (.bin .sub (.t 8) (.c (.int .i64 4)))),(aP 4 9)])))
abbrev yE:av:=(.seq (.rg [(aj 2 (.aS (.c (.str []))))]) (.seq (.rg [(aj 5 (.fS 1 [(.c (b8 98))])),(aP 3 5)]) (.seq (.seq (.rg [(aj 4 (.aS (.c (.int .i64 28))))]) (.blk 0 (.loop (erase kX)))) (.seq (.rg [(au 18 3),(aj 19 (.iJ .bs (.t 18))),(aP 2 19)]) .ret))))
theorem yF:bu Tryz.prog 32 20 [(.tmp 2)] (erase yE):=⟨Tryz.f32,_,rfl,by decide,rfl,by kernel_rfl,rfl,rfl⟩
abbrev oZ:List Nat:=[0,2,3,4,7]
def fA (xT:Int):((List UInt8)×Int)→Option (St (List UInt8) (List UInt8) ((List UInt8)×Int))
 |(b2,Ic)=>
  (if (decide (0≤Ic)) then
   (OW .u32 xT Ic).bind fun x4=>
   (idx ([48,49,50,51,52,53,54,55,56,57,97,98,99,100,101,102]:List UInt8) (Gn .u32 x4 15)).bind fun x5=>
   (cF 1 b2 ([x5]:List UInt8)).bind fun x6=>some (.dz (x6,(IntKind.wrap .i64 (Ic - 4))))
  else
   some (.eZ b2))
def gG (F:Nat) (xT:Int):Option ((List UInt8)):=
 ((iter (fA xT) F (([98]:List UInt8),28)).bind fun o9=>
 match o9 with
 | .inr b8=>
   some b8
 | .inl _=>none)
theorem ua {F:Nat} {Ic:Int} {xT:Int} {b2:List UInt8} {H:AH} {K:Exit→Env→AH→Prop} {o:((List UInt8))⊕((List UInt8))}
 (h:iter (fA xT) F (b2,Ic)=some o)
 (dN:∀o':(List UInt8),o= .inr o'→K (.exit 0) [(3,(.sl .own 1 (ml b8 o')))] H):
 AX Tryz.prog oZ 20 H.length (.loop (erase kX)) K [(0,(.int .u32 xT)),(3,(.sl .own 1 (ml b8 b2))),(4,(.int .i64 Ic))] H:=by
 refine jl (fun s e H1=>match s with|(b2,Ic)=>e=[(0,(.int .u32 xT)),(3,(.sl .own 1 (ml b8 b2))),(4,(.int .i64 Ic))]∧H1=H) h ⟨rfl,rfl⟩ ?_
 rintro K' ⟨b2,Ic⟩ st e H ⟨rfl,rfl⟩ h hN hB hR hX
 rw [fA.eq_1] at h
 refine aG ?_
 refine b7 h (fun hy1 h=> ?_) fun hy1 h=> ?_
 · obtain ⟨x4,aU,h⟩:=ak h
   have bp:=Vb (k':= .i64) aU
   obtain ⟨x5,bn,h⟩:=ak h
   obtain ⟨x6,bG,h⟩:=ak h
   have bY:cF 1 (ml b8 b2) [(b8 x5)]=some (ml b8 x6):=eS (f:=b8) bG
   refine aW (aH bp (aH bn bY)) ?_
   obtain rfl:=aE h
   exact hN _ rfl _ _ _ _ aN aq ⟨rfl,rfl⟩
 · refine aG ?_
   obtain rfl:=aE h
   exact hX _ _ _ _ _ eK aN aq (dN _ (hB _ rfl))
theorem xm {F:Nat} {xT:Int} {H0:AH} {aJ:List UInt8} (h:gG F xT=some aJ):
 ay Tryz.prog 32 [(.int .u32 xT)] H0 fun v H'=>v=(.str aJ)∧H'=H0:=by
 refine eC yF oZ fun hcl K0 aO=> ?_
 rw [gG.eq_1] at h
 refine aG ?_
 obtain ⟨o9,cK,h⟩:=ak h
 refine bS aq (ua cK ?_)
 · rintro b8 rfl
   try dsimp only at h
   refine aG ?_
   obtain rfl:=aE h
   exact aO _ _ _ bC (aK hcl (br bA (.str b8)) bB bt ⟨rfl,rfl⟩)
abbrev Ie:av:=(.seq (.rg [(aj 1 (.box (.t 0))),(aj 2 (.aS (.c (.bool false))))]) (.seq (.rg [(aj 3 (.ld (.t 1) (some 2))),(aj 4 (.build [(.str []),(.str [])] [])),(aj 5 (.seq [.s, .s] false (.t 3) (.t 4))),(aP 2 5)]) .ret))
theorem Ig:bu Tryz.prog 75 6 [(.tmp 2)] (erase Ie):=⟨Tryz.f75,_,rfl,by decide,rfl,by kernel_rfl,rfl,rfl⟩
abbrev Ih:List Nat:=[0,1,2]
def mu (a1:aD):Option (Bool):=
 some (decide (a1.ax=([]:List UInt8))&&decide (a1.domain=([]:List UInt8)))
theorem xU {a1:aD} {H0:AH} {aJ:Bool} (h:mu a1=some aJ):
 ay Tryz.prog 75 [(.agg [(.str a1.ax),(.str a1.domain)])] H0 fun v H'=>v=(.bool aJ)∧H'=H0:=by
 refine kO Ig Ih [] fun hcl K0 aO H hH hfr=> ?_
 clear hH
 have hle:=hfr.le
 rw [mu.eq_1] at h
 refine cj ?_
 obtain rfl:=aE h
 exact aO _ _ _ bC (bM (Fr.app hfr) hcl (br bA (.bool (decide (a1.ax=([]:List UInt8))&&decide (a1.domain=([]:List UInt8))))) bB bt ⟨rfl,rfl⟩)
abbrev o5:av:=(.rg [(au 3 0),(aj 4 (.bin .geq (.t 3) (.c (b8 32)))),(au 5 4),(az 6 (.mv (.t 0)) 5 true),(az 7 (.bin .leq (.t 6) (.c (b8 126))) 5 true),(aj 8 (.pick (.t 5) (.t 7) (.c (.bool false)))),(aP 2 8)])
abbrev CF:av:=(.seq (.rg [(aj 2 (.aS (.c (.bool false))))]) (.seq (.sem (erase o5)) .ret))
theorem CG:bu Tryz.prog 121 9 [(.tmp 2)] (erase CF):=⟨Tryz.f121,_,rfl,by decide,rfl,by kernel_rfl,rfl,rfl⟩
abbrev uO:List Nat:=[0,2]
def jU (c1:UInt8):Option (Bool):=
 some ((decide (32≤c1))&&(decide (c1≤126)))
theorem xo {c1:UInt8} {H:AH} {K:Exit→Env→AH→Prop}
 (kn:K .normal [(2,(.bool ((decide (32≤c1))&&(decide (c1≤126)))))] H):
 AX Tryz.prog uO 9 H.length (erase o5) K [(0,(b8 c1)),(2,(.bool false))] H:=by
 refine cU fun K' hK=> ?_
 refine aG ?_
 refine ob (fun hy1=> ?_) fun hy1=> ?_
 · refine aW hy1 ?_
   exact hK _ _ _ _ _ (fq hy1) aq kn
 · refine aW hy1 ?_
   exact hK _ _ _ _ _ (fq hy1) aq kn
theorem sS {c1:UInt8} {H0:AH} {aJ:Bool} (h:jU c1=some aJ):
 ay Tryz.prog 121 [(b8 c1)] H0 fun v H'=>v=(.bool aJ)∧H'=H0:=by
 refine eC CG uO fun hcl K0 aO=> ?_
 rw [jU.eq_1] at h
 refine aG ?_
 refine bS aq (xo (c1:=c1) ?_)
 refine aG ?_
 obtain rfl:=aE h
 exact aO _ _ _ bC (aK hcl (br bA (.bool ((decide (32≤c1))&&(decide (c1≤126))))) bB bt ⟨rfl,rfl⟩)
abbrev mQ:av:=(.seq (.rg [(aj 9 (.bin .lss (.t 8) (.t 7)))]) (.seq (.cond (.t 9) .skip (.exit 0)) (.seq (.blk 1 (.seq (.rg [(au 10 8),(aP 5 10)]) (.seq (.rg [(au 11 1),(au 12 0),(au 13 5),(aj 14 (.ixs (.t 12) (.t 13))),(aj 15 (.call (.t 11) [(.t 14)])),(aj 16 (.un .not (.t 15)))]) (.cond (.t 16) (.seq (.rg [(aj 4 (.aS (.c (.bool false))))]) .ret) .skip)))) (.rg [(aj 17 (.bin .add (.t 8) (.c (.int .i64 1)))),(au 8 17)]))))
abbrev Bp:av:=(.seq (.rg [(aj 4 (.aS (.c (.bool false))))]) (.seq (.seq (.rg [(au 6 0),(aj 7 (.lens (.t 6))),(aj 8 (.mv (.c (.int .i64 0))))]) (.blk 0 (.loop (erase mQ)))) (.seq (.rg [(aj 4 (.aS (.c (.bool true))))]) .ret)))
theorem Bq:bu Tryz.prog 120 18 [(.tmp 4)] (erase Bp):=⟨Tryz.f120,_,rfl,by decide,rfl,by kernel_rfl,rfl,rfl⟩
abbrev sU:List Nat:=[0,1,4,5,7,8,9,16]
def ek (s1:List UInt8):(Bool×Int)→Option (St Bool Unit (Bool×Int))
 |(t2,t3)=>
  (if (decide (t3<(s1.length:Int))) then
   (idx s1 t3).bind fun x4=>
   (jU x4).bind fun r5=>
   (if (!r5) then
    some (.ret false)
   else
    some (.dz (t2,(IntKind.wrap .i64 (t3+1)))))
  else
   some (.eZ ()))
def ja (F:Nat) (s1:List UInt8):Option (Bool):=
 ((iter (ek s1) F (false,0)).bind fun o8=>
 match o8 with
 | .inr ()=>
   some true
 | .inl r7=>
   some r7)
theorem v7 {F:Nat} {t3:Int} {s1:List UInt8} {t2:Bool} {H:AH} {K:Exit→Env→AH→Prop} {o:(Bool)⊕(Unit)}
 (h:iter (ek s1) F (t2,t3)=some o)
 (dN:∀o':Unit,o= .inr o'→K (.exit 0) [] H)
 (kr:∀o':Bool,o= .inl o'→K .ret [(4,(.bool o'))] H):
 AX Tryz.prog sU 18 H.length (.loop (erase mQ)) K [(0,(.str s1)),(1,(.fn 121 [])),(4,(.bool t2)),(7,(.int .i64 (s1.length:Int))),(8,(.int .i64 t3))] H:=by
 refine jl (fun s e H1=>match s with|(t2,t3)=>e=[(0,(.str s1)),(1,(.fn 121 [])),(4,(.bool t2)),(7,(.int .i64 (s1.length:Int))),(8,(.int .i64 t3))]∧H1=H) h ⟨rfl,rfl⟩ ?_
 rintro K' ⟨t2,t3⟩ st e H ⟨rfl,rfl⟩ h hN hB hR hX
 rw [ek.eq_1] at h
 refine aG ?_
 refine b7 h (fun hy1 h=> ?_) fun hy1 h=> ?_
 · obtain ⟨x4,aU,h⟩:=ak h
   refine aW aU ?_
   obtain ⟨r5,bp,h⟩:=ak h
   refine aX aq (sS bp) ?_
   refine aG ?_
   refine b7 h (fun bn h=> ?_) fun bn h=> ?_
   · refine aG ?_
     obtain rfl:=aE h
     exact hX _ _ _ _ _ eK aN aq (kr _ (hR _ rfl))
   · refine aG ?_
     obtain rfl:=aE h
     exact hN _ rfl _ _ _ _ aN aq ⟨rfl,rfl⟩
 · refine aG ?_
   obtain rfl:=aE h
   exact hX _ _ _ _ _ eK WE.nil aq (dN _ (hB _ rfl))
theorem zU {F:Nat} {s1:List UInt8} {H0:AH} {aJ:Bool} (h:ja F s1=some aJ):
 ay Tryz.prog 120 [(.str s1),(.fn 121 [])] H0 fun v H'=>v=(.bool aJ)∧H'=H0:=by
 refine eC Bq sU fun hcl K0 aO=> ?_
 rw [ja.eq_1] at h
 refine aG ?_
 obtain ⟨o8,bG,h⟩:=ak h
 refine bS aq (v7 bG ?_ ?_)
 · rintro ⟨⟩ rfl
   try dsimp only at h
   refine aG ?_
   obtain rfl:=aE h
   exact aO _ _ _ bC (aK hcl (br bA (.bool true)) bB bt ⟨rfl,rfl⟩)
 · rintro r7 rfl
   try dsimp only at h
   refine aG ?_
   obtain rfl:=aE h
   exact aO _ _ _ bC (aK hcl (br bA (.bool r7)) bB bt ⟨rfl,rfl⟩)
abbrev sV:av:=(.rg [(au 3 0),(aj 4 (.bin .neq (.t 3) (.c (.str [])))),(au 5 4),(az 6 (.mv (.t 0)) 5 true),(az 7 (.lens (.t 6)) 5 true),(az 8 (.bin .leq (.t 7) (.c (.int .i64 64))) 5 true),(aj 9 (.pick (.t 5) (.t 8) (.c (.bool false)))),(au 10 9),(az 11 (.mv (.t 0)) 10 true),(az 12 (.call (.c (.fn 120 [])) [(.t 11),(.c (.fn 121 []))]) 10 true),(aj 13 (.pick (.t 10) (.t 12) (.c (.bool false)))),(aP 2 13)])
abbrev Fu:av:=(.seq (.rg [(aj 2 (.aS (.c (.bool false))))]) (.seq (.sem (erase sV)) .ret))
theorem Fv:bu Tryz.prog 84 14 [(.tmp 2)] (erase Fu):=⟨Tryz.f84,_,rfl,by decide,rfl,by kernel_rfl,rfl,rfl⟩
abbrev xV:List Nat:=[0,2]
def kY (F:Nat) (s1:List UInt8):Option (Bool):=
 (if (!decide (s1=([]:List UInt8))) then
  (if (decide ((s1.length:Int)≤64)) then
   (ja F s1).bind fun r2=>some r2
  else
   some false)
 else
  some false)
def mR (F:Nat) (s1:List UInt8):Option (Bool):=
 (kY F s1).bind fun t4=>
 some t4
theorem zV {F:Nat} {s1:List UInt8} {H:AH} {K:Exit→Env→AH→Prop} {t3:Bool}
 (h:kY F s1=some t3)
 (kn:K .normal [(2,(.bool t3))] H):
 AX Tryz.prog xV 14 H.length (erase sV) K [(0,(.str s1)),(2,(.bool false))] H:=by
 refine cU fun K' hK=> ?_
 rw [kY.eq_1] at h
 refine aG ?_
 refine b6 h (fun hy1 h=> ?_) fun hy1 h=> ?_
 · refine aW hy1 ?_
   refine b6 h (fun aU h=> ?_) fun aU h=> ?_
   · refine aW aU ?_
     obtain ⟨r2,bp,h⟩:=ak h
     refine aX aq (zU bp) ?_
     refine aG ?_
     obtain rfl:=aE h
     exact hK _ _ _ _ _ aN aq kn
   · refine aW aU ?_
     obtain rfl:=aE h
     exact hK _ _ _ _ _ aN aq kn
 · refine aW hy1 ?_
   obtain rfl:=aE h
   exact hK _ _ _ _ _ aN aq kn
theorem D9 {F:Nat} {s1:List UInt8} {H0:AH} {aJ:Bool} (h:mR F s1=some aJ):
 ay Tryz.prog 84 [(.str s1)] H0 fun v H'=>v=(.bool aJ)∧H'=H0:=by
 refine eC Fv xV fun hcl K0 aO=> ?_
 rw [mR.eq_1] at h
 refine aG ?_
 obtain ⟨t4,bn,h⟩:=ak h
 refine bS aq (zV bn ?_)
 refine aG ?_
 obtain rfl:=aE h
 exact aO _ _ _ bC (aK hcl (br bA (.bool t4)) bB bt ⟨rfl,rfl⟩)
abbrev uP:av:=(.rg [(au 3 0),(aj 4 (.call (.c (.fn 134 [])) [(.t 3)])),(au 5 4),(az 6 (.mv (.t 0)) 5 false),(az 7 (.call (.c (.fn 152 [])) [(.c (.str [33,35,36,37,38,39,42,43,45,47,61,63,94,95,96,123,124,125,126])),(.t 6)]) 5 false),(az 8 (.bin .geq (.t 7) (.c (.int .i64 0))) 5 false),(aj 9 (.pick (.t 5) (.c (.bool true)) (.t 8))),(aP 2 9)])
abbrev Ii:av:=(.seq (.rg [(aj 2 (.aS (.c (.bool false))))]) (.seq (.sem (erase uP)) .ret))
theorem Ij:bu Tryz.prog 133 10 [(.tmp 2)] (erase Ii):=⟨Tryz.f133,_,rfl,by decide,rfl,by kernel_rfl,rfl,rfl⟩
abbrev zW:List Nat:=[0,2]
def rU (c1:UInt8):Option (Bool):=
 (gX c1).bind fun r2=>
 (if r2 then
  some true
 else
  (strings_IndexByte ([33,35,36,37,38,39,42,43,45,47,61,63,94,95,96,123,124,125,126]:List UInt8) c1).bind fun r3=>some (decide (0≤r3)))
def mw (c1:UInt8):Option (Bool):=
 (rU c1).bind fun t5=>
 some t5
theorem Br {c1:UInt8} {H:AH} {K:Exit→Env→AH→Prop} {t4:Bool}
 (h:rU c1=some t4)
 (kn:K .normal [(2,(.bool t4))] H):
 AX Tryz.prog zW 10 H.length (erase uP) K [(0,(b8 c1)),(2,(.bool false))] H:=by
 refine cU fun K' hK=> ?_
 rw [rU.eq_1] at h
 refine aG ?_
 obtain ⟨r2,hy1,h⟩:=ak h
 refine aX aq (nj hy1) ?_
 refine aG ?_
 refine b6 h (fun aU h=> ?_) fun aU h=> ?_
 · refine aW aU ?_
   obtain rfl:=aE h
   exact hK _ _ _ _ _ aN aq kn
 · refine aW aU ?_
   obtain ⟨r3,bp,h⟩:=ak h
   refine aX aq (vk (s1:=([33,35,36,37,38,39,42,43,45,47,61,63,94,95,96,123,124,125,126]:List UInt8)) (c2:=c1) bp) ?_
   refine aG ?_
   obtain rfl:=aE h
   exact hK _ _ _ _ _ aN aq kn
theorem xW {c1:UInt8} {H0:AH} {aJ:Bool} (h:mw c1=some aJ):
 ay Tryz.prog 133 [(b8 c1)] H0 fun v H'=>v=(.bool aJ)∧H'=H0:=by
 refine eC Ij zW fun hcl K0 aO=> ?_
 rw [mw.eq_1] at h
 refine aG ?_
 obtain ⟨t5,bn,h⟩:=ak h
 refine bS aq (Br bn ?_)
 refine aG ?_
 obtain rfl:=aE h
 exact aO _ _ _ bC (aK hcl (br bA (.bool t5)) bB bt ⟨rfl,rfl⟩)
abbrev l8:av:=(.seq (.rg [(aj 9 (.bin .lss (.t 8) (.t 7)))]) (.seq (.cond (.t 9) .skip (.exit 0)) (.seq (.blk 1 (.seq (.rg [(au 10 8),(aP 5 10)]) (.seq (.rg [(au 11 1),(au 12 0),(au 13 5),(aj 14 (.ixs (.t 12) (.t 13))),(aj 15 (.call (.t 11) [(.t 14)])),(aj 16 (.un .not (.t 15)))]) (.cond (.t 16) (.seq (.rg [(aj 4 (.aS (.c (.bool false))))]) .ret) .skip)))) (.rg [(aj 17 (.bin .add (.t 8) (.c (.int .i64 1)))),(au 8 17)]))))
abbrev zX:av:=(.seq (.rg [(aj 4 (.aS (.c (.bool false))))]) (.seq (.seq (.rg [(au 6 0),(aj 7 (.lens (.t 6))),(aj 8 (.mv (.c (.int .i64 0))))]) (.blk 0 (.loop (erase l8)))) (.seq (.rg [(aj 4 (.aS (.c (.bool true))))]) .ret)))
theorem zY:bu Tryz.prog 120 18 [(.tmp 4)] (erase zX):=⟨Tryz.f120,_,rfl,by decide,rfl,by kernel_rfl,rfl,rfl⟩
abbrev qS:List Nat:=[0,1,4,5,7,8,9,16]
def dR (s1:List UInt8):(Bool×Int)→Option (St Bool Unit (Bool×Int))
 |(t2,t3)=>
  (if (decide (t3<(s1.length:Int))) then
   (idx s1 t3).bind fun x4=>
   (mw x4).bind fun r5=>
   (if (!r5) then
    some (.ret false)
   else
    some (.dz (t2,(IntKind.wrap .i64 (t3+1)))))
  else
   some (.eZ ()))
def iw (F:Nat) (s1:List UInt8):Option (Bool):=
 ((iter (dR s1) F (false,0)).bind fun o8=>
 match o8 with
 | .inr ()=>
   some true
 | .inl r7=>
   some r7)
theorem vo {F:Nat} {t3:Int} {s1:List UInt8} {t2:Bool} {H:AH} {K:Exit→Env→AH→Prop} {o:(Bool)⊕(Unit)}
 (h:iter (dR s1) F (t2,t3)=some o)
 (dN:∀o':Unit,o= .inr o'→K (.exit 0) [] H)
 (kr:∀o':Bool,o= .inl o'→K .ret [(4,(.bool o'))] H):
 AX Tryz.prog qS 18 H.length (.loop (erase l8)) K [(0,(.str s1)),(1,(.fn 133 [])),(4,(.bool t2)),(7,(.int .i64 (s1.length:Int))),(8,(.int .i64 t3))] H:=by
 refine jl (fun s e H1=>match s with|(t2,t3)=>e=[(0,(.str s1)),(1,(.fn 133 [])),(4,(.bool t2)),(7,(.int .i64 (s1.length:Int))),(8,(.int .i64 t3))]∧H1=H) h ⟨rfl,rfl⟩ ?_
 rintro K' ⟨t2,t3⟩ st e H ⟨rfl,rfl⟩ h hN hB hR hX
 rw [dR.eq_1] at h
 refine aG ?_
 refine b7 h (fun hy1 h=> ?_) fun hy1 h=> ?_
 · obtain ⟨x4,aU,h⟩:=ak h
   refine aW aU ?_
   obtain ⟨r5,bp,h⟩:=ak h
   refine aX aq (xW bp) ?_
   refine aG ?_
   refine b7 h (fun bn h=> ?_) fun bn h=> ?_
   · refine aG ?_
     obtain rfl:=aE h
     exact hX _ _ _ _ _ eK aN aq (kr _ (hR _ rfl))
   · refine aG ?_
     obtain rfl:=aE h
     exact hN _ rfl _ _ _ _ aN aq ⟨rfl,rfl⟩
 · refine aG ?_
   obtain rfl:=aE h
   exact hX _ _ _ _ _ eK WE.nil aq (dN _ (hB _ rfl))
theorem yG {F:Nat} {s1:List UInt8} {H0:AH} {aJ:Bool} (h:iw F s1=some aJ):
 ay Tryz.prog 120 [(.str s1),(.fn 133 [])] H0 fun v H'=>v=(.bool aJ)∧H'=H0:=by
 refine eC zY qS fun hcl K0 aO=> ?_
 rw [iw.eq_1] at h
 refine aG ?_
 obtain ⟨o8,bG,h⟩:=ak h
 refine bS aq (vo bG ?_ ?_)
 · rintro ⟨⟩ rfl
   try dsimp only at h
   refine aG ?_
   obtain rfl:=aE h
   exact aO _ _ _ bC (aK hcl (br bA (.bool true)) bB bt ⟨rfl,rfl⟩)
 · rintro r7 rfl
   try dsimp only at h
   refine aG ?_
   obtain rfl:=aE h
   exact aO _ _ _ bC (aK hcl (br bA (.bool r7)) bB bt ⟨rfl,rfl⟩)
abbrev o6:av:=(.rg [(au 3 0),(aj 4 (.bin .eql (.t 3) (.c (.str [])))),(au 5 4),(az 6 (.mv (.t 0)) 5 false),(az 7 (.call (.c (.fn 120 [])) [(.t 6),(.c (.fn 133 []))]) 5 false),(az 8 (.un .not (.t 7)) 5 false),(aj 9 (.pick (.t 5) (.c (.bool true)) (.t 8))),(aP 2 9)])
abbrev CH:av:=(.seq (.rg [(aj 2 (.aS (.c (.bool false))))]) (.seq (.sem (erase o6)) .ret))
theorem CI:bu Tryz.prog 140 10 [(.tmp 2)] (erase CH):=⟨Tryz.f140,_,rfl,by decide,rfl,by kernel_rfl,rfl,rfl⟩
abbrev uQ:List Nat:=[0,2]
def jq (F:Nat) (x1:List UInt8):Option (Bool):=
 (if (decide (x1=([]:List UInt8))) then
  some true
 else
  (iw F x1).bind fun r2=>some (!r2))
def jV (F:Nat) (x1:List UInt8):Option (Bool):=
 (jq F x1).bind fun t4=>
 some t4
theorem xp {F:Nat} {x1:List UInt8} {H:AH} {K:Exit→Env→AH→Prop} {t3:Bool}
 (h:jq F x1=some t3)
 (kn:K .normal [(2,(.bool t3))] H):
 AX Tryz.prog uQ 10 H.length (erase o6) K [(0,(.str x1)),(2,(.bool false))] H:=by
 refine cU fun K' hK=> ?_
 rw [jq.eq_1] at h
 refine aG ?_
 refine b6 h (fun hy1 h=> ?_) fun hy1 h=> ?_
 · refine aW hy1 ?_
   obtain rfl:=aE h
   exact hK _ _ _ _ _ aN aq kn
 · refine aW hy1 ?_
   obtain ⟨r2,aU,h⟩:=ak h
   refine aX aq (yG aU) ?_
   refine aG ?_
   obtain rfl:=aE h
   exact hK _ _ _ _ _ aN aq kn
theorem Bs {F:Nat} {x1:List UInt8} {H0:AH} {aJ:Bool} (h:jV F x1=some aJ):
 ay Tryz.prog 140 [(.str x1)] H0 fun v H'=>v=(.bool aJ)∧H'=H0:=by
 refine eC CI uQ fun hcl K0 aO=> ?_
 rw [jV.eq_1] at h
 refine aG ?_
 obtain ⟨t4,bp,h⟩:=ak h
 refine bS aq (xp bp ?_)
 refine aG ?_
 obtain rfl:=aE h
 exact aO _ _ _ bC (aK hcl (br bA (.bool t4)) bB bt ⟨rfl,rfl⟩)
abbrev iy:av:=(.seq (.rg [(aj 9 (.bin .lss (.t 8) (.t 7)))]) (.seq (.cond (.t 9) .skip (.exit 0)) (.seq (.blk 1 (.seq (.rg [(au 10 8),(aP 5 10)]) (.seq (.rg [(au 11 1),(au 12 0),(au 13 5),(aj 14 (.mK 1 (.t 12) (.t 13))),(aj 15 (.ld (.t 14) none)),(aj 16 (.call (.t 11) [(.t 15)]))]) (.cond (.t 16) (.seq (.rg [(au 17 5),(aP 4 17)]) .ret) .skip)))) (.rg [(aj 18 (.bin .add (.t 8) (.c (.int .i64 1)))),(au 8 18)]))))
abbrev rV:av:=(.seq (.rg [(aj 4 (.aS (.c (.int .i64 0))))]) (.seq (.seq (.rg [(au 6 0),(aj 7 (.len (.t 6))),(aj 8 (.mv (.c (.int .i64 0))))]) (.blk 0 (.loop (erase iy)))) (.seq (.rg [(aj 4 (.aS (.c (.int .i64 (-1)))))]) .ret)))
theorem rW:bu Tryz.prog 112 19 [(.tmp 4)] (erase rV):=⟨Tryz.f112,_,rfl,by decide,rfl,by kernel_rfl,rfl,rfl⟩
abbrev jW:List Nat:=[0,1,4,5,7,8,9,16]
def ct (F:Nat) (s1:List (List UInt8)):(Int×Int)→Option (St Int Unit (Int×Int))
 |(t2,t3)=>
  (if (decide (t3<(s1.length:Int))) then
   (idx s1 t3).bind fun x4=>
   (jV F x4).bind fun r5=>
   (if r5 then
    some (.ret t3)
   else
    some (.dz (t2,(IntKind.wrap .i64 (t3+1)))))
  else
   some (.eZ ()))
def fC (F:Nat) (s1:List (List UInt8)):Option (Int):=
 ((iter (ct F s1) F (0,0)).bind fun o8=>
 match o8 with
 | .inr ()=>
   some (-1)
 | .inl r7=>
   some r7)
theorem nk {F:Nat} {t3:Int} {s1:List (List UInt8)} {t2:Int} {H:AH} {K:Exit→Env→AH→Prop} {o:(Int)⊕(Unit)}
 (h:iter (ct F s1) F (t2,t3)=some o)
 (dN:∀o':Unit,o= .inr o'→K (.exit 0) [] H)
 (kr:∀o':Int,o= .inl o'→K .ret [(4,(.int .i64 o'))] H):
 AX Tryz.prog jW 19 H.length (.loop (erase iy)) K [(0,(.sl .n 1 (ml AV.str s1))),(1,(.fn 140 [])),(4,(.int .i64 t2)),(7,(.int .i64 (s1.length:Int))),(8,(.int .i64 t3))] H:=by
 refine jl (fun s e H1=>match s with|(t2,t3)=>e=[(0,(.sl .n 1 (ml AV.str s1))),(1,(.fn 140 [])),(4,(.int .i64 t2)),(7,(.int .i64 (s1.length:Int))),(8,(.int .i64 t3))]∧H1=H) h ⟨rfl,rfl⟩ ?_
 rintro K' ⟨t2,t3⟩ st e H ⟨rfl,rfl⟩ h hN hB hR hX
 rw [ct.eq_1] at h
 refine aG ?_
 refine b7 h (fun hy1 h=> ?_) fun hy1 h=> ?_
 · obtain ⟨x4,aU,h⟩:=ak h
   refine aW aU ?_
   obtain ⟨r5,bp,h⟩:=ak h
   refine aX aq (Bs bp) ?_
   refine aG ?_
   refine b7 h (fun bn h=> ?_) fun bn h=> ?_
   · refine aG ?_
     obtain rfl:=aE h
     exact hX _ _ _ _ _ eK aN aq (kr _ (hR _ rfl))
   · refine aG ?_
     obtain rfl:=aE h
     exact hN _ rfl _ _ _ _ aN aq ⟨rfl,rfl⟩
 · refine aG ?_
   obtain rfl:=aE h
   exact hX _ _ _ _ _ eK WE.nil aq (dN _ (hB _ rfl))
theorem qy {F:Nat} {s1:List (List UInt8)} {H0:AH} {aJ:Int} (h:fC F s1=some aJ):
 ay Tryz.prog 112 [(.sl .n 1 (ml AV.str s1)),(.fn 140 [])] H0 fun v H'=>v=(.int .i64 aJ)∧H'=H0:=by
 refine eC rW jW fun hcl K0 aO=> ?_
 rw [fC.eq_1] at h
 refine aG ?_
 obtain ⟨o8,bG,h⟩:=ak h
 refine bS aq (nk bG ?_ ?_)
 · rintro ⟨⟩ rfl
   try dsimp only at h
   refine aG ?_
   obtain rfl:=aE h
   exact aO _ _ _ bC (aK hcl (br bA (.int .i64 (-1))) bB bt ⟨rfl,rfl⟩)
 · rintro r7 rfl
   try dsimp only at h
   refine aG ?_
   obtain rfl:=aE h
   exact aO _ _ _ bC (aK hcl (br bA (.int .i64 r7)) bB bt ⟨rfl,rfl⟩)
abbrev oe:av:=(.seq (.rg [(aj 4 (.aS (.c (.bool false))))]) (.seq (.rg [(au 5 0),(au 6 1),(aj 7 (.call (.c (.fn 112 [])) [(.t 5),(.t 6)])),(aj 8 (.bin .geq (.t 7) (.c (.int .i64 0)))),(aP 4 8)]) .ret))
theorem og:bu Tryz.prog 72 9 [(.tmp 4)] (erase oe):=⟨Tryz.f72,_,rfl,by decide,rfl,by kernel_rfl,rfl,rfl⟩
abbrev oh:List Nat:=[0,1,4]
def eG (F:Nat) (s1:List (List UInt8)):Option (Bool):=
 (fC F s1).bind fun r2=>some (decide (0≤r2))
theorem nr {F:Nat} {s1:List (List UInt8)} {H0:AH} {aJ:Bool} (h:eG F s1=some aJ):
 ay Tryz.prog 72 [(.sl .n 1 (ml AV.str s1)),(.fn 140 [])] H0 fun v H'=>v=(.bool aJ)∧H'=H0:=by
 refine eC og oh fun hcl K0 aO=> ?_
 rw [eG.eq_1] at h
 refine aG ?_
 obtain ⟨r2,hy1,h⟩:=ak h
 refine aX aq (qy hy1) ?_
 refine aG ?_
 obtain rfl:=aE h
 exact aO _ _ _ bC (aK hcl (br bA (.bool (decide (0≤r2)))) bB bt ⟨rfl,rfl⟩)
abbrev Fw:av:=(.seq (.rg [(aj 2 (.aS (.c (.bool false))))]) (.seq (.rg [(au 3 0),(aj 4 (.call (.c (.fn 65 [])) [(.t 3),(.c (.str [46]))])),(aj 5 (.call (.c (.fn 72 [])) [(.t 4),(.c (.fn 140 []))])),(aj 6 (.un .not (.t 5))),(aP 2 6)]) .ret))
theorem Fx:bu Tryz.prog 115 7 [(.tmp 2)] (erase Fw):=⟨Tryz.f115,_,rfl,by decide,rfl,by kernel_rfl,rfl,rfl⟩
abbrev Fy:List Nat:=[0,2]
def kI (F:Nat) (s1:List UInt8):Option (Bool):=
 (strings_Split s1 ([46]:List UInt8)).bind fun r2=>(eG F r2).bind fun r3=>some (!r3)
theorem v8 {F:Nat} {s1:List UInt8} {H0:AH} {aJ:Bool} (h:kI F s1=some aJ):
 ay Tryz.prog 115 [(.str s1)] H0 fun v H'=>v=(.bool aJ)∧H'=H0:=by
 refine eC Fx Fy fun hcl K0 aO=> ?_
 rw [kI.eq_1] at h
 refine aG ?_
 obtain ⟨r2,hy1,h⟩:=ak h
 refine aX aq (gf (s1:=s1) (s2:=([46]:List UInt8)) hy1) ?_
 refine aG ?_
 obtain ⟨r3,aU,h⟩:=ak h
 refine aX aq (nr aU) ?_
 refine aG ?_
 obtain rfl:=aE h
 exact aO _ _ _ bC (aK hcl (br bA (.bool (!r3))) bB bt ⟨rfl,rfl⟩)
abbrev uR:av:=(.rg [(au 17 3),(au 18 5),(aj 19 (.ixs (.t 17) (.t 18))),(aj 20 (.bin .eql (.t 19) (.c (b8 34)))),(au 21 20),(az 22 (.mv (.t 3)) 21 false),(az 23 (.mv (.t 5)) 21 false),(az 24 (.ixs (.t 22) (.t 23)) 21 false),(az 25 (.bin .eql (.t 24) (.c (b8 92))) 21 false),(aj 26 (.pick (.t 21) (.c (.bool true)) (.t 25)))])
abbrev sW:av:=(.seq (.rg [(aj 15 (.bin .lss (.t 14) (.t 13)))]) (.seq (.cond (.t 15) .skip (.exit 0)) (.seq (.blk 1 (.seq (.rg [(au 16 14),(aP 5 16)]) (.seq (.seq (.sem (erase uR)) (.cond (.t 26) (.rg [(au 27 4),(aj 28 (.fS 1 [(.c (b8 92))])),(aj 29 (.app 1 1 (.t 27) (.t 28))),(aP 4 29)]) .skip)) (.rg [(au 30 4),(au 31 3),(au 32 5),(aj 33 (.ixs (.t 31) (.t 32))),(aj 34 (.fS 1 [(.t 33)])),(aj 35 (.app 1 1 (.t 30) (.t 34))),(aP 4 35)])))) (.rg [(aj 36 (.bin .add (.t 14) (.c (.int .i64 1)))),(au 14 36)]))))
abbrev Ik:av:=(.seq (.rg [(aj 1 (.box (.t 0))),(aj 2 (.aS (.c (.str []))))]) (.seq (.rg [(aj 6 (.bO (.t 1) 0)),(aj 7 (.ld (.t 6) none)),(aP 3 7)]) (.seq (.seq (.rg [(au 8 3),(aj 9 (.call (.c (.fn 115 [])) [(.t 8)])),(aj 10 (.un .not (.t 9)))]) (.cond (.t 10) (.seq (.rg [(aj 11 (.fS 1 [(.c (b8 34))])),(aP 4 11)]) (.seq (.seq (.rg [(au 12 3),(aj 13 (.lens (.t 12))),(aj 14 (.mv (.c (.int .i64 0))))]) (.blk 0 (.loop (erase sW)))) (.rg [(au 37 4),(aj 38 (.fS 1 [(.c (b8 34))])),(aj 39 (.app 1 1 (.t 37) (.t 38))),(aj 40 (.iJ .bs (.t 39))),(aP 3 40)]))) .skip)) (.seq (.rg [(au 41 3),(aj 42 (.bin .add (.c (.str [60])) (.t 41))),(aj 43 (.bin .add (.t 42) (.c (.str [64])))),(aj 44 (.bO (.t 1) 1)),(aj 45 (.ld (.t 44) none)),(aj 46 (.bin .add (.t 43) (.t 45))),(aj 47 (.bin .add (.t 46) (.c (.str [62])))),(aP 2 47)]) .ret))))
theorem Il:bu Tryz.prog 76 48 [(.tmp 2)] (erase Ik):=⟨Tryz.f76,_,rfl,by decide,rfl,by kernel_rfl,rfl,rfl⟩
abbrev uc:List Nat:=[0,1,2,3,4,5,10,13,14,15,26]
def mE (a1:aD) (t5:Int):Option (Bool):=
 (idx a1.ax t5).bind fun x7=>
 (if (decide (x7=34)) then
  some true
 else
  some (decide (x7=92)))
def gq (a1:aD):((List UInt8)×Int)→Option (St (List UInt8) (List UInt8) ((List UInt8)×Int))
 |(b4,t5)=>
  (if (decide (t5<(a1.ax.length:Int))) then
   (mE a1 t5).bind fun t9=>
   (if t9 then
    (cF 1 b4 ([92]:List UInt8)).bind fun o7=>
    (idx a1.ax t5).bind fun qz=>
    (cF 1 o7 ([qz]:List UInt8)).bind fun om=>some (.dz (om,(IntKind.wrap .i64 (t5+1))))
   else
    (idx a1.ax t5).bind fun Im=>
    (cF 1 b4 ([Im]:List UInt8)).bind fun RM=>some (.dz (RM,(IntKind.wrap .i64 (t5+1)))))
  else
   some (.eZ b4))
def mz (F:Nat) (a1:aD):Option ((List UInt8)):=
 (kI F a1.ax).bind fun r2=>
 (if (!r2) then
  ((iter (gq a1) F (([34]:List UInt8),0)).bind fun o22=>
  match o22 with
  | .inr b16=>
    (cF 1 b16 ([34]:List UInt8)).bind fun Bt=>
    (cat ([60]:List UInt8) Bt).bind fun CJ=>
    (cat CJ ([64]:List UInt8)).bind fun we=>
    (cat we a1.domain).bind fun Ea=>(cat Ea ([62]:List UInt8)).bind fun xq=>some xq
  | .inl _=>none)
 else
  (cat ([60]:List UInt8) a1.ax).bind fun KV=>
  (cat KV ([64]:List UInt8)).bind fun CK=>
  (cat CK a1.domain).bind fun Vp=>(cat Vp ([62]:List UInt8)).bind fun x26=>some x26)
theorem Bu {a1:aD} {t5:Int} {q6:Nat} {b4:List UInt8} {H0 H:AH} (hfr:Fr H0 H0.length [] H) (ai:H[q6]? =some [(.str a1.ax),(.str a1.domain)]) (hi0:H0.length≤q6) {K:Exit→Env→AH→Prop} {t8:Bool}
 (h:mE a1 t5=some t8)
 (kn:∀H':AH,Fr H0 H0.length [] H'→H'[q6]? =some [(.str a1.ax),(.str a1.domain)]→K .normal [(1,(.ptr q6 0)),(3,(.str a1.ax)),(4,(.sl .own 1 (ml b8 b4))),(5,(.int .i64 t5)),(13,(.int .i64 (a1.ax.length:Int))),(14,(.int .i64 t5)),(26,(.bool t8))] H'):
 AX Tryz.prog uc 48 H0.length (erase uR) K [(1,(.ptr q6 0)),(3,(.str a1.ax)),(4,(.sl .own 1 (ml b8 b4))),(5,(.int .i64 t5)),(13,(.int .i64 (a1.ax.length:Int))),(14,(.int .i64 t5))] H:=by
 refine cU fun K' hK=> ?_
 have hle:=hfr.le
 have bf:=aY ai
 rw [mE.eq_1] at h
 obtain ⟨x7,bn,h⟩:=ak h
 refine aF (aH bn ai) ?_
 refine b6 h (fun bG h=> ?_) fun bG h=> ?_
 · refine aF (aH bG ai) ?_
   obtain rfl:=aE h
   exact hK _ _ _ _ _ aN aq (kn _ hfr (ai.trans rfl))
 · refine aF (aH bG (aH bn ai)) ?_
   obtain rfl:=aE h
   exact hK _ _ _ _ _ aN aq (kn _ hfr (ai.trans rfl))
theorem Bv {F:Nat} {t5:Int} {a1:aD} {b4:List UInt8} {q3:Nat} {H0 H:AH} (hfr:Fr H0 H0.length [] H) (ai:H[q3]? =some [(.str a1.ax),(.str a1.domain)]) (hi0:H0.length≤q3) {K:Exit→Env→AH→Prop} {o:((List UInt8))⊕((List UInt8))}
 (h:iter (gq a1) F (b4,t5)=some o)
 (dN:∀o':(List UInt8),o= .inr o'→∀H':AH,Fr H0 H0.length [] H'→H'[q3]? =some [(.str a1.ax),(.str a1.domain)]→K (.exit 0) [(1,(.ptr q3 0)),(4,(.sl .own 1 (ml b8 o')))] H'):
 AX Tryz.prog uc 48 H0.length (.loop (erase sW)) K [(1,(.ptr q3 0)),(3,(.str a1.ax)),(4,(.sl .own 1 (ml b8 b4))),(13,(.int .i64 (a1.ax.length:Int))),(14,(.int .i64 t5))] H:=by
 refine jl (fun s e H1=>match s with|(b4,t5)=>e=[(1,(.ptr q3 0)),(3,(.str a1.ax)),(4,(.sl .own 1 (ml b8 b4))),(13,(.int .i64 (a1.ax.length:Int))),(14,(.int .i64 t5))]∧Fr H0 H0.length [] H1∧H1[q3]? =some [(.str a1.ax),(.str a1.domain)]) h ⟨rfl,hfr,ai⟩ ?_
 rintro K' ⟨b4,t5⟩ st e H ⟨rfl,hfr,ai⟩ h hN hB hR hX
 have hle:=hfr.le
 have bf:=aY ai
 rw [gq.eq_1] at h
 refine aF ai ?_
 refine b7 h (fun bp h=> ?_) fun bp h=> ?_
 · refine aF ai ?_
   obtain ⟨t9,bY,h⟩:=ak h
   refine bS aq (Bu (b4:=b4) (q6:=q3) hfr (ai.trans rfl) dD bY ?_)
   intro H hfr ai
   have hle:=hfr.le
   have bf:=aY ai
   refine aF ai ?_
   refine b7 h (fun cK h=> ?_) fun cK h=> ?_
   · obtain ⟨o7,cE,h⟩:=ak h
     have dO:cF 1 (ml b8 b4) [(b8 92)]=some (ml b8 o7):=eS (f:=b8) cE
     obtain ⟨qz,cT,h⟩:=ak h
     obtain ⟨om,cP,h⟩:=ak h
     have dI:cF 1 (ml b8 o7) [(b8 qz)]=some (ml b8 om):=eS (f:=b8) cP
     refine aF (aH dO (aH cT (aH dI ai))) ?_
     obtain rfl:=aE h
     exact hN _ rfl _ _ _ _ aN aq ⟨rfl,hfr,(ai.trans rfl)⟩
   · obtain ⟨Im,dx,h⟩:=ak h
     obtain ⟨RM,gz,h⟩:=ak h
     have jb:cF 1 (ml b8 b4) [(b8 Im)]=some (ml b8 RM):=eS (f:=b8) gz
     refine aF (aH dx (aH jb ai)) ?_
     obtain rfl:=aE h
     exact hN _ rfl _ _ _ _ aN aq ⟨rfl,hfr,(ai.trans rfl)⟩
 · refine aF ai ?_
   obtain rfl:=aE h
   exact hX _ _ _ _ _ eK aN aq (dN _ (hB _ rfl) _ hfr (ai.trans rfl))
theorem xX {F:Nat} {a1:aD} {H0:AH} {aJ:List UInt8} (h:mz F a1=some aJ):
 ay Tryz.prog 76 [(.agg [(.str a1.ax),(.str a1.domain)])] H0 fun v H'=>v=(.str aJ)∧H'=H0:=by
 refine kO Il uc [] fun hcl K0 aO H hH hfr=> ?_
 clear hH
 have hle:=hfr.le
 rw [mz.eq_1] at h
 refine cj ?_
 obtain ⟨r2,hy1,h⟩:=ak h
 refine aX aq (v8 hy1) ?_
 refine cj ?_
 refine b7 h (fun aU h=> ?_) fun aU h=> ?_
 · refine cj ?_
   obtain ⟨q3,Eb⟩:∃q:Nat,H.length=q:=⟨_,rfl⟩
   try rw [Eb]
   obtain ⟨o22,iR,h⟩:=ak h
   refine bS aq (Bv (q3:=q3) (Fr.app hfr) vj dD iR ?_)
   · rintro b16 rfl H hfr ai
     try dsimp only at h ai
     have hle:=hfr.le
     have bf:=aY ai
     refine cj ?_
     obtain ⟨Bt,mS,h⟩:=ak h
     have l9:cF 1 (ml b8 b16) [(b8 34)]=some (ml b8 Bt):=eS (f:=b8) mS
     obtain ⟨CJ,kZ,h⟩:=ak h
     obtain ⟨we,sX,h⟩:=ak h
     obtain ⟨Ea,mT,h⟩:=ak h
     obtain ⟨xq,wg,h⟩:=ak h
     refine aF (aH l9 (aH kZ (aH sX (aH mT (aH wg ai))))) ?_
     obtain rfl:=aE h
     exact aO _ _ _ bC (bM hfr hcl (br bA (.str xq)) bB bt ⟨rfl,rfl⟩)
 · obtain ⟨KV,wh,h⟩:=ak h
   obtain ⟨CK,pg,h⟩:=ak h
   obtain ⟨Vp,pn,h⟩:=ak h
   obtain ⟨x26,zZ,h⟩:=ak h
   refine aF (aH wh (aH pg (aH pn zZ))) ?_
   obtain rfl:=aE h
   exact aO _ _ _ bC (bM (Fr.app hfr) hcl (br bA (.str x26)) bB bt ⟨rfl,rfl⟩)
abbrev sY:av:=(.rg [(aj 3 (.ld (.t 1) (some 2))),(aj 4 (.call (.c (.fn 75 [])) [(.t 3)])),(au 5 4),(az 6 (.bO (.t 1) 0) 5 false),(az 7 (.ld (.t 6) none) 5 false),(az 8 (.call (.c (.fn 84 [])) [(.t 7)]) 5 false),(az 9 (.mv (.t 8)) 5 false),(az 10 (.bO (.t 1) 1) 9 true),(az 11 (.ld (.t 10) none) 9 true),(az 12 (.call (.c (.fn 31 [])) [(.t 11)]) 9 true),(az 13 (.pick (.t 9) (.t 12) (.c (.bool false))) 5 false),(az 14 (.mv (.t 13)) 5 false),(az 15 (.ld (.t 1) (some 2)) 14 true),(az 16 (.call (.c (.fn 76 [])) [(.t 15)]) 14 true),(az 17 (.lens (.t 16)) 14 true),(az 18 (.bin .leq (.t 17) (.c (.int .i64 256))) 14 true),(az 19 (.pick (.t 14) (.t 18) (.c (.bool false))) 5 false),(aj 20 (.pick (.t 5) (.c (.bool true)) (.t 19))),(aP 2 20)])
abbrev Fz:av:=(.seq (.rg [(aj 1 (.box (.t 0))),(aj 2 (.aS (.c (.bool false))))]) (.seq (.sem (erase sY)) .ret))
theorem FA:bu Tryz.prog 44 21 [(.tmp 2)] (erase Fz):=⟨Tryz.f44,_,rfl,by decide,rfl,by kernel_rfl,rfl,rfl⟩
abbrev xY:List Nat:=[0,1,2]
def k8 (F:Nat) (a1:aD):Option (Bool):=
 (mu a1).bind fun r3=>
 (if r3 then
  some true
 else
  (mR F a1.ax).bind fun r4=>
  (if r4 then
   (gY F a1.domain).bind fun r5=>
   (if r5 then
    (mz F a1).bind fun r6=>some (decide ((r6.length:Int)≤256))
   else
    some false)
  else
   some false))
def gM (F:Nat) (a1:aD):Option (Bool):=
 (k8 F a1).bind fun t8=>
 some t8
theorem z1 {F:Nat} {a1:aD} {q2:Nat} {H0 H:AH} (hfr:Fr H0 H0.length [] H) (ai:H[q2]? =some [(.str a1.ax),(.str a1.domain)]) (hi0:H0.length≤q2) {K:Exit→Env→AH→Prop} {t7:Bool}
 (h:k8 F a1=some t7)
 (kn:∀H':AH,Fr H0 H0.length [] H'→H'[q2]? =some [(.str a1.ax),(.str a1.domain)]→K .normal [(2,(.bool t7))] H'):
 AX Tryz.prog xY 21 H0.length (erase sY) K [(1,(.ptr q2 0)),(2,(.bool false))] H:=by
 refine cU fun K' hK=> ?_
 have hle:=hfr.le
 have bf:=aY ai
 rw [k8.eq_1] at h
 refine aF ai ?_
 obtain ⟨r3,hy1,h⟩:=ak h
 refine aX aq (xU hy1) ?_
 refine aF ai ?_
 refine b6 h (fun aU h=> ?_) fun aU h=> ?_
 · refine aF (aH aU ai) ?_
   obtain rfl:=aE h
   exact hK _ _ _ _ _ aN aq (kn _ hfr (ai.trans rfl))
 · refine aF (aH aU ai) ?_
   obtain ⟨r4,bp,h⟩:=ak h
   refine aX aq (D9 bp) ?_
   refine aF ai ?_
   refine b6 h (fun bn h=> ?_) fun bn h=> ?_
   · refine aF (aH bn ai) ?_
     obtain ⟨r5,bG,h⟩:=ak h
     refine aX aq (uN bG) ?_
     refine aF ai ?_
     refine b6 h (fun bY h=> ?_) fun bY h=> ?_
     · refine aF (aH bY ai) ?_
       obtain ⟨r6,cK,h⟩:=ak h
       refine aX aq (xX cK) ?_
       refine aF ai ?_
       obtain rfl:=aE h
       exact hK _ _ _ _ _ aN aq (kn _ hfr (ai.trans rfl))
     · refine aF (aH bY ai) ?_
       obtain rfl:=aE h
       exact hK _ _ _ _ _ aN aq (kn _ hfr (ai.trans rfl))
   · refine aF (aH bn ai) ?_
     obtain rfl:=aE h
     exact hK _ _ _ _ _ aN aq (kn _ hfr (ai.trans rfl))
theorem k9 {F:Nat} {a1:aD} {H0:AH} {aJ:Bool} (h:gM F a1=some aJ):
 ay Tryz.prog 44 [(.agg [(.str a1.ax),(.str a1.domain)])] H0 fun v H'=>v=(.bool aJ)∧H'=H0:=by
 refine kO FA xY [] fun hcl K0 aO H hH hfr=> ?_
 clear hH
 have hle:=hfr.le
 rw [gM.eq_1] at h
 refine cj ?_
 obtain ⟨q2,kA⟩:∃q:Nat,H.length=q:=⟨_,rfl⟩
 try rw [kA]
 obtain ⟨t8,cE,h⟩:=ak h
 refine bS aq (z1 (q2:=q2) (Fr.app hfr) vj dD cE ?_)
 intro H hfr ai
 have hle:=hfr.le
 have bf:=aY ai
 refine aF ai ?_
 obtain rfl:=aE h
 exact aO _ _ _ bC (bM hfr hcl (br bA (.bool t8)) bB bt ⟨rfl,rfl⟩)
abbrev FB:av:=(.seq (.rg [(aj 1 (.box (.t 0))),(aj 2 (.aS (.c (.str []))))]) (.seq (.blk 0 (.seq (.rg [(aj 4 (.ld (.t 1) (some 2))),(aj 5 (.call (.c (.fn 75 [])) [(.t 4)])),(aP 3 5)]) (.cond (.t 3) (.seq (.rg [(aj 2 (.aS (.c (.str [60,62]))))]) .ret) (.seq (.rg [(aj 7 (.ld (.t 1) (some 2))),(aj 8 (.call (.c (.fn 44 [])) [(.t 7)])),(aj 9 (.un .not (.t 8))),(aP 6 9)]) (.cond (.t 6) (.seq (.rg [(aj 2 (.aS (.c (.str []))))]) .ret) .skip))))) (.seq (.rg [(aj 10 (.ld (.t 1) (some 2))),(aj 11 (.call (.c (.fn 76 [])) [(.t 10)])),(aP 2 11)]) .ret)))
theorem FC:bu Tryz.prog 36 12 [(.tmp 2)] (erase FB):=⟨Tryz.f36,_,rfl,by decide,rfl,by kernel_rfl,rfl,rfl⟩
abbrev FD:List Nat:=[0,1,2,3,6]
def gN (F:Nat) (a1:aD):Option ((List UInt8)):=
 (mu a1).bind fun r2=>
 (if r2 then
  some ([60,62]:List UInt8)
 else
  (gM F a1).bind fun r3=>
  (if (!r3) then
   some ([]:List UInt8)
  else
   (mz F a1).bind fun r4=>some r4))
theorem wj {F:Nat} {a1:aD} {H0:AH} {aJ:List UInt8} (h:gN F a1=some aJ):
 ay Tryz.prog 36 [(.agg [(.str a1.ax),(.str a1.domain)])] H0 fun v H'=>v=(.str aJ)∧H'=H0:=by
 refine kO FC FD [] fun hcl K0 aO H hH hfr=> ?_
 clear hH
 have hle:=hfr.le
 rw [gN.eq_1] at h
 refine cj ?_
 obtain ⟨r2,hy1,h⟩:=ak h
 refine aX aq (xU hy1) ?_
 refine cj ?_
 refine b7 h (fun aU h=> ?_) fun aU h=> ?_
 · refine cj ?_
   obtain rfl:=aE h
   exact aO _ _ _ bC (bM (Fr.app hfr) hcl (br bA (.str ([60,62]:List UInt8))) bB bt ⟨rfl,rfl⟩)
 · refine cj ?_
   obtain ⟨r3,bp,h⟩:=ak h
   refine aX aq (k9 bp) ?_
   refine cj ?_
   refine b7 h (fun bn h=> ?_) fun bn h=> ?_
   · refine cj ?_
     obtain rfl:=aE h
     exact aO _ _ _ bC (bM (Fr.app hfr) hcl (br bA (.str ([]:List UInt8))) bB bt ⟨rfl,rfl⟩)
   · refine cj ?_
     obtain ⟨r4,bG,h⟩:=ak h
     refine aX aq (xX bG) ?_
     refine cj ?_
     obtain rfl:=aE h
     exact aO _ _ _ bC (bM (Fr.app hfr) hcl (br bA (.str r4)) bB bt ⟨rfl,rfl⟩)
abbrev uS:av:=(.rg [(au 3 0),(aj 4 (.bin .rem (.t 3) (.c (.int .i64 4)))),(aj 5 (.bin .eql (.t 4) (.c (.int .i64 0)))),(au 6 5),(az 7 (.mv (.t 0)) 6 true),(az 8 (.bin .rem (.t 7) (.c (.int .i64 100))) 6 true),(az 9 (.bin .neq (.t 8) (.c (.int .i64 0))) 6 true),(az 10 (.mv (.t 9)) 6 true),(az 11 (.mv (.t 0)) 10 false),(az 12 (.bin .rem (.t 11) (.c (.int .i64 400))) 10 false),(az 13 (.bin .eql (.t 12) (.c (.int .i64 0))) 10 false),(az 14 (.pick (.t 10) (.c (.bool true)) (.t 13)) 6 true),(aj 15 (.pick (.t 6) (.t 14) (.c (.bool false)))),(aP 2 15)])
abbrev Io:av:=(.seq (.rg [(aj 2 (.aS (.c (.bool false))))]) (.seq (.sem (erase uS)) .ret))
theorem Ip:bu Tryz.prog 116 16 [(.tmp 2)] (erase Io):=⟨Tryz.f116,_,rfl,by decide,rfl,by kernel_rfl,rfl,rfl⟩
abbrev z6:List Nat:=[0,2]
def ud (y1:Int):Option (Bool):=
 some ((decide ((Int.tmod y1 4)=0))&&((!decide ((Int.tmod y1 100)=0))||(decide ((Int.tmod y1 400)=0))))
theorem Bw {y1:Int} {H:AH} {K:Exit→Env→AH→Prop}
 (kn:K .normal [(2,(.bool ((decide ((Int.tmod y1 4)=0))&&((!decide ((Int.tmod y1 100)=0))||(decide ((Int.tmod y1 400)=0))))))] H):
 AX Tryz.prog z6 16 H.length (erase uS) K [(0,(.int .i64 y1)),(2,(.bool false))] H:=by
 refine cU fun K' hK=> ?_
 have bn:rm .i64 y1 4=some (Int.tmod y1 4):=rfl
 refine aW bn ?_
 refine ob (fun bG=> ?_) fun bG=> ?_
 · have bY:rm .i64 y1 100=some (Int.tmod y1 100):=rfl
   refine aW (aH bG bY) ?_
   refine ob (fun cK=> ?_) fun cK=> ?_
   · refine aW cK ?_
     exact hK _ _ _ _ _ (fq (aH bG cK)) aq kn
   · have cE:rm .i64 y1 400=some (Int.tmod y1 400):=rfl
     refine aW (aH cK cE) ?_
     exact hK _ _ _ _ _ (fq (aH bG cK)) aq kn
 · refine aW bG ?_
   exact hK _ _ _ _ _ (fq bG) aq kn
theorem xZ {y1:Int} {H0:AH} {aJ:Bool} (h:ud y1=some aJ):
 ay Tryz.prog 116 [(.int .i64 y1)] H0 fun v H'=>v=(.bool aJ)∧H'=H0:=by
 refine eC Ip z6 fun hcl K0 aO=> ?_
 rw [ud.eq_1] at h
 refine aG ?_
 refine bS aq (Bw (y1:=y1) ?_)
 refine aG ?_
 obtain rfl:=aE h
 exact aO _ _ _ bC (aK hcl (br bA (.bool ((decide ((Int.tmod y1 4)=0))&&((!decide ((Int.tmod y1 100)=0))||(decide ((Int.tmod y1 400)=0)))))) bB bt ⟨rfl,rfl⟩)
abbrev uT:av:=(.rg [(au 7 1),(aj 8 (.bin .eql (.t 7) (.c (.int .i64 1)))),(au 9 8),(az 10 (.mv (.t 0)) 9 true),(az 11 (.call (.c (.fn 116 [])) [(.t 10)]) 9 true),(aj 12 (.pick (.t 9) (.t 11) (.c (.bool false))))])
abbrev Iq:av:=(.seq (.rg [(aj 4 (.aS (.c (.int .i64 0))))]) (.seq (.rg [(aj 6 (.build [(.int .i64 31),(.int .i64 28),(.int .i64 31),(.int .i64 30),(.int .i64 31),(.int .i64 30),(.int .i64 31),(.int .i64 31),(.int .i64 30),(.int .i64 31),(.int .i64 30),(.int .i64 31)] [])),(aj 5 (.alloc [(.int .i64 0),(.int .i64 0),(.int .i64 0),(.int .i64 0),(.int .i64 0),(.int .i64 0),(.int .i64 0),(.int .i64 0),(.int .i64 0),(.int .i64 0),(.int .i64 0),(.int .i64 0)])),(iN (.st (.t 5) (.t 6) 12))]) (.seq (.seq (.sem (erase uT)) (.cond (.t 12) (.seq (.rg [(aj 4 (.aS (.c (.int .i64 29))))]) .ret) .skip)) (.seq (.rg [(au 13 1),(aj 14 (.Sh 1 12 (.t 5) (.t 13))),(aj 15 (.ld (.t 14) none)),(aP 4 15)]) .ret))))
theorem Ir:bu Tryz.prog 117 16 [(.tmp 4)] (erase Iq):=⟨Tryz.f117,_,rfl,by decide,rfl,by kernel_rfl,rfl,rfl⟩
abbrev z7:List Nat:=[0,1,4,5,12]
def mA:List Int:=[31,28,31,30,31,30,31,31,30,31,30,31]
def rX (m2:Int) (y1:Int):Option (Bool):=
 (if (decide (m2=1)) then
  (ud y1).bind fun r4=>some r4
 else
  some false)
def ue (y1:Int) (m2:Int):Option (Int):=
 (rX m2 y1).bind fun t6=>
 (if t6 then
  some 29
 else
  (Cy 12 m2).bind fun j7=>(mA[j7]?).bind fun x8=>some x8)
theorem Bx {m2:Int} {y1:Int} {q3:Nat} {H0 H:AH} (hfr:Fr H0 H0.length [] H) (ai:H[q3]? =some (ml (gx .i64) mA)) (hi0:H0.length≤q3) {K:Exit→Env→AH→Prop} {t5:Bool}
 (h:rX m2 y1=some t5)
 (kn:∀H':AH,Fr H0 H0.length [] H'→H'[q3]? =some (ml (gx .i64) mA)→K .normal [(1,(.int .i64 m2)),(5,(.ptr q3 0)),(12,(.bool t5))] H'):
 AX Tryz.prog z7 16 H0.length (erase uT) K [(0,(.int .i64 y1)),(1,(.int .i64 m2)),(5,(.ptr q3 0))] H:=by
 refine cU fun K' hK=> ?_
 have hle:=hfr.le
 have bf:=aY ai
 rw [rX.eq_1] at h
 refine aF ai ?_
 refine b6 h (fun hy1 h=> ?_) fun hy1 h=> ?_
 · refine aF (aH hy1 ai) ?_
   obtain ⟨r4,aU,h⟩:=ak h
   refine aX aq (xZ aU) ?_
   refine aF ai ?_
   obtain rfl:=aE h
   exact hK _ _ _ _ _ aN aq (kn _ hfr (ai.trans rfl))
 · refine aF (aH hy1 ai) ?_
   obtain rfl:=aE h
   exact hK _ _ _ _ _ aN aq (kn _ hfr (ai.trans rfl))
theorem ya {y1:Int} {m2:Int} {H0:AH} {aJ:Int} (h:ue y1 m2=some aJ):
 ay Tryz.prog 117 [(.int .i64 y1),(.int .i64 m2)] H0 fun v H'=>v=(.int .i64 aJ)∧H'=H0:=by
 refine kO Ir z7 [] fun hcl K0 aO H hH hfr=> ?_
 clear hH
 have hle:=hfr.le
 rw [ue.eq_1] at h
 refine cj ?_
 obtain ⟨q3,Eb⟩:∃q:Nat,H.length=q:=⟨_,rfl⟩
 try rw [Eb]
 obtain ⟨t6,bp,h⟩:=ak h
 refine bS aq (Bx (q3:=q3) (cM _ (Fr.app hfr)) eB dD bp ?_)
 intro H hfr ai
 have hle:=hfr.le
 have bf:=aY ai
 refine aF ai ?_
 refine b7 h (fun bn h=> ?_) fun bn h=> ?_
 · refine aF ai ?_
   obtain rfl:=aE h
   exact aO _ _ _ bC (bM hfr hcl (br bA (.int .i64 29)) bB bt ⟨rfl,rfl⟩)
 · obtain ⟨j7,bG,h⟩:=ak h
   obtain ⟨x8,bY,h⟩:=ak h
   have cK:=wY (f:=(gx .i64)) bY
   refine aF (aH bG (aH cK ai)) ?_
   obtain rfl:=aE h
   exact aO _ _ _ bC (bM hfr hcl (br bA (.int .i64 x8)) bB bt ⟨rfl,rfl⟩)
abbrev uU:av:=(.cond (.t 7) (.rg [(au 8 5),(aj 9 (.bin .add (.t 8) (.c (.int .i64 1)))),(aP 5 9)]) .skip)
abbrev sZ:av:=(.blk 1 (.seq (.rg [(aj 5 (.aS (.c (.int .i64 365))))]) (.seq (.seq (.rg [(au 6 2),(aj 7 (.call (.c (.fn 116 [])) [(.t 6)]))]) (.sem (erase uU))) (.seq (.seq (.rg [(au 10 0),(au 11 5),(aj 12 (.bin .lss (.t 10) (.t 11)))]) (.cond (.t 12) (.exit 0) .skip)) (.seq (.rg [(au 13 0),(au 14 5),(aj 15 (.bin .sub (.t 13) (.t 14))),(aP 0 15)]) (.rg [(au 16 2),(aj 17 (.bin .add (.t 16) (.c (.int .i64 1)))),(aP 2 17)]))))))
abbrev s7:av:=(.seq (.seq (.rg [(au 18 0),(au 19 2),(au 20 3),(aj 21 (.call (.c (.fn 117 [])) [(.t 19),(.t 20)])),(aj 22 (.bin .geq (.t 18) (.t 21)))]) (.cond (.t 22) .skip (.exit 2))) (.blk 3 (.seq (.rg [(au 23 0),(au 24 2),(au 25 3),(aj 26 (.call (.c (.fn 117 [])) [(.t 24),(.t 25)])),(aj 27 (.bin .sub (.t 23) (.t 26))),(aP 0 27)]) (.rg [(au 28 3),(aj 29 (.bin .add (.t 28) (.c (.int .i64 1)))),(aP 3 29)]))))
abbrev Is:av:=(.seq (.rg [(aj 2 (.aS (.c (.int .i64 0)))),(aj 3 (.aS (.c (.int .i64 0)))),(aj 4 (.aS (.c (.int .i64 0))))]) (.seq (.rg [(aj 2 (.aS (.c (.int .i64 1970))))]) (.seq .skip (.seq (.blk 0 (.loop (erase sZ))) (.seq (.blk 2 (.loop (erase s7))) (.seq (.rg [(au 30 2),(au 31 3),(au 32 0),(aj 33 (.bin .add (.t 32) (.c (.int .i64 1)))),(aP 2 30),(aP 3 31),(aP 4 33)]) .ret))))))
theorem Iu:bu Tryz.prog 77 34 [(.tmp 2),(.tmp 3),(.tmp 4)] (erase Is):=⟨Tryz.f77,_,rfl,by decide,rfl,by kernel_rfl,rfl,rfl⟩
abbrev oq:List Nat:=[0,2,3,4,5,7,12,22]
def rY (r4:Bool):Option (Int):=
 (if r4 then
  some (IntKind.wrap .i64 (365+1))
 else
  some 365)
def rZ:(Int×Int)→Option (St (Int×Int×Int) (Int×Int) (Int×Int))
 |(z8,y3)=>
  (ud y3).bind fun r4=>
  (rY r4).bind fun Vq=>
  (if (decide (z8<Vq)) then
   some (.eZ (z8,y3))
  else
   some (.dz ((IntKind.wrap .i64 (z8 - Vq)),(IntKind.wrap .i64 (y3+1)))))
def sg (CL:Int):(Int×Int)→Option (St (Int×Int×Int) (Int×Int) (Int×Int))
 |(td,m12)=>
  (ue CL m12).bind fun gK=>
  (if (decide (gK≤td)) then
   (ue CL m12).bind fun kB=>
   some (.dz ((IntKind.wrap .i64 (td - kB)),(IntKind.wrap .i64 (m12+1))))
  else
   some (.eZ (td,m12)))
def yH (F:Nat) (mU:Int):Option (Int×Int×Int):=
 ((iter rZ F (mU,1970)).bind fun o20=>
 match o20 with
 | .inr (nn9,CL)=>
   ((iter (sg CL) F (nn9,0)).bind fun Vr=>
   match Vr with
   | .inr (Vs,m18)=>
     some (CL,m18,(IntKind.wrap .i64 (Vs+1)))
   | .inl _=>none)
 | .inl _=>none)
theorem By {r4:Bool} {z8:Int} {y3:Int} {H:AH} {K:Exit→Env→AH→Prop} {YY:Int}
 (h:rY r4=some YY)
 (kn:K .normal [(0,(.int .i64 z8)),(2,(.int .i64 y3)),(3,(.int .i64 0)),(5,(.int .i64 YY))] H):
 AX Tryz.prog oq 34 H.length (erase uU) K [(0,(.int .i64 z8)),(2,(.int .i64 y3)),(3,(.int .i64 0)),(5,(.int .i64 365)),(7,(.bool r4))] H:=by
 refine cU fun K' hK=> ?_
 rw [rY.eq_1] at h
 refine aG ?_
 refine b7 h (fun aU h=> ?_) fun aU h=> ?_
 · refine aG ?_
   obtain rfl:=aE h
   exact hK _ _ _ _ _ aN aq kn
 · refine aG ?_
   obtain rfl:=aE h
   exact hK _ _ _ _ _ aN aq kn
theorem Bz {F:Nat} {y3:Int} {z8:Int} {H:AH} {K:Exit→Env→AH→Prop} {o:(Int×Int×Int)⊕(Int×Int)}
 (h:iter rZ F (z8,y3)=some o)
 (dN:∀o':Int×Int,o= .inr o'→K (.exit 0) [(0,(.int .i64 o'.1)),(2,(.int .i64 o'.2)),(3,(.int .i64 0))] H):
 AX Tryz.prog oq 34 H.length (.loop (erase sZ)) K [(0,(.int .i64 z8)),(2,(.int .i64 y3)),(3,(.int .i64 0))] H:=by
 refine jl (fun s e H1=>match s with|(z8,y3)=>e=[(0,(.int .i64 z8)),(2,(.int .i64 y3)),(3,(.int .i64 0))]∧H1=H) h ⟨rfl,rfl⟩ ?_
 rintro K' ⟨z8,y3⟩ st e H ⟨rfl,rfl⟩ h hN hB hR hX
 rw [rZ.eq_1] at h
 refine aG ?_
 obtain ⟨r4,hy1,h⟩:=ak h
 refine aX aq (xZ hy1) ?_
 refine aG ?_
 obtain ⟨Vq,bp,h⟩:=ak h
 refine bS aq (By (z8:=z8) (y3:=y3) bp ?_)
 refine aG ?_
 refine b7 h (fun bn h=> ?_) fun bn h=> ?_
 · refine aG ?_
   obtain rfl:=aE h
   exact hX _ _ _ _ _ eK aN aq (dN _ (hB _ rfl))
 · refine aG ?_
   obtain rfl:=aE h
   exact hN _ rfl _ _ _ _ aN aq ⟨rfl,rfl⟩
theorem BA {F:Nat} {CL:Int} {m12:Int} {td:Int} {H:AH} {K:Exit→Env→AH→Prop} {o:(Int×Int×Int)⊕(Int×Int)}
 (h:iter (sg CL) F (td,m12)=some o)
 (kb2:∀o':Int×Int,o= .inr o'→K (.exit 2) [(0,(.int .i64 o'.1)),(2,(.int .i64 CL)),(3,(.int .i64 o'.2))] H):
 AX Tryz.prog oq 34 H.length (.loop (erase s7)) K [(0,(.int .i64 td)),(2,(.int .i64 CL)),(3,(.int .i64 m12))] H:=by
 refine jl (fun s e H1=>match s with|(td,m12)=>e=[(0,(.int .i64 td)),(2,(.int .i64 CL)),(3,(.int .i64 m12))]∧H1=H) h ⟨rfl,rfl⟩ ?_
 rintro K' ⟨td,m12⟩ st e H ⟨rfl,rfl⟩ h hN hB hR hX
 rw [sg.eq_1] at h
 refine aG ?_
 obtain ⟨gK,bY,h⟩:=ak h
 refine aX aq (ya bY) ?_
 refine aG ?_
 refine b7 h (fun cK h=> ?_) fun cK h=> ?_
 · refine aG ?_
   obtain ⟨kB,cE,h⟩:=ak h
   refine aX aq (ya cE) ?_
   refine aG ?_
   obtain rfl:=aE h
   exact hN _ rfl _ _ _ _ aN aq ⟨rfl,rfl⟩
 · refine aG ?_
   obtain rfl:=aE h
   exact hX _ _ _ _ _ eK aN aq (kb2 _ (hB _ rfl))
theorem FE {F:Nat} {mU:Int} {H0:AH} {aJ:Int} {fU:Int} {KS:Int} (h:yH F mU=some (aJ,fU,KS)):
 ay Tryz.prog 77 [(.int .i64 mU)] H0 fun v H'=>v=(.bz [(.int .i64 aJ),(.int .i64 fU),(.int .i64 KS)])∧H'=H0:=by
 refine eC Iu oq fun hcl K0 aO=> ?_
 rw [yH.eq_1] at h
 refine aG ?_
 obtain ⟨o20,bG,h⟩:=ak h
 refine bS aq (Bz bG ?_)
 · rintro ⟨nn9,CL⟩ rfl
   try dsimp only at h
   refine aG ?_
   obtain ⟨Vr,dO,h⟩:=ak h
   refine bS aq (BA dO ?_)
   · rintro ⟨Vs,m18⟩ rfl
     try dsimp only at h
     refine aG ?_
     obtain ⟨rfl,rfl,rfl⟩:=Gq h
     exact aO _ _ _ bC (aK hcl (br (br (br bA (.int .i64 (IntKind.wrap .i64 (Vs+1)))) (.int .i64 m18)) (.int .i64 CL)) bB bt ⟨rfl,rfl⟩)
abbrev KW:av:=(.seq (.rg [(aj 2 (.aS (.c (.str []))))]) (.seq (.rg [(au 3 0),(aj 4 (.bin .quo (.t 3) (.c (.int .i64 10)))),(aj 5 (.call (.c (.fn 38 [])) [(.t 4)])),(au 6 0),(aj 7 (.bin .rem (.t 6) (.c (.int .i64 10)))),(aj 8 (.call (.c (.fn 38 [])) [(.t 7)])),(aj 9 (.bin .add (.t 5) (.t 8))),(aP 2 9)]) .ret))
theorem KX:bu Tryz.prog 78 10 [(.tmp 2)] (erase KW):=⟨Tryz.f78,_,rfl,by decide,rfl,by kernel_rfl,rfl,rfl⟩
abbrev KY:List Nat:=[0,2]
def kJ (mU:Int):Option ((List UInt8)):=
 (strconv_Itoa (IntKind.wrap .i64 (Int.tdiv mU 10))).bind fun r2=>
 (strconv_Itoa (Int.tmod mU 10)).bind fun r3=>(cat r2 r3).bind fun x4=>some x4
theorem jr {mU:Int} {H0:AH} {aJ:List UInt8} (h:kJ mU=some aJ):
 ay Tryz.prog 78 [(.int .i64 mU)] H0 fun v H'=>v=(.str aJ)∧H'=H0:=by
 refine eC KX KY fun hcl K0 aO=> ?_
 rw [kJ.eq_1] at h
 have hy1:dv .i64 mU 10=some (IntKind.wrap .i64 (Int.tdiv mU 10)):=rfl
 refine aW hy1 ?_
 obtain ⟨r2,aU,h⟩:=ak h
 refine aX aq (gE (i1:=(IntKind.wrap .i64 (Int.tdiv mU 10))) aU) ?_
 refine aG ?_
 have bp:rm .i64 mU 10=some (Int.tmod mU 10):=rfl
 refine aW bp ?_
 obtain ⟨r3,bn,h⟩:=ak h
 refine aX aq (gE (i1:=(Int.tmod mU 10)) bn) ?_
 refine aG ?_
 obtain ⟨x4,bG,h⟩:=ak h
 refine aW bG ?_
 obtain rfl:=aE h
 exact aO _ _ _ bC (aK hcl (br bA (.str x4)) bB bt ⟨rfl,rfl⟩)
abbrev Iv:av:=(.seq (.rg [(aj 2 (.aS (.c (.str []))))]) (.seq (.rg [(au 3 0),(aj 4 (.bin .quo (.t 3) (.c (.int .i64 100)))),(aj 5 (.call (.c (.fn 78 [])) [(.t 4)])),(au 6 0),(aj 7 (.bin .rem (.t 6) (.c (.int .i64 100)))),(aj 8 (.call (.c (.fn 78 [])) [(.t 7)])),(aj 9 (.bin .add (.t 5) (.t 8))),(aP 2 9)]) .ret))
theorem Iw:bu Tryz.prog 79 10 [(.tmp 2)] (erase Iv):=⟨Tryz.f79,_,rfl,by decide,rfl,by kernel_rfl,rfl,rfl⟩
abbrev Ix:List Nat:=[0,2]
def yI (mU:Int):Option ((List UInt8)):=
 (kJ (IntKind.wrap .i64 (Int.tdiv mU 100))).bind fun r2=>
 (kJ (Int.tmod mU 100)).bind fun r3=>(cat r2 r3).bind fun x4=>some x4
theorem FH {mU:Int} {H0:AH} {aJ:List UInt8} (h:yI mU=some aJ):
 ay Tryz.prog 79 [(.int .i64 mU)] H0 fun v H'=>v=(.str aJ)∧H'=H0:=by
 refine eC Iw Ix fun hcl K0 aO=> ?_
 rw [yI.eq_1] at h
 have hy1:dv .i64 mU 100=some (IntKind.wrap .i64 (Int.tdiv mU 100)):=rfl
 refine aW hy1 ?_
 obtain ⟨r2,aU,h⟩:=ak h
 refine aX aq (jr aU) ?_
 refine aG ?_
 have bp:rm .i64 mU 100=some (Int.tmod mU 100):=rfl
 refine aW bp ?_
 obtain ⟨r3,bn,h⟩:=ak h
 refine aX aq (jr bn) ?_
 refine aG ?_
 obtain ⟨x4,bG,h⟩:=ak h
 refine aW bG ?_
 obtain rfl:=aE h
 exact aO _ _ _ bC (aK hcl (br bA (.str x4)) bB bt ⟨rfl,rfl⟩)
abbrev Iy:av:=(.seq (.rg [(aj 2 (.aS (.c (.str []))))]) (.seq (.rg [(au 9 0),(aj 10 (.mm true (.t 9) (.c (.int .i64 0)))),(aj 11 (.mm false (.t 10) (.c (.int .i64 253402300799)))),(aP 0 11)]) (.seq (.rg [(au 12 0),(aj 13 (.bin .quo (.t 12) (.c (.int .i64 86400)))),(au 14 0),(aj 15 (.bin .rem (.t 14) (.c (.int .i64 86400)))),(aP 3 13),(aP 4 15)]) (.seq (.rg [(au 17 3),(aj 18 (.call (.c (.fn 77 [])) [(.t 17)])),(au 16 18),(aj 19 (.ext (.t 16) 0)),(aj 20 (.ext (.t 16) 1)),(aj 21 (.ext (.t 16) 2)),(aP 5 19),(aP 6 20),(aP 7 21)]) (.seq (.rg [(au 22 3),(aj 23 (.bin .rem (.t 22) (.c (.int .i64 7)))),(aP 8 23)]) (.seq (.rg ((au 24 8)::(aj 25 (.bin .mul (.c (.int .i64 3)) (.t 24)))::(au 26 8)::(aj 27 (.bin .mul (.c (.int .i64 3)) (.t 26)))::(aj 28 (.bin .add (.t 27) (.c (.int .i64 3))))::(aj 29 (.xd (.c (.str [84,104,117,70,114,105,83,97,116,83,117,110,77,111,110,84,117,101,87,101,100])) (some (.t 25)) (some (.t 28))))::(aj 30 (.bin .add (.t 29) (.c (.str [44,32]))))::(au 31 7)::(au 35 6)::(aj 36 (.bin .mul (.c (.int .i64 3)) (.t 35)))::(au 37 6)::(aj 38 (.bin .mul (.c (.int .i64 3)) (.t 37)))::(aj 39 (.bin .add (.t 38) (.c (.int .i64 3))))::(aj 40 (.xd (.c (.str (74::97::110::70::101::98::77::97::114::65::112::114::77::97::121::74::117::110::74::117::108::65::117::103::83::101::112::79::99::116::78::111::118::68::101::99::[]))) (some (.t 36)) (some (.t 39))))::(au 43 5)::(au 47 4)::(aj 48 (.bin .quo (.t 47) (.c (.int .i64 3600))))::(au 52 4)::(aj 53 (.bin .quo (.t 52) (.c (.int .i64 60))))::(aj 54 (.bin .rem (.t 53) (.c (.int .i64 60))))::(au 58 4)::(aj 59 (.bin .rem (.t 58) (.c (.int .i64 60))))::(aj 32 (.call (.c (.fn 78 [])) [(.t 31)]))::(aj 33 (.bin .add (.t 30) (.t 32)))::(aj 34 (.bin .add (.t 33) (.c (.str [32]))))::(aj 41 (.bin .add (.t 34) (.t 40)))::(aj 42 (.bin .add (.t 41) (.c (.str [32]))))::(aj 44 (.call (.c (.fn 79 [])) [(.t 43)]))::(aj 45 (.bin .add (.t 42) (.t 44)))::(aj 46 (.bin .add (.t 45) (.c (.str [32]))))::(aj 49 (.call (.c (.fn 78 [])) [(.t 48)]))::(aj 50 (.bin .add (.t 46) (.t 49)))::(aj 51 (.bin .add (.t 50) (.c (.str [58]))))::(aj 55 (.call (.c (.fn 78 [])) [(.t 54)]))::(aj 56 (.bin .add (.t 51) (.t 55)))::(aj 57 (.bin .add (.t 56) (.c (.str [58]))))::(aj 60 (.call (.c (.fn 78 [])) [(.t 59)]))::(aj 61 (.bin .add (.t 57) (.t 60)))::(aj 62 (.bin .add (.t 61) (.c (.str [32,43,48,48,48,48]))))::(aP 2 62)::[])) .ret))))))
theorem Iz:bu Tryz.prog 37 63 [(.tmp 2)] (erase Iy):=⟨Tryz.f37,_,rfl,by decide,rfl,by kernel_rfl,rfl,rfl⟩
abbrev IA:List Nat:=[0,2,3,4,5,6,7,8]
def pz (F:Nat) (t1:Int):Option ((List UInt8)):=
 (yH F (IntKind.wrap .i64 (Int.tdiv (min (max t1 0) 253402300799) 86400))).bind fun (r2,r3,r4)=>
 (sub ([84,104,117,70,114,105,83,97,116,83,117,110,77,111,110,84,117,101,87,101,100]:List UInt8) (IntKind.wrap .i64 (3*(Int.tmod (IntKind.wrap .i64 (Int.tdiv (min (max t1 0) 253402300799) 86400)) 7))) (IntKind.wrap .i64 ((IntKind.wrap .i64 (3*(Int.tmod (IntKind.wrap .i64 (Int.tdiv (min (max t1 0) 253402300799) 86400)) 7)))+3))).bind fun x5=>
 (cat x5 ([44,32]:List UInt8)).bind fun x6=>
 (sub ((74::97::110::70::101::98::77::97::114::65::112::114::77::97::121::74::117::110::74::117::108::65::117::103::83::101::112::79::99::116::78::111::118::68::101::99::[]):List UInt8) (IntKind.wrap .i64 (3*r3)) (IntKind.wrap .i64 ((IntKind.wrap .i64 (3*r3))+3))).bind fun x7=>
 (kJ r4).bind fun r8=>
 (cat x6 r8).bind fun x9=>
 (cat x9 ([32]:List UInt8)).bind fun o7=>
 (cat o7 x7).bind fun qz=>
 (cat qz ([32]:List UInt8)).bind fun om=>
 (yI r2).bind fun gK=>
 (cat om gK).bind fun RM=>
 (cat RM ([32]:List UInt8)).bind fun lg=>
 (kJ (IntKind.wrap .i64 (Int.tdiv (Int.tmod (min (max t1 0) 253402300799) 86400) 3600))).bind fun r16=>
 (cat lg r16).bind fun Bt=>
 (cat Bt ([58]:List UInt8)).bind fun CJ=>
 (kJ (Int.tmod (IntKind.wrap .i64 (Int.tdiv (Int.tmod (min (max t1 0) 253402300799) 86400) 60)) 60)).bind fun Ec=>
 (cat CJ Ec).bind fun Ea=>
 (cat Ea ([58]:List UInt8)).bind fun xq=>
 (kJ (Int.tmod (Int.tmod (min (max t1 0) 253402300799) 86400) 60)).bind fun r22=>
 (cat xq r22).bind fun KV=>
 (cat KV ([32,43,48,48,48,48]:List UInt8)).bind fun CK=>some CK
theorem FI {F:Nat} {t1:Int} {H0:AH} {aJ:List UInt8} (h:pz F t1=some aJ):
 ay Tryz.prog 37 [(.int .i64 t1)] H0 fun v H'=>v=(.str aJ)∧H'=H0:=by
 refine eC Iz IA fun hcl K0 aO=> ?_
 rw [pz.eq_1] at h
 have hy1:dv .i64 (min (max t1 0) 253402300799) 86400=some (IntKind.wrap .i64 (Int.tdiv (min (max t1 0) 253402300799) 86400)):=rfl
 have aU:rm .i64 (min (max t1 0) 253402300799) 86400=some (Int.tmod (min (max t1 0) 253402300799) 86400):=rfl
 refine aW (aH hy1 aU) ?_
 obtain ⟨⟨r2,r3,r4⟩,bp,h⟩:=ak h
 dsimp only at h
 refine aX aq (FE bp) ?_
 refine aG ?_
 have bn:rm .i64 (IntKind.wrap .i64 (Int.tdiv (min (max t1 0) 253402300799) 86400)) 7=some (Int.tmod (IntKind.wrap .i64 (Int.tdiv (min (max t1 0) 253402300799) 86400)) 7):=rfl
 obtain ⟨x5,bG,h⟩:=ak h
 obtain ⟨x6,bY,h⟩:=ak h
 obtain ⟨x7,cK,h⟩:=ak h
 have cE:dv .i64 (Int.tmod (min (max t1 0) 253402300799) 86400) 3600=some (IntKind.wrap .i64 (Int.tdiv (Int.tmod (min (max t1 0) 253402300799) 86400) 3600)):=rfl
 have dO:dv .i64 (Int.tmod (min (max t1 0) 253402300799) 86400) 60=some (IntKind.wrap .i64 (Int.tdiv (Int.tmod (min (max t1 0) 253402300799) 86400) 60)):=rfl
 have cT:rm .i64 (IntKind.wrap .i64 (Int.tdiv (Int.tmod (min (max t1 0) 253402300799) 86400) 60)) 60=some (Int.tmod (IntKind.wrap .i64 (Int.tdiv (Int.tmod (min (max t1 0) 253402300799) 86400) 60)) 60):=rfl
 have cP:rm .i64 (Int.tmod (min (max t1 0) 253402300799) 86400) 60=some (Int.tmod (Int.tmod (min (max t1 0) 253402300799) 86400) 60):=rfl
 refine aW (aH bn (aH bG (aH bY (aH cK (aH cE (aH dO (aH cT cP))))))) ?_
 obtain ⟨r8,dI,h⟩:=ak h
 refine aX aq (jr dI) ?_
 refine aG ?_
 obtain ⟨x9,dx,h⟩:=ak h
 obtain ⟨o7,gz,h⟩:=ak h
 obtain ⟨qz,jb,h⟩:=ak h
 obtain ⟨om,iR,h⟩:=ak h
 refine aW (aH dx (aH gz (aH jb iR))) ?_
 obtain ⟨gK,mS,h⟩:=ak h
 refine aX aq (FH mS) ?_
 refine aG ?_
 obtain ⟨RM,l9,h⟩:=ak h
 obtain ⟨lg,kZ,h⟩:=ak h
 refine aW (aH l9 kZ) ?_
 obtain ⟨r16,sX,h⟩:=ak h
 refine aX aq (jr sX) ?_
 refine aG ?_
 obtain ⟨Bt,mT,h⟩:=ak h
 obtain ⟨CJ,wg,h⟩:=ak h
 refine aW (aH mT wg) ?_
 obtain ⟨Ec,wh,h⟩:=ak h
 refine aX aq (jr wh) ?_
 refine aG ?_
 obtain ⟨Ea,pg,h⟩:=ak h
 obtain ⟨xq,pn,h⟩:=ak h
 refine aW (aH pg pn) ?_
 obtain ⟨r22,zZ,h⟩:=ak h
 refine aX aq (jr zZ) ?_
 refine aG ?_
 obtain ⟨KV,Ed,h⟩:=ak h
 obtain ⟨CK,KZ,h⟩:=ak h
 refine aW (aH Ed KZ) ?_
 obtain rfl:=aE h
 exact aO _ _ _ bC (aK hcl (br bA (.str CK)) bB bt ⟨rfl,rfl⟩)
abbrev BB:av:=(.seq (.rg [(aj 2 (.aS (.c (.str []))))]) (.seq (.rg [(au 3 0),(aj 4 (.call (.c (.fn 74 [])) [(.t 3),(.c (.str [13,10]))])),(aj 5 (.bin .add (.t 4) (.c (.str [13,10])))),(aP 2 5)]) .ret))
theorem BC:bu Tryz.prog 35 6 [(.tmp 2)] (erase BB):=⟨Tryz.f35,_,rfl,by decide,rfl,by kernel_rfl,rfl,rfl⟩
abbrev BD:List Nat:=[0,2]
def lq (l1:List (List UInt8)):Option ((List UInt8)):=
 (strings_Join l1 ([13,10]:List UInt8)).bind fun r2=>(cat r2 ([13,10]:List UInt8)).bind fun x3=>some x3
theorem Aa {l1:List (List UInt8)} {H0:AH} {aJ:List UInt8} (h:lq l1=some aJ):
 ay Tryz.prog 35 [(.sl .n 1 (ml AV.str l1))] H0 fun v H'=>v=(.str aJ)∧H'=H0:=by
 refine eC BC BD fun hcl K0 aO=> ?_
 rw [lq.eq_1] at h
 refine aG ?_
 obtain ⟨r2,hy1,h⟩:=ak h
 refine aX aq (Bd (s1:=l1) (s2:=([13,10]:List UInt8)) hy1) ?_
 refine aG ?_
 obtain ⟨x3,aU,h⟩:=ak h
 refine aW aU ?_
 obtain rfl:=aE h
 exact aO _ _ _ bC (aK hcl (br bA (.str x3)) bB bt ⟨rfl,rfl⟩)
abbrev xu:av:=(.rg [(au 3 0),(aj 4 (.call (.c (.fn 35 [])) [(.t 3)])),(aj 5 (.call (.c (.fn 34 [])) [(.t 1),(.t 4)]))])
theorem xw:bu Tryz.prog 33 6 [] (erase xu):=⟨Tryz.f33,_,rfl,by decide,rfl,by kernel_rfl,rfl,rfl⟩
abbrev xx:List Nat:=[0,1]
def bH (l1:List (List UInt8)) (v3:List UInt8):Option ((List UInt8)):=
 (lq l1).bind fun r4=>
 (cS v3 r4).bind fun (r5,r6,r7)=>some r7
theorem dn {l1:List (List UInt8)} {v3:List UInt8} {q2:Nat} {H0:AH} (ai:H0[q2]? =some [(.dc 76),(.cV 5 v3)]) {aJ:List UInt8} (h:bH l1 v3=some aJ):
 ay Tryz.prog 33 [(.sl .n 1 (ml AV.str l1)),(.ptr q2 0)] H0 fun v H'=>v=(.bz [])∧H'=(H0.set q2 [(.dc 76),(.cV 5 aJ)]):=by
 have bf:=aY ai
 refine kO xw xx [q2] fun hcl K0 aO H hH hfr=> ?_
 rw [←hH] at ai
 clear hH
 have hle:=hfr.le
 have BF:=aY ai
 rw [bH.eq_1] at h
 refine aF ai ?_
 obtain ⟨r4,hy1,h⟩:=ak h
 refine aX aq (Aa hy1) ?_
 refine aF ai ?_
 obtain ⟨⟨r5,r6,r7⟩,aU,h⟩:=ak h
 dsimp only at h
 refine aX aq (gy (b2:=v3) (s3:=r4) (q1:=q2) (ai.trans rfl) aU) ?_
 refine aF ai ?_
 obtain rfl:=aE h
 exact aO _ _ _ Ya (iU (cM _ hfr) hcl bA bB bt eB dD DV A9 ⟨rfl,rfl⟩)
abbrev qT:av:=(.rg [(au 3 0),(aj 4 (.bin .lss (.t 3) (.c (.int .i64 200)))),(au 5 4),(az 6 (.mv (.t 0)) 5 false),(az 7 (.bin .gtr (.t 6) (.c (.int .i64 599))) 5 false),(aj 8 (.pick (.t 5) (.c (.bool true)) (.t 7)))])
abbrev Ee:av:=(.seq (.rg [(aj 2 (.aS (.c (.int .i64 0))))]) (.seq (.seq (.sem (erase qT)) (.cond (.t 8) (.seq (.rg [(aj 2 (.aS (.c (.int .i64 0))))]) .ret) .skip)) (.seq (.rg [(au 9 0),(aj 10 (.bin .quo (.t 9) (.c (.int .i64 100)))),(aP 2 10)]) .ret)))
theorem Ef:bu Tryz.prog 59 11 [(.tmp 2)] (erase Ee):=⟨Tryz.f59,_,rfl,by decide,rfl,by kernel_rfl,rfl,rfl⟩
abbrev wm:List Nat:=[0,2,8]
def uf (gr:Int):Option (Int):=
 (if ((decide (gr<200))||(decide (599<gr))) then
  some 0
 else
  some (IntKind.wrap .i64 (Int.tdiv gr 100)))
theorem yJ {gr:Int} {H:AH} {K:Exit→Env→AH→Prop}
 (kn:K .normal [(0,(.int .i64 gr)),(8,(.bool ((decide (gr<200))||(decide (599<gr)))))] H):
 AX Tryz.prog wm 11 H.length (erase qT) K [(0,(.int .i64 gr))] H:=by
 refine cU fun K' hK=> ?_
 refine aG ?_
 refine ob (fun hy1=> ?_) fun hy1=> ?_
 · refine aW hy1 ?_
   exact hK _ _ _ _ _ (fq hy1) aq kn
 · refine aW hy1 ?_
   exact hK _ _ _ _ _ (fq hy1) aq kn
theorem CM {gr:Int} {H0:AH} {aJ:Int} (h:uf gr=some aJ):
 ay Tryz.prog 59 [(.int .i64 gr)] H0 fun v H'=>v=(.int .i64 aJ)∧H'=H0:=by
 refine eC Ef wm fun hcl K0 aO=> ?_
 rw [uf.eq_1] at h
 refine aG ?_
 refine bS aq (yJ (gr:=gr) ?_)
 refine aG ?_
 refine b7 h (fun aU h=> ?_) fun aU h=> ?_
 · refine aG ?_
   obtain rfl:=aE h
   exact aO _ _ _ bC (aK hcl (br bA (.int .i64 0)) bB bt ⟨rfl,rfl⟩)
 · have bp:dv .i64 gr 100=some (IntKind.wrap .i64 (Int.tdiv gr 100)):=rfl
   refine aW bp ?_
   obtain rfl:=aE h
   exact aO _ _ _ bC (aK hcl (br bA (.int .i64 (IntKind.wrap .i64 (Int.tdiv gr 100)))) bB bt ⟨rfl,rfl⟩)
abbrev BG:av:=(.seq (.rg [(aj 2 (.aS (.c (.str []))))]) (.seq (.seq (.rg [(au 4 0),(aj 5 (.call (.c (.fn 59 [])) [(.t 4)])),(aP 3 5)]) (.seq (.rg [(au 6 3),(aj 7 (.bin .gtr (.t 6) (.c (.int .i64 0))))]) (.cond (.t 7) (.seq (.rg [(au 8 3),(aj 9 (.call (.c (.fn 38 [])) [(.t 8)])),(aj 10 (.bin .add (.t 9) (.c (.str [46,48,46,48])))),(aP 2 10)]) .ret) .skip))) (.seq (.rg [(aj 2 (.aS (.c (.str [52,46,52,46,55]))))]) .ret)))
theorem BH:bu Tryz.prog 19 11 [(.tmp 2)] (erase BG):=⟨Tryz.f19,_,rfl,by decide,rfl,by kernel_rfl,rfl,rfl⟩
abbrev BI:List Nat:=[0,2,3,7]
def eW (gr:Int):Option ((List UInt8)):=
 (uf gr).bind fun r2=>
 (if (decide (0<r2)) then
  (strconv_Itoa r2).bind fun r3=>
  (cat r3 ([46,48,46,48]:List UInt8)).bind fun x4=>some x4
 else
  some ([52,46,52,46,55]:List UInt8))
theorem lu {gr:Int} {H0:AH} {aJ:List UInt8} (h:eW gr=some aJ):
 ay Tryz.prog 19 [(.int .i64 gr)] H0 fun v H'=>v=(.str aJ)∧H'=H0:=by
 refine eC BH BI fun hcl K0 aO=> ?_
 rw [eW.eq_1] at h
 refine aG ?_
 obtain ⟨r2,hy1,h⟩:=ak h
 refine aX aq (CM hy1) ?_
 refine aG ?_
 refine b7 h (fun aU h=> ?_) fun aU h=> ?_
 · refine aG ?_
   obtain ⟨r3,bp,h⟩:=ak h
   refine aX aq (gE (i1:=r2) bp) ?_
   refine aG ?_
   obtain ⟨x4,bn,h⟩:=ak h
   refine aW bn ?_
   obtain rfl:=aE h
   exact aO _ _ _ bC (aK hcl (br bA (.str x4)) bB bt ⟨rfl,rfl⟩)
 · refine aG ?_
   obtain rfl:=aE h
   exact aO _ _ _ bC (aK hcl (br bA (.str ([52,46,52,46,55]:List UInt8))) bB bt ⟨rfl,rfl⟩)
abbrev Eg:av:=(.seq (.rg [(aj 4 (.aS (.c (.bool false))))]) (.seq (.rg [(au 5 0),(aj 6 (.iJ .bs (.t 5))),(au 7 1),(aj 8 (.iJ .bs (.t 7))),(aj 9 (.bin .eql (.t 6) (.t 8))),(aP 4 9)]) .ret))
theorem Eh:bu Tryz.prog 125 10 [(.tmp 4)] (erase Eg):=⟨Tryz.f125,_,rfl,by decide,rfl,by kernel_rfl,rfl,rfl⟩
abbrev Ei:List Nat:=[0,1,4]
def bytes_Equal (a1:List UInt8) (b2:List UInt8):Option (Bool):=
 some (decide (a1=b2))
theorem CN {a1:List UInt8} {b2:List UInt8} {H0:AH} {aJ:Bool} (h:bytes_Equal a1 b2=some aJ):
 ay Tryz.prog 125 [(.sl .n 1 (ml b8 a1)),(.sl .n 1 (ml b8 b2))] H0 fun v H'=>v=(.bool aJ)∧H'=H0:=by
 refine eC Eh Ei fun hcl K0 aO=> ?_
 rw [bytes_Equal.eq_1] at h
 refine aG ?_
 obtain rfl:=aE h
 exact aO _ _ _ bC (aK hcl (br bA (.bool (decide (a1=b2)))) bB bt ⟨rfl,rfl⟩)
abbrev mb:av:=(.rg [(au 5 0),(aj 6 (.len (.t 5))),(au 7 1),(aj 8 (.len (.t 7))),(aj 9 (.bin .geq (.t 6) (.t 8))),(au 10 9),(az 11 (.mv (.t 0)) 10 true),(az 12 (.mv (.t 0)) 10 true),(az 13 (.len (.t 12)) 10 true),(az 14 (.mv (.t 1)) 10 true),(az 15 (.len (.t 14)) 10 true),(az 16 (.bin .sub (.t 13) (.t 15)) 10 true),(az 17 (.slc 1 (.t 11) (some (.t 16)) none none) 10 true),(az 18 (.mv (.t 1)) 10 true),(az 19 (.call (.c (.fn 125 [])) [(.t 17),(.t 18)]) 10 true),(aj 20 (.pick (.t 10) (.t 19) (.c (.bool false)))),(aP 4 20)])
abbrev yK:av:=(.seq (.rg [(aj 4 (.aS (.c (.bool false))))]) (.seq (.sem (erase mb)) .ret))
theorem yL:bu Tryz.prog 92 21 [(.tmp 4)] (erase yK):=⟨Tryz.f92,_,rfl,by decide,rfl,by kernel_rfl,rfl,rfl⟩
abbrev pE:List Nat:=[0,1,4]
def jN (jc:List UInt8) (s1:List UInt8):Option (Bool):=
 (if (decide ((jc.length:Int)≤(s1.length:Int))) then
  (sub s1 (IntKind.wrap .i64 ((s1.length:Int) - (jc.length:Int))) (s1.length:Int)).bind fun x3=>(bytes_Equal x3 jc).bind fun r4=>some r4
 else
  some false)
def bytes_HasSuffix (s1:List UInt8) (jc:List UInt8):Option (Bool):=
 (jN jc s1).bind fun t6=>
 some t6
theorem ug {jc:List UInt8} {s1:List UInt8} {H:AH} {K:Exit→Env→AH→Prop} {t5:Bool}
 (h:jN jc s1=some t5)
 (kn:K .normal [(4,(.bool t5))] H):
 AX Tryz.prog pE 21 H.length (erase mb) K [(0,(.sl .n 1 (ml b8 s1))),(1,(.sl .n 1 (ml b8 jc))),(4,(.bool false))] H:=by
 refine cU fun K' hK=> ?_
 rw [jN.eq_1] at h
 refine aG ?_
 refine b6 h (fun hy1 h=> ?_) fun hy1 h=> ?_
 · obtain ⟨x3,aU,h⟩:=ak h
   have bp:=A8 (f:=b8) aU
   refine aW (aH hy1 aU) ?_
   obtain ⟨r4,bn,h⟩:=ak h
   refine aX aq (CN bn) ?_
   refine aG ?_
   obtain rfl:=aE h
   exact hK _ _ _ _ _ aN aq kn
 · refine aW hy1 ?_
   obtain rfl:=aE h
   exact hK _ _ _ _ _ aN aq kn
theorem xy {s1:List UInt8} {jc:List UInt8} {H0:AH} {aJ:Bool} (h:bytes_HasSuffix s1 jc=some aJ):
 ay Tryz.prog 92 [(.sl .n 1 (ml b8 s1)),(.sl .n 1 (ml b8 jc))] H0 fun v H'=>v=(.bool aJ)∧H'=H0:=by
 refine eC yL pE fun hcl K0 aO=> ?_
 rw [bytes_HasSuffix.eq_1] at h
 refine aG ?_
 obtain ⟨t6,bG,h⟩:=ak h
 refine bS aq (ug bG ?_)
 refine aG ?_
 obtain rfl:=aE h
 exact aO _ _ _ bC (aK hcl (br bA (.bool t6)) bB bt ⟨rfl,rfl⟩)
theorem CO:bu Tryz.prog 93 8 [(.tmp 2)] (wZ 1 1):=⟨Tryz.f93,_,rfl,by decide,rfl,by kernel_rfl,rfl,rfl⟩
def yb (s1:List UInt8):Option (List UInt8):=cF 1 [] s1
theorem BJ {s1:List UInt8} {H0:AH} {aJ:List UInt8} (h:yb s1=some aJ):ay Tryz.prog 93 [(.sl .n 1 (ml b8 s1))] H0 fun v H'=>v=(.sl .own 1 (ml b8 aJ))∧H'=H0:=zM CO (eS (f:=b8) h)
abbrev mV:av:=(.seq (.rg [(aj 12 (.bin .lss (.t 11) (.t 10)))]) (.seq (.cond (.t 12) .skip (.exit 0)) (.seq (.blk 1 (.seq (.rg [(aj 13 (.mK 1 (.t 9) (.t 11))),(aj 14 (.ld (.t 13) none)),(aP 5 14)]) (.seq (.rg [(au 15 3),(au 16 5),(aj 17 (.len (.t 16))),(aj 18 (.bin .add (.t 15) (.t 17))),(aP 3 18)]) (.seq (.rg [(au 19 3),(aj 20 (.bin .lss (.t 19) (.c (.int .i64 0))))]) (.cond (.t 20) (.rg [(aj 21 .bad),(iN .bad)]) .skip))))) (.rg [(aj 22 (.bin .add (.t 11) (.c (.int .i64 1)))),(au 11 22)]))))
abbrev mW:av:=(.seq (.rg [(aj 28 (.bin .lss (.t 27) (.t 26)))]) (.seq (.cond (.t 28) .skip (.exit 2)) (.seq (.blk 3 (.seq (.rg [(aj 29 (.mK 1 (.t 25) (.t 27))),(aj 30 (.ld (.t 29) none)),(aP 8 30)]) (.rg [(au 31 6),(au 32 8),(aj 33 (.app 1 1 (.t 31) (.t 32))),(aP 6 33)]))) (.rg [(aj 34 (.bin .add (.t 27) (.c (.int .i64 1)))),(au 27 34)]))))
abbrev BK:av:=(.seq (.rg [(aj 2 (.aS (.c (.sl .ex 1 []))))]) (.seq (.rg [(aj 3 (.aS (.c (.int .i64 0))))]) (.seq (.seq (.rg [(au 9 0),(aj 10 (.len (.t 9))),(aj 11 (.mv (.c (.int .i64 0))))]) (.blk 0 (.loop (erase mV)))) (.seq (.rg [(au 23 3),(aj 24 (.call (.c (.fn 83 [])) [(.c (.sl .ex 1 [])),(.t 23)])),(aP 6 24)]) (.seq (.seq (.rg [(au 25 0),(aj 26 (.len (.t 25))),(aj 27 (.mv (.c (.int .i64 0))))]) (.blk 2 (.loop (erase mW)))) (.seq (.rg [(au 35 6),(aj 2 (.xe 1 (.t 35)))]) .ret))))))
theorem BL:bu Tryz.prog 42 36 [(.tmp 2)] (erase BK):=⟨Tryz.f42,_,rfl,by decide,rfl,by kernel_rfl,rfl,rfl⟩
abbrev mB:List Nat:=[0,2,3,5,6,8,9,10,11,12,20,25,26,27,28]
def lz (cL:List (List UInt8)):(Int×Int)→Option (St (List UInt8) Int (Int×Int))
 |(uh,t3)=>
  (if (decide (t3<(cL.length:Int))) then
   (idx cL t3).bind fun x4=>
   (if (decide ((IntKind.wrap .i64 (uh+(x4.length:Int)))<0)) then
    none
   else
    some (.dz ((IntKind.wrap .i64 (uh+(x4.length:Int))),(IntKind.wrap .i64 (t3+1)))))
  else
   some (.eZ uh))
def lA (cL:List (List UInt8)):((List UInt8)×Int)→Option (St (List UInt8) (List UInt8) ((List UInt8)×Int))
 |(gZ,t9)=>
  (if (decide (t9<(cL.length:Int))) then
   (idx cL t9).bind fun o7=>
   (cF 1 gZ o7).bind fun qz=>some (.dz (qz,(IntKind.wrap .i64 (t9+1))))
  else
   some (.eZ gZ))
def lB (F:Nat) (cL:List (List UInt8)):Option ((List UInt8)):=
 ((iter (lz cL) F (0,0)).bind fun Vt=>
 match Vt with
 | .inr NJ=>
   (tW NJ).bind fun r7=>
   ((iter (lA cL) F (r7,0)).bind fun Ab=>
   match Ab with
   | .inr wo=>
     some wo
   | .inl _=>none)
 | .inl _=>none)
theorem wq {F:Nat} {t3:Int} {cL:List (List UInt8)} {uh:Int} {H:AH} {K:Exit→Env→AH→Prop} {o:((List UInt8))⊕(Int)}
 (h:iter (lz cL) F (uh,t3)=some o)
 (dN:∀o':Int,o= .inr o'→K (.exit 0) [(0,(.sl .n 1 (ml mO cL))),(3,(.int .i64 o'))] H):
 AX Tryz.prog mB 36 H.length (.loop (erase mV)) K [(0,(.sl .n 1 (ml mO cL))),(3,(.int .i64 uh)),(9,(.sl .n 1 (ml mO cL))),(10,(.int .i64 (cL.length:Int))),(11,(.int .i64 t3))] H:=by
 refine jl (fun s e H1=>match s with|(uh,t3)=>e=[(0,(.sl .n 1 (ml mO cL))),(3,(.int .i64 uh)),(9,(.sl .n 1 (ml mO cL))),(10,(.int .i64 (cL.length:Int))),(11,(.int .i64 t3))]∧H1=H) h ⟨rfl,rfl⟩ ?_
 rintro K' ⟨uh,t3⟩ st e H ⟨rfl,rfl⟩ h hN hB hR hX
 rw [lz.eq_1] at h
 refine aG ?_
 refine b7 h (fun hy1 h=> ?_) fun hy1 h=> ?_
 · obtain ⟨x4,aU,h⟩:=ak h
   refine aW aU ?_
   refine b7 h (fun bp h=> ?_) fun bp h=> ?_
   · cases h
   · refine aG ?_
     obtain rfl:=aE h
     exact hN _ rfl _ _ _ _ aN aq ⟨rfl,rfl⟩
 · refine aG ?_
   obtain rfl:=aE h
   exact hX _ _ _ _ _ eK aN aq (dN _ (hB _ rfl))
theorem wu {F:Nat} {t9:Int} {cL:List (List UInt8)} {gZ:List UInt8} {H:AH} {K:Exit→Env→AH→Prop} {o:((List UInt8))⊕((List UInt8))}
 (h:iter (lA cL) F (gZ,t9)=some o)
 (kb2:∀o':(List UInt8),o= .inr o'→K (.exit 2) [(6,(.sl .own 1 (ml b8 o')))] H):
 AX Tryz.prog mB 36 H.length (.loop (erase mW)) K [(6,(.sl .own 1 (ml b8 gZ))),(25,(.sl .n 1 (ml mO cL))),(26,(.int .i64 (cL.length:Int))),(27,(.int .i64 t9))] H:=by
 refine jl (fun s e H1=>match s with|(gZ,t9)=>e=[(6,(.sl .own 1 (ml b8 gZ))),(25,(.sl .n 1 (ml mO cL))),(26,(.int .i64 (cL.length:Int))),(27,(.int .i64 t9))]∧H1=H) h ⟨rfl,rfl⟩ ?_
 rintro K' ⟨gZ,t9⟩ st e H ⟨rfl,rfl⟩ h hN hB hR hX
 rw [lA.eq_1] at h
 refine aG ?_
 refine b7 h (fun bY h=> ?_) fun bY h=> ?_
 · obtain ⟨o7,cK,h⟩:=ak h
   obtain ⟨qz,cE,h⟩:=ak h
   have dO:cF 1 (ml b8 gZ) (ml b8 o7)=some (ml b8 qz):=eS (f:=b8) cE
   refine aW (aH cK dO) ?_
   obtain rfl:=aE h
   exact hN _ rfl _ _ _ _ aN aq ⟨rfl,rfl⟩
 · refine aG ?_
   obtain rfl:=aE h
   exact hX _ _ _ _ _ eK aN aq (kb2 _ (hB _ rfl))
theorem qU {F:Nat} {cL:List (List UInt8)} {H0:AH} {aJ:List UInt8} (h:lB F cL=some aJ):
 ay Tryz.prog 42 [(.sl .n 1 (ml mO cL))] H0 fun v H'=>v=(.sl .own 1 (ml b8 aJ))∧H'=H0:=by
 refine eC BL mB fun hcl K0 aO=> ?_
 rw [lB.eq_1] at h
 refine aG ?_
 obtain ⟨Vt,bn,h⟩:=ak h
 refine bS aq (wq bn ?_)
 · rintro NJ rfl
   try dsimp only at h
   refine aG ?_
   obtain ⟨r7,bG,h⟩:=ak h
   refine aX aq (Cz (i1:=NJ) bG) ?_
   refine aG ?_
   obtain ⟨Ab,cT,h⟩:=ak h
   refine bS aq (wu cT ?_)
   · rintro wo rfl
     try dsimp only at h
     refine aG ?_
     obtain rfl:=aE h
     exact aO _ _ _ bC (aK hcl (br bA (.sl .own 1 (ml b8 wo))) bB bt ⟨rfl,rfl⟩)
abbrev uV:av:=(.rg [(au 3 0),(aj 4 (.len (.t 3))),(aj 5 (.bin .eql (.t 4) (.c (.int .i64 0)))),(au 6 5),(az 7 (.mv (.t 0)) 6 false),(az 8 (.mv (.c .un)) 6 false),(az 9 (.lit 8 [13,10]) 6 false),(az 10 (.call (.c (.fn 92 [])) [(.t 7),(.t 9)]) 6 false),(aj 11 (.pick (.t 6) (.c (.bool true)) (.t 10)))])
abbrev IB:av:=(.seq (.rg [(aj 2 (.aS (.c (.sl .ex 1 []))))]) (.seq (.seq (.sem (erase uV)) (.cond (.t 11) (.seq (.rg [(au 12 0),(aj 13 (.call (.c (.fn 93 [])) [(.t 12)])),(aP 2 13)]) .ret) .skip)) (.seq (.rg [(au 14 0),(aj 16 (.lit 15 [13,10])),(aj 17 (.fS 1 [(.t 14),(.t 16)])),(aj 18 (.call (.c (.fn 42 [])) [(.t 17)])),(aP 2 18)]) .ret)))
theorem IC:bu Tryz.prog 61 19 [(.tmp 2)] (erase IB):=⟨Tryz.f61,_,rfl,by decide,rfl,by kernel_rfl,rfl,rfl⟩
abbrev Ac:List Nat:=[0,2,11]
def si (b1:List UInt8):Option (Bool):=
 (if (decide ((b1.length:Int)=0)) then
  some true
 else
  (bytes_HasSuffix b1 ([13,10]:List UInt8)).bind fun r2=>some r2)
def uj (F:Nat) (b1:List UInt8):Option ((List UInt8)):=
 (si b1).bind fun t4=>
 (if t4 then
  (yb b1).bind fun r5=>some r5
 else
  (lB F ([b1,([13,10]:List UInt8)]:List (List UInt8))).bind fun r6=>some r6)
theorem BM {b1:List UInt8} {H:AH} {K:Exit→Env→AH→Prop} {t3:Bool}
 (h:si b1=some t3)
 (kn:K .normal [(0,(.sl .n 1 (ml b8 b1))),(11,(.bool t3))] H):
 AX Tryz.prog Ac 19 H.length (erase uV) K [(0,(.sl .n 1 (ml b8 b1)))] H:=by
 refine cU fun K' hK=> ?_
 rw [si.eq_1] at h
 refine aG ?_
 refine b6 h (fun hy1 h=> ?_) fun hy1 h=> ?_
 · refine aW hy1 ?_
   obtain rfl:=aE h
   exact hK _ _ _ _ _ aN aq kn
 · refine aW hy1 ?_
   obtain ⟨r2,aU,h⟩:=ak h
   refine aX aq (xy aU) ?_
   refine aG ?_
   obtain rfl:=aE h
   exact hK _ _ _ _ _ aN aq kn
theorem yc {F:Nat} {b1:List UInt8} {H0:AH} {aJ:List UInt8} (h:uj F b1=some aJ):
 ay Tryz.prog 61 [(.sl .n 1 (ml b8 b1))] H0 fun v H'=>v=(.sl .own 1 (ml b8 aJ))∧H'=H0:=by
 refine eC IC Ac fun hcl K0 aO=> ?_
 rw [uj.eq_1] at h
 refine aG ?_
 obtain ⟨t4,bp,h⟩:=ak h
 refine bS aq (BM bp ?_)
 refine aG ?_
 refine b7 h (fun bn h=> ?_) fun bn h=> ?_
 · refine aG ?_
   obtain ⟨r5,bG,h⟩:=ak h
   refine aX aq (BJ bG) ?_
   refine aG ?_
   obtain rfl:=aE h
   exact aO _ _ _ bC (aK hcl (br bA (.sl .own 1 (ml b8 r5))) bB bt ⟨rfl,rfl⟩)
 · refine aG ?_
   obtain ⟨r6,bY,h⟩:=ak h
   refine aX aq (qU bY) ?_
   refine aG ?_
   obtain rfl:=aE h
   exact aO _ _ _ bC (aK hcl (br bA (.sl .own 1 (ml b8 r6))) bB bt ⟨rfl,rfl⟩)
abbrev uW:av:=(.rg [(au 9 0),(au 10 3),(aj 11 (.ixs (.t 9) (.t 10))),(aj 12 (.bin .lss (.t 11) (.c (b8 33)))),(au 13 12),(az 14 (.mv (.t 0)) 13 false),(az 15 (.mv (.t 3)) 13 false),(az 16 (.ixs (.t 14) (.t 15)) 13 false),(az 17 (.bin .gtr (.t 16) (.c (b8 126))) 13 false),(aj 18 (.pick (.t 13) (.c (.bool true)) (.t 17))),(au 19 18),(az 20 (.mv (.t 0)) 19 false),(az 21 (.mv (.t 3)) 19 false),(az 22 (.ixs (.t 20) (.t 21)) 19 false),(az 23 (.bin .eql (.t 22) (.c (b8 58))) 19 false),(aj 24 (.pick (.t 19) (.c (.bool true)) (.t 23)))])
abbrev tf:av:=(.seq (.rg [(aj 7 (.bin .lss (.t 6) (.t 5)))]) (.seq (.cond (.t 7) .skip (.exit 0)) (.seq (.blk 1 (.seq (.rg [(au 8 6),(aP 3 8)]) (.seq (.sem (erase uW)) (.cond (.t 24) (.seq (.rg [(aj 2 (.aS (.c (.bool false))))]) .ret) .skip)))) (.rg [(aj 25 (.bin .add (.t 6) (.c (.int .i64 1)))),(au 6 25)]))))
abbrev uX:av:=(.rg [(au 26 0),(aj 27 (.bin .neq (.t 26) (.c (.str [])))),(au 28 27),(az 29 (.mv (.t 0)) 28 true),(az 30 (.lens (.t 29)) 28 true),(az 31 (.bin .leq (.t 30) (.c (.int .i64 76))) 28 true),(aj 32 (.pick (.t 28) (.t 31) (.c (.bool false)))),(aP 2 32)])
abbrev ID:av:=(.seq (.rg [(aj 2 (.aS (.c (.bool false))))]) (.seq (.seq (.rg [(au 4 0),(aj 5 (.lens (.t 4))),(aj 6 (.mv (.c (.int .i64 0))))]) (.blk 0 (.loop (erase tf)))) (.seq (.sem (erase uX)) .ret)))
theorem IE:bu Tryz.prog 41 33 [(.tmp 2)] (erase ID):=⟨Tryz.f41,_,rfl,by decide,rfl,by kernel_rfl,rfl,rfl⟩
abbrev ot:List Nat:=[0,2,3,5,6,7,24]
def sj (s1:List UInt8) (t2:Int):Option (Bool):=
 (idx s1 t2).bind fun x3=>
 (if (decide (x3<33)) then
  some true
 else
  (if (decide (126<x3)) then
   some true
  else
   some (decide (x3=58))))
def sn (s1:List UInt8):Int→Option (St Bool Unit Int)
 |t2=>
  (if (decide (t2<(s1.length:Int))) then
   (sj s1 t2).bind fun t5=>
   (if t5 then
    some (.ret false)
   else
    some (.dz (IntKind.wrap .i64 (t2+1))))
  else
   some (.eZ ()))
def uk (F:Nat) (s1:List UInt8):Option (Bool):=
 ((iter (sn s1) F 0).bind fun o8=>
 match o8 with
 | .inr ()=>
   some ((!decide (s1=([]:List UInt8)))&&(decide ((s1.length:Int)≤76)))
 | .inl r7=>
   some r7)
theorem BN {s1:List UInt8} {t2:Int} {H:AH} {K:Exit→Env→AH→Prop} {t4:Bool}
 (h:sj s1 t2=some t4)
 (kn:K .normal [(0,(.str s1)),(5,(.int .i64 (s1.length:Int))),(6,(.int .i64 t2)),(24,(.bool t4))] H):
 AX Tryz.prog ot 33 H.length (erase uW) K [(0,(.str s1)),(3,(.int .i64 t2)),(5,(.int .i64 (s1.length:Int))),(6,(.int .i64 t2))] H:=by
 refine cU fun K' hK=> ?_
 rw [sj.eq_1] at h
 obtain ⟨x3,aU,h⟩:=ak h
 refine aW aU ?_
 refine b6 h (fun bp h=> ?_) fun bp h=> ?_
 · refine aW bp ?_
   obtain rfl:=aE h
   exact hK _ _ _ _ _ aN aq kn
 · refine aW (aH bp aU) ?_
   refine b6 h (fun bn h=> ?_) fun bn h=> ?_
   · refine aW bn ?_
     obtain rfl:=aE h
     exact hK _ _ _ _ _ aN aq kn
   · refine aW (aH bn aU) ?_
     obtain rfl:=aE h
     exact hK _ _ _ _ _ aN aq kn
theorem BO {F:Nat} {t2:Int} {s1:List UInt8} {H:AH} {K:Exit→Env→AH→Prop} {o:(Bool)⊕(Unit)}
 (h:iter (sn s1) F t2=some o)
 (dN:∀o':Unit,o= .inr o'→K (.exit 0) [(0,(.str s1))] H)
 (kr:∀o':Bool,o= .inl o'→K .ret [(2,(.bool o'))] H):
 AX Tryz.prog ot 33 H.length (.loop (erase tf)) K [(0,(.str s1)),(5,(.int .i64 (s1.length:Int))),(6,(.int .i64 t2))] H:=by
 refine jl (fun s e H1=>match s with|t2=>e=[(0,(.str s1)),(5,(.int .i64 (s1.length:Int))),(6,(.int .i64 t2))]∧H1=H) h ⟨rfl,rfl⟩ ?_
 rintro K' t2 st e H ⟨rfl,rfl⟩ h hN hB hR hX
 rw [sn.eq_1] at h
 refine aG ?_
 refine b7 h (fun hy1 h=> ?_) fun hy1 h=> ?_
 · refine aG ?_
   obtain ⟨t5,bG,h⟩:=ak h
   refine bS aq (BN bG ?_)
   refine aG ?_
   refine b7 h (fun bY h=> ?_) fun bY h=> ?_
   · refine aG ?_
     obtain rfl:=aE h
     exact hX _ _ _ _ _ eK aN aq (kr _ (hR _ rfl))
   · refine aG ?_
     obtain rfl:=aE h
     exact hN _ rfl _ _ _ _ aN aq ⟨rfl,rfl⟩
 · refine aG ?_
   obtain rfl:=aE h
   exact hX _ _ _ _ _ eK aN aq (dN _ (hB _ rfl))
theorem BP {s1:List UInt8} {H:AH} {K:Exit→Env→AH→Prop}
 (kn:K .normal [(2,(.bool ((!decide (s1=([]:List UInt8)))&&(decide ((s1.length:Int)≤76)))))] H):
 AX Tryz.prog ot 33 H.length (erase uX) K [(0,(.str s1))] H:=by
 refine cU fun K' hK=> ?_
 refine aG ?_
 refine ob (fun cE=> ?_) fun cE=> ?_
 · refine aW cE ?_
   exact hK _ _ _ _ _ (fq cE) aq kn
 · refine aW cE ?_
   exact hK _ _ _ _ _ (fq cE) aq kn
theorem yd {F:Nat} {s1:List UInt8} {H0:AH} {aJ:Bool} (h:uk F s1=some aJ):
 ay Tryz.prog 41 [(.str s1)] H0 fun v H'=>v=(.bool aJ)∧H'=H0:=by
 refine eC IE ot fun hcl K0 aO=> ?_
 rw [uk.eq_1] at h
 refine aG ?_
 obtain ⟨o8,cK,h⟩:=ak h
 refine bS aq (BO cK ?_ ?_)
 · rintro ⟨⟩ rfl
   try dsimp only at h
   refine aG ?_
   refine bS aq (BP (s1:=s1) ?_)
   refine aG ?_
   obtain rfl:=aE h
   exact aO _ _ _ bC (aK hcl (br bA (.bool ((!decide (s1=([]:List UInt8)))&&(decide ((s1.length:Int)≤76))))) bB bt ⟨rfl,rfl⟩)
 · rintro r7 rfl
   try dsimp only at h
   refine aG ?_
   obtain rfl:=aE h
   exact aO _ _ _ bC (aK hcl (br bA (.bool r7)) bB bt ⟨rfl,rfl⟩)
abbrev th:av:=(.rg [(au 33 4),(aj 34 (.len (.t 33))),(aj 35 (.bin .gtr (.t 34) (.c (.int .i64 0)))),(au 36 35),(az 37 (.mv (.t 6)) 36 true),(az 38 (.bin .neq (.t 37) (.c (.str []))) 36 true),(aj 39 (.pick (.t 36) (.t 38) (.c (.bool false)))),(au 40 39),(az 41 (.mv (.t 6)) 40 true),(az 42 (.ixs (.t 41) (.c (.int .i64 0))) 40 true),(az 43 (.bin .eql (.t 42) (.c (b8 32))) 40 true),(az 44 (.mv (.t 43)) 40 true),(az 45 (.mv (.t 6)) 44 false),(az 46 (.ixs (.t 45) (.c (.int .i64 0))) 44 false),(az 47 (.bin .eql (.t 46) (.c (b8 9))) 44 false),(az 48 (.pick (.t 44) (.c (.bool true)) (.t 47)) 40 true),(aj 49 (.pick (.t 40) (.t 48) (.c (.bool false)))),(aP 32 49)])
abbrev tj:av:=(.rg [(au 63 11),(au 64 63),(az 65 (.mv (.t 9)) 64 true),(az 66 (.call (.c (.fn 41 [])) [(.t 65)]) 64 true),(aj 67 (.pick (.t 64) (.t 66) (.c (.bool false)))),(aP 62 67)])
abbrev tq:av:=(.rg [(au 77 4),(au 78 7),(aj 79 (.iJ .sb (.t 78))),(aP 2 77),(aP 3 79)])
abbrev tr:av:=(.rg [(au 29 4),(au 30 5),(aj 31 (.iJ .sb (.t 30))),(aP 2 29),(aP 3 31)])
abbrev qV:av:=(.seq (.seq (.rg [(au 15 5),(aj 16 (.bin .neq (.t 15) (.c (.str []))))]) (.cond (.t 16) .skip (.exit 0))) (.blk 1 (.seq (.rg [(au 18 5),(aj 19 (.call (.c (.fn 62 [])) [(.t 18),(.c (.str [13,10]))])),(au 17 19),(aj 20 (.ext (.t 17) 0)),(aj 21 (.ext (.t 17) 1)),(aj 22 (.ext (.t 17) 2)),(aP 6 20),(aP 7 21),(aP 8 22)]) (.seq (.rg [(au 24 6),(aj 25 (.call (.c (.fn 62 [])) [(.t 24),(.c (.str [58]))])),(au 23 25),(aj 26 (.ext (.t 23) 0)),(aj 27 (.ext (.t 23) 1)),(aj 28 (.ext (.t 23) 2)),(aP 9 26),(aP 10 27),(aP 11 28)]) (.seq (.blk 2 (.seq (.sem (erase th)) (.cond (.t 32) (.rg [(au 50 4),(au 51 4),(aj 52 (.len (.t 51))),(aj 53 (.bin .sub (.t 52) (.c (.int .i64 1)))),(aj 54 (.mK 2 (.t 50) (.t 53))),(aj 55 (.bO (.t 54) 1)),(aj 56 (.ld (.t 55) none)),(au 57 6),(aj 58 (.bin .add (.c (.str [13,10])) (.t 57))),(aj 59 (.bin .add (.t 56) (.t 58))),(aj 60 (.mK 2 (.t 50) (.t 53))),(aj 61 (.bO (.t 60) 1)),(iN (.st (.t 61) (.t 59) 1))]) (.seq (.sem (erase tj)) (.cond (.t 62) (.rg [(au 68 4),(au 69 9),(au 70 10),(aj 71 (.build [(.str []),(.str [])] [(0,(1,(.t 69))),(1,(1,(.t 70)))])),(aj 72 (.fS 2 [(.t 71)])),(aj 73 (.kP 2 32 (.t 68) (.t 72))),(aP 4 73)]) (.seq (.rg [(au 75 6),(aj 76 (.bin .eql (.t 75) (.c (.str [])))),(aP 74 76)]) (.cond (.t 74) (.seq (.sem (erase tq)) .ret) (.seq (.sem (erase tr)) .ret)))))))) (.rg [(au 80 7),(aP 5 80)]))))))
abbrev tu:av:=(.rg [(au 81 4),(aP 2 81),(aj 3 (.aS (.c (.sl .ex 1 []))))])
abbrev FJ:av:=(.seq (.rg [(aj 2 (.aS (.c (.sl .ex 2 [])))),(aj 3 (.aS (.c (.sl .ex 1 []))))]) (.seq (.rg [(aj 4 (.xe 2 (.c (.sl .ex 2 []))))]) (.seq (.rg [(au 12 0),(aj 13 (.call (.c (.fn 61 [])) [(.t 12)])),(aj 14 (.iJ .bs (.t 13))),(aP 5 14)]) (.seq (.blk 0 (.loop (erase qV))) (.seq (.sem (erase tu)) .ret)))))
theorem FK:bu Tryz.prog 22 82 [(.tmp 2),(.tmp 3)] (erase FJ):=⟨Tryz.f22,_,rfl,by decide,rfl,by kernel_rfl,rfl,rfl⟩
abbrev gu:List Nat:=[0,2,3,4,5,6,7,9,10,11,16,32,62,74]
def pF (s6:List bV) (r7:List UInt8):Option (Bool):=
 (if (decide (0<(s6.length:Int))) then
  (if (!decide (r7=([]:List UInt8))) then
   (idx r7 0).bind fun lg=>
   (if (decide (lg=32)) then
    some true
   else
    some (decide (lg=9)))
  else
   some false)
 else
  some false)
def pG (F:Nat) (gj:Bool) (gH:List UInt8):Option (Bool):=
 (if gj then
  (uk F gH).bind fun r24=>some r24
 else
  some false)
def pH (F:Nat):((List UInt8)×(List bV))→Option (St ((List bV)×(List UInt8)) (List bV) ((List UInt8)×(List bV)))
 |(e8,s6)=>
  (if (!decide (e8=([]:List UInt8))) then
   (strings_Cut e8 ([13,10]:List UInt8)).bind fun (r7,r8,r9)=>
   (strings_Cut r7 ([58]:List UInt8)).bind fun (gH,eM,gj)=>
   (pF s6 r7).bind fun t17=>
   (if t17 then
    (Cy s6.length (IntKind.wrap .i64 ((s6.length:Int) - 1))).bind fun RN=>
    (s6[RN]?).bind fun we=>
    (cat ([13,10]:List UInt8) r7).bind fun Ea=>
    (cat we.value Ea).bind fun xq=>some (.dz (r8,(List.set s6 RN (bV.mk we.name xq))))
   else
    (pG F gj gH).bind fun t26=>
    (if t26 then
     (cF 32 s6 ([(bV.mk gH eM)]:List bV)).bind fun x27=>some (.dz (r8,x27))
    else
     (if (decide (r7=([]:List UInt8))) then
      some (.ret (s6,r8))
     else
      some (.ret (s6,e8)))))
  else
   some (.eZ s6))
def wv (F:Nat) (b1:List UInt8):Option ((List bV)×(List UInt8)):=
 (uj F b1).bind fun r2=>
 ((iter (pH F) F (r2,([]:List bV))).bind fun o42=>
 match o42 with
 | .inr IF=>
   some (IF,([]:List UInt8))
 | .inl (RO,r39)=>
   some (RO,r39))
theorem Ad {s6:List bV} {r7:List UInt8} {Yf:Nat} {Yg:Nat} {e8:List UInt8} {r8:List UInt8} {gH:List UInt8} {eM:List UInt8} {gj:Bool} {H0 H:AH} (hfr:Fr H0 H0.length [] H) (ai:GF 2 H0.length Yf (ml aV s6) Yg H) {K:Exit→Env→AH→Prop} {t16:Bool}
 (h:pF s6 r7=some t16)
 (kn:∀H':AH,Fr H0 H0.length [] H'→GF 2 H0.length Yf (ml aV s6) Yg H'→K .normal [(4,(.b5 Yf 2 s6.length Yg)),(5,(.str e8)),(6,(.str r7)),(7,(.str r8)),(9,(.str gH)),(10,(.str eM)),(11,(.bool gj)),(32,(.bool t16))] H'):
 AX Tryz.prog gu 82 H0.length (erase th) K [(4,(.b5 Yf 2 s6.length Yg)),(5,(.str e8)),(6,(.str r7)),(7,(.str r8)),(9,(.str gH)),(10,(.str eM)),(11,(.bool gj))] H:=by
 refine cU fun K' hK=> ?_
 have hle:=hfr.le
 rw [pF.eq_1] at h
 refine cj ?_
 refine b6 h (fun bG h=> ?_) fun bG h=> ?_
 · refine aF bG ?_
   refine b6 h (fun bY h=> ?_) fun bY h=> ?_
   · obtain ⟨lg,cK,h⟩:=ak h
     refine aF (aH bY cK) ?_
     refine b6 h (fun cE h=> ?_) fun cE h=> ?_
     · refine aF cE ?_
       obtain rfl:=aE h
       exact hK _ _ _ _ _ (fq (aH bG (aH bY cE))) aq (kn _ hfr ai)
     · refine aF (aH cE cK) ?_
       obtain rfl:=aE h
       exact hK _ _ _ _ _ (fq (aH bG (aH bY cE))) aq (kn _ hfr ai)
   · refine aF bY ?_
     obtain rfl:=aE h
     exact hK _ _ _ _ _ (fq (aH bG bY)) aq (kn _ hfr ai)
 · refine aF bG ?_
   obtain rfl:=aE h
   exact hK _ _ _ _ _ (fq bG) aq (kn _ hfr ai)
theorem Ae {F:Nat} {gj:Bool} {gH:List UInt8} {Yh:Nat} {s6:List bV} {Yi:Nat} {e8:List UInt8} {r7:List UInt8} {r8:List UInt8} {eM:List UInt8} {H0 H:AH} (hfr:Fr H0 H0.length [] H) (ai:GF 2 H0.length Yh (ml aV s6) Yi H) {K:Exit→Env→AH→Prop} {t25:Bool}
 (h:pG F gj gH=some t25)
 (kn:∀H':AH,Fr H0 H0.length [] H'→GF 2 H0.length Yh (ml aV s6) Yi H'→K .normal [(4,(.b5 Yh 2 s6.length Yi)),(5,(.str e8)),(6,(.str r7)),(7,(.str r8)),(9,(.str gH)),(10,(.str eM)),(62,(.bool t25))] H'):
 AX Tryz.prog gu 82 H0.length (erase tj) K [(4,(.b5 Yh 2 s6.length Yi)),(5,(.str e8)),(6,(.str r7)),(7,(.str r8)),(9,(.str gH)),(10,(.str eM)),(11,(.bool gj))] H:=by
 refine cU fun K' hK=> ?_
 have hle:=hfr.le
 rw [pG.eq_1] at h
 refine cj ?_
 refine b6 h (fun mT h=> ?_) fun mT h=> ?_
 · refine aF mT ?_
   obtain ⟨r24,wg,h⟩:=ak h
   refine aX aq (yd wg) ?_
   refine cj ?_
   obtain rfl:=aE h
   exact hK _ _ _ _ _ (fq mT) aq (kn _ hfr ai)
 · refine aF mT ?_
   obtain rfl:=aE h
   exact hK _ _ _ _ _ (fq mT) aq (kn _ hfr ai)
theorem Af {s6:List bV} {r8:List UInt8} {H0 H:AH} (hfr:Fr H0 H0.length [] H) {K:Exit→Env→AH→Prop}
 (kn:∀H':AH,Fr H0 H0.length [] H'→K .normal [(2,(.sl .n 2 (ml aV s6))),(3,(.sl .own 1 (ml b8 r8)))] H'):
 AX Tryz.prog gu 82 H0.length (erase tq) K [(4,(.sl .n 2 (ml aV s6))),(7,(.str r8))] H:=by
 refine cU fun K' hK=> ?_
 have hle:=hfr.le
 refine cj ?_
 exact hK _ _ _ _ _ aN aq (kn _ hfr)
theorem Ag {s6:List bV} {e8:List UInt8} {H0 H:AH} (hfr:Fr H0 H0.length [] H) {K:Exit→Env→AH→Prop}
 (kn:∀H':AH,Fr H0 H0.length [] H'→K .normal [(2,(.sl .n 2 (ml aV s6))),(3,(.sl .own 1 (ml b8 e8)))] H'):
 AX Tryz.prog gu 82 H0.length (erase tr) K [(4,(.sl .n 2 (ml aV s6))),(5,(.str e8))] H:=by
 refine cU fun K' hK=> ?_
 have hle:=hfr.le
 refine cj ?_
 exact hK _ _ _ _ _ aN aq (kn _ hfr)
theorem Ah {F:Nat} {e8:List UInt8} {s6:List bV} {q3:Nat} {q4:Nat} {H0 H:AH} (hfr:Fr H0 H0.length [] H) (ai:GF 2 H0.length q3 (ml aV s6) q4 H) {K:Exit→Env→AH→Prop} {o:((List bV)×(List UInt8))⊕((List bV))}
 (h:iter (pH F) F (e8,s6)=some o)
 (dN:∀o':(List bV),o= .inr o'→∀H':AH,∀FM CP:Nat,Fr H0 H0.length [] H'→GF 2 H0.length FM (ml aV o') CP H'→K (.exit 0) [(4,(.b5 FM 2 o'.length CP))] H')
 (kr:∀o':(List bV)×(List UInt8),o= .inl o'→∀H':AH,Fr H0 H0.length [] H'→K .ret [(2,(.sl .n 2 (ml aV o'.1))),(3,(.sl .n 1 (ml b8 o'.2)))] H'):
 AX Tryz.prog gu 82 H0.length (.loop (erase qV)) K [(4,(.b5 q3 2 s6.length q4)),(5,(.str e8))] H:=by
 refine jl (fun s e H1=>match s with|(e8,s6)=>∃q3 q4:Nat,e=[(4,(.b5 q3 2 s6.length q4)),(5,(.str e8))]∧Fr H0 H0.length [] H1∧GF 2 H0.length q3 (ml aV s6) q4 H1) h ⟨q3,q4,rfl,hfr,ai⟩ ?_
 rintro K' ⟨e8,s6⟩ st e H ⟨q3,q4,rfl,hfr,ai⟩ h hN hB hR hX
 have hle:=hfr.le
 rw [pH.eq_1] at h
 refine cj ?_
 refine b7 h (fun aU h=> ?_) fun aU h=> ?_
 · refine cj ?_
   obtain ⟨⟨r7,r8,r9⟩,bp,h⟩:=ak h
   dsimp only at h
   refine aX aq (uJ (s1:=e8) (s2:=([13,10]:List UInt8)) bp) ?_
   refine cj ?_
   obtain ⟨⟨gH,eM,gj⟩,bn,h⟩:=ak h
   dsimp only at h
   refine aX aq (uJ (s1:=r7) (s2:=([58]:List UInt8)) bn) ?_
   refine cj ?_
   obtain ⟨t17,dO,h⟩:=ak h
   refine bS aq (Ad (e8:=e8) (r8:=r8) (gH:=gH) (eM:=eM) (gj:=gj) hfr ai dO ?_)
   intro H hfr ai
   have hle:=hfr.le
   refine cj ?_
   refine b7 h (fun cT h=> ?_) fun cT h=> ?_
   · obtain ⟨RN,cP,h⟩:=ak h
     obtain ⟨we,dI,h⟩:=ak h
     have dx:=GF.atM (f:=aV) (ai) dI
     have gz:(jh 2 (ml aV s6) q4)[RN*2+1]? =some (.str we.value):=Gp (f:=aV) (fun _=>⟨rfl,rfl,rfl,rfl⟩) dI (by decide)
     obtain ⟨Ea,jb,h⟩:=ak h
     obtain ⟨xq,iR,h⟩:=ak h
     have mS:=GF.atM (f:=aV) (ai) dI
     have kZ:=GF.geM (f:=aV) (ai) dI
     have l9:over (jh 2 (ml aV s6) q4) (RN*2+1) [(.str xq)]=some (jh 2 (ml aV (List.set s6 RN (bV.mk we.name xq))) q4):=DT (f:=aV) (x':=(bV.mk we.name xq)) (fun _=>⟨rfl,rfl,rfl,rfl⟩) dI (by decide) rfl
     have sX:=GF.U3 (f:=aV) (x':=(bV.mk we.name xq)) (ai) dI
     refine aF (aH cP (aH dx (aH gz (aH jb (aH iR (aH cP (aH mS l9))))))) ?_
     obtain rfl:=aE h
     exact hN _ rfl _ _ _ _ aN aq ⟨q3,q4,rfl,(Fr.set (s:=q3) hfr (.inr kZ)),sX⟩
   · refine cj ?_
     obtain ⟨t26,wh,h⟩:=ak h
     refine bS aq (Ae (s6:=s6) (e8:=e8) (r7:=r7) (r8:=r8) (eM:=eM) hfr ai wh ?_)
     intro H hfr ai
     have hle:=hfr.le
     refine cj ?_
     refine b7 h (fun pg h=> ?_) fun pg h=> ?_
     · obtain ⟨x27,pn,h⟩:=ak h
       refine cj ?_
       refine gaZ (f:=aV) (X:=s6) (Y:=([(bV.mk gH eM)]:List bV)) (n1:=H0.length) (fun _=>⟨rfl,rfl,rfl,rfl⟩) (by decide) rfl rfl rfl (by simp) pn (ai) (by first|assumption|omega|(simp only [xQ,xR]<;>omega)|fail) fun q28 q29 H hsg Cw NK WR=> ?_
       have hfr:=Fr.grow hfr Cw NK
       have ai:=hsg
       have hle:=hfr.le
       refine cj ?_
       obtain rfl:=aE h
       exact hN _ rfl _ _ _ _ aN aq ⟨q28,q29,rfl,hfr,ai⟩
     · refine cj ?_
       refine b7 h (fun zZ h=> ?_) fun zZ h=> ?_
       · refine cj ?_
         refine KP ?_
         apply AX.KK (n1:=H0.length) (by decide) (EK.ml (f:=aV) (fun _=>⟨rfl,rfl,rfl,rfl⟩) s6) (ai)
         · repeat (first|exact FG.nil|apply FG.lay _ _ _ _ (wW _ _).symm|apply FG.lay _ _ _ _ (by simp [ml])|apply FG.same)
         intro H Cw NK
         have hfr:=Fr.lay hfr Cw NK
         have hle:=hfr.le
         refine RF ?_
         refine bS aq (Af (s6:=s6) (r8:=r8) hfr ?_)
         intro H hfr
         have hle:=hfr.le
         refine cj ?_
         obtain rfl:=aE h
         exact hX _ _ _ _ _ eK aN aq (kr _ (hR _ rfl) _ hfr)
       · refine cj ?_
         refine KP ?_
         apply AX.KK (n1:=H0.length) (by decide) (EK.ml (f:=aV) (fun _=>⟨rfl,rfl,rfl,rfl⟩) s6) (ai)
         · repeat (first|exact FG.nil|apply FG.lay _ _ _ _ (wW _ _).symm|apply FG.lay _ _ _ _ (by simp [ml])|apply FG.same)
         intro H Cw NK
         have hfr:=Fr.lay hfr Cw NK
         have hle:=hfr.le
         refine RF ?_
         refine bS aq (Ag (s6:=s6) (e8:=e8) hfr ?_)
         intro H hfr
         have hle:=hfr.le
         refine cj ?_
         obtain rfl:=aE h
         exact hX _ _ _ _ _ eK aN aq (kr _ (hR _ rfl) _ hfr)
 · refine cj ?_
   obtain rfl:=aE h
   exact hX _ _ _ _ _ eK aN aq (dN _ (hB _ rfl) _ q3 q4 hfr ai)
theorem Ai {IF:List bV} {H0 H:AH} (hfr:Fr H0 H0.length [] H) {K:Exit→Env→AH→Prop}
 (kn:∀H':AH,Fr H0 H0.length [] H'→K .normal [(2,(.sl .n 2 (ml aV IF))),(3,(.sl .ex 1 []))] H'):
 AX Tryz.prog gu 82 H0.length (erase tu) K [(4,(.sl .n 2 (ml aV IF)))] H:=by
 refine cU fun K' hK=> ?_
 have hle:=hfr.le
 refine cj ?_
 exact hK _ _ _ _ _ aN aq (kn _ hfr)
theorem Ej {F:Nat} {b1:List UInt8} {H0:AH} {aJ:List bV} {fU:List UInt8} (h:wv F b1=some (aJ,fU)):
 ay Tryz.prog 22 [(.sl .n 1 (ml b8 b1))] H0 fun v H'=>v=(.bz [(.sl .n 2 (ml aV aJ)),(.sl .n 1 (ml b8 fU))])∧H'=H0:=by
 refine kO FK gu [] fun hcl K0 aO H hH hfr=> ?_
 clear hH
 have hle:=hfr.le
 rw [wv.eq_1] at h
 refine cj ?_
 obtain ⟨r2,hy1,h⟩:=ak h
 refine aX aq (yc hy1) ?_
 refine cj ?_
 obtain ⟨o42,Ed,h⟩:=ak h
 refine bS aq (Ah hfr GF.nil Ed ?_ ?_)
 · rintro IF rfl H q36 q37 hfr ai
   try dsimp only at h ai
   have hle:=hfr.le
   refine cj ?_
   refine KP ?_
   apply AX.KK (n1:=H0.length) (by decide) (EK.ml (f:=aV) (fun _=>⟨rfl,rfl,rfl,rfl⟩) IF) (ai)
   · repeat (first|exact FG.nil|apply FG.lay _ _ _ _ (wW _ _).symm|apply FG.lay _ _ _ _ (by simp [ml])|apply FG.same)
   intro H Cw NK
   have hfr:=Fr.lay hfr Cw NK
   have hle:=hfr.le
   refine RF ?_
   refine bS aq (Ai (IF:=IF) hfr ?_)
   intro H hfr
   have hle:=hfr.le
   refine cj ?_
   obtain ⟨rfl,rfl⟩:=jA h
   exact aO _ _ _ bC (bM hfr hcl (br (br bA (.sl .ex 1 [])) (.sl .n 2 (ml aV IF))) bB bt ⟨rfl,rfl⟩)
 · rintro ⟨RO,r39⟩ rfl H hfr
   try dsimp only at h
   have hle:=hfr.le
   refine cj ?_
   obtain ⟨rfl,rfl⟩:=jA h
   exact aO _ _ _ bC (bM hfr hcl (br (br bA (.sl .n 1 (ml b8 r39))) (.sl .n 2 (ml aV RO))) bB bt ⟨rfl,rfl⟩)
abbrev tw:av:=(.seq (.rg [(aj 11 (.bin .lss (.t 10) (.t 9)))]) (.seq (.cond (.t 11) .skip (.exit 0)) (.seq (.blk 1 (.seq (.rg [(aj 12 (.mK 2 (.t 8) (.t 10))),(aj 13 (.ld (.t 12) (some 2))),(aj 7 (.alloc [(.str []),(.str [])])),(iN (.st (.t 7) (.t 13) 2))]) (.seq (.rg [(aj 14 (.bO (.t 7) 0)),(aj 15 (.ld (.t 14) none)),(aj 16 (.call (.c (.fn 41 [])) [(.t 15)]))]) (.cond (.t 16) (.rg [(au 17 5),(aj 18 (.bO (.t 7) 0)),(aj 19 (.ld (.t 18) none)),(aj 20 (.bin .add (.t 19) (.c (.str [58])))),(aj 21 (.bO (.t 7) 1)),(aj 22 (.ld (.t 21) none)),(aj 23 (.bin .add (.t 20) (.t 22))),(aj 24 (.bin .add (.t 23) (.c (.str [13,10])))),(aj 25 (.apps 1 (.t 17) (.t 24))),(aP 5 25)]) .skip)))) (.rg [(aj 26 (.bin .add (.t 10) (.c (.int .i64 1)))),(au 10 26)]))))
abbrev IG:av:=(.seq (.rg [(aj 4 (.aS (.c (.sl .ex 1 []))))]) (.seq (.rg [(aj 5 (.aS (.c (.sl .ex 1 []))))]) (.seq (.seq (.rg [(au 8 0),(aj 9 (.len (.t 8))),(aj 10 (.mv (.c (.int .i64 0))))]) (.blk 0 (.loop (erase tw)))) (.seq (.rg [(au 27 5),(aj 29 (.lit 28 [13,10])),(au 30 1),(aj 31 (.fS 1 [(.t 27),(.t 29),(.t 30)])),(aj 32 (.call (.c (.fn 42 [])) [(.t 31)])),(aP 4 32)]) .ret))))
theorem II:bu Tryz.prog 12 33 [(.tmp 4)] (erase IG):=⟨Tryz.f12,_,rfl,by decide,rfl,by kernel_rfl,rfl,rfl⟩
abbrev Aj:List Nat:=[0,1,4,5,7,8,9,10,11,16]
def sr (F:Nat) (l1:List bV):((List UInt8)×Int)→Option (St (List UInt8) (List UInt8) ((List UInt8)×Int))
 |(gO,t4)=>
  (if (decide (t4<(l1.length:Int))) then
   (idx l1 t4).bind fun x5=>
   (uk F x5.name).bind fun r6=>
   (if r6 then
    (cat x5.name ([58]:List UInt8)).bind fun x7=>
    (cat x7 x5.value).bind fun x8=>
    (cat x8 ([13,10]:List UInt8)).bind fun x9=>
    (cF 1 gO x9).bind fun o7=>some (.dz (o7,(IntKind.wrap .i64 (t4+1))))
   else
    some (.dz (gO,(IntKind.wrap .i64 (t4+1)))))
  else
   some (.eZ gO))
def yM (F:Nat) (l1:List bV) (su:List UInt8):Option ((List UInt8)):=
 ((iter (sr F l1) F (([]:List UInt8),0)).bind fun Ab=>
 match Ab with
 | .inr Vu=>
   (lB F ([Vu,([13,10]:List UInt8),su]:List (List UInt8))).bind fun gK=>some gK
 | .inl _=>none)
theorem BQ {F:Nat} {t4:Int} {l1:List bV} {gO:List UInt8} {su:List UInt8} {H0 H:AH} (hfr:Fr H0 H0.length [] H) {K:Exit→Env→AH→Prop} {o:((List UInt8))⊕((List UInt8))}
 (h:iter (sr F l1) F (gO,t4)=some o)
 (dN:∀o':(List UInt8),o= .inr o'→∀H':AH,Fr H0 H0.length [] H'→K (.exit 0) [(1,(.sl .n 1 (ml b8 su))),(5,(.sl .own 1 (ml b8 o')))] H'):
 AX Tryz.prog Aj 33 H0.length (.loop (erase tw)) K [(1,(.sl .n 1 (ml b8 su))),(5,(.sl .own 1 (ml b8 gO))),(8,(.sl .n 2 (ml aV l1))),(9,(.int .i64 (l1.length:Int))),(10,(.int .i64 t4))] H:=by
 refine jl (fun s e H1=>match s with|(gO,t4)=>e=[(1,(.sl .n 1 (ml b8 su))),(5,(.sl .own 1 (ml b8 gO))),(8,(.sl .n 2 (ml aV l1))),(9,(.int .i64 (l1.length:Int))),(10,(.int .i64 t4))]∧Fr H0 H0.length [] H1) h ⟨rfl,hfr⟩ ?_
 rintro K' ⟨gO,t4⟩ st e H ⟨rfl,hfr⟩ h hN hB hR hX
 have hle:=hfr.le
 rw [sr.eq_1] at h
 refine cj ?_
 refine b7 h (fun hy1 h=> ?_) fun hy1 h=> ?_
 · obtain ⟨x5,aU,h⟩:=ak h
   refine aF aU ?_
   obtain ⟨r6,bp,h⟩:=ak h
   refine aX aq (yd bp) ?_
   refine cj ?_
   refine b7 h (fun bn h=> ?_) fun bn h=> ?_
   · obtain ⟨x7,bG,h⟩:=ak h
     obtain ⟨x8,bY,h⟩:=ak h
     obtain ⟨x9,cK,h⟩:=ak h
     obtain ⟨o7,cE,h⟩:=ak h
     have dO:cF 1 (ml b8 gO) (ml b8 x9)=some (ml b8 o7):=eS (f:=b8) cE
     refine aF (aH bG (aH bY (aH cK dO))) ?_
     obtain rfl:=aE h
     exact hN _ rfl _ _ _ _ aN aq ⟨rfl,(cM _ (Fr.app hfr))⟩
   · refine cj ?_
     obtain rfl:=aE h
     exact hN _ rfl _ _ _ _ aN aq ⟨rfl,(cM _ (Fr.app hfr))⟩
 · refine cj ?_
   obtain rfl:=aE h
   exact hX _ _ _ _ _ eK aN aq (dN _ (hB _ rfl) _ hfr)
theorem FN {F:Nat} {l1:List bV} {su:List UInt8} {H0:AH} {aJ:List UInt8} (h:yM F l1 su=some aJ):
 ay Tryz.prog 12 [(.sl .n 2 (ml aV l1)),(.sl .n 1 (ml b8 su))] H0 fun v H'=>v=(.sl .own 1 (ml b8 aJ))∧H'=H0:=by
 refine kO II Aj [] fun hcl K0 aO H hH hfr=> ?_
 clear hH
 have hle:=hfr.le
 rw [yM.eq_1] at h
 refine cj ?_
 obtain ⟨Ab,cT,h⟩:=ak h
 refine bS aq (BQ (su:=su) hfr cT ?_)
 · rintro Vu rfl H hfr
   try dsimp only at h
   have hle:=hfr.le
   refine cj ?_
   obtain ⟨gK,cP,h⟩:=ak h
   refine aX aq (qU cP) ?_
   refine cj ?_
   obtain rfl:=aE h
   exact aO _ _ _ bC (bM hfr hcl (br bA (.sl .own 1 (ml b8 gK))) bB bt ⟨rfl,rfl⟩)
abbrev mc:av:=(.seq (.rg [(aj 22 (.bin .lss (.t 21) (.t 20)))]) (.seq (.cond (.t 22) .skip (.exit 0)) (.seq (.blk 1 (.seq (.rg [(aj 23 (.mK 2 (.t 19) (.t 21))),(aj 24 (.ld (.t 23) (some 2))),(aj 7 (.alloc [(.str []),(.str [])])),(iN (.st (.t 7) (.t 24) 2))]) (.seq (.rg [(aj 25 (.bO (.t 7) 1)),(aj 26 (.ld (.t 25) none)),(aj 27 (.bO (.t 7) 1)),(aj 28 (.ld (.t 27) none)),(aj 29 (.lens (.t 28))),(aj 30 (.mm false (.t 29) (.c (.int .i64 200)))),(aj 31 (.xd (.t 26) none (some (.t 30)))),(aj 32 (.sH (.t 31))),(aP 8 32)]) (.seq (.rg [(au 33 8),(aj 34 (.call (.c (.fn 81 [])) [(.t 33),(.c (.fn 82 []))])),(aj 35 (.iJ .bs (.t 34))),(aj 36 (.bO (.t 7) 1)),(iN (.st (.t 36) (.t 35) 1))]) (.rg [(au 37 5),(aj 38 (.ld (.t 7) (some 2))),(aj 39 (.fS 2 [(.t 38)])),(aj 40 (.app 2 32 (.t 37) (.t 39))),(aP 5 40)]))))) (.rg [(aj 41 (.bin .add (.t 21) (.c (.int .i64 1)))),(au 21 41)]))))
abbrev Ak:av:=(.seq (.rg [(aj 2 (.aS (.c (.str []))))]) (.seq (.rg [(au 11 0),(aj 12 (.call (.c (.fn 22 [])) [(.t 11)])),(au 10 12),(aj 13 (.ext (.t 10) 0)),(aj 14 (.ext (.t 10) 1)),(aP 3 13),(aP 4 14)]) (.seq (.rg [(aj 5 (.aS (.c (.sl .ex 2 []))))]) (.seq (.seq (.rg [(au 15 3),(au 16 3),(aj 17 (.len (.t 16))),(aj 18 (.mm false (.t 17) (.c (.int .i64 20)))),(aj 19 (.slc 2 (.t 15) none (some (.t 18)) none)),(aj 20 (.len (.t 19))),(aj 21 (.mv (.c (.int .i64 0))))]) (.blk 0 (.loop (erase mc)))) (.seq (.rg [(au 42 5),(aj 43 (.call (.c (.fn 12 [])) [(.t 42),(.c (.sl .ex 1 []))])),(aP 9 43)]) (.seq (.rg [(au 44 9),(au 45 9),(aj 46 (.len (.t 45))),(aj 47 (.bin .sub (.t 46) (.c (.int .i64 2)))),(aj 48 (.slc 1 (.t 44) none (some (.t 47)) none)),(aj 49 (.iJ .bs (.t 48))),(aP 2 49)]) .ret))))))
theorem Al:bu Tryz.prog 39 50 [(.tmp 2)] (erase Ak):=⟨Tryz.f39,_,rfl,by decide,rfl,by kernel_rfl,rfl,rfl⟩
abbrev qW:List Nat:=[0,2,3,5,7,8,9,19,20,21,22]
def kC (x4:List bV):((List bV)×Int)→Option (St (List UInt8) (List bV) ((List bV)×Int))
 |(An,t6)=>
  (if (decide (t6<(x4.length:Int))) then
   (idx x4 t6).bind fun x7=>
   (sub x7.value 0 (min (x7.value.length:Int) 200)).bind fun x8=>
   (slices_DeleteFunc x8).bind fun r9=>
   (sub (r9++List.replicate (x8.length - r9.length) 0) 0 (r9.length:Int)).bind fun o7=>
   (cF 32 An ([(bV.mk x7.name o7)]:List bV)).bind fun qz=>some (.dz (qz,(IntKind.wrap .i64 (t6+1))))
  else
   some (.eZ An))
def nt (F:Nat) (IJ:List UInt8):Option ((List UInt8)):=
 (wv F IJ).bind fun (r2,r3)=>
 (sub r2 0 (min (r2.length:Int) 20)).bind fun x4=>
 ((iter (kC x4) F (([]:List bV),0)).bind fun Vv=>
 match Vv with
 | .inr nu=>
   (yM F nu ([]:List UInt8)).bind fun kB=>
   (sub kB 0 (IntKind.wrap .i64 ((kB.length:Int) - 2))).bind fun lg=>some lg
 | .inl _=>none)
theorem vp {F:Nat} {t6:Int} {x4:List bV} {An:List bV} {H0 H:AH} (hfr:Fr H0 H0.length [] H) {K:Exit→Env→AH→Prop} {o:((List UInt8))⊕((List bV))}
 (h:iter (kC x4) F (An,t6)=some o)
 (dN:∀o':(List bV),o= .inr o'→∀H':AH,Fr H0 H0.length [] H'→K (.exit 0) [(5,(.sl .own 2 (ml aV o')))] H'):
 AX Tryz.prog qW 50 H0.length (.loop (erase mc)) K [(5,(.sl .own 2 (ml aV An))),(19,(.sl .n 2 (ml aV x4))),(20,(.int .i64 (x4.length:Int))),(21,(.int .i64 t6))] H:=by
 refine jl (fun s e H1=>match s with|(An,t6)=>e=[(5,(.sl .own 2 (ml aV An))),(19,(.sl .n 2 (ml aV x4))),(20,(.int .i64 (x4.length:Int))),(21,(.int .i64 t6))]∧Fr H0 H0.length [] H1) h ⟨rfl,hfr⟩ ?_
 rintro K' ⟨An,t6⟩ st e H ⟨rfl,hfr⟩ h hN hB hR hX
 have hle:=hfr.le
 rw [kC.eq_1] at h
 refine cj ?_
 refine b7 h (fun bn h=> ?_) fun bn h=> ?_
 · obtain ⟨x7,bG,h⟩:=ak h
   obtain ⟨x8,bY,h⟩:=ak h
   refine aF (aH bG bY) ?_
   obtain ⟨r9,cK,h⟩:=ak h
   refine aX aq (vl (s1:=x8) (q1:=(H.length+1)) vj cK) ?_
   refine cj ?_
   obtain ⟨o7,cE,h⟩:=ak h
   obtain ⟨qz,dO,h⟩:=ak h
   have cT:cF 32 (ml aV An) [(.agg [(.str x7.name),(.str o7)])]=some (ml aV qz):=eS (f:=aV) dO
   refine aF (aH cE cT) ?_
   obtain rfl:=aE h
   exact hN _ rfl _ _ _ _ aN aq ⟨rfl,(cM _ (cM _ (Fr.app (cM _ (Fr.app hfr)))))⟩
 · refine cj ?_
   obtain rfl:=aE h
   exact hX _ _ _ _ _ eK aN aq (dN _ (hB _ rfl) _ hfr)
theorem yN {F:Nat} {IJ:List UInt8} {H0:AH} {aJ:List UInt8} (h:nt F IJ=some aJ):
 ay Tryz.prog 39 [(.sl .n 1 (ml b8 IJ))] H0 fun v H'=>v=(.str aJ)∧H'=H0:=by
 refine kO Al qW [] fun hcl K0 aO H hH hfr=> ?_
 clear hH
 have hle:=hfr.le
 rw [nt.eq_1] at h
 refine cj ?_
 obtain ⟨⟨r2,r3⟩,hy1,h⟩:=ak h
 dsimp only at h
 refine aX aq (Ej hy1) ?_
 refine cj ?_
 obtain ⟨x4,aU,h⟩:=ak h
 have bp:=A8 (f:=aV) aU
 refine aF aU ?_
 obtain ⟨Vv,cP,h⟩:=ak h
 refine bS aq (vp hfr cP ?_)
 · rintro nu rfl H hfr
   try dsimp only at h
   have hle:=hfr.le
   refine cj ?_
   obtain ⟨kB,dI,h⟩:=ak h
   refine aX aq (FN dI) ?_
   refine cj ?_
   obtain ⟨lg,dx,h⟩:=ak h
   have gz:=A8 (f:=b8) dx
   refine aF dx ?_
   obtain rfl:=aE h
   exact aO _ _ _ bC (bM hfr hcl (br bA (.str lg)) bB bt ⟨rfl,rfl⟩)
end Go.Proofs.cD
end
