/- The law HeadJoins returns true at every input whose tables read as laid; each argument reads behind the call as it did; the tied card. -/
import Derived.Test.YtfnnmecilcnloaaDoorM3
import Derived.Below
import Derived.Deep.Slices
import Derived.Carry
import Derived.Test.YtfnnmecilcnloaaDoorRows
import Derived.ProofKit
import Derived.LaidMore
import Derived.Lib.LaidTab
import Derived.Shelf.Vars
import Derived.HandedShaped
import Derived.Test.YtfnnmecilcnloaaDoorCards
import Derived.Test.YtfnnmecilcnloaaDoorTie
import Derived.SevenTiedAt
set_option linter.unusedSimpArgs false
set_option linter.unusedVariables false
set_option linter.unusedSectionVars false
set_option linter.defProp false
section
set_option maxRecDepth 100000
namespace Go.Proofs.cR
open Go Go.Am Go.Proofs
open Nat renaming reduceEqDiff→nA,reduceLT→nB,reduceLeDiff→nC,reduceAdd→nD,reduceSub→nE,reduceMul→nF,reduceBEq→nG
set_option maxHeartbeats 2000000
abbrev lJ:az:=(.rg [(ax 14 0),(ax 15 4),(ai 16 (.dV 2 (.t 14) (.t 15))),(ai 17 (.gH (.t 16) 0)),(ai 18 (.ld (.t 17) none)),(ai 19 (.lens (.t 18))),(ai 20 (.bin .gtr (.t 19) (.c (.int .i64 200)))),(ax 21 20),(aE 22 (.mv (.t 0)) 21 false),(aE 23 (.mv (.t 4)) 21 false),(aE 24 (.dV 2 (.t 22) (.t 23)) 21 false),(aE 25 (.gH (.t 24) 1) 21 false),(aE 26 (.ld (.t 25) none) 21 false),(aE 27 (.lens (.t 26)) 21 false),(aE 28 (.bin .gtr (.t 27) (.c (.int .i64 4096))) 21 false),(ai 29 (.pick (.t 21) (.c (.bool true)) (.t 28)))])
abbrev kG:az:=(.seq (.seq (.rg [(ax 8 4),(ax 9 0),(ai 10 (.len (.t 9))),(ai 11 (.bin .lss (.t 8) (.t 10)))]) (.cond (.t 11) .skip (.exit 0))) (.seq (.blk 1 (.seq (.seq (.sem (erase lJ)) (.cond (.t 29) (.seq (.rg [(ai 2 (.bg (.c (.bool false))))]) .ret) .skip)) (.rg [(ax 30 3),(ax 31 0),(ax 32 4),(ai 33 (.dV 2 (.t 31) (.t 32))),(ai 34 (.gH (.t 33) 1)),(ai 35 (.ld (.t 34) none)),(ai 36 (.lens (.t 35))),(ai 37 (.bin .add (.t 30) (.t 36))),(aM 3 37)]))) (.rg [(ax 12 4),(ai 13 (.bin .add (.t 12) (.c (.int .i64 1)))),(aM 4 13)])))
abbrev wY:az:=(.seq (.rg [(ai 2 (.bg (.c (.bool false))))]) (.seq (.seq (.rg [(ax 5 0),(ai 6 (.len (.t 5))),(ai 7 (.bin .gtr (.t 6) (.c (.int .i64 60))))]) (.cond (.t 7) (.seq (.rg [(ai 2 (.bg (.c (.bool false))))]) .ret) .skip)) (.seq (.rg [(ai 3 (.bg (.c (.int .i64 0))))]) (.seq (.seq (.rg [(ai 4 (.bg (.c (.int .i64 0))))]) (.blk 0 (.loop (erase kG)))) (.seq (.rg [(ax 38 3),(ai 39 (.bin .leq (.t 38) (.c (.int .i64 4096)))),(aM 2 39)]) .ret)))))
theorem wZ:bT Tryd.prog 27 40 [(.tmp 2)] (erase wY):=⟨Tryd.f27,_,rfl,by decide,rfl,by kernel_rfl,rfl,rfl⟩
abbrev k6:List Nat:=[0,2,3,4,7,11,29]
def fc (l1:List aj) (i3:Int):Option (Bool):=
 (idx l1 i3).bind fun x4=>
 (if (decide (200<(x4.name.length:Int))) then
  some true
 else
  some (decide (4096<(x4.value.length:Int))))
def di (l1:List aj):(Int×Int)→Option (St Bool Int (Int×Int))
 |(gb,i3)=>
  (if (decide (i3<(l1.length:Int))) then
   (fc l1 i3).bind fun t6=>
   (if t6 then
    some (.ret false)
   else
    (idx l1 i3).bind fun x7=>
    some (.b7 ((IntKind.wrap .i64 (gb+(x7.value.length:Int))),(IntKind.wrap .i64 (i3+1)))))
  else
   some (.fj gb))
def ja (F:Nat) (l1:List aj):Option (Bool):=
 (if (decide (60<(l1.length:Int))) then
  some false
 else
  ((iter (di l1) F (0,0)).bind fun zd=>
  match zd with
  | .inr Jn=>
    some (decide (Jn≤4096))
  | .inl gT=>
    some gT))
theorem qe {l1:List aj} {i3:Int} {gb:Int} {H:AH} {K:Exit→Env→AH→Prop} {t5:Bool}
 (h:fc l1 i3=some t5)
 (kn:K .normal [(0,(.sl .n 2 (ml ak l1))),(3,(.int .i64 gb)),(4,(.int .i64 i3)),(29,(.bool t5))] H):
 AX Tryd.prog k6 40 H.length (erase lJ) K [(0,(.sl .n 2 (ml ak l1))),(3,(.int .i64 gb)),(4,(.int .i64 i3))] H:=by
 refine e6 fun K' hK=> ?_
 rw [fc.eq_1] at h
 obtain ⟨x4,bM,h⟩:=ay h
 refine bn bM ?_
 refine eu h (fun bF h=> ?_) fun bF h=> ?_
 · refine bn bF ?_
   obtain rfl:=aF h
   exact hK _ _ _ _ _ aP aB kn
 · refine bn (aX bF bM) ?_
   obtain rfl:=aF h
   exact hK _ _ _ _ _ aP aB kn
theorem qf {F:Nat} {i3:Int} {l1:List aj} {gb:Int} {H:AH} {K:Exit→Env→AH→Prop} {o:(Bool)⊕(Int)}
 (h:iter (di l1) F (gb,i3)=some o)
 (eD:∀o':Int,o= .inr o'→K (.exit 0) [(3,(.int .i64 o'))] H)
 (kr:∀o':Bool,o= .inl o'→K .ret [(2,(.bool o'))] H):
 AX Tryd.prog k6 40 H.length (.loop (erase kG)) K [(0,(.sl .n 2 (ml ak l1))),(3,(.int .i64 gb)),(4,(.int .i64 i3))] H:=by
 refine jO (fun s e H1=>match s with|(gb,i3)=>e=[(0,(.sl .n 2 (ml ak l1))),(3,(.int .i64 gb)),(4,(.int .i64 i3))]∧H1=H) h ⟨rfl,rfl⟩ ?_
 rintro K' ⟨gb,i3⟩ st e H ⟨rfl,rfl⟩ h hN hB hR hX
 rw [di.eq_1] at h
 refine aD ?_
 refine cc h (fun bL h=> ?_) fun bL h=> ?_
 · refine aD ?_
   obtain ⟨t6,bE,h⟩:=ay h
   refine cy aB (qe (gb:=gb) bE ?_)
   refine aD ?_
   refine cc h (fun bR h=> ?_) fun bR h=> ?_
   · refine aD ?_
     obtain rfl:=aF h
     exact hX _ _ _ _ _ fm aP aB (kr _ (hR _ rfl))
   · obtain ⟨x7,cj,h⟩:=ay h
     refine bn cj ?_
     obtain rfl:=aF h
     exact hN _ rfl _ _ _ _ aP aB ⟨rfl,rfl⟩
 · refine aD ?_
   obtain rfl:=aF h
   exact hX _ _ _ _ _ fm aP aB (eD _ (hB _ rfl))
theorem ue {F:Nat} {l1:List aj} {H0:AH} {bf:Bool} (h:ja F l1=some bf):
 aC Tryd.prog 27 [(.sl .n 2 (ml ak l1))] H0 fun v H'=>v=(.bool bf)∧H'=H0:=by
 refine gS wZ k6 fun hcl K0 br=> ?_
 rw [ja.eq_1] at h
 refine aD ?_
 refine cc h (fun hy1 h=> ?_) fun hy1 h=> ?_
 · refine aD ?_
   obtain rfl:=aF h
   exact br _ _ _ cC (aJ hcl (bS cA (.bool false)) cB bU ⟨rfl,rfl⟩)
 · refine aD ?_
   obtain ⟨zd,cE,h⟩:=ay h
   refine cy aB (qf cE ?_ ?_)
   · rintro Jn rfl
     try dsimp only at h
     refine aD ?_
     obtain rfl:=aF h
     exact br _ _ _ cC (aJ hcl (bS cA (.bool (decide (Jn≤4096)))) cB bU ⟨rfl,rfl⟩)
   · rintro gT rfl
     try dsimp only at h
     refine aD ?_
     obtain rfl:=aF h
     exact br _ _ _ cC (aJ hcl (bS cA (.bool gT)) cB bU ⟨rfl,rfl⟩)
abbrev kH:az:=(.seq (.rg [(ai 11 (.bin .lss (.t 10) (.t 9)))]) (.seq (.cond (.t 11) .skip (.exit 0)) (.seq (.blk 1 (.seq (.rg [(ai 12 (.dV 2 (.t 8) (.t 10))),(ai 13 (.ld (.t 12) (some 2))),(ai 7 (.alloc [(.str []),(.str [])])),(sr (.st (.t 7) (.t 13) 2))]) (.seq (.rg [(ai 14 (.gH (.t 7) 0)),(ai 15 (.ld (.t 14) none)),(ai 16 (.call (.c (.fn 25 [])) [(.t 15)]))]) (.cond (.t 16) (.rg [(ax 17 5),(ai 18 (.gH (.t 7) 0)),(ai 19 (.ld (.t 18) none)),(ai 20 (.bin .add (.t 19) (.c (.str [58])))),(ai 21 (.gH (.t 7) 1)),(ai 22 (.ld (.t 21) none)),(ai 23 (.bin .add (.t 20) (.t 22))),(ai 24 (.bin .add (.t 23) (.c (.str [13,10])))),(ai 25 (.apps 1 (.t 17) (.t 24))),(aM 5 25)]) .skip)))) (.rg [(ai 26 (.bin .add (.t 10) (.c (.int .i64 1)))),(ax 10 26)]))))
abbrev w5:az:=(.seq (.rg [(ai 4 (.bg (.c (.sl .ex 1 []))))]) (.seq (.rg [(ai 5 (.bg (.c (.sl .ex 1 []))))]) (.seq (.seq (.rg [(ax 8 0),(ai 9 (.len (.t 8))),(ai 10 (.mv (.c (.int .i64 0))))]) (.blk 0 (.loop (erase kH)))) (.seq (.rg [(ax 27 5),(ai 29 (.lit 28 [13,10])),(ax 30 1),(ai 31 (.mP 1 [(.t 27),(.t 29),(.t 30)])),(ai 32 (.call (.c (.fn 64 [])) [(.t 31)])),(aM 4 32)]) .ret))))
theorem w6:bT Tryd.prog 28 33 [(.tmp 4)] (erase w5):=⟨Tryd.f28,_,rfl,by decide,rfl,by kernel_rfl,rfl,rfl⟩
abbrev pF:List Nat:=[0,1,4,5,7,8,9,10,11,16]
def dj (F:Nat) (l1:List aj):((List UInt8)×Int)→Option (St (List UInt8) (List UInt8) ((List UInt8)×Int))
 |(cu,t4)=>
  (if (decide (t4<(l1.length:Int))) then
   (idx l1 t4).bind fun x5=>
   (dQ F x5.name).bind fun r6=>
   (if r6 then
    (cat x5.name ([58]:List UInt8)).bind fun x7=>
    (cat x7 x5.value).bind fun x8=>
    (cat x8 ([13,10]:List UInt8)).bind fun x9=>
    (cx 1 cu x9).bind fun oI=>some (.b7 (oI,(IntKind.wrap .i64 (t4+1))))
   else
    some (.b7 (cu,(IntKind.wrap .i64 (t4+1)))))
  else
   some (.fj cu))
def jb (F:Nat) (l1:List aj) (aY:List UInt8):Option ((List UInt8)):=
 ((iter (dj F l1) F (([]:List UInt8),0)).bind fun zb=>
 match zb with
 | .inr Jo=>
   (cz F ([Jo,([13,10]:List UInt8),aY]:List (List UInt8))).bind fun qL=>some qL
 | .inl _=>none)
theorem qg {F:Nat} {t4:Int} {l1:List aj} {cu:List UInt8} {aY:List UInt8} {H0 H:AH} (hfr:Fr H0 H0.length [] H) {K:Exit→Env→AH→Prop} {o:((List UInt8))⊕((List UInt8))}
 (h:iter (dj F l1) F (cu,t4)=some o)
 (eD:∀o':(List UInt8),o= .inr o'→∀H':AH,Fr H0 H0.length [] H'→K (.exit 0) [(1,(.sl .n 1 (ml b8 aY))),(5,(.sl .own 1 (ml b8 o')))] H'):
 AX Tryd.prog pF 33 H0.length (.loop (erase kH)) K [(1,(.sl .n 1 (ml b8 aY))),(5,(.sl .own 1 (ml b8 cu))),(8,(.sl .n 2 (ml ak l1))),(9,(.int .i64 (l1.length:Int))),(10,(.int .i64 t4))] H:=by
 refine jO (fun s e H1=>match s with|(cu,t4)=>e=[(1,(.sl .n 1 (ml b8 aY))),(5,(.sl .own 1 (ml b8 cu))),(8,(.sl .n 2 (ml ak l1))),(9,(.int .i64 (l1.length:Int))),(10,(.int .i64 t4))]∧Fr H0 H0.length [] H1) h ⟨rfl,hfr⟩ ?_
 rintro K' ⟨cu,t4⟩ st e H ⟨rfl,hfr⟩ h hN hB hR hX
 have hle:=hfr.le
 rw [dj.eq_1] at h
 refine bJ ?_
 refine cc h (fun hy1 h=> ?_) fun hy1 h=> ?_
 · obtain ⟨x5,bL,h⟩:=ay h
   refine bO bL ?_
   obtain ⟨r6,bM,h⟩:=ay h
   refine bP aB (e9 bM) ?_
   refine bJ ?_
   refine cc h (fun bF h=> ?_) fun bF h=> ?_
   · obtain ⟨x7,bE,h⟩:=ay h
     obtain ⟨x8,bR,h⟩:=ay h
     obtain ⟨x9,cj,h⟩:=ay h
     obtain ⟨oI,cE,h⟩:=ay h
     have fJ:cx 1 (ml b8 cu) (ml b8 x9)=some (ml b8 oI):=fO (f:=b8) cE
     refine bO (aX bE (aX bR (aX cj fJ))) ?_
     obtain rfl:=aF h
     exact hN _ rfl _ _ _ _ aP aB ⟨rfl,(qF H.length (Fr.app hfr))⟩
   · refine bJ ?_
     obtain rfl:=aF h
     exact hN _ rfl _ _ _ _ aP aB ⟨rfl,(qF H.length (Fr.app hfr))⟩
 · refine bJ ?_
   obtain rfl:=aF h
   exact hX _ _ _ _ _ fm aP aB (eD _ (hB _ rfl) _ hfr)
theorem uf {F:Nat} {l1:List aj} {aY:List UInt8} {H0:AH} {bf:List UInt8} (h:jb F l1 aY=some bf):
 aC Tryd.prog 28 [(.sl .n 2 (ml ak l1)),(.sl .n 1 (ml b8 aY))] H0 fun v H'=>v=(.sl .own 1 (ml b8 bf))∧H'=H0:=by
 refine za w6 pF [] (F0:=fun _=>True) trivial fun hcl K0 br H hfr hs=> ?_
 have hle:=hfr.le
 rw [jb.eq_1] at h
 refine bJ ?_
 obtain ⟨zb,dm,h⟩:=ay h
 refine cy aB (qg (aY:=aY) hfr dm ?_)
 · rintro Jo rfl H hfr
   try dsimp only at h
   have hle:=hfr.le
   refine bJ ?_
   obtain ⟨qL,eH,h⟩:=ay h
   refine bP aB (jo eH) ?_
   refine bJ ?_
   obtain rfl:=aF h
   exact br _ _ _ cC (dX hfr hcl (bS cA (.sl .own 1 (ml b8 qL))) cB bU ⟨rfl,rfl⟩)
abbrev lK:az:=(.seq (.seq (.rg [(ax 5 4),(ax 6 0),(ai 7 (.len (.t 6))),(ai 8 (.bin .lss (.t 5) (.t 7)))]) (.cond (.t 8) .skip (.exit 0))) (.seq (.blk 1 (.rg [(ax 11 3),(ax 12 0),(ax 13 4),(ai 14 (.dV 2 (.t 12) (.t 13))),(ai 15 (.ld (.t 14) (some 2))),(ai 16 (.mP 2 [(.t 15)])),(ai 17 (.app 2 32 (.t 11) (.t 16))),(aM 3 17)])) (.rg [(ax 9 4),(ai 10 (.bin .add (.t 9) (.c (.int .i64 1)))),(aM 4 10)])))
abbrev zw:az:=(.seq (.rg [(ai 2 (.bg (.c (.sl .ex 2 []))))]) (.seq (.rg [(ai 3 (.bg (.c (.sl .ex 2 []))))]) (.seq (.seq (.rg [(ai 4 (.bg (.c (.int .i64 0))))]) (.blk 0 (.loop (erase lK)))) (.seq (.rg [(ax 18 3),(ai 2 (.kJ 2 (.t 18)))]) .ret))))
theorem zx:bT Tryd.prog 30 19 [(.tmp 2)] (erase zw):=⟨Tryd.f30,_,rfl,by decide,rfl,by kernel_rfl,rfl,rfl⟩
abbrev qz:List Nat:=[0,2,3,4,8]
def eR (l1:List aj):((List aj)×Int)→Option (St (List aj) (List aj) ((List aj)×Int))
 |(fF,i3)=>
  (if (decide (i3<(l1.length:Int))) then
   (idx l1 i3).bind fun x4=>
   (cx 32 fF ([x4]:List aj)).bind fun x5=>some (.b7 (x5,(IntKind.wrap .i64 (i3+1))))
  else
   some (.fj fF))
def iB (F:Nat) (l1:List aj):Option ((List aj)):=
 ((iter (eR l1) F (([]:List aj),0)).bind fun o8=>
 match o8 with
 | .inr Jp=>
   some Jp
 | .inl _=>none)
theorem qQ {F:Nat} {i3:Int} {l1:List aj} {fF:List aj} {H:AH} {K:Exit→Env→AH→Prop} {o:((List aj))⊕((List aj))}
 (h:iter (eR l1) F (fF,i3)=some o)
 (eD:∀o':(List aj),o= .inr o'→K (.exit 0) [(3,(.sl .own 2 (ml ak o')))] H):
 AX Tryd.prog qz 19 H.length (.loop (erase lK)) K [(0,(.sl .n 2 (ml ak l1))),(3,(.sl .own 2 (ml ak fF))),(4,(.int .i64 i3))] H:=by
 refine jO (fun s e H1=>match s with|(fF,i3)=>e=[(0,(.sl .n 2 (ml ak l1))),(3,(.sl .own 2 (ml ak fF))),(4,(.int .i64 i3))]∧H1=H) h ⟨rfl,rfl⟩ ?_
 rintro K' ⟨fF,i3⟩ st e H ⟨rfl,rfl⟩ h hN hB hR hX
 rw [eR.eq_1] at h
 refine aD ?_
 refine cc h (fun hy1 h=> ?_) fun hy1 h=> ?_
 · obtain ⟨x4,bL,h⟩:=ay h
   obtain ⟨x5,bM,h⟩:=ay h
   have bF:cx 32 (ml ak fF) [(.agg [(.str x4.name),(.str x4.value)])]=some (ml ak x5):=fO (f:=ak) bM
   refine bn (aX bL bF) ?_
   obtain rfl:=aF h
   exact hN _ rfl _ _ _ _ aP aB ⟨rfl,rfl⟩
 · refine aD ?_
   obtain rfl:=aF h
   exact hX _ _ _ _ _ fm aP aB (eD _ (hB _ rfl))
theorem pG {F:Nat} {l1:List aj} {H0:AH} {bf:List aj} (h:iB F l1=some bf):
 aC Tryd.prog 30 [(.sl .n 2 (ml ak l1))] H0 fun v H'=>v=(.sl .own 2 (ml ak bf))∧H'=H0:=by
 refine gS zx qz fun hcl K0 br=> ?_
 rw [iB.eq_1] at h
 refine aD ?_
 obtain ⟨o8,bE,h⟩:=ay h
 refine cy aB (qQ bE ?_)
 · rintro Jp rfl
   try dsimp only at h
   refine aD ?_
   obtain rfl:=aF h
   exact br _ _ _ cC (aJ hcl (bS cA (.sl .own 2 (ml ak Jp))) cB bU ⟨rfl,rfl⟩)
abbrev gZ:az:=(.seq (.seq (.rg [(ax 5 4),(ax 6 0),(ai 7 (.len (.t 6))),(ai 8 (.bin .lss (.t 5) (.t 7)))]) (.cond (.t 8) .skip (.exit 0))) (.seq (.blk 1 (.seq (.rg [(ax 11 0),(ax 12 4),(ai 13 (.dV 2 (.t 11) (.t 12))),(ai 14 (.gH (.t 13) 0)),(ai 15 (.ld (.t 14) none)),(ai 16 (.call (.c (.fn 26 [])) [(.t 15)]))]) (.cond (.t 16) (.rg [(ax 17 3),(ax 18 0),(ax 19 4),(ai 20 (.dV 2 (.t 18) (.t 19))),(ai 21 (.gH (.t 20) 0)),(ai 22 (.ld (.t 21) none)),(ai 23 (.bin .add (.t 22) (.c (.str [58])))),(ax 24 0),(ax 25 4),(ai 26 (.dV 2 (.t 24) (.t 25))),(ai 27 (.gH (.t 26) 1)),(ai 28 (.ld (.t 27) none)),(ai 29 (.bin .add (.t 23) (.t 28))),(ai 30 (.bin .add (.t 29) (.c (.str [13,10])))),(ai 31 (.apps 1 (.t 17) (.t 30))),(aM 3 31)]) .skip))) (.rg [(ax 9 4),(ai 10 (.bin .add (.t 9) (.c (.int .i64 1)))),(aM 4 10)])))
abbrev qR:az:=(.seq (.rg [(ai 2 (.bg (.c (.sl .ex 1 []))))]) (.seq (.rg [(ai 3 (.bg (.c (.sl .ex 1 []))))]) (.seq (.seq (.rg [(ai 4 (.bg (.c (.int .i64 0))))]) (.blk 0 (.loop (erase gZ)))) (.seq (.rg [(ax 32 3),(ai 2 (.kJ 1 (.t 32)))]) .ret))))
theorem qS:bT Tryd.prog 65 33 [(.tmp 2)] (erase qR):=⟨Tryd.f65,_,rfl,by decide,rfl,by kernel_rfl,rfl,rfl⟩
abbrev lM:List Nat:=[0,2,3,4,8,16]
def cr (F:Nat) (l1:List aj):((List UInt8)×Int)→Option (St (List UInt8) (List UInt8) ((List UInt8)×Int))
 |(fF,i3)=>
  (if (decide (i3<(l1.length:Int))) then
   (idx l1 i3).bind fun x4=>
   (dJ F x4.name).bind fun r5=>
   (if r5 then
    (cat x4.name ([58]:List UInt8)).bind fun x6=>
    (cat x6 x4.value).bind fun x7=>
    (cat x7 ([13,10]:List UInt8)).bind fun x8=>
    (cx 1 fF x8).bind fun x9=>some (.b7 (x9,(IntKind.wrap .i64 (i3+1))))
   else
    some (.b7 (fF,(IntKind.wrap .i64 (i3+1)))))
  else
   some (.fj fF))
def gG (F:Nat) (l1:List aj):Option ((List UInt8)):=
 ((iter (cr F l1) F (([]:List UInt8),0)).bind fun zd=>
 match zd with
 | .inr nL=>
   some nL
 | .inl _=>none)
theorem mU {F:Nat} {i3:Int} {l1:List aj} {fF:List UInt8} {H:AH} {K:Exit→Env→AH→Prop} {o:((List UInt8))⊕((List UInt8))}
 (h:iter (cr F l1) F (fF,i3)=some o)
 (eD:∀o':(List UInt8),o= .inr o'→K (.exit 0) [(3,(.sl .own 1 (ml b8 o')))] H):
 AX Tryd.prog lM 33 H.length (.loop (erase gZ)) K [(0,(.sl .n 2 (ml ak l1))),(3,(.sl .own 1 (ml b8 fF))),(4,(.int .i64 i3))] H:=by
 refine jO (fun s e H1=>match s with|(fF,i3)=>e=[(0,(.sl .n 2 (ml ak l1))),(3,(.sl .own 1 (ml b8 fF))),(4,(.int .i64 i3))]∧H1=H) h ⟨rfl,rfl⟩ ?_
 rintro K' ⟨fF,i3⟩ st e H ⟨rfl,rfl⟩ h hN hB hR hX
 rw [cr.eq_1] at h
 refine aD ?_
 refine cc h (fun hy1 h=> ?_) fun hy1 h=> ?_
 · obtain ⟨x4,bL,h⟩:=ay h
   refine bn bL ?_
   obtain ⟨r5,bM,h⟩:=ay h
   refine bP aB (fS bM) ?_
   refine aD ?_
   refine cc h (fun bF h=> ?_) fun bF h=> ?_
   · obtain ⟨x6,bE,h⟩:=ay h
     obtain ⟨x7,bR,h⟩:=ay h
     obtain ⟨x8,cj,h⟩:=ay h
     obtain ⟨x9,cE,h⟩:=ay h
     have fJ:cx 1 (ml b8 fF) (ml b8 x8)=some (ml b8 x9):=fO (f:=b8) cE
     refine bn (aX bL (aX bE (aX bL (aX bR (aX cj fJ))))) ?_
     obtain rfl:=aF h
     exact hN _ rfl _ _ _ _ aP aB ⟨rfl,rfl⟩
   · refine aD ?_
     obtain rfl:=aF h
     exact hN _ rfl _ _ _ _ aP aB ⟨rfl,rfl⟩
 · refine aD ?_
   obtain rfl:=aF h
   exact hX _ _ _ _ _ fm aP aB (eD _ (hB _ rfl))
theorem qh {F:Nat} {l1:List aj} {H0:AH} {bf:List UInt8} (h:gG F l1=some bf):
 aC Tryd.prog 65 [(.sl .n 2 (ml ak l1))] H0 fun v H'=>v=(.sl .own 1 (ml b8 bf))∧H'=H0:=by
 refine gS qS lM fun hcl K0 br=> ?_
 rw [gG.eq_1] at h
 refine aD ?_
 obtain ⟨zd,dm,h⟩:=ay h
 refine cy aB (mU dm ?_)
 · rintro nL rfl
   try dsimp only at h
   refine aD ?_
   obtain rfl:=aF h
   exact br _ _ _ cC (aJ hcl (bS cA (.sl .own 1 (ml b8 nL))) cB bU ⟨rfl,rfl⟩)
abbrev ug:az:=(.seq (.rg [(ai 4 (.bg (.c (.sl .ex 1 []))))]) (.seq (.rg [(ax 5 0),(ai 6 (.call (.c (.fn 65 [])) [(.t 5)])),(ai 7 (.mP 1 [(.c (b8 13)),(.c (b8 10))])),(ai 8 (.app 1 1 (.t 6) (.t 7))),(ax 9 1),(ai 10 (.app 1 1 (.t 8) (.t 9))),(aM 4 10)]) .ret))
theorem uh:bT Tryd.prog 29 11 [(.tmp 4)] (erase ug):=⟨Tryd.f29,_,rfl,by decide,rfl,by kernel_rfl,rfl,rfl⟩
abbrev uj:List Nat:=[0,1,4]
def gQ (F:Nat) (l1:List aj) (aY:List UInt8):Option ((List UInt8)):=
 (gG F l1).bind fun r3=>
 (cx 1 r3 ([13,10]:List UInt8)).bind fun x4=>(cx 1 x4 aY).bind fun x5=>some x5
theorem sX {F:Nat} {l1:List aj} {aY:List UInt8} {H0:AH} {bf:List UInt8} (h:gQ F l1 aY=some bf):
 aC Tryd.prog 29 [(.sl .n 2 (ml ak l1)),(.sl .n 1 (ml b8 aY))] H0 fun v H'=>v=(.sl .own 1 (ml b8 bf))∧H'=H0:=by
 refine gS uh uj fun hcl K0 br=> ?_
 rw [gQ.eq_1] at h
 refine aD ?_
 obtain ⟨r3,hy1,h⟩:=ay h
 refine bP aB (qh hy1) ?_
 refine aD ?_
 obtain ⟨x4,bL,h⟩:=ay h
 have bM:cx 1 (ml b8 r3) [(b8 13),(b8 10)]=some (ml b8 x4):=fO (f:=b8) bL
 obtain ⟨x5,bF,h⟩:=ay h
 have bE:cx 1 (ml b8 x4) (ml b8 aY)=some (ml b8 x5):=fO (f:=b8) bF
 refine bn (aX bM bE) ?_
 obtain rfl:=aF h
 exact br _ _ _ cC (aJ hcl (bS cA (.sl .own 1 (ml b8 x5))) cB bU ⟨rfl,rfl⟩)
abbrev gm:az:=(.rg [(ax 12 0),(ai 13 (.call (.c (.fn 27 [])) [(.t 12)])),(ai 14 (.un .not (.t 13))),(ax 15 14),(aE 16 (.mv (.t 1)) 15 false),(aE 17 (.len (.t 16)) 15 false),(aE 18 (.bin .gtr (.t 17) (.c (.int .i64 4096))) 15 false),(ai 19 (.pick (.t 15) (.c (.bool true)) (.t 18)))])
abbrev gp:az:=(.rg [(ax 54 0),(ax 55 6),(ai 56 (.dV 2 (.t 54) (.t 55))),(ai 57 (.gH (.t 56) 1)),(ai 58 (.ld (.t 57) none)),(ax 59 7),(ai 60 (.ixs (.t 58) (.t 59))),(ai 61 (.bin .eql (.t 60) (.c (b8 13)))),(ax 62 61),(aE 63 (.mv (.t 0)) 62 false),(aE 64 (.mv (.t 6)) 62 false),(aE 65 (.dV 2 (.t 63) (.t 64)) 62 false),(aE 66 (.gH (.t 65) 1) 62 false),(aE 67 (.ld (.t 66) none) 62 false),(aE 68 (.mv (.t 7)) 62 false),(aE 69 (.ixs (.t 67) (.t 68)) 62 false),(aE 70 (.bin .eql (.t 69) (.c (b8 10))) 62 false),(ai 71 (.pick (.t 62) (.c (.bool true)) (.t 70)))])
abbrev fX:az:=(.seq (.seq (.rg [(ax 44 7),(ax 45 0),(ax 46 6),(ai 47 (.dV 2 (.t 45) (.t 46))),(ai 48 (.gH (.t 47) 1)),(ai 49 (.ld (.t 48) none)),(ai 50 (.lens (.t 49))),(ai 51 (.bin .lss (.t 44) (.t 50)))]) (.cond (.t 51) .skip (.exit 2))) (.seq (.blk 3 (.seq (.sem (erase gp)) (.cond (.t 71) (.seq (.rg [(ai 4 (.bg (.c (.bool true))))]) .ret) .skip))) (.rg [(ax 52 7),(ai 53 (.bin .add (.t 52) (.c (.int .i64 1)))),(aM 7 53)])))
abbrev fY:az:=(.seq (.seq (.rg [(ax 31 6),(ax 32 0),(ai 33 (.len (.t 32))),(ai 34 (.bin .lss (.t 31) (.t 33)))]) (.cond (.t 34) .skip (.exit 0))) (.seq (.blk 1 (.seq (.seq (.rg [(ax 37 0),(ax 38 6),(ai 39 (.dV 2 (.t 37) (.t 38))),(ai 40 (.gH (.t 39) 0)),(ai 41 (.ld (.t 40) none)),(ai 42 (.call (.c (.fn 26 [])) [(.t 41)])),(ai 43 (.un .not (.t 42)))]) (.cond (.t 43) (.seq (.rg [(ai 4 (.bg (.c (.bool true))))]) .ret) .skip)) (.seq (.rg [(ai 7 (.bg (.c (.int .i64 0))))]) (.blk 2 (.loop (erase fX)))))) (.rg [(ax 35 6),(ai 36 (.bin .add (.t 35) (.c (.int .i64 1)))),(aM 6 36)])))
abbrev gq:az:=(.rg [(ax 77 8),(ax 78 0),(ai 79 (.call (.c (.fn 30 [])) [(.t 78)])),(ai 80 (.call (.c (.fn 22 [])) [(.t 77),(.t 79)])),(ax 81 80),(aE 82 (.mv (.t 9)) 81 true),(aE 83 (.qm (.t 82)) 81 true),(aE 84 (.mv (.t 1)) 81 true),(aE 85 (.call (.c (.fn 31 [])) [(.t 84)]) 81 true),(aE 86 (.qm (.t 85)) 81 true),(aE 87 (.bin .eql (.t 83) (.t 86)) 81 true),(ai 88 (.pick (.t 81) (.t 87) (.c (.bool false)))),(aM 4 88)])
abbrev oc:az:=(.seq (.rg [(ai 4 (.bg (.c (.bool false))))]) (.seq (.seq (.rg [(ai 10 (.call (.c (.fn 14 [])) [])),(ai 11 (.un .not (.t 10)))]) (.cond (.t 11) (.seq (.rg [(ai 4 (.bg (.c (.bool false))))]) .ret) .skip)) (.seq (.seq (.sem (erase gm)) (.cond (.t 19) (.seq (.rg [(ai 4 (.bg (.c (.bool true))))]) .ret) .skip)) (.seq (.rg [(ax 20 0),(ax 21 1),(ai 22 (.call (.c (.fn 28 [])) [(.t 20),(.t 21)])),(aM 5 22)]) (.seq (.seq (.rg [(ax 23 5),(ai 24 (.qm (.t 23))),(ax 25 0),(ax 27 1),(ai 26 (.call (.c (.fn 30 [])) [(.t 25)])),(ai 28 (.call (.c (.fn 29 [])) [(.t 26),(.t 27)])),(ai 29 (.qm (.t 28))),(ai 30 (.bin .neq (.t 24) (.t 29)))]) (.cond (.t 30) (.seq (.rg [(ai 4 (.bg (.c (.bool false))))]) .ret) .skip)) (.seq (.seq (.rg [(ai 6 (.bg (.c (.int .i64 0))))]) (.blk 0 (.loop (erase fY)))) (.seq (.rg [(ax 73 5),(ai 74 (.call (.c (.fn 18 [])) [(.t 73)])),(ax 72 74),(ai 75 (.ext (.t 72) 0)),(ai 76 (.ext (.t 72) 1)),(aM 8 75),(aM 9 76)]) (.seq (.sem (erase gq)) .ret))))))))
theorem od:bT Tryd.prog 6 89 [(.tmp 4)] (erase oc):=⟨Tryd.f6,_,rfl,by decide,rfl,by kernel_rfl,rfl,rfl⟩
abbrev ct:List Nat:=[0,1,4,5,6,7,8,9,11,19,30,34,43,51,71]
def dx (F:Nat) (l1:List aj) (aY:List UInt8):Option (Bool):=
 (ja F l1).bind fun r4=>
 (if (!r4) then
  some true
 else
  some (decide (4096<(aY.length:Int))))
def cM (l1:List aj) (i10:Int) (jc:Int):Option (Bool):=
 (idx l1 i10).bind fun lN=>
 (idx lN.value jc).bind fun mT=>
 (if (decide (mT=13)) then
  some true
 else
  some (decide (mT=10)))
def bw (l1:List aj) (i10:Int):Int→Option (St Bool Unit Int)
 |jc=>
  (idx l1 i10).bind fun IZ=>
  (if (decide (jc<(IZ.value.length:Int))) then
   (cM l1 i10 jc).bind fun t18=>
   (if t18 then
    some (.ret true)
   else
    some (.b7 (IntKind.wrap .i64 (jc+1))))
  else
   some (.fj ()))
def bx (F:Nat) (l1:List aj):Int→Option (St Bool Unit Int)
 |i10=>
  (if (decide (i10<(l1.length:Int))) then
   (idx l1 i10).bind fun iM=>
   (dJ F iM.name).bind fun jQ=>
   (if (!jQ) then
    some (.ret true)
   else
    ((iter (bw l1 i10) F 0).bind fun Ra=>
    match Ra with
    | .inr ()=>
      some (.b7 (IntKind.wrap .i64 (i10+1)))
    | .inl I8=>
      some (.ret I8)))
  else
   some (.fj ()))
def dy (F:Nat) (l1:List aj) (BX:List aj) (aY:List UInt8) (tM:List UInt8):Option (Bool):=
 (iB F l1).bind fun Rb=>
 (fD F BX Rb).bind fun Rc=>
 (if Rc then
  (dS aY).bind fun Rd=>some (decide (tM=Rd))
 else
  some false)
def eS (F:Nat) (l1:List aj) (aY:List UInt8):Option (Bool):=
 (fQ F).bind fun r3=>
 (if (!r3) then
  some false
 else
  (dx F l1 aY).bind fun t6=>
  (if t6 then
   some true
  else
   (jb F l1 aY).bind fun r7=>
   (iB F l1).bind fun r8=>
   (gQ F r8 aY).bind fun r9=>
   (if (!decide (r7=r9)) then
    some false
   else
    ((iter (bx F l1) F 0).bind fun Re=>
    match Re with
    | .inr ()=>
      (eG F r7).bind fun (BX,tM)=>
      (dy F l1 BX aY tM).bind fun t29=>
      some t29
    | .inl Oq=>
      some Oq))))
theorem k7 {F:Nat} {l1:List aj} {aY:List UInt8} {H:AH} {K:Exit→Env→AH→Prop} {t5:Bool}
 (h:dx F l1 aY=some t5)
 (kn:K .normal [(0,(.sl .n 2 (ml ak l1))),(1,(.sl .n 1 (ml b8 aY))),(19,(.bool t5))] H):
 AX Tryd.prog ct 89 H.length (erase gm) K [(0,(.sl .n 2 (ml ak l1))),(1,(.sl .n 1 (ml b8 aY)))] H:=by
 refine e6 fun K' hK=> ?_
 rw [dx.eq_1] at h
 refine aD ?_
 obtain ⟨r4,bM,h⟩:=ay h
 refine bP aB (ue bM) ?_
 refine aD ?_
 refine eu h (fun bF h=> ?_) fun bF h=> ?_
 · refine bn bF ?_
   obtain rfl:=aF h
   exact hK _ _ _ _ _ aP aB kn
 · refine bn bF ?_
   obtain rfl:=aF h
   exact hK _ _ _ _ _ aP aB kn
theorem k8 {l1:List aj} {i10:Int} {jc:Int} {aY:List UInt8} {r7:List UInt8} {H:AH} {K:Exit→Env→AH→Prop} {t17:Bool}
 (h:cM l1 i10 jc=some t17)
 (kn:K .normal [(0,(.sl .n 2 (ml ak l1))),(1,(.sl .n 1 (ml b8 aY))),(5,(.sl .own 1 (ml b8 r7))),(6,(.int .i64 i10)),(7,(.int .i64 jc)),(71,(.bool t17))] H):
 AX Tryd.prog ct 89 H.length (erase gp) K [(0,(.sl .n 2 (ml ak l1))),(1,(.sl .n 1 (ml b8 aY))),(5,(.sl .own 1 (ml b8 r7))),(6,(.int .i64 i10)),(7,(.int .i64 jc))] H:=by
 refine e6 fun K' hK=> ?_
 rw [cM.eq_1] at h
 obtain ⟨lN,mZ,h⟩:=ay h
 obtain ⟨mT,nc,h⟩:=ay h
 refine bn (aX mZ nc) ?_
 refine eu h (fun mw h=> ?_) fun mw h=> ?_
 · refine bn mw ?_
   obtain rfl:=aF h
   exact hK _ _ _ _ _ aP aB kn
 · refine bn (aX mw (aX mZ nc)) ?_
   obtain rfl:=aF h
   exact hK _ _ _ _ _ aP aB kn
theorem k9 {F:Nat} {l1:List aj} {i10:Int} {jc:Int} {aY:List UInt8} {r7:List UInt8} {H:AH} {K:Exit→Env→AH→Prop} {o:(Bool)⊕(Unit)}
 (h:iter (bw l1 i10) F jc=some o)
 (IT:∀o':Unit,o= .inr o'→K (.exit 2) [(0,(.sl .n 2 (ml ak l1))),(1,(.sl .n 1 (ml b8 aY))),(5,(.sl .own 1 (ml b8 r7))),(6,(.int .i64 i10))] H)
 (kr:∀o':Bool,o= .inl o'→K .ret [(4,(.bool o'))] H):
 AX Tryd.prog ct 89 H.length (.loop (erase fX)) K [(0,(.sl .n 2 (ml ak l1))),(1,(.sl .n 1 (ml b8 aY))),(5,(.sl .own 1 (ml b8 r7))),(6,(.int .i64 i10)),(7,(.int .i64 jc))] H:=by
 refine jO (fun s e H1=>match s with|jc=>e=[(0,(.sl .n 2 (ml ak l1))),(1,(.sl .n 1 (ml b8 aY))),(5,(.sl .own 1 (ml b8 r7))),(6,(.int .i64 i10)),(7,(.int .i64 jc))]∧H1=H) h ⟨rfl,rfl⟩ ?_
 rintro K' jc st e H ⟨rfl,rfl⟩ h hN hB hR hX
 rw [bw.eq_1] at h
 obtain ⟨IZ,oP,h⟩:=ay h
 refine bn oP ?_
 refine cc h (fun mu h=> ?_) fun mu h=> ?_
 · refine aD ?_
   obtain ⟨t18,sA,h⟩:=ay h
   refine cy aB (k8 (aY:=aY) (r7:=r7) sA ?_)
   refine aD ?_
   refine cc h (fun mo h=> ?_) fun mo h=> ?_
   · refine aD ?_
     obtain rfl:=aF h
     exact hX _ _ _ _ _ fm aP aB (kr _ (hR _ rfl))
   · refine aD ?_
     obtain rfl:=aF h
     exact hN _ rfl _ _ _ _ aP aB ⟨rfl,rfl⟩
 · refine aD ?_
   obtain rfl:=aF h
   exact hX _ _ _ _ _ fm aP aB (IT _ (hB _ rfl))
theorem lf {F:Nat} {i10:Int} {l1:List aj} {aY:List UInt8} {r7:List UInt8} {H:AH} {K:Exit→Env→AH→Prop} {o:(Bool)⊕(Unit)}
 (h:iter (bx F l1) F i10=some o)
 (eD:∀o':Unit,o= .inr o'→K (.exit 0) [(0,(.sl .n 2 (ml ak l1))),(1,(.sl .n 1 (ml b8 aY))),(5,(.sl .own 1 (ml b8 r7)))] H)
 (kr:∀o':Bool,o= .inl o'→K .ret [(4,(.bool o'))] H):
 AX Tryd.prog ct 89 H.length (.loop (erase fY)) K [(0,(.sl .n 2 (ml ak l1))),(1,(.sl .n 1 (ml b8 aY))),(5,(.sl .own 1 (ml b8 r7))),(6,(.int .i64 i10))] H:=by
 refine jO (fun s e H1=>match s with|i10=>e=[(0,(.sl .n 2 (ml ak l1))),(1,(.sl .n 1 (ml b8 aY))),(5,(.sl .own 1 (ml b8 r7))),(6,(.int .i64 i10))]∧H1=H) h ⟨rfl,rfl⟩ ?_
 rintro K' i10 st e H ⟨rfl,rfl⟩ h hN hB hR hX
 rw [bx.eq_1] at h
 refine aD ?_
 refine cc h (fun eH h=> ?_) fun eH h=> ?_
 · obtain ⟨iM,c6,h⟩:=ay h
   refine bn c6 ?_
   obtain ⟨jQ,iP,h⟩:=ay h
   refine bP aB (fS iP) ?_
   refine aD ?_
   refine cc h (fun mq h=> ?_) fun mq h=> ?_
   · refine aD ?_
     obtain rfl:=aF h
     exact hX _ _ _ _ _ fm aP aB (kr _ (hR _ rfl))
   · refine aD ?_
     obtain ⟨Ra,sy,h⟩:=ay h
     refine cy aB (k9 (aY:=aY) (r7:=r7) sy ?_ ?_)
     · rintro ⟨⟩ rfl
       try dsimp only at h
       refine aD ?_
       obtain rfl:=aF h
       exact hN _ rfl _ _ _ _ aP aB ⟨rfl,rfl⟩
     · rintro I8 rfl
       try dsimp only at h
       refine aD ?_
       obtain rfl:=aF h
       exact hX _ _ _ _ _ fm aP aB (kr _ (hR _ rfl))
 · refine aD ?_
   obtain rfl:=aF h
   exact hX _ _ _ _ _ fm aP aB (eD _ (hB _ rfl))
theorem lg {F:Nat} {l1:List aj} {BX:List aj} {aY:List UInt8} {tM:List UInt8} {H:AH} {K:Exit→Env→AH→Prop} {t28:Bool}
 (h:dy F l1 BX aY tM=some t28)
 (kn:K .normal [(4,(.bool t28))] H):
 AX Tryd.prog ct 89 H.length (erase gq) K [(0,(.sl .n 2 (ml ak l1))),(1,(.sl .n 1 (ml b8 aY))),(8,(.sl .n 2 (ml ak BX))),(9,(.sl .n 1 (ml b8 tM)))] H:=by
 refine e6 fun K' hK=> ?_
 rw [dy.eq_1] at h
 refine aD ?_
 obtain ⟨Rb,qx,h⟩:=ay h
 refine bP aB (pG qx) ?_
 refine aD ?_
 obtain ⟨Rc,uF,h⟩:=ay h
 refine bP aB (mD uF) ?_
 refine aD ?_
 refine eu h (fun oR h=> ?_) fun oR h=> ?_
 · refine bn oR ?_
   obtain ⟨Rd,zk,h⟩:=ay h
   refine bP aB (gV zk) ?_
   refine aD ?_
   obtain rfl:=aF h
   exact hK _ _ _ _ _ aP aB kn
 · refine bn oR ?_
   obtain rfl:=aF h
   exact hK _ _ _ _ _ aP aB kn
theorem mV {F:Nat} {l1:List aj} {aY:List UInt8} {H0:AH} {bf:Bool} (h:eS F l1 aY=some bf):
 aC Tryd.prog 6 [(.sl .n 2 (ml ak l1)),(.sl .n 1 (ml b8 aY))] H0 fun v H'=>v=(.bool bf)∧H'=H0:=by
 refine gS od ct fun hcl K0 br=> ?_
 rw [eS.eq_1] at h
 refine aD ?_
 obtain ⟨r3,hy1,h⟩:=ay h
 refine bP aB (lH hy1) ?_
 refine aD ?_
 refine cc h (fun bL h=> ?_) fun bL h=> ?_
 · refine aD ?_
   obtain rfl:=aF h
   exact br _ _ _ cC (aJ hcl (bS cA (.bool false)) cB bU ⟨rfl,rfl⟩)
 · refine aD ?_
   obtain ⟨t6,bE,h⟩:=ay h
   refine cy aB (k7 bE ?_)
   refine aD ?_
   refine cc h (fun bR h=> ?_) fun bR h=> ?_
   · refine aD ?_
     obtain rfl:=aF h
     exact br _ _ _ cC (aJ hcl (bS cA (.bool true)) cB bU ⟨rfl,rfl⟩)
   · refine aD ?_
     obtain ⟨r7,cj,h⟩:=ay h
     refine bP aB (uf cj) ?_
     refine aD ?_
     obtain ⟨r8,cE,h⟩:=ay h
     refine bP aB (pG cE) ?_
     refine aD ?_
     obtain ⟨r9,fJ,h⟩:=ay h
     refine bP aB (sX fJ) ?_
     refine aD ?_
     refine cc h (fun dm h=> ?_) fun dm h=> ?_
     · refine aD ?_
       obtain rfl:=aF h
       exact br _ _ _ cC (aJ hcl (bS cA (.bool false)) cB bU ⟨rfl,rfl⟩)
     · refine aD ?_
       obtain ⟨Re,sB,h⟩:=ay h
       refine cy aB (lf (aY:=aY) (r7:=r7) sB ?_ ?_)
       · rintro ⟨⟩ rfl
         try dsimp only at h
         refine aD ?_
         obtain ⟨⟨BX,tM⟩,sC,h⟩:=ay h
         dsimp only at h
         refine bP aB (iQ sC) ?_
         refine aD ?_
         obtain ⟨t29,Jb,h⟩:=ay h
         refine cy aB (lg Jb ?_)
         refine aD ?_
         obtain rfl:=aF h
         exact br _ _ _ cC (aJ hcl (bS cA (.bool t29)) cB bU ⟨rfl,rfl⟩)
       · rintro Oq rfl
         try dsimp only at h
         refine aD ?_
         obtain rfl:=aF h
         exact br _ _ _ cC (aJ hcl (bS cA (.bool Oq)) cB bU ⟨rfl,rfl⟩)
end Go.Proofs.cR
end
section
namespace Go.Am
open Go
def gD {α A ρ:Type} (step:A→α→Except ρ A):A→List α→Except ρ A
 |a,[]=> .ok a
 |a,x::r=>match step a x with
  | .ok a'=>gD step a' r
  | .error e=> .error e
theorem lp {α ρ τ σ A:Type} {s:List α} {body:σ→Option (St ρ τ σ)} {mk:A→Nat→σ} {step:A→α→Except ρ A} {tt:A→τ} (I:A→Nat→Prop)
 (h1:∀a i x,s[i]? =some x→I a i→match step a x with
  | .ok a'=>body (mk a i)=some (.b7 (mk a' (i+1)))∧I a' (i+1)
  | .error r=>body (mk a i)=some (.ret r))
 (h3:∀a,I a s.length→body (mk a s.length)=some (.fj (tt a))) {F:Nat} {a:A} (hF:s.length<F) (h0:I a 0):
 iter body F (mk a 0)=some (match gD step a s with| .ok a'=> .inr (tt a')| .error r=> .inl r)∧∀a',gD step a s= .ok a'→I a' s.length:=by
 suffices h:∀(r:List α) (i F:Nat) (a:A),s.drop i=r→i+r.length=s.length→r.length<F→I a i→
  iter body F (mk a i)=some (match gD step a r with| .ok a'=> .inr (tt a')| .error r=> .inl r)∧∀a',gD step a r= .ok a'→I a' s.length from h s 0 F a rfl (by simp) hF h0
 intro r
 induction r with
 |nil=>
  intro i F a hd hl hF h0
  obtain ⟨G,rfl⟩:=cv hF
  have:i=s.length:=by simpa using hl
  subst this
  exact ⟨cq (h3 a h0),fun a' h=>by cases h;exact h0⟩
 |cons x r ih=>
  intro i F a hd hl hF h0
  obtain ⟨G,rfl⟩:=cv hF
  obtain ⟨hi,hx,hr⟩:=drop_cons hd
  simp only [List.length_cons] at hl hF
  have:=h1 a i x hx h0
  simp only [gD]
  cases hs:step a x with
  |ok a'=>
   rw [hs] at this
   rw [bK this.1]
   exact ih (i+1) G a' hr (by omega) (by omega) this.2
  |error e=>
   rw [hs] at this
   rw [gB this]
   exact ⟨rfl,fun a' h=>by cases h⟩
theorem lpo {α ρ τ σ A:Type} {s:List α} {body:σ→Option (St ρ τ σ)} {mk:A→Nat→σ} {step:A→α→A} {tt:A→τ} (I:A→Nat→Prop)
 (h1:∀a i x,s[i]? =some x→I a i→body (mk a i)=some (.b7 (mk (step a x) (i+1)))∧I (step a x) (i+1))
 (h3:∀a,I a s.length→body (mk a s.length)=some (.fj (tt a))) {F:Nat} {a:A} (hF:s.length<F) (h0:I a 0):
 iter body F (mk a 0)=some (.inr (tt (s.foldl step a)))∧I (s.foldl step a) s.length:=by
 have key:∀(r:List α) (a:A),gD (ρ:=ρ) (fun a x=> .ok (step a x)) a r= .ok (r.foldl step a):=by
  intro r
  induction r with
  |nil=>intro a;rfl
  |cons x r ih=>intro a;simp only [gD,List.foldl_cons];exact ih _
 have:=lp (s:=s) (body:=body) (mk:=mk) (step:=fun a x=> .ok (step a x)) (tt:=tt) I (fun a i x hx h=>h1 a i x hx h) h3 hF h0
 rw [key] at this
 exact ⟨this.1,this.2 _ rfl⟩
theorem Tu {a b:Int} (h0:0≤a) (h1:a≤4000000000000000000) (h2:0≤b) (h3:b≤4000000000000000000):IntKind.wrap .i64 (a+b)=a+b:=wr (by omega) (by omega)
theorem uk {n:Nat} (h:n≤1000000000):IntKind.wrap .i64 ((n:Int)+1)=((n+1:Nat):Int):=by rw [wr (by omega) (by omega)];simp
end Go.Am
end
section
set_option maxRecDepth 100000
namespace Go.Proofs.cR
open Go Go.Am Go.Proofs
def line (f:aj):List UInt8:=f.name++([58]++(f.value++nl))
def jH (f:aj):List UInt8:=if gi f.name=true then line f else []
def fe:List aj→List UInt8
 |[]=>[]
 |f::r=>jH f++fe r
theorem qA:∀(l:List aj) (a:List UInt8),l.foldl (fun a f=>a++jH f) a=a++fe l:=by
 intro l
 induction l with
 |nil=>intro a;simp [fe]
 |cons f r ih=>intro a;simp only [List.foldl_cons,ih,fe,List.append_assoc]
def jd (l:List aj):Nat:=(l.map (·.value.length)).sum
theorem LA {s:List UInt8} (h:gi s=true):s.length≤76:=by
 unfold gi at h;simp at h;exact h.1.2
theorem qi (f:aj):(jH f).length≤79+f.value.length:=by
 unfold jH
 split
 · rename_i h;have:=LA h;simp [line];omega
 · simp
theorem qj:∀l:List aj,(fe l).length≤79*l.length+jd l:=by
 intro l
 induction l with
 |nil=>simp [fe,jd]
 |cons f r ih=>
  have:=qi f
  simp only [fe,List.length_append,List.length_cons,jd,List.map_cons,List.sum_cons] at ih ⊢
  omega
theorem mO {l:List aj} {i:Nat} {f:aj} (h:l[i]? =some f):f.value.length≤jd l:=by
 have key:∀l:List aj,f∈l→f.value.length≤jd l:=by
  intro l
  induction l with
  |nil=>intro h;cases h
  |cons g r ih=>
   intro h
   simp only [jd,List.map_cons,List.sum_cons] at ih ⊢
   rcases List.mem_cons.1 h with rfl|h
   · omega
   · have:=ih h;omega
 exact key l (List.mem_of_getElem? h)
theorem LB {l:List aj} {F:Nat} (hF:100<F):∃b,ja F l=some b∧(b=true→l.length≤60∧(∀f∈l,f.name.length≤200)∧jd l≤4096):=by
 unfold ja
 by_cases h:60<l.length
 · rw [if_pos (by simp;omega)];exact ⟨_,rfl,fun h=>by cases h⟩
 · rw [if_neg (by simp;omega)]
   have hh:=lp (s:=l) (body:=di l) (mk:=fun (a:Nat) i=>((a:Int),(i:Int))) (tt:=fun a=>(a:Int))
    (step:=fun a f=>if f.name.length≤200∧f.value.length≤4096 then .ok (a+f.value.length) else .error false)
    (fun a i=>a≤4096*i) ?_ ?_ (F:=F) (a:=0) (by omega) (by omega)
   · rw [show ((0:Int),(0:Int))=(((0:Nat):Int),((0:Nat):Int)) from rfl,hh.1]
     simp only [Option.bind_some]
     have key:∀(r:List aj) (a a':Nat),gD (fun (a:Nat) (f:aj)=>if f.name.length≤200∧f.value.length≤4096 then Except.ok (ε:=Bool) (a+f.value.length) else .error false) a r= .ok a'→
      (∀f∈r,f.name.length≤200)∧a'=a+jd r:=by
      intro r
      induction r with
      |nil=>intro a a' h;cases h;simp [jd]
      |cons f r ih=>
       intro a a' h
       simp only [gD] at h
       by_cases hc:f.name.length≤200∧f.value.length≤4096
       · rw [if_pos hc] at h
         obtain ⟨h1,h2⟩:=ih _ _ h
         refine ⟨fun g hg=> ?_, ?_⟩
         · rcases List.mem_cons.1 hg with rfl|hg
           · exact hc.1
           · exact h1 g hg
         · rw [h2];simp [jd];omega
       · rw [if_neg hc] at h;cases h
     revert key
     cases hr:gD (fun (a:Nat) (f:aj)=>if f.name.length≤200∧f.value.length≤4096 then Except.ok (ε:=Bool) (a+f.value.length) else .error false) 0 l with
     |ok a=>
      intro key
      obtain ⟨h1,h2⟩:=key l 0 a hr
      refine ⟨_,rfl,fun hd=>⟨by omega,h1, ?_⟩⟩
      simp at hd;omega
     |error e=>
      intro key
      refine ⟨_,rfl,fun hd=> ?_⟩
      subst hd
      exfalso
      have:∀(r:List aj) (a:Nat),gD (fun (a:Nat) (f:aj)=>if f.name.length≤200∧f.value.length≤4096 then Except.ok (ε:=Bool) (a+f.value.length) else .error false) a r≠ .error true:=by
       intro r
       induction r with
       |nil=>intro a h;cases h
       |cons f r ih=>
        intro a h
        simp only [gD] at h
        split at h
        · exact ih _ h
        · rename_i e he
          split at he
          · cases he
          · cases he;cases h
      exact this _ _ hr
   · intro a i f hx hI
     have hi:i<l.length:=(List.getElem?_eq_some_iff.1 hx).1
     by_cases hc:f.name.length≤200∧f.value.length≤4096
     · simp only [if_pos hc]
       refine ⟨?_,by omega⟩
       simp only [di,fc]
       rw [if_pos (by simpa using hi),bt hx]
       simp only [Option.bind_some]
       rw [if_neg (by simp;omega)]
       simp only [Option.bind_some]
       rw [if_neg (by simp;omega),uk (by omega),wr (by omega) (by omega)]
       simp
     · simp only [if_neg hc]
       simp only [di,fc]
       rw [if_pos (by simpa using hi),bt hx]
       simp only [Option.bind_some]
       by_cases hn:200<f.name.length
       · rw [if_pos (by simp;omega)];rfl
       · rw [if_neg (by simp;omega)]
         simp only [Option.bind_some]
         rw [if_pos (by simp;omega)]
   · intro a hI
     simp only [di]
     rw [if_neg (by simp)]
theorem Jq {l:List aj} {F:Nat} (hl:l.length≤20000) (hF:l.length<F):iB F l=some l:=by
 unfold iB
 have hh:=lpo (ρ:=List aj) (s:=l) (body:=eR l) (mk:=fun (a:List aj) i=>(a,(i:Int))) (tt:=fun a=>a) (step:=fun a f=>a++[f])
  (fun a i=>a.length=i) ?_ ?_ (F:=F) (a:=[]) hF rfl
 · rw [show (([]:List aj),(0:Int))=(([]:List aj),((0:Nat):Int)) from rfl,hh.1]
   simp only [Option.bind_some]
   congr 1
   have:∀(r a:List aj),r.foldl (fun a f=>a++[f]) a=a++r:=by
    intro r
    induction r with
    |nil=>intro a;simp
    |cons f r ih=>intro a;simp [ih]
   rw [this];simp
 · intro a i f hx hI
   have hi:i<l.length:=(List.getElem?_eq_some_iff.1 hx).1
   refine ⟨?_,by simp [hI]⟩
   simp only [eR]
   rw [if_pos (by simpa using hi),bt hx]
   simp only [Option.bind_some]
   rw [cV (by simp;omega) (by omega)]
   simp only [Option.bind_some]
   rw [uk (by omega)]
 · intro a hI
   simp only [eR]
   rw [if_neg (by simp)]
theorem BY {l:List aj} {F:Nat} (hl:l.length≤60) (hv:jd l≤4096) (hn:∀f∈l,f.name.length≤200) (hF:300<F):iter (dj F l) F ([],0)=some (.inr (fe l)):=by
 have hh:=lpo (ρ:=List UInt8) (s:=l) (body:=dj F l) (mk:=fun (a:List UInt8) i=>(a,(i:Int))) (tt:=fun a=>a) (step:=fun a f=>a++jH f)
  (fun a i=>a.length≤4200*i) ?_ ?_ (F:=F) (a:=[]) (by omega) (by simp)
 · rw [show (([]:List UInt8),(0:Int))=(([]:List UInt8),((0:Nat):Int)) from rfl,hh.1,qA];simp
 · intro a i f hx hI
   have hi:i<l.length:=(List.getElem?_eq_some_iff.1 hx).1
   have hv1:=mO hx
   have F8:=hn f (List.mem_of_getElem? hx)
   have he:=qi f
   refine ⟨?_,by simp;omega⟩
   simp only [dj]
   rw [if_pos (by simpa using hi),bt hx]
   simp only [Option.bind_some]
   rw [wR (by omega) (by omega)]
   simp only [Option.bind_some]
   unfold jH
   by_cases h:gi f.name=true
   · rw [if_pos h,if_pos h,gF (by simp;omega)]
     simp only [Option.bind_some]
     rw [gF (by simp;omega)]
     simp only [Option.bind_some]
     rw [gF (by simp;omega)]
     simp only [Option.bind_some]
     rw [cV (by simp;omega) (by omega)]
     simp only [Option.bind_some]
     rw [uk (by omega)]
     simp [line]
   · rw [if_neg h,if_neg h,uk (by omega)];simp
 · intro a hI
   simp only [dj]
   rw [if_neg (by simp)]
theorem w7 {l:List aj} {F:Nat} (hl:l.length≤60) (hv:jd l≤4096) (hn:∀f∈l,f.name.length≤200) (hF:300<F):iter (cr F l) F ([],0)=some (.inr (fe l)):=by
 have hh:=lpo (ρ:=List UInt8) (s:=l) (body:=cr F l) (mk:=fun (a:List UInt8) i=>(a,(i:Int))) (tt:=fun a=>a) (step:=fun a f=>a++jH f)
  (fun a i=>a.length≤4200*i) ?_ ?_ (F:=F) (a:=[]) (by omega) (by simp)
 · rw [show (([]:List UInt8),(0:Int))=(([]:List UInt8),((0:Nat):Int)) from rfl,hh.1,qA];simp
 · intro a i f hx hI
   have hi:i<l.length:=(List.getElem?_eq_some_iff.1 hx).1
   have hv1:=mO hx
   have F8:=hn f (List.mem_of_getElem? hx)
   have he:=qi f
   refine ⟨?_,by simp;omega⟩
   simp only [cr]
   rw [if_pos (by simpa using hi),bt hx]
   simp only [Option.bind_some]
   rw [pE (by omega) (by omega)]
   simp only [Option.bind_some]
   unfold jH
   by_cases h:gi f.name=true
   · rw [if_pos h,if_pos h,gF (by simp;omega)]
     simp only [Option.bind_some]
     rw [gF (by simp;omega)]
     simp only [Option.bind_some]
     rw [gF (by simp;omega)]
     simp only [Option.bind_some]
     rw [cV (by simp;omega) (by omega)]
     simp only [Option.bind_some]
     rw [uk (by omega)]
     simp [line]
   · rw [if_neg h,if_neg h,uk (by omega)];simp
 · intro a hI
   simp only [cr]
   rw [if_neg (by simp)]
theorem Ot {a b c:List UInt8} {F:Nat} (h:a.length+b.length+c.length≤100000) (hF:3<F):cz F [a,b,c]=some (a++(b++c)):=by
 have h1:=lpo (ρ:=List UInt8) (s:=[a,b,c]) (body:=aS [a,b,c]) (mk:=fun (n:Nat) i=>((n:Int),(i:Int))) (tt:=fun n=>(n:Int)) (step:=fun n x=>n+x.length)
  (fun n i=>n≤100000*i) ?_ ?_ (F:=F) (a:=0) (by simpa using hF) (by simp)
 · have h2:=lpo (ρ:=List UInt8) (s:=[a,b,c]) (body:=aT [a,b,c]) (mk:=fun (n:List UInt8) i=>(n,(i:Int))) (tt:=fun n=>n) (step:=fun n x=>n++x)
    (fun n i=>n.length≤100000*i) ?_ ?_ (F:=F) (a:=[]) (by simpa using hF) (by simp)
   · unfold cz
     rw [show ((0:Int),(0:Int))=(((0:Nat):Int),((0:Nat):Int)) from rfl,h1.1]
     simp only [Option.bind_some,List.foldl_cons,List.foldl_nil]
     rw [zo (by omega) (by omega)]
     simp only [Option.bind_some]
     rw [show (([]:List UInt8),(0:Int))=(([]:List UInt8),((0:Nat):Int)) from rfl,h2.1]
     simp
   · intro n i x hx hI
     have hi:=(List.getElem?_eq_some_iff.1 hx).1
     have hx2:x.length≤100000:=by
      have:=List.mem_of_getElem? hx
      simp at this;rcases this with rfl|rfl|rfl<;>omega
     simp only [List.length_cons,List.length_nil] at hi
     refine ⟨?_,by simp;omega⟩
     simp only [aT]
     rw [if_pos (by simp;omega),bt hx]
     simp only [Option.bind_some]
     rw [cV (by omega) (by omega)]
     simp only [Option.bind_some]
     rw [uk (by omega)]
   · intro n hI
     simp only [aT]
     rw [if_neg (by simp)]
 · intro n i x hx hI
   have hi:=(List.getElem?_eq_some_iff.1 hx).1
   have hx2:x.length≤100000:=by
    have:=List.mem_of_getElem? hx
    simp at this;rcases this with rfl|rfl|rfl<;>omega
   simp only [List.length_cons,List.length_nil] at hi
   refine ⟨?_,by omega⟩
   simp only [aS]
   rw [if_pos (by simp;omega),bt hx]
   simp only [Option.bind_some]
   rw [wr (by omega) (by omega),if_neg (by simp;omega),uk (by omega)]
   simp
 · intro n hI
   simp only [aS]
   rw [if_neg (by simp)]
theorem LC {l:List aj} {body:List UInt8} {F:Nat} (hl:l.length≤60) (hv:jd l≤4096) (hn:∀f∈l,f.name.length≤200) (hb:body.length≤4096) (hF:300<F):jb F l body=some (fe l++(nl++body)):=by
 have he:=qj l
 unfold jb
 rw [BY hl hv hn hF]
 simp only [Option.bind_some]
 rw [Ot (by simp;omega) (by omega)]
 rfl
theorem LD {l:List aj} {body:List UInt8} {F:Nat} (hl:l.length≤60) (hv:jd l≤4096) (hn:∀f∈l,f.name.length≤200) (hb:body.length≤4096) (hF:300<F):gQ F l body=some (fe l++(nl++body)):=by
 have he:=qj l
 unfold gQ gG
 rw [w7 hl hv hn hF]
 simp only [Option.bind_some]
 rw [cV (by simp;omega) (by omega)]
 simp only [Option.bind_some]
 rw [cV (by simp;omega) (by omega)]
 simp
def clean (f:aj):Bool:=gi f.name&&f.value.all fun c=> !(decide (c=13)||decide (c=10))
theorem zy {more:List UInt8}:∀ {x:List UInt8},(∀c∈x,c≠13)→cg nl (x++(nl++more))=some (x,more):=by
 intro x
 induction x with
 |nil=>intro _;rfl
 |cons c r ih=>
  intro h
  rw [List.cons_append,cg]
  rw [if_neg,ih fun d hd=>h d (List.mem_cons_of_mem _ hd)]
  · rfl
  · have:=h c (by simp)
    simp [List.isPrefixOf,Ne.symm this]
theorem FD {more:List UInt8}:∀ {x:List UInt8},(∀c∈x,c≠58)→cg [58] (x++([58]++more))=some (x,more):=by
 intro x
 induction x with
 |nil=>intro _;rfl
 |cons c r ih=>
  intro h
  rw [List.cons_append,cg]
  rw [if_neg,ih fun d hd=>h d (List.mem_cons_of_mem _ hd)]
  · rfl
  · have:=h c (by simp)
    simp [List.isPrefixOf,Ne.symm this]
theorem sY {c:UInt8} (h:good c=true):c≠13∧c≠58∧c≠32∧c≠9∧c≠10:=by
 refine ⟨?_, ?_, ?_, ?_, ?_⟩<;>(rintro rfl;revert h;decide)
theorem FE {wb:List UInt8}:∀(l s:List aj) (n:Nat),l.all clean=true→l.length<n→jW n (fe l++(nl++wb)) s=(s++l,wb):=by
 intro l
 induction l with
 |nil=>
  intro s n _ hn
  obtain ⟨m,rfl⟩:=cv hn
  have:cg nl (fe []++(nl++wb))=some ([],wb):=zy (x:=[]) (by simp)
  simp only [jW,this]
  rw [if_neg (by simp [dU])]
  simp [gP,cg]
 |cons f r ih=>
  intro s n hc hn
  obtain ⟨m,rfl⟩:=cv hn
  simp only [List.all_cons,Bool.and_eq_true] at hc
  obtain ⟨Gj,uS⟩:=hc
  unfold clean at Gj
  simp only [Bool.and_eq_true] at Gj
  obtain ⟨hnm,CW⟩:=Gj
  have hg:∀c∈f.name,good c=true:=by
   unfold gi at hnm
   simp only [Bool.and_eq_true] at hnm
   exact List.all_eq_true.1 hnm.2
  have hx:fe (f::r)++(nl++wb)=(f.name++([58]++f.value))++(nl++(fe r++(nl++wb))):=by
   simp [fe,jH,hnm,line]
  have h1:cg nl (fe (f::r)++(nl++wb))=some (f.name++([58]++f.value),fe r++(nl++wb)):=by
   rw [hx]
   refine zy fun c hc=> ?_
   simp only [List.mem_append,List.mem_singleton] at hc
   rcases hc with hc|rfl|hc
   · exact (sY (hg c hc)).1
   · decide
   · have:=List.all_eq_true.1 CW c hc
     rintro rfl;simp at this
  have h2:gP (f.name++([58]++f.value))=some f:=by
   unfold gP
   rw [FD fun c hc=>(sY (hg c hc)).2.1]
   simp [hnm]
  have h3:dU s (f.name++([58]++f.value))=false:=by
   cases S6:f.name with
   |nil=>simp [dU]
   |cons c t=>
    have:=sY (hg c (by rw [S6];simp))
    simp [dU,this]
  simp only [jW,h1,h2,h3,Bool.false_eq_true,if_false]
  rw [ih (s++[f]) m uS (by simpa using hn)]
  simp
theorem BZ {y body:List UInt8}:whole (y++(nl++body))=y++(nl++whole body):=by
 by_cases hb:body=[]
 · subst hb
   have e:whole ([]:List UInt8)=[]:=by simp [whole]
   rw [e]
   unfold whole
   rw [if_pos]
   right
   exact List.isSuffixOf_iff_suffix.2 ⟨y,by simp⟩
 · have key:nl.isSuffixOf (y++(nl++body))=nl.isSuffixOf body:=by
    by_cases h2:2≤body.length
    · rw [Bool.eq_iff_iff, ←fE h2, ←fE (by simp;omega)]
      have:(y++(nl++body)).drop ((y++(nl++body)).length - 2)=body.drop (body.length - 2):=by
       rw [←List.append_assoc,List.drop_append,List.drop_eq_nil_of_le (by simp;omega)]
       simp only [List.nil_append]
       congr 1
       simp;omega
      rw [this]
    · obtain ⟨c,rfl⟩:∃c,body=[c]:=by
       cases body with
       |nil=>exact absurd rfl hb
       |cons c r=>cases r with
        |nil=>exact ⟨c,rfl⟩
        |cons d r=>simp at h2
      rw [not_suffix (b:=[c]) (by simp),Bool.eq_false_iff]
      intro h
      obtain ⟨u,hu⟩:=List.isSuffixOf_iff_suffix.1 h
      have h3:=congrArg List.reverse hu
      simp at h3
   unfold whole
   rw [key]
   by_cases h:nl.isSuffixOf body=true
   · rw [if_pos (.inr h),if_pos (.inr h)]
   · rw [if_neg (by simp [h]),if_neg (by simp [h,hb])];simp
theorem qB {l:List aj} {i:Nat} {f:aj} {F:Nat} (hx:l[i]? =some f) (hv:f.value.length≤4096) (hF:5000<F):
 ((f.value.all fun c=> !(decide (c=13)||decide (c=10)))=true→iter (bw l (i:Int)) F 0=some (.inr ()))∧
 ((f.value.all fun c=> !(decide (c=13)||decide (c=10)))=false→∃j:Nat,iter (bw l (i:Int)) F 0=some (.inl true)):=by
 have:=scan (s:=f.value) (body:=bw l (i:Int)) (mk:=fun i=>(i:Int)) (p:=fun c=> !(decide (c=13)||decide (c=10))) (rr:=fun _=>true) (tt:=()) ?_ ?_ ?_ (F:=F) (by omega)
 · exact this
 · intro k c hc hp
   have hk:=(List.getElem?_eq_some_iff.1 hc).1
   simp only [bw,cM]
   rw [bt hx]
   simp only [Option.bind_some]
   rw [if_pos (by simpa using hk),bt hc]
   simp only [Option.bind_some]
   simp only [Bool.not_eq_true',Bool.or_eq_false_iff] at hp
   simp only [hp.1,hp.2,Bool.false_eq_true,if_false,Option.bind_some]
   rw [uk (by omega)]
 · intro k c hc hp
   have hk:=(List.getElem?_eq_some_iff.1 hc).1
   simp only [bw,cM]
   rw [bt hx]
   simp only [Option.bind_some]
   rw [if_pos (by simpa using hk),bt hc]
   simp only [Option.bind_some]
   by_cases h:c=13
   · simp [h]
   · have:c=10:=by simpa [h] using hp
     simp [this]
 · simp only [bw]
   rw [bt hx]
   simp only [Option.bind_some]
   rw [if_neg (by simp)]
theorem zz {l:List aj} {F:Nat} (hl:l.length≤60) (hv:jd l≤4096) (hn:∀f∈l,f.name.length≤200) (hF:5000<F):
 (l.all clean=true→iter (bx F l) F 0=some (.inr ()))∧(l.all clean=false→∃j:Nat,iter (bx F l) F 0=some (.inl true)):=by
 refine scan (s:=l) (body:=bx F l) (mk:=fun i=>(i:Int)) (p:=clean) (rr:=fun _=>true) (tt:=()) ?_ ?_ ?_ (F:=F) (by omega)
 · intro i f hx hp
   have hi:=(List.getElem?_eq_some_iff.1 hx).1
   have hv1:=mO hx
   have F8:=hn f (List.mem_of_getElem? hx)
   unfold clean at hp
   simp only [Bool.and_eq_true] at hp
   simp only [bx]
   rw [if_pos (by simpa using hi),bt hx]
   simp only [Option.bind_some]
   rw [pE (by omega) (by omega)]
   simp only [Option.bind_some,hp.1,Bool.not_true,Bool.false_eq_true,if_false]
   rw [(qB hx (by omega) hF).1 hp.2]
   simp only [Option.bind_some]
   rw [uk (by omega)]
 · intro i f hx hp
   have hi:=(List.getElem?_eq_some_iff.1 hx).1
   have hv1:=mO hx
   have F8:=hn f (List.mem_of_getElem? hx)
   simp only [bx]
   rw [if_pos (by simpa using hi),bt hx]
   simp only [Option.bind_some]
   rw [pE (by omega) (by omega)]
   simp only [Option.bind_some]
   cases h:gi f.name with
   |false=>simp
   |true=>
    simp only [Bool.not_true,Bool.false_eq_true,if_false]
    unfold clean at hp
    rw [h,Bool.true_and] at hp
    obtain ⟨_,h2⟩:=(qB hx (by omega) hF).2 hp
    rw [h2];rfl
 · simp only [bx]
   rw [if_neg (by simp)]
theorem sZ (l:List aj) (body:List UInt8):∃F,eS F l body=some true:=by
 refine ⟨29900+100, ?_⟩
 unfold eS dx
 rw [zu]
 simp only [Option.bind_some,Bool.not_true,Bool.false_eq_true,if_false]
 obtain ⟨b,h1,h2⟩:=LB (l:=l) (F:=29900+100) (by omega)
 rw [h1]
 simp only [Option.bind_some]
 cases b with
 |false=>simp
 |true=>
  obtain ⟨hl,hn,hv⟩:=h2 rfl
  simp only [Bool.not_true,Bool.false_eq_true,if_false,Option.bind_some]
  by_cases hb:4096<body.length
  · rw [if_pos (by simp;omega)]
  · rw [if_neg (by simp;omega)]
    have hb:body.length≤4096:=by omega
    rw [LC hl hv hn hb (by omega),Jq (by omega) (by omega)]
    simp only [Option.bind_some]
    rw [LD hl hv hn hb (by omega)]
    simp only [Option.bind_some,decide_true,Bool.not_true,Bool.false_eq_true,if_false]
    obtain ⟨c1,c2⟩:=zz hl hv hn (F:=29900+100) (by omega)
    cases hc:l.all clean with
    |false=>obtain ⟨_,h⟩:=c2 hc;rw [h];rfl
    |true=>
     rw [c1 hc]
     simp only [Option.bind_some]
     have he:=qj l
     rw [zp (by simp;omega) (by omega)]
     have hsp:mF (fe l++(nl++body))=(l,whole body):=by
      unfold mF
      rw [BZ,FE l [] _ hc ?_]
      · simp
      · have:∀l:List aj,l.all clean=true→l.length≤(fe l).length:=by
         intro l
         induction l with
         |nil=>simp
         |cons f r ih=>
          intro h
          simp only [List.all_cons,Bool.and_eq_true] at h
          have:=ih h.2
          unfold clean at h
          simp only [Bool.and_eq_true] at h
          simp [fe,jH,h.1.1,line];omega
        have:=this l hc
        simp;omega
     rw [hsp]
     simp only [Option.bind_some]
     unfold dy
     rw [Jq (by omega) (by omega)]
     simp only [Option.bind_some]
     rw [CO (by omega) (by omega)]
     simp only [Option.bind_some,if_true]
     rw [sW (by omega)]
     simp
end Go.Proofs.cR
end
section
namespace Go.Am
open Go Go.RowKit
variable [Tabs]
def C0 (W:World) (b:Nat):List Value:=match W.heap[b]? with
 |some (.cells cs _ _)=>cs.toList
 |_=>[]
theorem aC.row {P:Program} {f:Nat} {args:List AV} {R:AV→AH→Prop} (h:aC P f args [] R) {W:World} {vs:Array Value} (htab:∀e∈Tabs.l,∃cs ty fr,W.heap[e.1]? =some (.cells cs ty fr)∧e.2 cs) (hl:vs.size=args.length)
 (hv:∀(i:Nat) (a:AV),args[i]? =some a→VR (C0 W) [] a (vs.getD i undef)∧TC W (C0 W) a (vs.getD i undef)∧a.plain=true):
 Calls P f vs W fun e w'=>∃r v aq γ' C',e= .returned v∧R r aq∧VR C' γ' r v∧Below W.heap.size W w':=by
 have hg:∀t,get (cL 0 args) t=(args[t]?).getD .un:=fun t=>by rw [cm];simp
 have hno:∀p b,¬blk [] (cL 0 args) [] vs W p b:=by
  intro p b hp
  cases p with
  |obj s=>simp [blk] at hp
  |cell s i=>obtain ⟨cs,a,b0,h1, -⟩:=hp;simp at h1
  |tmp t=>
   simp only [blk,hg] at hp
   cases ht:args[t]? with
   |none=>rw [ht] at hp;simp [aV] at hp
   |some a=>rw [ht] at hp;simp only [Option.getD_some] at hp;rw [eg _ (dN (hv t a ht).2.2)] at hp;cases hp
 have hs:SR [] args.length (fun b=>b<W.heap.size) [] (C0 W) (cL 0 args) [] vs W:=by
  refine ⟨⟨rfl,fun s b cs hs=>by simp at hs,fun b hne=> ?_,fun s b cs hs=>by simp at hs,fun s b cs us ty fr hs=>by simp at hs⟩,hl,fun t=> ?_,fun p q b hp=>absurd hp (hno p b),fun p b hp=>absurd hp (hno p b),⟨fun b hb=>hb,fun e he=> ?_⟩,fun t l k xs ht=> ?_⟩
  · unfold C0 at hne ⊢
    split at hne
    · rename_i cs ty fr hb
      rw [hb]
      exact ⟨cs,ty,fr,rfl,List.prefix_refl _⟩
    · exact absurd rfl hne
  · rw [hg]
    cases ht:args[t]? with
    |none=>exact ⟨.un ..,by cases vs.getD t undef<;>trivial⟩
    |some a=>exact ⟨(hv t a ht).1,(hv t a ht).2.1⟩
  · obtain ⟨cs0,ty,fr,h2,h5⟩:=htab e he
    have h4:e.1<W.heap.size:=by
     rcases Nat.lt_or_ge e.1 W.heap.size with h3|h3
     · exact h3
     · rw [Array.getElem?_eq_none h3] at h2;cases h2
    exact ⟨h4,cs0,ty,fr,h2,h5⟩
  · rw [hg] at ht
    cases hq:args[t]? with
    |none=>rw [hq] at ht;simp at ht
    |some a=>rw [hq] at ht;exact absurd ht (mJ (hv t a hq).2.2 l k xs)
 refine (h.2 _ [] (C0 W) W vs hs).mono ?_
 rintro e w' ⟨r,v,aq,γ',C',rfl,hR, -,hs',hx⟩
 refine ⟨r,v,aq,γ',C',rfl,hR, ?_,hx.out.1,hx.out.2.1,hx.out.2.2,hx.size,fun k hk=>(hx.keep k hk).1⟩
 have:=(hs'.env 0).1
 simpa [get] using this
end Go.Am
end
section
namespace Go.Am
open Go Go.RowKit Go.Deep
variable [Tabs]
theorem zA {W:World} {b o:Nat} {v:Value} (h:W.cell? ⟨b,o,none⟩=some v):o<(C0 W b).length∧(C0 W b).getD o undef=v:=by
 unfold C0
 unfold World.cell? at h
 simp only at h
 split at h
 · rename_i cs ty fr hb
   rw [hb]
   simp only at h ⊢
   have hlt:o<cs.size:=by
    rcases Nat.lt_or_ge o cs.size with h'|h'
    · exact h'
    · rw [Array.getElem?_eq_none h'] at h;cases h
   rw [Array.getElem?_eq_getElem hlt] at h
   injection h with h
   refine ⟨by simpa using hlt, ?_⟩
   rw [List.getD_eq_getElem?_getD,List.getElem?_eq_getElem (by simpa using hlt)]
   simpa using h
 · cases h
section
variable {H:Type} {enc:TypeId×Value→H} {P:Program} {W:World} {sp:Nat→Bool} {held:Bool}
theorem S7 {t e:TypeId} {A:Type} (g:A→AV) {v:Value} {d:DataW H} {ps:List MemPlace} {base:Nat} {r:Reach} (ht:P.underlying t=some (.slice e)) (hc:P.cellsOf e=1) (hval:Value.okWide P W r base t v)
 (h:DataW.Trod enc P W 0 sp held t v d ps)
 (hg:∀x,(g x).cells=[g x]) (he:∀n V y,DataW.trod enc P W 0 sp held n e [V]=some y→V.oneCell'=true∧∃x,VR (C0 W) [] (g x) V):∃xs:List A,VR (C0 W) [] (.sl .n 1 (xs.map g)) v:=by
 have hv:(v= .slice none 0 0)∨∃a len cap,v= .slice (some a) len cap∧a.spot=none:=by
  unfold Value.okWide at hval
  rw [ht] at hval
  simp only [Cell.okWide,ht,Cell.ok] at hval
  cases v with
  |slice a len cap=>
   cases a with
   |none=>cases len<;>cases cap<;>first|exact .inl rfl|exact hval.elim
   |some a=>exact .inr ⟨a,len,cap,rfl,hval.2.2.2.1⟩
  |_=>exact hval.elim
 obtain ⟨fuel,h⟩:=h
 rcases hv with rfl|⟨a,len,cap,rfl,hsp⟩
 · exact ⟨[], .jJ ..⟩
 · rcases open_slice1 ht hc h with ⟨h0, -⟩|⟨a',len',cap',m,n,V,D,Pl,h1,hb,hl,hm,tf,hx,hall⟩
   · simp [Value.cells] at h0
   · have h1:a'=a∧len'=len∧cap'=cap:=by simpa [Value.cells,eq_comm] using h1
     obtain ⟨rfl,rfl,rfl⟩:=h1
     have S8:len'≤m:=by rw [tf];split<;>omega
     have key:∀i,i<len'→∃x,VR (C0 W) [] (g x) (V i):=fun i hi=>(he n (V i) _ (hall i (by omega)).2).2
     obtain ⟨b,o,s⟩:=a'
     simp only at hsp
     subst hsp
     have hcell:∀i,i<len'→o+i<(C0 W b).length∧(C0 W b).getD (o+i) undef=V i:=fun i hi=>by
      have:=(hall i (by omega)).1
      rw [add_eq] at this
      exact zA this
     by_cases h0:len'=0
     · subst h0;exact ⟨[], .jJ ..⟩
     let f:Nat→A:=fun i=>if hi:i<len' then Classical.choose (key i hi) else Classical.choose (key 0 (by omega))
     have hf:∀i,i<len'→VR (C0 W) [] (g (f i)) (V i):=fun i hi=>by
      show VR (C0 W) [] (g (if hi:i<len' then Classical.choose (key i hi) else Classical.choose (key 0 (by omega)))) (V i)
      rw [dif_pos hi]
      exact Classical.choose_spec (key i hi)
     refine ⟨(List.range len').map f, .sl _ _ _ _ _ _ _ _ (by simp) hl (fun i a hi=> ?_) ?_ (fun q h1 h2=> ?_) fun i a hi j y hj=> ?_⟩
     · rw [List.getElem?_map,List.getElem?_map] at hi
       cases hr:(List.range len')[i]? with
       |none=>rw [hr] at hi;simp at hi
       |some q=>rw [hr] at hi;simp at hi;subst hi;rw [hg];rfl
     · have:=(hcell (len' - 1) (by omega)).1;omega
     · have:=hcell (q - o) (by omega)
       rw [show o+(q - o)=q by omega] at this
       rw [this.2]
       exact (he n (V (q - o)) _ (hall (q - o) (by omega)).2).1
     · rw [List.getElem?_map,List.getElem?_map] at hi
       cases hr:(List.range len')[i]? with
       |none=>rw [hr] at hi;simp at hi
       |some q=>
        rw [hr] at hi
        have hq:=(List.getElem?_eq_some_iff.1 hr)
        obtain ⟨hlt,hq⟩:=hq
        simp at hlt hq
        subst hq
        simp at hi
        subst hi
        rw [hg] at hj
        cases j with
        |zero=>
         simp at hj
         subst hj
         have:=hcell i hlt
         rw [Nat.mul_one,Nat.add_zero,this.2]
         exact hf i hlt
        |succ j=>simp at hj
end
end Go.Am
end
section
namespace Go.Am
open Go Go.RowKit Go.Deep
variable [Tabs]
def CR (W:World) (zq:List AV) (vs:List Value):Prop:=
 zq.length=vs.length∧(∀v∈vs,v.oneCell'=true)∧∀(j:Nat) (a:AV),zq[j]? =some a→VR (C0 W) [] a (vs.getD j undef)
theorem CR.nil {W:World}:CR W [] []:=⟨rfl,by simp,by simp⟩
theorem CR.one {W:World} {a:AV} {V:Value} (h:VR (C0 W) [] a V) (ho:V.oneCell'=true):CR W [a] [V]:=by
 refine ⟨rfl,by simpa using ho,fun j b hj=> ?_⟩
 rcases j with _|j
 · simp at hj;subst hj;simpa using h
 · simp at hj
theorem CR.append {W:World} {zq bs:List AV} {vs ws:List Value} (h:CR W zq vs) (h2:CR W bs ws):CR W (zq++bs) (vs++ws):=by
 refine ⟨by simp [h.1,h2.1],fun v hv=> ?_,fun j a hj=> ?_⟩
 · rcases List.mem_append.1 hv with hv|hv
   · exact h.2.1 v hv
   · exact h2.2.1 v hv
 · rw [List.getElem?_append] at hj
   split at hj
   · rename_i hlt
     have:=h.2.2 j a hj
     rw [List.getD_eq_getElem?_getD,List.getElem?_append_left (by rw [←h.1];exact hlt), ←List.getD_eq_getElem?_getD]
     exact this
   · rename_i hlt
     have:=h2.2.2 _ a hj
     rw [List.getD_eq_getElem?_getD,List.getElem?_append_right (by rw [←h.1];omega), ←List.getD_eq_getElem?_getD, ←h.1]
     exact this
def AV.jH:AV→Bool
 | .sl .n _ _=>true
 | .sl _ _ _| .agg _| .aK _=>false
 |_=>true
def AV.Ou:AV→Bool
 | .agg cs=>cs.all AV.jH
 |a=>a.jH
theorem TC.enc {w:World} {C:Nat→List Value} {a:AV} (h:a.Ou=true) (v:Value):TC w C a v:=by
 have h1:∀(a:AV) (v:Value),a.jH=true→fG a v:=by
  intro a v h
  cases a with
  |sl t k xs=>cases t<;>first|exact uR .. |cases h
  |_=>first|(cases h;done)|(cases v<;>trivial)
 cases a with
 |agg cs=>
  cases v with
  |agg vs=>
   intro i a hi
   exact h1 a _ (List.all_eq_true.1 h a (List.mem_of_getElem? hi))
  |_=>trivial
 |sl t k xs=>cases t<;>first|(cases h;done)|(cases v<;>trivial)
 |_=>first|(cases h;done)|(cases v<;>trivial)
section
variable {H:Type} (enc:TypeId×Value→H) (P:Program) (W:World) (sp:Nat→Bool) (held:Bool)
def Op (t:TypeId) {A:Type} (f:A→AV):Prop:=∀n cs y,DataW.trod enc P W 0 sp held n t cs=some y→∃x:A,CR W (f x).cells cs
end
section
variable {H:Type} {enc:TypeId×Value→H} {P:Program} {W:World} {sp:Nat→Bool} {held:Bool}
theorem Ry {t:TypeId} {k:IntKind} (ht:P.underlying t=some (.int k)):Op enc P W sp held t (xR k):=by
 intro n cs y h
 cases n with
 |zero=>simp [DataW.trod] at h
 |succ n=>
  rcases cs with _|⟨V,_|⟨V2,r⟩⟩
  · simp [DataW.trod,ht] at h
  · cases V<;>simp [DataW.trod,ht] at h
    rename_i k' z
    obtain ⟨⟨rfl,hw⟩, -⟩:=h
    exact ⟨z,CR.one (.int ..) rfl⟩
  · simp [DataW.trod,ht] at h
theorem Ov {t:TypeId} (ht:P.underlying t=some (.int .u8)):Op enc P W sp held t b8:=by
 intro n cs y h
 cases n with
 |zero=>simp [DataW.trod] at h
 |succ n=>
  rcases cs with _|⟨V,_|⟨V2,r⟩⟩
  · simp [DataW.trod,ht] at h
  · cases V<;>simp [DataW.trod,ht] at h
    rename_i k' z
    obtain ⟨⟨rfl,hw⟩, -⟩:=h
    have hz:0≤z∧z≤255:=by
     simp [Lit.wf,IntKind.min,IntKind.max,IntKind.bits,IntKind.signed] at hw
     omega
    refine ⟨UInt8.ofNat z.toNat,CR.one ?_ rfl⟩
    have:((UInt8.ofNat z.toNat).toNat:Int)=z:=by simp [UInt8.toNat_ofNat];omega
    simp only [b8,this]
    exact .int ..
  · simp [DataW.trod,ht] at h
theorem Rf {t:TypeId} (ht:P.underlying t=some .bool):Op enc P W sp held t AV.bool:=by
 intro n cs y h
 cases n with
 |zero=>simp [DataW.trod] at h
 |succ n=>
  rcases cs with _|⟨V,_|⟨V2,r⟩⟩
  · simp [DataW.trod,ht] at h
  · cases V<;>simp [DataW.trod,ht] at h
    exact ⟨_,CR.one (.bool ..) rfl⟩
  · simp [DataW.trod,ht] at h
theorem CP {t:TypeId} (ht:P.underlying t=some .string):Op enc P W sp held t AV.str:=by
 intro n cs y h
 cases n with
 |zero=>simp [DataW.trod] at h
 |succ n=>
  rcases cs with _|⟨V,_|⟨V2,r⟩⟩
  · simp [DataW.trod,ht] at h
  · cases V<;>simp [DataW.trod,ht] at h
    rename_i s
    refine ⟨s.data.toList,CR.one ?_ rfl⟩
    have:s=⟨s.data.toList.toArray⟩:=by cases s;simp
    have h2:=VR.str (C:=C0 W) [] s.data.toList
    rwa [←this] at h2
  · simp [DataW.trod,ht] at h
theorem zB {A:Type} {p:Nat→A→Prop}:∀(n:Nat),(∀i,i<n→∃x,p i x)→∃xs:List A,xs.length=n∧∀(i:Nat) (x:A),xs[i]? =some x→p i x:=by
 intro n
 induction n with
 |zero=>intro _;exact ⟨[],rfl,by simp⟩
 |succ n ih=>
  intro h
  obtain ⟨xs,h1,h2⟩:=ih fun i hi=>h i (by omega)
  obtain ⟨x,hx⟩:=h n (by omega)
  refine ⟨xs++[x],by simp [h1],fun i y hy=> ?_⟩
  rw [List.getElem?_append] at hy
  split at hy
  · exact h2 i y hy
  · rename_i hlt
    have:i=n:=by
     have:=(List.getElem?_eq_some_iff.1 hy).1
     simp at this;omega
    subst this
    rw [h1] at hy;simp at hy;subst hy;exact hx
theorem Jr {t e:TypeId} {k:Nat} {A:Type} {f:A→AV} (ht:P.underlying t=some (.slice e)) (hk:P.cellsOf e=k) (ou:0<k) (hop:Op enc P W sp held e f) (hf:∀x,(f x).cells.length=k):
 Op enc P W sp held t (fun xs:List A=>AV.sl .n k (ml f xs)):=by
 intro n cs y h
 rcases open_slice ht h with ⟨rfl, -⟩|⟨a,len,cap,m,fu,D,Pl,rfl,hb,hl,hm,tf, -,hx⟩
 · exact ⟨[],CR.one (.jJ ..) rfl⟩
 have S8:len≤m:=by rw [tf];split<;>omega
 by_cases h0:len=0
 · subst h0;exact ⟨[],CR.one (.jJ ..) rfl⟩
 subst hk
 have hel:∀i,i<len→∃x:A,∃cs',W.cells? 0 (a.add (i*P.cellsOf e)) (P.cellsOf e)=some cs'∧CR W (f x).cells cs':=fun i hi=>by
  obtain ⟨cs',h1,h2⟩:=hx i (by omega)
  obtain ⟨x,hc⟩:=hop _ _ _ h2
  exact ⟨x,cs',h1,hc⟩
 have hsp:a.spot=none:=by
  obtain ⟨x,cs',h1,hc⟩:=hel 0 (by omega)
  obtain ⟨-,h2,h3⟩:=World.cells?_some h1
  have h4:=h3 0 ou
  have h5:(a.add (0*P.cellsOf e)).add 0=a:=by simp [Addr.add]
  rw [h5,List.getElem?_eq_getElem (by omega)] at h4
  unfold World.cell? at h4
  split at h4
  · split at h4
    · cases h4
    · rename_i hq;cases hs:a.spot<;>simp_all
  · cases h4
 obtain ⟨b,o,s⟩:=a
 simp only at hsp
 subst hsp
 obtain ⟨xs,hlen,hxs⟩:=zB len hel
 have hcell:∀(i:Nat) (x:A),xs[i]? =some x→∃cs',CR W (f x).cells cs'∧cs'.length=P.cellsOf e∧∀j,j<P.cellsOf e→o+i*P.cellsOf e+j<(C0 W b).length∧(C0 W b).getD (o+i*P.cellsOf e+j) undef=cs'.getD j undef:=fun i x hi=>by
  obtain ⟨cs',h1,hc⟩:=hxs i x hi
  obtain ⟨-,h2,h3⟩:=World.cells?_some h1
  refine ⟨cs',hc,h2,fun j hj=> ?_⟩
  have h4:=h3 j hj
  rw [add_add,add_eq,List.getElem?_eq_getElem (by omega)] at h4
  have:=zA h4
  rw [Nat.add_assoc,List.getD_eq_getElem?_getD (l:=cs'),List.getElem?_eq_getElem (by omega)]
  exact this
 refine ⟨xs,CR.one (.sl _ _ _ _ _ _ _ _ (by rw [jm,hlen]) hl (fun i a hi=> ?_) ?_ (fun q h1 h2=> ?_) fun i a hi j y hj=> ?_) rfl⟩
 · rw [ml,List.getElem?_map] at hi
   cases hr:xs[i]? with
   |none=>rw [hr] at hi;simp at hi
   |some x=>rw [hr] at hi;simp at hi;subst hi;exact hf x
 · have zS:len - 1<xs.length:=by omega
   obtain ⟨cs', -, -,h3⟩:=hcell (len - 1) _ (List.getElem?_eq_getElem zS)
   have:=(h3 (P.cellsOf e - 1) (by omega)).1
   have h5:len*P.cellsOf e=(len - 1)*P.cellsOf e+P.cellsOf e:=by
    conv=>lhs;rw [show len=(len - 1)+1 by omega,Nat.succ_mul]
   omega
 · have hq:q - o<len*P.cellsOf e:=by omega
   have hi:(q - o) / P.cellsOf e<len:=Nat.div_lt_of_lt_mul (by rw [Nat.mul_comm];exact hq)
   have hj:(q - o) % P.cellsOf e<P.cellsOf e:=Nat.mod_lt _ ou
   obtain ⟨cs',hc,h2,h3⟩:=hcell ((q - o) / P.cellsOf e) _ (List.getElem?_eq_getElem (by omega))
   have h4:=(h3 _ hj).2
   have h5:o+(q - o) / P.cellsOf e*P.cellsOf e+(q - o) % P.cellsOf e=q:=by
    have:=Nat.div_add_mod (q - o) (P.cellsOf e)
    rw [Nat.mul_comm] at this
    omega
   rw [h5] at h4
   rw [h4,List.getD_eq_getElem?_getD,List.getElem?_eq_getElem (by omega)]
   exact hc.2.1 _ (List.getElem_mem ..)
 · rw [ml,List.getElem?_map] at hi
   cases hr:xs[i]? with
   |none=>rw [hr] at hi;simp at hi
   |some x=>
    rw [hr] at hi;simp at hi;subst hi
    obtain ⟨cs',hc,h2,h3⟩:=hcell i x hr
    have hjl:j<P.cellsOf e:=by rw [←hf x];exact (List.getElem?_eq_some_iff.1 hj).1
    rw [(h3 j hjl).2]
    exact hc.2.2 j y hj
theorem B0 {t:TypeId} {fs:Array Field} {A:Type} {f:A→AV} (ht:P.underlying t=some (.struct fs))
 (hb:∀cs:List Value,cs.length=P.cellsOf t→(∀(i:Nat) (fl:Field),fs[i]? =some fl→∃n y,DataW.trod enc P W 0 sp held n fl.type ((cs.drop fl.offset).take (P.cellsOf fl.type))=some y)→∃x,CR W (f x).cells cs):
 Op enc P W sp held t f:=by
 intro n cs y h
 obtain ⟨xs,m, -, -,hl,hlen,hf⟩:=DataW.trod_struct ht h
 refine hb cs hl fun i fl hfl=> ?_
 have hlt:i<xs.length:=by rw [hlen];exact (Array.getElem?_eq_some_iff.1 hfl).1
 exact ⟨m,xs[i],by rw [hf i fl hfl,List.getElem?_eq_getElem hlt]⟩
theorem seg {cs:List Value} {o k:Nat}:(cs.drop o).take k++cs.drop (o+k)=cs.drop o:=by
 rw [←List.drop_drop,List.take_append_drop]
theorem Op.arg1 {t:TypeId} {A:Type} {f:A→AV} (hop:Op enc P W sp held t f) (hf:∀x,(f x).cells=[f x]) {v:Value} {d:DataW H} {ps:List MemPlace} {r:Reach} {base:Nat} (hs:∀cs,¬Value.okWide P W r base t (.agg cs))
 (hval:Value.okWide P W r base t v) (h:DataW.Trod enc P W 0 sp held t v d ps):∃x,VR (C0 W) [] (f x) v:=by
 obtain ⟨fuel,h⟩:=h
 obtain ⟨x,h1, -,h3⟩:=hop _ _ _ h
 rw [hf] at h1 h3
 have hc:v.cells.toList=[v]:=by
  cases v with
  |agg cs=>exact absurd hval (hs cs)
  |_=>rfl
 rw [hc] at h3
 exact ⟨x,by simpa using h3 0 (f x) rfl⟩
theorem Op.Tv {t:TypeId} {A:Type} {f:A→AV} (hop:Op enc P W sp held t f) {fs:Array Field} (ht:P.underlying t=some (.struct fs)) (hf:∀x,f x= .agg (f x).cells) {v:Value} {d:DataW H} {ps:List MemPlace} {r:Reach} {base:Nat}
 (hval:Value.okWide P W r base t v) (h:DataW.Trod enc P W 0 sp held t v d ps):∃x,VR (C0 W) [] (f x) v:=by
 obtain ⟨fuel,h⟩:=h
 obtain ⟨x,h1, -,h3⟩:=hop _ _ _ h
 unfold Value.okWide at hval
 rw [ht] at hval
 obtain ⟨cs,rfl, -, -⟩:=hval
 refine ⟨x, ?_⟩
 rw [hf x]
 refine .agg _ _ _ (by simpa [Value.cells] using h1) fun i a hi=> ?_
 have:=h3 i a hi
 simpa [Value.cells,Array.getD_eq_getD_getElem?,List.getD_eq_getElem?_getD] using this
theorem Ox {t:TypeId} {k:IntKind} {r:Reach} {base:Nat} (ht:P.underlying t=some (.int k)) (cs:Array Value):¬Value.okWide P W r base t (.agg cs):=by
 simp [Value.okWide,Cell.okWide,Cell.ok,ht]
theorem L5 {t:TypeId} {r:Reach} {base:Nat} (ht:P.underlying t=some .bool) (cs:Array Value):¬Value.okWide P W r base t (.agg cs):=by
 simp [Value.okWide,Cell.okWide,Cell.ok,ht]
theorem Oy {t:TypeId} {r:Reach} {base:Nat} (ht:P.underlying t=some .string) (cs:Array Value):¬Value.okWide P W r base t (.agg cs):=by
 simp [Value.okWide,Cell.okWide,Cell.ok,ht]
theorem uG {t e:TypeId} {r:Reach} {base:Nat} (ht:P.underlying t=some (.slice e)) (cs:Array Value):¬Value.okWide P W r base t (.agg cs):=by
 simp [Value.okWide,Cell.okWide,Cell.ok,ht]
theorem s5 {ts:List TypeId} (hl:laidOutB P=true) {W W':World} (hb:Below W.heap.size W W'):∀ {vs:List Value} {ds:List (DataW H)} {ps:List MemPlace},(∀t∈ts,P.readableRec t=true∧t<P.types.size)→
 DataW.TrodAll enc P W 0 (fun _=>true) true ts vs ds ps→(∀x∈ps,x.block<W.heap.size)→DataW.TrodAll enc P W' 0 (fun b=>decide (b<W.heap.size)) true ts vs ds ps:=by
 induction ts with
 |nil=>
  intro vs ds ps _ h _
  cases vs<;>cases ds<;>simp [DataW.TrodAll] at h ⊢
  exact h
 |cons t ts ih=>
  intro vs ds ps ht h hlt
  cases vs<;>cases ds<;>simp only [DataW.TrodAll] at h ⊢
  obtain ⟨p,q,h1,h2,rfl⟩:=h
  exact ⟨p,q,Below.trod hl (ht t (by simp)).1 (ht t (by simp)).2 h1 hb (fun x hx=>hlt x (by simp [hx])),ih (fun t h=>ht t (by simp [h])) h2 (fun x hx=>hlt x (by simp [hx])),rfl⟩
end
end Go.Am
end
section
namespace Go.Proofs.YtfnnmecilcnloaaDoor
open Go.ChangeShapes Go.WideShapes Go.ChangeAt Go.RowKit Go.Am Go.Proofs.cR
theorem Oz.own:ownKnob Tryd.prog.godebug=none:=by kernel_rfl
theorem Oz.laidOut:laidOutB Tryd.prog=true:=by kernel_rfl
def kI:List (String×DataW Unit):=[("math/bits.deBruijn32tab",Rows.laid_math_bits_deBruijn32tab),("math/bits.deBruijn64tab",Rows.laid_math_bits_deBruijn64tab),("internal/strconv.uint64pow10",Rows.laid_internal_strconv_uint64pow10)]
noncomputable def oe (os:Os):World:=World.doorLaid Tryd.prog 4000 os
set_option maxRecDepth 100000 in
theorem FF (os:Os) (args:Array Value):laidMetH Tryd.prog kI ((oe os).forCall (fun _ _=>0) ⟨#[],args,[]⟩).memory:=
 laidMetH_of_parts3 (fuel:=8) (laidMet_of_run' 8 (by kernel_rfl) (by kernel_rfl)) (by kernel_rfl) (by kernel_rfl)
set_option maxRecDepth 100000 in
theorem w9 (os:Os) (args:Array Value):((oe os).forCall (fun _ _=>0) ⟨#[],args,[]⟩).Shaped Tryd.prog:=World.shaped_of_RefB (by kernel_rfl) (by kernel_rfl)
end Go.Proofs.YtfnnmecilcnloaaDoor
end
section
namespace Go.Proofs.YtfnnmecilcnloaaDoor
open Go.ChangeShapes Go.WideShapes Go.ChangeAt Go.RowKit Go.Am Go.Proofs.cR
theorem B1 {W:World} {name:String} {g:Nat} {cs:Array Value} (hg:Tryd.prog.globalNamed name=some g) (h:W.var? Tryd.prog name=some cs):∃t fr,W.heap[g]? =some (.cells cs t fr):=by
 simp only [World.var?,hg,Option.bind_some] at h
 split at h
 · rename_i c t fr hb
   injection h with h
   subst h
   exact ⟨t,fr,hb⟩
 · cases h
theorem B2 {W:World} (hs:W.ShapedOpen Tryd.prog) (h:laidMetH Tryd.prog kI W):∀e∈Tabs.l,∃cs ty fr,W.heap[e.1]? =some (.cells cs ty fr)∧e.2 cs:=by
 rw [MakeChecks.laidMetH_plain _ _ _ (by kernel_rfl)] at h
 obtain ⟨ps,⟨g0,t0,cs0,f0,p0,q0,JT,TZ,hv0,hd0,⟨g1,t1,JX,f1,p1,q1,J3,T0,hv1,hd1,⟨g2,t2,Rg,f2,p2,q2,Gr,S9,td,ny,_,_⟩,_⟩,_⟩,_⟩:=h
 intro e he
 simp only [Tabs.l,List.mem_cons,List.mem_nil_iff,or_false] at he
 rcases he with rfl|rfl
 · obtain ⟨cs,hh,hsz, -⟩:=hs.1 0 #[.int .i64 0] 3 (of_decide_eq_true (by kernel_rfl)) (by kernel_rfl)
   obtain ⟨m,hm⟩:=cell_of_shapedOpen_int (g:=0) (t:=3) (k:= .i64) (zero:= #[.int .i64 0]) hs (of_decide_eq_true (by kernel_rfl)) (by kernel_rfl) rfl (by kernel_rfl) (by kernel_rfl) (by kernel_rfl)
   refine ⟨cs,_,_,hh,m, ?_⟩
   have h1:cs.size=1:=hsz
   apply Array.ext
   · exact h1
   · intro i hi _
     have:i=0:=by omega
     subst this
     simpa [World.cell?,hh,h1] using hm
 · have hg:Tryd.prog.globalNamed "internal/strconv.uint64pow10" =some 1:=by kernel_rfl
   obtain rfl:=Option.some.inj (hg.symm.trans Gr)
   obtain rfl:=Option.some.inj ((show (Tryd.prog.globals[1]?).map (·.type)=some 136 by kernel_rfl).symm.trans S9)
   have hc:Rg.toList=Lib.pow10Tab.map fun z=>Value.int .u64 z:=Lib.cells_of_tab (n:=20) (e:=122) (k:= .u64) Tryd.underlying136 (by kernel_rfl) (by kernel_rfl) (by kernel_rfl) ny
   obtain ⟨t,fr,hb⟩:=B1 hg td
   refine ⟨Rg,t,fr,hb, ?_⟩
   simp only [←hc,Array.toArray_toList]
section
variable {H:Type} {enc:TypeId×Value→H}
theorem qk {a:Assume} {C:Checked} {os:Os} {f:FuncId} {fn:Func} {s:ChangeSpec} {conds:List PathCond} {apart fresh handsOn again:Bool} {X:World→Array Value→Prop}
 (hX:∀(w w':World) (args:Array Value),w.heap=w'.heap→X w args→X w' args)
 (own:ownKnob C.prog.godebug=none) (started:os.Started) (noInit:C.prog.inits.idxOf? f=none) (hfn:C.prog.funcs[f]? =some fn)
 (witness:∃(w:World) (tape:Tape) (i:Input),w.os=os∧(w.forCall tape i).Shaped C.prog∧i.vars=[]∧Input.okWide C.prog (w.forCall tape i) .any w.heap.size f i∧
  ((s.pre enc C.prog fn conds apart (w.forCall tape i).memory i.args∧X (w.forCall tape i).memory i.args)∧sizedMet enc C.prog fn (OpenSpec.ofChange s) apart (w.forCall tape i).memory i.args)∧a.holds C.prog (lone (Frame.enter C.prog f i.args .normal) [] (w.forCall tape i)))
 (contract:∀(W:World) (base:Nat) (args:Array Value) (ds gs:List (DataW H)) (before:List MemPlace),
  (∀(j:Nat) t v,fn.params[j]? =some t→args[j]? =some v→Value.okWide C.prog W .any base t v)→
  DataW.Whole enc C.prog fn.params.toList s.vars apart W args.toList ds gs before→W.ShapedOpen C.prog→X W args→
  Calls C.prog f args W fun e W'=>∃v,e= .returned v∧s.post enc C.prog fn apart fresh handsOn again W args v W'):
 ReturnsInHanded a C os f .any (fun w args=>(s.pre enc C.prog fn conds apart w args∧X w args)∧sizedMet enc C.prog fn (OpenSpec.ofChange s) apart w args) (s.post enc C.prog fn apart fresh handsOn again):=by
 refine returnsInHanded_of_calls own started noInit witness ?_
 rintro w tape i - LF - ⟨-, -, -,Ta,Rh, -, -, -, -,OA⟩ ⟨⟨⟨ds,gs,before,LG, -⟩,hx⟩, -⟩ -
 obtain rfl:Ta=fn:=Option.some.inj (Rh.symm.trans hfn)
 refine (contract (w.forCall tape i) _ i.args ds gs before OA (DataW.Whole.of_heap (w':=w.forCall tape i) (by rfl) LG) LF (hX _ _ _ (by rfl) hx)).mono ?_
 rintro e W' ⟨v,rfl,hp⟩
 exact ChangeSpec.post_blind hp
end
theorem Ri {P:Program} {W:World} {r:Reach} {base:Nat} {t:TypeId} {k:IntKind} (ht:P.underlying t=some (.int k)) {C:Nat→List Value} {γ:List Nat} {x:Int} {v:Value} (hv:VR C γ (.int k x) v) (h:Value.okWide P W r base t v):k.has x:=by
 obtain rfl:=hv.bH
 unfold Value.okWide at h
 rw [ht] at h
 unfold Cell.okWide Cell.ok at h
 rw [ht] at h
 exact h.2
end Go.Proofs.YtfnnmecilcnloaaDoor
end
section
namespace Go.Proofs.YtfnnmecilcnloaaDoor
open Go.ChangeShapes Go.WideShapes Go.ChangeAt Go.RowKit Go.Am Go.Proofs.cR
theorem OB {H:Type} {enc:TypeId×Value→H} {W:World} {sp:Nat→Bool} {held:Bool}:Am.Op enc Tryd.prog W sp held 34 ak:=by
 refine B0 (fs:= #[⟨"Name",9,0,false, "", "",0⟩,⟨"Value",9,1,false, "", "",16⟩]) (by kernel_rfl) fun cs hl hf=> ?_
 have hl:cs.length=2:=hl.trans (by kernel_rfl)
 obtain ⟨n0,y0,h0⟩:=hf 0 _ rfl
 obtain ⟨x0,c0⟩:=((CP (by kernel_rfl)):Am.Op enc Tryd.prog W sp held 9 AV.str) _ _ _ h0
 have c0:CR W (AV.str x0).cells ((cs.drop 0).take (Tryd.prog.cellsOf 9)):=c0
 rw [show Tryd.prog.cellsOf 9=1 by kernel_rfl] at c0
 obtain ⟨n1,y1,h1⟩:=hf 1 _ rfl
 obtain ⟨x1,c1⟩:=((CP (by kernel_rfl)):Am.Op enc Tryd.prog W sp held 9 AV.str) _ _ _ h1
 have c1:CR W (AV.str x1).cells ((cs.drop 1).take (Tryd.prog.cellsOf 9)):=c1
 rw [show Tryd.prog.cellsOf 9=1 by kernel_rfl] at c1
 refine ⟨aj.mk x0 x1, ?_⟩
 have key:=(c0.append c1)
 have hcs:(cs.drop 0).take 1++((cs.drop 1).take 1)=cs:=by
  rw [List.take_of_length_le (i:=1) (l:=cs.drop 1) (by simp;omega)]
  rw [show cs.drop 1=cs.drop (0+1) from rfl,seg]
  rfl
 have key:CR W _ ((cs.drop 0).take 1++((cs.drop 1).take 1)):=key
 rw [hcs] at key
 exact key
set_option maxRecDepth 100000 in
theorem pH (os:Os) (started:os.Started) (H:Type) (enc:TypeId×Value→H):
 ReturnsInHanded {} Tryd.checked os 6 .any (fun w args=>(Rows.headJoinsSpec.pre enc Tryd.prog Tryd.f6 [] false w args∧laidMetH Tryd.prog kI w)∧sizedMet enc Tryd.prog Tryd.f6 (OpenSpec.ofChange Rows.headJoinsSpec) false w args) (Rows.headJoinsSpec.post enc Tryd.prog Tryd.f6 false true false false):=by
 refine qk (C:=Tryd.checked) (X:=fun w _=>laidMetH Tryd.prog kI w) (fun _ _ _ hh h=>h.of_heap hh) Oz.own started (by kernel_rfl) Tryd.func6
  (ChangeSpec.witness_shaped (enc:=enc) (C:=Tryd.checked) (os:=os) (X:=fun w _=>laidMetH Tryd.prog kI w) false (oe os) #[.slice none 0 0, .slice none 0 0] 8 rfl (w9 os _) (by kernel_rfl) (by kernel_rfl) (by kernel_rfl) (FF os _)) ?_
 intro W base args ds gs before OC hW hS hL
 have hval:∀(j:Nat) t v,Tryd.f6.params[j]? =some t→args[j]? =some v→Value.okWide Tryd.prog W .any base t v:=OC
 have Rj:=hW
 obtain ⟨p,q,Tb,hV,rfl,hfz,hnd⟩:=hW
 have hA:DataW.TrodAll enc Tryd.prog W 0 (fun _=>true) true Tryd.f6.params.toList args.toList ds p:=Tb
 have Tc:=hA
 rw [Tryd.params6] at hA hval
 obtain ⟨vs,hvs⟩:∃vs,vs=args.toList:=⟨_,rfl⟩
 rw [←hvs] at hA
 obtain ⟨v0,T3,d0,T4,p0,q0,e0,rfl,rfl,h0,hA⟩:=trodAll_cons hA
 obtain ⟨v1,T5,d1,RT,p1,q1,e1,rfl,rfl,h1,hA⟩:=trodAll_cons hA
 obtain ⟨e2,rfl,rfl⟩:=trodAll_nil hA
 have hargs:args= #[v0,v1]:=by
  apply Array.ext';rw [←hvs,e0,e1,e2]
 subst hargs
 obtain ⟨rfl,rfl⟩:=trodVars_none hV
 obtain ⟨x0,a0⟩:=Op.arg1 (f:=(fun xs=>AV.sl .n 2 (ml ak xs))) (Jr (e:=34) (k:=2) (f:=ak) (by kernel_rfl) (by kernel_rfl) (by decide) OB (fun _=>rfl)) (fun _=>rfl) (fun cs=>uG (e:=34) (by kernel_rfl) cs) (hval 0 28 v0 rfl rfl) h0
 obtain ⟨x1,a1⟩:=Op.arg1 (f:=(fun xs=>AV.sl .n 1 (ml b8 xs))) (Jr (e:=5) (k:=1) (f:=b8) (by kernel_rfl) (by kernel_rfl) (by decide) (Ov (by kernel_rfl)) (fun _=>rfl)) (fun _=>rfl) (fun cs=>uG (e:=5) (by kernel_rfl) cs) (hval 1 26 v1 rfl rfl) h1
 have hlt:∀x∈p0++(p1++([])),x.block<W.heap.size:=fun x hx=>Rj.lt x (by simpa using hx)
 obtain ⟨F,hF⟩:=sZ x0 x1
 refine ((mV (H0:=[]) hF).row (vs:= #[v0,v1]) (B2 hS hL) rfl ?_).mono ?_
 · intro i x hi
   rcases i with _|_|i
   · simp at hi;subst hi;exact ⟨a0,TC.enc (by rfl) _,rfl⟩
   · simp at hi;subst hi;exact ⟨a1,TC.enc (by rfl) _,rfl⟩
   · simp at hi
 · rintro e W' ⟨r,v,aq,γ',C',rfl,⟨rfl,rfl⟩,hv,hb⟩
   have hv:=hv.dA
   subst hv
   refine ⟨_,rfl,_,_,_,[],p0++(p1++([])),[],Rj, ?_, ?_, ?_,hb.frame _,fun h=>by cases h⟩
   · exact trodAll_mk1 (shut_bool (by kernel_rfl) true)
   · exact s5 Oz.laidOut hb (of_decide_eq_true (by kernel_rfl)) Tc hlt
   · exact rfl
theorem ql:Rows.HeadJoinsSaid:=
 OpenClaim.holds_of_wide 6 Tryd.f6 rfl rfl rfl rfl rfl rfl rfl ⟨rfl,rfl,rfl,rfl,rfl⟩ rfl rfl rfl rfl rfl (by kernel_rfl) Tryd.func6 (by kernel_rfl)
  (of_decide_eq_true (by kernel_rfl)) (by unfold Func.isWrapper;first|(rw [if_pos (by decide+kernel)];kernel_rfl)|(rw [if_neg (by decide+kernel)];exact ⟨rfl,rfl⟩))
  (fun os started H enc _=>pH os started H enc)
theorem headJoins_tied:Rows.HeadJoinsCardSaid:=
 Claim7.holds_tied_plain_at .later [] [.data, .data, .data] true Rows.headJoinsCard.stood.harness true
  ql (fun _ h=>by cases h) (by kernel_rfl) (fun _ h=>by cases h) headJoins_row_tie rfl ⟨rfl,rfl⟩ (by kernel_rfl) rfl
  (fun f fn hf hfn=>by
   obtain rfl:f=6:=Option.some.inj ((show Tryd.prog.funcNamed Rows.headJoinsRow.func=some 6 by kernel_rfl).symm.trans hf) |>.symm
   obtain rfl:fn=Tryd.f6:=(Option.some.inj (Tryd.func6.symm.trans hfn)).symm
   exact ⟨by kernel_rfl,fun j t ht=>by
    rw [Tryd.params6] at ht
    have hm:t∈[28,26]:=by have:=Array.mem_of_getElem? ht;simpa using this
    have hall:([28,26].all fun u=> !Tryd.prog.wantsStandIn u)=true:=by kernel_rfl
    exact (show Tryd.prog.wantsStandIn t=false by simpa using List.all_eq_true.1 hall t hm)⟩)
  (by kernel_rfl)
end Go.Proofs.YtfnnmecilcnloaaDoor
end
