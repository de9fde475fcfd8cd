/- The law BounceTexts returns true at every input whose tables read as laid; each argument reads behind the call as it did; the tied card. -/
import Derived.Test.YtomkmghgppgegaaGreatDoorM5
import Derived.Lib.CountLaws
import Derived.Lib.IndexMore
import Derived.Below
import Derived.Deep.Slices
import Derived.Carry
import Derived.Test.YtomkmghgppgegaaGreatDoorRows
import Derived.ProofKit
import Derived.LaidMore
import Derived.Lib.LaidTab
import Derived.Shelf.Vars
import Derived.HandedShaped
import Derived.Test.YtomkmghgppgegaaGreatDoorCards
import Derived.Test.YtomkmghgppgegaaGreatDoorTie
import Derived.SevenTiedAt
set_option linter.unusedSimpArgs false
set_option linter.unusedVariables false
set_option linter.unusedSectionVars false
set_option linter.defProp false
section
set_option maxRecDepth 100000
namespace Go.Proofs.cI
open Go Go.Am Go.Proofs
open Nat renaming reduceEqDiff→nA,reduceLT→nB,reduceLeDiff→nC,reduceAdd→nD,reduceSub→nE,reduceMul→nF,reduceBEq→nG
set_option maxHeartbeats 2000000
abbrev ri:av:=(.rg ((au 4 3)::(au 5 0)::(aj 6 (.lens (.t 5)))::(aj 7 (.bin .lss (.t 4) (.t 6)))::(au 8 7)::(ax 9 (.mv (.t 0)) 8 true)::(ax 10 (.mv (.t 3)) 8 true)::(ax 11 (.ixs (.t 9) (.t 10)) 8 true)::(ax 12 (.call (.c (.fn 135 [])) [(.t 11)]) 8 true)::(ax 13 (.mv (.t 12)) 8 true)::(ax 14 (.mv (.t 0)) 13 false)::(ax 15 (.mv (.t 3)) 13 false)::(ax 16 (.ixs (.t 14) (.t 15)) 13 false)::(ax 17 (.call (.c (.fn 136 [])) [(.t 16)]) 13 false)::(ax 18 (.pick (.t 13) (.c (.bool true)) (.t 17)) 8 true)::(ax 19 (.mv (.t 18)) 8 true)::(ax 20 (.mv (.t 0)) 19 false)::(ax 21 (.mv (.t 3)) 19 false)::(ax 22 (.ixs (.t 20) (.t 21)) 19 false)::(ax 23 (.bin .eql (.t 22) (.c (b8 45))) 19 false)::(ax 24 (.pick (.t 19) (.c (.bool true)) (.t 23)) 8 true)::(ax 25 (.mv (.t 24)) 8 true)::(ax 26 (.mv (.t 0)) 25 false)::(ax 27 (.mv (.t 3)) 25 false)::(ax 28 (.ixs (.t 26) (.t 27)) 25 false)::(ax 29 (.bin .eql (.t 28) (.c (b8 46))) 25 false)::(ax 30 (.pick (.t 25) (.c (.bool true)) (.t 29)) 8 true)::(ax 31 (.mv (.t 30)) 8 true)::(ax 32 (.mv (.t 0)) 31 false)::(ax 33 (.mv (.t 3)) 31 false)::(ax 34 (.ixs (.t 32) (.t 33)) 31 false)::(ax 35 (.bin .eql (.t 34) (.c (b8 91))) 31 false)::(ax 36 (.pick (.t 31) (.c (.bool true)) (.t 35)) 8 true)::(ax 37 (.mv (.t 36)) 8 true)::(ax 38 (.mv (.t 0)) 37 false)::(ax 39 (.mv (.t 3)) 37 false)::(ax 40 (.ixs (.t 38) (.t 39)) 37 false)::(ax 41 (.bin .eql (.t 40) (.c (b8 93))) 37 false)::(ax 42 (.pick (.t 37) (.c (.bool true)) (.t 41)) 8 true)::(aj 43 (.pick (.t 8) (.t 42) (.c (.bool false))))::[]))
abbrev o6:av:=(.seq (.seq (.sem (erase ri)) (.cond (.t 43) .skip (.exit 0))) (.blk 1 (.rg [(au 44 3),(aj 45 (.bin .add (.t 44) (.c (.int .i64 1)))),(aP 3 45)])))
abbrev ES:av:=(.seq (.rg [(aj 2 (.aO (.c (.int .i64 0))))]) (.seq (.rg [(aj 3 (.aO (.c (.int .i64 0))))]) (.seq (.blk 0 (.loop (erase o6))) (.seq (.rg [(au 46 3),(aP 2 46)]) .ret))))
theorem ET:bw Tryz.prog 106 47 [(.tmp 2)] (erase ES):=⟨Tryz.f106,_,rfl,by decide,rfl,by kernel_rfl,rfl,rfl⟩
abbrev oS:List Nat:=[0,2,3,43]
def iz (lU:Int) (s1:List UInt8):Option (Bool):=
 (if (decide (lU<(s1.length:Int))) then
  (idx s1 lU).bind fun x3=>
  (fU x3).bind fun r4=>
  (if r4 then
   some true
  else
   (fR x3).bind fun r5=>
   (if r5 then
    some true
   else
    (if (decide (x3=45)) then
     some true
    else
     (if (decide (x3=46)) then
      some true
     else
      (if (decide (x3=91)) then
       some true
      else
       some (decide (x3=93)))))))
 else
  some false)
def fe (s1:List UInt8):Int→Option (St Int Int Int)
 |lU=>
  (iz lU s1).bind fun t7=>
  (if t7 then
   some (.cv (IntKind.wrap .i64 (lU+1)))
  else
   some (.eC lU))
def jv (F:Nat) (s1:List UInt8):Option (Int):=
 ((iter (fe s1) F 0).bind fun XJ=>
 match XJ with
 | .inr TJ=>
   some TJ
 | .inl _=>none)
theorem zi {lU:Int} {s1:List UInt8} {H:AH} {K:Exit→Env→AH→Prop} {t6:Bool}
 (h:iz lU s1=some t6)
 (kn:K .normal [(0,(.str s1)),(3,(.int .i64 lU)),(43,(.bool t6))] H):
 AX Tryz.prog oS 47 H.length (erase ri) K [(0,(.str s1)),(3,(.int .i64 lU))] H:=by
 refine cB fun K' hK=> ?_
 rw [iz.eq_1] at h
 refine az ?_
 refine bZ h (fun hy1 h=> ?_) fun hy1 h=> ?_
 · obtain ⟨x3,aS,h⟩:=ak h
   refine aQ (aH hy1 aS) ?_
   obtain ⟨r4,aZ,h⟩:=ak h
   refine aY aq (kz aZ) ?_
   refine az ?_
   refine bZ h (fun br h=> ?_) fun br h=> ?_
   · refine aQ br ?_
     obtain rfl:=aB h
     exact hK _ _ _ _ _ aK aq kn
   · refine aQ (aH br aS) ?_
     obtain ⟨r5,bC,h⟩:=ak h
     refine aY aq (jb bC) ?_
     refine az ?_
     refine bZ h (fun bW h=> ?_) fun bW h=> ?_
     · refine aQ bW ?_
       obtain rfl:=aB h
       exact hK _ _ _ _ _ aK aq kn
     · refine aQ (aH bW aS) ?_
       refine bZ h (fun cO h=> ?_) fun cO h=> ?_
       · refine aQ cO ?_
         obtain rfl:=aB h
         exact hK _ _ _ _ _ aK aq kn
       · refine aQ (aH cO aS) ?_
         refine bZ h (fun cD h=> ?_) fun cD h=> ?_
         · refine aQ cD ?_
           obtain rfl:=aB h
           exact hK _ _ _ _ _ aK aq kn
         · refine aQ (aH cD aS) ?_
           refine bZ h (fun dA h=> ?_) fun dA h=> ?_
           · refine aQ dA ?_
             obtain rfl:=aB h
             exact hK _ _ _ _ _ aK aq kn
           · refine aQ (aH dA aS) ?_
             obtain rfl:=aB h
             exact hK _ _ _ _ _ aK aq kn
 · refine aQ hy1 ?_
   obtain rfl:=aB h
   exact hK _ _ _ _ _ aK aq kn
theorem zj {F:Nat} {lU:Int} {s1:List UInt8} {H:AH} {K:Exit→Env→AH→Prop} {o:(Int)⊕(Int)}
 (h:iter (fe s1) F lU=some o)
 (dw:∀o':Int,o= .inr o'→K (.exit 0) [(3,(.int .i64 o'))] H):
 AX Tryz.prog oS 47 H.length (.loop (erase o6)) K [(0,(.str s1)),(3,(.int .i64 lU))] H:=by
 refine gY (fun s e H1=>match s with|lU=>e=[(0,(.str s1)),(3,(.int .i64 lU))]∧H1=H) h ⟨rfl,rfl⟩ ?_
 rintro K' lU st e H ⟨rfl,rfl⟩ h hN hB hR hX
 rw [fe.eq_1] at h
 refine az ?_
 obtain ⟨t7,cJ,h⟩:=ak h
 refine bF aq (zi cJ ?_)
 refine az ?_
 refine bL h (fun cG h=> ?_) fun cG h=> ?_
 · refine az ?_
   obtain rfl:=aB h
   exact hN _ rfl _ _ _ _ aK aq ⟨rfl,rfl⟩
 · refine az ?_
   obtain rfl:=aB h
   exact hX _ _ _ _ _ dI aK aq (dw _ (hB _ rfl))
theorem vi {F:Nat} {s1:List UInt8} {H0:AH} {aJ:Int} (h:jv F s1=some aJ):
 aA Tryz.prog 106 [(.str s1)] H0 fun v H'=>v=(.int .i64 aJ)∧H'=H0:=by
 refine eF ET oS fun hcl K0 aN=> ?_
 rw [jv.eq_1] at h
 refine az ?_
 obtain ⟨XJ,cS,h⟩:=ak h
 refine bF aq (zj cS ?_)
 · rintro TJ rfl
   try dsimp only at h
   refine az ?_
   obtain rfl:=aB h
   exact aN _ _ _ bt (aI hcl (aT bn (.int .i64 TJ)) bp aX ⟨rfl,rfl⟩)
abbrev sS:av:=(.rg [(au 9 0),(aj 10 (.bin .eql (.t 9) (.c (.str [])))),(au 11 10),(ax 12 (.mv (.t 0)) 11 false),(ax 13 (.ixs (.t 12) (.c (.int .i64 0))) 11 false),(ax 14 (.bin .eql (.t 13) (.c (b8 91))) 11 false),(aj 15 (.pick (.t 11) (.c (.bool true)) (.t 14)))])
abbrev sU:av:=(.rg [(au 22 4),(au 23 0),(aj 24 (.lens (.t 23))),(aj 25 (.bin .lss (.t 22) (.t 24))),(au 26 25),(ax 27 (.mv (.t 0)) 26 true),(ax 28 (.mv (.t 4)) 26 true),(ax 29 (.ixs (.t 27) (.t 28)) 26 true),(ax 30 (.bin .neq (.t 29) (.c (b8 46))) 26 true),(aj 31 (.pick (.t 26) (.t 30) (.c (.bool false))))])
abbrev sV:av:=(.rg [(au 36 5),(aj 37 (.bin .eql (.t 36) (.c (.str [])))),(au 38 37),(ax 39 (.mv (.t 5)) 38 false),(ax 40 (.ixs (.t 39) (.c (.int .i64 0))) 38 false),(ax 41 (.bin .eql (.t 40) (.c (b8 45))) 38 false),(aj 42 (.pick (.t 38) (.c (.bool true)) (.t 41))),(au 43 42),(ax 44 (.mv (.t 5)) 43 false),(ax 45 (.mv (.t 5)) 43 false),(ax 46 (.lens (.t 45)) 43 false),(ax 47 (.bin .sub (.t 46) (.c (.int .i64 1))) 43 false),(ax 48 (.ixs (.t 44) (.t 47)) 43 false),(ax 49 (.bin .eql (.t 48) (.c (b8 45))) 43 false),(aj 50 (.pick (.t 43) (.c (.bool true)) (.t 49)))])
abbrev sW:av:=(.rg [(au 57 5),(au 58 6),(aj 59 (.ixs (.t 57) (.t 58))),(aj 60 (.call (.c (.fn 135 [])) [(.t 59)])),(aj 61 (.un .not (.t 60))),(au 62 61),(ax 63 (.mv (.t 5)) 62 true),(ax 64 (.mv (.t 6)) 62 true),(ax 65 (.ixs (.t 63) (.t 64)) 62 true),(ax 66 (.call (.c (.fn 136 [])) [(.t 65)]) 62 true),(ax 67 (.un .not (.t 66)) 62 true),(aj 68 (.pick (.t 62) (.t 67) (.c (.bool false)))),(au 69 68),(ax 70 (.mv (.t 5)) 69 true),(ax 71 (.mv (.t 6)) 69 true),(ax 72 (.ixs (.t 70) (.t 71)) 69 true),(ax 73 (.bin .neq (.t 72) (.c (b8 45))) 69 true),(aj 74 (.pick (.t 69) (.t 73) (.c (.bool false))))])
abbrev rj:av:=(.seq (.seq (.rg [(au 51 6),(au 52 5),(aj 53 (.lens (.t 52))),(aj 54 (.bin .lss (.t 51) (.t 53)))]) (.cond (.t 54) .skip (.exit 2))) (.seq (.blk 3 (.seq (.sem (erase sW)) (.cond (.t 74) (.seq (.rg [(aj 2 (.aO (.c (.bool false))))]) .ret) .skip))) (.rg [(au 55 6),(aj 56 (.bin .add (.t 55) (.c (.int .i64 1)))),(aP 6 56)])))
abbrev rq:av:=(.seq (.seq (.rg [(au 16 4),(au 17 0),(aj 18 (.lens (.t 17))),(aj 19 (.bin .leq (.t 16) (.t 18)))]) (.cond (.t 19) .skip (.exit 0))) (.seq (.blk 1 (.seq (.seq (.sem (erase sU)) (.cond (.t 31) (.exit 1) .skip)) (.seq (.rg [(au 32 0),(au 33 3),(au 34 4),(aj 35 (.mh (.t 32) (some (.t 33)) (some (.t 34)))),(aP 5 35)]) (.seq (.seq (.sem (erase sV)) (.cond (.t 50) (.seq (.rg [(aj 2 (.aO (.c (.bool false))))]) .ret) .skip)) (.seq (.seq (.rg [(aj 6 (.aO (.c (.int .i64 0))))]) (.blk 2 (.loop (erase rj)))) (.rg [(au 75 4),(aj 76 (.bin .add (.t 75) (.c (.int .i64 1)))),(aP 3 76)])))))) (.rg [(au 20 4),(aj 21 (.bin .add (.t 20) (.c (.int .i64 1)))),(aP 4 21)])))
abbrev GQ:av:=(.seq (.rg [(aj 2 (.aO (.c (.bool false))))]) (.seq (.seq (.rg [(au 7 0),(aj 8 (.call (.c (.fn 87 [])) [(.t 7)]))]) (.cond (.t 8) (.seq (.rg [(aj 2 (.aO (.c (.bool true))))]) .ret) .skip)) (.seq (.seq (.sem (erase sS)) (.cond (.t 15) (.seq (.rg [(aj 2 (.aO (.c (.bool false))))]) .ret) .skip)) (.seq (.rg [(aj 3 (.aO (.c (.int .i64 0))))]) (.seq (.seq (.rg [(aj 4 (.aO (.c (.int .i64 0))))]) (.blk 0 (.loop (erase rq)))) (.seq (.rg [(aj 2 (.aO (.c (.bool true))))]) .ret))))))
theorem GR:bw Tryz.prog 107 77 [(.tmp 2)] (erase GQ):=⟨Tryz.f107,_,rfl,by decide,rfl,by kernel_rfl,rfl,rfl⟩
abbrev gj:List Nat:=[0,2,3,4,5,6,8,15,19,31,50,54,74]
def jf (s1:List UInt8):Option (Bool):=
 (if (decide (s1=([]:List UInt8))) then
  some true
 else
  (idx s1 0).bind fun x3=>some (decide (x3=91)))
def fH (i7:Int) (s1:List UInt8):Option (Bool):=
 (if (decide (i7<(s1.length:Int))) then
  (idx s1 i7).bind fun x8=>some (!decide (x8=46))
 else
  some false)
def gE (fj:List UInt8):Option (Bool):=
 (if (decide (fj=([]:List UInt8))) then
  some true
 else
  (idx fj 0).bind fun nV=>
  (if (decide (nV=45)) then
   some true
  else
   (idx fj (IntKind.wrap .i64 ((fj.length:Int) - 1))).bind fun jG=>some (decide (jG=45))))
def jg (fj:List UInt8) (ru:Int):Option (Bool):=
 (idx fj ru).bind fun kU=>
 (fU kU).bind fun XE=>
 (if (!XE) then
  (fR kU).bind fun F5=>
  (if (!F5) then
   some (!decide (kU=45))
  else
   some false)
 else
  some false)
def dY (fj:List UInt8):Int→Option (St Bool Unit Int)
 |ru=>
  (if (decide (ru<(fj.length:Int))) then
   (jg fj ru).bind fun t21=>
   (if t21 then
    some (.ret false)
   else
    some (.cv (IntKind.wrap .i64 (ru+1))))
  else
   some (.eC ()))
def dZ (F:Nat) (s1:List UInt8):(Int×Int)→Option (St Bool Unit (Int×Int))
 |(DI,i7)=>
  (if (decide (i7≤(s1.length:Int))) then
   (fH i7 s1).bind fun t10=>
   (if t10 then
    some (.cv (DI,(IntKind.wrap .i64 (i7+1))))
   else
    (sub s1 DI i7).bind fun fj=>
    (gE fj).bind fun t15=>
    (if t15 then
     some (.ret false)
    else
     ((iter (dY fj) F 0).bind fun o24=>
     match o24 with
     | .inr ()=>
       some (.cv ((IntKind.wrap .i64 (i7+1)),(IntKind.wrap .i64 (i7+1))))
     | .inl PT=>
       some (.ret PT))))
  else
   some (.eC ()))
def kE (F:Nat) (s1:List UInt8):Option (Bool):=
 (fm F s1).bind fun r2=>
 (if r2 then
  some true
 else
  (jf s1).bind fun t5=>
  (if t5 then
   some false
  else
   ((iter (dZ F s1) F (0,0)).bind fun o27=>
   match o27 with
   | .inr ()=>
     some true
   | .inl r26=>
     some r26)))
theorem AJ {s1:List UInt8} {H:AH} {K:Exit→Env→AH→Prop} {t4:Bool}
 (h:jf s1=some t4)
 (kn:K .normal [(0,(.str s1)),(15,(.bool t4))] H):
 AX Tryz.prog gj 77 H.length (erase sS) K [(0,(.str s1))] H:=by
 refine cB fun K' hK=> ?_
 rw [jf.eq_1] at h
 refine az ?_
 refine bZ h (fun aZ h=> ?_) fun aZ h=> ?_
 · refine aQ aZ ?_
   obtain rfl:=aB h
   exact hK _ _ _ _ _ aK aq kn
 · obtain ⟨x3,br,h⟩:=ak h
   refine aQ (aH aZ br) ?_
   obtain rfl:=aB h
   exact hK _ _ _ _ _ aK aq kn
theorem AK {i7:Int} {s1:List UInt8} {DI:Int} {H:AH} {K:Exit→Env→AH→Prop} {t9:Bool}
 (h:fH i7 s1=some t9)
 (kn:K .normal [(0,(.str s1)),(3,(.int .i64 DI)),(4,(.int .i64 i7)),(31,(.bool t9))] H):
 AX Tryz.prog gj 77 H.length (erase sU) K [(0,(.str s1)),(3,(.int .i64 DI)),(4,(.int .i64 i7))] H:=by
 refine cB fun K' hK=> ?_
 rw [fH.eq_1] at h
 refine az ?_
 refine bZ h (fun cD h=> ?_) fun cD h=> ?_
 · obtain ⟨x8,dA,h⟩:=ak h
   refine aQ (aH cD dA) ?_
   obtain rfl:=aB h
   exact hK _ _ _ _ _ aK aq kn
 · refine aQ cD ?_
   obtain rfl:=aB h
   exact hK _ _ _ _ _ aK aq kn
theorem AL {fj:List UInt8} {s1:List UInt8} {i7:Int} {H:AH} {K:Exit→Env→AH→Prop} {t14:Bool}
 (h:gE fj=some t14)
 (kn:K .normal [(0,(.str s1)),(4,(.int .i64 i7)),(5,(.str fj)),(50,(.bool t14))] H):
 AX Tryz.prog gj 77 H.length (erase sV) K [(0,(.str s1)),(4,(.int .i64 i7)),(5,(.str fj))] H:=by
 refine cB fun K' hK=> ?_
 rw [gE.eq_1] at h
 refine az ?_
 refine bZ h (fun cW h=> ?_) fun cW h=> ?_
 · refine aQ cW ?_
   obtain rfl:=aB h
   exact hK _ _ _ _ _ aK aq kn
 · obtain ⟨nV,eT,h⟩:=ak h
   refine aQ (aH cW eT) ?_
   refine bZ h (fun gh h=> ?_) fun gh h=> ?_
   · refine aQ gh ?_
     obtain rfl:=aB h
     exact hK _ _ _ _ _ aK aq kn
   · obtain ⟨jG,gx,h⟩:=ak h
     refine aQ (aH gh gx) ?_
     obtain rfl:=aB h
     exact hK _ _ _ _ _ aK aq kn
theorem AM {fj:List UInt8} {ru:Int} {s1:List UInt8} {i7:Int} {H:AH} {K:Exit→Env→AH→Prop} {t20:Bool}
 (h:jg fj ru=some t20)
 (kn:K .normal [(0,(.str s1)),(4,(.int .i64 i7)),(5,(.str fj)),(6,(.int .i64 ru)),(74,(.bool t20))] H):
 AX Tryz.prog gj 77 H.length (erase sW) K [(0,(.str s1)),(4,(.int .i64 i7)),(5,(.str fj)),(6,(.int .i64 ru))] H:=by
 refine cB fun K' hK=> ?_
 rw [jg.eq_1] at h
 obtain ⟨kU,lz,h⟩:=ak h
 refine aQ lz ?_
 obtain ⟨XE,ig,h⟩:=ak h
 refine aY aq (kz ig) ?_
 refine az ?_
 refine bZ h (fun lA h=> ?_) fun lA h=> ?_
 · refine aQ (aH lA lz) ?_
   obtain ⟨F5,mI,h⟩:=ak h
   refine aY aq (jb mI) ?_
   refine az ?_
   refine bZ h (fun iD h=> ?_) fun iD h=> ?_
   · refine aQ (aH iD lz) ?_
     obtain rfl:=aB h
     exact hK _ _ _ _ _ aK aq kn
   · refine aQ iD ?_
     obtain rfl:=aB h
     exact hK _ _ _ _ _ aK aq kn
 · refine aQ lA ?_
   obtain rfl:=aB h
   exact hK _ _ _ _ _ aK aq kn
theorem AN {F:Nat} {ru:Int} {fj:List UInt8} {s1:List UInt8} {i7:Int} {H:AH} {K:Exit→Env→AH→Prop} {o:(Bool)⊕(Unit)}
 (h:iter (dY fj) F ru=some o)
 (PO:∀o':Unit,o= .inr o'→K (.exit 2) [(0,(.str s1)),(4,(.int .i64 i7))] H)
 (kr:∀o':Bool,o= .inl o'→K .ret [(2,(.bool o'))] H):
 AX Tryz.prog gj 77 H.length (.loop (erase rj)) K [(0,(.str s1)),(4,(.int .i64 i7)),(5,(.str fj)),(6,(.int .i64 ru))] H:=by
 refine gY (fun s e H1=>match s with|ru=>e=[(0,(.str s1)),(4,(.int .i64 i7)),(5,(.str fj)),(6,(.int .i64 ru))]∧H1=H) h ⟨rfl,rfl⟩ ?_
 rintro K' ru st e H ⟨rfl,rfl⟩ h hN hB hR hX
 rw [dY.eq_1] at h
 refine az ?_
 refine bL h (fun jQ h=> ?_) fun jQ h=> ?_
 · refine az ?_
   obtain ⟨t21,jR,h⟩:=ak h
   refine bF aq (AM (s1:=s1) (i7:=i7) jR ?_)
   refine az ?_
   refine bL h (fun ow h=> ?_) fun ow h=> ?_
   · refine az ?_
     obtain rfl:=aB h
     exact hX _ _ _ _ _ dI aK aq (kr _ (hR _ rfl))
   · refine az ?_
     obtain rfl:=aB h
     exact hN _ rfl _ _ _ _ aK aq ⟨rfl,rfl⟩
 · refine az ?_
   obtain rfl:=aB h
   exact hX _ _ _ _ _ dI aK aq (PO _ (hB _ rfl))
theorem AO {F:Nat} {i7:Int} {s1:List UInt8} {DI:Int} {H:AH} {K:Exit→Env→AH→Prop} {o:(Bool)⊕(Unit)}
 (h:iter (dZ F s1) F (DI,i7)=some o)
 (dw:∀o':Unit,o= .inr o'→K (.exit 0) [] H)
 (kr:∀o':Bool,o= .inl o'→K .ret [(2,(.bool o'))] H):
 AX Tryz.prog gj 77 H.length (.loop (erase rq)) K [(0,(.str s1)),(3,(.int .i64 DI)),(4,(.int .i64 i7))] H:=by
 refine gY (fun s e H1=>match s with|(DI,i7)=>e=[(0,(.str s1)),(3,(.int .i64 DI)),(4,(.int .i64 i7))]∧H1=H) h ⟨rfl,rfl⟩ ?_
 rintro K' ⟨DI,i7⟩ st e H ⟨rfl,rfl⟩ h hN hB hR hX
 rw [dZ.eq_1] at h
 refine az ?_
 refine bL h (fun cO h=> ?_) fun cO h=> ?_
 · refine az ?_
   obtain ⟨t10,cJ,h⟩:=ak h
   refine bF aq (AK (DI:=DI) cJ ?_)
   refine az ?_
   refine bL h (fun cG h=> ?_) fun cG h=> ?_
   · refine az ?_
     obtain rfl:=aB h
     exact hN _ rfl _ _ _ _ aK aq ⟨rfl,rfl⟩
   · obtain ⟨fj,cS,h⟩:=ak h
     refine aQ cS ?_
     obtain ⟨t15,lu,h⟩:=ak h
     refine bF aq (AL (s1:=s1) (i7:=i7) lu ?_)
     refine az ?_
     refine bL h (fun jD h=> ?_) fun jD h=> ?_
     · refine az ?_
       obtain rfl:=aB h
       exact hX _ _ _ _ _ dI aK aq (kr _ (hR _ rfl))
     · refine az ?_
       obtain ⟨o24,uJ,h⟩:=ak h
       refine bF aq (AN (s1:=s1) (i7:=i7) uJ ?_ ?_)
       · rintro ⟨⟩ rfl
         try dsimp only at h
         refine az ?_
         obtain rfl:=aB h
         exact hN _ rfl _ _ _ _ aK aq ⟨rfl,rfl⟩
       · rintro PT rfl
         try dsimp only at h
         refine az ?_
         obtain rfl:=aB h
         exact hX _ _ _ _ _ dI aK aq (kr _ (hR _ rfl))
 · refine az ?_
   obtain rfl:=aB h
   exact hX _ _ _ _ _ dI WE.nil aq (dw _ (hB _ rfl))
theorem wS {F:Nat} {s1:List UInt8} {H0:AH} {aJ:Bool} (h:kE F s1=some aJ):
 aA Tryz.prog 107 [(.str s1)] H0 fun v H'=>v=(.bool aJ)∧H'=H0:=by
 refine eF GR gj fun hcl K0 aN=> ?_
 rw [kE.eq_1] at h
 refine az ?_
 obtain ⟨r2,hy1,h⟩:=ak h
 refine aY aq (uY hy1) ?_
 refine az ?_
 refine bL h (fun aS h=> ?_) fun aS h=> ?_
 · refine az ?_
   obtain rfl:=aB h
   exact aN _ _ _ bt (aI hcl (aT bn (.bool true)) bp aX ⟨rfl,rfl⟩)
 · refine az ?_
   obtain ⟨t5,bC,h⟩:=ak h
   refine bF aq (AJ bC ?_)
   refine az ?_
   refine bL h (fun bW h=> ?_) fun bW h=> ?_
   · refine az ?_
     obtain rfl:=aB h
     exact aN _ _ _ bt (aI hcl (aT bn (.bool false)) bp aX ⟨rfl,rfl⟩)
   · refine az ?_
     obtain ⟨o27,xR,h⟩:=ak h
     refine bF aq (AO xR ?_ ?_)
     · rintro ⟨⟩ rfl
       try dsimp only at h
       refine az ?_
       obtain rfl:=aB h
       exact aN _ _ _ bt (aI hcl (aT bn (.bool true)) bp aX ⟨rfl,rfl⟩)
     · rintro r26 rfl
       try dsimp only at h
       refine az ?_
       obtain rfl:=aB h
       exact aN _ _ _ bt (aI hcl (aT bn (.bool r26)) bp aX ⟨rfl,rfl⟩)
abbrev sX:av:=(.rg [(au 5 0),(aj 6 (.bin .eql (.t 5) (.c (.str [])))),(au 7 6),(ax 8 (.mv (.t 0)) 7 false),(ax 9 (.ixs (.t 8) (.c (.int .i64 0))) 7 false),(ax 10 (.bin .neq (.t 9) (.c (b8 64))) 7 false),(aj 11 (.pick (.t 7) (.c (.bool true)) (.t 10)))])
abbrev sY:av:=(.rg [(au 12 3),(au 13 0),(aj 14 (.lens (.t 13))),(aj 15 (.bin .lss (.t 12) (.t 14))),(au 16 15),(ax 17 (.mv (.t 0)) 16 true),(ax 18 (.mv (.t 3)) 16 true),(ax 19 (.ixs (.t 17) (.t 18)) 16 true),(ax 20 (.bin .eql (.t 19) (.c (b8 64))) 16 true),(aj 21 (.pick (.t 16) (.t 20) (.c (.bool false))))])
abbrev sZ:av:=(.rg [(au 41 3),(au 42 0),(aj 43 (.lens (.t 42))),(aj 44 (.bin .lss (.t 41) (.t 43))),(au 45 44),(ax 46 (.mv (.t 0)) 45 true),(ax 47 (.mv (.t 3)) 45 true),(ax 48 (.ixs (.t 46) (.t 47)) 45 true),(ax 49 (.bin .eql (.t 48) (.c (b8 58))) 45 true),(aj 50 (.pick (.t 45) (.t 49) (.c (.bool false))))])
abbrev s7:av:=(.rg [(au 53 3),(au 54 0),(aj 55 (.lens (.t 54))),(aj 56 (.bin .geq (.t 53) (.t 55))),(au 57 56),(ax 58 (.mv (.t 0)) 57 false),(ax 59 (.mv (.t 3)) 57 false),(ax 60 (.ixs (.t 58) (.t 59)) 57 false),(ax 61 (.bin .neq (.t 60) (.c (b8 44))) 57 false),(aj 62 (.pick (.t 57) (.c (.bool true)) (.t 61)))])
abbrev ry:av:=(.seq (.seq (.sem (erase sY)) (.cond (.t 21) .skip (.exit 0))) (.blk 1 (.seq (.rg [(au 22 0),(au 23 3),(aj 24 (.bin .add (.t 23) (.c (.int .i64 1)))),(aj 25 (.mh (.t 22) (some (.t 24)) none)),(aj 26 (.call (.c (.fn 106 [])) [(.t 25)])),(aP 4 26)]) (.seq (.seq (.rg [(au 27 0),(au 28 3),(aj 29 (.bin .add (.t 28) (.c (.int .i64 1)))),(au 30 3),(aj 31 (.bin .add (.t 30) (.c (.int .i64 1)))),(au 32 4),(aj 33 (.bin .add (.t 31) (.t 32))),(aj 34 (.mh (.t 27) (some (.t 29)) (some (.t 33)))),(aj 35 (.call (.c (.fn 107 [])) [(.t 34)])),(aj 36 (.un .not (.t 35)))]) (.cond (.t 36) (.seq (.rg [(aj 2 (.aO (.c (.int .i64 (-1)))))]) .ret) .skip)) (.seq (.rg [(au 37 3),(aj 38 (.bin .add (.t 37) (.c (.int .i64 1)))),(au 39 4),(aj 40 (.bin .add (.t 38) (.t 39))),(aP 3 40)]) (.seq (.seq (.sem (erase sZ)) (.cond (.t 50) (.seq (.rg [(au 51 3),(aj 52 (.bin .add (.t 51) (.c (.int .i64 1)))),(aP 2 52)]) .ret) .skip)) (.seq (.seq (.sem (erase s7)) (.cond (.t 62) (.seq (.rg [(aj 2 (.aO (.c (.int .i64 (-1)))))]) .ret) .skip)) (.rg [(au 63 3),(aj 64 (.bin .add (.t 63) (.c (.int .i64 1)))),(aP 3 64)]))))))))
abbrev GU:av:=(.seq (.rg [(aj 2 (.aO (.c (.int .i64 0))))]) (.seq (.seq (.sem (erase sX)) (.cond (.t 11) (.seq (.rg [(aj 2 (.aO (.c (.int .i64 0))))]) .ret) .skip)) (.seq (.rg [(aj 3 (.aO (.c (.int .i64 0))))]) (.seq (.blk 0 (.loop (erase ry))) (.seq (.rg [(aj 2 (.aO (.c (.int .i64 (-1)))))]) .ret)))))
theorem GV:bw Tryz.prog 104 65 [(.tmp 2)] (erase GU):=⟨Tryz.f104,_,rfl,by decide,rfl,by kernel_rfl,rfl,rfl⟩
abbrev iA:List Nat:=[0,2,3,4,11,21,36,50,62]
def jh (s1:List UInt8):Option (Bool):=
 (if (decide (s1=([]:List UInt8))) then
  some true
 else
  (idx s1 0).bind fun x2=>some (!decide (x2=64)))
def ji (i5:Int) (s1:List UInt8):Option (Bool):=
 (if (decide (i5<(s1.length:Int))) then
  (idx s1 i5).bind fun x6=>some (decide (x6=64))
 else
  some false)
def jj (i5:Int) (fA:Int) (s1:List UInt8):Option (Bool):=
 (if (decide ((IntKind.wrap .i64 ((IntKind.wrap .i64 (i5+1))+fA))<(s1.length:Int))) then
  (idx s1 (IntKind.wrap .i64 ((IntKind.wrap .i64 (i5+1))+fA))).bind fun jG=>some (decide (jG=58))
 else
  some false)
def jk (s1:List UInt8) (i5:Int) (fA:Int):Option (Bool):=
 (if (decide ((s1.length:Int)≤(IntKind.wrap .i64 ((IntKind.wrap .i64 (i5+1))+fA)))) then
  some true
 else
  (idx s1 (IntKind.wrap .i64 ((IntKind.wrap .i64 (i5+1))+fA))).bind fun oN=>some (!decide (oN=44)))
def ef (F:Nat) (s1:List UInt8):Int→Option (St Int Unit Int)
 |i5=>
  (ji i5 s1).bind fun t8=>
  (if t8 then
   (sub s1 (IntKind.wrap .i64 (i5+1)) (s1.length:Int)).bind fun x9=>
   (jv F x9).bind fun fA=>
   (sub s1 (IntKind.wrap .i64 (i5+1)) (IntKind.wrap .i64 ((IntKind.wrap .i64 (i5+1))+fA))).bind fun fj=>
   (kE F fj).bind fun gv=>
   (if (!gv) then
    some (.ret (-1))
   else
    (jj i5 fA s1).bind fun t15=>
    (if t15 then
     some (.ret (IntKind.wrap .i64 ((IntKind.wrap .i64 ((IntKind.wrap .i64 (i5+1))+fA))+1)))
    else
     (jk s1 i5 fA).bind fun t18=>
     (if t18 then
      some (.ret (-1))
     else
      some (.cv (IntKind.wrap .i64 ((IntKind.wrap .i64 ((IntKind.wrap .i64 (i5+1))+fA))+1))))))
  else
   some (.eC ()))
def kF (F:Nat) (s1:List UInt8):Option (Int):=
 (jh s1).bind fun t4=>
 (if t4 then
  some 0
 else
  ((iter (ef F s1) F 0).bind fun o21=>
  match o21 with
  | .inr ()=>
    some (-1)
  | .inl r20=>
    some r20))
theorem AP {s1:List UInt8} {H:AH} {K:Exit→Env→AH→Prop} {t3:Bool}
 (h:jh s1=some t3)
 (kn:K .normal [(0,(.str s1)),(11,(.bool t3))] H):
 AX Tryz.prog iA 65 H.length (erase sX) K [(0,(.str s1))] H:=by
 refine cB fun K' hK=> ?_
 rw [jh.eq_1] at h
 refine az ?_
 refine bZ h (fun hy1 h=> ?_) fun hy1 h=> ?_
 · refine aQ hy1 ?_
   obtain rfl:=aB h
   exact hK _ _ _ _ _ aK aq kn
 · obtain ⟨x2,aS,h⟩:=ak h
   refine aQ (aH hy1 aS) ?_
   obtain rfl:=aB h
   exact hK _ _ _ _ _ aK aq kn
theorem AQ {i5:Int} {s1:List UInt8} {H:AH} {K:Exit→Env→AH→Prop} {t7:Bool}
 (h:ji i5 s1=some t7)
 (kn:K .normal [(0,(.str s1)),(3,(.int .i64 i5)),(21,(.bool t7))] H):
 AX Tryz.prog iA 65 H.length (erase sY) K [(0,(.str s1)),(3,(.int .i64 i5))] H:=by
 refine cB fun K' hK=> ?_
 rw [ji.eq_1] at h
 refine az ?_
 refine bZ h (fun bC h=> ?_) fun bC h=> ?_
 · obtain ⟨x6,bW,h⟩:=ak h
   refine aQ (aH bC bW) ?_
   obtain rfl:=aB h
   exact hK _ _ _ _ _ aK aq kn
 · refine aQ bC ?_
   obtain rfl:=aB h
   exact hK _ _ _ _ _ aK aq kn
theorem AR {i5:Int} {fA:Int} {s1:List UInt8} {H:AH} {K:Exit→Env→AH→Prop} {t14:Bool}
 (h:jj i5 fA s1=some t14)
 (kn:K .normal [(0,(.str s1)),(3,(.int .i64 (IntKind.wrap .i64 ((IntKind.wrap .i64 (i5+1))+fA)))),(50,(.bool t14))] H):
 AX Tryz.prog iA 65 H.length (erase sZ) K [(0,(.str s1)),(3,(.int .i64 (IntKind.wrap .i64 ((IntKind.wrap .i64 (i5+1))+fA))))] H:=by
 refine cB fun K' hK=> ?_
 rw [jj.eq_1] at h
 refine az ?_
 refine bZ h (fun eT h=> ?_) fun eT h=> ?_
 · obtain ⟨jG,gh,h⟩:=ak h
   refine aQ (aH eT gh) ?_
   obtain rfl:=aB h
   exact hK _ _ _ _ _ aK aq kn
 · refine aQ eT ?_
   obtain rfl:=aB h
   exact hK _ _ _ _ _ aK aq kn
theorem AU {s1:List UInt8} {i5:Int} {fA:Int} {H:AH} {K:Exit→Env→AH→Prop} {t17:Bool}
 (h:jk s1 i5 fA=some t17)
 (kn:K .normal [(0,(.str s1)),(3,(.int .i64 (IntKind.wrap .i64 ((IntKind.wrap .i64 (i5+1))+fA)))),(62,(.bool t17))] H):
 AX Tryz.prog iA 65 H.length (erase s7) K [(0,(.str s1)),(3,(.int .i64 (IntKind.wrap .i64 ((IntKind.wrap .i64 (i5+1))+fA))))] H:=by
 refine cB fun K' hK=> ?_
 rw [jk.eq_1] at h
 refine az ?_
 refine bZ h (fun jD h=> ?_) fun jD h=> ?_
 · refine aQ jD ?_
   obtain rfl:=aB h
   exact hK _ _ _ _ _ aK aq kn
 · obtain ⟨oN,jQ,h⟩:=ak h
   refine aQ (aH jD jQ) ?_
   obtain rfl:=aB h
   exact hK _ _ _ _ _ aK aq kn
theorem AY {F:Nat} {i5:Int} {s1:List UInt8} {H:AH} {K:Exit→Env→AH→Prop} {o:(Int)⊕(Unit)}
 (h:iter (ef F s1) F i5=some o)
 (dw:∀o':Unit,o= .inr o'→K (.exit 0) [] H)
 (kr:∀o':Int,o= .inl o'→K .ret [(2,(.int .i64 o'))] H):
 AX Tryz.prog iA 65 H.length (.loop (erase ry)) K [(0,(.str s1)),(3,(.int .i64 i5))] H:=by
 refine gY (fun s e H1=>match s with|i5=>e=[(0,(.str s1)),(3,(.int .i64 i5))]∧H1=H) h ⟨rfl,rfl⟩ ?_
 rintro K' i5 st e H ⟨rfl,rfl⟩ h hN hB hR hX
 rw [ef.eq_1] at h
 refine az ?_
 obtain ⟨t8,cO,h⟩:=ak h
 refine bF aq (AQ cO ?_)
 refine az ?_
 refine bL h (fun cD h=> ?_) fun cD h=> ?_
 · obtain ⟨x9,dA,h⟩:=ak h
   refine aQ dA ?_
   obtain ⟨fA,cJ,h⟩:=ak h
   refine aY aq (vi cJ) ?_
   refine az ?_
   obtain ⟨fj,cG,h⟩:=ak h
   refine aQ cG ?_
   obtain ⟨gv,cS,h⟩:=ak h
   refine aY aq (wS cS) ?_
   refine az ?_
   refine bL h (fun cW h=> ?_) fun cW h=> ?_
   · refine az ?_
     obtain rfl:=aB h
     exact hX _ _ _ _ _ dI aK aq (kr _ (hR _ rfl))
   · refine az ?_
     obtain ⟨t15,gx,h⟩:=ak h
     refine bF aq (AR gx ?_)
     refine az ?_
     refine bL h (fun lu h=> ?_) fun lu h=> ?_
     · refine az ?_
       obtain rfl:=aB h
       exact hX _ _ _ _ _ dI aK aq (kr _ (hR _ rfl))
     · refine az ?_
       obtain ⟨t18,lz,h⟩:=ak h
       refine bF aq (AU lz ?_)
       refine az ?_
       refine bL h (fun ig h=> ?_) fun ig h=> ?_
       · refine az ?_
         obtain rfl:=aB h
         exact hX _ _ _ _ _ dI aK aq (kr _ (hR _ rfl))
       · refine az ?_
         obtain rfl:=aB h
         exact hN _ rfl _ _ _ _ aK aq ⟨rfl,rfl⟩
 · refine az ?_
   obtain rfl:=aB h
   exact hX _ _ _ _ _ dI WE.nil aq (dw _ (hB _ rfl))
theorem EU {F:Nat} {s1:List UInt8} {H0:AH} {aJ:Int} (h:kF F s1=some aJ):
 aA Tryz.prog 104 [(.str s1)] H0 fun v H'=>v=(.int .i64 aJ)∧H'=H0:=by
 refine eF GV iA fun hcl K0 aN=> ?_
 rw [kF.eq_1] at h
 refine az ?_
 obtain ⟨t4,aZ,h⟩:=ak h
 refine bF aq (AP aZ ?_)
 refine az ?_
 refine bL h (fun br h=> ?_) fun br h=> ?_
 · refine az ?_
   obtain rfl:=aB h
   exact aN _ _ _ bt (aI hcl (aT bn (.int .i64 0)) bp aX ⟨rfl,rfl⟩)
 · refine az ?_
   obtain ⟨o21,lA,h⟩:=ak h
   refine bF aq (AY lA ?_ ?_)
   · rintro ⟨⟩ rfl
     try dsimp only at h
     refine az ?_
     obtain rfl:=aB h
     exact aN _ _ _ bt (aI hcl (aT bn (.int .i64 (-1))) bp aX ⟨rfl,rfl⟩)
   · rintro r20 rfl
     try dsimp only at h
     refine az ?_
     obtain rfl:=aB h
     exact aN _ _ _ bt (aI hcl (aT bn (.int .i64 r20)) bp aX ⟨rfl,rfl⟩)
abbrev td:av:=(.rg [(au 7 0),(aj 8 (.bin .neq (.t 7) (.c (.str [])))),(au 9 8),(ax 10 (.mv (.t 0)) 9 true),(ax 11 (.ixs (.t 10) (.c (.int .i64 0))) 9 true),(ax 12 (.bin .eql (.t 11) (.c (b8 34))) 9 true),(aj 13 (.pick (.t 9) (.t 12) (.c (.bool false))))])
abbrev tf:av:=(.rg [(au 14 5),(au 15 0),(aj 16 (.lens (.t 15))),(aj 17 (.bin .lss (.t 14) (.t 16))),(au 18 17),(ax 19 (.mv (.t 0)) 18 true),(ax 20 (.mv (.t 5)) 18 true),(ax 21 (.ixs (.t 19) (.t 20)) 18 true),(ax 22 (.bin .neq (.t 21) (.c (b8 34))) 18 true),(aj 23 (.pick (.t 18) (.t 22) (.c (.bool false))))])
abbrev th:av:=(.cond (.t 27) (.rg [(au 28 5),(aj 29 (.bin .add (.t 28) (.c (.int .i64 1)))),(aP 5 29)]) .skip)
abbrev tj:av:=(.rg [(au 30 5),(au 31 0),(aj 32 (.lens (.t 31))),(aj 33 (.bin .geq (.t 30) (.t 32))),(au 34 33),(ax 35 (.mv (.t 0)) 34 false),(ax 36 (.mv (.t 5)) 34 false),(ax 37 (.ixs (.t 35) (.t 36)) 34 false),(ax 38 (.bin .lss (.t 37) (.c (b8 32))) 34 false),(aj 39 (.pick (.t 34) (.c (.bool true)) (.t 38))),(au 40 39),(ax 41 (.mv (.t 0)) 40 false),(ax 42 (.mv (.t 5)) 40 false),(ax 43 (.ixs (.t 41) (.t 42)) 40 false),(ax 44 (.bin .gtr (.t 43) (.c (b8 126))) 40 false),(aj 45 (.pick (.t 40) (.c (.bool true)) (.t 44)))])
abbrev rz:av:=(.seq (.seq (.sem (erase tf)) (.cond (.t 23) .skip (.exit 0))) (.blk 1 (.seq (.seq (.rg [(au 24 0),(au 25 5),(aj 26 (.ixs (.t 24) (.t 25))),(aj 27 (.bin .eql (.t 26) (.c (b8 92))))]) (.sem (erase th))) (.seq (.seq (.sem (erase tj)) (.cond (.t 45) (.seq (.rg [(aj 2 (.aO (.c (.str [])))),(aj 3 (.aO (.c (.int .i64 (-1)))))]) .ret) .skip)) (.seq (.rg [(au 46 4),(au 47 0),(au 48 5),(aj 49 (.ixs (.t 47) (.t 48))),(aj 50 (.gA 1 [(.t 49)])),(aj 51 (.app 1 1 (.t 46) (.t 50))),(aP 4 51)]) (.rg [(au 52 5),(aj 53 (.bin .add (.t 52) (.c (.int .i64 1)))),(aP 5 53)]))))))
abbrev tq:av:=(.rg [(au 54 5),(au 55 0),(aj 56 (.lens (.t 55))),(aj 57 (.bin .geq (.t 54) (.t 56))),(au 58 57),(ax 59 (.mv (.t 4)) 58 false),(ax 60 (.len (.t 59)) 58 false),(ax 61 (.bin .eql (.t 60) (.c (.int .i64 0))) 58 false),(aj 62 (.pick (.t 58) (.c (.bool true)) (.t 61)))])
abbrev tr:av:=(.rg [(au 67 6),(au 68 0),(aj 69 (.lens (.t 68))),(aj 70 (.bin .lss (.t 67) (.t 69))),(au 71 70),(ax 72 (.mv (.t 0)) 71 true),(ax 73 (.mv (.t 6)) 71 true),(ax 74 (.ixs (.t 72) (.t 73)) 71 true),(ax 75 (.call (.c (.fn 127 [])) [(.t 74)]) 71 true),(ax 76 (.mv (.t 75)) 71 true),(ax 77 (.mv (.t 0)) 76 false),(ax 78 (.mv (.t 6)) 76 false),(ax 79 (.ixs (.t 77) (.t 78)) 76 false),(ax 80 (.bin .eql (.t 79) (.c (b8 46))) 76 false),(ax 81 (.pick (.t 76) (.c (.bool true)) (.t 80)) 71 true),(aj 82 (.pick (.t 71) (.t 81) (.c (.bool false))))])
abbrev rA:av:=(.seq (.seq (.sem (erase tr)) (.cond (.t 82) .skip (.exit 2))) (.blk 3 (.rg [(au 83 6),(aj 84 (.bin .add (.t 83) (.c (.int .i64 1)))),(aP 6 84)])))
abbrev GX:av:=(.seq (.rg [(aj 2 (.aO (.c (.str [])))),(aj 3 (.aO (.c (.int .i64 0))))]) (.seq (.seq (.sem (erase td)) (.cond (.t 13) (.seq (.rg [(aj 4 (.aO (.c (.sl .ex 1 []))))]) (.seq (.rg [(aj 5 (.aO (.c (.int .i64 1))))]) (.seq (.blk 0 (.loop (erase rz))) (.seq (.seq (.sem (erase tq)) (.cond (.t 62) (.seq (.rg [(aj 2 (.aO (.c (.str [])))),(aj 3 (.aO (.c (.int .i64 (-1)))))]) .ret) .skip)) (.seq (.rg [(au 63 4),(aj 64 (.iS .bs (.t 63))),(au 65 5),(aj 66 (.bin .add (.t 65) (.c (.int .i64 1)))),(aP 2 64),(aP 3 66)]) .ret))))) .skip)) (.seq (.rg [(aj 6 (.aO (.c (.int .i64 0))))]) (.seq (.blk 2 (.loop (erase rA))) (.seq (.seq (.rg [(au 85 0),(au 86 6),(aj 87 (.mh (.t 85) none (some (.t 86)))),(aj 88 (.call (.c (.fn 95 [])) [(.t 87)])),(aj 89 (.un .not (.t 88)))]) (.cond (.t 89) (.seq (.rg [(aj 2 (.aO (.c (.str [])))),(aj 3 (.aO (.c (.int .i64 (-1)))))]) .ret) .skip)) (.seq (.rg [(au 90 0),(au 91 6),(aj 92 (.mh (.t 90) none (some (.t 91)))),(au 93 6),(aP 2 92),(aP 3 93)]) .ret))))))
theorem GY:bw Tryz.prog 105 94 [(.tmp 2),(.tmp 3)] (erase GX):=⟨Tryz.f105,_,rfl,by decide,rfl,by kernel_rfl,rfl,rfl⟩
abbrev eR:List Nat:=[0,2,3,4,5,6,13,23,27,45,62,82,89]
def jl (s1:List UInt8):Option (Bool):=
 (if (!decide (s1=([]:List UInt8))) then
  (idx s1 0).bind fun x2=>some (decide (x2=34))
 else
  some false)
def gF (i6:Int) (s1:List UInt8):Option (Bool):=
 (if (decide (i6<(s1.length:Int))) then
  (idx s1 i6).bind fun x7=>some (!decide (x7=34))
 else
  some false)
def jm (iY:UInt8) (i6:Int):Option (Int):=
 (if (decide (iY=92)) then
  some (IntKind.wrap .i64 (i6+1))
 else
  some i6)
def fI (s1:List UInt8) (i12:Int):Option (Bool):=
 (if (decide ((s1.length:Int)≤i12)) then
  some true
 else
  (idx s1 i12).bind fun jG=>
  (if (decide (jG<32)) then
   some true
  else
   some (decide (126<jG))))
def bT (s1:List UInt8):((List UInt8)×Int)→Option (St ((List UInt8)×Int) ((List UInt8)×Int) ((List UInt8)×Int))
 |(b5,i6)=>
  (gF i6 s1).bind fun t9=>
  (if t9 then
   (idx s1 i6).bind fun iY=>
   (jm iY i6).bind fun i12=>
   (fI s1 i12).bind fun t15=>
   (if t15 then
    some (.ret (([]:List UInt8),(-1)))
   else
    (idx s1 i12).bind fun oN=>
    (cw 1 b5 ([oN]:List UInt8)).bind fun kU=>some (.cv (kU,(IntKind.wrap .i64 (i12+1)))))
  else
   some (.eC (b5,i6)))
def jo (F:Nat) (o7:Int) (s1:List UInt8):Option (Bool):=
 (if (decide (o7<(s1.length:Int))) then
  (idx s1 o7).bind fun DJ=>
  (iO F DJ).bind fun XZ=>(if XZ then
   some true
  else
   some (decide (DJ=46)))
 else
  some false)
def fJ (F:Nat) (s1:List UInt8):Int→Option (St ((List UInt8)×Int) Int Int)
 |o7=>
  (jo F o7 s1).bind fun t31=>
  (if t31 then
   some (.cv (IntKind.wrap .i64 (o7+1)))
  else
   some (.eC o7))
def kG (F:Nat) (s1:List UInt8):Option ((List UInt8)×Int):=
 (jl s1).bind fun t4=>
 (if t4 then
  ((iter (bT s1) F (([]:List UInt8),1)).bind fun XI=>
  match XI with
  | .inr (Ig,i23)=>
    (if ((decide ((s1.length:Int)≤i23))||(decide ((Ig.length:Int)=0))) then
     some (([]:List UInt8),(-1))
    else
     some (Ig,(IntKind.wrap .i64 (i23+1))))
  | .inl (Kz,HV)=>
    some (Kz,HV))
 else
  ((iter (fJ F s1) F 0).bind fun o36=>
  match o36 with
  | .inr Q4=>
    (sub s1 0 Q4).bind fun x34=>
    (kB F x34).bind fun r35=>
    (if (!r35) then
     some (([]:List UInt8),(-1))
    else
     some (x34,Q4))
  | .inl _=>none))
theorem AZ {s1:List UInt8} {H:AH} {K:Exit→Env→AH→Prop} {t3:Bool}
 (h:jl s1=some t3)
 (kn:K .normal [(0,(.str s1)),(13,(.bool t3))] H):
 AX Tryz.prog eR 94 H.length (erase td) K [(0,(.str s1))] H:=by
 refine cB fun K' hK=> ?_
 rw [jl.eq_1] at h
 refine az ?_
 refine bZ h (fun hy1 h=> ?_) fun hy1 h=> ?_
 · obtain ⟨x2,aS,h⟩:=ak h
   refine aQ (aH hy1 aS) ?_
   obtain rfl:=aB h
   exact hK _ _ _ _ _ aK aq kn
 · refine aQ hy1 ?_
   obtain rfl:=aB h
   exact hK _ _ _ _ _ aK aq kn
theorem A2 {i6:Int} {s1:List UInt8} {b5:List UInt8} {H:AH} {K:Exit→Env→AH→Prop} {t8:Bool}
 (h:gF i6 s1=some t8)
 (kn:K .normal [(0,(.str s1)),(4,(.sl .own 1 (ml b8 b5))),(5,(.int .i64 i6)),(23,(.bool t8))] H):
 AX Tryz.prog eR 94 H.length (erase tf) K [(0,(.str s1)),(4,(.sl .own 1 (ml b8 b5))),(5,(.int .i64 i6))] H:=by
 refine cB fun K' hK=> ?_
 rw [gF.eq_1] at h
 refine az ?_
 refine bZ h (fun bC h=> ?_) fun bC h=> ?_
 · obtain ⟨x7,bW,h⟩:=ak h
   refine aQ (aH bC bW) ?_
   obtain rfl:=aB h
   exact hK _ _ _ _ _ aK aq kn
 · refine aQ bC ?_
   obtain rfl:=aB h
   exact hK _ _ _ _ _ aK aq kn
theorem A3 {iY:UInt8} {i6:Int} {s1:List UInt8} {b5:List UInt8} {H:AH} {K:Exit→Env→AH→Prop} {i11:Int}
 (h:jm iY i6=some i11)
 (kn:K .normal [(0,(.str s1)),(4,(.sl .own 1 (ml b8 b5))),(5,(.int .i64 i11))] H):
 AX Tryz.prog eR 94 H.length (erase th) K [(0,(.str s1)),(4,(.sl .own 1 (ml b8 b5))),(5,(.int .i64 i6)),(27,(.bool (decide (iY=92))))] H:=by
 refine cB fun K' hK=> ?_
 rw [jm.eq_1] at h
 refine az ?_
 refine bL h (fun cJ h=> ?_) fun cJ h=> ?_
 · refine az ?_
   obtain rfl:=aB h
   exact hK _ _ _ _ _ aK aq kn
 · refine az ?_
   obtain rfl:=aB h
   exact hK _ _ _ _ _ aK aq kn
theorem A4 {s1:List UInt8} {i12:Int} {b5:List UInt8} {H:AH} {K:Exit→Env→AH→Prop} {t14:Bool}
 (h:fI s1 i12=some t14)
 (kn:K .normal [(0,(.str s1)),(4,(.sl .own 1 (ml b8 b5))),(5,(.int .i64 i12)),(45,(.bool t14))] H):
 AX Tryz.prog eR 94 H.length (erase tj) K [(0,(.str s1)),(4,(.sl .own 1 (ml b8 b5))),(5,(.int .i64 i12))] H:=by
 refine cB fun K' hK=> ?_
 rw [fI.eq_1] at h
 refine az ?_
 refine bZ h (fun cS h=> ?_) fun cS h=> ?_
 · refine aQ cS ?_
   obtain rfl:=aB h
   exact hK _ _ _ _ _ aK aq kn
 · obtain ⟨jG,cW,h⟩:=ak h
   refine aQ (aH cS cW) ?_
   refine bZ h (fun eT h=> ?_) fun eT h=> ?_
   · refine aQ eT ?_
     obtain rfl:=aB h
     exact hK _ _ _ _ _ aK aq kn
   · refine aQ (aH eT cW) ?_
     obtain rfl:=aB h
     exact hK _ _ _ _ _ aK aq kn
theorem A5 {F:Nat} {i6:Int} {s1:List UInt8} {b5:List UInt8} {H:AH} {K:Exit→Env→AH→Prop} {o:((List UInt8)×Int)⊕((List UInt8)×Int)}
 (h:iter (bT s1) F (b5,i6)=some o)
 (dw:∀o':(List UInt8)×Int,o= .inr o'→K (.exit 0) [(0,(.str s1)),(4,(.sl .own 1 (ml b8 o'.1))),(5,(.int .i64 o'.2))] H)
 (kr:∀o':(List UInt8)×Int,o= .inl o'→K .ret [(2,(.str o'.1)),(3,(.int .i64 o'.2))] H):
 AX Tryz.prog eR 94 H.length (.loop (erase rz)) K [(0,(.str s1)),(4,(.sl .own 1 (ml b8 b5))),(5,(.int .i64 i6))] H:=by
 refine gY (fun s e H1=>match s with|(b5,i6)=>e=[(0,(.str s1)),(4,(.sl .own 1 (ml b8 b5))),(5,(.int .i64 i6))]∧H1=H) h ⟨rfl,rfl⟩ ?_
 rintro K' ⟨b5,i6⟩ st e H ⟨rfl,rfl⟩ h hN hB hR hX
 rw [bT.eq_1] at h
 refine az ?_
 obtain ⟨t9,cO,h⟩:=ak h
 refine bF aq (A2 (b5:=b5) cO ?_)
 refine az ?_
 refine bL h (fun cD h=> ?_) fun cD h=> ?_
 · obtain ⟨iY,dA,h⟩:=ak h
   refine aQ dA ?_
   obtain ⟨i12,cG,h⟩:=ak h
   refine bF aq (A3 (s1:=s1) (b5:=b5) cG ?_)
   refine az ?_
   obtain ⟨t15,gh,h⟩:=ak h
   refine bF aq (A4 (b5:=b5) gh ?_)
   refine az ?_
   refine bL h (fun gx h=> ?_) fun gx h=> ?_
   · refine az ?_
     obtain rfl:=aB h
     exact hX _ _ _ _ _ dI aK aq (kr _ (hR _ rfl))
   · obtain ⟨oN,lu,h⟩:=ak h
     obtain ⟨kU,jD,h⟩:=ak h
     have jQ:cw 1 (ml b8 b5) [(b8 oN)]=some (ml b8 kU):=eH (f:=b8) jD
     refine aQ (aH lu jQ) ?_
     obtain rfl:=aB h
     exact hN _ rfl _ _ _ _ aK aq ⟨rfl,rfl⟩
 · refine az ?_
   obtain rfl:=aB h
   exact hX _ _ _ _ _ dI aK aq (dw _ (hB _ rfl))
theorem A6 {s1:List UInt8} {Ig:List UInt8} {i23:Int} {H:AH} {K:Exit→Env→AH→Prop}
 (kn:K .normal [(4,(.sl .own 1 (ml b8 Ig))),(5,(.int .i64 i23)),(62,(.bool ((decide ((s1.length:Int)≤i23))||(decide ((Ig.length:Int)=0)))))] H):
 AX Tryz.prog eR 94 H.length (erase tq) K [(0,(.str s1)),(4,(.sl .own 1 (ml b8 Ig))),(5,(.int .i64 i23))] H:=by
 refine cB fun K' hK=> ?_
 refine az ?_
 refine om (fun ig=> ?_) fun ig=> ?_
 · refine aQ ig ?_
   exact hK _ _ _ _ _ (fh ig) aq kn
 · refine aQ ig ?_
   exact hK _ _ _ _ _ (fh ig) aq kn
theorem A7 {F:Nat} {o7:Int} {s1:List UInt8} {H:AH} {K:Exit→Env→AH→Prop} {t30:Bool}
 (h:jo F o7 s1=some t30)
 (kn:K .normal [(0,(.str s1)),(6,(.int .i64 o7)),(82,(.bool t30))] H):
 AX Tryz.prog eR 94 H.length (erase tr) K [(0,(.str s1)),(6,(.int .i64 o7))] H:=by
 refine cB fun K' hK=> ?_
 rw [jo.eq_1] at h
 refine az ?_
 refine bZ h (fun mI h=> ?_) fun mI h=> ?_
 · obtain ⟨DJ,iD,h⟩:=ak h
   refine aQ (aH mI iD) ?_
   obtain ⟨XZ,jR,h⟩:=ak h
   refine aY aq (wM jR) ?_
   refine az ?_
   refine bZ h (fun ow h=> ?_) fun ow h=> ?_
   · refine aQ ow ?_
     obtain rfl:=aB h
     exact hK _ _ _ _ _ aK aq kn
   · refine aQ (aH ow iD) ?_
     obtain rfl:=aB h
     exact hK _ _ _ _ _ aK aq kn
 · refine aQ mI ?_
   obtain rfl:=aB h
   exact hK _ _ _ _ _ aK aq kn
theorem A8 {F:Nat} {o7:Int} {s1:List UInt8} {H:AH} {K:Exit→Env→AH→Prop} {o:((List UInt8)×Int)⊕(Int)}
 (h:iter (fJ F s1) F o7=some o)
 (PO:∀o':Int,o= .inr o'→K (.exit 2) [(0,(.str s1)),(6,(.int .i64 o'))] H):
 AX Tryz.prog eR 94 H.length (.loop (erase rA)) K [(0,(.str s1)),(6,(.int .i64 o7))] H:=by
 refine gY (fun s e H1=>match s with|o7=>e=[(0,(.str s1)),(6,(.int .i64 o7))]∧H1=H) h ⟨rfl,rfl⟩ ?_
 rintro K' o7 st e H ⟨rfl,rfl⟩ h hN hB hR hX
 rw [fJ.eq_1] at h
 refine az ?_
 obtain ⟨t31,uJ,h⟩:=ak h
 refine bF aq (A7 uJ ?_)
 refine az ?_
 refine bL h (fun xR h=> ?_) fun xR h=> ?_
 · refine az ?_
   obtain rfl:=aB h
   exact hN _ rfl _ _ _ _ aK aq ⟨rfl,rfl⟩
 · refine az ?_
   obtain rfl:=aB h
   exact hX _ _ _ _ _ dI aK aq (PO _ (hB _ rfl))
theorem EV {F:Nat} {s1:List UInt8} {H0:AH} {aJ:List UInt8} {eS:Int} (h:kG F s1=some (aJ,eS)):
 aA Tryz.prog 105 [(.str s1)] H0 fun v H'=>v=(.bz [(.str aJ),(.int .i64 eS)])∧H'=H0:=by
 refine eF GY eR fun hcl K0 aN=> ?_
 rw [kG.eq_1] at h
 refine az ?_
 obtain ⟨t4,aZ,h⟩:=ak h
 refine bF aq (AZ aZ ?_)
 refine az ?_
 refine bL h (fun br h=> ?_) fun br h=> ?_
 · refine az ?_
   obtain ⟨XI,lz,h⟩:=ak h
   refine bF aq (A5 lz ?_ ?_)
   · rintro ⟨Ig,i23⟩ rfl
     try dsimp only at h
     refine az ?_
     refine bF aq (A6 (s1:=s1) (Ig:=Ig) (i23:=i23) ?_)
     refine az ?_
     refine bL h (fun lA h=> ?_) fun lA h=> ?_
     · refine az ?_
       obtain ⟨rfl,rfl⟩:=gw h
       exact aN _ _ _ bt (aI hcl (aT (aT bn (.int .i64 (-1))) (.str ([]:List UInt8))) bp aX ⟨rfl,rfl⟩)
     · refine az ?_
       obtain ⟨rfl,rfl⟩:=gw h
       exact aN _ _ _ bt (aI hcl (aT (aT bn (.int .i64 (IntKind.wrap .i64 (i23+1)))) (.str Ig)) bp aX ⟨rfl,rfl⟩)
   · rintro ⟨Kz,HV⟩ rfl
     try dsimp only at h
     refine az ?_
     obtain ⟨rfl,rfl⟩:=gw h
     exact aN _ _ _ bt (aI hcl (aT (aT bn (.int .i64 HV)) (.str Kz)) bp aX ⟨rfl,rfl⟩)
 · refine az ?_
   obtain ⟨o36,ML,h⟩:=ak h
   refine bF aq (A8 ML ?_)
   · rintro Q4 rfl
     try dsimp only at h
     refine az ?_
     obtain ⟨x34,IF,h⟩:=ak h
     refine aQ IF ?_
     obtain ⟨r35,MM,h⟩:=ak h
     refine aY aq (wN MM) ?_
     refine az ?_
     refine bL h (fun MN h=> ?_) fun MN h=> ?_
     · refine az ?_
       obtain ⟨rfl,rfl⟩:=gw h
       exact aN _ _ _ bt (aI hcl (aT (aT bn (.int .i64 (-1))) (.str ([]:List UInt8))) bp aX ⟨rfl,rfl⟩)
     · refine aQ IF ?_
       obtain ⟨rfl,rfl⟩:=gw h
       exact aN _ _ _ bt (aI hcl (aT (aT bn (.int .i64 Q4)) (.str x34)) bp aX ⟨rfl,rfl⟩)
abbrev vj:av:=(.rg [(au 11 0),(aj 12 (.bin .eql (.t 11) (.c (.str [])))),(au 13 12),(ax 14 (.mv (.t 0)) 13 false),(ax 15 (.ixs (.t 14) (.c (.int .i64 0))) 13 false),(ax 16 (.bin .neq (.t 15) (.c (b8 60))) 13 false),(aj 17 (.pick (.t 13) (.c (.bool true)) (.t 16)))])
abbrev vk:av:=(.rg [(au 19 0),(aj 20 (.lens (.t 19))),(aj 21 (.bin .gtr (.t 20) (.c (.int .i64 1)))),(au 22 21),(ax 23 (.mv (.t 0)) 22 true),(ax 24 (.ixs (.t 23) (.c (.int .i64 1))) 22 true),(ax 25 (.bin .eql (.t 24) (.c (b8 62))) 22 true),(aj 26 (.pick (.t 22) (.t 25) (.c (.bool false))))])
abbrev vl:av:=(.rg [(au 45 8),(aj 46 (.bin .lss (.t 45) (.c (.int .i64 0)))),(au 47 46),(ax 48 (.mv (.t 8)) 47 false),(ax 49 (.mv (.t 6)) 47 false),(ax 50 (.lens (.t 49)) 47 false),(ax 51 (.bin .geq (.t 48) (.t 50)) 47 false),(aj 52 (.pick (.t 47) (.c (.bool true)) (.t 51))),(au 53 52),(ax 54 (.mv (.t 6)) 53 false),(ax 55 (.mv (.t 8)) 53 false),(ax 56 (.ixs (.t 54) (.t 55)) 53 false),(ax 57 (.bin .neq (.t 56) (.c (b8 64))) 53 false),(aj 58 (.pick (.t 53) (.c (.bool true)) (.t 57)))])
abbrev vm:av:=(.rg [(au 66 6),(au 67 9),(aj 68 (.mh (.t 66) none (some (.t 67)))),(aj 69 (.call (.c (.fn 107 [])) [(.t 68)])),(aj 70 (.un .not (.t 69))),(au 71 70),(ax 72 (.mv (.t 9)) 71 false),(ax 73 (.mv (.t 6)) 71 false),(ax 74 (.lens (.t 73)) 71 false),(ax 75 (.bin .geq (.t 72) (.t 74)) 71 false),(aj 76 (.pick (.t 71) (.c (.bool true)) (.t 75))),(au 77 76),(ax 78 (.mv (.t 6)) 77 false),(ax 79 (.mv (.t 9)) 77 false),(ax 80 (.ixs (.t 78) (.t 79)) 77 false),(ax 81 (.bin .neq (.t 80) (.c (b8 62))) 77 false),(aj 82 (.pick (.t 77) (.c (.bool true)) (.t 81)))])
abbrev vn:av:=(.rg [(aj 93 (.Bh (.t 10) (some 2))),(au 94 6),(au 95 9),(aj 96 (.bin .add (.t 95) (.c (.int .i64 1)))),(aj 97 (.mh (.t 94) (some (.t 96)) none)),(gu (.st (.t 2) (.t 93) 2)),(aP 3 97),(aj 4 (.aO (.c (.int .i64 0))))])
abbrev Ih:av:=(.seq (.rg [(aj 2 (.alloc [(.str []),(.str [])])),(aj 3 (.aO (.c (.str [])))),(aj 4 (.aO (.c (.int .i64 0))))]) (.seq (.seq (.sem (erase vj)) (.cond (.t 17) (.seq (.rg [(aj 18 (.build [(.str []),(.str [])] [])),(gu (.st (.t 2) (.t 18) 2)),(aj 3 (.aO (.c (.str [])))),(aj 4 (.aO (.c (.int .i64 3))))]) .ret) .skip)) (.seq (.seq (.sem (erase vk)) (.cond (.t 26) (.seq (.rg [(aj 27 (.build [(.str []),(.str [])] [])),(au 28 0),(aj 29 (.mh (.t 28) (some (.c (.int .i64 2))) none)),(gu (.st (.t 2) (.t 27) 2)),(aP 3 29),(aj 4 (.aO (.c (.int .i64 0))))]) .ret) .skip)) (.seq (.rg [(au 30 0),(aj 31 (.mh (.t 30) (some (.c (.int .i64 1))) none)),(aj 32 (.call (.c (.fn 104 [])) [(.t 31)])),(aP 5 32)]) (.seq (.seq (.rg [(au 33 5),(aj 34 (.bin .lss (.t 33) (.c (.int .i64 0))))]) (.cond (.t 34) (.seq (.rg [(aj 35 (.build [(.str []),(.str [])] [])),(gu (.st (.t 2) (.t 35) 2)),(aj 3 (.aO (.c (.str [])))),(aj 4 (.aO (.c (.int .i64 3))))]) .ret) .skip)) (.seq (.rg [(au 36 0),(au 37 5),(aj 38 (.bin .add (.c (.int .i64 1)) (.t 37))),(aj 39 (.mh (.t 36) (some (.t 38)) none)),(aP 6 39)]) (.seq (.rg [(au 41 6),(aj 42 (.call (.c (.fn 105 [])) [(.t 41)])),(au 40 42),(aj 43 (.ext (.t 40) 0)),(aj 44 (.ext (.t 40) 1)),(aP 7 43),(aP 8 44)]) (.seq (.seq (.sem (erase vl)) (.cond (.t 58) (.seq (.rg [(aj 59 (.build [(.str []),(.str [])] [])),(gu (.st (.t 2) (.t 59) 2)),(aj 3 (.aO (.c (.str [])))),(aj 4 (.aO (.c (.int .i64 3))))]) .ret) .skip)) (.seq (.rg [(au 60 6),(au 61 8),(aj 62 (.bin .add (.t 61) (.c (.int .i64 1)))),(aj 63 (.mh (.t 60) (some (.t 62)) none)),(aP 6 63)]) (.seq (.rg [(au 64 6),(aj 65 (.call (.c (.fn 106 [])) [(.t 64)])),(aP 9 65)]) (.seq (.seq (.sem (erase vm)) (.cond (.t 82) (.seq (.rg [(aj 83 (.build [(.str []),(.str [])] [])),(gu (.st (.t 2) (.t 83) 2)),(aj 3 (.aO (.c (.str [])))),(aj 4 (.aO (.c (.int .i64 3))))]) .ret) .skip)) (.seq (.rg [(au 84 7),(au 85 6),(au 86 9),(aj 87 (.mh (.t 85) none (some (.t 86)))),(aj 88 (.build [(.str []),(.str [])] [(0,(1,(.t 84))),(1,(1,(.t 87)))])),(aj 10 (.alloc [(.str []),(.str [])])),(gu (.st (.t 10) (.t 88) 2))]) (.seq (.seq (.rg [(aj 89 (.ld (.t 10) (some 2))),(aj 90 (.call (.c (.fn 49 [])) [(.t 89)])),(aj 91 (.un .not (.t 90)))]) (.cond (.t 91) (.seq (.rg [(aj 92 (.build [(.str []),(.str [])] [])),(gu (.st (.t 2) (.t 92) 2)),(aj 3 (.aO (.c (.str [])))),(aj 4 (.aO (.c (.int .i64 5))))]) .ret) .skip)) (.seq (.sem (erase vn)) .ret))))))))))))))
theorem Ii:bw Tryz.prog 69 98 [(.cell 2 28),(.tmp 3),(.tmp 4)] (erase Ih):=⟨Tryz.f69,_,rfl,by decide,rfl,by kernel_rfl,rfl,rfl⟩
abbrev jx:List Nat:=[0,2,3,4,5,6,7,8,9,10,17,26,34,58,82,91]
def jX (s1:List UInt8):Option (Bool):=
 (if (decide (s1=([]:List UInt8))) then
  some true
 else
  (idx s1 0).bind fun x3=>some (!decide (x3=60)))
def jY (s1:List UInt8):Option (Bool):=
 (if (decide (1<(s1.length:Int))) then
  (idx s1 1).bind fun x7=>some (decide (x7=62))
 else
  some false)
def jZ (B7:Int) (jG:List UInt8):Option (Bool):=
 (if (decide (B7<0)) then
  some true
 else
  (if (decide ((jG.length:Int)≤B7)) then
   some true
  else
   (idx jG B7).bind fun kU=>some (!decide (kU=64))))
def j0 (F:Nat) (lT:List UInt8) (uR:Int):Option (Bool):=
 (sub lT 0 uR).bind fun F3=>
 (kE F F3).bind fun Kz=>
 (if (!Kz) then
  some true
 else
  (if (decide ((lT.length:Int)≤uR)) then
   some true
  else
   (idx lT uR).bind fun MG=>some (!decide (MG=62))))
def ni (lT:List UInt8) (uR:Int) (gM:List UInt8) (DJ:List UInt8):Option ((List UInt8)×Int×ay):=
 (sub lT (IntKind.wrap .i64 (uR+1)) (lT.length:Int)).bind fun x31=>some (x31,0,(ay.mk gM DJ))
def oF (F:Nat) (s1:List UInt8):Option (ay×(List UInt8)×Int):=
 (jX s1).bind fun t5=>
 (if t5 then
  some ((ay.mk ([]:List UInt8) ([]:List UInt8)),([]:List UInt8),3)
 else
  (jY s1).bind fun t9=>
  (if t9 then
   (sub s1 2 (s1.length:Int)).bind fun iY=>
   some ((ay.mk ([]:List UInt8) ([]:List UInt8)),iY,0)
  else
   (sub s1 1 (s1.length:Int)).bind fun fj=>
   (kF F fj).bind fun gv=>
   (if (decide (gv<0)) then
    some ((ay.mk ([]:List UInt8) ([]:List UInt8)),([]:List UInt8),3)
   else
    (sub s1 (IntKind.wrap .i64 (1+gv)) (s1.length:Int)).bind fun jG=>
    (kG F jG).bind fun (gM,B7)=>
    (jZ B7 jG).bind fun t19=>
    (if t19 then
     some ((ay.mk ([]:List UInt8) ([]:List UInt8)),([]:List UInt8),3)
    else
     (sub jG (IntKind.wrap .i64 (B7+1)) (jG.length:Int)).bind fun lT=>
     (jv F lT).bind fun uR=>
     (j0 F lT uR).bind fun t27=>
     (if t27 then
      some ((ay.mk ([]:List UInt8) ([]:List UInt8)),([]:List UInt8),3)
     else
      (sub lT 0 uR).bind fun DJ=>
      (mZ F (ay.mk gM DJ)).bind fun XZ=>
      (if (!XZ) then
       some ((ay.mk ([]:List UInt8) ([]:List UInt8)),([]:List UInt8),5)
      else
       (ni lT uR gM DJ).bind fun (t35,t36,T5)=>
       some (T5,t35,t36)))))))
theorem Co {s1:List UInt8} {q2:Nat} {H0 H:AH} (hfr:Fr H0 H0.length [] H) (ai:H[q2]? =some [(.str ([]:List UInt8)),(.str ([]:List UInt8))]) (hi0:H0.length≤q2) {K:Exit→Env→AH→Prop} {t4:Bool}
 (h:jX s1=some t4)
 (kn:∀H':AH,Fr H0 H0.length [] H'→H'[q2]? =some [(.str ([]:List UInt8)),(.str ([]:List UInt8))]→K .normal [(0,(.str s1)),(2,(.ptr q2 0)),(17,(.bool t4))] H'):
 AX Tryz.prog jx 98 H0.length (erase vj) K [(0,(.str s1)),(2,(.ptr q2 0))] H:=by
 refine cB fun K' hK=> ?_
 have hle:=hfr.le
 have aW:=aV ai
 rw [jX.eq_1] at h
 refine aG ai ?_
 refine bZ h (fun hy1 h=> ?_) fun hy1 h=> ?_
 · refine aG (aH hy1 ai) ?_
   obtain rfl:=aB h
   exact hK _ _ _ _ _ aK aq (kn _ hfr (ai.trans rfl))
 · obtain ⟨x3,aS,h⟩:=ak h
   refine aG (aH hy1 (aH aS ai)) ?_
   obtain rfl:=aB h
   exact hK _ _ _ _ _ aK aq (kn _ hfr (ai.trans rfl))
theorem Cp {s1:List UInt8} {q6:Nat} {H0 H:AH} (hfr:Fr H0 H0.length [] H) (ai:H[q6]? =some [(.str ([]:List UInt8)),(.str ([]:List UInt8))]) (hi0:H0.length≤q6) {K:Exit→Env→AH→Prop} {t8:Bool}
 (h:jY s1=some t8)
 (kn:∀H':AH,Fr H0 H0.length [] H'→H'[q6]? =some [(.str ([]:List UInt8)),(.str ([]:List UInt8))]→K .normal [(0,(.str s1)),(2,(.ptr q6 0)),(26,(.bool t8))] H'):
 AX Tryz.prog jx 98 H0.length (erase vk) K [(0,(.str s1)),(2,(.ptr q6 0))] H:=by
 refine cB fun K' hK=> ?_
 have hle:=hfr.le
 have aW:=aV ai
 rw [jY.eq_1] at h
 refine aG ai ?_
 refine bZ h (fun bC h=> ?_) fun bC h=> ?_
 · obtain ⟨x7,bW,h⟩:=ak h
   refine aG (aH bC (aH bW ai)) ?_
   obtain rfl:=aB h
   exact hK _ _ _ _ _ aK aq (kn _ hfr (ai.trans rfl))
 · refine aG (aH bC ai) ?_
   obtain rfl:=aB h
   exact hK _ _ _ _ _ aK aq (kn _ hfr (ai.trans rfl))
theorem Cq {B7:Int} {jG:List UInt8} {T6:Nat} {gM:List UInt8} {H0 H:AH} (hfr:Fr H0 H0.length [] H) (ai:H[T6]? =some [(.str ([]:List UInt8)),(.str ([]:List UInt8))]) (hi0:H0.length≤T6) {K:Exit→Env→AH→Prop} {t18:Bool}
 (h:jZ B7 jG=some t18)
 (kn:∀H':AH,Fr H0 H0.length [] H'→H'[T6]? =some [(.str ([]:List UInt8)),(.str ([]:List UInt8))]→K .normal [(2,(.ptr T6 0)),(6,(.str jG)),(7,(.str gM)),(8,(.int .i64 B7)),(58,(.bool t18))] H'):
 AX Tryz.prog jx 98 H0.length (erase vl) K [(2,(.ptr T6 0)),(6,(.str jG)),(7,(.str gM)),(8,(.int .i64 B7))] H:=by
 refine cB fun K' hK=> ?_
 have hle:=hfr.le
 have aW:=aV ai
 rw [jZ.eq_1] at h
 refine aG ai ?_
 refine bZ h (fun gh h=> ?_) fun gh h=> ?_
 · refine aG (aH gh ai) ?_
   obtain rfl:=aB h
   exact hK _ _ _ _ _ aK aq (kn _ hfr (ai.trans rfl))
 · refine aG (aH gh ai) ?_
   refine bZ h (fun gx h=> ?_) fun gx h=> ?_
   · refine aG (aH gx ai) ?_
     obtain rfl:=aB h
     exact hK _ _ _ _ _ aK aq (kn _ hfr (ai.trans rfl))
   · obtain ⟨kU,lu,h⟩:=ak h
     refine aG (aH gx (aH lu ai)) ?_
     obtain rfl:=aB h
     exact hK _ _ _ _ _ aK aq (kn _ hfr (ai.trans rfl))
theorem Cr {F:Nat} {lT:List UInt8} {uR:Int} {Gb:Nat} {gM:List UInt8} {H0 H:AH} (hfr:Fr H0 H0.length [] H) (ai:H[Gb]? =some [(.str ([]:List UInt8)),(.str ([]:List UInt8))]) (hi0:H0.length≤Gb) {K:Exit→Env→AH→Prop} {t26:Bool}
 (h:j0 F lT uR=some t26)
 (kn:∀H':AH,Fr H0 H0.length [] H'→H'[Gb]? =some [(.str ([]:List UInt8)),(.str ([]:List UInt8))]→K .normal [(2,(.ptr Gb 0)),(6,(.str lT)),(7,(.str gM)),(9,(.int .i64 uR)),(82,(.bool t26))] H'):
 AX Tryz.prog jx 98 H0.length (erase vm) K [(2,(.ptr Gb 0)),(6,(.str lT)),(7,(.str gM)),(9,(.int .i64 uR))] H:=by
 refine cB fun K' hK=> ?_
 have hle:=hfr.le
 have aW:=aV ai
 rw [j0.eq_1] at h
 obtain ⟨F3,lA,h⟩:=ak h
 refine aG (aH lA ai) ?_
 obtain ⟨Kz,mI,h⟩:=ak h
 refine aY aq (wS mI) ?_
 refine aG ai ?_
 refine bZ h (fun iD h=> ?_) fun iD h=> ?_
 · refine aG (aH iD ai) ?_
   obtain rfl:=aB h
   exact hK _ _ _ _ _ aK aq (kn _ hfr (ai.trans rfl))
 · refine aG (aH iD ai) ?_
   refine bZ h (fun jR h=> ?_) fun jR h=> ?_
   · refine aG (aH jR ai) ?_
     obtain rfl:=aB h
     exact hK _ _ _ _ _ aK aq (kn _ hfr (ai.trans rfl))
   · obtain ⟨MG,ow,h⟩:=ak h
     refine aG (aH jR (aH ow ai)) ?_
     obtain rfl:=aB h
     exact hK _ _ _ _ _ aK aq (kn _ hfr (ai.trans rfl))
theorem Cs {lT:List UInt8} {uR:Int} {gM:List UInt8} {DJ:List UInt8} {T7:Nat} {H0 H:AH} (hfr:Fr H0 H0.length [] H) (ai:H[T7]? =some [(.str ([]:List UInt8)),(.str ([]:List UInt8))]) (hi0:H0.length≤T7) {K:Exit→Env→AH→Prop} {t32:List UInt8} {t33:Int} {s34:ay}
 (h:ni lT uR gM DJ=some (t32,t33,s34))
 (kn:∀H':AH,Fr H0 H0.length [] H'→H'[T7]? =some [(.str s34.aC),(.str s34.domain)]→K .normal [(2,(.ptr T7 0)),(3,(.str t32)),(4,(.int .i64 t33))] H'):
 AX Tryz.prog jx 98 H0.length (erase vn) K [(2,(.ptr T7 0)),(6,(.str lT)),(9,(.int .i64 uR)),(10,(.ep (.agg [(.str gM),(.str DJ)]) 0))] H:=by
 refine cB fun K' hK=> ?_
 have hle:=hfr.le
 have aW:=aV ai
 rw [ni.eq_1] at h
 obtain ⟨x31,MN,h⟩:=ak h
 refine aG (aH MN ai) ?_
 obtain ⟨rfl,rfl,rfl⟩:=rZ h
 exact hK _ _ _ _ _ aK aq (kn _ (cE _ hfr) dK)
theorem G0 {F:Nat} {s1:List UInt8} {H0:AH} {aJ:ay} {eS:List UInt8} {FQ:Int} (h:oF F s1=some (aJ,eS,FQ)):
 aA Tryz.prog 69 [(.str s1)] H0 fun v H'=>v=(.bz [(.agg [(.str aJ.aC),(.str aJ.domain)]),(.str eS),(.int .i64 FQ)])∧H'=H0:=by
 refine mD Ii jx [] fun hcl K0 aN H hH hfr=> ?_
 clear hH
 have hle:=hfr.le
 rw [oF.eq_1] at h
 refine cm ?_
 obtain ⟨q2,nX⟩:∃q:Nat,H.length=q:=⟨_,rfl⟩
 try rw [nX]
 obtain ⟨t5,aZ,h⟩:=ak h
 refine bF aq (Co (q2:=q2) (Fr.app hfr) xH dG aZ ?_)
 intro H hfr ai
 have hle:=hfr.le
 have aW:=aV ai
 refine aG ai ?_
 refine bL h (fun br h=> ?_) fun br h=> ?_
 · refine aG ai ?_
   obtain ⟨rfl,rfl,rfl⟩:=rZ h
   exact aN _ _ _ bt (bE (cE _ hfr) hcl (ei (cs:=[(.str ([]:List UInt8)),(.str ([]:List UInt8))]) (v:=(.agg [(.str ([]:List UInt8)),(.str ([]:List UInt8))])) (by kernel_rfl) (n:=(some 2)) (by kernel_rfl) rfl dK (by simp [fN,fM,jI,bP,AV.flat,iJ,jJ,AV.bN,Tg.sh]) (aT (aT bn (.int .i64 3)) (.str ([]:List UInt8)))) bp aX ⟨rfl,rfl⟩)
 · refine aG ai ?_
   obtain ⟨t9,cO,h⟩:=ak h
   refine bF aq (Cp (q6:=q2) hfr (ai.trans rfl) dG cO ?_)
   intro H hfr ai
   have hle:=hfr.le
   have aW:=aV ai
   refine aG ai ?_
   refine bL h (fun cD h=> ?_) fun cD h=> ?_
   · obtain ⟨iY,dA,h⟩:=ak h
     refine aG (aH dA ai) ?_
     obtain ⟨rfl,rfl,rfl⟩:=rZ h
     exact aN _ _ _ bt (bE (cE _ hfr) hcl (ei (cs:=[(.str ([]:List UInt8)),(.str ([]:List UInt8))]) (v:=(.agg [(.str ([]:List UInt8)),(.str ([]:List UInt8))])) (by kernel_rfl) (n:=(some 2)) (by kernel_rfl) rfl dK (by simp [fN,fM,jI,bP,AV.flat,iJ,jJ,AV.bN,Tg.sh]) (aT (aT bn (.int .i64 0)) (.str iY))) bp aX ⟨rfl,rfl⟩)
   · obtain ⟨fj,cJ,h⟩:=ak h
     refine aG (aH cJ ai) ?_
     obtain ⟨gv,cG,h⟩:=ak h
     refine aY aq (EU cG) ?_
     refine aG ai ?_
     refine bL h (fun cS h=> ?_) fun cS h=> ?_
     · refine aG ai ?_
       obtain ⟨rfl,rfl,rfl⟩:=rZ h
       exact aN _ _ _ bt (bE (cE _ hfr) hcl (ei (cs:=[(.str ([]:List UInt8)),(.str ([]:List UInt8))]) (v:=(.agg [(.str ([]:List UInt8)),(.str ([]:List UInt8))])) (by kernel_rfl) (n:=(some 2)) (by kernel_rfl) rfl dK (by simp [fN,fM,jI,bP,AV.flat,iJ,jJ,AV.bN,Tg.sh]) (aT (aT bn (.int .i64 3)) (.str ([]:List UInt8)))) bp aX ⟨rfl,rfl⟩)
     · obtain ⟨jG,cW,h⟩:=ak h
       refine aG (aH cW ai) ?_
       obtain ⟨⟨gM,B7⟩,eT,h⟩:=ak h
       dsimp only at h
       refine aY aq (EV eT) ?_
       refine aG ai ?_
       obtain ⟨t19,jD,h⟩:=ak h
       refine bF aq (Cq (gM:=gM) (T6:=q2) hfr (ai.trans rfl) dG jD ?_)
       intro H hfr ai
       have hle:=hfr.le
       have aW:=aV ai
       refine aG ai ?_
       refine bL h (fun jQ h=> ?_) fun jQ h=> ?_
       · refine aG ai ?_
         obtain ⟨rfl,rfl,rfl⟩:=rZ h
         exact aN _ _ _ bt (bE (cE _ hfr) hcl (ei (cs:=[(.str ([]:List UInt8)),(.str ([]:List UInt8))]) (v:=(.agg [(.str ([]:List UInt8)),(.str ([]:List UInt8))])) (by kernel_rfl) (n:=(some 2)) (by kernel_rfl) rfl dK (by simp [fN,fM,jI,bP,AV.flat,iJ,jJ,AV.bN,Tg.sh]) (aT (aT bn (.int .i64 3)) (.str ([]:List UInt8)))) bp aX ⟨rfl,rfl⟩)
       · obtain ⟨lT,lz,h⟩:=ak h
         refine aG (aH lz ai) ?_
         obtain ⟨uR,ig,h⟩:=ak h
         refine aY aq (vi ig) ?_
         refine aG ai ?_
         obtain ⟨t27,uJ,h⟩:=ak h
         refine bF aq (Cr (gM:=gM) (Gb:=q2) hfr (ai.trans rfl) dG uJ ?_)
         intro H hfr ai
         have hle:=hfr.le
         have aW:=aV ai
         refine aG ai ?_
         refine bL h (fun xR h=> ?_) fun xR h=> ?_
         · refine aG ai ?_
           obtain ⟨rfl,rfl,rfl⟩:=rZ h
           exact aN _ _ _ bt (bE (cE _ hfr) hcl (ei (cs:=[(.str ([]:List UInt8)),(.str ([]:List UInt8))]) (v:=(.agg [(.str ([]:List UInt8)),(.str ([]:List UInt8))])) (by kernel_rfl) (n:=(some 2)) (by kernel_rfl) rfl dK (by simp [fN,fM,jI,bP,AV.flat,iJ,jJ,AV.bN,Tg.sh]) (aT (aT bn (.int .i64 3)) (.str ([]:List UInt8)))) bp aX ⟨rfl,rfl⟩)
         · obtain ⟨DJ,ML,h⟩:=ak h
           refine aG (aH ML ai) ?_
           obtain ⟨XZ,IF,h⟩:=ak h
           refine aY aq (EO IF) ?_
           refine aG ai ?_
           refine bL h (fun MM h=> ?_) fun MM h=> ?_
           · refine aG ai ?_
             obtain ⟨rfl,rfl,rfl⟩:=rZ h
             exact aN _ _ _ bt (bE (cE _ (cE _ (Fr.app hfr))) hcl (ei (cs:=[(.str ([]:List UInt8)),(.str ([]:List UInt8))]) (v:=(.agg [(.str ([]:List UInt8)),(.str ([]:List UInt8))])) (by kernel_rfl) (n:=(some 2)) (by kernel_rfl) rfl dK (by simp [fN,fM,jI,bP,AV.flat,iJ,jJ,AV.bN,Tg.sh]) (aT (aT bn (.int .i64 5)) (.str ([]:List UInt8)))) bp aX ⟨rfl,rfl⟩)
           · refine aG ai ?_
             refine J3 ?_
             apply AX.freeze (s:=H.length) (cs:=[(.str gM),(.str DJ)]) (by exact dK) (eV.same (eV.same (eV.nil))) (by simp)
             · repeat (first|exact FZ.nil|apply FZ.ep|apply FZ.same)
             refine PG ?_
             obtain ⟨⟨t35,t36,T5⟩,XF,h⟩:=ak h
             dsimp only at h
             refine bF aq (Cs (T7:=q2) (cE _ (cE _ (Fr.app hfr))) (iB (iB (Ee (ai.trans rfl)))) dG XF ?_)
             intro H hfr ai
             have hle:=hfr.le
             have aW:=aV ai
             refine aG ai ?_
             obtain ⟨rfl,rfl,rfl⟩:=rZ h
             exact aN _ _ _ bt (bE hfr hcl (ei (cs:=[(.str T5.aC),(.str T5.domain)]) (v:=(.agg [(.str T5.aC),(.str T5.domain)])) (by kernel_rfl) (n:=(some 2)) (by kernel_rfl) rfl (ai.trans rfl) (by simp [fN,fM,jI,bP,AV.flat,iJ,jJ,AV.bN,Tg.sh]) (aT (aT bn (.int .i64 t36)) (.str t35))) bp aX ⟨rfl,rfl⟩)
abbrev tu:av:=(.rg [(au 13 6),(aj 14 (.bin .eql (.t 13) (.c (.int .i64 0)))),(au 15 14),(ax 16 (.mv (.t 5)) 15 true),(ax 17 (.bin .neq (.t 16) (.c (.str []))) 15 true),(aj 18 (.pick (.t 15) (.t 17) (.c (.bool false))))])
abbrev G1:av:=(.seq (.rg [(aj 2 (.alloc [(.str []),(.str [])])),(aj 3 (.aO (.c (.int .i64 0))))]) (.seq (.rg [(au 8 0),(aj 9 (.call (.c (.fn 69 [])) [(.t 8)])),(au 7 9),(aj 10 (.ext (.t 7) 0)),(aj 11 (.ext (.t 7) 1)),(aj 12 (.ext (.t 7) 2)),(aj 4 (.alloc [(.str []),(.str [])])),(gu (.st (.t 4) (.t 10) 2)),(aP 5 11),(aP 6 12)]) (.seq (.seq (.sem (erase tu)) (.cond (.t 18) (.seq (.rg [(aj 19 (.build [(.str []),(.str [])] [])),(gu (.st (.t 2) (.t 19) 2)),(aj 3 (.aO (.c (.int .i64 3))))]) .ret) .skip)) (.seq (.rg [(aj 20 (.ld (.t 4) (some 2))),(au 21 6),(gu (.st (.t 2) (.t 20) 2)),(aP 3 21)]) .ret))))
theorem G3:bw Tryz.prog 30 22 [(.cell 2 28),(.tmp 3)] (erase G1):=⟨Tryz.f30,_,rfl,by decide,rfl,by kernel_rfl,rfl,rfl⟩
abbrev yo:List Nat:=[0,2,3,4,5,6,18]
def nj (F:Nat) (s1:List UInt8):Option (ay×Int):=
 (oF F s1).bind fun (r2,r3,r4)=>
 (if ((decide (r4=0))&&(!decide (r3=([]:List UInt8)))) then
  some ((ay.mk ([]:List UInt8) ([]:List UInt8)),3)
 else
  some (r2,r4))
theorem A9 {q5:Nat} {q6:Nat} {r3:List UInt8} {r4:Int} {r2:ay} {H0 H:AH} (hfr:Fr H0 H0.length [] H) (ai:H[q5]? =some [(.str ([]:List UInt8)),(.str ([]:List UInt8))]) (aL:H[q6]? =some [(.str r2.aC),(.str r2.domain)]) (hi0:H0.length≤q5) (hi1:H0.length≤q6) (hi2:q5≠q6) {K:Exit→Env→AH→Prop}
 (kn:∀H':AH,Fr H0 H0.length [] H'→H'[q5]? =some [(.str ([]:List UInt8)),(.str ([]:List UInt8))]→H'[q6]? =some [(.str r2.aC),(.str r2.domain)]→K .normal [(2,(.ptr q5 0)),(4,(.ptr q6 0)),(6,(.int .i64 r4)),(18,(.bool ((decide (r4=0))&&(!decide (r3=([]:List UInt8))))))] H'):
 AX Tryz.prog yo 22 H0.length (erase tu) K [(2,(.ptr q5 0)),(4,(.ptr q6 0)),(5,(.str r3)),(6,(.int .i64 r4))] H:=by
 refine cB fun K' hK=> ?_
 have hle:=hfr.le
 have aW:=aV ai
 have lW:=aV aL
 refine aG (aH ai aL) ?_
 refine om (fun aS=> ?_) fun aS=> ?_
 · refine aG (aH aS (aH ai aL)) ?_
   exact hK _ _ _ _ _ (fh aS) aq (kn _ hfr (ai.trans rfl) (aL.trans rfl))
 · refine aG (aH aS (aH ai aL)) ?_
   exact hK _ _ _ _ _ (fh aS) aq (kn _ hfr (ai.trans rfl) (aL.trans rfl))
theorem EW {F:Nat} {s1:List UInt8} {H0:AH} {aJ:ay} {eS:Int} (h:nj F s1=some (aJ,eS)):
 aA Tryz.prog 30 [(.str s1)] H0 fun v H'=>v=(.bz [(.agg [(.str aJ.aC),(.str aJ.domain)]),(.int .i64 eS)])∧H'=H0:=by
 refine mD G3 yo [] fun hcl K0 aN H hH hfr=> ?_
 clear hH
 have hle:=hfr.le
 rw [nj.eq_1] at h
 refine cm ?_
 obtain ⟨⟨r2,r3,r4⟩,hy1,h⟩:=ak h
 dsimp only at h
 refine aY aq (G0 hy1) ?_
 refine cm ?_
 obtain ⟨q6,Ah⟩:∃q:Nat,(H.length+1)=q:=⟨_,rfl⟩
 try rw [Ah]
 obtain ⟨q5,Gf⟩:∃q:Nat,H.length=q:=⟨_,rfl⟩
 try rw [Gf]
 try rw [show q5+1=q6 from by omega]
 refine bF aq (A9 (q5:=q5) (q6:=q6) (r3:=r3) (r4:=r4) (r2:=r2) (cE _ (Fr.app (Fr.app hfr))) (iB (Ee xH)) dK dG dG dG ?_)
 intro H hfr ai aL
 have hle:=hfr.le
 have aW:=aV ai
 have lW:=aV aL
 refine aG (aH ai aL) ?_
 refine bL h (fun aZ h=> ?_) fun aZ h=> ?_
 · refine aG (aH ai aL) ?_
   obtain ⟨rfl,rfl⟩:=gw h
   exact aN _ _ _ bt (bE (cE _ hfr) hcl (ei (cs:=[(.str ([]:List UInt8)),(.str ([]:List UInt8))]) (v:=(.agg [(.str ([]:List UInt8)),(.str ([]:List UInt8))])) (by kernel_rfl) (n:=(some 2)) (by kernel_rfl) rfl dK (by simp [fN,fM,jI,bP,AV.flat,iJ,jJ,AV.bN,Tg.sh]) (aT bn (.int .i64 3))) bp aX ⟨rfl,rfl⟩)
 · refine aG (aH ai aL) ?_
   obtain ⟨rfl,rfl⟩:=gw h
   exact aN _ _ _ bt (bE (cE _ hfr) hcl (ei (cs:=[(.str r2.aC),(.str r2.domain)]) (v:=(.agg [(.str r2.aC),(.str r2.domain)])) (by kernel_rfl) (n:=(some 2)) (by kernel_rfl) rfl dK (by simp [fN,fM,jI,bP,AV.flat,iJ,jJ,AV.bN,Tg.sh]) (aT bn (.int .i64 r4))) bp aX ⟨rfl,rfl⟩)
abbrev tw:av:=(.rg [(au 18 4),(au 19 7),(aj 20 (.mj 1 (.t 18) (.t 19))),(aj 21 (.ld (.t 20) none)),(aj 22 (.lens (.t 21))),(au 23 5),(aj 24 (.lens (.t 23))),(aj 25 (.bin .gtr (.t 22) (.t 24))),(au 26 25),(ax 27 (.mv (.t 4)) 26 true),(ax 28 (.mv (.t 7)) 26 true),(ax 29 (.mj 1 (.t 27) (.t 28)) 26 true),(ax 30 (.ld (.t 29) none) 26 true),(ax 31 (.mv (.t 5)) 26 true),(ax 32 (.lens (.t 31)) 26 true),(ax 33 (.mh (.t 30) none (some (.t 32))) 26 true),(ax 34 (.mv (.t 5)) 26 true),(ax 35 (.bin .eql (.t 33) (.t 34)) 26 true),(aj 36 (.pick (.t 26) (.t 35) (.c (.bool false))))])
abbrev rB:av:=(.seq (.seq (.rg [(au 12 7),(au 13 4),(aj 14 (.len (.t 13))),(aj 15 (.bin .lss (.t 12) (.t 14)))]) (.cond (.t 15) .skip (.exit 0))) (.seq (.blk 1 (.seq (.sem (erase tw)) (.cond (.t 36) (.seq (.rg [(au 38 4),(au 39 7),(aj 40 (.mj 1 (.t 38) (.t 39))),(aj 41 (.ld (.t 40) none)),(au 42 5),(aj 43 (.lens (.t 42))),(aj 44 (.mh (.t 41) (some (.t 43)) none)),(aj 45 (.call (.c (.fn 30 [])) [(.t 44)])),(au 37 45),(aj 46 (.ext (.t 37) 0)),(aj 47 (.ext (.t 37) 1)),(aj 8 (.alloc [(.str []),(.str [])])),(gu (.st (.t 8) (.t 46) 2)),(aP 9 47)]) (.seq (.rg [(au 48 9),(aj 49 (.bin .eql (.t 48) (.c (.int .i64 0))))]) (.cond (.t 49) (.rg [(au 50 6),(aj 51 (.ld (.t 8) (some 2))),(aj 52 (.gA 2 [(.t 51)])),(aj 53 (.app 2 32 (.t 50) (.t 52))),(aP 6 53)]) .skip))) .skip))) (.rg [(au 16 7),(aj 17 (.bin .add (.t 16) (.c (.int .i64 1)))),(aP 7 17)])))
abbrev G4:av:=(.seq (.rg [(aj 2 (.aO (.c (.sl .ex 2 [])))),(aj 3 (.aO (.c (.bool false))))]) (.seq (.rg [(au 10 0),(aj 11 (.call (.c (.fn 29 [])) [(.t 10)])),(aP 4 11)]) (.seq (.rg [(aj 5 (.aO (.c (.str [70,105,110,97,108,45,82,101,99,105,112,105,101,110,116,58,32,114,102,99,56,50,50,59,32]))))]) (.seq (.rg [(aj 6 (.aO (.c (.sl .ex 2 []))))]) (.seq (.seq (.rg [(aj 7 (.aO (.c (.int .i64 0))))]) (.blk 0 (.loop (erase rB)))) (.seq (.rg [(au 54 6),(au 55 6),(aj 56 (.len (.t 55))),(aj 57 (.bin .gtr (.t 56) (.c (.int .i64 0)))),(aP 2 54),(aP 3 57)]) .ret))))))
theorem G5:bw Tryz.prog 10 58 [(.tmp 2),(.tmp 3)] (erase G4):=⟨Tryz.f10,_,rfl,by decide,rfl,by kernel_rfl,rfl,rfl⟩
abbrev rC:List Nat:=[0,2,3,4,5,6,7,8,9,15,36,49]
def jq (r2:List (List UInt8)) (i4:Int):Option (Bool):=
 (idx r2 i4).bind fun x5=>
 (if (decide ((([70,105,110,97,108,45,82,101,99,105,112,105,101,110,116,58,32,114,102,99,56,50,50,59,32]:List UInt8).length:Int)<(x5.length:Int))) then
  (sub x5 0 (([70,105,110,97,108,45,82,101,99,105,112,105,101,110,116,58,32,114,102,99,56,50,50,59,32]:List UInt8).length:Int)).bind fun x6=>
  some (decide (x6=([70,105,110,97,108,45,82,101,99,105,112,105,101,110,116,58,32,114,102,99,56,50,50,59,32]:List UInt8)))
 else
  some false)
def gG (F:Nat) (r2:List (List UInt8)):((List ay)×Int)→Option (St ((List ay)×Bool) (List ay) ((List ay)×Int))
 |(dU,i4)=>
  (if (decide (i4<(r2.length:Int))) then
   (jq r2 i4).bind fun t8=>
   (if t8 then
    (idx r2 i4).bind fun x9=>
    (sub x9 (([70,105,110,97,108,45,82,101,99,105,112,105,101,110,116,58,32,114,102,99,56,50,50,59,32]:List UInt8).length:Int) (x9.length:Int)).bind fun iY=>
    (nj F iY).bind fun (e7,gv)=>
    (if (decide (gv=0)) then
     (cw 32 dU ([e7]:List ay)).bind fun jG=>some (.cv (jG,(IntKind.wrap .i64 (i4+1))))
    else
     some (.cv (dU,(IntKind.wrap .i64 (i4+1)))))
   else
    some (.cv (dU,(IntKind.wrap .i64 (i4+1)))))
  else
   some (.eC dU))
def nk (F:Nat) (b1:List UInt8):Option ((List ay)×Bool):=
 (mQ F b1).bind fun r2=>
 ((iter (gG F r2) F (([]:List ay),0)).bind fun MK=>
 match MK with
 | .inr G6=>
   some (G6,(decide (0<(G6.length:Int))))
 | .inl _=>none)
theorem Ba {r2:List (List UInt8)} {i4:Int} {dU:List ay} {H0 H:AH} (hfr:Fr H0 H0.length [] H) {K:Exit→Env→AH→Prop} {t7:Bool}
 (h:jq r2 i4=some t7)
 (kn:∀H':AH,Fr H0 H0.length [] H'→K .normal [(4,(.sl .own 1 (ml AV.str r2))),(5,(.str ([70,105,110,97,108,45,82,101,99,105,112,105,101,110,116,58,32,114,102,99,56,50,50,59,32]:List UInt8))),(6,(.sl .own 2 (ml bB dU))),(7,(.int .i64 i4)),(36,(.bool t7))] H'):
 AX Tryz.prog rC 58 H0.length (erase tw) K [(4,(.sl .own 1 (ml AV.str r2))),(5,(.str ([70,105,110,97,108,45,82,101,99,105,112,105,101,110,116,58,32,114,102,99,56,50,50,59,32]:List UInt8))),(6,(.sl .own 2 (ml bB dU))),(7,(.int .i64 i4))] H:=by
 refine cB fun K' hK=> ?_
 have hle:=hfr.le
 rw [jq.eq_1] at h
 simp only [List.length_cons,List.length_nil,nD] at h
 obtain ⟨x5,aZ,h⟩:=ak h
 refine aG aZ ?_
 refine bZ h (fun br h=> ?_) fun br h=> ?_
 · obtain ⟨x6,bC,h⟩:=ak h
   refine aG (aH br (aH aZ bC)) ?_
   obtain rfl:=aB h
   exact hK _ _ _ _ _ aK aq (kn _ hfr)
 · refine aG br ?_
   obtain rfl:=aB h
   exact hK _ _ _ _ _ aK aq (kn _ hfr)
theorem Bb {F:Nat} {i4:Int} {r2:List (List UInt8)} {dU:List ay} {H0 H:AH} (hfr:Fr H0 H0.length [] H) {K:Exit→Env→AH→Prop} {o:((List ay)×Bool)⊕((List ay))}
 (h:iter (gG F r2) F (dU,i4)=some o)
 (dw:∀o':(List ay),o= .inr o'→∀H':AH,Fr H0 H0.length [] H'→K (.exit 0) [(6,(.sl .own 2 (ml bB o')))] H'):
 AX Tryz.prog rC 58 H0.length (.loop (erase rB)) K [(4,(.sl .own 1 (ml AV.str r2))),(5,(.str ([70,105,110,97,108,45,82,101,99,105,112,105,101,110,116,58,32,114,102,99,56,50,50,59,32]:List UInt8))),(6,(.sl .own 2 (ml bB dU))),(7,(.int .i64 i4))] H:=by
 refine gY (fun s e H1=>match s with|(dU,i4)=>e=[(4,(.sl .own 1 (ml AV.str r2))),(5,(.str ([70,105,110,97,108,45,82,101,99,105,112,105,101,110,116,58,32,114,102,99,56,50,50,59,32]:List UInt8))),(6,(.sl .own 2 (ml bB dU))),(7,(.int .i64 i4))]∧Fr H0 H0.length [] H1) h ⟨rfl,hfr⟩ ?_
 rintro K' ⟨dU,i4⟩ st e H ⟨rfl,hfr⟩ h hN hB hR hX
 have hle:=hfr.le
 rw [gG.eq_1] at h
 simp only [List.length_cons,List.length_nil,nD] at h
 refine cm ?_
 refine bL h (fun aS h=> ?_) fun aS h=> ?_
 · refine cm ?_
   obtain ⟨t8,bW,h⟩:=ak h
   refine bF aq (Ba (dU:=dU) hfr bW ?_)
   intro H hfr
   have hle:=hfr.le
   refine cm ?_
   refine bL h (fun cO h=> ?_) fun cO h=> ?_
   · obtain ⟨x9,cD,h⟩:=ak h
     obtain ⟨iY,dA,h⟩:=ak h
     refine aG (aH cD dA) ?_
     obtain ⟨⟨e7,gv⟩,cJ,h⟩:=ak h
     dsimp only at h
     refine aY aq (EW cJ) ?_
     refine cm ?_
     refine bL h (fun cG h=> ?_) fun cG h=> ?_
     · obtain ⟨jG,cS,h⟩:=ak h
       have cW:cw 32 (ml bB dU) [(.agg [(.str e7.aC),(.str e7.domain)])]=some (ml bB jG):=eH (f:=bB) cS
       refine aG cW ?_
       obtain rfl:=aB h
       exact hN _ rfl _ _ _ _ aK aq ⟨rfl,(cE _ (Fr.app hfr))⟩
     · refine cm ?_
       obtain rfl:=aB h
       exact hN _ rfl _ _ _ _ aK aq ⟨rfl,(cE _ (Fr.app hfr))⟩
   · refine cm ?_
     obtain rfl:=aB h
     exact hN _ rfl _ _ _ _ aK aq ⟨rfl,hfr⟩
 · refine cm ?_
   obtain rfl:=aB h
   exact hX _ _ _ _ _ dI aK aq (dw _ (hB _ rfl) _ hfr)
theorem EX {F:Nat} {b1:List UInt8} {H0:AH} {aJ:List ay} {eS:Bool} (h:nk F b1=some (aJ,eS)):
 aA Tryz.prog 10 [(.sl .n 1 (ml b8 b1))] H0 fun v H'=>v=(.bz [(.sl .n 2 (ml bB aJ)),(.bool eS)])∧H'=H0:=by
 refine mD G5 rC [] fun hcl K0 aN H hH hfr=> ?_
 clear hH
 have hle:=hfr.le
 rw [nk.eq_1] at h
 refine cm ?_
 obtain ⟨r2,hy1,h⟩:=ak h
 refine aY aq (EE hy1) ?_
 refine cm ?_
 obtain ⟨MK,eT,h⟩:=ak h
 refine bF aq (Bb hfr eT ?_)
 · rintro G6 rfl H hfr
   try dsimp only at h
   have hle:=hfr.le
   refine cm ?_
   obtain ⟨rfl,rfl⟩:=gw h
   exact aN _ _ _ bt (bE hfr hcl (aT (aT bn (.bool (decide (0<(G6.length:Int))))) (.sl .n 2 (ml bB G6))) bp aX ⟨rfl,rfl⟩)
abbrev mg:av:=(.rg [(au 23 4),(au 24 6),(aj 25 (.bq true (.t 23) (.t 24))),(au 26 25),(ax 27 (.mv (.t 3)) 26 false),(ax 28 (.len (.t 27)) 26 false),(ax 29 (.mv (.t 5)) 26 false),(ax 30 (.len (.t 29)) 26 false),(ax 31 (.bin .neq (.t 28) (.t 30)) 26 false),(aj 32 (.pick (.t 26) (.c (.bool true)) (.t 31)))])
abbrev lJ:av:=(.seq (.seq (.rg [(au 33 7),(au 34 3),(aj 35 (.len (.t 34))),(aj 36 (.bin .lss (.t 33) (.t 35)))]) (.cond (.t 36) .skip (.exit 0))) (.seq (.blk 1 (.seq (.rg [(au 39 3),(au 40 7),(aj 41 (.mj 2 (.t 39) (.t 40))),(aj 42 (.ld (.t 41) (some 2))),(au 43 5),(au 44 7),(aj 45 (.mj 2 (.t 43) (.t 44))),(aj 46 (.ld (.t 45) (some 2))),(aj 47 (.seq [.s, .s] true (.t 42) (.t 46)))]) (.cond (.t 47) (.seq (.rg [(aj 2 (.aO (.c (.bool false))))]) .ret) .skip))) (.rg [(au 37 7),(aj 38 (.bin .add (.t 37) (.c (.int .i64 1)))),(aP 7 38)])))
abbrev yp:av:=(.seq (.rg [(aj 2 (.aO (.c (.bool false))))]) (.seq (.seq (.rg [(aj 8 (.call (.c (.fn 8 [])) [])),(aj 9 (.un .not (.t 8)))]) (.cond (.t 9) (.seq (.rg [(aj 2 (.aO (.c (.bool false))))]) .ret) .skip)) (.seq (.seq (.rg [(au 10 0),(aj 11 (.len (.t 10))),(aj 12 (.bin .gtr (.t 11) (.c (.int .i64 4096))))]) (.cond (.t 12) (.seq (.rg [(aj 2 (.aO (.c (.bool true))))]) .ret) .skip)) (.seq (.rg [(au 14 0),(aj 15 (.call (.c (.fn 9 [])) [(.t 14)])),(au 13 15),(aj 16 (.ext (.t 13) 0)),(aj 17 (.ext (.t 13) 1)),(aP 3 16),(aP 4 17)]) (.seq (.rg [(au 19 0),(aj 20 (.call (.c (.fn 10 [])) [(.t 19)])),(au 18 20),(aj 21 (.ext (.t 18) 0)),(aj 22 (.ext (.t 18) 1)),(aP 5 21),(aP 6 22)]) (.seq (.seq (.sem (erase mg)) (.cond (.t 32) (.seq (.rg [(aj 2 (.aO (.c (.bool false))))]) .ret) .skip)) (.seq (.seq (.rg [(aj 7 (.aO (.c (.int .i64 0))))]) (.blk 0 (.loop (erase lJ)))) (.seq (.rg [(aj 2 (.aO (.c (.bool true))))]) .ret))))))))
theorem yq:bw Tryz.prog 3 48 [(.tmp 2)] (erase yp):=⟨Tryz.f3,_,rfl,by decide,rfl,by kernel_rfl,rfl,rfl⟩
abbrev j3:List Nat:=[0,2,3,4,5,6,7,9,12,32,36,47]
def dQ (r3:List ay) (r5:List ay):Int→Option (St Bool Unit Int)
 |i7=>
  (if (decide (i7<(r3.length:Int))) then
   (idx r3 i7).bind fun x8=>
   (idx r5 i7).bind fun x9=>
   (if (!(decide (x8.aC=x9.aC)&&decide (x8.domain=x9.domain))) then
    some (.ret false)
   else
    some (.cv (IntKind.wrap .i64 (i7+1))))
  else
   some (.eC ()))
def gl (F:Nat) (b1:List UInt8):Option (Bool):=
 (mN F).bind fun r2=>
 (if (!r2) then
  some false
 else
  (if (decide (4096<(b1.length:Int))) then
   some true
  else
   (jt F b1).bind fun (r3,r4)=>
   (nk F b1).bind fun (r5,r6)=>
   (if ((!(r4==r6))||(!decide ((r3.length:Int)=(r5.length:Int)))) then
    some false
   else
    ((iter (dQ r3 r5) F 0).bind fun o12=>
    match o12 with
    | .inr ()=>
      some true
    | .inl e7=>
      some e7))))
theorem uj {r3:List ay} {r4:Bool} {r5:List ay} {r6:Bool} {H:AH} {K:Exit→Env→AH→Prop}
 (kn:K .normal [(3,(.sl .n 2 (ml bB r3))),(5,(.sl .n 2 (ml bB r5))),(32,(.bool ((!(r4==r6))||(!decide ((r3.length:Int)=(r5.length:Int))))))] H):
 AX Tryz.prog j3 48 H.length (erase mg) K [(3,(.sl .n 2 (ml bB r3))),(4,(.bool r4)),(5,(.sl .n 2 (ml bB r5))),(6,(.bool r6))] H:=by
 refine cB fun K' hK=> ?_
 refine az ?_
 refine om (fun bW=> ?_) fun bW=> ?_
 · refine aQ bW ?_
   exact hK _ _ _ _ _ (fh bW) aq kn
 · refine aQ bW ?_
   exact hK _ _ _ _ _ (fh bW) aq kn
theorem uk {F:Nat} {i7:Int} {r3:List ay} {r5:List ay} {H:AH} {K:Exit→Env→AH→Prop} {o:(Bool)⊕(Unit)}
 (h:iter (dQ r3 r5) F i7=some o)
 (dw:∀o':Unit,o= .inr o'→K (.exit 0) [] H)
 (kr:∀o':Bool,o= .inl o'→K .ret [(2,(.bool o'))] H):
 AX Tryz.prog j3 48 H.length (.loop (erase lJ)) K [(3,(.sl .n 2 (ml bB r3))),(5,(.sl .n 2 (ml bB r5))),(7,(.int .i64 i7))] H:=by
 refine gY (fun s e H1=>match s with|i7=>e=[(3,(.sl .n 2 (ml bB r3))),(5,(.sl .n 2 (ml bB r5))),(7,(.int .i64 i7))]∧H1=H) h ⟨rfl,rfl⟩ ?_
 rintro K' i7 st e H ⟨rfl,rfl⟩ h hN hB hR hX
 rw [dQ.eq_1] at h
 refine az ?_
 refine bL h (fun cD h=> ?_) fun cD h=> ?_
 · obtain ⟨x8,dA,h⟩:=ak h
   obtain ⟨x9,cJ,h⟩:=ak h
   refine aQ (aH dA cJ) ?_
   refine bL h (fun cG h=> ?_) fun cG h=> ?_
   · refine az ?_
     obtain rfl:=aB h
     exact hX _ _ _ _ _ dI aK aq (kr _ (hR _ rfl))
   · refine az ?_
     obtain rfl:=aB h
     exact hN _ rfl _ _ _ _ aK aq ⟨rfl,rfl⟩
 · refine az ?_
   obtain rfl:=aB h
   exact hX _ _ _ _ _ dI WE.nil aq (dw _ (hB _ rfl))
theorem xk {F:Nat} {b1:List UInt8} {H0:AH} {aJ:Bool} (h:gl F b1=some aJ):
 aA Tryz.prog 3 [(.sl .n 1 (ml b8 b1))] H0 fun v H'=>v=(.bool aJ)∧H'=H0:=by
 refine eF yq j3 fun hcl K0 aN=> ?_
 rw [gl.eq_1] at h
 refine az ?_
 obtain ⟨r2,hy1,h⟩:=ak h
 refine aY aq (EC hy1) ?_
 refine az ?_
 refine bL h (fun aS h=> ?_) fun aS h=> ?_
 · refine az ?_
   obtain rfl:=aB h
   exact aN _ _ _ bt (aI hcl (aT bn (.bool false)) bp aX ⟨rfl,rfl⟩)
 · refine az ?_
   refine bL h (fun aZ h=> ?_) fun aZ h=> ?_
   · refine az ?_
     obtain rfl:=aB h
     exact aN _ _ _ bt (aI hcl (aT bn (.bool true)) bp aX ⟨rfl,rfl⟩)
   · refine az ?_
     obtain ⟨⟨r3,r4⟩,br,h⟩:=ak h
     dsimp only at h
     refine aY aq (uW br) ?_
     refine az ?_
     obtain ⟨⟨r5,r6⟩,bC,h⟩:=ak h
     dsimp only at h
     refine aY aq (EX bC) ?_
     refine az ?_
     refine bF aq (uj (r3:=r3) (r4:=r4) (r5:=r5) (r6:=r6) ?_)
     refine az ?_
     refine bL h (fun cO h=> ?_) fun cO h=> ?_
     · refine az ?_
       obtain rfl:=aB h
       exact aN _ _ _ bt (aI hcl (aT bn (.bool false)) bp aX ⟨rfl,rfl⟩)
     · refine az ?_
       obtain ⟨o12,cS,h⟩:=ak h
       refine bF aq (uk cS ?_ ?_)
       · rintro ⟨⟩ rfl
         try dsimp only at h
         refine az ?_
         obtain rfl:=aB h
         exact aN _ _ _ bt (aI hcl (aT bn (.bool true)) bp aX ⟨rfl,rfl⟩)
       · rintro e7 rfl
         try dsimp only at h
         refine az ?_
         obtain rfl:=aB h
         exact aN _ _ _ bt (aI hcl (aT bn (.bool e7)) bp aX ⟨rfl,rfl⟩)
end Go.Proofs.cI
end
section
set_option maxRecDepth 100000
namespace Go.Proofs.cI
open Go Go.Am Go.Proofs
theorem G7 {s r:List UInt8} {n:Nat} (h:At s n r):iz (n:Int) s=some (match r with|[]=>false|c::_=>cq c):=by
 unfold iz
 cases r with
 |nil=>have:=h.len;rw [if_neg (by simp at this ⊢;omega)]
 |cons c r=>
  obtain ⟨h1,h2,h3⟩:=drop_cons h.dr
  rw [if_pos (by simpa using h1),bh h2,Option.bind_some,vb,Option.bind_some,vc]
  simp only [cq]
  cases ER c<;>cases rV c<;>simp
  by_cases h45:c=45
  · simp [h45]
  · by_cases h46:c=46
    · simp [h46]
    · by_cases h91:c=91
      · simp [h91]
      · simp [h45,h46,h91]
        by_cases h93:c=93
        · simp [h93]
        · simp [h45,h46,h91,h93]
theorem KV {s:List UInt8}:∀(r:List UInt8) (n G:Nat),At s n r→r.length<G→iter (fe s) G (n:Int)=some (.inr ((n+(r.takeWhile cq).length:Nat):Int)):=by
 intro r
 induction r with
 |nil=>
  intro n G h hG
  obtain ⟨G,rfl⟩:=cu hG
  rw [bS (t:=(n:Int)) (by simp only [fe];rw [G7 h];rfl)]
  simp
 |cons c r ih=>
  intro n G h hG
  obtain ⟨G,rfl⟩:=cu hG
  have:=h.len;have:=h.sm
  by_cases hq:cq c=true
  · rw [bX (s':=((n+1:Nat):Int)) (by simp only [fe];rw [G7 h];simp only [hq,Option.bind_some,if_true];rw [wi (by omega)]),ih (n+1) G h.next (by simp at hG;omega),List.takeWhile_cons,if_pos hq]
    simp only [List.length_cons]
    congr 3
    omega
  · rw [bS (t:=(n:Int)) (by simp only [fe];rw [G7 h];simp only [hq,Option.bind_some];rfl),List.takeWhile_cons,if_neg hq]
    simp
theorem IU {s:List UInt8} {F:Nat} (hs:s.length≤90000) (hF:s.length<F):jv F s=some (((s.takeWhile cq).length:Nat):Int):=by
 unfold jv
 rw [show (0:Int)=((0:Nat):Int) from rfl,KV s 0 F (At.zero hs) hF]
 simp
theorem X0 {x:List UInt8} {F:Nat} (hx:x.length≤90000) (hF:x.length<F):((gE x).bind fun t15=>if t15=true then some (.ret false) else ((iter (dY x) F 0).bind fun o24=>match o24 with| .inr ()=>some (.cv 0)| .inl PT=>some (.ret PT)))=(some (if gy x then .cv 0 else .ret false):Option (St Bool Unit Int)):=by
 unfold gE gy
 cases x with
 |nil=>simp
 |cons c r=>
  obtain ⟨y,hy⟩:=yj c r
  rw [if_neg (by simp),show idx (c::r) 0=some c by simp [idx],Option.bind_some,ve hy (by omega),hy]
  by_cases h1:c=45
  · simp [h1]
  · by_cases h2:y=45
    · simp [h1,h2]
    · have hh:=scan (s:=c::r) (body:=dY (c::r)) (mk:=fun i=>(i:Int)) (p:=yh) (rr:=fun _=>false) (tt:=()) ?_ ?_ ?_ hF
      · simp only [Option.bind_some,h1,h2,decide_false,Bool.false_eq_true,if_false]
        cases ha:(c::r).all yh with
        |true=>have:=hh.1 ha;rw [show ((0:Nat):Int)=0 from rfl] at this;rw [this];simp [h1,h2]
        |false=>obtain ⟨j,hj⟩:=hh.2 ha;rw [show ((0:Nat):Int)=0 from rfl] at hj;rw [hj];simp [h1,h2]
      · intro i z hz hp
        have hi:=(List.getElem?_eq_some_iff.1 hz).1
        simp only [dY,jg]
        rw [if_pos (by simp at hi ⊢;omega),bh hz,Option.bind_some,vb,Option.bind_some,vc,Option.bind_some,wi (by omega)]
        simp only [yh] at hp
        cases h1:ER z<;>cases h2:rV z<;>simp [h1,h2] at hp ⊢
        exact hp
      · intro i z hz hp
        have hi:=(List.getElem?_eq_some_iff.1 hz).1
        simp only [dY,jg]
        rw [if_pos (by simp at hi ⊢;omega),bh hz,Option.bind_some,vb,Option.bind_some,vc,Option.bind_some]
        simp only [yh] at hp
        cases h1:ER z<;>cases h2:rV z<;>simp [h1,h2] at hp ⊢
        exact hp
      · simp [dY]
theorem Nb {F:Nat} {s:List UInt8} (hl:s.length≤80000) (DG:s.length+10<F):∀(r cur:List UInt8) (a i G:Nat),(∀c∈cur,c≠46)→s.drop a=cur++r→a+cur.length=i→i+r.length=s.length→r.length+1<G→
 iter (dZ F s) G ((a:Int),(i:Int))=some (if (aR (cur++r)).all gy then .inr () else .inl false):=by
 have wT:∀(cur r:List UInt8) (a i:Nat),s.drop a=cur++r→a+cur.length=i→(s.take i).drop a=cur:=by
  intro cur r a i h hi
  rw [List.drop_take,h, ←hi,Nat.add_sub_cancel_left,List.take_left' rfl]
 have piece:∀(cur r:List UInt8) (a i:Nat),s.drop a=cur++r→a+cur.length=i→i≤s.length→fH (i:Int) s=some false→dZ F s ((a:Int),(i:Int))=if gy cur=true then some (.cv (((i+1:Nat):Int),((i+1:Nat):Int))) else some (.ret false):=by
  intro cur r a i h hi NF Qe
  have hcl:cur.length≤s.length:=by omega
  have hsp:=X0 (x:=cur) (F:=F) (by omega) (by omega)
  simp only [dZ]
  rw [if_pos (by simp;omega),Qe,Option.bind_some]
  simp only [Bool.false_eq_true,if_false]
  rw [oe (by omega) NF,wT cur r a i h hi,Option.bind_some,wi (by omega)]
  cases hp3:gE cur with
  |none=>rw [hp3] at hsp;cases hsp
  |some b=>
   rw [hp3] at hsp
   simp only [Option.bind_some] at hsp ⊢
   cases b with
   |true=>
    simp only [if_true] at hsp ⊢
    cases hlb:gy cur with
    |true=>rw [hlb] at hsp;simp at hsp
    |false=>simp
   |false=>
    simp only [Bool.false_eq_true,if_false] at hsp ⊢
    cases hit:iter (dY cur) F 0 with
    |none=>rw [hit] at hsp;cases hsp
    |some o=>
     rw [hit] at hsp
     cases o with
     |inl b=>
      cases hlb:gy cur with
      |true=>rw [hlb] at hsp;simp at hsp
      |false=>rw [hlb] at hsp;simp at hsp ⊢;exact hsp
     |inr u=>
      cases hlb:gy cur with
      |true=>simp
      |false=>rw [hlb] at hsp;simp at hsp
 intro r
 induction r with
 |nil=>
  intro cur a i G hc hd ha hi hG
  obtain ⟨G,rfl⟩:=cu (show 0<G by omega)
  obtain ⟨G,rfl⟩:=cu (show 0<G by simp at hG;omega)
  have hie:i=s.length:=by simpa using hi
  have hst:=piece cur [] a i hd ha (by omega) (by unfold fH;rw [if_neg (by simp;omega)])
  rw [List.append_nil,D1 hc]
  cases hx:gy cur with
  |false=>rw [hx] at hst;rw [dm (by rw [hst];rfl)];simp [hx]
  |true=>
   rw [hx] at hst
   rw [bX (by rw [hst];rfl),bS (t:=()) (by simp only [dZ];rw [if_neg (by simp;omega)])]
   simp [hx]
 |cons c r ih=>
  intro cur a i G hc hd ha hi hG
  obtain ⟨G,rfl⟩:=cu (show 0<G by omega)
  simp only [List.length_cons] at hi hG
  have hci:s[i]? =some c:=by
   have:(s.drop a)[cur.length]? =some c:=by rw [hd];simp
   rw [List.getElem?_drop,ha] at this;exact this
  have Qe:fH (i:Int) s=some (!decide (c=46)):=by unfold fH;rw [if_pos (by simp;omega),bh hci];rfl
  by_cases GL:c=46
  · subst GL
    have hst:=piece cur _ a i hd ha (by omega) (by rw [Qe];simp)
    rw [D0 hc]
    cases hx:gy cur with
    |false=>rw [hx] at hst;rw [dm (by rw [hst];rfl)];simp [hx]
    |true=>
     rw [hx] at hst
     rw [bX (by rw [hst];rfl)]
     have hd':s.drop (i+1)=r:=by
      have:(s.drop a).drop (cur.length+1)=r:=by rw [hd,List.drop_append];simp
      rw [List.drop_drop] at this
      rw [←this];congr 1;omega
     have:=ih [] (i+1) (i+1) G (by simp) (by simpa using hd') (by simp) (by omega) (by omega)
     rw [List.nil_append] at this
     rw [this]
     simp [hx]
  · have hst:dZ F s ((a:Int),(i:Int))=some (.cv ((a:Int),((i+1:Nat):Int))):=by
     simp only [dZ]
     rw [if_pos (by simp;omega),Qe,Option.bind_some]
     simp only [GL,decide_false,Bool.not_false,if_true]
     rw [wi (by omega)]
    rw [bX hst]
    have:=ih (cur++[c]) a (i+1) G (by intro y hy;rcases List.mem_append.1 hy with h|h;exact hc y h;simp at h;subst h;exact GL) (by rw [hd];simp) (by simp;omega) (by omega) (by omega)
    rw [this]
    simp
theorem Qf {s:List UInt8} (hi:oR s=true) (h:dX s=true):jF s=true:=by
 have hf:=M7 hi
 unfold jF
 rw [h]
 unfold dX at h
 rw [if_pos hi] at h
 simp only [Bool.and_eq_true,decide_eq_true_eq] at h
 have hsum:=four h.1 fun p hp=>(q9 (List.all_eq_true.1 h.2 p hp)).1
 have htot:=D4 (inner s)
 have hlen:s.length=(inner s).length+2:=by rw [hf];simp [inner]
 have h63:((aR s).all fun p=>decide (p.length≤63))=true:=by
  rw [List.all_eq_true]
  intro p hp
  have:=me _ p hp
  simp only [decide_eq_true_eq];omega
 rw [h63,decide_eq_true (by omega)]
 rfl
theorem Nc {s:List UInt8} {F:Nat} (hl:s.length≤80000) (hF:99010<F):kE F s=some (dX s):=by
 unfold kE
 rw [Q3 hF,Option.bind_some]
 cases hd:jF s with
 |true=>
  simp only [jF,Bool.and_eq_true] at hd
  rw [hd.1.2];rfl
 |false=>
  simp only [Bool.false_eq_true,if_false]
  cases s with
  |nil=>simp [jf,dX,oR,aR,gy]
  |cons c r=>
   unfold jf
   rw [if_neg (by simp),show idx (c::r) 0=some c by simp [idx]]
   simp only [Option.bind_some]
   by_cases hc:c=91
   · subst hc
     simp only [decide_true,if_true]
     cases hs:dX (91::r) with
     |false=>rfl
     |true=>
      by_cases hi:oR (91::r)=true
      · rw [Qf hi hs] at hd;cases hd
      · unfold dX at hs
        rw [if_neg hi,GM] at hs;cases hs
   · rw [if_neg (by simpa using hc),show ((0:Int),(0:Int))=(((0:Nat):Int),((0:Nat):Int)) from rfl,Nb hl (by omega) (c::r) [] 0 0 F (by simp) (by simp) (by simp) (by simp) (by omega)]
     have hin:oR (c::r)=false:=aag (by simpa using hc)
     unfold dX
     rw [hin,List.nil_append]
     cases (aR (c::r)).all gy<;>rfl
end Go.Proofs.cI
end
section
set_option maxRecDepth 100000
namespace Go.Proofs.cI
open Go Go.Am Go.Proofs
theorem ob {s r:List UInt8} {n:Nat} (h:At s n r):(r=[]∧n=s.length)∨(∃c t,r=c::t∧n<s.length∧s[n]? =some c):=by
 cases r with
 |nil=>have:=h.len;exact .inl ⟨rfl,by simpa using this⟩
 |cons c t=>obtain ⟨h1,h2,h3⟩:=drop_cons h.dr;exact .inr ⟨c,t,rfl,h1,h2⟩
theorem Q5 {a b:Nat} (h:a+b≤1000000000):IntKind.wrap .i64 ((a:Int)+(b:Int))=((a+b:Nat):Int):=by rw [wr (by omega) (by omega)];simp
theorem G8 {s r:List UInt8} {n:Nat} (h:At s n r):ji (n:Int) s=some (decide (nx r=64)):=by
 unfold ji
 rcases ob h with ⟨rfl,h1⟩|⟨c,t,rfl,h1,h2⟩
 · rw [if_neg (by simp;omega)];simp [nx]
 · rw [if_pos (by simpa using h1),bh h2];rfl
theorem Ij {s:List UInt8} {F:Nat} (hs:s.length≤4200) (DG:99010<F):∀(k:Nat) (r:List UInt8) (i G:Nat),At s i r→r.length<k→k≤G→
 match zJ k r with
 |some rest=>∃n:Nat,iter (ef F s) G (i:Int)=some (.inl (n:Int))∧At s n rest
 |none=>iter (ef F s) G (i:Int)=some (.inl (-1))∨iter (ef F s) G (i:Int)=some (.inr ()):=by
 intro k
 induction k with
 |zero=>intro r i G h hk;omega
 |succ k ih=>
  intro r i G h hk hG
  obtain ⟨G,rfl⟩:=cu (show 0<G by omega)
  have hle:=h.le
  by_cases hx:nx r=64
  · obtain ⟨t,rfl⟩:=iy hx (by decide)
    have h1:=h.next
    have hl1:=h1.len
    have X1:=pR cq t
    have hsk:=h1.skip cq
    simp only [zJ]
    rw [if_pos hx]
    simp only [List.drop_succ_cons,List.drop_zero]
    have hb:ef F s (i:Int)=if (!dX (t.takeWhile cq))=true then some (.ret (-1)) else
     (jj (i:Int) (((t.takeWhile cq).length:Nat):Int) s).bind fun t15=>if t15=true then some (.ret (IntKind.wrap .i64 ((IntKind.wrap .i64 ((IntKind.wrap .i64 ((i:Int)+1))+(((t.takeWhile cq).length:Nat):Int)))+1)))
     else (jk s (i:Int) (((t.takeWhile cq).length:Nat):Int)).bind fun t18=>if t18=true then some (.ret (-1)) else some (.cv (IntKind.wrap .i64 ((IntKind.wrap .i64 ((IntKind.wrap .i64 ((i:Int)+1))+(((t.takeWhile cq).length:Nat):Int)))+1))):=by
     simp only [ef]
     rw [G8 h,Option.bind_some,if_pos (by simpa using hx),show IntKind.wrap .i64 ((i:Int)+1)=((i+1:Nat):Int) from wi (by omega),iw h1.le,h1.dr,Option.bind_some,IU (by omega) (by omega),Option.bind_some,Q5 (by omega),we h1,Option.bind_some,Nc (by omega) DG,Option.bind_some]
    rw [show IntKind.wrap .i64 ((i:Int)+1)=((i+1:Nat):Int) from wi (by omega),Q5 (by omega),wi (by omega)] at hb
    unfold jj jk at hb
    rw [show IntKind.wrap .i64 ((i:Int)+1)=((i+1:Nat):Int) from wi (by omega),Q5 (by omega)] at hb
    unfold gK
    cases hsh:dX (t.takeWhile cq) with
    |false=>
     rw [hsh] at hb
     exact .inl (dm (by rw [hb];rfl))
    |true=>
     rw [hsh] at hb
     simp only [Bool.not_true,Bool.false_eq_true,if_false,if_true] at hb ⊢
     rcases ob hsk with ⟨hr2,h5⟩|⟨c,u,hr2,h5,h6⟩
     · rw [hr2]
       rw [if_neg (by simp;omega)] at hb
       simp only [Option.bind_some,Bool.false_eq_true,if_false] at hb
       rw [if_pos (by simp;omega)] at hb
       simp only [Option.bind_some,if_true] at hb
       rw [if_neg (by simp [nx]),if_neg (by simp [nx])]
       exact .inl (dm hb)
     · rw [hr2] at hsk ⊢
       rw [if_pos (by simp;omega),bh h6] at hb
       simp only [Option.bind_some] at hb
       by_cases h58:c=58
       · subst h58
         rw [if_pos (by decide)] at hb
         rw [if_neg (show nx (58::u)≠44 by simp [nx]),if_pos (show nx (58::u)=58 from rfl)]
         exact ⟨_,dm hb,hsk.next⟩
       · rw [if_neg (by simpa using h58),if_neg (by simp;omega)] at hb
         simp only [Option.bind_some] at hb
         by_cases M1:c=44
         · subst M1
           rw [if_neg (by decide)] at hb
           rw [if_pos (show nx (44::u)=44 from rfl)]
           simp only [List.drop_succ_cons,List.drop_zero]
           have hlu:=hsk.len
           have:=ih u (i+1+(t.takeWhile cq).length+1) G hsk.next (by simp only [List.length_cons] at hk hlu hl1;omega) (by omega)
           rw [bX hb]
           exact this
         · rw [if_pos (by simpa using M1)] at hb
           rw [if_neg (show nx (c::u)≠44 from M1),if_neg (show nx (c::u)≠58 from h58)]
           exact .inl (dm hb)
  · simp only [zJ]
    rw [if_neg hx]
    exact .inr (bS (by simp only [ef];rw [G8 h,Option.bind_some,if_neg (by simpa using hx)]))
theorem X2 {s:List UInt8} {F:Nat} (hs:s.length≤4200) (hF:99010<F):match ng s with
 |some rest=>∃n:Nat,kF F s=some (n:Int)∧At s n rest
 |none=>kF F s=some (-1):=by
 have hz:=At.zero (s:=s) (by omega)
 have GK:jh s=some (!decide (nx s=64)):=by
  unfold jh
  cases s with
  |nil=>simp [nx]
  |cons c r=>rw [if_neg (by simp),show idx (c::r) 0=some c by simp [idx]];rfl
 unfold ng kF
 rw [GK,Option.bind_some]
 by_cases hx:nx s=64
 · rw [if_pos hx,if_neg (by simp [hx])]
   have:=Ij hs hF (s.length+1) s 0 F hz (by omega) (by omega)
   rw [show (0:Int)=((0:Nat):Int) from rfl]
   cases hg:zJ (s.length+1) s with
   |none=>
    rw [hg] at this
    rcases this with h|h
    · simp only [hg];rw [h];rfl
    · simp only [hg];rw [h];rfl
   |some rest=>
    rw [hg] at this
    obtain ⟨n,h1,h2⟩:=this
    simp only [hg]
    exact ⟨n,by rw [h1];rfl,h2⟩
 · rw [if_neg hx,if_pos (by simp [hx])]
   exact ⟨0,rfl,hz⟩
theorem Ct {s r:List UInt8} {n:Nat} (h:At s n r):gF (n:Int) s=some (match r with|[]=>false|c::_=> !decide (c=34)):=by
 unfold gF
 rcases ob h with ⟨rfl,h1⟩|⟨c,t,rfl,h1,h2⟩
 · rw [if_neg (by simp;omega)]
 · rw [if_pos (by simpa using h1),bh h2];rfl
theorem Nd {s r:List UInt8} {n:Nat} (h:At s n r):fI s (n:Int)=some (match r with|[]=>true|c::_=> !eD c):=by
 unfold fI
 rcases ob h with ⟨rfl,h1⟩|⟨c,t,rfl,h1,h2⟩
 · rw [if_pos (by simp;omega)]
 · rw [if_neg (by simp;omega),bh h2,Option.bind_some];exact Qc c
theorem T8 {s:List UInt8}:∀(k:Nat) (r acc:List UInt8) (n F:Nat),r.length≤k→At s n r→acc.length≤n→r.length<F→
 match qL r with
 |some (b,rest)=>∃n':Nat,iter (bT s) F (acc,(n:Int))=some (.inr (acc++b,(n':Int)))∧At s n' (34::rest)
 |none=>iter (bT s) F (acc,(n:Int))=some (.inl ([], -1))∨∃acc',iter (bT s) F (acc,(n:Int))=some (.inr (acc',(s.length:Int))):=by
 intro k
 induction k with
 |zero=>
  intro r acc n F hk h ha hF
  have hr:r=[]:=List.length_eq_zero_iff.1 (by omega)
  subst hr
  obtain ⟨G,rfl⟩:=cu hF
  have hn:n=s.length:=by have:=h.len;simpa using this
  subst hn
  exact .inr ⟨acc,bS (by simp only [bT];rw [Ct h];rfl)⟩
 |succ k ih=>
  intro r acc n F hk h ha hF
  obtain ⟨G,rfl⟩:=cu (show 0<F by omega)
  have h1:=h.le;have h2:=h.sm
  match r,hk,h,hF with
  |[],hk,h,hF=>
   have hn:n=s.length:=by have:=h.len;simpa using this
   subst hn
   exact .inr ⟨acc,bS (by simp only [bT];rw [Ct h];rfl)⟩
  |c::r,hk,h,hF=>
   rw [vh]
   obtain ⟨-,hc1, -⟩:=drop_cons h.dr
   by_cases hc:c=34
   · subst hc
     rw [if_pos rfl]
     exact ⟨n,by rw [bS (t:=(acc,(n:Int))) (by simp only [bT];rw [Ct h];rfl)];simp,h⟩
   · rw [if_neg hc]
     have Qe:gF (n:Int) s=some true:=by rw [Ct h];simp [hc]
     by_cases hc2:c=92
     · subst hc2
       rw [if_pos rfl]
       have hst:bT s (acc,(n:Int))=(fI s ((n+1:Nat):Int)).bind fun t15=>if t15=true then some (.ret (([]:List UInt8),(-1))) else (idx s ((n+1:Nat):Int)).bind fun oN=>(cw 1 acc ([oN]:List UInt8)).bind fun kU=>some (.cv (kU,(IntKind.wrap .i64 (((n+1:Nat):Int)+1)))):=by
        simp only [bT]
        rw [Qe]
        simp only [Option.bind_some,if_true]
        rw [bh hc1,Option.bind_some]
        unfold jm
        rw [if_pos (by decide),wi (by omega),Option.bind_some]
       rw [Nd h.next,Option.bind_some] at hst
       match r,hk,h,hF,hst with
       |[],hk,h,hF,hst=>exact .inl (dm hst)
       |d::r',hk,h,hF,hst=>
        obtain ⟨hlt2,hd1, -⟩:=drop_cons h.next.dr
        have Nf:bT s (acc,(n:Int))=if (!eD d)=true then some (.ret (([]:List UInt8),(-1))) else (idx s ((n+1:Nat):Int)).bind fun oN=>(cw 1 acc ([oN]:List UInt8)).bind fun kU=>some (.cv (kU,(IntKind.wrap .i64 (((n+1:Nat):Int)+1)))):=hst
        cases hv:eD d with
        |false=>simp only [hv,Bool.false_eq_true,if_false];exact .inl (dm (Nf.trans (if_pos (by rw [hv];rfl))))
        |true=>
         have ym:bT s (acc,(n:Int))=some (.cv (acc++[d],((n+2:Nat):Int))):=by
          rw [Nf,if_neg (by rw [hv];decide)]
          rw [bh hd1,Option.bind_some,c6 (by simp;omega) (by omega),Option.bind_some,wi (by omega)]
         have:=ih r' (acc++[d]) (n+2) G (by simp at hk;omega) h.next.next (by simp;omega) (by simp at hF;omega)
         rw [bX ym]
         cases hq:qL r' with
         |none=>rw [hq] at this;simp only [hv,if_true,hq,Option.map_none];exact this
         |some x=>
          obtain ⟨b,rest⟩:=x
          rw [hq] at this
          obtain ⟨n',h3,h4⟩:=this
          simp only [hv,if_true,hq,Option.map_some]
          exact ⟨n',by rw [h3];simp,h4⟩
     · rw [if_neg hc2]
       have hst:bT s (acc,(n:Int))=(fI s (n:Int)).bind fun t15=>if t15=true then some (.ret (([]:List UInt8),(-1))) else (idx s (n:Int)).bind fun oN=>(cw 1 acc ([oN]:List UInt8)).bind fun kU=>some (.cv (kU,(IntKind.wrap .i64 ((n:Int)+1)))):=by
        simp only [bT]
        rw [Qe]
        simp only [Option.bind_some,if_true]
        rw [bh hc1,Option.bind_some]
        unfold jm
        rw [if_neg (by simpa using hc2),Option.bind_some,bh hc1]
       rw [Nd h,Option.bind_some] at hst
       have hlt:=h.next.le
       have Nf:bT s (acc,(n:Int))=if (!eD c)=true then some (.ret (([]:List UInt8),(-1))) else (idx s (n:Int)).bind fun oN=>(cw 1 acc ([oN]:List UInt8)).bind fun kU=>some (.cv (kU,(IntKind.wrap .i64 ((n:Int)+1)))):=hst
       cases hv:eD c with
       |false=>simp only [hv,Bool.false_eq_true,if_false];exact .inl (dm (Nf.trans (if_pos (by rw [hv];rfl))))
       |true=>
        have ym:bT s (acc,(n:Int))=some (.cv (acc++[c],((n+1:Nat):Int))):=by
         rw [Nf,if_neg (by rw [hv];decide)]
         rw [bh hc1,Option.bind_some,c6 (by simp;omega) (by omega),Option.bind_some,wi (by omega)]
        have:=ih r (acc++[c]) (n+1) G (by simp at hk;omega) h.next (by simp;omega) (by simp at hF;omega)
        rw [bX ym]
        cases hq:qL r with
        |none=>rw [hq] at this;simp only [hv,if_true,hq,Option.map_none];exact this
        |some x=>
         obtain ⟨b,rest⟩:=x
         rw [hq] at this
         obtain ⟨n',h3,h4⟩:=this
         simp only [hv,if_true,hq,Option.map_some]
         exact ⟨n',by rw [h3];simp,h4⟩
theorem G9 {s r:List UInt8} {n F:Nat} (hF:30≤F) (h:At s n r):jo F (n:Int) s=some (match r with|[]=>false|c::_=>iQ c):=by
 unfold jo
 rcases ob h with ⟨rfl,h1⟩|⟨c,t,rfl,h1,h2⟩
 · rw [if_neg (by simp;omega)]
 · rw [if_pos (by simpa using h1),bh h2,Option.bind_some,M8 hF,Option.bind_some]
   simp only [iQ]
   cases eP c<;>by_cases hc:c=46<;>simp [hc]
theorem Ng {s:List UInt8} {F:Nat} (DG:30≤F):∀(r:List UInt8) (n G:Nat),At s n r→r.length<G→iter (fJ F s) G (n:Int)=some (.inr ((n+(r.takeWhile iQ).length:Nat):Int)):=by
 intro r
 induction r with
 |nil=>
  intro n G h hG
  obtain ⟨G,rfl⟩:=cu hG
  rw [bS (t:=(n:Int)) (by simp only [fJ];rw [G9 DG h];rfl)]
  simp
 |cons c r ih=>
  intro n G h hG
  obtain ⟨G,rfl⟩:=cu hG
  have:=h.len;have:=h.sm
  by_cases hq:iQ c=true
  · rw [bX (s':=((n+1:Nat):Int)) (by simp only [fJ];rw [G9 DG h];simp only [hq,Option.bind_some,if_true];rw [wi (by omega)]),ih (n+1) G h.next (by simp at hG;omega),List.takeWhile_cons,if_pos hq]
    simp only [List.length_cons]
    congr 3
    omega
  · rw [bS (t:=(n:Int)) (by simp only [fJ];rw [G9 DG h];simp only [hq,Option.bind_some];rfl),List.takeWhile_cons,if_neg hq]
    simp
theorem T9 {s:List UInt8} {F:Nat} (hs:s.length≤4200) (hF:99010<F):match kD s with
 |some (b,rest)=>∃n:Nat,kG F s=some (b,(n:Int))∧At s n rest
 |none=>kG F s=some ([], -1):=by
 have hz:=At.zero (s:=s) (by omega)
 have GK:jl s=some (decide (nx s=34)):=by
  unfold jl
  cases s with
  |nil=>simp [nx]
  |cons c r=>rw [if_pos (by simp),show idx (c::r) 0=some c by simp [idx]];rfl
 unfold kD kG
 rw [GK,Option.bind_some]
 by_cases hx:nx s=34
 · obtain ⟨t,rfl⟩:=iy hx (by decide)
   rw [if_pos hx,if_pos (by simpa using hx)]
   simp only [List.drop_succ_cons,List.drop_zero]
   have:=T8 (s:=34::t) t.length t [] 1 F (Nat.le_refl _) hz.next (by simp) (by simp at hs;omega)
   rw [show (([]:List UInt8),(1:Int))=(([]:List UInt8),((1:Nat):Int)) from rfl]
   cases hq:qL t with
   |none=>
    rw [hq] at this
    rcases this with h|⟨acc',h⟩
    · simp only;rw [h];rfl
    · simp only;rw [h]
      simp
   |some x=>
    obtain ⟨b,rest⟩:=x
    rw [hq] at this
    obtain ⟨n',h1,h2⟩:=this
    have hlt:=h2.next.le
    simp only
    rw [h1]
    simp only [Option.bind_some,List.nil_append]
    by_cases hb:b=[]
    · rw [if_pos hb,if_pos (by simp [hb])]
    · rw [if_neg hb,if_neg (by simp [hb];simp at hlt;omega),wi (by omega)]
      exact ⟨n'+1,rfl,h2.next⟩
 · rw [if_neg hx,if_neg (show ¬(decide (nx s=34)=true) by simpa using hx)]
   have X1:=pR iQ s
   rw [show (0:Int)=((0:Nat):Int) from rfl,Ng (by omega) s 0 F hz (by omega)]
   simp only [Option.bind_some]
   rw [we hz,Option.bind_some,Na (by omega) (by omega),Option.bind_some]
   cases hp:gT (s.takeWhile iQ) with
   |false=>simp
   |true=>
    simp only [Bool.not_true,Bool.false_eq_true,if_false,if_true]
    exact ⟨_,rfl,hz.skip _⟩
end Go.Proofs.cI
end
section
set_option maxRecDepth 100000
namespace Go.Proofs.cI
open Go Go.Am Go.Proofs
theorem Ua (s:List UInt8):jX s=some (!decide (nx s=60)):=by
 unfold jX
 cases s with
 |nil=>simp [nx]
 |cons c r=>rw [if_neg (by simp),show idx (c::r) 0=some c by simp [idx]];rfl
theorem Ub (c:UInt8) (r:List UInt8):jY (c::r)=some (decide (nx r=62)):=by
 unfold jY
 cases r with
 |nil=>simp [nx]
 |cons d t=>rw [if_pos (by simp;omega),show idx (c::d::t) 1=some d by simp [idx]];rfl
theorem Uc {s r:List UInt8} {n:Nat} (h:At s n r):jZ (n:Int) s=some (!decide (nx r=64)):=by
 unfold jZ
 rw [if_neg (by simp)]
 rcases ob h with ⟨rfl,h1⟩|⟨c,t,rfl,h1,h2⟩
 · rw [if_pos (by simp;omega)];simp [nx]
 · rw [if_neg (by simp;omega),bh h2];rfl
theorem Ud {s:List UInt8} {F:Nat} (hs:s.length≤4200) (hF:99010<F):j0 F s (((s.takeWhile cq).length:Nat):Int)=some (!(dX (s.takeWhile cq)&&decide (nx (s.dropWhile cq)=62))):=by
 have hz:=At.zero (s:=s) (by omega)
 have X1:=pR cq s
 have hsk:=hz.skip cq
 rw [Nat.zero_add] at hsk
 unfold j0
 rw [Ci X1]
 have ht:s.take (s.takeWhile cq).length=s.takeWhile cq:=by
  conv=>lhs;arg 2;rw [←List.takeWhile_append_dropWhile (p:=cq) (l:=s)]
  exact List.take_left ..
 rw [ht,Option.bind_some,Nc (by omega) hF,Option.bind_some]
 cases dX (s.takeWhile cq) with
 |false=>rfl
 |true=>
  simp only [Bool.not_true,Bool.false_eq_true,if_false,Bool.true_and]
  rcases ob hsk with ⟨hr,h1⟩|⟨c,t,hr,h1,h2⟩
  · rw [hr,if_pos (by simp;omega)];simp [nx]
  · rw [hr,if_neg (by simp;omega),bh h2];rfl
theorem aan {s:List UInt8} {F:Nat} (hs:s.length≤4150) (hF:99010<F):oF F s=some (nh s):=by
 unfold oF nh KT
 rw [Ua,Option.bind_some]
 by_cases Ie:nx s=60
 · obtain ⟨r,rfl⟩:=iy Ie (by decide)
   have hz:=At.zero (s:=60::r) (by omega)
   have hrl:r.length≤4150:=by simp at hs;omega
   rw [if_neg (by simp [Ie]),Ub,Option.bind_some,if_pos Ie]
   simp only [List.drop_succ_cons,List.drop_zero]
   by_cases wg:nx r=62
   · obtain ⟨t,rfl⟩:=iy wg (by decide)
     have P7:gU ⟨[],[]⟩=true:=by simp [gU,kV]
     rw [if_pos (by simpa using wg),if_pos wg,show (2:Int)=((2:Nat):Int) from rfl,iw hz.next.next.le]
     simp only [Option.bind_some,P7,if_true]
     rfl
   · rw [if_neg (show ¬(decide (nx r=62)=true) by simpa using wg),if_neg wg,sub_one rfl,Option.bind_some]
     have hr:=X2 (s:=r) (F:=F) (by omega) hF
     unfold zK
     cases X3:ng r with
     |none=>
      rw [X3] at hr
      rw [hr]
      rfl
     |some r1=>
      rw [X3] at hr
      obtain ⟨n,h1,h2⟩:=hr
      have hl1:=D8 X3
      have hle:=h2.le
      rw [h1,Option.bind_some,if_neg (by simp),show (1:Int)+(n:Int)=((n:Nat):Int)+((1:Nat):Int) by simp;omega,Q5 (by omega),iw (by simp;omega)]
      have hd:(60::r).drop (n+1)=r1:=by rw [List.drop_succ_cons,h2.dr]
      rw [hd,Option.bind_some]
      have hl:=T9 (s:=r1) (F:=F) (by omega) hF
      simp only
      cases vv:kD r1 with
      |none=>
       rw [vv] at hl
       rw [hl]
       rfl
      |some x=>
       obtain ⟨l,r2⟩:=x
       rw [vv] at hl
       obtain ⟨n2,h3,h4⟩:=hl
       obtain ⟨age,aaU⟩:=D7 vv
       rw [h3]
       simp only [Option.bind_some]
       rw [Uc h4,Option.bind_some]
       by_cases Cm:nx r2=64
       · obtain ⟨t,rfl⟩:=iy Cm (by decide)
         have htl:t.length≤4150:=by simp at aaU;omega
         have X1:=pR cq t
         rw [if_neg (by simp [Cm]),wi (by have:=h4.le;omega),iw h4.next.le,h4.next.dr,Option.bind_some,IU (by omega) (by omega),Option.bind_some,Ud (by omega) hF,Option.bind_some,if_pos Cm]
         simp only [List.drop_succ_cons,List.drop_zero]
         unfold gK
         cases hsh:dX (t.takeWhile cq) with
         |false=>simp
         |true=>
          simp only [Bool.true_and,if_true]
          by_cases Nh:nx (t.dropWhile cq)=62
          · have hzt:=At.zero (s:=t) (by omega)
            have hsk:=hzt.skip cq
            rw [Nat.zero_add] at hsk
            obtain ⟨u,hu⟩:=iy Nh (by decide)
            rw [if_neg (by simp [Nh]),if_pos Nh,Ci X1]
            have ht:t.take (t.takeWhile cq).length=t.takeWhile cq:=by
             conv=>lhs;arg 2;rw [←List.takeWhile_append_dropWhile (p:=cq) (l:=t)]
             exact List.take_left ..
            rw [ht,Option.bind_some,XY (by simp only;omega) (by simp only;omega) hF,Option.bind_some]
            simp only
            cases hR:gU ⟨l,t.takeWhile cq⟩ with
            |false=>simp
            |true=>
             rw [hu] at hsk
             unfold ni
             rw [wi (by omega),iw hsk.next.le,hsk.next.dr,hu]
             simp
          · rw [if_pos (by simp [Nh]),if_neg Nh]
       · rw [if_pos (by simp [Cm]),if_neg Cm]
 · rw [if_pos (by simp [Ie]),if_neg Ie]
theorem X4 {s:List UInt8} {F:Nat} (hs:s.length≤4150) (hF:99010<F):nj F s=some (pS s):=by
 unfold nj pS
 rw [aan hs hF,Option.bind_some]
 simp only
 by_cases h:(nh s).2.2=0∧(nh s).2.1≠[]
 · rw [if_pos (by simpa using h),if_pos h]
 · rw [if_neg (by simpa using h),if_neg h]
def low (c:UInt8):UInt8:=if (decide (65≤c)&&decide (c≤90))=true then c+32 else c
def Bf (s:List UInt8) (i:Nat):List UInt8:=(s.map low).take i++s.drop i
theorem KW {s:List UInt8} {i:Nat} (hi:i≤s.length) (j:Nat):(Bf s i)[j]? =if j<i then (s.map low)[j]? else s[j]? :=by
 unfold Bf
 have hl:((s.map low).take i).length=i:=by simp;omega
 by_cases h:j<i
 · rw [if_pos h,List.getElem?_append_left (by omega),List.getElem?_take_of_lt h]
 · rw [if_neg h,List.getElem?_append_right (by omega),hl,List.getElem?_drop]
   congr 1;omega
theorem Q6 {s:List UInt8} {i:Nat} (hi:i≤s.length):(Bf s i).length=s.length:=by
 unfold Bf;simp;omega
theorem aao {s:List UInt8} {i:Nat} (hi:i<s.length) {c:UInt8} (hc:s[i]? =some c):(Bf s i).set i (low c)=Bf s (i+1):=by
 apply List.ext_getElem?
 intro j
 rw [List.getElem?_set,KW (by omega),KW (by omega),Q6 (by omega)]
 by_cases h:i=j
 · subst h
   rw [if_pos rfl,if_pos hi,if_pos (by omega),List.getElem?_map,hc];rfl
 · rw [if_neg h]
   by_cases h2:j<i
   · rw [if_pos h2,if_pos (by omega)]
   · rw [if_neg h2,if_neg (by omega)]
theorem afm (s:List UInt8):Bf s s.length=s.map low:=by
 unfold Bf;rw [List.drop_length,List.append_nil,List.take_of_length_le (by simp)]
theorem afn (c:UInt8) (h:(decide (65≤c)&&decide (c≤90))=true):c ||| 32=low c:=by
 have:=kC (p:=fun c=> !(decide (65≤c)&&decide (c≤90))||(c ||| 32==low c)) (by kernel_rfl) c
 rw [h] at this
 simpa using this
theorem afo {n i:Nat} (h:i<n):Bw n (i:Int)=some i:=by unfold Bw;rw [if_pos (by omega)];simp
theorem aeZ {xs:List UInt8} {j:Nat} {c:UInt8} (h:j<xs.length):QO xs j c=some (xs.set j c):=by unfold QO;rw [if_pos h]
theorem afp {s:List UInt8} {i:Nat} {c:UInt8} (hi:i<s.length) (hc:s[i]? =some c) (h:¬(decide (65≤c)&&decide (c≤90))=true):Bf s i=Bf s (i+1):=by
 rw [←aao hi hc]
 have hl:low c=c:=by unfold low;rw [if_neg h]
 rw [hl]
 apply List.ext_getElem?
 intro j
 rw [List.getElem?_set,KW (by omega),Q6 (by omega)]
 by_cases h:i=j
 · subst h;rw [if_pos rfl,if_pos hi,if_neg (by omega),hc]
 · rw [if_neg h]
end Go.Proofs.cI
end
section
namespace Go.Am
open Go
def yt {α A ρ:Type} (step:A→α→Except ρ A):A→List α→Except ρ A
 |a,[]=> .ok a
 |a,x::r=>match step a x with
  | .ok a'=>yt step a' r
  | .error e=> .error e
theorem lp {α ρ τ σ A:Type} {s:List α} {body:σ→Option (St ρ τ σ)} {mk:A→Nat→σ} {step:A→α→Except ρ A} {tt:A→τ} (I:A→Nat→Prop)
 (h1:∀a i x,s[i]? =some x→I a i→match step a x with
  | .ok a'=>body (mk a i)=some (.cv (mk a' (i+1)))∧I a' (i+1)
  | .error r=>body (mk a i)=some (.ret r))
 (h3:∀a,I a s.length→body (mk a s.length)=some (.eC (tt a))) {F:Nat} {a:A} (hF:s.length<F) (h0:I a 0):
 iter body F (mk a 0)=some (match yt step a s with| .ok a'=> .inr (tt a')| .error r=> .inl r)∧∀a',yt step a s= .ok a'→I a' s.length:=by
 suffices h:∀(r:List α) (i F:Nat) (a:A),s.drop i=r→i+r.length=s.length→r.length<F→I a i→
  iter body F (mk a i)=some (match yt step a r with| .ok a'=> .inr (tt a')| .error r=> .inl r)∧∀a',yt step a r= .ok a'→I a' s.length from h s 0 F a rfl (by simp) hF h0
 intro r
 induction r with
 |nil=>
  intro i F a hd hl hF h0
  obtain ⟨G,rfl⟩:=cu hF
  have:i=s.length:=by simpa using hl
  subst this
  exact ⟨bS (h3 a h0),fun a' h=>by cases h;exact h0⟩
 |cons x r ih=>
  intro i F a hd hl hF h0
  obtain ⟨G,rfl⟩:=cu hF
  obtain ⟨hi,hx,hr⟩:=drop_cons hd
  simp only [List.length_cons] at hl hF
  have:=h1 a i x hx h0
  simp only [yt]
  cases hs:step a x with
  |ok a'=>
   rw [hs] at this
   rw [bX this.1]
   exact ih (i+1) G a' hr (by omega) (by omega) this.2
  |error e=>
   rw [hs] at this
   rw [dm this]
   exact ⟨rfl,fun a' h=>by cases h⟩
theorem lpo {α ρ τ σ A:Type} {s:List α} {body:σ→Option (St ρ τ σ)} {mk:A→Nat→σ} {step:A→α→A} {tt:A→τ} (I:A→Nat→Prop)
 (h1:∀a i x,s[i]? =some x→I a i→body (mk a i)=some (.cv (mk (step a x) (i+1)))∧I (step a x) (i+1))
 (h3:∀a,I a s.length→body (mk a s.length)=some (.eC (tt a))) {F:Nat} {a:A} (hF:s.length<F) (h0:I a 0):
 iter body F (mk a 0)=some (.inr (tt (s.foldl step a)))∧I (s.foldl step a) s.length:=by
 have key:∀(r:List α) (a:A),yt (ρ:=ρ) (fun a x=> .ok (step a x)) a r= .ok (r.foldl step a):=by
  intro r
  induction r with
  |nil=>intro a;rfl
  |cons x r ih=>intro a;simp only [yt,List.foldl_cons];exact ih _
 have:=lp (s:=s) (body:=body) (mk:=mk) (step:=fun a x=> .ok (step a x)) (tt:=tt) I (fun a i x hx h=>h1 a i x hx h) h3 hF h0
 rw [key] at this
 exact ⟨this.1,this.2 _ rfl⟩
theorem agf {a b:Int} (h0:0≤a) (h1:a≤4000000000000000000) (h2:0≤b) (h3:b≤4000000000000000000):IntKind.wrap .i64 (a+b)=a+b:=wr (by omega) (by omega)
theorem Ni {n:Nat} (h:n≤1000000000):IntKind.wrap .i64 ((n:Int)+1)=((n+1:Nat):Int):=by rw [wr (by omega) (by omega)];simp
theorem acV {α ρ τ σ:Type} {s:List α} {body:σ→Option (St ρ τ σ)} {mk:Nat→σ} {p:α→Bool} {rr:Nat→ρ} {tt:τ}
 (h1:∀i x,s[i]? =some x→p x=true→body (mk i)=some (.cv (mk (i+1)))) (h2:∀i x,s[i]? =some x→p x=false→body (mk i)=some (.ret (rr i)))
 (h3:body (mk s.length)=some (.eC tt)) {F:Nat} (hF:s.length<F):
 (s.all p=true→iter body F (mk 0)=some (.inr tt))∧(s.all p=false→∃j,iter body F (mk 0)=some (.inl (rr j))):=by
 suffices h:∀(r:List α) (i F:Nat),s.drop i=r→i+r.length=s.length→r.length<F→
  (r.all p=true→iter body F (mk i)=some (.inr tt))∧(r.all p=false→∃j,iter body F (mk i)=some (.inl (rr j))) from h s 0 F rfl (by simp) hF
 intro r
 induction r with
 |nil=>
  intro i F hd hl hF
  obtain ⟨G,rfl⟩:=cu hF
  have:i=s.length:=by simpa using hl
  subst this
  exact ⟨fun _=>bS h3,fun h=>by simp at h⟩
 |cons x r ih=>
  intro i F hd hl hF
  obtain ⟨G,rfl⟩:=cu hF
  obtain ⟨hi,hx,hr⟩:=drop_cons hd
  simp only [List.length_cons] at hl hF
  cases hp:p x with
  |true=>
   rw [bX (h1 i x hx hp)]
   simp only [List.all_cons,hp,Bool.true_and]
   exact ih (i+1) G hr (by omega) (by omega)
  |false=>
   rw [dm (h2 i x hx hp)]
   simp only [List.all_cons,hp,Bool.false_and]
   exact ⟨fun h=>by simp at h,fun _=>⟨i,rfl⟩⟩
end Go.Am
end
section
set_option maxRecDepth 100000
namespace Go.Proofs.cI
open Go Go.Am Go.Proofs
def cg (sep:List UInt8):List UInt8→Option (List UInt8×List UInt8)
 |[]=>none
 |c::r=>if sep.isPrefixOf (c::r) then some ([],(c::r).drop sep.length) else (cg sep r).map fun p=>(c::p.1,p.2)
theorem IV {sep:List UInt8} (hs:sep≠[]):∀s:List UInt8,(cg sep s=none∧Lib.index s sep= -1)∨∃i:Nat,Lib.index s sep=(i:Int)∧cg sep s=some (s.take i,s.drop (i+sep.length)):=by
 intro s
 induction s with
 |nil=>left;exact ⟨rfl,by unfold Lib.index;cases sep with|nil=>exact absurd rfl hs|cons=>rfl⟩
 |cons c r ih=>
  unfold Lib.index cg
  by_cases hp:sep.isPrefixOf (c::r)=true
  · right;exact ⟨0,by rw [if_pos hp];rfl,by rw [if_pos hp];simp⟩
  · rw [if_neg hp,if_neg hp]
    rcases ih with ⟨h1,h2⟩|⟨i,h1,h2⟩
    · left;rw [h1,h2];simp
    · right
      refine ⟨i+1, ?_, ?_⟩
      · rw [h1,if_neg (by simp<;>omega)];simp
      · rw [h2];simp [List.take_succ_cons,Nat.add_right_comm]
theorem aap {sep:List UInt8} (hs:sep≠[]) (s:List UInt8):Lib.cut s sep=match cg sep s with|some (a,b)=>(a,b,true)|none=>(s,[],false):=by
 unfold Lib.cut
 rcases IV hs s with ⟨h1,h2⟩|⟨i,h1,h2⟩
 · rw [h1,h2,if_neg (by omega)]
 · rw [h2,h1,if_pos (by omega)];simp
theorem afq {s sep:List UInt8} (hs:sep≠[]) (hl:s.length≤1000000000):strings_Cut s sep=some (match cg sep s with|some (a,b)=>(a,b,true)|none=>(s,[],false)):=by
 unfold strings_Cut
 rw [if_pos (by omega),aap hs]
theorem X5 {sep:List UInt8}:∀ {s a b:List UInt8},cg sep s=some (a,b)→s=a++sep++b:=by
 intro s
 induction s with
 |nil=>intro a b h;cases h
 |cons c r ih=>
  intro a b h
  unfold cg at h
  split at h
  · rename_i hp
    injection h with h;injection h with h1 h2;subst h1;subst h2
    obtain ⟨t,ht⟩:=List.isPrefixOf_iff_prefix.1 hp
    rw [←ht];simp
  · rw [Option.map_eq_some_iff] at h
    obtain ⟨⟨a',b'⟩,h1,h2⟩:=h
    injection h2 with h2 h3;subst h2;subst h3
    rw [ih h1];simp
abbrev nl:List UInt8:=[13,10]
def Ends (w:List UInt8):Prop:=w=[]∨∃u,w=u++nl
theorem Nj:∀ {w:List UInt8},Ends w→w≠[]→∃a b,cg nl w=some (a,b)∧w=a++nl++b∧Ends b:=by
 intro w
 induction w with
 |nil=>intro _ h;exact absurd rfl h
 |cons c r ih=>
  intro he _
  obtain ⟨u,hu⟩:=he.resolve_left (by simp)
  unfold cg
  by_cases hp:nl.isPrefixOf (c::r)=true
  · rw [if_pos hp]
    obtain ⟨t,ht⟩:=List.isPrefixOf_iff_prefix.1 hp
    refine ⟨[],t,by rw [←ht];simp,by rw [←ht];simp, ?_⟩
    rw [←ht] at hu
    rcases u with _|⟨x,u⟩
    · left;simpa using hu
    · rcases u with _|⟨y,u⟩
      · simp at hu
      · right
        simp only [List.cons_append,List.nil_append,List.cons.injEq] at hu
        exact ⟨u,hu.2.2⟩
  · rw [if_neg hp]
    cases u with
    |nil=>rw [hu] at hp;exact absurd rfl hp
    |cons x u=>
     simp only [List.cons_append,List.cons.injEq] at hu
     obtain ⟨rfl,hr⟩:=hu
     obtain ⟨a,b,h1,h2,h3⟩:=ih (.inr ⟨u,hr⟩) (by rw [hr];simp)
     exact ⟨c::a,b,by rw [h1];rfl,by rw [h2];simp,h3⟩
def whole (b:List UInt8):List UInt8:=if b=[]∨nl.isSuffixOf b=true then b else b++nl
theorem D9 (b:List UInt8):Ends (whole b):=by
 unfold whole
 split
 · rename_i h
   rcases h with h|h
   · exact .inl h
   · obtain ⟨u,hu⟩:=List.isSuffixOf_iff_suffix.1 h
     exact .inr ⟨u,hu.symm⟩
 · exact .inr ⟨b,rfl⟩
theorem rD (b:List UInt8):(whole b).length≤b.length+2:=by unfold whole;split<;>simp
theorem tA {b:List UInt8} (h:2≤b.length):(b.drop (b.length - 2)=nl)↔nl.isSuffixOf b=true:=by
 rw [List.isSuffixOf_iff_suffix]
 constructor
 · intro h1;exact ⟨b.take (b.length - 2),by rw [←h1,List.take_append_drop]⟩
 · rintro ⟨u,rfl⟩;simp
theorem not_suffix {b:List UInt8} (h:b.length<2):nl.isSuffixOf b=false:=by
 rw [Bool.eq_false_iff]
 intro h1
 obtain ⟨u,rfl⟩:=List.isSuffixOf_iff_suffix.1 h1
 simp at h;omega
theorem aaq {b:List UInt8} (hb:b.length≤20000):bytes_HasSuffix b nl=some (nl.isSuffixOf b):=by
 unfold bytes_HasSuffix gS
 by_cases h:2≤b.length
 · rw [if_pos (by simp;omega)]
   have e:IntKind.wrap .i64 ((b.length:Int) - ((nl:List UInt8).length:Int))=((b.length - 2:Nat):Int):=by rw [wr (by simp;omega) (by simp;omega)];simp;omega
   rw [e,iw (by omega)]
   simp only [Option.bind_some,bytes_Equal]
   congr 1
   by_cases h2:b.drop (b.length - 2)=nl
   · rw [(tA h).1 h2];simpa using h2
   · have:nl.isSuffixOf b=false:=by rw [Bool.eq_false_iff];exact fun h3=>h2 ((tA h).2 h3)
     rw [this];simpa using h2
 · rw [if_neg (by simp;omega),not_suffix (by omega)];rfl
theorem acW {b:List UInt8} {G:Nat} (hb:b.length≤20000):iter (cK [b,nl]) (G+3) (0,0)=some (.inr ((b.length:Int)+2)):=by
 have s1:cK [b,nl] (0,0)=some (.cv ((b.length:Int),1)):=by
  simp only [cK]
  rw [if_pos (by simp),show idx [b,nl] 0=some b by simp [idx]]
  simp only [Option.bind_some]
  rw [wr (by omega) (by omega),if_neg (by simp<;>omega)]
  simp [wr]
 have s2:cK [b,nl] ((b.length:Int),1)=some (.cv ((b.length:Int)+2,2)):=by
  simp only [cK]
  rw [if_pos (by simp),show idx [b,nl] 1=some nl by simp [idx]]
  simp only [Option.bind_some]
  rw [wr (by simp;omega) (by simp;omega),if_neg (by simp<;>omega)]
  simp [wr]
 have s3:cK [b,nl] ((b.length:Int)+2,2)=some (.eC ((b.length:Int)+2)):=by
  simp only [cK];rw [if_neg (by simp)]
 rw [bX s1,bX s2,bS s3]
theorem acX {b:List UInt8} {G:Nat} (hb:b.length≤20000):iter (cL [b,nl]) (G+3) ([],0)=some (.inr (b++nl)):=by
 have s1:cL [b,nl] ([],0)=some (.cv (b,1)):=by
  simp only [cL]
  rw [if_pos (by simp),show idx [b,nl] 0=some b by simp [idx]]
  simp only [Option.bind_some]
  rw [c6 (by simp;omega) (by omega)]
  simp [wr]
 have s2:cL [b,nl] (b,1)=some (.cv (b++nl,2)):=by
  simp only [cL]
  rw [if_pos (by simp),show idx [b,nl] 1=some nl by simp [idx]]
  simp only [Option.bind_some]
  rw [c6 (by simp;omega) (by omega)]
  simp [wr]
 have s3:cL [b,nl] (b++nl,2)=some (.eC (b++nl)):=by
  simp only [cL];rw [if_neg (by simp)]
 rw [bX s1,bX s2,bS s3]
theorem X6 {b:List UInt8} (hb:b.length≤20000):lC b=some (decide (b=[]∨nl.isSuffixOf b=true)):=by
 unfold lC
 cases b with
 |nil=>rfl
 |cons c r=>
  rw [if_neg (by simp<;>omega),aaq hb]
  rw [Option.bind_some,Option.some.injEq,Bool.eq_iff_iff]
  simp
theorem X7 {n:Int} (h0:0≤n) (h1:n≤1000000000):j9 n=some []:=by
 unfold j9
 rw [if_neg (by omega),if_pos (by omega)]
theorem X8 {b:List UInt8} {F:Nat} (h1:iter (cK [b,nl]) F (0,0)=some (.inr ((b.length:Int)+2))) (h2:iter (cL [b,nl]) F ([],0)=some (.inr (b++nl)))
 (h3:j9 ((b.length:Int)+2)=some []):ij F [b,nl]=some (b++nl):=by
 unfold ij
 rw [h1]
 simp only [Option.bind_some]
 rw [h3]
 simp only [Option.bind_some]
 rw [h2]
 simp only [Option.bind_some]
theorem X9 {b:List UInt8} {F:Nat} (hb:b.length≤20000) (hF:3≤F):n5 F b=some (whole b):=by
 have hp:=X6 hb
 unfold n5 whole
 rw [hp]
 simp only [Option.bind_some,decide_eq_true_eq]
 by_cases h:b=[]∨nl.isSuffixOf b=true
 · rw [if_pos h,if_pos h]
   unfold tS
   rw [c6 (by simp;omega) (by omega)];simp
 · rw [if_neg h,if_neg h]
   obtain ⟨G,rfl⟩:∃G,F=G+3:=⟨F - 3,by omega⟩
   rw [X8 (acW hb) (acX hb) (X7 (by omega) (by omega))]
   simp only [Option.bind_some]
end Go.Proofs.cI
end
section
set_option maxRecDepth 100000
namespace Go.Proofs.cI
open Go Go.Am Go.Proofs
theorem aar {b:List UInt8} (hb:b.length≤20000):oB b nl=some (nl.isSuffixOf b):=by
 unfold oB mO
 by_cases h:2≤b.length
 · rw [if_pos (by simp;omega)]
   have e:IntKind.wrap .i64 ((b.length:Int) - ((nl:List UInt8).length:Int))=((b.length - 2:Nat):Int):=by rw [wr (by simp;omega) (by simp;omega)];simp;omega
   rw [e,iw (by omega)]
   simp only [Option.bind_some]
   congr 1
   by_cases h2:b.drop (b.length - 2)=nl
   · rw [(tA h).1 h2];simpa using h2
   · have:nl.isSuffixOf b=false:=by rw [Bool.eq_false_iff];exact fun h3=>h2 ((tA h).2 h3)
     rw [this];simpa using h2
 · rw [if_neg (by simp;omega),not_suffix (by omega)];rfl
theorem Ya {b:List UInt8} (hb:b.length≤19000):mP b=some (whole b):=by
 have hp:ja b=some (decide (b=[]∨nl.isSuffixOf b=true)):=by
  unfold ja
  by_cases h:b=[]
  · subst h;rfl
  · have h2:¬(b.length:Int)=0:=by have:=List.length_pos_iff.2 h;omega
    rw [if_neg (by simpa using h2),aar (by omega)]
    simp only [Option.bind_some,h,false_or,Bool.decide_eq_true]
 unfold mP
 rw [hp]
 simp only [Option.bind_some]
 unfold whole
 by_cases h:b=[]∨nl.isSuffixOf b=true
 · rw [if_pos (by simpa using h),if_pos h,c6 (by simp;omega) (by omega)];simp
 · rw [if_neg (by simpa using h),if_neg h,c6 (by simp;omega) (by omega)]
   simp only [Option.bind_some]
   rw [c6 (by simp;omega) (by omega)];simp
def Bc:Nat→List UInt8→List (List UInt8)
 |0,_=>[]
 |n+1,w=>match cg nl w with
  |none=>[]
  |some (x,more)=>x::Bc n more
theorem Ue:∀ {r x more:List UInt8},cg nl r=some (x,more)→∀m,m<x.length→¬(r[m]? =some 13∧r[m+1]? =some 10):=by
 intro r
 induction r with
 |nil=>intro x more h;cases h
 |cons c r ih=>
  intro x more h m hm
  unfold cg at h
  split at h
  · injection h with h;injection h with h1 h2;subst h1;simp at hm
  · rename_i hp
    rw [Option.map_eq_some_iff] at h
    obtain ⟨⟨a,b⟩,h1,h2⟩:=h
    injection h2 with h2 h3;subst h2;subst h3
    rintro ⟨e1,e2⟩
    cases m with
    |zero=>
     simp at e1 e2
     subst e1
     cases r with
     |nil=>simp at e2
     |cons d r=>simp at e2;subst e2;exact hp (by simp [List.isPrefixOf])
    |succ m=>
     exact ih h1 m (by simpa using hm) ⟨by simpa using e1,by simpa using e2⟩
theorem Nk {w rest x more:List UInt8} (hw:w.length≤20000) {k:Nat} (hd:w.drop k=rest) (hc:cg nl rest=some (x,more)) {out:List (List UInt8)} (ho:out.length≤20000):
 ∀(d m G:Nat),m+d=x.length→d<G→iter (ct w) G (out,(k:Int),((k+1+m:Nat):Int))=iter (ct w) (G - (d+1)) (out++[x],((k+x.length+2:Nat):Int),((k+x.length+2:Nat):Int)):=by
 have hx:=X5 hc
 have hl:rest.length=x.length+2+more.length:=by rw [hx];simp [nl];omega
 have hwl:w.length=k+rest.length:=by
  have:=congrArg List.length hd
  simp at this;omega
 have oT:∀j,w[k+j]? =rest[j]? :=by intro j;rw [←hd,List.getElem?_drop]
 intro d
 induction d with
 |zero=>
  intro m G hm hG
  obtain ⟨G,rfl⟩:=cu hG
  have e0:rest[m]? =some 13:=by rw [hx,show m=x.length by omega];simp [nl]
  have e1:rest[m+1]? =some 10:=by rw [hx,show m=x.length by omega];simp [nl]
  have hst:ct w (out,(k:Int),((k+1+m:Nat):Int))=some (.cv (out++[x],((k+x.length+2:Nat):Int),((k+x.length+2:Nat):Int))):=by
   simp only [ct,gC]
   have ew:IntKind.wrap .i64 (((k+1+m:Nat):Int) - 1)=((k+m:Nat):Int):=by rw [wr (by omega) (by omega)];omega
   rw [if_pos (by simp;omega),bh (x:=10) (by rw [show k+1+m=k+(m+1) by omega,oT,e1])]
   simp only [Option.bind_some]
   rw [if_pos (by simp),ew,bh (x:=13) (by rw [oT,e0])]
   simp only [Option.bind_some]
   rw [if_pos (by simp)]
   simp only [Option.bind_some]
   rw [if_pos (by simp;omega),oe (by omega) (by omega)]
   simp only [Option.bind_some]
   rw [c6 (by simp;omega) (by omega),wi (by omega)]
   simp only [Option.bind_some]
   have ex:(w.take (k+m)).drop k=x:=by
    rw [List.drop_take,hd,hx,show k+m - k=x.length by omega];simp
   rw [ex,show k+1+m+1=k+x.length+2 by omega]
  rw [bX hst];rfl
 |succ d ih=>
  intro m G hm hG
  obtain ⟨G,rfl⟩:=cu (show 0<G by omega)
  have hno:=Ue hc m (by omega)
  obtain ⟨c0,hc0⟩:∃c,rest[m]? =some c:=⟨_,List.getElem?_eq_getElem (by omega)⟩
  obtain ⟨c1,hc1⟩:∃c,rest[m+1]? =some c:=⟨_,List.getElem?_eq_getElem (by omega)⟩
  have hst:ct w (out,(k:Int),((k+1+m:Nat):Int))=some (.cv (out,(k:Int),((k+1+(m+1):Nat):Int))):=by
   simp only [ct,gC]
   have ew:IntKind.wrap .i64 (((k+1+m:Nat):Int) - 1)=((k+m:Nat):Int):=by rw [wr (by omega) (by omega)];omega
   rw [if_pos (by simp;omega),bh (x:=c1) (by rw [show k+1+m=k+(m+1) by omega,oT,hc1])]
   simp only [Option.bind_some]
   rw [wi (by omega),show k+1+m+1=k+1+(m+1) by omega]
   by_cases h1:c1=10
   · rw [if_pos (by simpa using h1),ew,bh (x:=c0) (by rw [oT,hc0])]
     simp only [Option.bind_some]
     have h0:¬c0=13:=fun h=>hno ⟨by rw [hc0,h],by rw [hc1,h1]⟩
     rw [if_neg (by simpa using h0)]
     rfl
   · rw [if_neg (by simpa using h1)]
     rfl
  rw [bX hst,ih (m+1) G (by omega) (by omega)]
  congr 1;omega
theorem Yb {w:List UInt8} (hw:w.length≤20000):∀(n:Nat) (rest:List UInt8) (k G:Nat) (out:List (List UInt8)),rest.length<n→w.drop k=rest→k≤w.length→Ends rest→rest.length<G→
 out.length+rest.length≤20000→iter (ct w) G (out,(k:Int),((k+1:Nat):Int))=some (.inr (out++Bc n rest)):=by
 intro n
 induction n with
 |zero=>intro rest k G out h;omega
 |succ n ih=>
  intro rest k G out hn hd hk he hG ho
  have hwl:w.length=k+rest.length:=by
   have:=congrArg List.length hd
   simp at this;omega
  by_cases hr:rest=[]
  · subst hr
    obtain ⟨G,rfl⟩:=cu hG
    rw [bS (t:=out) (by simp only [ct];rw [if_neg (by simp at hwl ⊢;omega)])]
    simp [Bc,cg]
  · obtain ⟨x,more,hc,hx,hm⟩:=Nj he hr
    have hl:rest.length=x.length+2+more.length:=by rw [hx];simp [nl];omega
    have h1:=Nk hw hd hc (out:=out) (by omega) x.length 0 G (by omega) (by omega)
    rw [show k+1+0=k+1 by rfl] at h1
    rw [h1]
    have Hp:w.drop (k+x.length+2)=more:=by
     rw [show k+x.length+2=k+(x.length+2) by omega, ←List.drop_drop,hd,hx]
     rw [show x.length+2=(x++nl).length by simp [nl]]
     simp
    obtain ⟨G2,hG2⟩:∃g,G - (x.length+1)=g+1:=⟨G - (x.length+1) - 1,by omega⟩
    rw [hG2]
    have ae0:Bc (n+1) rest=x::Bc n more:=by simp [Bc,hc]
    rw [ae0]
    by_cases hmo:more=[]
    · subst hmo
      rw [bS (t:=out++[x]) (by simp only [ct];rw [if_neg (by simp at hl ⊢;omega)])]
      cases n<;>simp [Bc,cg]
    · have hml:=List.length_pos_iff.2 hmo
      obtain ⟨c,hcx⟩:∃c,w[k+x.length+2]? =some c:=⟨_,List.getElem?_eq_getElem (by omega)⟩
      have Yc:∃c,w[k+x.length+1]? =some c:=⟨_,List.getElem?_eq_getElem (by omega)⟩
      obtain ⟨c0,Yc⟩:=Yc
      have hst:ct w (out++[x],((k+x.length+2:Nat):Int),((k+x.length+2:Nat):Int))=some (.cv (out++[x],((k+x.length+2:Nat):Int),((k+x.length+2+1:Nat):Int))):=by
       simp only [ct,gC]
       have ew:IntKind.wrap .i64 (((k+x.length+2:Nat):Int) - 1)=((k+x.length+1:Nat):Int):=by rw [wr (by omega) (by omega)];omega
       rw [if_pos (by simp;omega),bh hcx]
       simp only [Option.bind_some]
       rw [ew,bh Yc,wi (by omega)]
       by_cases h1:c=10
       · rw [if_pos (by simpa using h1)]
         simp only [Option.bind_some]
         by_cases h2:c0=13
         · rw [if_pos (by simpa using h2)]
           simp
         · rw [if_neg (by simpa using h2)]
           rfl
       · rw [if_neg (by simpa using h1)]
         rfl
      rw [bX hst,ih more _ G2 (out++[x]) (by omega) Hp (by omega) hm (by omega) (by simp;omega)]
      simp
theorem Yd {b:List UInt8} {F:Nat} (hb:b.length≤10000) (hF:10010<F):mQ F b=some (Bc ((whole b).length+1) (whole b)):=by
 have hw:=rD b
 unfold mQ
 rw [Ya (by omega)]
 simp only [Option.bind_some]
 have:=Yb (w:=whole b) (by omega) ((whole b).length+1) (whole b) 0 F [] (by omega) rfl (by omega) (D9 b) (by omega) (by simp;omega)
 rw [show ((0:Nat):Int)=0 from rfl,show ((0+1:Nat):Int)=1 from rfl] at this
 rw [this]
 simp
end Go.Proofs.cI
end
section
set_option maxRecDepth 100000
namespace Go.Proofs.cI
open Go Go.Am Go.Proofs
theorem Uf (n:Nat):mN (n+2000)=some true:=by kernel_rfl
end Go.Proofs.cI
end
section
set_option maxRecDepth 100000
namespace Go.Proofs.cI
open Go Go.Am Go.Proofs
theorem Ug:∀(n:Nat) (w:List UInt8),w.length<n→Ends w→Lib.split w nl=Bc n w++[[]]:=by
 intro n
 induction n with
 |zero=>intro w h;omega
 |succ n ih=>
  intro w h he
  by_cases hw:w=[]
  · subst hw
    have hi:Lib.index [] nl= -1:=by decide
    unfold Lib.split
    rw [Lib.count_miss hi]
    rfl
  · obtain ⟨x,more,hc,hx,hm⟩:=Nj he hw
    have hne:(nl:List UInt8)≠[]:=by decide
    rcases IV hne w with ⟨h1, -⟩|⟨i,h1,h2⟩
    · rw [hc] at h1;cases h1
    · rw [hc] at h2
      injection h2 with h2
      injection h2 with e1 e2
      have hi:=ih more (by rw [hx] at h;simp at h;omega) hm
      unfold Lib.split at hi ⊢
      rw [Lib.count_hit hne h1,Nat.add_comm 1]
      simp only [Lib.splitK,h1]
      have hb:((i:Int)== -1)=false:=by simp
      rw [hb]
      simp only [Bool.false_eq_true,if_false,Int.toNat_natCast,Nat.add_zero]
      rw [←e2,hi, ←e1]
      simp [Bc,hc]
theorem Cu:∀(n:Nat) (w:List UInt8),(Bc n w).length≤w.length∧∀x∈Bc n w,x.length≤w.length:=by
 intro n
 induction n with
 |zero=>intro w;simp [Bc]
 |succ n ih=>
  intro w
  unfold Bc
  cases hc:cg nl w with
  |none=>simp
  |some p=>
   obtain ⟨x,more⟩:=p
   have hx:=X5 hc
   have hl:w.length=x.length+2+more.length:=by rw [hx];simp [nl];omega
   have h1:=ih more
   refine ⟨by simp;omega, ?_⟩
   intro y hy
   simp only [List.mem_cons] at hy
   rcases hy with rfl|hy
   · omega
   · have:=h1.2 y hy;omega
def nM (b:List UInt8):List (List UInt8):=Bc ((whole b).length+1) (whole b)
theorem Ye {b:List UInt8} {F:Nat} (hb:b.length≤10000) (hF:3≤F):qy F b=some (nM b):=by
 unfold qy
 by_cases h:b=[]
 · subst h
   rw [if_pos (by simp)]
   rfl
 · have hl:0<b.length:=List.length_pos_iff.2 h
   have hw:=rD b
   rw [if_neg (by simp;omega),X9 (by omega) hF]
   simp only [Option.bind_some]
   have hs:strings_Split (whole b) nl=some (nM b++[[]]):=by
    unfold strings_Split
    rw [if_pos ⟨by omega,by decide⟩,Ug _ _ (Nat.lt_succ_self _) (D9 b)]
    rfl
   rw [hs]
   simp only [Option.bind_some]
   have vv:=(Cu ((whole b).length+1) (whole b)).1
   have aaU:(nM b).length≤(whole b).length:=vv
   have e:IntKind.wrap .i64 (((nM b++[[]]).length:Int) - 1)=((nM b).length:Int):=by rw [wr (by simp<;>omega) (by simp<;>omega)];simp
   rw [e,Ci (by simp)]
   simp
def Cw:List UInt8:=[70,105,110,97,108,45,82,101,99,105,112,105,101,110,116,58,32,114,102,99,56,50,50,59,32]
def DK (x:List UInt8):Bool:=decide (25≤x.length)&&decide (x.take 25=Cw)
def Cy (out:List ay) (x:List UInt8):List ay:=if DK x then if (pS (x.drop 25)).2=0 then out++[(pS (x.drop 25)).1] else out else out
def Cz (b:List UInt8):List ay:=(nM b).foldl Cy []
theorem ae1 {x:List UInt8} (hx:x.length≤100000):strings_CutPrefix x Cw=some (if DK x then (x.drop 25,true) else (x,false)):=by
 unfold strings_CutPrefix stringslite_CutPrefix stringslite_HasPrefix e4
 have hl:Cw.length=25:=rfl
 rw [hl]
 by_cases h:25≤x.length
 · rw [if_pos (by simp;omega),Ci (by omega)]
   simp only [Option.bind_some]
   by_cases h2:x.take 25=Cw
   · have hi:DK x=true:=by simp [DK,h,h2]
     rw [hi,if_neg (by simp [h2]),iw (by omega)]
     rfl
   · have hi:DK x=false:=by simp [DK,h2]
     rw [hi,if_pos (by simp [h2])]
     rfl
 · have hi:DK x=false:=by simp [DK,h]
   rw [if_neg (by simp;omega),hi]
   rfl
theorem Yf {b:List UInt8} {F:Nat} (hb:b.length≤4100) (hF:99010<F):jt F b=some (Cz b,decide (0<((Cz b).length:Int))):=by
 have hw:=rD b
 have vv:=Cu ((whole b).length+1) (whole b)
 have h1:(nM b).length≤(whole b).length:=vv.1
 have h2:∀x∈nM b,x.length≤(whole b).length:=vv.2
 unfold jt vO
 rw [c6 (by simp;omega) (by omega)]
 simp only [Option.bind_some,List.nil_append]
 rw [Ye (by omega) (by omega)]
 simp only [Option.bind_some]
 have hh:=lpo (ρ:=List ay×Bool) (s:=nM b) (body:=fZ F (nM b)) (mk:=fun (v:List ay) i=>(v,(i:Int))) (tt:=fun v=>v) (step:=Cy) (fun v i=>v.length≤i) ?_ ?_ (F:=F) (a:=[]) (by omega) (by simp)
 · rw [show (([]:List ay),(0:Int))=([],((0:Nat):Int)) from rfl,hh.1];rfl
 · intro v i c hc hI
   have hi:=(List.getElem?_eq_some_iff.1 hc).1
   have hcl:=h2 c (List.mem_of_getElem? hc)
   simp only [fZ]
   rw [if_pos (by simpa using hi),bh hc,Option.bind_some]
   have ec:=ae1 (x:=c) (by omega)
   unfold Cw at ec
   rw [ec,Option.bind_some]
   unfold Cy
   cases hf:DK c with
   |false=>
    simp only [Bool.false_eq_true,if_false,Bool.not_false,if_true]
    rw [Ni (by omega)]
    exact ⟨rfl,by omega⟩
   |true=>
    simp only [Bool.not_true,Bool.false_eq_true,if_false,if_true]
    rw [T0 (by simp;omega) (by simp;omega),Option.bind_some]
    by_cases hz:(pS (c.drop 25)).2=0
    · rw [if_pos (by simpa using hz),if_pos hz,c6 (by simp;omega) (by omega),Option.bind_some,Ni (by omega)]
      exact ⟨rfl,by simp;omega⟩
    · rw [if_neg (by simpa using hz),if_neg hz,Ni (by omega)]
      exact ⟨rfl,by omega⟩
 · intro v hI
   simp only [fZ]
   rw [if_neg (by simp)]
theorem Uh {b:List UInt8} {F:Nat} (hb:b.length≤4100) (hF:99010<F):nk F b=some (Cz b,decide (0<((Cz b).length:Int))):=by
 have hw:=rD b
 have vv:=Cu ((whole b).length+1) (whole b)
 have h1:(nM b).length≤(whole b).length:=vv.1
 have h2:∀x∈nM b,x.length≤(whole b).length:=vv.2
 unfold nk
 rw [Yd (by omega) (by omega)]
 simp only [Option.bind_some]
 have hh:=lpo (ρ:=List ay×Bool) (s:=nM b) (body:=gG F (nM b)) (mk:=fun (v:List ay) i=>(v,(i:Int))) (tt:=fun v=>v) (step:=Cy) (fun v i=>v.length≤i) ?_ ?_ (F:=F) (a:=[]) (by omega) (by simp)
 · have:=hh.1
   unfold nM at this
   rw [show (([]:List ay),(0:Int))=([],((0:Nat):Int)) from rfl,this];rfl
 · intro v i c hc hI
   have hi:=(List.getElem?_eq_some_iff.1 hc).1
   have hcl:=h2 c (List.mem_of_getElem? hc)
   have GK:jq (nM b) (i:Int)=some (decide (25<c.length)&&decide (c.take 25=Cw)):=by
    unfold jq
    rw [bh hc,Option.bind_some]
    have hl:([70,105,110,97,108,45,82,101,99,105,112,105,101,110,116,58,32,114,102,99,56,50,50,59,32]:List UInt8).length=25:=rfl
    rw [hl]
    by_cases h:25<c.length
    · rw [if_pos (by simp;omega),Ci (by omega)]
      simp [h,Cw]
      exact decide_eq_decide.2 Iff.rfl
    · rw [if_neg (by simp;omega)]
      simp [h]
   simp only [gG]
   rw [if_pos (by simpa using hi),GK,Option.bind_some]
   unfold Cy
   have CA:(pS []).2≠0:=by decide
   by_cases hlt:25<c.length
   · have hf:DK c=decide (c.take 25=Cw):=by simp [DK];omega
     rw [hf]
     by_cases hq:c.take 25=Cw
     · rw [if_pos (by simp [hlt,hq]),if_pos (by simpa using hq),bh hc,Option.bind_some]
       have hl:([70,105,110,97,108,45,82,101,99,105,112,105,101,110,116,58,32,114,102,99,56,50,50,59,32]:List UInt8).length=25:=rfl
       rw [hl,iw (by omega),Option.bind_some,X4 (by simp;omega) (by omega),Option.bind_some]
       by_cases hz:(pS (c.drop 25)).2=0
       · rw [if_pos (by simpa using hz),if_pos hz,c6 (by simp;omega) (by omega),Option.bind_some,Ni (by omega)]
         exact ⟨rfl,by simp;omega⟩
       · rw [if_neg (by simpa using hz),if_neg hz,Ni (by omega)]
         exact ⟨rfl,by omega⟩
     · rw [if_neg (by simp [hq]),if_neg (by simpa using hq),Ni (by omega)]
       exact ⟨rfl,by omega⟩
   · rw [if_neg (by simp [hlt]),Ni (by omega)]
     refine ⟨?_, ?_⟩
     · congr 3
       by_cases hf:DK c=true
       · have hd:c.drop 25=[]:=List.drop_eq_nil_of_le (by omega)
         rw [if_pos hf,hd,if_neg CA]
       · rw [if_neg hf]
     · by_cases hf:DK c=true
       · have hd:c.drop 25=[]:=List.drop_eq_nil_of_le (by omega)
         rw [if_pos hf,hd,if_neg CA];omega
       · rw [if_neg hf];omega
 · intro v hI
   simp only [gG]
   rw [if_neg (by simp)]
theorem He {b:List UInt8} {F:Nat} (hF:200000<F):gl F b=some true:=by
 unfold gl
 have hk:mN F=some true:=by
  have:=Uf (F - 2000)
  rwa [show F - 2000+2000=F by omega] at this
 rw [hk]
 simp only [Option.bind_some,Bool.not_true,Bool.false_eq_true,if_false]
 by_cases h:(4096:Int)<(b.length:Int)
 · rw [if_pos (by simpa using h)]
 · rw [if_neg (by simpa using h),Yf (by omega) (by omega),Uh (by omega) (by omega)]
   simp only [Option.bind_some]
   rw [if_neg (by simp)]
   have hw:=rD b
   have hpl:(Cz b).length≤10000:=by
    have h1:(nM b).length≤(whole b).length:=(Cu ((whole b).length+1) (whole b)).1
    have:∀(l:List (List UInt8)) (o:List ay),(l.foldl Cy o).length≤o.length+l.length:=by
     intro l
     induction l with
     |nil=>intro o;simp
     |cons x l ih=>
      intro o
      have:=ih (Cy o x)
      have h3:(Cy o x).length≤o.length+1:=by unfold Cy;split<;>(try split)<;>simp
      simp only [List.foldl_cons,List.length_cons];omega
    have:=this (nM b) []
    unfold Cz
    simp at this;omega
   have hh:=acV (s:=Cz b) (body:=dQ (Cz b) (Cz b)) (mk:=fun i=>(i:Int)) (p:=fun _=>true) (rr:=fun _=>false) (tt:=()) (F:=F) ?_ ?_ ?_ (by omega)
   · rw [show (0:Int)=((0:Nat):Int) from rfl,hh.1 (by simp)];rfl
   · intro i x hx hp
     have hi:=(List.getElem?_eq_some_iff.1 hx).1
     simp only [dQ]
     rw [if_pos (by simpa using hi),bh hx]
     simp only [Option.bind_some]
     rw [if_neg (by simp),Ni (by omega)]
   · intro i x hx hp
     cases hp
   · simp only [dQ]
     rw [if_neg (by simp)]
theorem DL (b:List UInt8):∃F,gl F b=some true:=⟨200001,He (by omega)⟩
end Go.Proofs.cI
end
section
namespace Go.Am
open Go Go.RowKit
variable [Tabs]
def C0 (W:World) (b:Nat):List Value:=match W.heap[b]? with
 |some (.cells cs _ _)=>cs.toList
 |_=>[]
theorem aA.row {P:Program} {f:Nat} {args:List AV} {R:AV→AH→Prop} (h:aA P f args [] R) {W:World} {vs:Array Value} (htab:∀e∈Tabs.l,∃cs ty fr,W.heap[e.1]? =some (.cells cs ty fr)∧e.2 cs) (hl:vs.size=args.length)
 (hv:∀(i:Nat) (a:AV),args[i]? =some a→VR (C0 W) [] a (vs.getD i undef)∧TC W (C0 W) a (vs.getD i undef)∧a.plain=true):
 Calls P f vs W fun e w'=>∃r v aE γ' C',e= .returned v∧R r aE∧VR C' γ' r v∧Below W.heap.size W w':=by
 have hg:∀t,get (fL 0 args) t=(args[t]?).getD .un:=fun t=>by rw [dH];simp
 have hno:∀p b,¬blk [] (fL 0 args) [] vs W p b:=by
  intro p b hp
  cases p with
  |obj s=>simp [blk] at hp
  |cell s i=>obtain ⟨cs,a,b0,h1, -⟩:=hp;simp at h1
  |tmp t=>
   simp only [blk,hg] at hp
   cases ht:args[t]? with
   |none=>rw [ht] at hp;simp [bG] at hp
   |some a=>rw [ht] at hp;simp only [Option.getD_some] at hp;rw [jr _ (iH (hv t a ht).2.2)] at hp;cases hp
 have hs:SR [] args.length (fun b=>b<W.heap.size) [] (C0 W) (fL 0 args) [] vs W:=by
  refine ⟨⟨rfl,fun s b cs hs=>by simp at hs,fun b hne=> ?_,fun s b cs hs=>by simp at hs,fun s b cs us ty fr hs=>by simp at hs,fun s b cs T hs=>by simp at hs⟩,hl,fun t=> ?_,fun p q b hp=>absurd hp (hno p b),fun p b hp=>absurd hp (hno p b),⟨fun b hb=>hb,fun e he=> ?_⟩,fun t l k xs ht=> ?_⟩
  · unfold C0 at hne ⊢
    split at hne
    · rename_i cs ty fr hb
      rw [hb]
      exact ⟨cs,ty,fr,rfl,List.prefix_refl _⟩
    · exact absurd rfl hne
  · rw [hg]
    cases ht:args[t]? with
    |none=>exact ⟨.un ..,by cases vs.getD t undef<;>trivial⟩
    |some a=>exact ⟨(hv t a ht).1,(hv t a ht).2.1⟩
  · obtain ⟨cs0,ty,fr,h2,h5⟩:=htab e he
    have h4:e.1<W.heap.size:=by
     rcases Nat.lt_or_ge e.1 W.heap.size with h3|h3
     · exact h3
     · rw [Array.getElem?_eq_none h3] at h2;cases h2
    exact ⟨h4,cs0,ty,fr,h2,h5⟩
  · rw [hg] at ht
    cases hq:args[t]? with
    |none=>rw [hq] at ht;simp at ht
    |some a=>rw [hq] at ht;exact absurd ht (yy (hv t a hq).2.2 l k xs)
 refine (h.2 _ [] (C0 W) W vs hs).mono ?_
 rintro e w' ⟨r,v,aE,γ',C',rfl,hR, -,hs',hx⟩
 refine ⟨r,v,aE,γ',C',rfl,hR, ?_,hx.out.1,hx.out.2.1,hx.out.2.2,hx.size,fun k hk=>(hx.keep k hk).1⟩
 have:=(hs'.env 0).1
 simpa [get] using this
end Go.Am
end
section
namespace Go.Am
open Go Go.RowKit Go.Deep
variable [Tabs]
theorem Nl {W:World} {b o:Nat} {v:Value} (h:W.cell? ⟨b,o,none⟩=some v):o<(C0 W b).length∧(C0 W b).getD o undef=v:=by
 unfold C0
 unfold World.cell? at h
 simp only at h
 split at h
 · rename_i cs ty fr hb
   rw [hb]
   simp only at h ⊢
   have hlt:o<cs.size:=by
    rcases Nat.lt_or_ge o cs.size with h'|h'
    · exact h'
    · rw [Array.getElem?_eq_none h'] at h;cases h
   rw [Array.getElem?_eq_getElem hlt] at h
   injection h with h
   refine ⟨by simpa using hlt, ?_⟩
   rw [List.getD_eq_getElem?_getD,List.getElem?_eq_getElem (by simpa using hlt)]
   simpa using h
 · cases h
section
variable {H:Type} {enc:TypeId×Value→H} {P:Program} {W:World} {sp:Nat→Bool} {held:Bool}
theorem afO {t e:TypeId} {A:Type} (g:A→AV) {v:Value} {d:DataW H} {ps:List MemPlace} {base:Nat} {r:Reach} (ht:P.underlying t=some (.slice e)) (hc:P.cellsOf e=1) (hval:Value.okWide P W r base t v)
 (h:DataW.Trod enc P W 0 sp held t v d ps)
 (hg:∀x,(g x).cells=[g x]) (he:∀n V y,DataW.trod enc P W 0 sp held n e [V]=some y→V.oneCell'=true∧∃x,VR (C0 W) [] (g x) V):∃xs:List A,VR (C0 W) [] (.sl .n 1 (xs.map g)) v:=by
 have hv:(v= .slice none 0 0)∨∃a len cap,v= .slice (some a) len cap∧a.spot=none:=by
  unfold Value.okWide at hval
  rw [ht] at hval
  simp only [Cell.okWide,ht,Cell.ok] at hval
  cases v with
  |slice a len cap=>
   cases a with
   |none=>cases len<;>cases cap<;>first|exact .inl rfl|exact hval.elim
   |some a=>exact .inr ⟨a,len,cap,rfl,hval.2.2.2.1⟩
  |_=>exact hval.elim
 obtain ⟨fuel,h⟩:=h
 rcases hv with rfl|⟨a,len,cap,rfl,hsp⟩
 · exact ⟨[], .tC ..⟩
 · rcases open_slice1 ht hc h with ⟨h0, -⟩|⟨a',len',cap',m,n,V,D,Pl,h1,hb,hl,hm,Hi,hx,hall⟩
   · simp [Value.cells] at h0
   · have h1:a'=a∧len'=len∧cap'=cap:=by simpa [Value.cells,eq_comm] using h1
     obtain ⟨rfl,rfl,rfl⟩:=h1
     have hlm:len'≤m:=by rw [Hi];split<;>omega
     have key:∀i,i<len'→∃x,VR (C0 W) [] (g x) (V i):=fun i hi=>(he n (V i) _ (hall i (by omega)).2).2
     obtain ⟨b,o,s⟩:=a'
     simp only at hsp
     subst hsp
     have hcell:∀i,i<len'→o+i<(C0 W b).length∧(C0 W b).getD (o+i) undef=V i:=fun i hi=>by
      have:=(hall i (by omega)).1
      rw [add_eq] at this
      exact Nl this
     by_cases h0:len'=0
     · subst h0;exact ⟨[], .tC ..⟩
     let f:Nat→A:=fun i=>if hi:i<len' then Classical.choose (key i hi) else Classical.choose (key 0 (by omega))
     have hf:∀i,i<len'→VR (C0 W) [] (g (f i)) (V i):=fun i hi=>by
      show VR (C0 W) [] (g (if hi:i<len' then Classical.choose (key i hi) else Classical.choose (key 0 (by omega)))) (V i)
      rw [dif_pos hi]
      exact Classical.choose_spec (key i hi)
     refine ⟨(List.range len').map f, .sl _ _ _ _ _ _ _ _ (by simp) hl (fun i a hi=> ?_) ?_ (fun q h1 h2=> ?_) fun i a hi j y hj=> ?_⟩
     · rw [List.getElem?_map,List.getElem?_map] at hi
       cases hr:(List.range len')[i]? with
       |none=>rw [hr] at hi;simp at hi
       |some q=>rw [hr] at hi;simp at hi;subst hi;rw [hg];rfl
     · have:=(hcell (len' - 1) (by omega)).1;omega
     · have:=hcell (q - o) (by omega)
       rw [show o+(q - o)=q by omega] at this
       rw [this.2]
       exact (he n (V (q - o)) _ (hall (q - o) (by omega)).2).1
     · rw [List.getElem?_map,List.getElem?_map] at hi
       cases hr:(List.range len')[i]? with
       |none=>rw [hr] at hi;simp at hi
       |some q=>
        rw [hr] at hi
        have hq:=(List.getElem?_eq_some_iff.1 hr)
        obtain ⟨hlt,hq⟩:=hq
        simp at hlt hq
        subst hq
        simp at hi
        subst hi
        rw [hg] at hj
        cases j with
        |zero=>
         simp at hj
         subst hj
         have:=hcell i hlt
         rw [Nat.mul_one,Nat.add_zero,this.2]
         exact hf i hlt
        |succ j=>simp at hj
end
end Go.Am
end
section
namespace Go.Am
open Go Go.RowKit Go.Deep
variable [Tabs]
def CR (W:World) (zq:List AV) (vs:List Value):Prop:=
 zq.length=vs.length∧(∀v∈vs,v.oneCell'=true)∧∀(j:Nat) (a:AV),zq[j]? =some a→VR (C0 W) [] a (vs.getD j undef)
theorem CR.nil {W:World}:CR W [] []:=⟨rfl,by simp,by simp⟩
theorem CR.one {W:World} {a:AV} {V:Value} (h:VR (C0 W) [] a V) (ho:V.oneCell'=true):CR W [a] [V]:=by
 refine ⟨rfl,by simpa using ho,fun j b hj=> ?_⟩
 rcases j with _|j
 · simp at hj;subst hj;simpa using h
 · simp at hj
theorem CR.append {W:World} {zq bs:List AV} {vs ws:List Value} (h:CR W zq vs) (h2:CR W bs ws):CR W (zq++bs) (vs++ws):=by
 refine ⟨by simp [h.1,h2.1],fun v hv=> ?_,fun j a hj=> ?_⟩
 · rcases List.mem_append.1 hv with hv|hv
   · exact h.2.1 v hv
   · exact h2.2.1 v hv
 · rw [List.getElem?_append] at hj
   split at hj
   · rename_i hlt
     have:=h.2.2 j a hj
     rw [List.getD_eq_getElem?_getD,List.getElem?_append_left (by rw [←h.1];exact hlt), ←List.getD_eq_getElem?_getD]
     exact this
   · rename_i hlt
     have:=h2.2.2 _ a hj
     rw [List.getD_eq_getElem?_getD,List.getElem?_append_right (by rw [←h.1];omega), ←List.getD_eq_getElem?_getD, ←h.1]
     exact this
def AV.Yg:AV→Bool
 | .sl .n _ _=>true
 | .sl _ _ _| .agg _| .bz _| .dy _| .dn _ _=>false
 |_=>true
def AV.acY:AV→Bool
 | .agg cs=>cs.all AV.Yg
 |a=>a.Yg
theorem TC.enc {w:World} {C:Nat→List Value} {a:AV} (h:a.acY=true) (v:Value):TC w C a v:=by
 have h1:∀(a:AV) (v:Value),a.Yg=true→mo a v:=by
  intro a v h
  cases a with
  |sl t k xs=>cases t<;>first|exact I6 .. |cases h
  |_=>first|(cases h;done)|(cases v<;>trivial)
 cases a with
 |agg cs=>
  cases v with
  |agg vs=>
   intro i a hi
   exact h1 a _ (List.all_eq_true.1 h a (List.mem_of_getElem? hi))
  |_=>trivial
 |sl t k xs=>cases t<;>first|(cases h;done)|(cases v<;>trivial)
 |_=>first|(cases h;done)|(cases v<;>trivial)
section
variable {H:Type} (enc:TypeId×Value→H) (P:Program) (W:World) (sp:Nat→Bool) (held:Bool)
def Op (t:TypeId) {A:Type} (f:A→AV):Prop:=∀n cs y,DataW.trod enc P W 0 sp held n t cs=some y→∃x:A,CR W (f x).cells cs
end
section
variable {H:Type} {enc:TypeId×Value→H} {P:Program} {W:World} {sp:Nat→Bool} {held:Bool}
theorem afr {t:TypeId} {k:IntKind} (ht:P.underlying t=some (.int k)):Op enc P W sp held t (rY k):=by
 intro n cs y h
 cases n with
 |zero=>simp [DataW.trod] at h
 |succ n=>
  rcases cs with _|⟨V,_|⟨V2,r⟩⟩
  · simp [DataW.trod,ht] at h
  · cases V<;>simp [DataW.trod,ht] at h
    rename_i k' z
    obtain ⟨⟨rfl,hw⟩, -⟩:=h
    exact ⟨z,CR.one (.int ..) rfl⟩
  · simp [DataW.trod,ht] at h
theorem acZ {t:TypeId} (ht:P.underlying t=some (.int .u8)):Op enc P W sp held t b8:=by
 intro n cs y h
 cases n with
 |zero=>simp [DataW.trod] at h
 |succ n=>
  rcases cs with _|⟨V,_|⟨V2,r⟩⟩
  · simp [DataW.trod,ht] at h
  · cases V<;>simp [DataW.trod,ht] at h
    rename_i k' z
    obtain ⟨⟨rfl,hw⟩, -⟩:=h
    have hz:0≤z∧z≤255:=by
     simp [Lit.wf,IntKind.min,IntKind.max,IntKind.bits,IntKind.signed] at hw
     omega
    refine ⟨UInt8.ofNat z.toNat,CR.one ?_ rfl⟩
    have:((UInt8.ofNat z.toNat).toNat:Int)=z:=by simp [UInt8.toNat_ofNat];omega
    simp only [b8,this]
    exact .int ..
  · simp [DataW.trod,ht] at h
theorem ae2 {t:TypeId} (ht:P.underlying t=some .bool):Op enc P W sp held t AV.bool:=by
 intro n cs y h
 cases n with
 |zero=>simp [DataW.trod] at h
 |succ n=>
  rcases cs with _|⟨V,_|⟨V2,r⟩⟩
  · simp [DataW.trod,ht] at h
  · cases V<;>simp [DataW.trod,ht] at h
    exact ⟨_,CR.one (.bool ..) rfl⟩
  · simp [DataW.trod,ht] at h
theorem afs {t:TypeId} (ht:P.underlying t=some .string):Op enc P W sp held t AV.str:=by
 intro n cs y h
 cases n with
 |zero=>simp [DataW.trod] at h
 |succ n=>
  rcases cs with _|⟨V,_|⟨V2,r⟩⟩
  · simp [DataW.trod,ht] at h
  · cases V<;>simp [DataW.trod,ht] at h
    rename_i s
    refine ⟨s.data.toList,CR.one ?_ rfl⟩
    have:s=⟨s.data.toList.toArray⟩:=by cases s;simp
    have h2:=VR.str (C:=C0 W) [] s.data.toList
    rwa [←this] at h2
  · simp [DataW.trod,ht] at h
theorem Nn {A:Type} {p:Nat→A→Prop}:∀(n:Nat),(∀i,i<n→∃x,p i x)→∃xs:List A,xs.length=n∧∀(i:Nat) (x:A),xs[i]? =some x→p i x:=by
 intro n
 induction n with
 |zero=>intro _;exact ⟨[],rfl,by simp⟩
 |succ n ih=>
  intro h
  obtain ⟨xs,h1,h2⟩:=ih fun i hi=>h i (by omega)
  obtain ⟨x,hx⟩:=h n (by omega)
  refine ⟨xs++[x],by simp [h1],fun i y hy=> ?_⟩
  rw [List.getElem?_append] at hy
  split at hy
  · exact h2 i y hy
  · rename_i hlt
    have:i=n:=by
     have:=(List.getElem?_eq_some_iff.1 hy).1
     simp at this;omega
    subst this
    rw [h1] at hy;simp at hy;subst hy;exact hx
theorem ac0 {t e:TypeId} {k:Nat} {A:Type} {f:A→AV} (ht:P.underlying t=some (.slice e)) (hk:P.cellsOf e=k) (hk0:0<k) (hop:Op enc P W sp held e f) (hf:∀x,(f x).cells.length=k):
 Op enc P W sp held t (fun xs:List A=>AV.sl .n k (ml f xs)):=by
 intro n cs y h
 rcases open_slice ht h with ⟨rfl, -⟩|⟨a,len,cap,m,fu,D,Pl,rfl,hb,hl,hm,Hi, -,hx⟩
 · exact ⟨[],CR.one (.tC ..) rfl⟩
 have hlm:len≤m:=by rw [Hi];split<;>omega
 by_cases h0:len=0
 · subst h0;exact ⟨[],CR.one (.tC ..) rfl⟩
 subst hk
 have hel:∀i,i<len→∃x:A,∃cs',W.cells? 0 (a.add (i*P.cellsOf e)) (P.cellsOf e)=some cs'∧CR W (f x).cells cs':=fun i hi=>by
  obtain ⟨cs',h1,h2⟩:=hx i (by omega)
  obtain ⟨x,hc⟩:=hop _ _ _ h2
  exact ⟨x,cs',h1,hc⟩
 have hsp:a.spot=none:=by
  obtain ⟨x,cs',h1,hc⟩:=hel 0 (by omega)
  obtain ⟨-,h2,h3⟩:=World.cells?_some h1
  have h4:=h3 0 hk0
  have h5:(a.add (0*P.cellsOf e)).add 0=a:=by simp [Addr.add]
  rw [h5,List.getElem?_eq_getElem (by omega)] at h4
  unfold World.cell? at h4
  split at h4
  · split at h4
    · cases h4
    · rename_i hq;cases hs:a.spot<;>simp_all
  · cases h4
 obtain ⟨b,o,s⟩:=a
 simp only at hsp
 subst hsp
 obtain ⟨xs,hlen,hxs⟩:=Nn len hel
 have hcell:∀(i:Nat) (x:A),xs[i]? =some x→∃cs',CR W (f x).cells cs'∧cs'.length=P.cellsOf e∧∀j,j<P.cellsOf e→o+i*P.cellsOf e+j<(C0 W b).length∧(C0 W b).getD (o+i*P.cellsOf e+j) undef=cs'.getD j undef:=fun i x hi=>by
  obtain ⟨cs',h1,hc⟩:=hxs i x hi
  obtain ⟨-,h2,h3⟩:=World.cells?_some h1
  refine ⟨cs',hc,h2,fun j hj=> ?_⟩
  have h4:=h3 j hj
  rw [add_add,add_eq,List.getElem?_eq_getElem (by omega)] at h4
  have:=Nl h4
  rw [Nat.add_assoc,List.getD_eq_getElem?_getD (l:=cs'),List.getElem?_eq_getElem (by omega)]
  exact this
 refine ⟨xs,CR.one (.sl _ _ _ _ _ _ _ _ (by rw [yC,hlen]) hl (fun i a hi=> ?_) ?_ (fun q h1 h2=> ?_) fun i a hi j y hj=> ?_) rfl⟩
 · rw [ml,List.getElem?_map] at hi
   cases hr:xs[i]? with
   |none=>rw [hr] at hi;simp at hi
   |some x=>rw [hr] at hi;simp at hi;subst hi;exact hf x
 · have ND:len - 1<xs.length:=by omega
   obtain ⟨cs', -, -,h3⟩:=hcell (len - 1) _ (List.getElem?_eq_getElem ND)
   have:=(h3 (P.cellsOf e - 1) (by omega)).1
   have h5:len*P.cellsOf e=(len - 1)*P.cellsOf e+P.cellsOf e:=by
    conv=>lhs;rw [show len=(len - 1)+1 by omega,Nat.succ_mul]
   omega
 · have hq:q - o<len*P.cellsOf e:=by omega
   have hi:(q - o) / P.cellsOf e<len:=Nat.div_lt_of_lt_mul (by rw [Nat.mul_comm];exact hq)
   have hj:(q - o) % P.cellsOf e<P.cellsOf e:=Nat.mod_lt _ hk0
   obtain ⟨cs',hc,h2,h3⟩:=hcell ((q - o) / P.cellsOf e) _ (List.getElem?_eq_getElem (by omega))
   have h4:=(h3 _ hj).2
   have h5:o+(q - o) / P.cellsOf e*P.cellsOf e+(q - o) % P.cellsOf e=q:=by
    have:=Nat.div_add_mod (q - o) (P.cellsOf e)
    rw [Nat.mul_comm] at this
    omega
   rw [h5] at h4
   rw [h4,List.getD_eq_getElem?_getD,List.getElem?_eq_getElem (by omega)]
   exact hc.2.1 _ (List.getElem_mem ..)
 · rw [ml,List.getElem?_map] at hi
   cases hr:xs[i]? with
   |none=>rw [hr] at hi;simp at hi
   |some x=>
    rw [hr] at hi;simp at hi;subst hi
    obtain ⟨cs',hc,h2,h3⟩:=hcell i x hr
    have hjl:j<P.cellsOf e:=by rw [←hf x];exact (List.getElem?_eq_some_iff.1 hj).1
    rw [(h3 j hjl).2]
    exact hc.2.2 j y hj
theorem ac1 {t:TypeId} {fs:Array Field} {A:Type} {f:A→AV} (ht:P.underlying t=some (.struct fs))
 (hb:∀cs:List Value,cs.length=P.cellsOf t→(∀(i:Nat) (fl:Field),fs[i]? =some fl→∃n y,DataW.trod enc P W 0 sp held n fl.type ((cs.drop fl.offset).take (P.cellsOf fl.type))=some y)→∃x,CR W (f x).cells cs):
 Op enc P W sp held t f:=by
 intro n cs y h
 obtain ⟨xs,m, -, -,hl,hlen,hf⟩:=DataW.trod_struct ht h
 refine hb cs hl fun i fl hfl=> ?_
 have hlt:i<xs.length:=by rw [hlen];exact (Array.getElem?_eq_some_iff.1 hfl).1
 exact ⟨m,xs[i],by rw [hf i fl hfl,List.getElem?_eq_getElem hlt]⟩
theorem seg {cs:List Value} {o k:Nat}:(cs.drop o).take k++cs.drop (o+k)=cs.drop o:=by
 rw [←List.drop_drop,List.take_append_drop]
theorem Op.arg1 {t:TypeId} {A:Type} {f:A→AV} (hop:Op enc P W sp held t f) (hf:∀x,(f x).cells=[f x]) {v:Value} {d:DataW H} {ps:List MemPlace} {r:Reach} {base:Nat} (hs:∀cs,¬Value.okWide P W r base t (.agg cs))
 (hval:Value.okWide P W r base t v) (h:DataW.Trod enc P W 0 sp held t v d ps):∃x,VR (C0 W) [] (f x) v:=by
 obtain ⟨fuel,h⟩:=h
 obtain ⟨x,h1, -,h3⟩:=hop _ _ _ h
 rw [hf] at h1 h3
 have hc:v.cells.toList=[v]:=by
  cases v with
  |agg cs=>exact absurd hval (hs cs)
  |_=>rfl
 rw [hc] at h3
 exact ⟨x,by simpa using h3 0 (f x) rfl⟩
theorem Op.agh {t:TypeId} {A:Type} {f:A→AV} (hop:Op enc P W sp held t f) {fs:Array Field} (ht:P.underlying t=some (.struct fs)) (hf:∀x,f x= .agg (f x).cells) {v:Value} {d:DataW H} {ps:List MemPlace} {r:Reach} {base:Nat}
 (hval:Value.okWide P W r base t v) (h:DataW.Trod enc P W 0 sp held t v d ps):∃x,VR (C0 W) [] (f x) v:=by
 obtain ⟨fuel,h⟩:=h
 obtain ⟨x,h1, -,h3⟩:=hop _ _ _ h
 unfold Value.okWide at hval
 rw [ht] at hval
 obtain ⟨cs,rfl, -, -⟩:=hval
 refine ⟨x, ?_⟩
 rw [hf x]
 refine .agg _ _ _ (by simpa [Value.cells] using h1) fun i a hi=> ?_
 have:=h3 i a hi
 simpa [Value.cells,Array.getD_eq_getD_getElem?,List.getD_eq_getElem?_getD] using this
theorem ac2 {t:TypeId} {k:IntKind} {r:Reach} {base:Nat} (ht:P.underlying t=some (.int k)) (cs:Array Value):¬Value.okWide P W r base t (.agg cs):=by
 simp [Value.okWide,Cell.okWide,Cell.ok,ht]
theorem aaV {t:TypeId} {r:Reach} {base:Nat} (ht:P.underlying t=some .bool) (cs:Array Value):¬Value.okWide P W r base t (.agg cs):=by
 simp [Value.okWide,Cell.okWide,Cell.ok,ht]
theorem ac3 {t:TypeId} {r:Reach} {base:Nat} (ht:P.underlying t=some .string) (cs:Array Value):¬Value.okWide P W r base t (.agg cs):=by
 simp [Value.okWide,Cell.okWide,Cell.ok,ht]
theorem Ui {t e:TypeId} {r:Reach} {base:Nat} (ht:P.underlying t=some (.slice e)) (cs:Array Value):¬Value.okWide P W r base t (.agg cs):=by
 simp [Value.okWide,Cell.okWide,Cell.ok,ht]
theorem Hf {ts:List TypeId} (hl:laidOutB P=true) {W W':World} (hb:Below W.heap.size W W'):∀ {vs:List Value} {ds:List (DataW H)} {ps:List MemPlace},(∀t∈ts,P.readableRec t=true∧t<P.types.size)→
 DataW.TrodAll enc P W 0 (fun _=>true) true ts vs ds ps→(∀x∈ps,x.block<W.heap.size)→DataW.TrodAll enc P W' 0 (fun b=>decide (b<W.heap.size)) true ts vs ds ps:=by
 induction ts with
 |nil=>
  intro vs ds ps _ h _
  cases vs<;>cases ds<;>simp [DataW.TrodAll] at h ⊢
  exact h
 |cons t ts ih=>
  intro vs ds ps ht h hlt
  cases vs<;>cases ds<;>simp only [DataW.TrodAll] at h ⊢
  obtain ⟨p,q,h1,h2,rfl⟩:=h
  exact ⟨p,q,Below.trod hl (ht t (by simp)).1 (ht t (by simp)).2 h1 hb (fun x hx=>hlt x (by simp [hx])),ih (fun t h=>ht t (by simp [h])) h2 (fun x hx=>hlt x (by simp [hx])),rfl⟩
end
end Go.Am
end
section
namespace Go.Proofs.YtomkmghgppgegaaGreatDoor
open Go.ChangeShapes Go.WideShapes Go.ChangeAt Go.RowKit Go.Am Go.Proofs.cI
theorem Own.own:ownKnob Tryz.prog.godebug=none:=by kernel_rfl
theorem Own.laidOut:laidOutB Tryz.prog=true:=by kernel_rfl
def vo:List (String×DataW Unit):=[("math/bits.deBruijn32tab",Rows.laid_math_bits_deBruijn32tab),("math/bits.deBruijn64tab",Rows.laid_math_bits_deBruijn64tab),("internal/strconv.uint64pow10",Rows.laid_internal_strconv_uint64pow10),("unicode/utf8.acceptRanges",Rows.laid_unicode_utf8_acceptRanges),("strconv.ErrRange",Rows.laid_strconv_ErrRange),("strconv.ErrSyntax",Rows.laid_strconv_ErrSyntax),("unicode/utf8.first",Rows.laid_unicode_utf8_first)]
noncomputable def Bd (os:Os):World:=
 {World.doorLaid Tryz.prog 4000 os with heap:=(World.doorLaid Tryz.prog 4000 os).heap.modify 2 fun
  | .cells _ t fr=> .cells (Go.Pinned.utf8FirstZ.map fun n:Nat=>Value.int .u8 (n:Int)).toArray t fr
  |o=>o}
set_option maxRecDepth 100000 in
theorem Uj (os:Os) (args:Array Value):laidMetH Tryz.prog vo ((Bd os).forCall (fun _ _=>0) ⟨#[],args,[]⟩).memory:=
 laidMetH_of_parts3 (fuel:=8) (laidMet_of_run' 8 (by kernel_rfl) (by kernel_rfl)) (by kernel_rfl) (by kernel_rfl)
set_option maxRecDepth 100000 in
theorem KX (os:Os) (args:Array Value):((Bd os).forCall (fun _ _=>0) ⟨#[],args,[]⟩).Shaped Tryz.prog:=World.shaped_of_RefB (by kernel_rfl) (by kernel_rfl)
end Go.Proofs.YtomkmghgppgegaaGreatDoor
end
section
namespace Go.Proofs.YtomkmghgppgegaaGreatDoor
open Go.ChangeShapes Go.WideShapes Go.ChangeAt Go.RowKit Go.Am Go.Proofs.cI
theorem IW {t:TypeId} {ms:Array (String×TypeId)} (ht:Tryz.prog.underlying t=some (.interface ms)) {H:Type} {enc:TypeId×Value→H} {W:World} {sp:Nat→Bool} {held:Bool} {fuel:Nat} {cs:List Value} {y:DataW H×List MemPlace}
 (h:DataW.trod enc Tryz.prog W 0 sp held fuel t cs=some y):∃ev,cs=[ev]∧(ev= .nilIface∨∃te pe,ev= .iface te pe):=by
 cases fuel with
 |zero=>simp [DataW.trod] at h
 |succ n=>
  rcases cs with _|⟨v,_|⟨v2,r⟩⟩
  · simp [DataW.trod,ht] at h
  · cases v<;>first|exact ⟨_,rfl, .inl rfl⟩|exact ⟨_,rfl, .inr ⟨_,_,rfl⟩⟩|(exfalso;simp [DataW.trod,ht] at h)
  · cases v<;>simp [DataW.trod,ht] at h
theorem Be {W:World} {name:String} {g:Nat} {cs:Array Value} (hg:Tryz.prog.globalNamed name=some g) (h:W.var? Tryz.prog name=some cs):∃t fr,W.heap[g]? =some (.cells cs t fr):=by
 simp only [World.var?,hg,Option.bind_some] at h
 split at h
 · rename_i c t fr hb
   injection h with h
   subst h
   exact ⟨t,fr,hb⟩
 · cases h
theorem Qg {W:World} (hs:W.ShapedOpen Tryz.prog) (h:laidMetH Tryz.prog vo W):∀e∈Tabs.l,∃cs ty fr,W.heap[e.1]? =some (.cells cs ty fr)∧e.2 cs:=by
 rw [MakeChecks.laidMetH_plain _ _ _ (by kernel_rfl)] at h
 obtain ⟨ps,⟨g0,t0,cs0,f0,p0,q0,YJ,ht0,hv0,hd0,⟨g1,t1,YN,f1,p1,q1,YT,ht1,hv1,hd1,⟨g2,t2,cs2,f2,p2,q2,hg2,ht2,Hg,Hp,⟨g3,t3,cs3,f3,p3,q3,hg3,ht3,hv3,hd3,⟨g4,t4,cs4,f4,p4,q4,hg4,ht4,hv4,hd4,⟨g5,t5,cs5,f5,p5,q5,hg5,ht5,hv5,hd5,_,_⟩,_⟩,_⟩,_⟩,_⟩,_⟩,_⟩:=h
 intro e he
 simp only [Tabs.l,List.mem_cons,List.mem_nil_iff,or_false] at he
 rcases he with rfl|rfl|rfl|rfl
 · obtain ⟨cs,hh,hsz, -⟩:=hs.1 0 #[.int .i64 0] 3 (of_decide_eq_true (by kernel_rfl)) (by kernel_rfl)
   obtain ⟨m,hm⟩:=cell_of_shapedOpen_int (g:=0) (t:=3) (k:= .i64) (zero:= #[.int .i64 0]) hs (of_decide_eq_true (by kernel_rfl)) (by kernel_rfl) rfl (by kernel_rfl) (by kernel_rfl) (by kernel_rfl)
   refine ⟨cs,_,_,hh,m, ?_⟩
   have h1:cs.size=1:=hsz
   apply Array.ext
   · exact h1
   · intro i hi _
     have:i=0:=by omega
     subst this
     simpa [World.cell?,hh,h1] using hm
 · have hg:Tryz.prog.globalNamed "internal/strconv.uint64pow10" =some 1:=by kernel_rfl
   obtain rfl:=Option.some.inj (hg.symm.trans hg2)
   obtain rfl:=Option.some.inj ((show (Tryz.prog.globals[1]?).map (·.type)=some 154 by kernel_rfl).symm.trans ht2)
   have hc:cs2.toList=Lib.pow10Tab.map fun z=>Value.int .u64 z:=Lib.cells_of_tab (n:=20) (e:=143) (k:= .u64) Tryz.underlying154 (by kernel_rfl) (by kernel_rfl) (by kernel_rfl) Hp
   obtain ⟨t,fr,hb⟩:=Be hg Hg
   refine ⟨cs2,t,fr,hb, ?_⟩
   simp only [←hc,Array.toArray_toList]
 · have hg:Tryz.prog.globalNamed "strconv.ErrSyntax" =some 4:=by kernel_rfl
   obtain rfl:=Option.some.inj (hg.symm.trans hg5)
   obtain rfl:=Option.some.inj ((show (Tryz.prog.globals[4]?).map (·.type)=some 78 by kernel_rfl).symm.trans ht5)
   obtain ⟨ev,he,hev⟩:=IW Tryz.underlying78 hd5
   obtain ⟨t,fr,hb⟩:=Be hg hv5
   exact ⟨cs5,t,fr,hb,ev,by rw [←Array.toArray_toList (xs:=cs5),he],hev⟩
 · have hg:Tryz.prog.globalNamed "strconv.ErrRange" =some 5:=by kernel_rfl
   obtain rfl:=Option.some.inj (hg.symm.trans hg4)
   obtain rfl:=Option.some.inj ((show (Tryz.prog.globals[5]?).map (·.type)=some 78 by kernel_rfl).symm.trans ht4)
   obtain ⟨ev,he,hev⟩:=IW Tryz.underlying78 hd4
   obtain ⟨t,fr,hb⟩:=Be hg hv4
   exact ⟨cs4,t,fr,hb,ev,by rw [←Array.toArray_toList (xs:=cs4),he],hev⟩
section
variable {H:Type} {enc:TypeId×Value→H}
theorem DM {a:Assume} {C:Checked} {os:Os} {f:FuncId} {fn:Func} {s:ChangeSpec} {conds:List PathCond} {apart fresh handsOn again:Bool} {X:World→Array Value→Prop}
 (hX:∀(w w':World) (args:Array Value),w.heap=w'.heap→X w args→X w' args)
 (own:ownKnob C.prog.godebug=none) (started:os.Started) (noInit:C.prog.inits.idxOf? f=none) (hfn:C.prog.funcs[f]? =some fn)
 (witness:∃(w:World) (tape:Tape) (i:Input),w.os=os∧(w.forCall tape i).Shaped C.prog∧i.vars=[]∧Input.okWide C.prog (w.forCall tape i) .any w.heap.size f i∧
  ((s.pre enc C.prog fn conds apart (w.forCall tape i).memory i.args∧X (w.forCall tape i).memory i.args)∧sizedMet enc C.prog fn (OpenSpec.ofChange s) apart (w.forCall tape i).memory i.args)∧a.holds C.prog (lone (Frame.enter C.prog f i.args .normal) [] (w.forCall tape i)))
 (contract:∀(W:World) (base:Nat) (args:Array Value) (ds gs:List (DataW H)) (before:List MemPlace),
  (∀(j:Nat) t v,fn.params[j]? =some t→args[j]? =some v→Value.okWide C.prog W .any base t v)→
  DataW.Whole enc C.prog fn.params.toList s.vars apart W args.toList ds gs before→W.ShapedOpen C.prog→X W args→
  Calls C.prog f args W fun e W'=>∃v,e= .returned v∧s.post enc C.prog fn apart fresh handsOn again W args v W'):
 ReturnsInHanded a C os f .any (fun w args=>(s.pre enc C.prog fn conds apart w args∧X w args)∧sizedMet enc C.prog fn (OpenSpec.ofChange s) apart w args) (s.post enc C.prog fn apart fresh handsOn again):=by
 refine returnsInHanded_of_calls own started noInit witness ?_
 rintro w tape i - aas - ⟨-, -, -,fn2,ae3, -, -, -, -,ac4⟩ ⟨⟨⟨ds,gs,before,aat, -⟩,hx⟩, -⟩ -
 obtain rfl:fn2=fn:=Option.some.inj (ae3.symm.trans hfn)
 refine (contract (w.forCall tape i) _ i.args ds gs before ac4 (DataW.Whole.of_heap (w':=w.forCall tape i) (by rfl) aat) aas (hX _ _ _ (by rfl) hx)).mono ?_
 rintro e W' ⟨v,rfl,hp⟩
 exact ChangeSpec.post_blind hp
end
theorem ae4 {P:Program} {W:World} {r:Reach} {base:Nat} {t:TypeId} {k:IntKind} (ht:P.underlying t=some (.int k)) {C:Nat→List Value} {γ:List Nat} {x:Int} {v:Value} (hv:VR C γ (.int k x) v) (h:Value.okWide P W r base t v):k.has x:=by
 obtain rfl:=hv.dh
 unfold Value.okWide at h
 rw [ht] at h
 unfold Cell.okWide Cell.ok at h
 rw [ht] at h
 exact h.2
end Go.Proofs.YtomkmghgppgegaaGreatDoor
end
section
namespace Go.Proofs.YtomkmghgppgegaaGreatDoor
open Go.ChangeShapes Go.WideShapes Go.ChangeAt Go.RowKit Go.Am Go.Proofs.cI
set_option maxRecDepth 100000 in
theorem zk (os:Os) (started:os.Started) (H:Type) (enc:TypeId×Value→H):
 ReturnsInHanded {} Tryz.checked os 3 .any (fun w args=>(Rows.bounceTextsSpec.pre enc Tryz.prog Tryz.f3 [] false w args∧laidMetH Tryz.prog vo w)∧sizedMet enc Tryz.prog Tryz.f3 (OpenSpec.ofChange Rows.bounceTextsSpec) false w args) (Rows.bounceTextsSpec.post enc Tryz.prog Tryz.f3 false true false false):=by
 refine DM (C:=Tryz.checked) (X:=fun w _=>laidMetH Tryz.prog vo w) (fun _ _ _ hh h=>h.of_heap hh) Own.own started (by kernel_rfl) Tryz.func3
  (ChangeSpec.witness_shaped (enc:=enc) (C:=Tryz.checked) (os:=os) (X:=fun w _=>laidMetH Tryz.prog vo w) false (Bd os) #[.slice none 0 0] 8 rfl (KX os _) (by kernel_rfl) (by kernel_rfl) (by kernel_rfl) (Uj os _)) ?_
 intro W base args ds gs before ac5 hW hS hL
 have hval:∀(j:Nat) t v,Tryz.f3.params[j]? =some t→args[j]? =some v→Value.okWide Tryz.prog W .any base t v:=ac5
 have hW':=hW
 obtain ⟨p,q,hA0,hV,rfl,hfz,hnd⟩:=hW
 have hA:DataW.TrodAll enc Tryz.prog W 0 (fun _=>true) true Tryz.f3.params.toList args.toList ds p:=hA0
 have hA1:=hA
 rw [Tryz.params3] at hA hval
 obtain ⟨vs,hvs⟩:∃vs,vs=args.toList:=⟨_,rfl⟩
 rw [←hvs] at hA
 obtain ⟨v0,vs0,d0,ds0,p0,q0,e0,rfl,rfl,h0,hA⟩:=trodAll_cons hA
 obtain ⟨e1,rfl,rfl⟩:=trodAll_nil hA
 have hargs:args= #[v0]:=by
  apply Array.ext';rw [←hvs,e0,e1]
 subst hargs
 obtain ⟨rfl,rfl⟩:=trodVars_none hV
 obtain ⟨x0,a0⟩:=Op.arg1 (f:=(fun xs=>AV.sl .n 1 (ml b8 xs))) (ac0 (e:=5) (k:=1) (f:=b8) (by kernel_rfl) (by kernel_rfl) (by decide) (acZ (by kernel_rfl)) (fun _=>rfl)) (fun _=>rfl) (fun cs=>Ui (e:=5) (by kernel_rfl) cs) (hval 0 22 v0 rfl rfl) h0
 have hlt:∀x∈p0++([]),x.block<W.heap.size:=fun x hx=>hW'.lt x (by simpa using hx)
 obtain ⟨F,hF⟩:=DL x0
 refine ((xk (H0:=[]) hF).row (vs:= #[v0]) (Qg hS hL) rfl ?_).mono ?_
 · intro i x hi
   rcases i with _|i
   · simp at hi;subst hi;exact ⟨a0,TC.enc (by rfl) _,rfl⟩
   · simp at hi
 · rintro e W' ⟨r,v,aE,γ',C',rfl,⟨rfl,rfl⟩,hv,hb⟩
   have hv:=hv.gW
   subst hv
   refine ⟨_,rfl,_,_,_,[],p0++([]),[],hW', ?_, ?_, ?_,hb.frame _,fun h=>by cases h⟩
   · exact trodAll_mk1 (shut_bool (by kernel_rfl) true)
   · exact Hf Own.laidOut hb (of_decide_eq_true (by kernel_rfl)) hA1 hlt
   · exact rfl
theorem Bg:Rows.BounceTextsSaid:=
 OpenClaim.holds_of_wide 3 Tryz.f3 rfl rfl rfl rfl rfl rfl rfl ⟨rfl,rfl,rfl,rfl,rfl⟩ rfl rfl rfl rfl rfl (by kernel_rfl) Tryz.func3 (by kernel_rfl)
  (of_decide_eq_true (by kernel_rfl)) (by unfold Func.isWrapper;first|(rw [if_pos (by decide+kernel)];kernel_rfl)|(rw [if_neg (by decide+kernel)];exact ⟨rfl,rfl⟩))
  (fun os started H enc _=>zk os started H enc)
theorem bounceTexts_tied:Rows.BounceTextsCardSaid:=
 Claim7.holds_tied_plain_at .later [] [.data, .data, .data, .data, .sentinel, .sentinel, .pinned] true Rows.bounceTextsCard.stood.harness true
  Bg (fun _ h=>by cases h) (by kernel_rfl) (fun _ h=>by cases h) bounceTexts_row_tie rfl ⟨rfl,rfl⟩ (by kernel_rfl) rfl
  (fun f fn hf hfn=>by
   obtain rfl:f=3:=Option.some.inj ((show Tryz.prog.funcNamed Rows.bounceTextsRow.func=some 3 by kernel_rfl).symm.trans hf) |>.symm
   obtain rfl:fn=Tryz.f3:=(Option.some.inj (Tryz.func3.symm.trans hfn)).symm
   exact ⟨by kernel_rfl,fun j t ht=>by
    rw [Tryz.params3] at ht
    have hm:t∈[22]:=by have:=Array.mem_of_getElem? ht;simpa using this
    have hall:([22].all fun u=> !Tryz.prog.wantsStandIn u)=true:=by kernel_rfl
    exact (show Tryz.prog.wantsStandIn t=false by simpa using List.all_eq_true.1 hall t hm)⟩)
  (by kernel_rfl)
end Go.Proofs.YtomkmghgppgegaaGreatDoor
end
