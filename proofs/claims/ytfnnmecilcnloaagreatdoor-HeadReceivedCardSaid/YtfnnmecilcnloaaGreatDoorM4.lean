import Derived.Test.YtfnnmecilcnloaaGreatDoorM3
import Derived.Lib.IndexMore
import Derived.Below
import Derived.Deep.Slices
import Derived.Carry
import Derived.Test.YtfnnmecilcnloaaGreatDoorRows
import Derived.ProofKit
import Derived.LaidMore
import Derived.Lib.LaidTab
import Derived.Shelf.Vars
import Derived.HandedShaped
set_option linter.unusedSimpArgs false
set_option linter.unusedVariables false
set_option linter.unusedSectionVars false
set_option linter.defProp false
section
set_option maxRecDepth 100000
namespace Go.Proofs.bX
open Go Go.Am Go.Proofs
open Nat renaming reduceEqDiff→nA,reduceLT→nB,reduceLeDiff→nC,reduceAdd→nD,reduceSub→nE,reduceMul→nF,reduceBEq→nG
set_option maxHeartbeats 2000000
abbrev nO:au:=(.rg [(av 4 0),(ai 5 (.bin .eql (.t 4) (.c (.str [])))),(av 6 5),(aB 7 (.mv (.t 0)) 6 false),(aB 8 (.lens (.t 7)) 6 false),(aB 9 (.bin .gtr (.t 8) (.c (.int .i64 63))) 6 false),(ai 10 (.pick (.t 6) (.c (.bool true)) (.t 9))),(av 11 10),(aB 12 (.mv (.t 0)) 11 false),(aB 13 (.ixs (.t 12) (.c (.int .i64 0))) 11 false),(aB 14 (.bin .eql (.t 13) (.c (b8 45))) 11 false),(ai 15 (.pick (.t 11) (.c (.bool true)) (.t 14))),(av 16 15),(aB 17 (.mv (.t 0)) 16 false),(aB 18 (.mv (.t 0)) 16 false),(aB 19 (.lens (.t 18)) 16 false),(aB 20 (.bin .sub (.t 19) (.c (.int .i64 1))) 16 false),(aB 21 (.ixs (.t 17) (.t 20)) 16 false),(aB 22 (.bin .eql (.t 21) (.c (b8 45))) 16 false),(ai 23 (.pick (.t 16) (.c (.bool true)) (.t 22)))])
abbrev nP:au:=(.rg [(av 30 0),(av 31 3),(ai 32 (.ixs (.t 30) (.t 31))),(ai 33 (.call (.c (.fn 75 [])) [(.t 32)])),(ai 34 (.un .not (.t 33))),(av 35 34),(aB 36 (.mv (.t 0)) 35 true),(aB 37 (.mv (.t 3)) 35 true),(aB 38 (.ixs (.t 36) (.t 37)) 35 true),(aB 39 (.call (.c (.fn 74 [])) [(.t 38)]) 35 true),(aB 40 (.un .not (.t 39)) 35 true),(ai 41 (.pick (.t 35) (.t 40) (.c (.bool false)))),(av 42 41),(aB 43 (.mv (.t 0)) 42 true),(aB 44 (.mv (.t 3)) 42 true),(aB 45 (.ixs (.t 43) (.t 44)) 42 true),(aB 46 (.bin .neq (.t 45) (.c (b8 45))) 42 true),(ai 47 (.pick (.t 42) (.t 46) (.c (.bool false))))])
abbrev mo:au:=(.seq (.seq (.rg [(av 24 3),(av 25 0),(ai 26 (.lens (.t 25))),(ai 27 (.bin .lss (.t 24) (.t 26)))]) (.cond (.t 27) .skip (.exit 0))) (.seq (.blk 1 (.seq (.sem (erase nP)) (.cond (.t 47) (.seq (.rg [(ai 2 (.aT (.c (.bool false))))]) .ret) .skip))) (.rg [(av 28 3),(ai 29 (.bin .add (.t 28) (.c (.int .i64 1)))),(aP 3 29)])))
abbrev zZ:au:=(.seq (.rg [(ai 2 (.aT (.c (.bool false))))]) (.seq (.seq (.sem (erase nO)) (.cond (.t 23) (.seq (.rg [(ai 2 (.aT (.c (.bool false))))]) .ret) .skip)) (.seq (.seq (.rg [(ai 3 (.aT (.c (.int .i64 0))))]) (.blk 0 (.loop (erase mo)))) (.seq (.rg [(ai 2 (.aT (.c (.bool true))))]) .ret))))
theorem z1:bw Tryz.prog 59 48 [(.tmp 2)] (erase zZ):=⟨Tryz.f59,_,rfl,by decide,rfl,by kernel_rfl,rfl,rfl⟩
abbrev jx:List Nat:=[0,2,3,23,27,47]
def iJ (s1:List UInt8):Option (Bool):=
 (if (decide (s1=([]:List UInt8))) then
  some true
 else
  (if (decide (63<(s1.length:Int))) then
   some true
  else
   (idx s1 0).bind fun x2=>
   (if (decide (x2=45)) then
    some true
   else
    (idx s1 (IntKind.wrap .i64 ((s1.length:Int) - 1))).bind fun x3=>some (decide (x3=45)))))
def fG (s1:List UInt8) (i6:Int):Option (Bool):=
 (idx s1 i6).bind fun x7=>
 (fN x7).bind fun r8=>
 (if (!r8) then
  (fz x7).bind fun r9=>(if (!r9) then
   some (!decide (x7=45))
  else
   some false)
 else
  some false)
def dG (s1:List UInt8):Int→Option (St Bool Unit Int)
 |i6=>
  (if (decide (i6<(s1.length:Int))) then
   (fG s1 i6).bind fun t11=>
   (if t11 then
    some (.ret false)
   else
    some (.cu (IntKind.wrap .i64 (i6+1))))
  else
   some (.dU ()))
def jy (F:Nat) (s1:List UInt8):Option (Bool):=
 (iJ s1).bind fun t5=>
 (if t5 then
  some false
 else
  ((iter (dG s1) F 0).bind fun FI=>
  match FI with
  | .inr ()=>
    some true
  | .inl oT=>
    some oT))
theorem tS {s1:List UInt8} {H:AH} {K:Exit→Env→AH→Prop} {t4:Bool}
 (h:iJ s1=some t4)
 (kn:K .normal [(0,(.str s1)),(23,(.bool t4))] H):
 AX Tryz.prog jx 48 H.length (erase nO) K [(0,(.str s1))] H:=by
 refine cG fun K' hK=> ?_
 rw [iJ.eq_1] at h
 refine aA ?_
 refine cw h (fun hy1 h=> ?_) fun hy1 h=> ?_
 · refine aM hy1 ?_
   obtain rfl:=aC h
   exact hK _ _ _ _ _ aL aq kn
 · refine aM hy1 ?_
   refine cw h (fun aV h=> ?_) fun aV h=> ?_
   · refine aM aV ?_
     obtain rfl:=aC h
     exact hK _ _ _ _ _ aL aq kn
   · obtain ⟨x2,aY,h⟩:=aj h
     refine aM (aK aV aY) ?_
     refine cw h (fun aX h=> ?_) fun aX h=> ?_
     · refine aM aX ?_
       obtain rfl:=aC h
       exact hK _ _ _ _ _ aL aq kn
     · obtain ⟨x3,bk,h⟩:=aj h
       refine aM (aK aX bk) ?_
       obtain rfl:=aC h
       exact hK _ _ _ _ _ aL aq kn
theorem tT {s1:List UInt8} {i6:Int} {H:AH} {K:Exit→Env→AH→Prop} {t10:Bool}
 (h:fG s1 i6=some t10)
 (kn:K .normal [(0,(.str s1)),(3,(.int .i64 i6)),(47,(.bool t10))] H):
 AX Tryz.prog jx 48 H.length (erase nP) K [(0,(.str s1)),(3,(.int .i64 i6))] H:=by
 refine cG fun K' hK=> ?_
 rw [fG.eq_1] at h
 obtain ⟨x7,eV,h⟩:=aj h
 refine aM eV ?_
 obtain ⟨r8,de,h⟩:=aj h
 refine bx aq (o7 de) ?_
 refine aA ?_
 refine cw h (fun dx h=> ?_) fun dx h=> ?_
 · refine aM (aK dx eV) ?_
   obtain ⟨r9,dh,h⟩:=aj h
   refine bx aq (kQ dh) ?_
   refine aA ?_
   refine cw h (fun gh h=> ?_) fun gh h=> ?_
   · refine aM (aK gh eV) ?_
     obtain rfl:=aC h
     exact hK _ _ _ _ _ aL aq kn
   · refine aM gh ?_
     obtain rfl:=aC h
     exact hK _ _ _ _ _ aL aq kn
 · refine aM dx ?_
   obtain rfl:=aC h
   exact hK _ _ _ _ _ aL aq kn
theorem tU {F:Nat} {i6:Int} {s1:List UInt8} {H:AH} {K:Exit→Env→AH→Prop} {o:(Bool)⊕(Unit)}
 (h:iter (dG s1) F i6=some o)
 (dV:∀o':Unit,o= .inr o'→K (.exit 0) [] H)
 (kr:∀o':Bool,o= .inl o'→K .ret [(2,(.bool o'))] H):
 AX Tryz.prog jx 48 H.length (.loop (erase mo)) K [(0,(.str s1)),(3,(.int .i64 i6))] H:=by
 refine jM (fun s e H1=>match s with|i6=>e=[(0,(.str s1)),(3,(.int .i64 i6))]∧H1=H) h ⟨rfl,rfl⟩ ?_
 rintro K' i6 st e H ⟨rfl,rfl⟩ h hN hB hR hX
 rw [dG.eq_1] at h
 refine aA ?_
 refine bZ h (fun cB h=> ?_) fun cB h=> ?_
 · refine aA ?_
   obtain ⟨t11,kz,h⟩:=aj h
   refine bS aq (tT kz ?_)
   refine aA ?_
   refine bZ h (fun lS h=> ?_) fun lS h=> ?_
   · refine aA ?_
     obtain rfl:=aC h
     exact hX _ _ _ _ _ ez aL aq (kr _ (hR _ rfl))
   · refine aA ?_
     obtain rfl:=aC h
     exact hN _ rfl _ _ _ _ aL aq ⟨rfl,rfl⟩
 · refine aA ?_
   obtain rfl:=aC h
   exact hX _ _ _ _ _ ez WE.nil aq (dV _ (hB _ rfl))
theorem yp {F:Nat} {s1:List UInt8} {H0:AH} {aI:Bool} (h:jy F s1=some aI):
 az Tryz.prog 59 [(.str s1)] H0 fun v H'=>v=(.bool aI)∧H'=H0:=by
 refine dz z1 jx fun hcl K0 aN=> ?_
 rw [jy.eq_1] at h
 refine aA ?_
 obtain ⟨t5,cj,h⟩:=aj h
 refine bS aq (tS cj ?_)
 refine aA ?_
 refine bZ h (fun cv h=> ?_) fun cv h=> ?_
 · refine aA ?_
   obtain rfl:=aC h
   exact aN _ _ _ bE (aH hcl (bA bC (.bool false)) bD bu ⟨rfl,rfl⟩)
 · refine aA ?_
   obtain ⟨FI,iW,h⟩:=aj h
   refine bS aq (tU iW ?_ ?_)
   · rintro ⟨⟩ rfl
     try dsimp only at h
     refine aA ?_
     obtain rfl:=aC h
     exact aN _ _ _ bE (aH hcl (bA bC (.bool true)) bD bu ⟨rfl,rfl⟩)
   · rintro oT rfl
     try dsimp only at h
     refine aA ?_
     obtain rfl:=aC h
     exact aN _ _ _ bE (aH hcl (bA bC (.bool oT)) bD bu ⟨rfl,rfl⟩)
abbrev mq:au:=(.rg [(av 7 0),(ai 8 (.bin .eql (.t 7) (.c (.str [])))),(av 9 8),(aB 10 (.mv (.t 0)) 9 false),(aB 11 (.lens (.t 10)) 9 false),(aB 12 (.bin .gtr (.t 11) (.c (.int .i64 255))) 9 false),(ai 13 (.pick (.t 9) (.c (.bool true)) (.t 12)))])
abbrev mu:au:=(.rg [(av 18 0),(av 19 0),(ai 20 (.lens (.t 19))),(ai 21 (.bin .sub (.t 20) (.c (.int .i64 1)))),(ai 22 (.ixs (.t 18) (.t 21))),(ai 23 (.bin .neq (.t 22) (.c (b8 93)))),(av 24 23),(aB 25 (.mv (.t 0)) 24 false),(aB 26 (.lens (.t 25)) 24 false),(aB 27 (.bin .lss (.t 26) (.c (.int .i64 2))) 24 false),(ai 28 (.pick (.t 24) (.c (.bool true)) (.t 27)))])
abbrev mw:au:=(.cond (.t 17) (.seq (.seq (.sem (erase mu)) (.cond (.t 28) (.seq (.rg [(ai 2 (.aT (.c (.bool false))))]) .ret) .skip)) (.rg [(av 29 0),(av 30 0),(ai 31 (.lens (.t 30))),(ai 32 (.bin .sub (.t 31) (.c (.int .i64 1)))),(ai 33 (.AD (.t 29) (some (.c (.int .i64 1))) (some (.t 32)))),(aP 0 33)])) .skip)
abbrev mz:au:=(.rg [(av 40 6),(av 41 0),(ai 42 (.lens (.t 41))),(ai 43 (.bin .lss (.t 40) (.t 42))),(av 44 43),(aB 45 (.mv (.t 0)) 44 true),(aB 46 (.mv (.t 6)) 44 true),(aB 47 (.ixs (.t 45) (.t 46)) 44 true),(aB 48 (.bin .neq (.t 47) (.c (b8 46))) 44 true),(ai 49 (.pick (.t 44) (.t 48) (.c (.bool false))))])
abbrev mA:au:=(.rg [(av 50 3),(av 51 50),(aB 52 (.mv (.t 0)) 51 true),(aB 53 (.mv (.t 4)) 51 true),(aB 54 (.mv (.t 6)) 51 true),(aB 55 (.AD (.t 52) (some (.t 53)) (some (.t 54))) 51 true),(aB 56 (.call (.c (.fn 58 [])) [(.t 55)]) 51 true),(aB 57 (.un .not (.t 56)) 51 true),(ai 58 (.pick (.t 51) (.t 57) (.c (.bool false)))),(av 59 58),(aB 60 (.mv (.t 3)) 59 false),(aB 61 (.un .not (.t 60)) 59 false),(aB 62 (.mv (.t 61)) 59 false),(aB 63 (.mv (.t 0)) 62 true),(aB 64 (.mv (.t 4)) 62 true),(aB 65 (.mv (.t 6)) 62 true),(aB 66 (.AD (.t 63) (some (.t 64)) (some (.t 65))) 62 true),(aB 67 (.call (.c (.fn 59 [])) [(.t 66)]) 62 true),(aB 68 (.un .not (.t 67)) 62 true),(aB 69 (.pick (.t 62) (.t 68) (.c (.bool false))) 59 false),(ai 70 (.pick (.t 59) (.c (.bool true)) (.t 69)))])
abbrev kX:au:=(.seq (.seq (.rg [(av 34 6),(av 35 0),(ai 36 (.lens (.t 35))),(ai 37 (.bin .leq (.t 34) (.t 36)))]) (.cond (.t 37) .skip (.exit 0))) (.seq (.blk 1 (.seq (.seq (.sem (erase mz)) (.cond (.t 49) (.exit 1) .skip)) (.seq (.seq (.sem (erase mA)) (.cond (.t 70) (.seq (.rg [(ai 2 (.aT (.c (.bool false))))]) .ret) .skip)) (.seq (.rg [(av 71 5),(ai 72 (.bin .add (.t 71) (.c (.int .i64 1)))),(aP 5 72)]) (.rg [(av 73 6),(ai 74 (.bin .add (.t 73) (.c (.int .i64 1)))),(aP 4 74)]))))) (.rg [(av 38 6),(ai 39 (.bin .add (.t 38) (.c (.int .i64 1)))),(aP 6 39)])))
abbrev mB:au:=(.rg [(av 75 3),(ai 76 (.un .not (.t 75))),(av 77 76),(aB 78 (.mv (.t 5)) 77 false),(aB 79 (.bin .eql (.t 78) (.c (.int .i64 4))) 77 false),(ai 80 (.pick (.t 77) (.c (.bool true)) (.t 79))),(aP 2 80)])
abbrev yq:au:=(.seq (.rg [(ai 2 (.aT (.c (.bool false))))]) (.seq (.seq (.sem (erase mq)) (.cond (.t 13) (.seq (.rg [(ai 2 (.aT (.c (.bool false))))]) .ret) .skip)) (.seq (.rg [(av 14 0),(ai 15 (.ixs (.t 14) (.c (.int .i64 0)))),(ai 16 (.bin .eql (.t 15) (.c (b8 91)))),(aP 3 16)]) (.seq (.seq (.rg [(av 17 3)]) (.sem (erase mw))) (.seq (.rg [(ai 4 (.aT (.c (.int .i64 0))))]) (.seq (.rg [(ai 5 (.aT (.c (.int .i64 0))))]) (.seq (.seq (.rg [(ai 6 (.aT (.c (.int .i64 0))))]) (.blk 0 (.loop (erase kX)))) (.seq (.sem (erase mB)) .ret))))))))
theorem yt:bw Tryz.prog 45 81 [(.tmp 2)] (erase yq):=⟨Tryz.f45,_,rfl,by decide,rfl,by kernel_rfl,rfl,rfl⟩
abbrev cQ:List Nat:=[0,2,3,4,5,6,13,17,28,37,49,70]
def gN (s1:List UInt8):Option (Bool):=
 (idx s1 (IntKind.wrap .i64 ((s1.length:Int) - 1))).bind fun x3=>
 (if (!decide (x3=93)) then
  some true
 else
  some (decide ((s1.length:Int)<2)))
def eW (x2:UInt8) (s1:List UInt8):Option (St Bool Unit (List UInt8)):=
 (if (decide (x2=91)) then
  (gN s1).bind fun t5=>
  (if t5 then
   some (.ret false)
  else
   (sub s1 1 (IntKind.wrap .i64 ((s1.length:Int) - 1))).bind fun x6=>some (.cu x6))
 else
  some (.cu s1))
def c8 (i12:Int) (s9:List UInt8):Option (Bool):=
 (if (decide (i12<(s9.length:Int))) then
  (idx s9 i12).bind fun DJ=>some (!decide (DJ=46))
 else
  some false)
def eZ (F:Nat) (x2:UInt8) (s9:List UInt8) (jz:Int) (i12:Int):Option (Bool):=
 (if (decide (x2=91)) then
  (sub s9 jz i12).bind fun z6=>
  (dj F z6).bind fun Zn=>(if (!Zn) then
   some true
  else
   some false)
 else
  (sub s9 jz i12).bind fun xU=>(jy F xU).bind fun FT=>some (!FT))
def bQ (F:Nat) (s9:List UInt8) (x2:UInt8):(Int×Int×Int)→Option (St Bool Int (Int×Int×Int))
 |(jz,cM,i12)=>
  (if (decide (i12≤(s9.length:Int))) then
   (c8 i12 s9).bind fun t15=>
   (if t15 then
    some (.cu (jz,cM,(IntKind.wrap .i64 (i12+1))))
   else
    (eZ F x2 s9 jz i12).bind fun t21=>
    (if t21 then
     some (.ret false)
    else
     some (.cu ((IntKind.wrap .i64 (i12+1)),(IntKind.wrap .i64 (cM+1)),(IntKind.wrap .i64 (i12+1))))))
  else
   some (.dU cM))
def dQ (F:Nat) (s1:List UInt8):Option (Bool):=
 (if ((decide (s1=([]:List UInt8)))||(decide (255<(s1.length:Int)))) then
  some false
 else
  (idx s1 0).bind fun x2=>
  ((eW x2 s1).bind fun Qj=>
  match Qj with
  | .cu s9=>
    ((iter (bQ F s9 x2) F (0,0,0)).bind fun Qk=>
    match Qk with
    | .inr kI=>
      some ((!(decide (x2=91)))||(decide (kI=4)))
    | .inl MK=>
      some MK)
  | .ret Wp=>
    some Wp
  | .dU _=>none))
theorem sD {s1:List UInt8} {H:AH} {K:Exit→Env→AH→Prop}
 (kn:K .normal [(0,(.str s1)),(13,(.bool ((decide (s1=([]:List UInt8)))||(decide (255<(s1.length:Int))))))] H):
 AX Tryz.prog cQ 81 H.length (erase mq) K [(0,(.str s1))] H:=by
 refine cG fun K' hK=> ?_
 refine aA ?_
 refine mM (fun hy1=> ?_) fun hy1=> ?_
 · refine aM hy1 ?_
   exact hK _ _ _ _ _ (dL hy1) aq kn
 · refine aM hy1 ?_
   exact hK _ _ _ _ _ (dL hy1) aq kn
theorem sE {s1:List UInt8} {x2:UInt8} {H:AH} {K:Exit→Env→AH→Prop} {t4:Bool}
 (h:gN s1=some t4)
 (kn:K .normal [(0,(.str s1)),(3,(.bool (decide (x2=91)))),(28,(.bool t4))] H):
 AX Tryz.prog cQ 81 H.length (erase mu) K [(0,(.str s1)),(3,(.bool (decide (x2=91))))] H:=by
 refine cG fun K' hK=> ?_
 rw [gN.eq_1] at h
 obtain ⟨x3,bk,h⟩:=aj h
 refine aM bk ?_
 refine cw h (fun cj h=> ?_) fun cj h=> ?_
 · refine aM cj ?_
   obtain rfl:=aC h
   exact hK _ _ _ _ _ aL aq kn
 · refine aM cj ?_
   obtain rfl:=aC h
   exact hK _ _ _ _ _ aL aq kn
theorem sF {x2:UInt8} {s1:List UInt8} {H:AH} {K:Exit→Env→AH→Prop} {o:St Bool Unit (List UInt8)}
 (h:eW x2 s1=some o)
 (kn:∀o':(List UInt8),o= .cu o'→K .normal [(0,(.str o')),(3,(.bool (decide (x2=91))))] H)
 (kr:∀o':Bool,o= .ret o'→K .ret [(2,(.bool o'))] H):
 AX Tryz.prog cQ 81 H.length (erase mw) K [(0,(.str s1)),(3,(.bool (decide (x2=91)))),(17,(.bool (decide (x2=91))))] H:=by
 refine cG fun K' hK=> ?_
 rw [eW.eq_1] at h
 refine aA ?_
 refine bZ h (fun aX h=> ?_) fun aX h=> ?_
 · refine aA ?_
   obtain ⟨t5,cv,h⟩:=aj h
   refine bS aq (sE (x2:=x2) cv ?_)
   refine aA ?_
   refine bZ h (fun cB h=> ?_) fun cB h=> ?_
   · refine aA ?_
     obtain rfl:=aC h
     exact hK _ _ _ _ _ aL aq (kr _ rfl)
   · obtain ⟨x6,eV,h⟩:=aj h
     refine aM eV ?_
     obtain rfl:=aC h
     exact hK _ _ _ _ _ aL aq (kn _ rfl)
 · refine aA ?_
   obtain rfl:=aC h
   exact hK _ _ _ _ _ aL aq (kn _ rfl)
theorem sG {i12:Int} {s9:List UInt8} {x2:UInt8} {jz:Int} {cM:Int} {H:AH} {K:Exit→Env→AH→Prop} {t14:Bool}
 (h:c8 i12 s9=some t14)
 (kn:K .normal [(0,(.str s9)),(3,(.bool (decide (x2=91)))),(4,(.int .i64 jz)),(5,(.int .i64 cM)),(6,(.int .i64 i12)),(49,(.bool t14))] H):
 AX Tryz.prog cQ 81 H.length (erase mz) K [(0,(.str s9)),(3,(.bool (decide (x2=91)))),(4,(.int .i64 jz)),(5,(.int .i64 cM)),(6,(.int .i64 i12))] H:=by
 refine cG fun K' hK=> ?_
 rw [c8.eq_1] at h
 refine aA ?_
 refine cw h (fun dh h=> ?_) fun dh h=> ?_
 · obtain ⟨DJ,gh,h⟩:=aj h
   refine aM (aK dh gh) ?_
   obtain rfl:=aC h
   exact hK _ _ _ _ _ aL aq kn
 · refine aM dh ?_
   obtain rfl:=aC h
   exact hK _ _ _ _ _ aL aq kn
theorem sH {F:Nat} {x2:UInt8} {s9:List UInt8} {jz:Int} {i12:Int} {cM:Int} {H:AH} {K:Exit→Env→AH→Prop} {t20:Bool}
 (h:eZ F x2 s9 jz i12=some t20)
 (kn:K .normal [(0,(.str s9)),(3,(.bool (decide (x2=91)))),(5,(.int .i64 cM)),(6,(.int .i64 i12)),(70,(.bool t20))] H):
 AX Tryz.prog cQ 81 H.length (erase mA) K [(0,(.str s9)),(3,(.bool (decide (x2=91)))),(4,(.int .i64 jz)),(5,(.int .i64 cM)),(6,(.int .i64 i12))] H:=by
 refine cG fun K' hK=> ?_
 rw [eZ.eq_1] at h
 refine aA ?_
 refine cw h (fun iW h=> ?_) fun iW h=> ?_
 · obtain ⟨z6,oL,h⟩:=aj h
   refine aM (aK iW oL) ?_
   obtain ⟨Zn,oM,h⟩:=aj h
   refine bx aq (yl oM) ?_
   refine aA ?_
   refine cw h (fun kA h=> ?_) fun kA h=> ?_
   · refine aM kA ?_
     obtain rfl:=aC h
     exact hK _ _ _ _ _ (dL (aK iW kA)) aq kn
   · refine aM kA ?_
     obtain rfl:=aC h
     exact hK _ _ _ _ _ (dL (aK iW kA)) aq kn
 · obtain ⟨xU,oN,h⟩:=aj h
   refine aM (aK iW oN) ?_
   obtain ⟨FT,jO,h⟩:=aj h
   refine bx aq (yp jO) ?_
   refine aA ?_
   obtain rfl:=aC h
   exact hK _ _ _ _ _ (dL iW) aq kn
theorem sI {F:Nat} {i12:Int} {s9:List UInt8} {jz:Int} {cM:Int} {x2:UInt8} {H:AH} {K:Exit→Env→AH→Prop} {o:(Bool)⊕(Int)}
 (h:iter (bQ F s9 x2) F (jz,cM,i12)=some o)
 (dV:∀o':Int,o= .inr o'→K (.exit 0) [(3,(.bool (decide (x2=91)))),(5,(.int .i64 o'))] H)
 (kr:∀o':Bool,o= .inl o'→K .ret [(2,(.bool o'))] H):
 AX Tryz.prog cQ 81 H.length (.loop (erase kX)) K [(0,(.str s9)),(3,(.bool (decide (x2=91)))),(4,(.int .i64 jz)),(5,(.int .i64 cM)),(6,(.int .i64 i12))] H:=by
 refine jM (fun s e H1=>match s with|(jz,cM,i12)=>e=[(0,(.str s9)),(3,(.bool (decide (x2=91)))),(4,(.int .i64 jz)),(5,(.int .i64 cM)),(6,(.int .i64 i12))]∧H1=H) h ⟨rfl,rfl⟩ ?_
 rintro K' ⟨jz,cM,i12⟩ st e H ⟨rfl,rfl⟩ h hN hB hR hX
 rw [bQ.eq_1] at h
 refine aA ?_
 refine bZ h (fun dx h=> ?_) fun dx h=> ?_
 · refine aA ?_
   obtain ⟨t15,kz,h⟩:=aj h
   refine bS aq (sG (x2:=x2) (jz:=jz) (cM:=cM) kz ?_)
   refine aA ?_
   refine bZ h (fun lS h=> ?_) fun lS h=> ?_
   · refine aA ?_
     obtain rfl:=aC h
     exact hN _ rfl _ _ _ _ aL aq ⟨rfl,rfl⟩
   · refine aA ?_
     obtain ⟨t21,ku,h⟩:=aj h
     refine bS aq (sH (cM:=cM) ku ?_)
     refine aA ?_
     refine bZ h (fun oO h=> ?_) fun oO h=> ?_
     · refine aA ?_
       obtain rfl:=aC h
       exact hX _ _ _ _ _ ez aL aq (kr _ (hR _ rfl))
     · refine aA ?_
       obtain rfl:=aC h
       exact hN _ rfl _ _ _ _ aL aq ⟨rfl,rfl⟩
 · refine aA ?_
   obtain rfl:=aC h
   exact hX _ _ _ _ _ ez aL aq (dV _ (hB _ rfl))
theorem sJ {x2:UInt8} {kI:Int} {H:AH} {K:Exit→Env→AH→Prop}
 (kn:K .normal [(2,(.bool ((!(decide (x2=91)))||(decide (kI=4)))))] H):
 AX Tryz.prog cQ 81 H.length (erase mB) K [(3,(.bool (decide (x2=91)))),(5,(.int .i64 kI))] H:=by
 refine cG fun K' hK=> ?_
 refine aA ?_
 refine mM (fun kB=> ?_) fun kB=> ?_
 · refine aM kB ?_
   exact hK _ _ _ _ _ (dL kB) aq kn
 · refine aM kB ?_
   exact hK _ _ _ _ _ (dL kB) aq kn
theorem xb {F:Nat} {s1:List UInt8} {H0:AH} {aI:Bool} (h:dQ F s1=some aI):
 az Tryz.prog 45 [(.str s1)] H0 fun v H'=>v=(.bool aI)∧H'=H0:=by
 refine dz yt cQ fun hcl K0 aN=> ?_
 rw [dQ.eq_1] at h
 refine aA ?_
 refine bS aq (sD (s1:=s1) ?_)
 refine aA ?_
 refine bZ h (fun aV h=> ?_) fun aV h=> ?_
 · refine aA ?_
   obtain rfl:=aC h
   exact aN _ _ _ bE (aH hcl (bA bC (.bool false)) bD bu ⟨rfl,rfl⟩)
 · obtain ⟨x2,aY,h⟩:=aj h
   refine aM aY ?_
   obtain ⟨Qj,de,h⟩:=aj h
   refine bS aq (sF de ?_ ?_)
   · rintro s9 rfl
     try dsimp only at h
     refine aA ?_
     obtain ⟨Qk,oP,h⟩:=aj h
     refine bS aq (sI oP ?_ ?_)
     · rintro kI rfl
       try dsimp only at h
       refine aA ?_
       refine bS aq (sJ (x2:=x2) (kI:=kI) ?_)
       refine aA ?_
       obtain rfl:=aC h
       exact aN _ _ _ bE (aH hcl (bA bC (.bool ((!(decide (x2=91)))||(decide (kI=4))))) bD bu ⟨rfl,rfl⟩)
     · rintro MK rfl
       try dsimp only at h
       refine aA ?_
       obtain rfl:=aC h
       exact aN _ _ _ bE (aH hcl (bA bC (.bool MK)) bD bu ⟨rfl,rfl⟩)
   · rintro Wp rfl
     try dsimp only at h
     refine aA ?_
     obtain rfl:=aC h
     exact aN _ _ _ bE (aH hcl (bA bC (.bool Wp)) bD bu ⟨rfl,rfl⟩)
abbrev nQ:au:=(.rg [(av 5 0),(ai 6 (.call (.c (.fn 75 [])) [(.t 5)])),(av 7 6),(aB 8 (.mv (.t 0)) 7 false),(aB 9 (.call (.c (.fn 74 [])) [(.t 8)]) 7 false),(ai 10 (.pick (.t 7) (.c (.bool true)) (.t 9)))])
abbrev mC:au:=(.seq (.seq (.rg [(av 11 4),(av 12 3),(ai 13 (.lens (.t 12))),(ai 14 (.bin .lss (.t 11) (.t 13)))]) (.cond (.t 14) .skip (.exit 0))) (.seq (.blk 1 (.seq (.rg [(av 17 3),(av 18 4),(ai 19 (.ixs (.t 17) (.t 18))),(av 20 0),(ai 21 (.bin .eql (.t 19) (.t 20)))]) (.cond (.t 21) (.seq (.rg [(ai 2 (.aT (.c (.bool true))))]) .ret) .skip))) (.rg [(av 15 4),(ai 16 (.bin .add (.t 15) (.c (.int .i64 1)))),(aP 4 16)])))
abbrev z7:au:=(.seq (.rg [(ai 2 (.aT (.c (.bool false))))]) (.seq (.seq (.sem (erase nQ)) (.cond (.t 10) (.seq (.rg [(ai 2 (.aT (.c (.bool true))))]) .ret) .skip)) (.seq (.rg [(ai 3 (.aT (.c (.str [33,35,36,37,38,39,42,43,45,47,61,63,94,95,123,124,125,126]))))]) (.seq (.seq (.rg [(ai 4 (.aT (.c (.int .i64 0))))]) (.blk 0 (.loop (erase mC)))) (.seq (.rg [(av 22 0),(ai 23 (.bin .eql (.t 22) (.c (b8 96)))),(aP 2 23)]) .ret)))))
theorem z8:bw Tryz.prog 60 24 [(.tmp 2)] (erase z7):=⟨Tryz.f60,_,rfl,by decide,rfl,by kernel_rfl,rfl,rfl⟩
abbrev mD:List Nat:=[0,2,3,4,10,14,21]
def kR (c1:UInt8):Option (Bool):=
 (fN c1).bind fun r2=>
 (if r2 then
  some true
 else
  (fz c1).bind fun r3=>some r3)
def kS (c1:UInt8):Int→Option (St Bool Unit Int)
 |i6=>
  (if (decide (i6<(([33,35,36,37,38,39,42,43,45,47,61,63,94,95,123,124,125,126]:List UInt8).length:Int))) then
   (idx ([33,35,36,37,38,39,42,43,45,47,61,63,94,95,123,124,125,126]:List UInt8) i6).bind fun x7=>
   (if (decide (x7=c1)) then
    some (.ret true)
   else
    some (.cu (IntKind.wrap .i64 (i6+1))))
  else
   some (.dU ()))
def gO (F:Nat) (c1:UInt8):Option (Bool):=
 (kR c1).bind fun t5=>
 (if t5 then
  some true
 else
  ((iter (kS c1) F 0).bind fun Zo=>
  match Zo with
  | .inr ()=>
    some (decide (c1=96))
  | .inl r9=>
    some r9))
theorem tV {c1:UInt8} {H:AH} {K:Exit→Env→AH→Prop} {t4:Bool}
 (h:kR c1=some t4)
 (kn:K .normal [(0,(b8 c1)),(10,(.bool t4))] H):
 AX Tryz.prog mD 24 H.length (erase nQ) K [(0,(b8 c1))] H:=by
 refine cG fun K' hK=> ?_
 rw [kR.eq_1] at h
 refine aA ?_
 obtain ⟨r2,hy1,h⟩:=aj h
 refine bx aq (o7 hy1) ?_
 refine aA ?_
 refine cw h (fun aV h=> ?_) fun aV h=> ?_
 · refine aM aV ?_
   obtain rfl:=aC h
   exact hK _ _ _ _ _ aL aq kn
 · refine aM aV ?_
   obtain ⟨r3,aY,h⟩:=aj h
   refine bx aq (kQ aY) ?_
   refine aA ?_
   obtain rfl:=aC h
   exact hK _ _ _ _ _ aL aq kn
theorem tW {F:Nat} {i6:Int} {c1:UInt8} {H:AH} {K:Exit→Env→AH→Prop} {o:(Bool)⊕(Unit)}
 (h:iter (kS c1) F i6=some o)
 (dV:∀o':Unit,o= .inr o'→K (.exit 0) [(0,(b8 c1))] H)
 (kr:∀o':Bool,o= .inl o'→K .ret [(2,(.bool o'))] H):
 AX Tryz.prog mD 24 H.length (.loop (erase mC)) K [(0,(b8 c1)),(3,(.str ([33,35,36,37,38,39,42,43,45,47,61,63,94,95,123,124,125,126]:List UInt8))),(4,(.int .i64 i6))] H:=by
 refine jM (fun s e H1=>match s with|i6=>e=[(0,(b8 c1)),(3,(.str ([33,35,36,37,38,39,42,43,45,47,61,63,94,95,123,124,125,126]:List UInt8))),(4,(.int .i64 i6))]∧H1=H) h ⟨rfl,rfl⟩ ?_
 rintro K' i6 st e H ⟨rfl,rfl⟩ h hN hB hR hX
 rw [kS.eq_1] at h
 refine aA ?_
 refine bZ h (fun cj h=> ?_) fun cj h=> ?_
 · obtain ⟨x7,cv,h⟩:=aj h
   refine aM cv ?_
   refine bZ h (fun cB h=> ?_) fun cB h=> ?_
   · refine aA ?_
     obtain rfl:=aC h
     exact hX _ _ _ _ _ ez aL aq (kr _ (hR _ rfl))
   · refine aA ?_
     obtain rfl:=aC h
     exact hN _ rfl _ _ _ _ aL aq ⟨rfl,rfl⟩
 · refine aA ?_
   obtain rfl:=aC h
   exact hX _ _ _ _ _ ez aL aq (dV _ (hB _ rfl))
theorem yu {F:Nat} {c1:UInt8} {H0:AH} {aI:Bool} (h:gO F c1=some aI):
 az Tryz.prog 60 [(b8 c1)] H0 fun v H'=>v=(.bool aI)∧H'=H0:=by
 refine dz z8 mD fun hcl K0 aN=> ?_
 rw [gO.eq_1] at h
 refine aA ?_
 obtain ⟨t5,aX,h⟩:=aj h
 refine bS aq (tV aX ?_)
 refine aA ?_
 refine bZ h (fun bk h=> ?_) fun bk h=> ?_
 · refine aA ?_
   obtain rfl:=aC h
   exact aN _ _ _ bE (aH hcl (bA bC (.bool true)) bD bu ⟨rfl,rfl⟩)
 · refine aA ?_
   obtain ⟨Zo,eV,h⟩:=aj h
   refine bS aq (tW eV ?_ ?_)
   · rintro ⟨⟩ rfl
     try dsimp only at h
     refine aA ?_
     obtain rfl:=aC h
     exact aN _ _ _ bE (aH hcl (bA bC (.bool (decide (c1=96)))) bD bu ⟨rfl,rfl⟩)
   · rintro r9 rfl
     try dsimp only at h
     refine aA ?_
     obtain rfl:=aC h
     exact aN _ _ _ bE (aH hcl (bA bC (.bool r9)) bD bu ⟨rfl,rfl⟩)
abbrev nR:au:=(.rg [(av 11 0),(av 12 3),(ai 13 (.ixs (.t 11) (.t 12))),(ai 14 (.bin .eql (.t 13) (.c (b8 46)))),(av 15 14),(aB 16 (.mv (.t 3)) 15 true),(aB 17 (.bin .gtr (.t 16) (.c (.int .i64 0))) 15 true),(ai 18 (.pick (.t 15) (.t 17) (.c (.bool false)))),(av 19 18),(aB 20 (.mv (.t 3)) 19 true),(aB 21 (.bin .add (.t 20) (.c (.int .i64 1))) 19 true),(aB 22 (.mv (.t 0)) 19 true),(aB 23 (.lens (.t 22)) 19 true),(aB 24 (.bin .lss (.t 21) (.t 23)) 19 true),(ai 25 (.pick (.t 19) (.t 24) (.c (.bool false)))),(av 26 25),(aB 27 (.mv (.t 0)) 26 true),(aB 28 (.mv (.t 3)) 26 true),(aB 29 (.bin .sub (.t 28) (.c (.int .i64 1))) 26 true),(aB 30 (.ixs (.t 27) (.t 29)) 26 true),(aB 31 (.bin .neq (.t 30) (.c (b8 46))) 26 true),(ai 32 (.pick (.t 26) (.t 31) (.c (.bool false)))),(aP 4 32)])
abbrev nS:au:=(.rg [(av 33 4),(ai 34 (.un .not (.t 33))),(av 35 34),(aB 36 (.mv (.t 0)) 35 true),(aB 37 (.mv (.t 3)) 35 true),(aB 38 (.ixs (.t 36) (.t 37)) 35 true),(aB 39 (.call (.c (.fn 60 [])) [(.t 38)]) 35 true),(aB 40 (.un .not (.t 39)) 35 true),(ai 41 (.pick (.t 35) (.t 40) (.c (.bool false))))])
abbrev mE:au:=(.seq (.seq (.rg [(av 5 3),(av 6 0),(ai 7 (.lens (.t 6))),(ai 8 (.bin .lss (.t 5) (.t 7)))]) (.cond (.t 8) .skip (.exit 0))) (.seq (.blk 1 (.seq (.sem (erase nR)) (.seq (.sem (erase nS)) (.cond (.t 41) (.seq (.rg [(ai 2 (.aT (.c (.bool false))))]) .ret) .skip)))) (.rg [(av 9 3),(ai 10 (.bin .add (.t 9) (.c (.int .i64 1)))),(aP 3 10)])))
abbrev Aa:au:=(.seq (.rg [(ai 2 (.aT (.c (.bool false))))]) (.seq (.seq (.rg [(ai 3 (.aT (.c (.int .i64 0))))]) (.blk 0 (.loop (erase mE)))) (.seq (.rg [(av 42 0),(ai 43 (.bin .neq (.t 42) (.c (.str [])))),(aP 2 43)]) .ret)))
theorem Ab:bw Tryz.prog 46 44 [(.tmp 2)] (erase Aa):=⟨Tryz.f46,_,rfl,by decide,rfl,by kernel_rfl,rfl,rfl⟩
abbrev jA:List Nat:=[0,2,3,4,8,41]
def fH (s1:List UInt8) (i2:Int):Option (Bool):=
 (idx s1 i2).bind fun x3=>
 (if (decide (x3=46)) then
  (if (decide (0<i2)) then
   (if (decide ((IntKind.wrap .i64 (i2+1))<(s1.length:Int))) then
    (idx s1 (IntKind.wrap .i64 (i2 - 1))).bind fun x4=>some (!decide (x4=46))
   else
    some false)
  else
   some false)
 else
  some false)
def iK (F:Nat) (Ac:Bool) (s1:List UInt8) (i2:Int):Option (Bool):=
 (if (!Ac) then
  (idx s1 i2).bind fun x7=>(gO F x7).bind fun r8=>some (!r8)
 else
  some false)
def dH (F:Nat) (s1:List UInt8):Int→Option (St Bool Unit Int)
 |i2=>
  (if (decide (i2<(s1.length:Int))) then
   (fH s1 i2).bind fun Ac=>
   (iK F Ac s1 i2).bind fun t10=>
   (if t10 then
    some (.ret false)
   else
    some (.cu (IntKind.wrap .i64 (i2+1))))
  else
   some (.dU ()))
def jB (F:Nat) (s1:List UInt8):Option (Bool):=
 ((iter (dH F s1) F 0).bind fun FO=>
 match FO with
 | .inr ()=>
   some (!decide (s1=([]:List UInt8)))
 | .inl cm=>
   some cm)
theorem tX {s1:List UInt8} {i2:Int} {H:AH} {K:Exit→Env→AH→Prop} {T8:Bool}
 (h:fH s1 i2=some T8)
 (kn:K .normal [(0,(.str s1)),(3,(.int .i64 i2)),(4,(.bool T8))] H):
 AX Tryz.prog jA 44 H.length (erase nR) K [(0,(.str s1)),(3,(.int .i64 i2))] H:=by
 refine cG fun K' hK=> ?_
 rw [fH.eq_1] at h
 obtain ⟨x3,aV,h⟩:=aj h
 refine aM aV ?_
 refine cw h (fun aY h=> ?_) fun aY h=> ?_
 · refine aM aY ?_
   refine cw h (fun aX h=> ?_) fun aX h=> ?_
   · refine aM aX ?_
     refine cw h (fun bk h=> ?_) fun bk h=> ?_
     · obtain ⟨x4,cj,h⟩:=aj h
       refine aM (aK bk cj) ?_
       obtain rfl:=aC h
       exact hK _ _ _ _ _ aL aq kn
     · refine aM bk ?_
       obtain rfl:=aC h
       exact hK _ _ _ _ _ aL aq kn
   · refine aM aX ?_
     obtain rfl:=aC h
     exact hK _ _ _ _ _ aL aq kn
 · refine aM aY ?_
   obtain rfl:=aC h
   exact hK _ _ _ _ _ aL aq kn
theorem tY {F:Nat} {Ac:Bool} {s1:List UInt8} {i2:Int} {H:AH} {K:Exit→Env→AH→Prop} {t9:Bool}
 (h:iK F Ac s1 i2=some t9)
 (kn:K .normal [(0,(.str s1)),(3,(.int .i64 i2)),(41,(.bool t9))] H):
 AX Tryz.prog jA 44 H.length (erase nS) K [(0,(.str s1)),(3,(.int .i64 i2)),(4,(.bool Ac))] H:=by
 refine cG fun K' hK=> ?_
 rw [iK.eq_1] at h
 refine aA ?_
 refine cw h (fun cB h=> ?_) fun cB h=> ?_
 · obtain ⟨x7,eV,h⟩:=aj h
   refine aM (aK cB eV) ?_
   obtain ⟨r8,de,h⟩:=aj h
   refine bx aq (yu de) ?_
   refine aA ?_
   obtain rfl:=aC h
   exact hK _ _ _ _ _ aL aq kn
 · refine aM cB ?_
   obtain rfl:=aC h
   exact hK _ _ _ _ _ aL aq kn
theorem tZ {F:Nat} {i2:Int} {s1:List UInt8} {H:AH} {K:Exit→Env→AH→Prop} {o:(Bool)⊕(Unit)}
 (h:iter (dH F s1) F i2=some o)
 (dV:∀o':Unit,o= .inr o'→K (.exit 0) [(0,(.str s1))] H)
 (kr:∀o':Bool,o= .inl o'→K .ret [(2,(.bool o'))] H):
 AX Tryz.prog jA 44 H.length (.loop (erase mE)) K [(0,(.str s1)),(3,(.int .i64 i2))] H:=by
 refine jM (fun s e H1=>match s with|i2=>e=[(0,(.str s1)),(3,(.int .i64 i2))]∧H1=H) h ⟨rfl,rfl⟩ ?_
 rintro K' i2 st e H ⟨rfl,rfl⟩ h hN hB hR hX
 rw [dH.eq_1] at h
 refine aA ?_
 refine bZ h (fun hy1 h=> ?_) fun hy1 h=> ?_
 · refine aA ?_
   obtain ⟨Ac,cv,h⟩:=aj h
   refine bS aq (tX cv ?_)
   refine aA ?_
   obtain ⟨t10,dx,h⟩:=aj h
   refine bS aq (tY dx ?_)
   refine aA ?_
   refine bZ h (fun dh h=> ?_) fun dh h=> ?_
   · refine aA ?_
     obtain rfl:=aC h
     exact hX _ _ _ _ _ ez aL aq (kr _ (hR _ rfl))
   · refine aA ?_
     obtain rfl:=aC h
     exact hN _ rfl _ _ _ _ aL aq ⟨rfl,rfl⟩
 · refine aA ?_
   obtain rfl:=aC h
   exact hX _ _ _ _ _ ez aL aq (dV _ (hB _ rfl))
theorem yw {F:Nat} {s1:List UInt8} {H0:AH} {aI:Bool} (h:jB F s1=some aI):
 az Tryz.prog 46 [(.str s1)] H0 fun v H'=>v=(.bool aI)∧H'=H0:=by
 refine dz Ab jA fun hcl K0 aN=> ?_
 rw [jB.eq_1] at h
 refine aA ?_
 obtain ⟨FO,gh,h⟩:=aj h
 refine bS aq (tZ gh ?_ ?_)
 · rintro ⟨⟩ rfl
   try dsimp only at h
   refine aA ?_
   obtain rfl:=aC h
   exact aN _ _ _ bE (aH hcl (bA bC (.bool (!decide (s1=([]:List UInt8))))) bD bu ⟨rfl,rfl⟩)
 · rintro cm rfl
   try dsimp only at h
   refine aA ?_
   obtain rfl:=aC h
   exact aN _ _ _ bE (aH hcl (bA bC (.bool cm)) bD bu ⟨rfl,rfl⟩)
abbrev o9:au:=(.rg [(ai 5 (.gY (.t 1) 0)),(ai 6 (.ld (.t 5) none)),(ai 7 (.bin .eql (.t 6) (.c (.str [])))),(av 8 7),(aB 9 (.gY (.t 1) 1) 8 true),(aB 10 (.ld (.t 9) none) 8 true),(aB 11 (.bin .eql (.t 10) (.c (.str []))) 8 true),(ai 12 (.pick (.t 8) (.t 11) (.c (.bool false))))])
abbrev pg:au:=(.rg [(ai 32 (.gY (.t 1) 0)),(ai 33 (.ld (.t 32) none)),(av 34 4),(ai 35 (.ixs (.t 33) (.t 34))),(ai 36 (.bin .eql (.t 35) (.c (b8 34)))),(av 37 36),(aB 38 (.gY (.t 1) 0) 37 false),(aB 39 (.ld (.t 38) none) 37 false),(aB 40 (.mv (.t 4)) 37 false),(aB 41 (.ixs (.t 39) (.t 40)) 37 false),(aB 42 (.bin .eql (.t 41) (.c (b8 92))) 37 false),(ai 43 (.pick (.t 37) (.c (.bool true)) (.t 42)))])
abbrev nT:au:=(.seq (.seq (.rg [(av 25 4),(ai 26 (.gY (.t 1) 0)),(ai 27 (.ld (.t 26) none)),(ai 28 (.lens (.t 27))),(ai 29 (.bin .lss (.t 25) (.t 28)))]) (.cond (.t 29) .skip (.exit 0))) (.seq (.blk 1 (.seq (.seq (.sem (erase pg)) (.cond (.t 43) (.rg [(av 44 3),(ai 45 (.j9 1 [(.c (b8 92))])),(ai 46 (.app 1 1 (.t 44) (.t 45))),(aP 3 46)]) .skip)) (.rg [(av 47 3),(ai 48 (.gY (.t 1) 0)),(ai 49 (.ld (.t 48) none)),(av 50 4),(ai 51 (.ixs (.t 49) (.t 50))),(ai 52 (.j9 1 [(.t 51)])),(ai 53 (.app 1 1 (.t 47) (.t 52))),(aP 3 53)]))) (.rg [(av 30 4),(ai 31 (.bin .add (.t 30) (.c (.int .i64 1)))),(aP 4 31)])))
abbrev pn:au:=(.rg [(av 54 3),(ai 59 (.gY (.t 1) 1)),(ai 60 (.xH (.t 59) none)),(ai 55 (.j9 1 [(.c (b8 34))])),(ai 56 (.app 1 1 (.t 54) (.t 55))),(ai 57 (.yJ (.t 56))),(ai 58 (.bin .add (.t 57) (.c (.str [64])))),(ai 61 (.bin .add (.t 58) (.t 60))),(ai 62 (.bin .add (.t 61) (.c (.str [62])))),(aP 2 62)])
abbrev Bl:au:=(.seq (.rg [(ai 1 (.box (.t 0))),(ai 2 (.aT (.c (.str []))))]) (.seq (.seq (.sem (erase o9)) (.cond (.t 12) (.seq (.rg [(ai 2 (.aT (.c (.str [60,62]))))]) .ret) .skip)) (.seq (.seq (.rg [(ai 13 (.gY (.t 1) 0)),(ai 14 (.ld (.t 13) none)),(ai 15 (.call (.c (.fn 46 [])) [(.t 14)]))]) (.cond (.t 15) (.seq (.rg [(ai 16 (.gY (.t 1) 0)),(ai 17 (.ld (.t 16) none)),(ai 18 (.bin .add (.c (.str [60])) (.t 17))),(ai 19 (.bin .add (.t 18) (.c (.str [64])))),(ai 20 (.gY (.t 1) 1)),(ai 21 (.ld (.t 20) none)),(ai 22 (.bin .add (.t 19) (.t 21))),(ai 23 (.bin .add (.t 22) (.c (.str [62])))),(aP 2 23)]) .ret) .skip)) (.seq (.rg [(ai 24 (.j9 1 [(.c (b8 60)),(.c (b8 34))])),(aP 3 24)]) (.seq (.seq (.rg [(ai 4 (.aT (.c (.int .i64 0))))]) (.blk 0 (.loop (erase nT)))) (.seq (.sem (erase pn)) .ret))))))
theorem Bm:bw Tryz.prog 33 63 [(.tmp 2)] (erase Bl):=⟨Tryz.f33,_,rfl,by decide,rfl,by kernel_rfl,rfl,rfl⟩
abbrev iB:List Nat:=[0,1,2,3,4,12,15,29,43]
def jC (a1:aE) (i10:Int):Option (Bool):=
 (idx a1.aD i10).bind fun wH=>
 (if (decide (wH=34)) then
  some true
 else
  some (decide (wH=92)))
def ec (a1:aE):((List UInt8)×Int)→Option (St (List UInt8) (List UInt8) ((List UInt8)×Int))
 |(b9,i10)=>
  (if (decide (i10<(a1.aD.length:Int))) then
   (jC a1 i10).bind fun t14=>
   (if t14 then
    (cF 1 b9 ([92]:List UInt8)).bind fun uJ=>
    (idx a1.aD i10).bind fun z6=>
    (cF 1 uJ ([z6]:List UInt8)).bind fun tE=>some (.cu (tE,(IntKind.wrap .i64 (i10+1))))
   else
    (idx a1.aD i10).bind fun xU=>
    (cF 1 b9 ([xU]:List UInt8)).bind fun iR=>some (.cu (iR,(IntKind.wrap .i64 (i10+1)))))
  else
   some (.dU b9))
def jD (FW:List UInt8) (a1:aE):Option ((List UInt8)):=
 (cF 1 FW ([34]:List UInt8)).bind fun Wq=>
 (cat Wq ([64]:List UInt8)).bind fun FU=>
 (cat FU a1.domain).bind fun xV=>(cat xV ([62]:List UInt8)).bind fun DK=>some DK
def gv (F:Nat) (a1:aE):Option ((List UInt8)):=
 (if ((decide (a1.aD=([]:List UInt8)))&&(decide (a1.domain=([]:List UInt8)))) then
  some ([60,62]:List UInt8)
 else
  (jB F a1.aD).bind fun r3=>
  (if r3 then
   (cat ([60]:List UInt8) a1.aD).bind fun x4=>
   (cat x4 ([64]:List UInt8)).bind fun x5=>
   (cat x5 a1.domain).bind fun x6=>(cat x6 ([62]:List UInt8)).bind fun x7=>some x7
  else
   ((iter (ec a1) F (([60,34]:List UInt8),0)).bind fun Qj=>
   match Qj with
   | .inr FW=>
     (jD FW a1).bind fun t27=>
     some t27
   | .inl _=>none)))
theorem vi {q2:Nat} {a1:aE} {H0 H:AH} (hfr:Fr H0 H0.length [] H) (ak:H[q2]? =some [(.str a1.aD),(.str a1.domain)]) (hi0:H0.length≤q2) {K:Exit→Env→AH→Prop}
 (kn:∀H':AH,Fr H0 H0.length [] H'→H'[q2]? =some [(.str a1.aD),(.str a1.domain)]→K .normal [(1,(.ptr q2 0)),(12,(.bool ((decide (a1.aD=([]:List UInt8)))&&(decide (a1.domain=([]:List UInt8))))))] H'):
 AX Tryz.prog iB 63 H0.length (erase o9) K [(1,(.ptr q2 0))] H:=by
 refine cG fun K' hK=> ?_
 have hle:=hfr.le
 have dB:=ff ak
 refine aZ ak ?_
 refine mM (fun hy1=> ?_) fun hy1=> ?_
 · refine aZ (aK hy1 ak) ?_
   exact hK _ _ _ _ _ (dL hy1) aq (kn _ hfr (ak.trans rfl))
 · refine aZ (aK hy1 ak) ?_
   exact hK _ _ _ _ _ (dL hy1) aq (kn _ hfr (ak.trans rfl))
theorem vj {a1:aE} {i10:Int} {ML:Nat} {b9:List UInt8} {H0 H:AH} (hfr:Fr H0 H0.length [] H) (ak:H[ML]? =some [(.str a1.aD),(.str a1.domain)]) (hi0:H0.length≤ML) {K:Exit→Env→AH→Prop} {t13:Bool}
 (h:jC a1 i10=some t13)
 (kn:∀H':AH,Fr H0 H0.length [] H'→H'[ML]? =some [(.str a1.aD),(.str a1.domain)]→K .normal [(1,(.ptr ML 0)),(3,(.sl .own 1 (ml b8 b9))),(4,(.int .i64 i10)),(43,(.bool t13))] H'):
 AX Tryz.prog iB 63 H0.length (erase pg) K [(1,(.ptr ML 0)),(3,(.sl .own 1 (ml b8 b9))),(4,(.int .i64 i10))] H:=by
 refine cG fun K' hK=> ?_
 have hle:=hfr.le
 have dB:=ff ak
 rw [jC.eq_1] at h
 obtain ⟨wH,de,h⟩:=aj h
 refine aZ (aK de ak) ?_
 refine cw h (fun dx h=> ?_) fun dx h=> ?_
 · refine aZ (aK dx ak) ?_
   obtain rfl:=aC h
   exact hK _ _ _ _ _ aL aq (kn _ hfr (ak.trans rfl))
 · refine aZ (aK dx (aK de ak)) ?_
   obtain rfl:=aC h
   exact hK _ _ _ _ _ aL aq (kn _ hfr (ak.trans rfl))
theorem vk {F:Nat} {i10:Int} {a1:aE} {b9:List UInt8} {q8:Nat} {H0 H:AH} (hfr:Fr H0 H0.length [] H) (ak:H[q8]? =some [(.str a1.aD),(.str a1.domain)]) (hi0:H0.length≤q8) {K:Exit→Env→AH→Prop} {o:((List UInt8))⊕((List UInt8))}
 (h:iter (ec a1) F (b9,i10)=some o)
 (dV:∀o':(List UInt8),o= .inr o'→∀H':AH,Fr H0 H0.length [] H'→H'[q8]? =some [(.str a1.aD),(.str a1.domain)]→K (.exit 0) [(1,(.ptr q8 0)),(3,(.sl .own 1 (ml b8 o')))] H'):
 AX Tryz.prog iB 63 H0.length (.loop (erase nT)) K [(1,(.ptr q8 0)),(3,(.sl .own 1 (ml b8 b9))),(4,(.int .i64 i10))] H:=by
 refine jM (fun s e H1=>match s with|(b9,i10)=>e=[(1,(.ptr q8 0)),(3,(.sl .own 1 (ml b8 b9))),(4,(.int .i64 i10))]∧Fr H0 H0.length [] H1∧H1[q8]? =some [(.str a1.aD),(.str a1.domain)]) h ⟨rfl,hfr,ak⟩ ?_
 rintro K' ⟨b9,i10⟩ st e H ⟨rfl,hfr,ak⟩ h hN hB hR hX
 have hle:=hfr.le
 have dB:=ff ak
 rw [ec.eq_1] at h
 refine aZ ak ?_
 refine bZ h (fun eV h=> ?_) fun eV h=> ?_
 · refine aZ ak ?_
   obtain ⟨t14,dh,h⟩:=aj h
   refine bS aq (vj (b9:=b9) (ML:=q8) hfr (ak.trans rfl) wh dh ?_)
   intro H hfr ak
   have hle:=hfr.le
   have dB:=ff ak
   refine aZ ak ?_
   refine bZ h (fun gh h=> ?_) fun gh h=> ?_
   · obtain ⟨uJ,kz,h⟩:=aj h
     have lS:cF 1 (ml b8 b9) [(b8 92)]=some (ml b8 uJ):=fR (f:=b8) kz
     obtain ⟨z6,iW,h⟩:=aj h
     obtain ⟨tE,oL,h⟩:=aj h
     have oM:cF 1 (ml b8 uJ) [(b8 z6)]=some (ml b8 tE):=fR (f:=b8) oL
     refine aZ (aK lS (aK iW (aK oM ak))) ?_
     obtain rfl:=aC h
     exact hN _ rfl _ _ _ _ aL aq ⟨rfl,hfr,(ak.trans rfl)⟩
   · obtain ⟨xU,kA,h⟩:=aj h
     obtain ⟨iR,oN,h⟩:=aj h
     have jO:cF 1 (ml b8 b9) [(b8 xU)]=some (ml b8 iR):=fR (f:=b8) oN
     refine aZ (aK kA (aK jO ak)) ?_
     obtain rfl:=aC h
     exact hN _ rfl _ _ _ _ aL aq ⟨rfl,hfr,(ak.trans rfl)⟩
 · refine aZ ak ?_
   obtain rfl:=aC h
   exact hX _ _ _ _ _ ez aL aq (dV _ (hB _ rfl) _ hfr (ak.trans rfl))
theorem vl {FW:List UInt8} {a1:aE} {H0 H:AH} (hfr:Fr H0 H0.length [] H) {K:Exit→Env→AH→Prop} {t26:List UInt8}
 (h:jD FW a1=some t26)
 (kn:∀H':AH,Fr H0 H0.length [] H'→K .normal [(2,(.str t26))] H'):
 AX Tryz.prog iB 63 H0.length (erase pn) K [(1,(.ep (.agg [(.str a1.aD),(.str a1.domain)]) 0)),(3,(.sl .own 1 (ml b8 FW)))] H:=by
 refine cG fun K' hK=> ?_
 have hle:=hfr.le
 rw [jD.eq_1] at h
 obtain ⟨Wq,oO,h⟩:=aj h
 have oP:cF 1 (ml b8 FW) [(b8 34)]=some (ml b8 Wq):=fR (f:=b8) oO
 obtain ⟨FU,kB,h⟩:=aj h
 obtain ⟨xV,rj,h⟩:=aj h
 obtain ⟨DK,uQ,h⟩:=aj h
 refine aZ (aK oP (aK kB (aK rj uQ))) ?_
 obtain rfl:=aC h
 exact hK _ _ _ _ _ aL aq (kn _ hfr)
theorem rE {F:Nat} {a1:aE} {H0:AH} {aI:List UInt8} (h:gv F a1=some aI):
 az Tryz.prog 33 [(.agg [(.str a1.aD),(.str a1.domain)])] H0 fun v H'=>v=(.str aI)∧H'=H0:=by
 refine sr Bm iB [] fun hcl K0 aN H hH hfr=> ?_
 clear hH
 have hle:=hfr.le
 rw [gv.eq_1] at h
 refine bG ?_
 obtain ⟨q2,pV⟩:∃q:Nat,H.length=q:=⟨_,rfl⟩
 try rw [pV]
 refine bS aq (vi (q2:=q2) (a1:=a1) (Fr.app hfr) IV wh ?_)
 intro H hfr ak
 have hle:=hfr.le
 have dB:=ff ak
 refine aZ ak ?_
 refine bZ h (fun aV h=> ?_) fun aV h=> ?_
 · refine aZ ak ?_
   obtain rfl:=aC h
   exact aN _ _ _ bE (bR hfr hcl (bA bC (.str ([60,62]:List UInt8))) bD bu ⟨rfl,rfl⟩)
 · refine aZ ak ?_
   obtain ⟨r3,aY,h⟩:=aj h
   refine bx aq (yw aY) ?_
   refine aZ ak ?_
   refine bZ h (fun aX h=> ?_) fun aX h=> ?_
   · obtain ⟨x4,bk,h⟩:=aj h
     obtain ⟨x5,cj,h⟩:=aj h
     obtain ⟨x6,cv,h⟩:=aj h
     obtain ⟨x7,cB,h⟩:=aj h
     refine aZ (aK bk (aK cj (aK cv (aK cB ak)))) ?_
     obtain rfl:=aC h
     exact aN _ _ _ bE (bR hfr hcl (bA bC (.str x7)) bD bu ⟨rfl,rfl⟩)
   · refine aZ ak ?_
     obtain ⟨Qj,ku,h⟩:=aj h
     refine bS aq (vk (q8:=q2) hfr (ak.trans rfl) wh ku ?_)
     · rintro FW rfl H hfr ak
       try dsimp only at h ak
       have hle:=hfr.le
       have dB:=ff ak
       refine aZ ak ?_
       refine MF ?_
       apply AX.freeze (s:=q2) (cs:=[(.str a1.aD),(.str a1.domain)]) (by exact (ak.trans rfl)) (gH.same (gH.same (gH.nil))) (by simp) rfl
       · repeat (first|exact FZ.nil|apply FZ.ep|apply FZ.same)
       refine Qa ?_
       obtain ⟨t27,zD,h⟩:=aj h
       refine bS aq (vl (wj _ hfr) zD ?_)
       intro H hfr
       have hle:=hfr.le
       refine bG ?_
       obtain rfl:=aC h
       exact aN _ _ _ bE (bR hfr hcl (bA bC (.str t27)) bD bu ⟨rfl,rfl⟩)
abbrev nU:au:=(.rg [(ai 3 (.gY (.t 1) 0)),(ai 4 (.ld (.t 3) none)),(ai 5 (.bin .eql (.t 4) (.c (.str [])))),(av 6 5),(aB 7 (.gY (.t 1) 1) 6 true),(aB 8 (.ld (.t 7) none) 6 true),(aB 9 (.bin .eql (.t 8) (.c (.str []))) 6 true),(ai 10 (.pick (.t 6) (.t 9) (.c (.bool false))))])
abbrev nV:au:=(.rg [(ai 11 (.gY (.t 1) 0)),(ai 12 (.ld (.t 11) none)),(ai 13 (.call (.c (.fn 44 [])) [(.t 12)])),(av 14 13),(aB 15 (.gY (.t 1) 1) 14 true),(aB 16 (.ld (.t 15) none) 14 true),(aB 17 (.call (.c (.fn 45 [])) [(.t 16)]) 14 true),(ai 18 (.pick (.t 14) (.t 17) (.c (.bool false)))),(av 19 18),(aB 20 (.ld (.t 1) (some 2)) 19 true),(aB 21 (.call (.c (.fn 33 [])) [(.t 20)]) 19 true),(aB 22 (.lens (.t 21)) 19 true),(aB 23 (.bin .leq (.t 22) (.c (.int .i64 256))) 19 true),(ai 24 (.pick (.t 19) (.t 23) (.c (.bool false)))),(aP 2 24)])
abbrev Ad:au:=(.seq (.rg [(ai 1 (.box (.t 0))),(ai 2 (.aT (.c (.bool false))))]) (.seq (.seq (.sem (erase nU)) (.cond (.t 10) (.seq (.rg [(ai 2 (.aT (.c (.bool true))))]) .ret) .skip)) (.seq (.sem (erase nV)) .ret)))
theorem Ae:bw Tryz.prog 32 25 [(.tmp 2)] (erase Ad):=⟨Tryz.f32,_,rfl,by decide,rfl,by kernel_rfl,rfl,rfl⟩
abbrev mF:List Nat:=[0,1,2,10]
def iL (F:Nat) (a1:aE):Option (Bool):=
 (jv F a1.aD).bind fun r4=>
 (if r4 then
  (dQ F a1.domain).bind fun r5=>
  (if r5 then
   (gv F a1).bind fun r6=>some (decide ((r6.length:Int)≤256))
  else
   some false)
 else
  some false)
def jE (F:Nat) (a1:aE):Option (Bool):=
 (if ((decide (a1.aD=([]:List UInt8)))&&(decide (a1.domain=([]:List UInt8)))) then
  some true
 else
  (iL F a1).bind fun t8=>
  some t8)
theorem ua {q2:Nat} {a1:aE} {H0 H:AH} (hfr:Fr H0 H0.length [] H) (ak:H[q2]? =some [(.str a1.aD),(.str a1.domain)]) (hi0:H0.length≤q2) {K:Exit→Env→AH→Prop}
 (kn:∀H':AH,Fr H0 H0.length [] H'→H'[q2]? =some [(.str a1.aD),(.str a1.domain)]→K .normal [(1,(.ptr q2 0)),(10,(.bool ((decide (a1.aD=([]:List UInt8)))&&(decide (a1.domain=([]:List UInt8))))))] H'):
 AX Tryz.prog mF 25 H0.length (erase nU) K [(1,(.ptr q2 0))] H:=by
 refine cG fun K' hK=> ?_
 have hle:=hfr.le
 have dB:=ff ak
 refine aZ ak ?_
 refine mM (fun hy1=> ?_) fun hy1=> ?_
 · refine aZ (aK hy1 ak) ?_
   exact hK _ _ _ _ _ (dL hy1) aq (kn _ hfr (ak.trans rfl))
 · refine aZ (aK hy1 ak) ?_
   exact hK _ _ _ _ _ (dL hy1) aq (kn _ hfr (ak.trans rfl))
theorem uc {F:Nat} {a1:aE} {q3:Nat} {H0 H:AH} (hfr:Fr H0 H0.length [] H) (ak:H[q3]? =some [(.str a1.aD),(.str a1.domain)]) (hi0:H0.length≤q3) {K:Exit→Env→AH→Prop} {t7:Bool}
 (h:iL F a1=some t7)
 (kn:∀H':AH,Fr H0 H0.length [] H'→H'[q3]? =some [(.str a1.aD),(.str a1.domain)]→K .normal [(2,(.bool t7))] H'):
 AX Tryz.prog mF 25 H0.length (erase nV) K [(1,(.ptr q3 0))] H:=by
 refine cG fun K' hK=> ?_
 have hle:=hfr.le
 have dB:=ff ak
 rw [iL.eq_1] at h
 refine aZ ak ?_
 obtain ⟨r4,aY,h⟩:=aj h
 refine bx aq (yj aY) ?_
 refine aZ ak ?_
 refine cw h (fun aX h=> ?_) fun aX h=> ?_
 · refine aZ (aK aX ak) ?_
   obtain ⟨r5,bk,h⟩:=aj h
   refine bx aq (xb bk) ?_
   refine aZ ak ?_
   refine cw h (fun cj h=> ?_) fun cj h=> ?_
   · refine aZ (aK cj ak) ?_
     obtain ⟨r6,cv,h⟩:=aj h
     refine bx aq (rE cv) ?_
     refine aZ ak ?_
     obtain rfl:=aC h
     exact hK _ _ _ _ _ aL aq (kn _ hfr (ak.trans rfl))
   · refine aZ (aK cj ak) ?_
     obtain rfl:=aC h
     exact hK _ _ _ _ _ aL aq (kn _ hfr (ak.trans rfl))
 · refine aZ (aK aX ak) ?_
   obtain rfl:=aC h
   exact hK _ _ _ _ _ aL aq (kn _ hfr (ak.trans rfl))
theorem yx {F:Nat} {a1:aE} {H0:AH} {aI:Bool} (h:jE F a1=some aI):
 az Tryz.prog 32 [(.agg [(.str a1.aD),(.str a1.domain)])] H0 fun v H'=>v=(.bool aI)∧H'=H0:=by
 refine sr Ae mF [] fun hcl K0 aN H hH hfr=> ?_
 clear hH
 have hle:=hfr.le
 rw [jE.eq_1] at h
 refine bG ?_
 obtain ⟨q2,pV⟩:∃q:Nat,H.length=q:=⟨_,rfl⟩
 try rw [pV]
 refine bS aq (ua (q2:=q2) (a1:=a1) (Fr.app hfr) IV wh ?_)
 intro H hfr ak
 have hle:=hfr.le
 have dB:=ff ak
 refine aZ ak ?_
 refine bZ h (fun aV h=> ?_) fun aV h=> ?_
 · refine aZ ak ?_
   obtain rfl:=aC h
   exact aN _ _ _ bE (bR hfr hcl (bA bC (.bool true)) bD bu ⟨rfl,rfl⟩)
 · refine aZ ak ?_
   obtain ⟨t8,cB,h⟩:=aj h
   refine bS aq (uc (q3:=q2) hfr (ak.trans rfl) wh cB ?_)
   intro H hfr ak
   have hle:=hfr.le
   have dB:=ff ak
   refine aZ ak ?_
   obtain rfl:=aC h
   exact aN _ _ _ bE (bR hfr hcl (bA bC (.bool t8)) bD bu ⟨rfl,rfl⟩)
abbrev Af:au:=(.seq (.rg [(ai 1 (.box (.t 0))),(ai 2 (.aT (.c (.str []))))]) (.seq (.seq (.rg [(ai 3 (.ld (.t 1) (some 2))),(ai 4 (.call (.c (.fn 32 [])) [(.t 3)])),(ai 5 (.un .not (.t 4)))]) (.cond (.t 5) (.seq (.rg [(ai 2 (.aT (.c (.str []))))]) .ret) .skip)) (.seq (.rg [(ai 6 (.ld (.t 1) (some 2))),(ai 7 (.call (.c (.fn 33 [])) [(.t 6)])),(aP 2 7)]) .ret)))
theorem Ag:bw Tryz.prog 17 8 [(.tmp 2)] (erase Af):=⟨Tryz.f17,_,rfl,by decide,rfl,by kernel_rfl,rfl,rfl⟩
abbrev Ah:List Nat:=[0,1,2,5]
def fA (F:Nat) (a1:aE):Option ((List UInt8)):=
 (jE F a1).bind fun r2=>
 (if (!r2) then
  some ([]:List UInt8)
 else
  (gv F a1).bind fun r3=>some r3)
theorem yy {F:Nat} {a1:aE} {H0:AH} {aI:List UInt8} (h:fA F a1=some aI):
 az Tryz.prog 17 [(.agg [(.str a1.aD),(.str a1.domain)])] H0 fun v H'=>v=(.str aI)∧H'=H0:=by
 refine sr Ag Ah [] fun hcl K0 aN H hH hfr=> ?_
 clear hH
 have hle:=hfr.le
 rw [fA.eq_1] at h
 refine bG ?_
 obtain ⟨r2,hy1,h⟩:=aj h
 refine bx aq (yx hy1) ?_
 refine bG ?_
 refine bZ h (fun aV h=> ?_) fun aV h=> ?_
 · refine bG ?_
   obtain rfl:=aC h
   exact aN _ _ _ bE (bR (Fr.app hfr) hcl (bA bC (.str ([]:List UInt8))) bD bu ⟨rfl,rfl⟩)
 · refine bG ?_
   obtain ⟨r3,aY,h⟩:=aj h
   refine bx aq (rE aY) ?_
   refine bG ?_
   obtain rfl:=aC h
   exact aN _ _ _ bE (bR (Fr.app hfr) hcl (bA bC (.str r3)) bD bu ⟨rfl,rfl⟩)
abbrev pz:au:=(.rg [(av 3 0),(ai 4 (.bin .rem (.t 3) (.c (.int .i64 4)))),(ai 5 (.bin .eql (.t 4) (.c (.int .i64 0)))),(av 6 5),(aB 7 (.mv (.t 0)) 6 true),(aB 8 (.bin .rem (.t 7) (.c (.int .i64 100))) 6 true),(aB 9 (.bin .neq (.t 8) (.c (.int .i64 0))) 6 true),(aB 10 (.mv (.t 9)) 6 true),(aB 11 (.mv (.t 0)) 10 false),(aB 12 (.bin .rem (.t 11) (.c (.int .i64 400))) 10 false),(aB 13 (.bin .eql (.t 12) (.c (.int .i64 0))) 10 false),(aB 14 (.pick (.t 10) (.c (.bool true)) (.t 13)) 6 true),(ai 15 (.pick (.t 6) (.t 14) (.c (.bool false)))),(aP 2 15)])
abbrev Bn:au:=(.seq (.rg [(ai 2 (.aT (.c (.bool false))))]) (.seq (.sem (erase pz)) .ret))
theorem Bo:bw Tryz.prog 21 16 [(.tmp 2)] (erase Bn):=⟨Tryz.f21,_,rfl,by decide,rfl,by kernel_rfl,rfl,rfl⟩
abbrev sY:List Nat:=[0,2]
def kJ (y1:Int):Option (Bool):=
 some ((decide ((Int.tmod y1 4)=0))&&((!decide ((Int.tmod y1 100)=0))||(decide ((Int.tmod y1 400)=0))))
theorem vm {y1:Int} {H:AH} {K:Exit→Env→AH→Prop}
 (kn:K .normal [(2,(.bool ((decide ((Int.tmod y1 4)=0))&&((!decide ((Int.tmod y1 100)=0))||(decide ((Int.tmod y1 400)=0))))))] H):
 AX Tryz.prog sY 16 H.length (erase pz) K [(0,(.int .i64 y1)),(2,(.bool false))] H:=by
 refine cG fun K' hK=> ?_
 have aX:rm .i64 y1 4=some (Int.tmod y1 4):=rfl
 refine aM aX ?_
 refine mM (fun bk=> ?_) fun bk=> ?_
 · have cj:rm .i64 y1 100=some (Int.tmod y1 100):=rfl
   refine aM (aK bk cj) ?_
   refine mM (fun cv=> ?_) fun cv=> ?_
   · refine aM cv ?_
     exact hK _ _ _ _ _ (dL (aK bk cv)) aq kn
   · have cB:rm .i64 y1 400=some (Int.tmod y1 400):=rfl
     refine aM (aK cv cB) ?_
     exact hK _ _ _ _ _ (dL (aK bk cv)) aq kn
 · refine aM bk ?_
   exact hK _ _ _ _ _ (dL bk) aq kn
theorem rF {y1:Int} {H0:AH} {aI:Bool} (h:kJ y1=some aI):
 az Tryz.prog 21 [(.int .i64 y1)] H0 fun v H'=>v=(.bool aI)∧H'=H0:=by
 refine dz Bo sY fun hcl K0 aN=> ?_
 rw [kJ.eq_1] at h
 refine aA ?_
 refine bS aq (vm (y1:=y1) ?_)
 refine aA ?_
 obtain rfl:=aC h
 exact aN _ _ _ bE (aH hcl (bA bC (.bool ((decide ((Int.tmod y1 4)=0))&&((!decide ((Int.tmod y1 100)=0))||(decide ((Int.tmod y1 400)=0)))))) bD bu ⟨rfl,rfl⟩)
abbrev pE:au:=(.rg [(av 7 0),(ai 8 (.bin .eql (.t 7) (.c (.int .i64 1)))),(av 9 8),(aB 10 (.mv (.t 1)) 9 true),(aB 11 (.call (.c (.fn 21 [])) [(.t 10)]) 9 true),(ai 12 (.pick (.t 9) (.t 11) (.c (.bool false))))])
abbrev Bp:au:=(.seq (.rg [(ai 4 (.aT (.c (.int .i64 0))))]) (.seq (.rg [(ai 6 (.j9 1 [(.c (.int .i64 31)),(.c (.int .i64 28)),(.c (.int .i64 31)),(.c (.int .i64 30)),(.c (.int .i64 31)),(.c (.int .i64 30)),(.c (.int .i64 31)),(.c (.int .i64 31)),(.c (.int .i64 30)),(.c (.int .i64 31)),(.c (.int .i64 30)),(.c (.int .i64 31))])),(aP 5 6)]) (.seq (.seq (.sem (erase pE)) (.cond (.t 12) (.seq (.rg [(ai 4 (.aT (.c (.int .i64 29))))]) .ret) .skip)) (.seq (.rg [(av 13 5),(av 14 0),(ai 15 (.lF 1 (.t 13) (.t 14))),(ai 16 (.ld (.t 15) none)),(aP 4 16)]) .ret))))
theorem Bq:bw Tryz.prog 22 17 [(.tmp 4)] (erase Bp):=⟨Tryz.f22,_,rfl,by decide,rfl,by kernel_rfl,rfl,rfl⟩
abbrev sZ:List Nat:=[0,1,4,5,12]
def jF (m1:Int) (y2:Int):Option (Bool):=
 (if (decide (m1=1)) then
  (kJ y2).bind fun r3=>some r3
 else
  some false)
def ja (m1:Int) (y2:Int):Option (Int):=
 (jF m1 y2).bind fun t5=>
 (if t5 then
  some 29
 else
  (idx ([31,28,31,30,31,30,31,31,30,31,30,31]:List Int) m1).bind fun x6=>some x6)
theorem vn {m1:Int} {y2:Int} {H:AH} {K:Exit→Env→AH→Prop} {t4:Bool}
 (h:jF m1 y2=some t4)
 (kn:K .normal [(0,(.int .i64 m1)),(5,(.sl .ex 1 [(.int .i64 31),(.int .i64 28),(.int .i64 31),(.int .i64 30),(.int .i64 31),(.int .i64 30),(.int .i64 31),(.int .i64 31),(.int .i64 30),(.int .i64 31),(.int .i64 30),(.int .i64 31)])),(12,(.bool t4))] H):
 AX Tryz.prog sZ 17 H.length (erase pE) K [(0,(.int .i64 m1)),(1,(.int .i64 y2)),(5,(.sl .ex 1 [(.int .i64 31),(.int .i64 28),(.int .i64 31),(.int .i64 30),(.int .i64 31),(.int .i64 30),(.int .i64 31),(.int .i64 31),(.int .i64 30),(.int .i64 31),(.int .i64 30),(.int .i64 31)]))] H:=by
 refine cG fun K' hK=> ?_
 rw [jF.eq_1] at h
 refine aA ?_
 refine cw h (fun hy1 h=> ?_) fun hy1 h=> ?_
 · refine aM hy1 ?_
   obtain ⟨r3,aV,h⟩:=aj h
   refine bx aq (rF aV) ?_
   refine aA ?_
   obtain rfl:=aC h
   exact hK _ _ _ _ _ aL aq kn
 · refine aM hy1 ?_
   obtain rfl:=aC h
   exact hK _ _ _ _ _ aL aq kn
theorem rG {m1:Int} {y2:Int} {H0:AH} {aI:Int} (h:ja m1 y2=some aI):
 az Tryz.prog 22 [(.int .i64 m1),(.int .i64 y2)] H0 fun v H'=>v=(.int .i64 aI)∧H'=H0:=by
 refine dz Bq sZ fun hcl K0 aN=> ?_
 rw [ja.eq_1] at h
 refine aA ?_
 obtain ⟨t5,aY,h⟩:=aj h
 refine bS aq (vn aY ?_)
 refine aA ?_
 refine bZ h (fun aX h=> ?_) fun aX h=> ?_
 · refine aA ?_
   obtain rfl:=aC h
   exact aN _ _ _ bE (aH hcl (bA bC (.int .i64 29)) bD bu ⟨rfl,rfl⟩)
 · obtain ⟨x6,bk,h⟩:=aj h
   have cj:idx [(.int .i64 31),(.int .i64 28),(.int .i64 31),(.int .i64 30),(.int .i64 31),(.int .i64 30),(.int .i64 31),(.int .i64 31),(.int .i64 30),(.int .i64 31),(.int .i64 30),(.int .i64 31)] m1=some ((xx .i64) x6):=Da (f:=(xx .i64)) bk
   refine aM cj ?_
   obtain rfl:=aC h
   exact aN _ _ _ bE (aH hcl (bA bC (.int .i64 x6)) bD bu ⟨rfl,rfl⟩)
abbrev DL:au:=(.seq (.rg [(ai 2 (.aT (.c (.str []))))]) (.seq (.rg [(av 3 0),(ai 4 (.bin .quo (.t 3) (.c (.int .i64 10)))),(ai 5 (.bin .rem (.t 4) (.c (.int .i64 10)))),(ai 6 (.bin .add (.c (.int .i64 48)) (.t 5))),(ai 7 (.gU (.int .u8) (.t 6))),(av 8 0),(ai 9 (.bin .rem (.t 8) (.c (.int .i64 10)))),(ai 10 (.bin .add (.c (.int .i64 48)) (.t 9))),(ai 11 (.gU (.int .u8) (.t 10))),(ai 12 (.j9 1 [(.t 7),(.t 11)])),(ai 13 (.gU .bs (.t 12))),(aP 2 13)]) .ret))
theorem DM:bw Tryz.prog 23 14 [(.tmp 2)] (erase DL):=⟨Tryz.f23,_,rfl,by decide,rfl,by kernel_rfl,rfl,rfl⟩
abbrev DN:List Nat:=[0,2]
def eJ (fc:Int):Option ((List UInt8)):=
 some ([(UInt8.ofInt (IntKind.wrap .i64 (48+(Int.tmod (IntKind.wrap .i64 (Int.tdiv fc 10)) 10)))),(UInt8.ofInt (IntKind.wrap .i64 (48+(Int.tmod fc 10))))]:List UInt8)
theorem fO {fc:Int} {H0:AH} {aI:List UInt8} (h:eJ fc=some aI):
 az Tryz.prog 23 [(.int .i64 fc)] H0 fun v H'=>v=(.str aI)∧H'=H0:=by
 refine dz DM DN fun hcl K0 aN=> ?_
 rw [eJ.eq_1] at h
 have hy1:dv .i64 fc 10=some (IntKind.wrap .i64 (Int.tdiv fc 10)):=rfl
 have aV:rm .i64 (IntKind.wrap .i64 (Int.tdiv fc 10)) 10=some (Int.tmod (IntKind.wrap .i64 (Int.tdiv fc 10)) 10):=rfl
 have aY:rm .i64 fc 10=some (Int.tmod fc 10):=rfl
 refine aM (aK hy1 (aK aV aY)) ?_
 obtain rfl:=aC h
 exact aN _ _ _ bE (aH hcl (bA bC (.str ([(UInt8.ofInt (IntKind.wrap .i64 (48+(Int.tmod (IntKind.wrap .i64 (Int.tdiv fc 10)) 10)))),(UInt8.ofInt (IntKind.wrap .i64 (48+(Int.tmod fc 10))))]:List UInt8))) bD bu ⟨rfl,rfl⟩)
abbrev pF:au:=(.cond (.t 12) (.rg [(ai 0 (.aT (.c (.int .i64 0))))]) .skip)
abbrev pG:au:=(.cond (.t 14) (.rg [(ai 0 (.aT (.c (.int .i64 253402300799))))]) .skip)
abbrev pH:au:=(.cond (.t 32) (.rg [(ai 8 (.aT (.c (.int .i64 366))))]) .skip)
abbrev nW:au:=(.blk 1 (.seq (.rg [(ai 8 (.aT (.c (.int .i64 365))))]) (.seq (.seq (.rg [(av 31 7),(ai 32 (.call (.c (.fn 21 [])) [(.t 31)]))]) (.sem (erase pH))) (.seq (.seq (.rg [(av 33 3),(av 34 8),(ai 35 (.bin .lss (.t 33) (.t 34)))]) (.cond (.t 35) (.exit 0) .skip)) (.seq (.rg [(av 36 3),(av 37 8),(ai 38 (.bin .sub (.t 36) (.t 37))),(aP 3 38)]) (.rg [(av 39 7),(ai 40 (.bin .add (.t 39) (.c (.int .i64 1)))),(aP 7 40)]))))))
abbrev nX:au:=(.seq (.seq (.rg [(av 41 3),(av 42 9),(av 43 7),(ai 44 (.call (.c (.fn 22 [])) [(.t 42),(.t 43)])),(ai 45 (.bin .geq (.t 41) (.t 44)))]) (.cond (.t 45) .skip (.exit 2))) (.blk 3 (.seq (.rg [(av 46 3),(av 47 9),(av 48 7),(ai 49 (.call (.c (.fn 22 [])) [(.t 47),(.t 48)])),(ai 50 (.bin .sub (.t 46) (.t 49))),(aP 3 50)]) (.rg [(av 51 9),(ai 52 (.bin .add (.t 51) (.c (.int .i64 1)))),(aP 9 52)]))))
abbrev Br:au:=(.seq (.rg [(ai 2 (.aT (.c (.str []))))]) (.seq (.seq (.rg [(av 11 0),(ai 12 (.bin .lss (.t 11) (.c (.int .i64 0))))]) (.sem (erase pF))) (.seq (.seq (.rg [(av 13 0),(ai 14 (.bin .gtr (.t 13) (.c (.int .i64 253402300799))))]) (.sem (erase pG))) (.seq (.rg [(av 15 0),(ai 16 (.bin .quo (.t 15) (.c (.int .i64 86400)))),(aP 3 16)]) (.seq (.rg [(av 17 0),(ai 18 (.bin .rem (.t 17) (.c (.int .i64 86400)))),(aP 4 18)]) (.seq (.rg [(ai 19 (.j9 1 [(.c (.str [84,104,117])),(.c (.str [70,114,105])),(.c (.str [83,97,116])),(.c (.str [83,117,110])),(.c (.str [77,111,110])),(.c (.str [84,117,101])),(.c (.str [87,101,100]))])),(aP 5 19)]) (.seq (.rg [(av 20 5),(av 21 3),(ai 22 (.bin .rem (.t 21) (.c (.int .i64 7)))),(ai 23 (.lF 1 (.t 20) (.t 22))),(ai 24 (.ld (.t 23) none)),(aP 6 24)]) (.seq (.rg [(av 25 3),(ai 26 (.bin .quo (.t 25) (.c (.int .i64 146097)))),(ai 27 (.bin .mul (.c (.int .i64 400)) (.t 26))),(ai 28 (.bin .add (.c (.int .i64 1970)) (.t 27))),(aP 7 28)]) (.seq (.rg [(av 29 3),(ai 30 (.bin .rem (.t 29) (.c (.int .i64 146097)))),(aP 3 30)]) (.seq (.blk 0 (.loop (erase nW))) (.seq (.rg [(ai 9 (.aT (.c (.int .i64 0))))]) (.seq (.blk 2 (.loop (erase nX))) (.seq (.rg [(ai 53 (.j9 1 [(.c (.str [74,97,110])),(.c (.str [70,101,98])),(.c (.str [77,97,114])),(.c (.str [65,112,114])),(.c (.str [77,97,121])),(.c (.str [74,117,110])),(.c (.str [74,117,108])),(.c (.str [65,117,103])),(.c (.str [83,101,112])),(.c (.str [79,99,116])),(.c (.str [78,111,118])),(.c (.str [68,101,99]))])),(aP 10 53)]) (.seq (.rg ((av 54 6)::(ai 55 (.bin .add (.t 54) (.c (.str [44,32]))))::(av 56 3)::(ai 57 (.bin .add (.t 56) (.c (.int .i64 1))))::(av 61 10)::(av 62 9)::(ai 63 (.lF 1 (.t 61) (.t 62)))::(ai 64 (.xH (.t 63) none))::(av 67 7)::(ai 68 (.bin .quo (.t 67) (.c (.int .i64 100))))::(av 71 7)::(av 75 4)::(ai 76 (.bin .quo (.t 75) (.c (.int .i64 3600))))::(av 80 4)::(ai 81 (.bin .quo (.t 80) (.c (.int .i64 60))))::(ai 82 (.bin .rem (.t 81) (.c (.int .i64 60))))::(av 86 4)::(ai 87 (.bin .rem (.t 86) (.c (.int .i64 60))))::(ai 58 (.call (.c (.fn 23 [])) [(.t 57)]))::(ai 59 (.bin .add (.t 55) (.t 58)))::(ai 60 (.bin .add (.t 59) (.c (.str [32]))))::(ai 65 (.bin .add (.t 60) (.t 64)))::(ai 66 (.bin .add (.t 65) (.c (.str [32]))))::(ai 69 (.call (.c (.fn 23 [])) [(.t 68)]))::(ai 70 (.bin .add (.t 66) (.t 69)))::(ai 72 (.call (.c (.fn 23 [])) [(.t 71)]))::(ai 73 (.bin .add (.t 70) (.t 72)))::(ai 74 (.bin .add (.t 73) (.c (.str [32]))))::(ai 77 (.call (.c (.fn 23 [])) [(.t 76)]))::(ai 78 (.bin .add (.t 74) (.t 77)))::(ai 79 (.bin .add (.t 78) (.c (.str [58]))))::(ai 83 (.call (.c (.fn 23 [])) [(.t 82)]))::(ai 84 (.bin .add (.t 79) (.t 83)))::(ai 85 (.bin .add (.t 84) (.c (.str [58]))))::(ai 88 (.call (.c (.fn 23 [])) [(.t 87)]))::(ai 89 (.bin .add (.t 85) (.t 88)))::(ai 90 (.bin .add (.t 89) (.c (.str [32,43,48,48,48,48]))))::(aP 2 90)::[])) .ret))))))))))))))
theorem Bs:bw Tryz.prog 9 91 [(.tmp 2)] (erase Br):=⟨Tryz.f9,_,rfl,by decide,rfl,by kernel_rfl,rfl,rfl⟩
abbrev fP:List Nat:=[0,2,3,4,5,6,7,8,9,10,12,14,32,35,45]
def ef (t1:Int):Option (Int):=
 (if (decide (t1<0)) then
  some 0
 else
  some t1)
def eg (t3:Int):Option (Int):=
 (if (decide (253402300799<t3)) then
  some 253402300799
 else
  some t3)
def gw (r9:Bool):Option (Int):=
 (if r9 then
  some 366
 else
  some 365)
def gx:(Int×Int)→Option (St (List UInt8) (Int×Int) (Int×Int))
 |(d7,y8)=>
  (kJ y8).bind fun r9=>
  (gw r9).bind fun kC=>
  (if (decide (d7<kC)) then
   some (.dU (d7,y8))
  else
   some (.cu ((IntKind.wrap .i64 (d7 - kC)),(IntKind.wrap .i64 (y8+1)))))
def gy (vo:Int):(Int×Int)→Option (St (List UInt8) (Int×Int) (Int×Int))
 |(d16,m17)=>
  (ja m17 vo).bind fun Zp=>
  (if (decide (Zp≤d16)) then
   (ja m17 vo).bind fun FT=>
   some (.cu ((IntKind.wrap .i64 (d16 - FT)),(IntKind.wrap .i64 (m17+1))))
  else
   some (.dU (d16,m17)))
def dw (F:Nat) (t1:Int):Option ((List UInt8)):=
 (ef t1).bind fun t3=>
 (eg t3).bind fun t5=>
 (idx ([([84,104,117]:List UInt8),([70,114,105]:List UInt8),([83,97,116]:List UInt8),([83,117,110]:List UInt8),([77,111,110]:List UInt8),([84,117,101]:List UInt8),([87,101,100]:List UInt8)]:List (List UInt8)) (Int.tmod (IntKind.wrap .i64 (Int.tdiv t5 86400)) 7)).bind fun x6=>
 ((iter gx F ((Int.tmod (IntKind.wrap .i64 (Int.tdiv t5 86400)) 146097),(IntKind.wrap .i64 (1970+(IntKind.wrap .i64 (400*(IntKind.wrap .i64 (Int.tdiv (IntKind.wrap .i64 (Int.tdiv t5 86400)) 146097)))))))).bind fun Zq=>
 match Zq with
 | .inr (d14,vo)=>
   ((iter (gy vo) F (d14,0)).bind fun Zr=>
   match Zr with
   | .inr (d22,m23)=>
     (cat x6 ([44,32]:List UInt8)).bind fun xV=>
     (idx ([([74,97,110]:List UInt8),([70,101,98]:List UInt8),([77,97,114]:List UInt8),([65,112,114]:List UInt8),([77,97,121]:List UInt8),([74,117,110]:List UInt8),([74,117,108]:List UInt8),([65,117,103]:List UInt8),([83,101,112]:List UInt8),([79,99,116]:List UInt8),([78,111,118]:List UInt8),([68,101,99]:List UInt8)]:List (List UInt8)) m23).bind fun DK=>
     (eJ (IntKind.wrap .i64 (d22+1))).bind fun Zs=>
     (cat xV Zs).bind fun Qe=>
     (cat Qe ([32]:List UInt8)).bind fun Zt=>
     (cat Zt DK).bind fun Zu=>
     (cat Zu ([32]:List UInt8)).bind fun Zv=>
     (eJ (IntKind.wrap .i64 (Int.tdiv vo 100))).bind fun Zw=>
     (cat Zv Zw).bind fun Zx=>
     (eJ vo).bind fun Ql=>
     (cat Zx Ql).bind fun Zy=>
     (cat Zy ([32]:List UInt8)).bind fun Zz=>
     (eJ (IntKind.wrap .i64 (Int.tdiv (Int.tmod t5 86400) 3600))).bind fun MM=>
     (cat Zz MM).bind fun ZA=>
     (cat ZA ([58]:List UInt8)).bind fun ZB=>
     (eJ (Int.tmod (IntKind.wrap .i64 (Int.tdiv (Int.tmod t5 86400) 60)) 60)).bind fun MJ=>
     (cat ZB MJ).bind fun ZC=>
     (cat ZC ([58]:List UInt8)).bind fun ZD=>
     (eJ (Int.tmod (Int.tmod t5 86400) 60)).bind fun ZE=>
     (cat ZD ZE).bind fun ZF=>
     (cat ZF ([32,43,48,48,48,48]:List UInt8)).bind fun Wr=>some Wr
   | .inl _=>none)
 | .inl _=>none)
theorem vp {t1:Int} {H:AH} {K:Exit→Env→AH→Prop} {t2:Int}
 (h:ef t1=some t2)
 (kn:K .normal [(0,(.int .i64 t2))] H):
 AX Tryz.prog fP 91 H.length (erase pF) K [(0,(.int .i64 t1)),(12,(.bool (decide (t1<0))))] H:=by
 refine cG fun K' hK=> ?_
 rw [ef.eq_1] at h
 refine aA ?_
 refine bZ h (fun hy1 h=> ?_) fun hy1 h=> ?_
 · refine aA ?_
   obtain rfl:=aC h
   exact hK _ _ _ _ _ aL aq kn
 · refine aA ?_
   obtain rfl:=aC h
   exact hK _ _ _ _ _ aL aq kn
theorem vq {t3:Int} {H:AH} {K:Exit→Env→AH→Prop} {t4:Int}
 (h:eg t3=some t4)
 (kn:K .normal [(0,(.int .i64 t4))] H):
 AX Tryz.prog fP 91 H.length (erase pG) K [(0,(.int .i64 t3)),(14,(.bool (decide (253402300799<t3))))] H:=by
 refine cG fun K' hK=> ?_
 rw [eg.eq_1] at h
 refine aA ?_
 refine bZ h (fun aY h=> ?_) fun aY h=> ?_
 · refine aA ?_
   obtain rfl:=aC h
   exact hK _ _ _ _ _ aL aq kn
 · refine aA ?_
   obtain rfl:=aC h
   exact hK _ _ _ _ _ aL aq kn
theorem vt {r9:Bool} {d7:Int} {t5:Int} {x6:List UInt8} {y8:Int} {H:AH} {K:Exit→Env→AH→Prop} {T9:Int}
 (h:gw r9=some T9)
 (kn:K .normal [(3,(.int .i64 d7)),(4,(.int .i64 (Int.tmod t5 86400))),(6,(.str x6)),(7,(.int .i64 y8)),(8,(.int .i64 T9))] H):
 AX Tryz.prog fP 91 H.length (erase pH) K [(3,(.int .i64 d7)),(4,(.int .i64 (Int.tmod t5 86400))),(6,(.str x6)),(7,(.int .i64 y8)),(8,(.int .i64 365)),(32,(.bool r9))] H:=by
 refine cG fun K' hK=> ?_
 rw [gw.eq_1] at h
 refine aA ?_
 refine bZ h (fun gh h=> ?_) fun gh h=> ?_
 · refine aA ?_
   obtain rfl:=aC h
   exact hK _ _ _ _ _ aL aq kn
 · refine aA ?_
   obtain rfl:=aC h
   exact hK _ _ _ _ _ aL aq kn
theorem vu {F:Nat} {y8:Int} {d7:Int} {t5:Int} {x6:List UInt8} {H:AH} {K:Exit→Env→AH→Prop} {o:((List UInt8))⊕(Int×Int)}
 (h:iter gx F (d7,y8)=some o)
 (dV:∀o':Int×Int,o= .inr o'→K (.exit 0) [(3,(.int .i64 o'.1)),(4,(.int .i64 (Int.tmod t5 86400))),(6,(.str x6)),(7,(.int .i64 o'.2))] H):
 AX Tryz.prog fP 91 H.length (.loop (erase nW)) K [(3,(.int .i64 d7)),(4,(.int .i64 (Int.tmod t5 86400))),(6,(.str x6)),(7,(.int .i64 y8))] H:=by
 refine jM (fun s e H1=>match s with|(d7,y8)=>e=[(3,(.int .i64 d7)),(4,(.int .i64 (Int.tmod t5 86400))),(6,(.str x6)),(7,(.int .i64 y8))]∧H1=H) h ⟨rfl,rfl⟩ ?_
 rintro K' ⟨d7,y8⟩ st e H ⟨rfl,rfl⟩ h hN hB hR hX
 rw [gx.eq_1] at h
 refine aA ?_
 obtain ⟨r9,dh,h⟩:=aj h
 refine bx aq (rF dh) ?_
 refine aA ?_
 obtain ⟨kC,kz,h⟩:=aj h
 refine bS aq (vt (d7:=d7) (t5:=t5) (x6:=x6) (y8:=y8) kz ?_)
 refine aA ?_
 refine bZ h (fun lS h=> ?_) fun lS h=> ?_
 · refine aA ?_
   obtain rfl:=aC h
   exact hX _ _ _ _ _ ez aL aq (dV _ (hB _ rfl))
 · refine aA ?_
   obtain rfl:=aC h
   exact hN _ rfl _ _ _ _ aL aq ⟨rfl,rfl⟩
theorem vv {F:Nat} {m17:Int} {vo:Int} {d16:Int} {t5:Int} {x6:List UInt8} {H:AH} {K:Exit→Env→AH→Prop} {o:((List UInt8))⊕(Int×Int)}
 (h:iter (gy vo) F (d16,m17)=some o)
 (IX:∀o':Int×Int,o= .inr o'→K (.exit 2) [(3,(.int .i64 o'.1)),(4,(.int .i64 (Int.tmod t5 86400))),(6,(.str x6)),(7,(.int .i64 vo)),(9,(.int .i64 o'.2))] H):
 AX Tryz.prog fP 91 H.length (.loop (erase nX)) K [(3,(.int .i64 d16)),(4,(.int .i64 (Int.tmod t5 86400))),(6,(.str x6)),(7,(.int .i64 vo)),(9,(.int .i64 m17))] H:=by
 refine jM (fun s e H1=>match s with|(d16,m17)=>e=[(3,(.int .i64 d16)),(4,(.int .i64 (Int.tmod t5 86400))),(6,(.str x6)),(7,(.int .i64 vo)),(9,(.int .i64 m17))]∧H1=H) h ⟨rfl,rfl⟩ ?_
 rintro K' ⟨d16,m17⟩ st e H ⟨rfl,rfl⟩ h hN hB hR hX
 rw [gy.eq_1] at h
 refine aA ?_
 obtain ⟨Zp,oL,h⟩:=aj h
 refine bx aq (rG oL) ?_
 refine aA ?_
 refine bZ h (fun oM h=> ?_) fun oM h=> ?_
 · refine aA ?_
   obtain ⟨FT,kA,h⟩:=aj h
   refine bx aq (rG kA) ?_
   refine aA ?_
   obtain rfl:=aC h
   exact hN _ rfl _ _ _ _ aL aq ⟨rfl,rfl⟩
 · refine aA ?_
   obtain rfl:=aC h
   exact hX _ _ _ _ _ ez aL aq (IX _ (hB _ rfl))
theorem rH {F:Nat} {t1:Int} {H0:AH} {aI:List UInt8} (h:dw F t1=some aI):
 az Tryz.prog 9 [(.int .i64 t1)] H0 fun v H'=>v=(.str aI)∧H'=H0:=by
 refine dz Bs fP fun hcl K0 aN=> ?_
 rw [dw.eq_1] at h
 refine aA ?_
 obtain ⟨t3,aV,h⟩:=aj h
 refine bS aq (vp aV ?_)
 refine aA ?_
 obtain ⟨t5,aX,h⟩:=aj h
 refine bS aq (vq aX ?_)
 have bk:dv .i64 t5 86400=some (IntKind.wrap .i64 (Int.tdiv t5 86400)):=rfl
 have cj:rm .i64 t5 86400=some (Int.tmod t5 86400):=rfl
 have cv:rm .i64 (IntKind.wrap .i64 (Int.tdiv t5 86400)) 7=some (Int.tmod (IntKind.wrap .i64 (Int.tdiv t5 86400)) 7):=rfl
 obtain ⟨x6,cB,h⟩:=aj h
 have eV:idx [(.str ([84,104,117]:List UInt8)),(.str ([70,114,105]:List UInt8)),(.str ([83,97,116]:List UInt8)),(.str ([83,117,110]:List UInt8)),(.str ([77,111,110]:List UInt8)),(.str ([84,117,101]:List UInt8)),(.str ([87,101,100]:List UInt8))] (Int.tmod (IntKind.wrap .i64 (Int.tdiv t5 86400)) 7)=some (AV.str x6):=Da (f:=AV.str) cB
 have de:dv .i64 (IntKind.wrap .i64 (Int.tdiv t5 86400)) 146097=some (IntKind.wrap .i64 (Int.tdiv (IntKind.wrap .i64 (Int.tdiv t5 86400)) 146097)):=rfl
 have dx:rm .i64 (IntKind.wrap .i64 (Int.tdiv t5 86400)) 146097=some (Int.tmod (IntKind.wrap .i64 (Int.tdiv t5 86400)) 146097):=rfl
 refine aM (aK bk (aK cj (aK cv (aK eV (aK de dx))))) ?_
 obtain ⟨Zq,iW,h⟩:=aj h
 refine bS aq (vu (t5:=t5) (x6:=x6) iW ?_)
 · rintro ⟨d14,vo⟩ rfl
   try dsimp only at h
   refine aA ?_
   obtain ⟨Zr,oN,h⟩:=aj h
   refine bS aq (vv (t5:=t5) (x6:=x6) oN ?_)
   · rintro ⟨d22,m23⟩ rfl
     try dsimp only at h
     refine aA ?_
     obtain ⟨xV,jO,h⟩:=aj h
     obtain ⟨DK,ku,h⟩:=aj h
     have oO:idx [(.str ([74,97,110]:List UInt8)),(.str ([70,101,98]:List UInt8)),(.str ([77,97,114]:List UInt8)),(.str ([65,112,114]:List UInt8)),(.str ([77,97,121]:List UInt8)),(.str ([74,117,110]:List UInt8)),(.str ([74,117,108]:List UInt8)),(.str ([65,117,103]:List UInt8)),(.str ([83,101,112]:List UInt8)),(.str ([79,99,116]:List UInt8)),(.str ([78,111,118]:List UInt8)),(.str ([68,101,99]:List UInt8))] m23=some (AV.str DK):=Da (f:=AV.str) ku
     have oP:dv .i64 vo 100=some (IntKind.wrap .i64 (Int.tdiv vo 100)):=rfl
     have kB:dv .i64 (Int.tmod t5 86400) 3600=some (IntKind.wrap .i64 (Int.tdiv (Int.tmod t5 86400) 3600)):=rfl
     have rj:dv .i64 (Int.tmod t5 86400) 60=some (IntKind.wrap .i64 (Int.tdiv (Int.tmod t5 86400) 60)):=rfl
     have uQ:rm .i64 (IntKind.wrap .i64 (Int.tdiv (Int.tmod t5 86400) 60)) 60=some (Int.tmod (IntKind.wrap .i64 (Int.tdiv (Int.tmod t5 86400) 60)) 60):=rfl
     have zD:rm .i64 (Int.tmod t5 86400) 60=some (Int.tmod (Int.tmod t5 86400) 60):=rfl
     refine aM (aK jO (aK oO (aK oP (aK kB (aK rj (aK uQ zD)))))) ?_
     obtain ⟨Zs,FX,h⟩:=aj h
     refine bx aq (fO FX) ?_
     refine aA ?_
     obtain ⟨Qe,Qm,h⟩:=aj h
     obtain ⟨Zt,FY,h⟩:=aj h
     obtain ⟨Zu,Qn,h⟩:=aj h
     obtain ⟨Zv,F0,h⟩:=aj h
     refine aM (aK Qm (aK FY (aK Qn F0))) ?_
     obtain ⟨Zw,Qo,h⟩:=aj h
     refine bx aq (fO Qo) ?_
     refine aA ?_
     obtain ⟨Zx,Qp,h⟩:=aj h
     refine aM Qp ?_
     obtain ⟨Ql,ZG,h⟩:=aj h
     refine bx aq (fO ZG) ?_
     refine aA ?_
     obtain ⟨Zy,ZH,h⟩:=aj h
     obtain ⟨Zz,ZI,h⟩:=aj h
     refine aM (aK ZH ZI) ?_
     obtain ⟨MM,ZJ,h⟩:=aj h
     refine bx aq (fO ZJ) ?_
     refine aA ?_
     obtain ⟨ZA,ZK,h⟩:=aj h
     obtain ⟨ZB,ZL,h⟩:=aj h
     refine aM (aK ZK ZL) ?_
     obtain ⟨MJ,ZM,h⟩:=aj h
     refine bx aq (fO ZM) ?_
     refine aA ?_
     obtain ⟨ZC,ZN,h⟩:=aj h
     obtain ⟨ZD,ZO,h⟩:=aj h
     refine aM (aK ZN ZO) ?_
     obtain ⟨ZE,ZP,h⟩:=aj h
     refine bx aq (fO ZP) ?_
     refine aA ?_
     obtain ⟨ZF,ZQ,h⟩:=aj h
     obtain ⟨Wr,ZR,h⟩:=aj h
     refine aM (aK ZQ ZR) ?_
     obtain rfl:=aC h
     exact aN _ _ _ bE (aH hcl (bA bC (.str Wr)) bD bu ⟨rfl,rfl⟩)
abbrev vw:au:=(.seq (.rg [(ai 9 (.box (.t 4))),(ai 10 (.alloc [(.str []),(.str [])]))]) (.seq (.rg [(av 11 0),(ai 12 (.bin .add (.c (.str [32,102,114,111,109,32])) (.t 11))),(ai 13 (.bin .add (.t 12) (.c (.str [32,98,121,32])))),(av 14 1),(ai 15 (.bin .add (.t 13) (.t 14))),(ai 16 (.bin .add (.t 15) (.c (.str [32,119,105,116,104,32,83,77,84,80,32,105,100,32])))),(av 17 2),(ai 18 (.bin .add (.t 16) (.t 17))),(ai 19 (.bin .add (.t 18) (.c (.str [13,10,9,102,111,114,32])))),(ai 20 (.ld (.t 9) (some 2))),(ai 21 (.call (.c (.fn 17 [])) [(.t 20)])),(ai 22 (.bin .add (.t 19) (.t 21))),(ai 23 (.bin .add (.t 22) (.c (.str [59,32])))),(av 24 3),(ai 25 (.call (.c (.fn 9 [])) [(.t 24)])),(ai 26 (.bin .add (.t 23) (.t 25))),(ai 27 (.build [(.str []),(.str [])] [(0,(1,(.c (.str [82,101,99,101,105,118,101,100])))),(1,(1,(.t 26)))])),(De (.st (.t 10) (.t 27) 2))]) .ret))
theorem vz:bw Tryz.prog 7 28 [(.cell 10 30)] (erase vw):=⟨Tryz.f7,_,rfl,by decide,rfl,by kernel_rfl,rfl,rfl⟩
abbrev vA:List Nat:=[0,1,2,3,4,9,10]
def fI (F:Nat) (bN:List UInt8) (dY:List UInt8) (dZ:List UInt8) (t4:Int) (gu:aE):Option (aG):=
 (cat ([32,102,114,111,109,32]:List UInt8) bN).bind fun x6=>
 (cat x6 ([32,98,121,32]:List UInt8)).bind fun x7=>
 (cat x7 dY).bind fun x8=>
 (cat x8 ([32,119,105,116,104,32,83,77,84,80,32,105,100,32]:List UInt8)).bind fun x9=>
 (cat x9 dZ).bind fun oc=>
 (cat oc ([13,10,9,102,111,114,32]:List UInt8)).bind fun oE=>
 (fA F gu).bind fun cm=>
 (cat oE cm).bind fun DJ=>
 (cat DJ ([59,32]:List UInt8)).bind fun xT=>
 (dw F t4).bind fun Qq=>
 (cat xT Qq).bind fun z6=>
 some (aG.mk ([82,101,99,101,105,118,101,100]:List UInt8) z6)
theorem ud {F:Nat} {bN:List UInt8} {dY:List UInt8} {dZ:List UInt8} {t4:Int} {gu:aE} {H0:AH} {aI:aG} (h:fI F bN dY dZ t4 gu=some aI):
 az Tryz.prog 7 [(.str bN),(.str dY),(.str dZ),(.int .i64 t4),(.agg [(.str gu.aD),(.str gu.domain)])] H0 fun v H'=>v=(.agg [(.str aI.name),(.str aI.value)])∧H'=H0:=by
 refine sr vz vA [] fun hcl K0 aN H hH hfr=> ?_
 clear hH
 have hle:=hfr.le
 rw [fI.eq_1] at h
 obtain ⟨x6,hy1,h⟩:=aj h
 obtain ⟨x7,aV,h⟩:=aj h
 obtain ⟨x8,aY,h⟩:=aj h
 obtain ⟨x9,aX,h⟩:=aj h
 obtain ⟨oc,bk,h⟩:=aj h
 obtain ⟨oE,cj,h⟩:=aj h
 refine aZ (aK hy1 (aK aV (aK aY (aK aX (aK bk cj))))) ?_
 obtain ⟨cm,cv,h⟩:=aj h
 refine bx aq (yy cv) ?_
 refine bG ?_
 obtain ⟨DJ,cB,h⟩:=aj h
 obtain ⟨xT,eV,h⟩:=aj h
 refine aZ (aK cB eV) ?_
 obtain ⟨Qq,de,h⟩:=aj h
 refine bx aq (rH de) ?_
 refine bG ?_
 obtain ⟨z6,dx,h⟩:=aj h
 refine aZ dx ?_
 obtain rfl:=aC h
 exact aN _ _ _ bE (bR (wj _ (Fr.app (Fr.app hfr))) hcl (zj (cs:=[(.str ([82,101,99,101,105,118,101,100]:List UInt8)),(.str z6)]) (v:=(.agg [(.str ([82,101,99,101,105,118,101,100]:List UInt8)),(.str z6)])) (by kernel_rfl) (n:=(some 2)) (by kernel_rfl) rfl P9 (by simp [zh,zg,mL,bU,AV.flat,JO,Cu,AV.bn,Tg.sh]) bC) bD bu ⟨rfl,rfl⟩)
abbrev pI:au:=(.seq (.rg [(ai 11 (.bin .lss (.t 10) (.t 9)))]) (.seq (.cond (.t 11) .skip (.exit 0)) (.seq (.blk 1 (.seq (.rg [(ai 12 (.lF 2 (.t 8) (.t 10))),(ai 13 (.ld (.t 12) (some 2))),(ai 7 (.alloc [(.str []),(.str [])])),(De (.st (.t 7) (.t 13) 2))]) (.seq (.rg [(ai 14 (.gY (.t 7) 0)),(ai 15 (.ld (.t 14) none)),(ai 16 (.call (.c (.fn 15 [])) [(.t 15)]))]) (.cond (.t 16) (.rg [(av 17 5),(ai 18 (.gY (.t 7) 0)),(ai 19 (.ld (.t 18) none)),(ai 20 (.bin .add (.t 19) (.c (.str [58])))),(ai 21 (.gY (.t 7) 1)),(ai 22 (.ld (.t 21) none)),(ai 23 (.bin .add (.t 20) (.t 22))),(ai 24 (.bin .add (.t 23) (.c (.str [13,10])))),(ai 25 (.apps 1 (.t 17) (.t 24))),(aP 5 25)]) .skip)))) (.rg [(ai 26 (.bin .add (.t 10) (.c (.int .i64 1)))),(av 10 26)]))))
abbrev DO:au:=(.seq (.rg [(ai 4 (.aT (.c (.sl .ex 1 []))))]) (.seq (.rg [(ai 5 (.aT (.c (.sl .ex 1 []))))]) (.seq (.seq (.rg [(av 8 0),(ai 9 (.len (.t 8))),(ai 10 (.mv (.c (.int .i64 0))))]) (.blk 0 (.loop (erase pI)))) (.seq (.rg [(av 27 5),(ai 29 (.lit 28 [13,10])),(av 30 1),(ai 31 (.j9 1 [(.t 27),(.t 29),(.t 30)])),(ai 32 (.call (.c (.fn 26 [])) [(.t 31)])),(aP 4 32)]) .ret))))
theorem DP:bw Tryz.prog 11 33 [(.tmp 4)] (erase DO):=⟨Tryz.f11,_,rfl,by decide,rfl,by kernel_rfl,rfl,rfl⟩
abbrev vB:List Nat:=[0,1,4,5,7,8,9,10,11,16]
def eK (F:Nat) (l1:List aG):((List UInt8)×Int)→Option (St (List UInt8) (List UInt8) ((List UInt8)×Int))
 |(iY,t4)=>
  (if (decide (t4<(l1.length:Int))) then
   (idx l1 t4).bind fun x5=>
   (ga F x5.name).bind fun r6=>
   (if r6 then
    (cat x5.name ([58]:List UInt8)).bind fun x7=>
    (cat x7 x5.value).bind fun x8=>
    (cat x8 ([13,10]:List UInt8)).bind fun x9=>
    (cF 1 iY x9).bind fun oc=>some (.cu (oc,(IntKind.wrap .i64 (t4+1))))
   else
    some (.cu (iY,(IntKind.wrap .i64 (t4+1)))))
  else
   some (.dU iY))
def mG (F:Nat) (l1:List aG) (ox:List UInt8):Option ((List UInt8)):=
 ((iter (eK F l1) F (([]:List UInt8),0)).bind fun FI=>
 match FI with
 | .inr Qr=>
   (dn F ([Qr,([13,10]:List UInt8),ox]:List (List UInt8))).bind fun oT=>some oT
 | .inl _=>none)
theorem xd {F:Nat} {t4:Int} {l1:List aG} {iY:List UInt8} {ox:List UInt8} {H0 H:AH} (hfr:Fr H0 H0.length [] H) {K:Exit→Env→AH→Prop} {o:((List UInt8))⊕((List UInt8))}
 (h:iter (eK F l1) F (iY,t4)=some o)
 (dV:∀o':(List UInt8),o= .inr o'→∀H':AH,Fr H0 H0.length [] H'→K (.exit 0) [(1,(.sl .n 1 (ml b8 ox))),(5,(.sl .own 1 (ml b8 o')))] H'):
 AX Tryz.prog vB 33 H0.length (.loop (erase pI)) K [(1,(.sl .n 1 (ml b8 ox))),(5,(.sl .own 1 (ml b8 iY))),(8,(.sl .n 2 (ml aQ l1))),(9,(.int .i64 (l1.length:Int))),(10,(.int .i64 t4))] H:=by
 refine jM (fun s e H1=>match s with|(iY,t4)=>e=[(1,(.sl .n 1 (ml b8 ox))),(5,(.sl .own 1 (ml b8 iY))),(8,(.sl .n 2 (ml aQ l1))),(9,(.int .i64 (l1.length:Int))),(10,(.int .i64 t4))]∧Fr H0 H0.length [] H1) h ⟨rfl,hfr⟩ ?_
 rintro K' ⟨iY,t4⟩ st e H ⟨rfl,hfr⟩ h hN hB hR hX
 have hle:=hfr.le
 rw [eK.eq_1] at h
 refine bG ?_
 refine bZ h (fun hy1 h=> ?_) fun hy1 h=> ?_
 · obtain ⟨x5,aV,h⟩:=aj h
   refine aZ aV ?_
   obtain ⟨r6,aY,h⟩:=aj h
   refine bx aq (j4 aY) ?_
   refine bG ?_
   refine bZ h (fun aX h=> ?_) fun aX h=> ?_
   · obtain ⟨x7,bk,h⟩:=aj h
     obtain ⟨x8,cj,h⟩:=aj h
     obtain ⟨x9,cv,h⟩:=aj h
     obtain ⟨oc,cB,h⟩:=aj h
     have eV:cF 1 (ml b8 iY) (ml b8 x9)=some (ml b8 oc):=fR (f:=b8) cB
     refine aZ (aK bk (aK cj (aK cv eV))) ?_
     obtain rfl:=aC h
     exact hN _ rfl _ _ _ _ aL aq ⟨rfl,(wj _ (Fr.app hfr))⟩
   · refine bG ?_
     obtain rfl:=aC h
     exact hN _ rfl _ _ _ _ aL aq ⟨rfl,(wj _ (Fr.app hfr))⟩
 · refine bG ?_
   obtain rfl:=aC h
   exact hX _ _ _ _ _ ez aL aq (dV _ (hB _ rfl) _ hfr)
theorem Bt {F:Nat} {l1:List aG} {ox:List UInt8} {H0:AH} {aI:List UInt8} (h:mG F l1 ox=some aI):
 az Tryz.prog 11 [(.sl .n 2 (ml aQ l1)),(.sl .n 1 (ml b8 ox))] H0 fun v H'=>v=(.sl .own 1 (ml b8 aI))∧H'=H0:=by
 refine sr DP vB [] fun hcl K0 aN H hH hfr=> ?_
 clear hH
 have hle:=hfr.le
 rw [mG.eq_1] at h
 refine bG ?_
 obtain ⟨FI,de,h⟩:=aj h
 refine bS aq (xd (ox:=ox) hfr de ?_)
 · rintro Qr rfl H hfr
   try dsimp only at h
   have hle:=hfr.le
   refine bG ?_
   obtain ⟨oT,dx,h⟩:=aj h
   refine bx aq (nj dx) ?_
   refine bG ?_
   obtain rfl:=aC h
   exact aN _ _ _ bE (bR hfr hcl (bA bC (.sl .own 1 (ml b8 oT))) bD bu ⟨rfl,rfl⟩)
abbrev pJ:au:=(.rg [(av 5 0),(ai 6 (.len (.t 5))),(av 7 1),(ai 8 (.lens (.t 7))),(ai 9 (.bin .geq (.t 6) (.t 8))),(av 10 9),(aB 11 (.mv (.t 0)) 10 true),(aB 12 (.mv (.t 0)) 10 true),(aB 13 (.len (.t 12)) 10 true),(aB 14 (.mv (.t 1)) 10 true),(aB 15 (.lens (.t 14)) 10 true),(aB 16 (.bin .sub (.t 13) (.t 15)) 10 true),(aB 17 (.slc 1 (.t 11) (some (.t 16)) none none) 10 true),(aB 18 (.gU .bs (.t 17)) 10 true),(aB 19 (.mv (.t 1)) 10 true),(aB 20 (.bin .eql (.t 18) (.t 19)) 10 true),(ai 21 (.pick (.t 10) (.t 20) (.c (.bool false)))),(aP 4 21)])
abbrev Bu:au:=(.seq (.rg [(ai 4 (.aT (.c (.bool false))))]) (.seq (.sem (erase pJ)) .ret))
theorem Bv:bw Tryz.prog 27 22 [(.tmp 4)] (erase Bu):=⟨Tryz.f27,_,rfl,by decide,rfl,by kernel_rfl,rfl,rfl⟩
abbrev s5:List Nat:=[0,1,4]
def jG (mH:List UInt8) (b1:List UInt8):Option (Bool):=
 (if (decide ((mH.length:Int)≤(b1.length:Int))) then
  (sub b1 (IntKind.wrap .i64 ((b1.length:Int) - (mH.length:Int))) (b1.length:Int)).bind fun x3=>some (decide (x3=mH))
 else
  some false)
def kK (b1:List UInt8) (mH:List UInt8):Option (Bool):=
 (jG mH b1).bind fun t5=>
 some t5
theorem vC {mH:List UInt8} {b1:List UInt8} {H:AH} {K:Exit→Env→AH→Prop} {t4:Bool}
 (h:jG mH b1=some t4)
 (kn:K .normal [(4,(.bool t4))] H):
 AX Tryz.prog s5 22 H.length (erase pJ) K [(0,(.sl .n 1 (ml b8 b1))),(1,(.str mH)),(4,(.bool false))] H:=by
 refine cG fun K' hK=> ?_
 rw [jG.eq_1] at h
 refine aA ?_
 refine cw h (fun hy1 h=> ?_) fun hy1 h=> ?_
 · obtain ⟨x3,aV,h⟩:=aj h
   have aY:=P3 (f:=b8) aV
   refine aM (aK hy1 aV) ?_
   obtain rfl:=aC h
   exact hK _ _ _ _ _ aL aq kn
 · refine aM hy1 ?_
   obtain rfl:=aC h
   exact hK _ _ _ _ _ aL aq kn
theorem Ai {b1:List UInt8} {mH:List UInt8} {H0:AH} {aI:Bool} (h:kK b1 mH=some aI):
 az Tryz.prog 27 [(.sl .n 1 (ml b8 b1)),(.str mH)] H0 fun v H'=>v=(.bool aI)∧H'=H0:=by
 refine dz Bv s5 fun hcl K0 aN=> ?_
 rw [kK.eq_1] at h
 refine aA ?_
 obtain ⟨t5,aX,h⟩:=aj h
 refine bS aq (vC aX ?_)
 refine aA ?_
 obtain rfl:=aC h
 exact aN _ _ _ bE (aH hcl (bA bC (.bool t5)) bD bu ⟨rfl,rfl⟩)
abbrev nY:au:=(.rg [(av 3 0),(ai 4 (.len (.t 3))),(ai 5 (.bin .eql (.t 4) (.c (.int .i64 0)))),(av 6 5),(aB 7 (.mv (.t 0)) 6 false),(aB 8 (.call (.c (.fn 27 [])) [(.t 7),(.c (.str [13,10]))]) 6 false),(ai 9 (.pick (.t 6) (.c (.bool true)) (.t 8)))])
abbrev Aj:au:=(.seq (.rg [(ai 2 (.aT (.c (.sl .ex 1 []))))]) (.seq (.seq (.sem (erase nY)) (.cond (.t 9) (.seq (.rg [(ai 10 (.j9 1 [])),(av 11 0),(ai 12 (.app 1 1 (.t 10) (.t 11))),(aP 2 12)]) .ret) .skip)) (.seq (.rg [(ai 13 (.j9 1 [])),(av 14 0),(ai 15 (.app 1 1 (.t 13) (.t 14))),(ai 16 (.j9 1 [(.c (b8 13)),(.c (b8 10))])),(ai 17 (.app 1 1 (.t 15) (.t 16))),(aP 2 17)]) .ret)))
theorem Ak:bw Tryz.prog 12 18 [(.tmp 2)] (erase Aj):=⟨Tryz.f12,_,rfl,by decide,rfl,by kernel_rfl,rfl,rfl⟩
abbrev rI:List Nat:=[0,2,9]
def fJ (b1:List UInt8):Option (Bool):=
 (if (decide ((b1.length:Int)=0)) then
  some true
 else
  (kK b1 ([13,10]:List UInt8)).bind fun r2=>some r2)
def jH (b1:List UInt8):Option ((List UInt8)):=
 (fJ b1).bind fun t4=>
 (if t4 then
  (cF 1 ([]:List UInt8) b1).bind fun x5=>some x5
 else
  (cF 1 ([]:List UInt8) b1).bind fun x6=>(cF 1 x6 ([13,10]:List UInt8)).bind fun x7=>some x7)
theorem ue {b1:List UInt8} {H:AH} {K:Exit→Env→AH→Prop} {t3:Bool}
 (h:fJ b1=some t3)
 (kn:K .normal [(0,(.sl .n 1 (ml b8 b1))),(9,(.bool t3))] H):
 AX Tryz.prog rI 18 H.length (erase nY) K [(0,(.sl .n 1 (ml b8 b1)))] H:=by
 refine cG fun K' hK=> ?_
 rw [fJ.eq_1] at h
 refine aA ?_
 refine cw h (fun hy1 h=> ?_) fun hy1 h=> ?_
 · refine aM hy1 ?_
   obtain rfl:=aC h
   exact hK _ _ _ _ _ aL aq kn
 · refine aM hy1 ?_
   obtain ⟨r2,aV,h⟩:=aj h
   refine bx aq (Ai aV) ?_
   refine aA ?_
   obtain rfl:=aC h
   exact hK _ _ _ _ _ aL aq kn
theorem yz {b1:List UInt8} {H0:AH} {aI:List UInt8} (h:jH b1=some aI):
 az Tryz.prog 12 [(.sl .n 1 (ml b8 b1))] H0 fun v H'=>v=(.sl .own 1 (ml b8 aI))∧H'=H0:=by
 refine dz Ak rI fun hcl K0 aN=> ?_
 rw [jH.eq_1] at h
 refine aA ?_
 obtain ⟨t4,aY,h⟩:=aj h
 refine bS aq (ue aY ?_)
 refine aA ?_
 refine bZ h (fun aX h=> ?_) fun aX h=> ?_
 · obtain ⟨x5,bk,h⟩:=aj h
   have cj:cF 1 [] (ml b8 b1)=some (ml b8 x5):=fR (f:=b8) bk
   refine aM cj ?_
   obtain rfl:=aC h
   exact aN _ _ _ bE (aH hcl (bA bC (.sl .own 1 (ml b8 x5))) bD bu ⟨rfl,rfl⟩)
 · obtain ⟨x6,cv,h⟩:=aj h
   have cB:cF 1 [] (ml b8 b1)=some (ml b8 x6):=fR (f:=b8) cv
   obtain ⟨x7,eV,h⟩:=aj h
   have de:cF 1 (ml b8 x6) [(b8 13),(b8 10)]=some (ml b8 x7):=fR (f:=b8) eV
   refine aM (aK cB de) ?_
   obtain rfl:=aC h
   exact aN _ _ _ bE (aH hcl (bA bC (.sl .own 1 (ml b8 x7))) bD bu ⟨rfl,rfl⟩)
abbrev DQ:au:=(.seq (.rg [(ai 2 (.aT (.c (.int .i64 0))))]) (.seq (.rg [(av 6 0),(ai 7 (.call (.c (.fn 14 [])) [(.t 6),(.c (.str [82,101,99,101,105,118,101,100]))])),(av 5 7),(ai 8 (.ext (.t 5) 0)),(ai 9 (.ext (.t 5) 1)),(aP 3 8),(aP 4 9)]) (.seq (.rg [(av 10 4),(aP 2 10)]) .ret)))
theorem DR:bw Tryz.prog 13 11 [(.tmp 2)] (erase DQ):=⟨Tryz.f13,_,rfl,by decide,rfl,by kernel_rfl,rfl,rfl⟩
abbrev DS:List Nat:=[0,2,4]
def p7 (F:Nat) (l1:List aG):Option (Int):=
 (lD F l1 ([82,101,99,101,105,118,101,100]:List UInt8)).bind fun (r2,r3)=>some r3
theorem Bw {F:Nat} {l1:List aG} {H0:AH} {aI:Int} (h:p7 F l1=some aI):
 az Tryz.prog 13 [(.sl .n 2 (ml aQ l1))] H0 fun v H'=>v=(.int .i64 aI)∧H'=H0:=by
 refine dz DR DS fun hcl K0 aN=> ?_
 rw [p7.eq_1] at h
 refine aA ?_
 obtain ⟨⟨r2,r3⟩,hy1,h⟩:=aj h
 dsimp only at h
 refine bx aq (uT hy1) ?_
 refine aA ?_
 obtain rfl:=aC h
 exact aN _ _ _ bE (aH hcl (bA bC (.int .i64 r3)) bD bu ⟨rfl,rfl⟩)
abbrev iC:au:=(.rg [(av 21 0),(ai 22 (.lens (.t 21))),(ai 23 (.bin .gtr (.t 22) (.c (.int .i64 300)))),(av 24 23),(aB 25 (.mv (.t 1)) 24 false),(aB 26 (.lens (.t 25)) 24 false),(aB 27 (.bin .gtr (.t 26) (.c (.int .i64 300))) 24 false),(ai 28 (.pick (.t 24) (.c (.bool true)) (.t 27))),(av 29 28),(aB 30 (.mv (.t 2)) 29 false),(aB 31 (.lens (.t 30)) 29 false),(aB 32 (.bin .gtr (.t 31) (.c (.int .i64 100))) 29 false),(ai 33 (.pick (.t 29) (.c (.bool true)) (.t 32))),(av 34 33),(aB 35 (.ld (.t 10) (some 2)) 34 false),(aB 36 (.call (.c (.fn 5 [])) [(.t 35)]) 34 false),(aB 37 (.un .not (.t 36)) 34 false),(ai 38 (.pick (.t 34) (.c (.bool true)) (.t 37))),(av 39 38),(aB 40 (.mv (.t 5)) 39 false),(aB 41 (.len (.t 40)) 39 false),(aB 42 (.bin .gtr (.t 41) (.c (.int .i64 4096))) 39 false),(ai 43 (.pick (.t 39) (.c (.bool true)) (.t 42)))])
abbrev iD:au:=(.rg [(ai 50 (.xH (.t 13) (some 2))),(av 51 0),(av 52 1),(av 53 2),(av 54 3),(ai 55 (.xH (.t 10) (some 2))),(ai 56 (.call (.c (.fn 7 [])) [(.t 51),(.t 52),(.t 53),(.t 54),(.t 55)])),(ai 57 (.seq [.s, .s] true (.t 50) (.t 56))),(av 58 57),(aB 59 (.mv (.t 3)) 58 false),(aB 61 (.mv (.t 3)) 58 false),(aB 60 (.call (.c (.fn 8 [])) [(.t 59)]) 58 false),(aB 62 (.call (.c (.fn 9 [])) [(.t 61)]) 58 false),(aB 63 (.bin .neq (.t 60) (.t 62)) 58 false),(ai 64 (.pick (.t 58) (.c (.bool true)) (.t 63)))])
abbrev iE:au:=(.rg [(av 80 15),(av 81 16),(ai 82 (.ixs (.t 80) (.t 81))),(ai 83 (.bin .eql (.t 82) (.c (b8 13)))),(av 84 83),(aB 85 (.mv (.t 15)) 84 false),(aB 86 (.mv (.t 16)) 84 false),(aB 87 (.ixs (.t 85) (.t 86)) 84 false),(aB 88 (.bin .eql (.t 87) (.c (b8 10))) 84 false),(ai 89 (.pick (.t 84) (.c (.bool true)) (.t 88)))])
abbrev gS:au:=(.seq (.seq (.rg [(av 74 16),(av 75 15),(ai 76 (.lens (.t 75))),(ai 77 (.bin .lss (.t 74) (.t 76)))]) (.cond (.t 77) .skip (.exit 2))) (.seq (.blk 3 (.seq (.sem (erase iE)) (.cond (.t 89) (.seq (.rg [(ai 12 (.aT (.c (.bool true))))]) .ret) .skip))) (.rg [(av 78 16),(ai 79 (.bin .add (.t 78) (.c (.int .i64 1)))),(aP 16 79)])))
abbrev gT:au:=(.seq (.rg [(ai 71 (.bin .lss (.t 70) (.t 69)))]) (.seq (.cond (.t 71) .skip (.exit 0)) (.seq (.blk 1 (.seq (.rg [(ai 72 (.lF 1 (.t 68) (.t 70))),(ai 73 (.ld (.t 72) none)),(aP 15 73)]) (.seq (.rg [(ai 16 (.aT (.c (.int .i64 0))))]) (.blk 2 (.loop (erase gS)))))) (.rg [(ai 90 (.bin .add (.t 70) (.c (.int .i64 1)))),(av 70 90)]))))
abbrev iF:au:=(.rg [(av 99 17),(ai 100 (.len (.t 99))),(ai 101 (.bin .eql (.t 100) (.c (.int .i64 1)))),(av 102 101),(aB 103 (.mv (.t 17)) 102 true),(aB 104 (.lF 2 (.t 103) (.c (.int .i64 0))) 102 true),(aB 105 (.xH (.t 104) (some 2)) 102 true),(aB 106 (.xH (.t 13) (some 2)) 102 true),(aB 107 (.seq [.s, .s] false (.t 105) (.t 106)) 102 true),(ai 108 (.pick (.t 102) (.t 107) (.c (.bool false)))),(av 109 108),(aB 110 (.mv (.t 18)) 109 true),(aB 111 (.yJ (.t 110)) 109 true),(aB 112 (.mv (.t 5)) 109 true),(aB 113 (.call (.c (.fn 12 [])) [(.t 112)]) 109 true),(aB 114 (.yJ (.t 113)) 109 true),(aB 115 (.bin .eql (.t 111) (.t 114)) 109 true),(ai 116 (.pick (.t 109) (.t 115) (.c (.bool false)))),(av 117 116),(aB 118 (.mv (.t 17)) 117 true),(aB 119 (.call (.c (.fn 13 [])) [(.t 118)]) 117 true),(aB 120 (.bin .eql (.t 119) (.c (.int .i64 1))) 117 true),(ai 121 (.pick (.t 117) (.t 120) (.c (.bool false)))),(aP 12 121)])
abbrev qA:au:=(.seq (.rg [(ai 10 (.box (.t 4))),(ai 12 (.aT (.c (.bool false))))]) (.seq (.seq (.rg [(ai 19 (.call (.c (.fn 4 [])) [])),(ai 20 (.un .not (.t 19)))]) (.cond (.t 20) (.seq (.rg [(ai 12 (.aT (.c (.bool false))))]) .ret) .skip)) (.seq (.seq (.sem (erase iC)) (.cond (.t 43) (.seq (.rg [(ai 12 (.aT (.c (.bool true))))]) .ret) .skip)) (.seq (.rg [(av 44 0),(av 45 1),(av 46 2),(av 47 3),(ai 48 (.ld (.t 10) (some 2))),(ai 49 (.call (.c (.fn 6 [])) [(.t 44),(.t 45),(.t 46),(.t 47),(.t 48)])),(ai 13 (.alloc [(.str []),(.str [])])),(De (.st (.t 13) (.t 49) 2))]) (.seq (.seq (.sem (erase iD)) (.cond (.t 64) (.seq (.rg [(ai 12 (.aT (.c (.bool false))))]) .ret) .skip)) (.seq (.seq (.rg [(av 65 0),(av 66 1),(av 67 2),(ai 68 (.j9 1 [(.t 65),(.t 66),(.t 67)])),(ai 69 (.len (.t 68))),(ai 70 (.mv (.c (.int .i64 0))))]) (.blk 0 (.loop (erase gT)))) (.seq (.rg [(ai 92 (.ld (.t 13) (some 2))),(ai 93 (.j9 2 [(.t 92)])),(av 94 5),(ai 95 (.call (.c (.fn 11 [])) [(.t 93),(.t 94)])),(ai 96 (.call (.c (.fn 10 [])) [(.t 95)])),(av 91 96),(ai 97 (.ext (.t 91) 0)),(ai 98 (.ext (.t 91) 1)),(aP 17 97),(aP 18 98)]) (.seq (.sem (erase iF)) .ret))))))))
theorem qB:bw Tryz.prog 3 122 [(.tmp 12)] (erase qA):=⟨Tryz.f3,_,rfl,by decide,rfl,by kernel_rfl,rfl,rfl⟩
abbrev cq:List Nat:=[0,1,2,3,4,5,10,12,13,15,16,17,18,20,43,64,68,69,70,71,77,89]
def cN (bN:List UInt8) (dY:List UInt8) (dZ:List UInt8) (gu:aE) (cc:List UInt8):Option (Bool):=
 (if (decide (300<(bN.length:Int))) then
  some true
 else
  (if (decide (300<(dY.length:Int))) then
   some true
  else
   (if (decide (100<(dZ.length:Int))) then
    some true
   else
    (pW gu).bind fun r9=>
    (if (!r9) then
     some true
    else
     some (decide (4096<(cc.length:Int)))))))
def cO (F:Nat) (bN:List UInt8) (dY:List UInt8) (dZ:List UInt8) (t4:Int) (gu:aE) (cm:aG):Option (Bool):=
 (fI F bN dY dZ t4 gu).bind fun oT=>
 (if (!(decide (cm.name=oT.name)&&decide (cm.value=oT.value))) then
  some true
 else
  (cx F t4).bind fun Qh=>(dw F t4).bind fun Qq=>some (!decide (Qh=Qq)))
def cP (iR:List UInt8) (i20:Int):Option (Bool):=
 (idx iR i20).bind fun ri=>
 (if (decide (ri=13)) then
  some true
 else
  some (decide (ri=10)))
def bH (iR:List UInt8):Int→Option (St Bool Unit Int)
 |i20=>
  (if (decide (i20<(iR.length:Int))) then
   (cP iR i20).bind fun t23=>
   (if t23 then
    some (.ret true)
   else
    some (.cu (IntKind.wrap .i64 (i20+1))))
  else
   some (.dU ()))
def bJ (F:Nat) (bN:List UInt8) (dY:List UInt8) (dZ:List UInt8):Int→Option (St Bool Unit Int)
 |t18=>
  (if (decide (t18<((3:Nat):Int))) then
   (idx ([bN,dY,dZ]:List (List UInt8)) t18).bind fun iR=>
   ((iter (bH iR) F 0).bind fun Qk=>
   match Qk with
   | .inr ()=>
     some (.cu (IntKind.wrap .i64 (t18+1)))
   | .inl MK=>
     some (.ret MK))
  else
   some (.dU ()))
def dN (F:Nat) (DT:List aG) (cm:aG) (cc:List UInt8) (I1:List UInt8):Option (Bool):=
 (if (decide ((DT.length:Int)=1)) then
  (idx DT 0).bind fun Ws=>
  (if (decide (Ws.name=cm.name)&&decide (Ws.value=cm.value)) then
   (jH cc).bind fun r32=>
   (if (decide (I1=r32)) then
    (p7 F DT).bind fun Ql=>some (decide (Ql=1))
   else
    some false)
  else
   some false)
 else
  some false)
def eP (F:Nat) (bN:List UInt8) (dY:List UInt8) (dZ:List UInt8) (t4:Int) (gu:aE) (cc:List UInt8):Option (Bool):=
 (k9 F).bind fun r7=>
 (if (!r7) then
  some false
 else
  (cN bN dY dZ gu cc).bind fun t11=>
  (if t11 then
   some true
  else
   (gr F bN dY dZ t4 gu).bind fun cm=>
   (cO F bN dY dZ t4 gu cm).bind fun t17=>
   (if t17 then
    some false
   else
    ((iter (bJ F bN dY dZ) F 0).bind fun ZS=>
    match ZS with
    | .inr ()=>
      (mG F ([cm]:List aG) cc).bind fun ZT=>
      (iV F ZT).bind fun (DT,I1)=>
      (dN F DT cm cc I1).bind fun t35=>
      some t35
    | .inl MM=>
      some MM))))
theorem mT {bN:List UInt8} {dY:List UInt8} {dZ:List UInt8} {gu:aE} {cc:List UInt8} {t4:Int} {q8:Nat} {H0 H:AH} (hfr:Fr H0 H0.length [] H) (ak:H[q8]? =some [(.str gu.aD),(.str gu.domain)]) (hi0:H0.length≤q8) {K:Exit→Env→AH→Prop} {t10:Bool}
 (h:cN bN dY dZ gu cc=some t10)
 (kn:∀H':AH,Fr H0 H0.length [] H'→H'[q8]? =some [(.str gu.aD),(.str gu.domain)]→K .normal [(0,(.str bN)),(1,(.str dY)),(2,(.str dZ)),(3,(.int .i64 t4)),(5,(.sl .n 1 (ml b8 cc))),(10,(.ptr q8 0)),(43,(.bool t10))] H'):
 AX Tryz.prog cq 122 H0.length (erase iC) K [(0,(.str bN)),(1,(.str dY)),(2,(.str dZ)),(3,(.int .i64 t4)),(5,(.sl .n 1 (ml b8 cc))),(10,(.ptr q8 0))] H:=by
 refine cG fun K' hK=> ?_
 have hle:=hfr.le
 have dB:=ff ak
 rw [cN.eq_1] at h
 refine aZ ak ?_
 refine cw h (fun aY h=> ?_) fun aY h=> ?_
 · refine aZ (aK aY ak) ?_
   obtain rfl:=aC h
   exact hK _ _ _ _ _ aL aq (kn _ hfr (ak.trans rfl))
 · refine aZ (aK aY ak) ?_
   refine cw h (fun aX h=> ?_) fun aX h=> ?_
   · refine aZ (aK aX ak) ?_
     obtain rfl:=aC h
     exact hK _ _ _ _ _ aL aq (kn _ hfr (ak.trans rfl))
   · refine aZ (aK aX ak) ?_
     refine cw h (fun bk h=> ?_) fun bk h=> ?_
     · refine aZ (aK bk ak) ?_
       obtain rfl:=aC h
       exact hK _ _ _ _ _ aL aq (kn _ hfr (ak.trans rfl))
     · refine aZ (aK bk ak) ?_
       obtain ⟨r9,cj,h⟩:=aj h
       refine bx aq (A5 cj) ?_
       refine aZ ak ?_
       refine cw h (fun cv h=> ?_) fun cv h=> ?_
       · refine aZ (aK cv ak) ?_
         obtain rfl:=aC h
         exact hK _ _ _ _ _ aL aq (kn _ hfr (ak.trans rfl))
       · refine aZ (aK cv ak) ?_
         obtain rfl:=aC h
         exact hK _ _ _ _ _ aL aq (kn _ hfr (ak.trans rfl))
theorem mU {F:Nat} {bN:List UInt8} {dY:List UInt8} {dZ:List UInt8} {t4:Int} {gu:aE} {cm:aG} {cc:List UInt8} {H0 H:AH} (hfr:Fr H0 H0.length [] H) {K:Exit→Env→AH→Prop} {t16:Bool}
 (h:cO F bN dY dZ t4 gu cm=some t16)
 (kn:∀H':AH,Fr H0 H0.length [] H'→K .normal [(0,(.str bN)),(1,(.str dY)),(2,(.str dZ)),(5,(.sl .n 1 (ml b8 cc))),(13,(.ep (.agg [(.str cm.name),(.str cm.value)]) 0)),(64,(.bool t16))] H'):
 AX Tryz.prog cq 122 H0.length (erase iD) K [(0,(.str bN)),(1,(.str dY)),(2,(.str dZ)),(3,(.int .i64 t4)),(5,(.sl .n 1 (ml b8 cc))),(10,(.ep (.agg [(.str gu.aD),(.str gu.domain)]) 0)),(13,(.ep (.agg [(.str cm.name),(.str cm.value)]) 0))] H:=by
 refine cG fun K' hK=> ?_
 have hle:=hfr.le
 rw [cO.eq_1] at h
 refine bG ?_
 obtain ⟨oT,dx,h⟩:=aj h
 refine bx aq (ud dx) ?_
 refine bG ?_
 refine cw h (fun dh h=> ?_) fun dh h=> ?_
 · refine aZ dh ?_
   obtain rfl:=aC h
   exact hK _ _ _ _ _ (dL dh) aq (kn _ hfr)
 · refine aZ dh ?_
   obtain ⟨Qh,gh,h⟩:=aj h
   refine bx aq (og gh) ?_
   refine bG ?_
   obtain ⟨Qq,kz,h⟩:=aj h
   refine bx aq (rH kz) ?_
   refine bG ?_
   obtain rfl:=aC h
   exact hK _ _ _ _ _ (dL dh) aq (kn _ hfr)
theorem mV {iR:List UInt8} {i20:Int} {cc:List UInt8} {cm:aG} {bN:List UInt8} {dY:List UInt8} {dZ:List UInt8} {t18:Int} {H0 H:AH} (hfr:Fr H0 H0.length [] H) {K:Exit→Env→AH→Prop} {t22:Bool}
 (h:cP iR i20=some t22)
 (kn:∀H':AH,Fr H0 H0.length [] H'→K .normal [(5,(.sl .n 1 (ml b8 cc))),(13,(.ep (.agg [(.str cm.name),(.str cm.value)]) 0)),(15,(.str iR)),(16,(.int .i64 i20)),(68,(.sl .ex 1 [(.str bN),(.str dY),(.str dZ)])),(69,(.int .i64 ((3:Nat):Int))),(70,(.int .i64 t18)),(89,(.bool t22))] H'):
 AX Tryz.prog cq 122 H0.length (erase iE) K [(5,(.sl .n 1 (ml b8 cc))),(13,(.ep (.agg [(.str cm.name),(.str cm.value)]) 0)),(15,(.str iR)),(16,(.int .i64 i20)),(68,(.sl .ex 1 [(.str bN),(.str dY),(.str dZ)])),(69,(.int .i64 ((3:Nat):Int))),(70,(.int .i64 t18))] H:=by
 refine cG fun K' hK=> ?_
 have hle:=hfr.le
 rw [cP.eq_1] at h
 obtain ⟨ri,jO,h⟩:=aj h
 refine aZ jO ?_
 refine cw h (fun ku h=> ?_) fun ku h=> ?_
 · refine aZ ku ?_
   obtain rfl:=aC h
   exact hK _ _ _ _ _ (dL ku) aq (kn _ hfr)
 · refine aZ (aK ku jO) ?_
   obtain rfl:=aC h
   exact hK _ _ _ _ _ (dL ku) aq (kn _ hfr)
theorem mW {F:Nat} {i20:Int} {iR:List UInt8} {cc:List UInt8} {cm:aG} {bN:List UInt8} {dY:List UInt8} {dZ:List UInt8} {t18:Int} {H0 H:AH} (hfr:Fr H0 H0.length [] H) {K:Exit→Env→AH→Prop} {o:(Bool)⊕(Unit)}
 (h:iter (bH iR) F i20=some o)
 (IX:∀o':Unit,o= .inr o'→∀H':AH,Fr H0 H0.length [] H'→K (.exit 2) [(5,(.sl .n 1 (ml b8 cc))),(13,(.ep (.agg [(.str cm.name),(.str cm.value)]) 0)),(68,(.sl .ex 1 [(.str bN),(.str dY),(.str dZ)])),(69,(.int .i64 ((3:Nat):Int))),(70,(.int .i64 t18))] H')
 (kr:∀o':Bool,o= .inl o'→∀H':AH,Fr H0 H0.length [] H'→K .ret [(12,(.bool o'))] H'):
 AX Tryz.prog cq 122 H0.length (.loop (erase gS)) K [(5,(.sl .n 1 (ml b8 cc))),(13,(.ep (.agg [(.str cm.name),(.str cm.value)]) 0)),(15,(.str iR)),(16,(.int .i64 i20)),(68,(.sl .ex 1 [(.str bN),(.str dY),(.str dZ)])),(69,(.int .i64 ((3:Nat):Int))),(70,(.int .i64 t18))] H:=by
 refine jM (fun s e H1=>match s with|i20=>e=[(5,(.sl .n 1 (ml b8 cc))),(13,(.ep (.agg [(.str cm.name),(.str cm.value)]) 0)),(15,(.str iR)),(16,(.int .i64 i20)),(68,(.sl .ex 1 [(.str bN),(.str dY),(.str dZ)])),(69,(.int .i64 ((3:Nat):Int))),(70,(.int .i64 t18))]∧Fr H0 H0.length [] H1) h ⟨rfl,hfr⟩ ?_
 rintro K' i20 st e H ⟨rfl,hfr⟩ h hN hB hR hX
 have hle:=hfr.le
 rw [bH.eq_1] at h
 refine bG ?_
 refine bZ h (fun oN h=> ?_) fun oN h=> ?_
 · refine bG ?_
   obtain ⟨t23,oO,h⟩:=aj h
   refine bS aq (mV (cc:=cc) (cm:=cm) (bN:=bN) (dY:=dY) (dZ:=dZ) (t18:=t18) hfr oO ?_)
   intro H hfr
   have hle:=hfr.le
   refine bG ?_
   refine bZ h (fun oP h=> ?_) fun oP h=> ?_
   · refine bG ?_
     obtain rfl:=aC h
     exact hX _ _ _ _ _ ez aL aq (kr _ (hR _ rfl) _ hfr)
   · refine bG ?_
     obtain rfl:=aC h
     exact hN _ rfl _ _ _ _ aL aq ⟨rfl,hfr⟩
 · refine bG ?_
   obtain rfl:=aC h
   exact hX _ _ _ _ _ ez aL aq (IX _ (hB _ rfl) _ hfr)
theorem mX {F:Nat} {t18:Int} {bN:List UInt8} {dY:List UInt8} {dZ:List UInt8} {cc:List UInt8} {cm:aG} {H0 H:AH} (hfr:Fr H0 H0.length [] H) {K:Exit→Env→AH→Prop} {o:(Bool)⊕(Unit)}
 (h:iter (bJ F bN dY dZ) F t18=some o)
 (dV:∀o':Unit,o= .inr o'→∀H':AH,Fr H0 H0.length [] H'→K (.exit 0) [(5,(.sl .n 1 (ml b8 cc))),(13,(.ep (.agg [(.str cm.name),(.str cm.value)]) 0))] H')
 (kr:∀o':Bool,o= .inl o'→∀H':AH,Fr H0 H0.length [] H'→K .ret [(12,(.bool o'))] H'):
 AX Tryz.prog cq 122 H0.length (.loop (erase gT)) K [(5,(.sl .n 1 (ml b8 cc))),(13,(.ep (.agg [(.str cm.name),(.str cm.value)]) 0)),(68,(.sl .ex 1 [(.str bN),(.str dY),(.str dZ)])),(69,(.int .i64 ((3:Nat):Int))),(70,(.int .i64 t18))] H:=by
 refine jM (fun s e H1=>match s with|t18=>e=[(5,(.sl .n 1 (ml b8 cc))),(13,(.ep (.agg [(.str cm.name),(.str cm.value)]) 0)),(68,(.sl .ex 1 [(.str bN),(.str dY),(.str dZ)])),(69,(.int .i64 ((3:Nat):Int))),(70,(.int .i64 t18))]∧Fr H0 H0.length [] H1) h ⟨rfl,hfr⟩ ?_
 rintro K' t18 st e H ⟨rfl,hfr⟩ h hN hB hR hX
 have hle:=hfr.le
 rw [bJ.eq_1] at h
 refine bG ?_
 refine bZ h (fun oL h=> ?_) fun oL h=> ?_
 · obtain ⟨iR,oM,h⟩:=aj h
   have kA:idx [(.str bN),(.str dY),(.str dZ)] t18=some (AV.str iR):=Da (f:=AV.str) oM
   refine aZ kA ?_
   obtain ⟨Qk,kB,h⟩:=aj h
   refine bS aq (mW (cc:=cc) (cm:=cm) (bN:=bN) (dY:=dY) (dZ:=dZ) (t18:=t18) hfr kB ?_ ?_)
   · rintro ⟨⟩ rfl H hfr
     try dsimp only at h
     have hle:=hfr.le
     refine bG ?_
     obtain rfl:=aC h
     exact hN _ rfl _ _ _ _ aL aq ⟨rfl,hfr⟩
   · rintro MK rfl H hfr
     try dsimp only at h
     have hle:=hfr.le
     refine bG ?_
     obtain rfl:=aC h
     exact hX _ _ _ _ _ ez aL aq (kr _ (hR _ rfl) _ hfr)
 · refine bG ?_
   obtain rfl:=aC h
   exact hX _ _ _ _ _ ez aL aq (dV _ (hB _ rfl) _ hfr)
theorem mY {F:Nat} {DT:List aG} {cm:aG} {cc:List UInt8} {I1:List UInt8} {H0 H:AH} (hfr:Fr H0 H0.length [] H) {K:Exit→Env→AH→Prop} {t34:Bool}
 (h:dN F DT cm cc I1=some t34)
 (kn:∀H':AH,Fr H0 H0.length [] H'→K .normal [(12,(.bool t34))] H'):
 AX Tryz.prog cq 122 H0.length (erase iF) K [(5,(.sl .n 1 (ml b8 cc))),(13,(.ep (.agg [(.str cm.name),(.str cm.value)]) 0)),(17,(.sl .n 2 (ml aQ DT))),(18,(.sl .n 1 (ml b8 I1)))] H:=by
 refine cG fun K' hK=> ?_
 have hle:=hfr.le
 rw [dN.eq_1] at h
 refine bG ?_
 refine cw h (fun FX h=> ?_) fun FX h=> ?_
 · obtain ⟨Ws,Qm,h⟩:=aj h
   refine aZ (aK FX Qm) ?_
   refine cw h (fun FY h=> ?_) fun FY h=> ?_
   · refine aZ FY ?_
     obtain ⟨r32,Qn,h⟩:=aj h
     refine bx aq (yz Qn) ?_
     refine bG ?_
     refine cw h (fun F0 h=> ?_) fun F0 h=> ?_
     · refine aZ F0 ?_
       obtain ⟨Ql,Qo,h⟩:=aj h
       refine bx aq (Bw Qo) ?_
       refine bG ?_
       obtain rfl:=aC h
       exact hK _ _ _ _ _ aL aq (kn _ hfr)
     · refine aZ F0 ?_
       obtain rfl:=aC h
       exact hK _ _ _ _ _ aL aq (kn _ hfr)
   · refine aZ FY ?_
     obtain rfl:=aC h
     exact hK _ _ _ _ _ aL aq (kn _ hfr)
 · refine aZ FX ?_
   obtain rfl:=aC h
   exact hK _ _ _ _ _ aL aq (kn _ hfr)
theorem p8 {F:Nat} {bN:List UInt8} {dY:List UInt8} {dZ:List UInt8} {t4:Int} {gu:aE} {cc:List UInt8} {H0:AH} {aI:Bool} (h:eP F bN dY dZ t4 gu cc=some aI):
 az Tryz.prog 3 [(.str bN),(.str dY),(.str dZ),(.int .i64 t4),(.agg [(.str gu.aD),(.str gu.domain)]),(.sl .n 1 (ml b8 cc))] H0 fun v H'=>v=(.bool aI)∧H'=H0:=by
 refine sr qB cq [] fun hcl K0 aN H hH hfr=> ?_
 clear hH
 have hle:=hfr.le
 rw [eP.eq_1] at h
 refine bG ?_
 obtain ⟨r7,hy1,h⟩:=aj h
 refine bx aq (xW hy1) ?_
 refine bG ?_
 refine bZ h (fun aV h=> ?_) fun aV h=> ?_
 · refine bG ?_
   obtain rfl:=aC h
   exact aN _ _ _ bE (bR (Fr.app hfr) hcl (bA bC (.bool false)) bD bu ⟨rfl,rfl⟩)
 · refine bG ?_
   obtain ⟨q8,Wt⟩:∃q:Nat,H.length=q:=⟨_,rfl⟩
   try rw [Wt]
   obtain ⟨t11,cB,h⟩:=aj h
   refine bS aq (mT (t4:=t4) (q8:=q8) (Fr.app hfr) IV wh cB ?_)
   intro H hfr ak
   have hle:=hfr.le
   have dB:=ff ak
   refine aZ ak ?_
   refine bZ h (fun eV h=> ?_) fun eV h=> ?_
   · refine aZ ak ?_
     obtain rfl:=aC h
     exact aN _ _ _ bE (bR hfr hcl (bA bC (.bool true)) bD bu ⟨rfl,rfl⟩)
   · refine aZ ak ?_
     obtain ⟨cm,de,h⟩:=aj h
     refine bx aq (vh de) ?_
     refine aZ ak ?_
     refine MF ?_
     apply AX.freeze (s:=H.length) (cs:=[(.str cm.name),(.str cm.value)]) (by exact P9) (gH.same (gH.same (gH.nil))) (by simp) rfl
     · repeat (first|exact FZ.nil|apply FZ.ep|apply FZ.same)
     apply AX.freeze (s:=q8) (cs:=[(.str gu.aD),(.str gu.domain)]) (by exact (Y5 (Y5 (zAZ (ak.trans rfl))))) (gH.same (gH.same (gH.nil))) (by simp) rfl
     · repeat (first|exact FZ.nil|apply FZ.ep|apply FZ.same)
     refine Qa ?_
     obtain ⟨t17,lS,h⟩:=aj h
     refine bS aq (mU (cc:=cc) (wj _ (wj _ (wj _ (Fr.app hfr)))) lS ?_)
     intro H hfr
     have hle:=hfr.le
     refine bG ?_
     refine bZ h (fun iW h=> ?_) fun iW h=> ?_
     · refine bG ?_
       obtain rfl:=aC h
       exact aN _ _ _ bE (bR hfr hcl (bA bC (.bool false)) bD bu ⟨rfl,rfl⟩)
     · refine bG ?_
       obtain ⟨ZS,rj,h⟩:=aj h
       refine bS aq (mX (cc:=cc) (cm:=cm) hfr rj ?_ ?_)
       · rintro ⟨⟩ rfl H hfr
         try dsimp only at h
         have hle:=hfr.le
         refine bG ?_
         obtain ⟨ZT,uQ,h⟩:=aj h
         refine bx aq (Bt uQ) ?_
         refine bG ?_
         obtain ⟨⟨DT,I1⟩,zD,h⟩:=aj h
         dsimp only at h
         refine bx aq (rq zD) ?_
         refine bG ?_
         obtain ⟨t35,Qp,h⟩:=aj h
         refine bS aq (mY hfr Qp ?_)
         intro H hfr
         have hle:=hfr.le
         refine bG ?_
         obtain rfl:=aC h
         exact aN _ _ _ bE (bR hfr hcl (bA bC (.bool t35)) bD bu ⟨rfl,rfl⟩)
       · rintro MM rfl H hfr
         try dsimp only at h
         have hle:=hfr.le
         refine bG ?_
         obtain rfl:=aC h
         exact aN _ _ _ bE (bR hfr hcl (bA bC (.bool MM)) bD bu ⟨rfl,rfl⟩)
end Go.Proofs.bX
end
section
namespace Go.Am
open Go
theorem wr {n:Int} (h1: -9223372036854775808≤n) (h2:n≤9223372036854775807):IntKind.wrap .i64 n=n:=by
 simp only [IntKind.wrap,IntKind.bits,IntKind.signed,Bool.true_and,decide_eq_true_eq,Int.reducePow,Nat.reduceSub,ge_iff_le]
 split<;>omega
theorem Al {α:Type} (l:List α) (n:Nat):idx l (n:Int)=l[n]? :=by simp [idx]
theorem bF {α:Type} {l:List α} {n:Nat} {x:α} (h:l[n]? =some x):idx l (n:Int)=some x:=by rw [Al,h]
theorem S9 {α:Type} {l:List α} {n:Nat} (h:n<l.length):idx l (n:Int)=some l[n]:=by rw [Al,List.getElem?_eq_getElem h]
theorem aay {α:Type} {l:List α} {i:Int} (h0:0≤i) (h1:i<l.length):∃x,idx l i=some x∧l[i.toNat]? =some x:=by
 obtain ⟨n,rfl⟩:=Int.eq_ofNat_of_zero_le h0
 have hn:n<l.length:=by omega
 exact ⟨l[n],S9 hn,by simp [List.getElem?_eq_getElem hn]⟩
theorem nZ {α:Type} {l:List α} {i j:Nat} (h:i≤j) (h2:j≤l.length):sub l (i:Int) (j:Int)=some ((l.take j).drop i):=by
 unfold sub;rw [if_pos (by omega)];simp
theorem vD {α:Type} {l:List α} {i:Nat} (h:i≤l.length):sub l (i:Int) (l.length:Int)=some (l.drop i):=by
 rw [nZ h (Nat.le_refl _),List.take_length]
theorem Ta {α:Type} {l:List α} {j:Nat} (h:j≤l.length):sub l 0 (j:Int)=some (l.take j):=by
 have:=nZ (l:=l) (i:=0) (Nat.zero_le j) h
 simpa using this
theorem ZU {α:Type} {l:List α} {i:Int} (h0:0≤i) (h:i≤l.length):sub l i (l.length:Int)=some (l.drop i.toNat):=by
 obtain ⟨n,rfl⟩:=Int.eq_ofNat_of_zero_le h0
 rw [vD (by omega)];simp
theorem sub_one {α:Type} {l:List α} {c:α} {r:List α} (h:l=c::r):sub l 1 (l.length:Int)=some r:=by
 have:=vD (l:=l) (i:=1) (by rw [h];simp)
 rw [h] at this ⊢;simpa using this
theorem cA {α:Type} {b:Nat} {xs ys:List α} (h:xs.length+ys.length≤1000000000) (hb:b≤1000):cF b xs ys=some (xs++ys):=by
 unfold cF
 rw [if_pos]
 refine ⟨?_,by omega⟩
 calc (xs.length+ys.length)*b≤1000000000*1000:=Nat.mul_le_mul h hb
  _≤_:=by omega
theorem aO {l m:List UInt8} (h:l.length+m.length≤1000000000):cat l m=some (l++m):=by
 unfold cat;rw [if_pos (by omega)]
theorem ck {ρ τ σ:Type} {body:σ→Option (St ρ τ σ)} {F:Nat} {s s':σ} (h:body s=some (.cu s')):iter body (F+1) s=iter body F s':=by simp only [iter,h]
theorem dc {ρ τ σ:Type} {body:σ→Option (St ρ τ σ)} {F:Nat} {s:σ} {t:τ} (h:body s=some (.dU t)):iter body (F+1) s=some (.inr t):=by simp only [iter,h]
theorem fQ {ρ τ σ:Type} {body:σ→Option (St ρ τ σ)} {F:Nat} {s:σ} {r:ρ} (h:body s=some (.ret r)):iter body (F+1) s=some (.inl r):=by simp only [iter,h]
theorem Xh {ρ τ σ:Type} {body:σ→Option (St ρ τ σ)} (I:σ→Prop) (m:σ→Nat) (post:ρ⊕τ→Prop)
 (step:∀s,I s→(∃r,body s=some (.ret r)∧post (.inl r))∨(∃t,body s=some (.dU t)∧post (.inr t))∨∃s',body s=some (.cu s')∧I s'∧m s'<m s):
 ∀(F:Nat) (s:σ),I s→m s<F→∃o,iter body F s=some o∧post o:=by
 intro F
 induction F with
 |zero=>intro s _ h;omega
 |succ F ih=>
  intro s hI hm
  rcases step s hI with ⟨r,h,hp⟩|⟨t,h,hp⟩|⟨s',h,hI',hlt⟩
  · exact ⟨_,fQ h,hp⟩
  · exact ⟨_,dc h,hp⟩
  · obtain ⟨o,ho,hp⟩:=ih s' hI' (by omega)
    exact ⟨o,by rw [ck h];exact ho,hp⟩
theorem drop_cons {α:Type} {l r:List α} {i:Nat} {c:α} (h:l.drop i=c::r):i<l.length∧l[i]? =some c∧l.drop (i+1)=r:=by
 have hlt:i<l.length:=by
  rcases Nat.lt_or_ge i l.length with h1|h1
  · exact h1
  · rw [List.drop_eq_nil_of_le h1] at h;cases h
 rw [List.drop_eq_getElem_cons hlt] at h
 injection h with h1 h2
 exact ⟨hlt,by rw [List.getElem?_eq_getElem hlt,h1],h2⟩
theorem Tb {α:Type} {l:List α} {i:Nat} (h:l.drop i=[]):l.length≤i:=List.drop_eq_nil_iff.1 h
theorem cU {n F:Nat} (h:n<F):∃G,F=G+1:=⟨F - 1,by omega⟩
end Go.Am
end
section
set_option maxRecDepth 100000
namespace Go.Proofs.bX
open Go Go.Am Go.Proofs
theorem iM {p:UInt8→Bool} (h:(List.range 256).all (fun n=>p (UInt8.ofNat n))=true) (c:UInt8):p c=true:=by
 have:=List.all_eq_true.1 h c.toNat (by simpa using c.toNat_lt)
 simpa using this
theorem scan {α ρ τ σ:Type} {s:List α} {body:σ→Option (St ρ τ σ)} {mk:Nat→σ} {p:α→Bool} {rr:Nat→ρ} {tt:τ}
 (h1:∀i x,s[i]? =some x→p x=true→body (mk i)=some (.cu (mk (i+1)))) (h2:∀i x,s[i]? =some x→p x=false→body (mk i)=some (.ret (rr i)))
 (h3:body (mk s.length)=some (.dU tt)) {F:Nat} (hF:s.length<F):
 (s.all p=true→iter body F (mk 0)=some (.inr tt))∧(s.all p=false→∃j,iter body F (mk 0)=some (.inl (rr j))):=by
 suffices h:∀(r:List α) (i F:Nat),s.drop i=r→i+r.length=s.length→r.length<F→
  (r.all p=true→iter body F (mk i)=some (.inr tt))∧(r.all p=false→∃j,iter body F (mk i)=some (.inl (rr j))) from h s 0 F rfl (by simp) hF
 intro r
 induction r with
 |nil=>
  intro i F hd hl hF
  obtain ⟨G,rfl⟩:=cU hF
  have:i=s.length:=by simpa using hl
  subst this
  exact ⟨fun _=>dc h3,fun h=>by simp at h⟩
 |cons x r ih=>
  intro i F hd hl hF
  obtain ⟨G,rfl⟩:=cU hF
  obtain ⟨hi,hx,hr⟩:=drop_cons hd
  simp only [List.length_cons] at hl hF
  cases hp:p x with
  |true=>
   rw [ck (h1 i x hx hp)]
   simp only [List.all_cons,hp,Bool.true_and]
   exact ih (i+1) G hr (by omega) (by omega)
  |false=>
   rw [fQ (h2 i x hx hp)]
   simp only [List.all_cons,hp,Bool.false_and]
   exact ⟨fun h=>by simp at h,fun _=>⟨i,rfl⟩⟩
theorem wi {n:Nat} (h:n≤1000000000):IntKind.wrap .i64 ((n:Int)+1)=((n+1:Nat):Int):=by rw [wr (by omega) (by omega)];simp
def low (c:UInt8):UInt8:=if (decide (65≤c)&&decide (c≤90))=true then c+32 else c
def Bf (s:List UInt8) (i:Nat):List UInt8:=(s.map low).take i++s.drop i
theorem yG {s:List UInt8} {i:Nat} (hi:i≤s.length) (j:Nat):(Bf s i)[j]? =if j<i then (s.map low)[j]? else s[j]? :=by
 unfold Bf
 have hl:((s.map low).take i).length=i:=by simp;omega
 by_cases h:j<i
 · rw [if_pos h,List.getElem?_append_left (by omega),List.getElem?_take_of_lt h]
 · rw [if_neg h,List.getElem?_append_right (by omega),hl,List.getElem?_drop]
   congr 1;omega
theorem DU {s:List UInt8} {i:Nat} (hi:i≤s.length):(Bf s i).length=s.length:=by
 unfold Bf;simp;omega
theorem J1 {s:List UInt8} {i:Nat} (hi:i<s.length) {c:UInt8} (hc:s[i]? =some c):(Bf s i).set i (low c)=Bf s (i+1):=by
 apply List.ext_getElem?
 intro j
 rw [List.getElem?_set,yG (by omega),yG (by omega),DU (by omega)]
 by_cases h:i=j
 · subst h
   rw [if_pos rfl,if_pos hi,if_pos (by omega),List.getElem?_map,hc];rfl
 · rw [if_neg h]
   by_cases h2:j<i
   · rw [if_pos h2,if_pos (by omega)]
   · rw [if_neg h2,if_neg (by omega)]
theorem Tc (s:List UInt8):Bf s s.length=s.map low:=by
 unfold Bf;rw [List.drop_length,List.append_nil,List.take_of_length_le (by simp)]
theorem Td (c:UInt8) (h:(decide (65≤c)&&decide (c≤90))=true):c ||| 32=low c:=by
 have:=iM (p:=fun c=> !(decide (65≤c)&&decide (c≤90))||(c ||| 32==low c)) (by kernel_rfl) c
 rw [h] at this
 simpa using this
theorem J2 {n i:Nat} (h:i<n):so n (i:Int)=some i:=by unfold so;rw [if_pos (by omega)];simp
theorem Qs {xs:List UInt8} {j:Nat} {c:UInt8} (h:j<xs.length):FA xs j c=some (xs.set j c):=by unfold FA;rw [if_pos h]
theorem Te {s:List UInt8} {i:Nat} {c:UInt8} (hi:i<s.length) (hc:s[i]? =some c) (h:¬(decide (65≤c)&&decide (c≤90))=true):Bf s i=Bf s (i+1):=by
 rw [←J1 hi hc]
 have hl:low c=c:=by unfold low;rw [if_neg h]
 rw [hl]
 apply List.ext_getElem?
 intro j
 rw [List.getElem?_set,yG (by omega),DU (by omega)]
 by_cases h:i=j
 · subst h;rw [if_pos rfl,if_pos hi,if_neg (by omega),hc]
 · rw [if_neg h]
theorem Qt {s:List UInt8} {F:Nat} (hs:s.length≤2100) (hF:s.length<F):iX F s=some (s.map low):=by
 have An:∀(m i G:Nat),i+m=s.length→m<G→iter (dX s) G ((i:Int),Bf s i)=some (.inr (s.map low)):=by
  intro m
  induction m with
  |zero=>
   intro i G hi hG
   obtain ⟨G,rfl⟩:=cU hG
   have:i=s.length:=by omega
   subst this
   rw [←Tc s]
   exact dc (by simp only [dX];rw [if_neg (by simp)])
  |succ m ih=>
   intro i G hi hG
   obtain ⟨G,rfl⟩:=cU (show 0<G by omega)
   have hil:i<s.length:=by omega
   have hc:s[i]? =some s[i]:=List.getElem?_eq_getElem hil
   have hst:dX s ((i:Int),Bf s i)=some (.cu (((i+1:Nat):Int),Bf s (i+1))):=by
    simp only [dX]
    rw [if_pos (by simpa using hil),J2 hil,Option.bind_some,yG (by omega),if_neg (by omega),hc,Option.bind_some,wi (by omega)]
    by_cases h:(decide (65≤s[i])&&decide (s[i]≤90))=true
    · rw [if_pos h,Qs (by rw [DU (by omega)];exact hil),Td _ h,J1 hil hc];rfl
    · rw [if_neg h,Te hil hc h]
   rw [ck hst]
   exact ih (i+1) G (by omega) (by omega)
 unfold iX
 rw [show ((0:Int),s)=(((0:Nat):Int),Bf s 0) by simp [Bf],An s.length 0 F (by omega) hF]
 simp only [Option.bind_some]
 rw [Ta (j:=s.length) (by simp),List.take_of_length_le (by simp)]
 rfl
def cg (sep:List UInt8):List UInt8→Option (List UInt8×List UInt8)
 |[]=>none
 |c::r=>if sep.isPrefixOf (c::r) then some ([],(c::r).drop sep.length) else (cg sep r).map fun p=>(c::p.1,p.2)
theorem MN {sep:List UInt8} (hs:sep≠[]):∀s:List UInt8,(cg sep s=none∧Lib.index s sep= -1)∨∃i:Nat,Lib.index s sep=(i:Int)∧cg sep s=some (s.take i,s.drop (i+sep.length)):=by
 intro s
 induction s with
 |nil=>left;exact ⟨rfl,by unfold Lib.index;cases sep with|nil=>exact absurd rfl hs|cons=>rfl⟩
 |cons c r ih=>
  unfold Lib.index cg
  by_cases hp:sep.isPrefixOf (c::r)=true
  · right;exact ⟨0,by rw [if_pos hp];rfl,by rw [if_pos hp];simp⟩
  · rw [if_neg hp,if_neg hp]
    rcases ih with ⟨h1,h2⟩|⟨i,h1,h2⟩
    · left;rw [h1,h2];simp
    · right
      refine ⟨i+1, ?_, ?_⟩
      · rw [h1,if_neg (by simp<;>omega)];simp
      · rw [h2];simp [List.take_succ_cons,Nat.add_right_comm]
theorem Tf {sep:List UInt8} (hs:sep≠[]) (s:List UInt8):Lib.cut s sep=match cg sep s with|some (a,b)=>(a,b,true)|none=>(s,[],false):=by
 unfold Lib.cut
 rcases MN hs s with ⟨h1,h2⟩|⟨i,h1,h2⟩
 · rw [h1,h2,if_neg (by omega)]
 · rw [h2,h1,if_pos (by omega)];simp
theorem J3 {s sep:List UInt8} (hs:sep≠[]) (hl:s.length≤1000000000):strings_Cut s sep=some (match cg sep s with|some (a,b)=>(a,b,true)|none=>(s,[],false)):=by
 unfold strings_Cut
 rw [if_pos (by omega),Tf hs]
theorem Ao {sep:List UInt8}:∀ {s a b:List UInt8},cg sep s=some (a,b)→s=a++sep++b:=by
 intro s
 induction s with
 |nil=>intro a b h;cases h
 |cons c r ih=>
  intro a b h
  unfold cg at h
  split at h
  · rename_i hp
    injection h with h;injection h with h1 h2;subst h1;subst h2
    obtain ⟨t,ht⟩:=List.isPrefixOf_iff_prefix.1 hp
    rw [←ht];simp
  · rw [Option.map_eq_some_iff] at h
    obtain ⟨⟨a',b'⟩,h1,h2⟩:=h
    injection h2 with h2 h3;subst h2;subst h3
    rw [ih h1];simp
abbrev nl:List UInt8:=[13,10]
def Ends (w:List UInt8):Prop:=w=[]∨∃u,w=u++nl
theorem F1:∀ {w:List UInt8},Ends w→w≠[]→∃a b,cg nl w=some (a,b)∧w=a++nl++b∧Ends b:=by
 intro w
 induction w with
 |nil=>intro _ h;exact absurd rfl h
 |cons c r ih=>
  intro he _
  obtain ⟨u,hu⟩:=he.resolve_left (by simp)
  unfold cg
  by_cases hp:nl.isPrefixOf (c::r)=true
  · rw [if_pos hp]
    obtain ⟨t,ht⟩:=List.isPrefixOf_iff_prefix.1 hp
    refine ⟨[],t,by rw [←ht];simp,by rw [←ht];simp, ?_⟩
    rw [←ht] at hu
    rcases u with _|⟨x,u⟩
    · left;simpa using hu
    · rcases u with _|⟨y,u⟩
      · simp at hu
      · right
        simp only [List.cons_append,List.nil_append,List.cons.injEq] at hu
        exact ⟨u,hu.2.2⟩
  · rw [if_neg hp]
    cases u with
    |nil=>rw [hu] at hp;exact absurd rfl hp
    |cons x u=>
     simp only [List.cons_append,List.cons.injEq] at hu
     obtain ⟨rfl,hr⟩:=hu
     obtain ⟨a,b,h1,h2,h3⟩:=ih (.inr ⟨u,hr⟩) (by rw [hr];simp)
     exact ⟨c::a,b,by rw [h1];rfl,by rw [h2];simp,h3⟩
def whole (b:List UInt8):List UInt8:=if b=[]∨nl.isSuffixOf b=true then b else b++nl
theorem xD (b:List UInt8):Ends (whole b):=by
 unfold whole
 split
 · rename_i h
   rcases h with h|h
   · exact .inl h
   · obtain ⟨u,hu⟩:=List.isSuffixOf_iff_suffix.1 h
     exact .inr ⟨u,hu.symm⟩
 · exact .inr ⟨b,rfl⟩
theorem Ap (b:List UInt8):(whole b).length≤b.length+2:=by unfold whole;split<;>simp
theorem jb {b:List UInt8} (h:2≤b.length):(b.drop (b.length - 2)=nl)↔nl.isSuffixOf b=true:=by
 rw [List.isSuffixOf_iff_suffix]
 constructor
 · intro h1;exact ⟨b.take (b.length - 2),by rw [←h1,List.take_append_drop]⟩
 · rintro ⟨u,rfl⟩;simp
theorem not_suffix {b:List UInt8} (h:b.length<2):nl.isSuffixOf b=false:=by
 rw [Bool.eq_false_iff]
 intro h1
 obtain ⟨u,rfl⟩:=List.isSuffixOf_iff_suffix.1 h1
 simp at h;omega
theorem Th {b:List UInt8} (hb:b.length≤20000):bytes_HasSuffix b nl=some (nl.isSuffixOf b):=by
 unfold bytes_HasSuffix eN
 by_cases h:2≤b.length
 · rw [if_pos (by simp;omega)]
   have e:IntKind.wrap .i64 ((b.length:Int) - ((nl:List UInt8).length:Int))=((b.length - 2:Nat):Int):=by rw [wr (by simp;omega) (by simp;omega)];simp;omega
   rw [e,vD (by omega)]
   simp only [Option.bind_some,bytes_Equal]
   congr 1
   by_cases h2:b.drop (b.length - 2)=nl
   · rw [(jb h).1 h2];simpa using h2
   · have:nl.isSuffixOf b=false:=by rw [Bool.eq_false_iff];exact fun h3=>h2 ((jb h).2 h3)
     rw [this];simpa using h2
 · rw [if_neg (by simp;omega),not_suffix (by omega)];rfl
theorem Wu {b:List UInt8} {G:Nat} (hb:b.length≤20000):iter (bp [b,nl]) (G+3) (0,0)=some (.inr ((b.length:Int)+2)):=by
 have s1:bp [b,nl] (0,0)=some (.cu ((b.length:Int),1)):=by
  simp only [bp]
  rw [if_pos (by simp),show idx [b,nl] 0=some b by simp [idx]]
  simp only [Option.bind_some]
  rw [wr (by omega) (by omega),if_neg (by simp<;>omega)]
  simp [wr]
 have s2:bp [b,nl] ((b.length:Int),1)=some (.cu ((b.length:Int)+2,2)):=by
  simp only [bp]
  rw [if_pos (by simp),show idx [b,nl] 1=some nl by simp [idx]]
  simp only [Option.bind_some]
  rw [wr (by simp;omega) (by simp;omega),if_neg (by simp<;>omega)]
  simp [wr]
 have s3:bp [b,nl] ((b.length:Int)+2,2)=some (.dU ((b.length:Int)+2)):=by
  simp only [bp];rw [if_neg (by simp)]
 rw [ck s1,ck s2,dc s3]
theorem Wv {b:List UInt8} {G:Nat} (hb:b.length≤20000):iter (br [b,nl]) (G+3) ([],0)=some (.inr (b++nl)):=by
 have s1:br [b,nl] ([],0)=some (.cu (b,1)):=by
  simp only [br]
  rw [if_pos (by simp),show idx [b,nl] 0=some b by simp [idx]]
  simp only [Option.bind_some]
  rw [cA (by simp;omega) (by omega)]
  simp [wr]
 have s2:br [b,nl] (b,1)=some (.cu (b++nl,2)):=by
  simp only [br]
  rw [if_pos (by simp),show idx [b,nl] 1=some nl by simp [idx]]
  simp only [Option.bind_some]
  rw [cA (by simp;omega) (by omega)]
  simp [wr]
 have s3:br [b,nl] (b++nl,2)=some (.dU (b++nl)):=by
  simp only [br];rw [if_neg (by simp)]
 rw [ck s1,ck s2,dc s3]
theorem Qu {b:List UInt8} (hb:b.length≤20000):ia b=some (decide (b=[]∨nl.isSuffixOf b=true)):=by
 unfold ia
 cases b with
 |nil=>rfl
 |cons c r=>
  rw [if_neg (by simp<;>omega),Th hb]
  rw [Option.bind_some,Option.some.injEq,Bool.eq_iff_iff]
  simp
theorem F2 {n:Int} (h0:0≤n) (h1:n≤1000000000):gI n=some []:=by
 unfold gI
 rw [if_neg (by omega),if_pos (by omega)]
theorem Qv {b:List UInt8} {F:Nat} (h1:iter (bp [b,nl]) F (0,0)=some (.inr ((b.length:Int)+2))) (h2:iter (br [b,nl]) F ([],0)=some (.inr (b++nl)))
 (h3:gI ((b.length:Int)+2)=some []):dn F [b,nl]=some (b++nl):=by
 unfold dn
 rw [h1]
 simp only [Option.bind_some]
 rw [h3]
 simp only [Option.bind_some]
 rw [h2]
 simp only [Option.bind_some]
theorem Qw {b:List UInt8} {F:Nat} (hb:b.length≤20000) (hF:3≤F):lR F b=some (whole b):=by
 have hp:=Qu hb
 unfold lR whole
 rw [hp]
 simp only [Option.bind_some,decide_eq_true_eq]
 by_cases h:b=[]∨nl.isSuffixOf b=true
 · rw [if_pos h,if_pos h]
   unfold ob
   rw [cA (by simp;omega) (by omega)];simp
 · rw [if_neg h,if_neg h]
   obtain ⟨G,rfl⟩:∃G,F=G+3:=⟨F - 3,by omega⟩
   rw [Qv (Wu hb) (Wv hb) (F2 (by omega) (by omega))]
   simp only [Option.bind_some]
end Go.Proofs.bX
end
section
set_option maxRecDepth 100000
namespace Go.Proofs.bX
open Go Go.Am Go.Proofs
def good (c:UInt8):Bool:= !(decide (c<33)||decide (126<c)||decide (c=58))
def s7 (s:List UInt8):Bool:= !decide (s=[])&&decide (s.length≤76)&&s.all good
theorem J4 {s:List UInt8} {F:Nat} (hs:s.length≤20000) (hF:s.length<F):ga F s=some (s7 s):=by
 have hp:∀(i:Nat) (x:UInt8),s[i]? =some x→ic s (i:Int)=some (!good x):=by
  intro i x hx
  unfold ic
  rw [bF hx]
  simp only [Option.bind_some,good]
  by_cases h1:x<33
  · simp [h1]
  · by_cases h2:126<x
    · simp [h1,h2]
    · simp [h1,h2]
 have hh:=scan (s:=s) (body:=eG s) (mk:=fun i=>(i:Int)) (p:=good) (rr:=fun _=>false) (tt:=()) ?_ ?_ ?_ hF
 · unfold ga s7
   cases ha:s.all good with
   |true=>
    have:=hh.1 ha
    rw [show ((0:Nat):Int)=0 from rfl] at this
    rw [this]
    simp only [Bool.and_true]
    by_cases h0:s=[]
    · simp [h0]
    · simp only [h0,decide_false,Bool.not_false,Bool.true_and]
      rw [show decide ((s.length:Int)≤76)=decide (s.length≤76) from by rw [decide_eq_decide];omega]
      simp [h0]
   |false=>
    obtain ⟨j,hj⟩:=hh.2 ha
    rw [show ((0:Nat):Int)=0 from rfl] at hj
    rw [hj]
    simp
 · intro i x hx hg
   have hi:i<s.length:=(List.getElem?_eq_some_iff.1 hx).1
   simp only [eG]
   rw [if_pos (by simpa using hi),hp i x hx,hg]
   simp only [Option.bind_some,Bool.not_true,Bool.false_eq_true,if_false]
   rw [wi (by omega)]
 · intro i x hx hg
   have hi:i<s.length:=(List.getElem?_eq_some_iff.1 hx).1
   simp only [eG]
   rw [if_pos (by simpa using hi),hp i x hx,hg]
   simp
 · simp only [eG]
   rw [if_neg (by simp)]
def sK (name:List UInt8) (p:List UInt8×Nat) (f:aG):List UInt8×Nat:=
 if f.name.map low=name.map low then (if p.2=0 then f.value else p.1,p.2+1) else p
def J5 (l:List aG) (name:List UInt8):List UInt8×Nat:=l.foldl (sK name) ([],0)
theorem Ww {l:List aG} {name:List UInt8} {F:Nat} (hl:l.length≤20000) (hn:name.length≤2100) (hf:∀f∈l,f.name.length≤2100) (hF:2200<F) (hF2:l.length<F):
 lD F l name=some ((J5 l name).1,((J5 l name).2:Int)):=by
 have An:∀(r:List aG) (i G:Nat) (o:List UInt8) (n:Nat),l.drop i=r→i+r.length=l.length→r.length<G→n≤i→
  iter (fy F l name) G (o,(n:Int),(i:Int))=some (.inr ((r.foldl (sK name) (o,n)).1,((r.foldl (sK name) (o,n)).2:Int))):=by
  intro r
  induction r with
  |nil=>
   intro i G o n hd hi hG hni
   obtain ⟨G,rfl⟩:=cU hG
   have:i=l.length:=by simpa using hi
   subst this
   exact dc (by simp only [fy];rw [if_neg (by simp)];rfl)
  |cons f r ih=>
   intro i G o n hd hi hG hni
   obtain ⟨G,rfl⟩:=cU (show 0<G by omega)
   obtain ⟨hil,hx,hr⟩:=drop_cons hd
   simp only [List.length_cons] at hi hG
   have hfl:f.name.length≤2100:=hf f (List.mem_of_getElem? hx)
   have hst:fy F l name (o,(n:Int),(i:Int))=some (.cu ((sK name (o,n) f).1,((sK name (o,n) f).2:Int),((i+1:Nat):Int))):=by
    simp only [fy]
    rw [if_pos (by simpa using hil),bF hx]
    simp only [Option.bind_some]
    rw [Qt hfl (by omega),Qt hn (by omega)]
    simp only [Option.bind_some]
    rw [wi (n:=i) (by omega),wi (n:=n) (by omega)]
    unfold sK
    by_cases h:f.name.map low=name.map low
    · rw [if_neg (by simp [h]),if_pos h]
      by_cases h0:n=0
      · subst h0;simp
      · rw [if_neg (by simp;omega),if_neg h0]
    · rw [if_pos (by simpa using h),if_neg h]
   rw [ck hst]
   have:=ih (i+1) G (sK name (o,n) f).1 (sK name (o,n) f).2 hr (by omega) (by omega) (by unfold sK;split<;>simp<;>omega)
   rw [this]
   rfl
 unfold lD J5
 have:=An l 0 F [] 0 rfl (by simp) hF2 (Nat.le_refl _)
 rw [show ((0:Nat):Int)=0 from rfl] at this
 rw [this]
 rfl
def rJ (s:List UInt8):Option aG:=match cg [58] s with
 |some (a,b)=>if s7 a then some ⟨a,b⟩ else none
 |none=>none
def gX (s:List aG) (x:List UInt8):Bool:=decide (0<s.length)&&(x.head?==some 32||x.head?==some 9)
def ext (s:List aG) (x:List UInt8):List aG:=match s[s.length - 1]? with
 |some f=>s.set (s.length - 1) (aG.mk f.name (f.value++(nl++x)))
 |none=>s
def iG:Nat→List UInt8→List aG→List aG×List UInt8
 |0,_,s=>(s,[])
 |n+1,rest,s=>match cg nl rest with
  |none=>(s,[])
  |some (x,more)=>if gX s x then iG n more (ext s x) else match rJ x with
   |some f=>iG n more (s++[f])
   |none=>if x=[] then (s,more) else (s,rest)
def ZV:(List aG×List UInt8)⊕List aG→List aG×List UInt8
 | .inl p=>p
 | .inr s=>(s,[])
theorem Ti (s:List aG) (x:List UInt8):gb s x=some (gX s x):=by
 unfold gb gX
 by_cases h:0<s.length
 · rw [if_pos (by simpa using h)]
   cases x with
   |nil=>simp
   |cons c r=>
    rw [if_pos (by simp),show idx (c::r) 0=some c by simp [idx]]
    simp only [Option.bind_some,List.head?_cons]
    by_cases h1:c=32
    · simp [h1,h]
    · simp only [h,h1,decide_true,Bool.true_and,if_false]
      by_cases h2:c=9
      · simp [h2]
      · simp [h1,h2]
 · rw [if_neg (by simpa using h)];simp [h]
def Bd (rest:List UInt8) (s:List aG):Prop:=rest.length+s.length≤20000∧∀f∈s,f.value.length+rest.length≤20000∧f.name.length≤76
theorem Bd.ext {x more rest:List UInt8} {s:List aG} (h:Bd rest s) (hr:rest=x++nl++more):Bd more (ext s x):=by
 obtain ⟨h1,h2⟩:=h
 have hl:rest.length=x.length+2+more.length:=by rw [hr];simp [nl];omega
 unfold bX.ext
 split
 · rename_i f hf
   refine ⟨by simp;omega,fun g hg=> ?_⟩
   rcases List.mem_or_eq_of_mem_set hg with hg|rfl
   · have:=h2 g hg;omega
   · have:=h2 f (List.mem_of_getElem? hf)
     simp;omega
 · exact ⟨by omega,fun g hg=>by have:=h2 g hg;omega⟩
theorem Bd.app {x more rest:List UInt8} {s:List aG} {f:aG} (h:Bd rest s) (hr:rest=x++nl++more) (hf:rJ x=some f):Bd more (s++[f]):=by
 obtain ⟨h1,h2⟩:=h
 have hl:rest.length=x.length+2+more.length:=by rw [hr];simp [nl];omega
 unfold rJ at hf
 split at hf
 · rename_i a b hc
   split at hf
   · rename_i hn
     injection hf with hf;subst hf
     have hx:=Ao hc
     have hxl:x.length=a.length+1+b.length:=by rw [hx];simp [nl];omega
     refine ⟨by simp;omega,fun g hg=> ?_⟩
     rcases List.mem_append.1 hg with hg|hg
     · have:=h2 g hg;omega
     · simp at hg;subst hg
       unfold s7 at hn
       simp at hn
       simp;omega
   · cases hf
 · cases hf
theorem Qx {F:Nat} (hF:20001<F):∀(n:Nat) (rest:List UInt8) (s:List aG) (G:Nat),rest.length<n→n≤G→Ends rest→Bd rest s→
 ∃o,iter (dW F) G (rest,s)=some o∧ZV o=iG n rest s:=by
 intro n
 induction n with
 |zero=>intro rest s G h;omega
 |succ n ih=>
  intro rest s G hn hG he hb
  obtain ⟨G,rfl⟩:=cU (show 0<G by omega)
  by_cases hr:rest=[]
  · subst hr
    exact ⟨.inr s,dc (by simp only [dW];rw [if_neg (by simp)]),rfl⟩
  · obtain ⟨x,more,hc,hx,hm⟩:=F1 he hr
    have hl:rest.length=x.length+2+more.length:=by rw [hx];simp [nl];omega
    have Ca:=hb.1
    have hbody:dW F (rest,s)=(if gX s x then some (.cu (more,ext s x)) else match rJ x with
     |some f=>some (.cu (more,s++[f]))
     |none=>if x=[] then some (.ret (s,more)) else some (.ret (s,rest))):=by
     simp only [dW]
     rw [if_pos (by simpa using hr),J3 (by simp) (by omega),hc]
     simp only [Option.bind_some]
     rw [J3 (by simp) (by omega)]
     simp only [Option.bind_some,Ti]
     by_cases h1:gX s x=true
     · rw [if_pos h1,if_pos h1]
       have hs0:0<s.length:=by unfold gX at h1;simp at h1;exact h1.1
       obtain ⟨f,hf⟩:∃f,s[s.length - 1]? =some f:=⟨_,List.getElem?_eq_getElem (by omega)⟩
       have hfb:=hb.2 f (List.mem_of_getElem? hf)
       have e:IntKind.wrap .i64 ((s.length:Int) - 1)=((s.length - 1:Nat):Int):=by rw [wr (by omega) (by omega)];omega
       rw [e,J2 (by omega)]
       simp only [Option.bind_some]
       rw [hf]
       simp only [Option.bind_some]
       rw [aO (by simp;omega)]
       simp only [Option.bind_some]
       rw [aO (by simp;omega)]
       simp only [Option.bind_some,bX.ext,hf]
     · rw [if_neg h1,if_neg h1]
       unfold rJ
       cases h2:cg [58] x with
       |none=>
        simp only [gf,Bool.false_eq_true,if_false,Option.bind_some,decide_eq_true_eq]
       |some p=>
        obtain ⟨a,b⟩:=p
        have hx2:=Ao h2
        have hxl:x.length=a.length+1+b.length:=by rw [hx2];simp;omega
        simp only [gf,if_true]
        rw [J4 (by omega) (by omega)]
        simp only [Option.bind_some]
        by_cases h3:s7 a=true
        · rw [if_pos h3,if_pos h3,cA (by simp;omega) (by omega)];rfl
        · rw [if_neg h3,if_neg h3]
          simp only [decide_eq_true_eq]
    have ZW:iG (n+1) rest s=(if gX s x then iG n more (ext s x) else match rJ x with
     |some f=>iG n more (s++[f])
     |none=>if x=[] then (s,more) else (s,rest)):=by
     simp only [iG,hc]
    rw [ZW]
    by_cases h1:gX s x=true
    · rw [if_pos h1] at hbody ⊢
      rw [ck hbody]
      exact ih more _ G (by omega) (by omega) hm (hb.ext hx)
    · rw [if_neg h1] at hbody ⊢
      cases h2:rJ x with
      |some f=>
       rw [h2] at hbody
       simp only at hbody ⊢
       rw [ck hbody]
       exact ih more _ G (by omega) (by omega) hm (hb.app hx h2)
      |none=>
       rw [h2] at hbody
       simp only at hbody ⊢
       by_cases h3:x=[]
       · rw [if_pos h3] at hbody ⊢
         exact ⟨_,fQ hbody,rfl⟩
       · rw [if_neg h3] at hbody ⊢
         exact ⟨_,fQ hbody,rfl⟩
def tf (b:List UInt8):List aG×List UInt8:=iG ((whole b).length+1) (whole b) []
theorem Qy {b:List UInt8} {F:Nat} (hb:b.length≤19000) (hF:20001<F):iV F b=some (tf b):=by
 have hw:=Ap b
 obtain ⟨o,h1,h2⟩:=Qx hF ((whole b).length+1) (whole b) [] F (by omega) (by omega) (xD b) ⟨by simp;omega,by simp⟩
 unfold iV tf
 rw [Qw (by omega) (by omega)]
 simp only [Option.bind_some]
 rw [h1, ←h2]
 cases o with
 |inl p=>rfl
 |inr s=>rfl
end Go.Proofs.bX
end
section
set_option maxRecDepth 100000
namespace Go.Proofs.bX
open Go Go.Am Go.Proofs
def S (f:Nat→Nat):Nat→Nat→Nat
 |_,0=>0
 |y,k+1=>f y+S f (y+1) k
theorem I2 {f:Nat→Nat}:∀ {k k2 y a b:Nat},S f y k+a=S f y k2+b→a<f (y+k)→b<f (y+k2)→k=k2∧a=b
 |0,0,y,a,b,h,_,_=>by simp [S] at h;exact ⟨rfl,h⟩
 |0,k2+1,y,a,b,h,ha,_=>by simp only [S] at h;simp only [Nat.add_zero] at ha;omega
 |k+1,0,y,a,b,h,_,hb=>by simp only [S] at h;simp only [Nat.add_zero] at hb;omega
 |k+1,k2+1,y,a,b,h,ha,hb=>by
  simp only [S] at h
  have:=I2 (f:=f) (k:=k) (k2:=k2) (y:=y+1) (a:=a) (b:=b) (by omega) (by rw [show y+1+k=y+(k+1) by omega];exact ha) (by rw [show y+1+k2=y+(k2+1) by omega];exact hb)
  exact ⟨by omega,this.2⟩
theorem Aq (f:Nat→Nat):∀(a b y:Nat),S f y (a+b)=S f y a+S f (y+a) b
 |0,b,y=>by simp [S]
 |a+1,b,y=>by rw [Nat.add_right_comm];simp only [S];rw [Aq f a b (y+1),show y+1+a=y+(a+1) by omega];omega
def kT (y:Nat):Bool:=decide (y % 4=0)&&((!decide (y % 100=0))||decide (y % 400=0))
def di (y:Nat):Nat:=if kT y then 366 else 365
theorem rK (y:Nat):365≤di y∧di y≤366:=by unfold di;split<;>omega
theorem MO (y:Nat):di (y+400)=di y:=by
 unfold di kT
 rw [show (y+400) % 4=y % 4 by omega,show (y+400) % 100=y % 100 by omega,show (y+400) % 400=y % 400 by omega]
theorem Qz:∀(k y:Nat),S di (y+400) k=S di y k
 |0,y=>rfl
 |k+1,y=>by simp only [S];rw [MO,show y+400+1=y+1+400 by omega,Qz k (y+1)]
theorem Wy:∀(c k y:Nat),S di (y+400*c) k=S di y k
 |0,k,y=>rfl
 |c+1,k,y=>by rw [show y+400*(c+1)=(y+400*c)+400 by omega,Qz,Wy c k y]
theorem I3:∀c:Nat,S di 1970 (400*c)=146097*c
 |0=>rfl
 |c+1=>by
  rw [show 400*(c+1)=400*c+400 by omega,Aq,I3 c,Wy]
  have:S di 1970 400=146097:=by kernel_rfl
  omega
theorem Tj {f:Nat→Nat} {y:Nat} {a b:Nat} (h:a≤b):S f y a≤S f y b:=by
 rw [show b=a+(b - a) by omega,Aq];omega
theorem QA {d k a:Nat} (h:d=S di 1970 k+a) (hd:d≤2932896):k≤8029:=by
 rcases Nat.lt_or_ge k 8030 with hk|hk
 · omega
 · have h1:=Tj (f:=di) (y:=1970) hk
   have h2:S di 1970 8030=2932897:=by
    rw [show 8030=400*20+30 by rfl,Aq,I3,Wy]
    have:S di 1970 30=10957:=by kernel_rfl
    omega
   omega
theorem tm (m n:Nat):Int.tmod (m:Int) (n:Int)=((m % n:Nat):Int):=rfl
theorem td (m n:Nat):Int.tdiv (m:Int) (n:Int)=((m / n:Nat):Int):=rfl
theorem DV (y:Nat):jX (y:Int)=some (kT y):=by
 unfold jX kT
 rw [show Int.tmod (y:Int) 4=((y % 4:Nat):Int) from rfl,show Int.tmod (y:Int) 100=((y % 100:Nat):Int) from rfl,show Int.tmod (y:Int) 400=((y % 400:Nat):Int) from rfl]
 have:∀n:Nat,decide ((n:Int)=0)=decide (n=0):=fun n=>by rw [decide_eq_decide];omega
 simp only [this]
theorem Tk (y:Nat):kJ (y:Int)=some (kT y):=by
 rw [←DV];rfl
theorem years {ρ:Type} {body:Int×Int→Option (St ρ (Int×Int) (Int×Int))}
 (hb:∀d y:Nat,d≤3000000→y≤4000000→body ((d:Int),(y:Int))=if d<di y then some (.dU ((d:Int),(y:Int))) else some (.cu (((d - di y:Nat):Int),((y+1:Nat):Int)))):
 ∀(F d y:Nat),d<F→d≤3000000→y+d≤4000000→∃d' k:Nat,iter body F ((d:Int),(y:Int))=some (.inr ((d':Int),((y+k:Nat):Int)))∧d=S di y k+d'∧d'<di (y+k):=by
 intro F
 induction F with
 |zero=>intro d y h;omega
 |succ F ih=>
  intro d y hF hd hy
  have h:=hb d y hd (by omega)
  have hl:=rK y
  by_cases hc:d<di y
  · rw [if_pos hc] at h
    exact ⟨d,0,dc h,by simp [S],hc⟩
  · rw [if_neg hc] at h
    obtain ⟨d',k,h1,h2,h3⟩:=ih (d - di y) (y+1) (by omega) (by omega) (by omega)
    refine ⟨d',k+1, ?_, ?_, ?_⟩
    · rw [ck h,h1,show y+1+k=y+(k+1) by omega]
    · simp only [S];omega
    · rw [show y+(k+1)=y+1+k by omega];exact h3
theorem QB (d y:Nat) (hd:d≤3000000) (hy:y≤4000000):ij ((d:Int),(y:Int))=if d<di y then some (.dU ((d:Int),(y:Int))) else some (.cu (((d - di y:Nat):Int),((y+1:Nat):Int))):=by
 have hp:ig (kT y)=some ((di y:Nat):Int):=by unfold ig di;cases kT y<;>simp [wr]
 have hl:=rK y
 simp only [ij]
 rw [DV]
 simp only [Option.bind_some]
 rw [hp]
 simp only [Option.bind_some]
 by_cases hc:d<di y
 · rw [if_pos (by simp;omega),if_pos hc]
 · rw [if_neg (by simp;omega),if_neg hc,wi (by omega),wr (by omega) (by omega),Int.natCast_sub (by omega)]
theorem QC (d y:Nat) (hd:d≤3000000) (hy:y≤4000000):gx ((d:Int),(y:Int))=if d<di y then some (.dU ((d:Int),(y:Int))) else some (.cu (((d - di y:Nat):Int),((y+1:Nat):Int))):=by
 have hp:gw (kT y)=some ((di y:Nat):Int):=by unfold gw di;cases kT y<;>rfl
 have hl:=rK y
 simp only [gx]
 rw [Tk]
 simp only [Option.bind_some]
 rw [hp]
 simp only [Option.bind_some]
 by_cases hc:d<di y
 · rw [if_pos (by simp;omega),if_pos hc]
 · rw [if_neg (by simp;omega),if_neg hc,wi (by omega),wr (by omega) (by omega),Int.natCast_sub (by omega)]
def BO:List Nat:=[31,28,31,30,31,30,31,31,30,31,30,31]
def gA (y m:Nat):Nat:=if m=1∧kT y=true then 29 else (BO[m]?).getD 0
theorem QD (y:Nat):S (gA y) 0 12=di y:=by
 cases h:kT y<;>simp [S,gA,di,h,BO]
theorem vE (y m:Nat):gA y m≤31:=by
 unfold gA
 split
 · omega
 · rcases Nat.lt_or_ge m 12 with h|h
   · have:=List.all_eq_true.1 (show (List.range 12).all (fun m=>decide ((BO[m]?).getD 0≤31))=true by kernel_rfl) m (by simpa using h)
     simpa using this
   · rw [List.getElem?_eq_none (by simp [BO];omega)];simp
theorem months {ρ:Type} {y:Nat} {body:Int×Int→Option (St ρ (Int×Int) (Int×Int))}
 (hb:∀d m:Nat,d≤400→m<12→body ((d:Int),(m:Int))=if gA y m≤d then some (.cu (((d - gA y m:Nat):Int),((m+1:Nat):Int))) else some (.dU ((d:Int),(m:Int)))):
 ∀(j F d m:Nat),m+j=12→j<F→d≤400→d<S (gA y) m j→∃d' k:Nat,iter body F ((d:Int),(m:Int))=some (.inr ((d':Int),((m+k:Nat):Int)))∧d=S (gA y) m k+d'∧d'<gA y (m+k)∧m+k<12:=by
 intro j
 induction j with
 |zero=>intro F d m _ _ _ h;simp [S] at h
 |succ j ih=>
  intro F d m hm hF hd h
  obtain ⟨F,rfl⟩:=cU hF
  have Tl:=hb d m hd (by omega)
  simp only [S] at h
  by_cases hc:gA y m≤d
  · rw [if_pos hc] at Tl
    obtain ⟨d',k,h1,h2,h3,h4⟩:=ih F (d - gA y m) (m+1) (by omega) (by omega) (by omega) (by omega)
    refine ⟨d',k+1, ?_, ?_, ?_,by omega⟩
    · rw [ck Tl,h1,show m+1+k=m+(k+1) by omega]
    · simp only [S];omega
    · rw [show m+(k+1)=m+1+k by omega];exact h3
  · rw [if_neg hc] at Tl
    exact ⟨d,0,dc Tl,by simp [S],by simpa using hc,by omega⟩
theorem J6 {y m:Nat} (h:m<12):iS (y:Int) (m:Int)=some ((gA y m:Nat):Int):=by
 unfold iS ie gA
 rw [DV]
 simp only [Option.bind_some]
 have ht:∀m:Nat,m<12→(so 12 (m:Int)).bind (fun j=>(dR[j]?).bind fun x=>some x)=some (((BO[m]?).getD 0:Nat):Int):=by
  intro m hm
  have:=List.all_eq_true.1 (show (List.range 12).all (fun m=>decide ((so 12 (m:Int)).bind (fun j=>(dR[j]?).bind fun x=>some x)=some (((BO[m]?).getD 0:Nat):Int)))=true by kernel_rfl) m (by simpa using hm)
  simpa using this
 by_cases h1:m=1
 · subst h1
   cases hl:kT y
   · have:=ht 1 (by omega)
     rw [if_neg (show ¬(1=1∧false=true) by simp)]
     exact this
   · rfl
 · rw [if_neg (by simp;omega),if_neg (fun h=>h1 h.1)]
   simp only [Option.bind_some,Bool.false_eq_true,if_false]
   exact ht m h
theorem Tm {y m:Nat} (h:m<12):ja (m:Int) (y:Int)=some ((gA y m:Nat):Int):=by
 rw [←J6 h]
 unfold ja iS
 have e1:jF (m:Int) (y:Int)=ie (m:Int) (y:Int):=rfl
 rw [e1]
 congr 1
 funext t
 congr 1
 have:=List.all_eq_true.1 (show (List.range 12).all (fun m=>decide (((idx ([31,28,31,30,31,30,31,31,30,31,30,31]:List Int) (m:Int)).bind fun x=>some x)=(so 12 (m:Int)).bind (fun j=>(dR[j]?).bind fun x=>some x)))=true by kernel_rfl) m (by simpa using h)
 simpa using this
theorem MP (y d m:Nat) (hd:d≤400) (hm:m<12):iu (y:Int) ((d:Int),(m:Int))=if gA y m≤d then some (.cu (((d - gA y m:Nat):Int),((m+1:Nat):Int))) else some (.dU ((d:Int),(m:Int))):=by
 have hl:=vE y m
 simp only [iu]
 rw [J6 hm]
 simp only [Option.bind_some]
 by_cases hc:gA y m≤d
 · rw [if_pos (by simp;omega),if_pos hc,wi (by omega),wr (by omega) (by omega),Int.natCast_sub (by omega)]
 · rw [if_neg (by simp;omega),if_neg hc]
theorem MQ (y d m:Nat) (hd:d≤400) (hm:m<12):gy (y:Int) ((d:Int),(m:Int))=if gA y m≤d then some (.cu (((d - gA y m:Nat):Int),((m+1:Nat):Int))) else some (.dU ((d:Int),(m:Int))):=by
 have hl:=vE y m
 simp only [gy]
 rw [Tm hm]
 simp only [Option.bind_some]
 by_cases hc:gA y m≤d
 · rw [if_pos (by simp;omega),if_pos hc,wi (by omega),wr (by omega) (by omega),Int.natCast_sub (by omega)]
 · rw [if_neg (by simp;omega),if_neg hc]
end Go.Proofs.bX
end
section
set_option maxRecDepth 100000
namespace Go.Proofs.bX
open Go Go.Am Go.Proofs
def dg (n:Nat):UInt8:=UInt8.ofNat (48+n)
def tw (n:Nat):List UInt8:=[dg (n / 10),dg (n % 10)]
theorem iN {a b:Nat} (ha:a<10) (hb:b<10) (h:dg a=dg b):a=b:=by
 have:=List.all_eq_true.1 (show (List.range 10).all (fun a=>(List.range 10).all fun b=> !(dg a==dg b)||a==b)=true by kernel_rfl) a (by simpa using ha)
 have:=List.all_eq_true.1 this b (by simpa using hb)
 simpa [h] using this
theorem xe {n:Nat} (h:n<100):fM (n:Int)=some (tw n):=by
 have:=List.all_eq_true.1 (show (List.range 100).all (fun n=>decide (fM (n:Int)=some (tw n)))=true by kernel_rfl) n (by simpa using h)
 simpa using this
theorem Tn {y:Nat} (h:y≤9999):lU (y:Int)=some (tw (y / 100)++tw (y % 100)):=by
 unfold lU
 rw [show IntKind.wrap .i64 (Int.tdiv (y:Int) 100)=((y / 100:Nat):Int) by rw [show Int.tdiv (y:Int) 100=((y / 100:Nat):Int) from rfl,wr (by omega) (by omega)],
  show Int.tmod (y:Int) 100=((y % 100:Nat):Int) from rfl,xe (by omega),xe (by omega)]
 simp only [Option.bind_some]
 rw [aO (by simp [tw])]
 rfl
theorem xg {n:Nat} (h:n≤9999):eJ (n:Int)=some (tw (n % 100)):=by
 have hd:∀k:Nat,k<10→UInt8.ofInt (IntKind.wrap .i64 (48+(k:Int)))=dg k:=by
  intro k hk
  have:=List.all_eq_true.1 (show (List.range 10).all (fun k=>decide (UInt8.ofInt (IntKind.wrap .i64 (48+(k:Int)))=dg k))=true by kernel_rfl) k (by simpa using hk)
  simpa using this
 unfold eJ tw
 rw [show IntKind.wrap .i64 (Int.tdiv (n:Int) 10)=((n / 10:Nat):Int) by rw [show Int.tdiv (n:Int) 10=((n / 10:Nat):Int) from rfl,wr (by omega) (by omega)],
  show Int.tmod ((n / 10:Nat):Int) 10=((n / 10 % 10:Nat):Int) from rfl,show Int.tmod (n:Int) 10=((n % 10:Nat):Int) from rfl,hd _ (by omega),hd _ (by omega),
  show n % 100 / 10=n / 10 % 10 by omega,show n % 100 % 10=n % 10 by omega]
def Ua:List UInt8:=[84,104,117,70,114,105,83,97,116,83,117,110,77,111,110,84,117,101,87,101,100]
def As:List UInt8:=(74::97::110::70::101::98::77::97::114::65::112::114::77::97::121::74::117::110::74::117::108::65::117::103::83::101::112::79::99::116::78::111::118::68::101::99::[])
def wk (w:Nat):List UInt8:=(Ua.take (3*w+3)).drop (3*w)
def mn (m:Nat):List UInt8:=(As.take (3*m+3)).drop (3*m)
theorem vF {w:Nat} (h:w<7):(wk w).length=3:=by simp [wk,Ua];omega
theorem vG {m:Nat} (h:m<12):(mn m).length=3:=by simp [mn,As];omega
theorem To {a b:Nat} (ha:a<12) (hb:b<12) (h:mn a=mn b):a=b:=by
 have:=List.all_eq_true.1 (show (List.range 12).all (fun a=>(List.range 12).all fun b=> !(mn a==mn b)||a==b)=true by kernel_rfl) a (by simpa using ha)
 have:=List.all_eq_true.1 this b (by simpa using hb)
 simpa [h] using this
theorem ZX {w:Nat} (h:w<7):sub ([84,104,117,70,114,105,83,97,116,83,117,110,77,111,110,84,117,101,87,101,100]:List UInt8) (IntKind.wrap .i64 (3*(w:Int))) (IntKind.wrap .i64 (IntKind.wrap .i64 (3*(w:Int))+3))=some (wk w):=by
 rw [show IntKind.wrap .i64 (3*(w:Int))=((3*w:Nat):Int) by rw [wr (by omega) (by omega)];omega,show IntKind.wrap .i64 (((3*w:Nat):Int)+3)=((3*w+3:Nat):Int) by rw [wr (by omega) (by omega)];omega,
  nZ (by omega) (by simp;omega)]
 rfl
theorem ZY {m:Nat} (h:m<12):sub As (IntKind.wrap .i64 (3*(m:Int))) (IntKind.wrap .i64 (IntKind.wrap .i64 (3*(m:Int))+3))=some (mn m):=by
 rw [show IntKind.wrap .i64 (3*(m:Int))=((3*m:Nat):Int) by rw [wr (by omega) (by omega)];omega,show IntKind.wrap .i64 (((3*m:Nat):Int)+3)=((3*m+3:Nat):Int) by rw [wr (by omega) (by omega)];omega,
  nZ (by omega) (by simp [As];omega)]
 rfl
def wl:List (List UInt8):=[([84,104,117]:List UInt8),([70,114,105]:List UInt8),([83,97,116]:List UInt8),([83,117,110]:List UInt8),([77,111,110]:List UInt8),([84,117,101]:List UInt8),([87,101,100]:List UInt8)]
def Wz:List (List UInt8):=[([74,97,110]:List UInt8),([70,101,98]:List UInt8),([77,97,114]:List UInt8),([65,112,114]:List UInt8),([77,97,121]:List UInt8),([74,117,110]:List UInt8),([74,117,108]:List UInt8),([65,117,103]:List UInt8),([83,101,112]:List UInt8),([79,99,116]:List UInt8),([78,111,118]:List UInt8),([68,101,99]:List UInt8)]
theorem ZZ {w:Nat} (h:w<7):idx wl (w:Int)=some (wk w):=by
 have:=List.all_eq_true.1 (show (List.range 7).all (fun w=>decide (idx wl (w:Int)=some (wk w)))=true by kernel_rfl) w (by simpa using h)
 simpa using this
theorem Z0 {m:Nat} (h:m<12):idx Wz (m:Int)=some (mn m):=by
 have:=List.all_eq_true.1 (show (List.range 12).all (fun m=>decide (idx Wz (m:Int)=some (mn m)))=true by kernel_rfl) m (by simpa using h)
 simpa using this
def rL (w a m y e:Nat):List UInt8:=
 wk w++(44::32::dg (a / 10)::dg (a % 10)::32::(mn m++(32::dg (y / 100 / 10)::dg (y / 100 % 10)::dg (y % 100 / 10)::dg (y % 100 % 10)::32::dg (e / 3600 / 10)::dg (e / 3600 % 10)::58::dg (e / 60 % 60 / 10)::dg (e / 60 % 60 % 10)::58::dg (e % 60 / 10)::dg (e % 60 % 10)::[32,43,48,48,48,48])))
def DW (d y m a:Nat):Prop:=∃k b,y=1970+k∧d=S di 1970 k+b∧b<di y∧b=S (gA y) 0 m+a∧a<gA y m∧m<12
theorem QE {d y m a y2 m2 a2:Nat} (h:DW d y m a) (h2:DW d y2 m2 a2):y=y2∧m=m2∧a=a2:=by
 obtain ⟨k,b,e1,e2,e3,e4,e5, -⟩:=h
 obtain ⟨k2,b2,f1,f2,f3,f4,f5, -⟩:=h2
 obtain ⟨rfl,rfl⟩:=I2 (e2.symm.trans f2) (e1▸e3) (f1▸f3)
 subst f1
 subst e1
 obtain ⟨h1,h2⟩:=I2 (f:=gA (1970+k)) (e4.symm.trans f4) (by simpa using e5) (by simpa using f5)
 exact ⟨rfl,h1,h2⟩
theorem Xi {d d2 y m a:Nat} (h:DW d y m a) (h2:DW d2 y m a):d=d2:=by
 obtain ⟨k,b,e1,e2,e3,e4,e5, -⟩:=h
 obtain ⟨k2,b2,f1,f2,f3,f4,f5, -⟩:=h2
 have:k=k2:=by omega
 subst this
 omega
theorem yH {d y m a:Nat} (h:DW d y m a) (hd:d≤2932896):y≤9999∧m<12∧a<31:=by
 obtain ⟨k,b,e1,e2,e3,e4,e5,e6⟩:=h
 have:=QA e2 hd
 have:=vE y m
 omega
theorem Tp {d F:Nat} (hd:d≤2932896) (hF:3000000<F):∃y m a:Nat,DW d y m a∧lT F (d:Int)=some ((y:Int),(m:Int),((a+1:Nat):Int)):=by
 obtain ⟨b,k,h1,h2,h3⟩:=years (fun d y hd hy=>QB d y hd hy) F d 1970 (by omega) (by omega) (by omega)
 have hl:=rK (1970+k)
 obtain ⟨a,m,g1,g2,g3,g4⟩:=months (y:=1970+k) (fun d m hd hm=>MP (1970+k) d m hd hm) 12 F b 0 rfl (by omega) (by omega) (by rw [QD];exact h3)
 rw [Nat.zero_add] at g1 g3 g4
 have:=vE (1970+k) m
 refine ⟨1970+k,m,a,⟨k,b,rfl,h2,h3,g2,g3,g4⟩, ?_⟩
 unfold lT
 rw [show ((1970:Nat):Int)=1970 from rfl] at h1
 rw [h1]
 simp only [Option.bind_some]
 rw [show ((0:Nat):Int)=0 from rfl] at g1
 rw [g1]
 simp only [Option.bind_some]
 rw [wi (by omega)]
theorem bs {α β:Type} (a:α) (f:α→Option β):(some a).bind f=f a:=(Option.bind_some a f).trans (Eq.trans rfl rfl)
theorem J7 {t F:Nat} (ht:t≤253402300799) (hF:3000000<F):∃y m a:Nat,DW (t / 86400) y m a∧cx F (t:Int)=some (rL (t / 86400 % 7) (a+1) m y (t % 86400)):=by
 have hd:t / 86400≤2932896:=by omega
 obtain ⟨y,m,a,hc,h⟩:=Tp (F:=F) hd hF
 obtain ⟨hy,hm,ha⟩:=yH hc hd
 refine ⟨y,m,a,hc, ?_⟩
 unfold cx
 have e0:min (max (t:Int) 0) 253402300799=(t:Int):=by omega
 have e1:IntKind.wrap .i64 (Int.tdiv (t:Int) 86400)=((t / 86400:Nat):Int):=by rw [show Int.tdiv (t:Int) 86400=((t / 86400:Nat):Int) from rfl,wr (by omega) (by omega)]
 have e2:Int.tmod (t:Int) 86400=((t % 86400:Nat):Int):=rfl
 have e3:Int.tmod ((t / 86400:Nat):Int) 7=((t / 86400 % 7:Nat):Int):=rfl
 have e4:IntKind.wrap .i64 (Int.tdiv ((t % 86400:Nat):Int) 3600)=((t % 86400 / 3600:Nat):Int):=by rw [show Int.tdiv ((t % 86400:Nat):Int) 3600=((t % 86400 / 3600:Nat):Int) from rfl,wr (by omega) (by omega)]
 have e5:IntKind.wrap .i64 (Int.tdiv ((t % 86400:Nat):Int) 60)=((t % 86400 / 60:Nat):Int):=by rw [show Int.tdiv ((t % 86400:Nat):Int) 60=((t % 86400 / 60:Nat):Int) from rfl,wr (by omega) (by omega)]
 have e6:Int.tmod ((t % 86400 / 60:Nat):Int) 60=((t % 86400 / 60 % 60:Nat):Int):=rfl
 have e7:Int.tmod ((t % 86400:Nat):Int) 60=((t % 86400 % 60:Nat):Int):=rfl
 rw [e0,e1,e2,e3,e4,e5,e6,e7,h]
 clear e0 e1 e2 e3 e4 e5 e6 e7 h hc
 simp only [bs]
 have MR:t / 86400 % 7<7:=Nat.mod_lt _ (by decide)
 have he:t % 86400<86400:=Nat.mod_lt _ (by decide)
 generalize t / 86400 % 7=w at MR ⊢
 generalize t % 86400=e at he ⊢
 clear hd ht hF
 have hw:=vF MR
 have hmn:=vG hm
 rw [ZX (by omega)]
 generalize hW:wk w=W at hw ⊢
 simp only [bs]
 rw [aO (by simp;omega)]
 simp only [bs]
 have Z1:=ZY hm
 unfold As at Z1
 rw [Z1]
 generalize hM:mn m=M at hmn ⊢
 simp only [bs]
 rw [xe (by omega)]
 simp only [bs]
 rw [aO (by simp [tw];omega)]
 simp only [bs]
 rw [aO (by simp [tw];omega)]
 simp only [bs]
 rw [aO (by simp [tw];omega)]
 simp only [bs]
 rw [aO (by simp [tw];omega)]
 simp only [bs]
 rw [Tn hy]
 simp only [bs]
 rw [aO (by simp [tw];omega)]
 simp only [bs]
 rw [aO (by simp [tw];omega)]
 simp only [bs]
 rw [xe (by omega)]
 simp only [bs]
 rw [aO (by simp [tw];omega)]
 simp only [bs]
 rw [aO (by simp [tw];omega)]
 simp only [bs]
 rw [xe (by omega)]
 simp only [bs]
 rw [aO (by simp [tw];omega)]
 simp only [bs]
 rw [aO (by simp [tw];omega)]
 simp only [bs]
 rw [xe (by omega)]
 simp only [bs]
 rw [aO (by simp [tw];omega)]
 simp only [bs]
 rw [aO (by simp [tw];omega)]
 subst hW hM
 simp only [bs,rL,tw,List.append_assoc,List.cons_append,List.nil_append]
theorem WA {t F y m a:Nat} (ht:t≤253402300799) (hF:3000000<F) (hc:DW (t / 86400) y m a):dw F (t:Int)=some (rL (t / 86400 % 7) (a+1) m y (t % 86400)):=by
 have hd:t / 86400≤2932896:=by omega
 obtain ⟨hy,hm,ha⟩:=yH hc hd
 obtain ⟨d,RQ⟩:∃d,d=t / 86400:=⟨_,rfl⟩
 have e1:IntKind.wrap .i64 (Int.tdiv (t:Int) 86400)=(d:Int):=by rw [show Int.tdiv (t:Int) 86400=((t / 86400:Nat):Int) from rfl,wr (by omega) (by omega),RQ]
 have e2:Int.tmod (t:Int) 86400=((t % 86400:Nat):Int):=rfl
 have e3:Int.tmod (d:Int) 7=((d % 7:Nat):Int):=rfl
 have e4:IntKind.wrap .i64 (Int.tdiv ((t % 86400:Nat):Int) 3600)=((t % 86400 / 3600:Nat):Int):=by rw [show Int.tdiv ((t % 86400:Nat):Int) 3600=((t % 86400 / 3600:Nat):Int) from rfl,wr (by omega) (by omega)]
 have e5:IntKind.wrap .i64 (Int.tdiv ((t % 86400:Nat):Int) 60)=((t % 86400 / 60:Nat):Int):=by rw [show Int.tdiv ((t % 86400:Nat):Int) 60=((t % 86400 / 60:Nat):Int) from rfl,wr (by omega) (by omega)]
 have e6:Int.tmod ((t % 86400 / 60:Nat):Int) 60=((t % 86400 / 60 % 60:Nat):Int):=rfl
 have e7:Int.tmod ((t % 86400:Nat):Int) 60=((t % 86400 % 60:Nat):Int):=rfl
 have e8:Int.tmod (d:Int) 146097=((d % 146097:Nat):Int):=rfl
 have e9:IntKind.wrap .i64 (1970+IntKind.wrap .i64 (400*IntKind.wrap .i64 (Int.tdiv (d:Int) 146097)))=((1970+400*(d / 146097):Nat):Int):=by
  rw [show Int.tdiv (d:Int) 146097=((d / 146097:Nat):Int) from rfl,wr (n:=((d / 146097:Nat):Int)) (by omega) (by omega),wr (n:=400*((d / 146097:Nat):Int)) (by omega) (by omega),wr (by omega) (by omega)];omega
 obtain ⟨b,k,h1,h2,h3⟩:=years (fun d y hd hy=>QC d y hd hy) F (d % 146097) (1970+400*(d / 146097)) (by omega) (by omega) (by omega)
 have hl:=rK (1970+400*(d / 146097)+k)
 obtain ⟨a',m',g1,g2,g3,g4⟩:=months (y:=1970+400*(d / 146097)+k) (fun d m hd hm=>MQ _ d m hd hm) 12 F b 0 rfl (by omega) (by omega) (by rw [QD];exact h3)
 rw [Nat.zero_add] at g1 g3 g4
 have hc2:DW (t / 86400) (1970+400*(d / 146097)+k) m' a':=by
  refine ⟨400*(d / 146097)+k,b,by omega, ?_,h3,g2,g3,g4⟩
  rw [Aq,I3]
  omega
 obtain ⟨ey,rfl,rfl⟩:=QE hc hc2
 rw [←ey] at h1 g1
 rw [show ((0:Nat):Int)=0 from rfl] at g1
 have F3:ef (t:Int)=some (t:Int):=by unfold ef;rw [if_neg (by simp)]
 have Tq:eg (t:Int)=some (t:Int):=by unfold eg;rw [if_neg (by simp;omega)]
 unfold dw
 rw [F3]
 simp only [bs]
 rw [Tq]
 simp only [bs]
 rw [e1,e2,e3,e4,e5,e6,e7,e8,e9,h1]
 rw [RQ] at*
 have MR:t / 86400 % 7<7:=Nat.mod_lt _ (by decide)
 have he:t % 86400<86400:=Nat.mod_lt _ (by decide)
 clear e1 e2 e3 e4 e5 e6 e7 e8 e9 h1 F3 Tq h2 h3 hl g2 g3 g4 hc hc2
 generalize t / 86400 % 7=w at MR ⊢
 generalize t % 86400=e at he ⊢
 have hw:=vF MR
 have hmn:=vG hm
 have hwr:=ZZ MR
 unfold wl at hwr
 rw [hwr]
 generalize hW:wk w=W at hw ⊢
 simp only [bs]
 rw [g1]
 simp only [bs]
 rw [aO (by simp;omega)]
 simp only [bs]
 have hmr:=Z0 hm
 unfold Wz at hmr
 rw [hmr]
 generalize hM:mn m=M at hmn ⊢
 simp only [bs]
 rw [wi (by omega),xg (by omega)]
 simp only [bs]
 rw [aO (by simp [tw];omega)]
 simp only [bs]
 rw [aO (by simp [tw];omega)]
 simp only [bs]
 rw [aO (by simp [tw];omega)]
 simp only [bs]
 rw [aO (by simp [tw];omega)]
 simp only [bs]
 rw [show IntKind.wrap .i64 (Int.tdiv (y:Int) 100)=((y / 100:Nat):Int) by rw [show Int.tdiv (y:Int) 100=((y / 100:Nat):Int) from rfl,wr (by omega) (by omega)],xg (by omega)]
 simp only [bs]
 rw [aO (by simp [tw];omega)]
 simp only [bs]
 rw [xg hy]
 simp only [bs]
 rw [aO (by simp [tw];omega)]
 simp only [bs]
 rw [aO (by simp [tw];omega)]
 simp only [bs]
 rw [xg (by omega)]
 simp only [bs]
 rw [aO (by simp [tw];omega)]
 simp only [bs]
 rw [aO (by simp [tw];omega)]
 simp only [bs]
 rw [xg (by omega)]
 simp only [bs]
 rw [aO (by simp [tw];omega)]
 simp only [bs]
 rw [aO (by simp [tw];omega)]
 simp only [bs]
 rw [xg (by omega)]
 simp only [bs]
 rw [aO (by simp [tw];omega)]
 simp only [bs]
 rw [aO (by simp [tw];omega)]
 subst hW hM
 simp only [bs,rL,tw,List.append_assoc,List.cons_append,List.nil_append]
 rw [show (a+1) % 100=a+1 by omega,show y / 100 % 100=y / 100 by omega,show e / 3600 % 100=e / 3600 by omega,show e / 60 % 60 % 100=e / 60 % 60 by omega,show e % 60 % 100=e % 60 by omega]
theorem BP {w a m y e:Nat} (hw:w<7) (hm:m<12):(rL w a m y e).length=31:=by
 have:=vF hw
 have:=vG hm
 simp only [rL,List.length_append,List.length_cons,List.length_nil]
 omega
theorem Xj {w a m y e w2 a2 m2 y2 e2:Nat} (hw:w<7) (vT:w2<7) (hm:m<12) (hm2:m2<12) (ha:a<100) (Ui:a2<100) (hy:y≤9999) (aV:y2≤9999) (he:e<86400) (WC:e2<86400)
 (h:rL w a m y e=rL w2 a2 m2 y2 e2):a=a2∧m=m2∧y=y2∧e=e2:=by
 unfold rL at h
 obtain ⟨-,h⟩:=List.append_inj h (by rw [vF hw,vF vT])
 simp only [List.cons.injEq,true_and] at h
 obtain ⟨h1,h2,h⟩:=h
 obtain ⟨xJ,h⟩:=List.append_inj h (by rw [vG hm,vG hm2])
 simp only [List.cons.injEq,true_and,and_true] at h
 obtain ⟨h3,h4,h5,h6,h7,h8,h9,h10,h11,h12⟩:=h
 have:=iN (by omega) (by omega) h1
 have:=iN (by omega) (by omega) h2
 have:=iN (by omega) (by omega) h3
 have:=iN (by omega) (by omega) h4
 have:=iN (by omega) (by omega) h5
 have:=iN (by omega) (by omega) h6
 have:=iN (by omega) (by omega) h7
 have:=iN (by omega) (by omega) h8
 have:=iN (by omega) (by omega) h9
 have:=iN (by omega) (by omega) h10
 have:=iN (by omega) (by omega) h11
 have:=iN (by omega) (by omega) h12
 exact ⟨by omega,To hm hm2 xJ,by omega,by omega⟩
end Go.Proofs.bX
end
section
namespace Go.Am
open Go
def rM {α A ρ:Type} (step:A→α→Except ρ A):A→List α→Except ρ A
 |a,[]=> .ok a
 |a,x::r=>match step a x with
  | .ok a'=>rM step a' r
  | .error e=> .error e
theorem lp {α ρ τ σ A:Type} {s:List α} {body:σ→Option (St ρ τ σ)} {mk:A→Nat→σ} {step:A→α→Except ρ A} {tt:A→τ} (I:A→Nat→Prop)
 (h1:∀a i x,s[i]? =some x→I a i→match step a x with
  | .ok a'=>body (mk a i)=some (.cu (mk a' (i+1)))∧I a' (i+1)
  | .error r=>body (mk a i)=some (.ret r))
 (h3:∀a,I a s.length→body (mk a s.length)=some (.dU (tt a))) {F:Nat} {a:A} (hF:s.length<F) (h0:I a 0):
 iter body F (mk a 0)=some (match rM step a s with| .ok a'=> .inr (tt a')| .error r=> .inl r)∧∀a',rM step a s= .ok a'→I a' s.length:=by
 suffices h:∀(r:List α) (i F:Nat) (a:A),s.drop i=r→i+r.length=s.length→r.length<F→I a i→
  iter body F (mk a i)=some (match rM step a r with| .ok a'=> .inr (tt a')| .error r=> .inl r)∧∀a',rM step a r= .ok a'→I a' s.length from h s 0 F a rfl (by simp) hF h0
 intro r
 induction r with
 |nil=>
  intro i F a hd hl hF h0
  obtain ⟨G,rfl⟩:=cU hF
  have:i=s.length:=by simpa using hl
  subst this
  exact ⟨dc (h3 a h0),fun a' h=>by cases h;exact h0⟩
 |cons x r ih=>
  intro i F a hd hl hF h0
  obtain ⟨G,rfl⟩:=cU hF
  obtain ⟨hi,hx,hr⟩:=drop_cons hd
  simp only [List.length_cons] at hl hF
  have:=h1 a i x hx h0
  simp only [rM]
  cases hs:step a x with
  |ok a'=>
   rw [hs] at this
   rw [ck this.1]
   exact ih (i+1) G a' hr (by omega) (by omega) this.2
  |error e=>
   rw [hs] at this
   rw [fQ this]
   exact ⟨rfl,fun a' h=>by cases h⟩
theorem lpo {α ρ τ σ A:Type} {s:List α} {body:σ→Option (St ρ τ σ)} {mk:A→Nat→σ} {step:A→α→A} {tt:A→τ} (I:A→Nat→Prop)
 (h1:∀a i x,s[i]? =some x→I a i→body (mk a i)=some (.cu (mk (step a x) (i+1)))∧I (step a x) (i+1))
 (h3:∀a,I a s.length→body (mk a s.length)=some (.dU (tt a))) {F:Nat} {a:A} (hF:s.length<F) (h0:I a 0):
 iter body F (mk a 0)=some (.inr (tt (s.foldl step a)))∧I (s.foldl step a) s.length:=by
 have key:∀(r:List α) (a:A),rM (ρ:=ρ) (fun a x=> .ok (step a x)) a r= .ok (r.foldl step a):=by
  intro r
  induction r with
  |nil=>intro a;rfl
  |cons x r ih=>intro a;simp only [rM,List.foldl_cons];exact ih _
 have:=lp (s:=s) (body:=body) (mk:=mk) (step:=fun a x=> .ok (step a x)) (tt:=tt) I (fun a i x hx h=>h1 a i x hx h) h3 hF h0
 rw [key] at this
 exact ⟨this.1,this.2 _ rfl⟩
theorem abi {a b:Int} (h0:0≤a) (h1:a≤4000000000000000000) (h2:0≤b) (h3:b≤4000000000000000000):IntKind.wrap .i64 (a+b)=a+b:=wr (by omega) (by omega)
theorem MS {n:Nat} (h:n≤1000000000):IntKind.wrap .i64 ((n:Int)+1)=((n+1:Nat):Int):=by rw [wr (by omega) (by omega)];simp
theorem aaX {α ρ τ σ:Type} {s:List α} {body:σ→Option (St ρ τ σ)} {mk:Nat→σ} {p:α→Bool} {rr:Nat→ρ} {tt:τ}
 (h1:∀i x,s[i]? =some x→p x=true→body (mk i)=some (.cu (mk (i+1)))) (h2:∀i x,s[i]? =some x→p x=false→body (mk i)=some (.ret (rr i)))
 (h3:body (mk s.length)=some (.dU tt)) {F:Nat} (hF:s.length<F):
 (s.all p=true→iter body F (mk 0)=some (.inr tt))∧(s.all p=false→∃j,iter body F (mk 0)=some (.inl (rr j))):=by
 suffices h:∀(r:List α) (i F:Nat),s.drop i=r→i+r.length=s.length→r.length<F→
  (r.all p=true→iter body F (mk i)=some (.inr tt))∧(r.all p=false→∃j,iter body F (mk i)=some (.inl (rr j))) from h s 0 F rfl (by simp) hF
 intro r
 induction r with
 |nil=>
  intro i F hd hl hF
  obtain ⟨G,rfl⟩:=cU hF
  have:i=s.length:=by simpa using hl
  subst this
  exact ⟨fun _=>dc h3,fun h=>by simp at h⟩
 |cons x r ih=>
  intro i F hd hl hF
  obtain ⟨G,rfl⟩:=cU hF
  obtain ⟨hi,hx,hr⟩:=drop_cons hd
  simp only [List.length_cons] at hl hF
  cases hp:p x with
  |true=>
   rw [ck (h1 i x hx hp)]
   simp only [List.all_cons,hp,Bool.true_and]
   exact ih (i+1) G hr (by omega) (by omega)
  |false=>
   rw [fQ (h2 i x hx hp)]
   simp only [List.all_cons,hp,Bool.false_and]
   exact ⟨fun h=>by simp at h,fun _=>⟨i,rfl⟩⟩
end Go.Am
end
section
set_option maxRecDepth 100000
namespace Go.Proofs.bX
open Go Go.Am Go.Proofs
theorem Au {more:List UInt8}:∀ {x:List UInt8},(∀c∈x,c≠13)→cg nl (x++(nl++more))=some (x,more):=by
 intro x
 induction x with
 |nil=>intro _;rfl
 |cons c r ih=>
  intro h
  rw [List.cons_append,cg]
  rw [if_neg,ih fun d hd=>h d (List.mem_cons_of_mem _ hd)]
  · rfl
  · have:=h c (by simp)
    simp [List.isPrefixOf,Ne.symm this]
theorem MT {more:List UInt8}:∀ {x:List UInt8},(∀c∈x,c≠58)→cg [58] (x++([58]++more))=some (x,more):=by
 intro x
 induction x with
 |nil=>intro _;rfl
 |cons c r ih=>
  intro h
  rw [List.cons_append,cg]
  rw [if_neg,ih fun d hd=>h d (List.mem_cons_of_mem _ hd)]
  · rfl
  · have:=h c (by simp)
    simp [List.isPrefixOf,Ne.symm this]
theorem Z2 {c:UInt8} (h:good c=true):c≠13∧c≠58∧c≠32∧c≠9∧c≠10:=by
 refine ⟨?_, ?_, ?_, ?_, ?_⟩<;>(rintro rfl;revert h;decide)
theorem Av {y body:List UInt8}:whole (y++(nl++body))=y++(nl++whole body):=by
 by_cases hb:body=[]
 · subst hb
   have e:whole ([]:List UInt8)=[]:=by simp [whole]
   rw [e]
   unfold whole
   rw [if_pos]
   right
   exact List.isSuffixOf_iff_suffix.2 ⟨y,by simp⟩
 · have key:nl.isSuffixOf (y++(nl++body))=nl.isSuffixOf body:=by
    by_cases h2:2≤body.length
    · rw [Bool.eq_iff_iff, ←jb h2, ←jb (by simp;omega)]
      have:(y++(nl++body)).drop ((y++(nl++body)).length - 2)=body.drop (body.length - 2):=by
       rw [←List.append_assoc,List.drop_append,List.drop_eq_nil_of_le (by simp;omega)]
       simp only [List.nil_append]
       congr 1
       simp;omega
      rw [this]
    · obtain ⟨c,rfl⟩:∃c,body=[c]:=by
       cases body with
       |nil=>exact absurd rfl hb
       |cons c r=>cases r with
        |nil=>exact ⟨c,rfl⟩
        |cons d r=>simp at h2
      rw [not_suffix (b:=[c]) (by simp),Bool.eq_false_iff]
      intro h
      obtain ⟨u,hu⟩:=List.isSuffixOf_iff_suffix.1 h
      have h3:=congrArg List.reverse hu
      simp at h3
   unfold whole
   rw [key]
   by_cases h:nl.isSuffixOf body=true
   · rw [if_pos (.inr h),if_pos (.inr h)]
   · rw [if_neg (by simp [h]),if_neg (by simp [h,hb])];simp
end Go.Proofs.bX
end
section
set_option maxRecDepth 100000
namespace Go.Proofs.bX
open Go Go.Am Go.Proofs
theorem Z3:∀w<7,∀c∈wk w,c≠13:=by decide
theorem Z4:∀m<12,∀c∈mn m,c≠13:=by decide
theorem Z5 {n:Nat} (h:n<10):dg n≠13:=by
 have:∀n<10,dg n≠13:=by decide
 exact this n h
theorem J8 {w a m y e:Nat} (hw:w<7) (hm:m<12) (ha:a<100) (hy:y≤9999) (he:e<86400):∀c∈rL w a m y e,c≠13:=by
 intro c hc
 unfold rL at hc
 simp only [List.mem_append,List.mem_cons,List.mem_nil_iff,or_false] at hc
 have h0:(44:UInt8)≠13∧(32:UInt8)≠13∧(58:UInt8)≠13∧(43:UInt8)≠13∧(48:UInt8)≠13:=by decide
 rcases hc with hc|hc|hc|hc|hc|hc|hc|hc|hc|hc|hc|hc|hc|hc|hc|hc|hc|hc|hc|hc|hc|hc|hc|hc|hc|hc|hc
 all_goals first
  |exact Z3 w hw c hc
  |exact Z4 m hm c hc
  |(rw [hc];exact Z5 (by omega))
  |(rw [hc];first|exact h0.1|exact h0.2.1|exact h0.2.2.1|exact h0.2.2.2.1|exact h0.2.2.2.2)
theorem Xk (t:Int) {F:Nat} (hF:3000000<F):∃d,cx F t=some d∧d.length=31∧∀c∈d,c≠13:=by
 have e:min (max (min (max t 0) 253402300799) 0) 253402300799=min (max t 0) 253402300799:=by omega
 have h1:cx F t=cx F (min (max t 0) 253402300799):=by
  unfold cx
  rw [e]
 obtain ⟨n,hn⟩:∃n:Nat,min (max t 0) 253402300799=(n:Int):=⟨(min (max t 0) 253402300799).toNat,by omega⟩
 have hn2:n≤253402300799:=by omega
 obtain ⟨y,m,a,hc,h⟩:=J7 (F:=F) hn2 hF
 obtain ⟨hy,hm,ha⟩:=yH hc (by omega)
 refine ⟨_,by rw [h1,hn];exact h,BP (Nat.mod_lt _ (by decide)) hm,J8 (Nat.mod_lt _ (by decide)) hm (by omega) hy (Nat.mod_lt _ (by decide))⟩
def jg:List UInt8:=[82,101,99,101,105,118,101,100]
def here:List UInt8:=[104,101,114,101,46,101,120,97,109,112,108,101]
def l1 (fr dO id:List UInt8):List UInt8:=[32,102,114,111,109,32]++(fr++([32,98,121,32]++(dO++([32,119,105,116,104,32,83,77,84,80,32,105,100,32]++id))))
def l2 (p d:List UInt8):List UInt8:=[9,102,111,114,32]++(p++([59,32]++d))
theorem DX {fr dO id p d:List UInt8} {t:Int} {a:aE} {F:Nat} (hp:gq F a=some p) (hd:cx F t=some d)
 (h1:fr.length≤300) (h2:dO.length≤300) (h3:id.length≤100) (h4:p.length≤1000) (h5:d.length=31):gr F fr dO id t a=some ⟨jg,l1 fr dO id++(nl++l2 p d)⟩:=by
 unfold gr
 rw [aO (by simp;omega)];simp only [Option.bind_some]
 rw [aO (by simp;omega)];simp only [Option.bind_some]
 rw [aO (by simp;omega)];simp only [Option.bind_some]
 rw [aO (by simp;omega)];simp only [Option.bind_some]
 rw [aO (by simp;omega)];simp only [Option.bind_some]
 rw [aO (by simp;omega)];simp only [Option.bind_some]
 rw [aO (by simp;omega),hp];simp only [Option.bind_some]
 rw [aO (by simp;omega)];simp only [Option.bind_some]
 rw [aO (by simp;omega),hd];simp only [Option.bind_some]
 rw [aO (by simp;omega)]
 simp [l1,l2,jg]
theorem ext_cons {f:aG} {s:List aG} {x:List UInt8} (hs:s≠[]):ext (f::s) x=f::ext s x:=by
 unfold ext
 obtain ⟨k,hk⟩:∃k,s.length=k+1:=by
  cases s with
  |nil=>exact absurd rfl hs
  |cons g r=>exact ⟨r.length,rfl⟩
 have h1:(f::s)[(f::s).length - 1]? =s[s.length - 1]? :=by simp [hk]
 rw [h1]
 cases s[s.length - 1]? with
 |none=>rfl
 |some g=>simp [hk]
theorem F4 {f:aG} {s:List aG} {x:List UInt8} (hs:s≠[]):gX (f::s) x=gX s x:=by
 cases s with
 |nil=>exact absurd rfl hs
 |cons g r=>simp [gX]
theorem Tr {s:List aG} {x:List UInt8} (hs:s≠[]):ext s x≠[]:=by
 unfold ext;split
 · simpa using hs
 · exact hs
theorem I4 (f:aG):∀(n:Nat) (rest:List UInt8) (s:List aG),(s≠[]∨(rest.head?≠some 32∧rest.head?≠some 9))→
 iG n rest (f::s)=(f::(iG n rest s).1,(iG n rest s).2):=by
 intro n
 induction n with
 |zero=>intro rest s _;rfl
 |succ n ih=>
  intro rest s hs
  simp only [iG]
  cases hc:cg nl rest with
  |none=>rfl
  |some p=>
   obtain ⟨x,more⟩:=p
   have Ny:gX (f::s) x=gX s x:=by
    rcases hs with hs|⟨h1,h2⟩
    · exact F4 hs
    · have hx:x.head?=none∨x.head?=rest.head?:=by
       rw [Ao hc]
       cases x with
       |nil=>exact .inl rfl
       |cons c r=>exact .inr (by simp)
      unfold gX
      rcases hx with hx|hx
      · rw [hx];simp
      · rw [hx];simp [h1,h2]
   simp only [Ny]
   cases h:gX s x with
   |true=>
    simp only [if_true]
    have hs':s≠[]:=by
     rintro rfl;simp [gX] at h
    rw [ext_cons hs']
    exact ih _ _ (.inl (Tr hs'))
   |false=>
    simp only [Bool.false_eq_true,if_false]
    cases rJ x with
    |some g=>
     simp only
     rw [List.cons_append]
     exact ih _ _ (.inl (by simp))
    |none=>simp only;split<;>rfl
theorem MU:∀(n:Nat) (rest:List UInt8) (s:List aG),rest.length<n→iG (n+1) rest s=iG n rest s:=by
 intro n
 induction n with
 |zero=>intro rest s h;omega
 |succ n ih=>
  intro rest s h
  rw [iG]
  conv=>rhs;rw [iG]
  cases hc:cg nl rest with
  |none=>rfl
  |some p=>
   obtain ⟨x,more⟩:=p
   have hl:=congrArg List.length (Ao hc)
   simp at hl
   simp only
   rw [ih _ _ (by omega)]
   cases rJ x with
   |none=>rfl
   |some g=>simp only;rw [ih _ _ (by omega)]
theorem QF {n m:Nat} {rest:List UInt8} {s:List aG} (h1:rest.length<n) (h2:n≤m):iG m rest s=iG n rest s:=by
 induction m with
 |zero=>omega
 |succ m ih=>
  rcases Nat.eq_or_lt_of_le h2 with h|h
  · rw [h]
  · rw [MU m rest s (by omega),ih (by omega)]
theorem MV {fr dO id:List UInt8}:rJ (jg++([58]++l1 fr dO id))=some ⟨jg,l1 fr dO id⟩:=by
 unfold rJ
 rw [MT (by decide)]
 rfl
theorem DY {fr dO id p d b:List UInt8} (h1:∀c∈fr,c≠13) (h2:∀c∈dO,c≠13) (h3:∀c∈id,c≠13) (h4:∀c∈p,c≠13) (h5:∀c∈d,c≠13) (hb:b.head?≠some 32∧b.head?≠some 9):
 tf (jg++([58]++(l1 fr dO id++(nl++(l2 p d++(nl++b))))))=(⟨jg,l1 fr dO id++(nl++l2 p d)⟩::(tf b).1,(tf b).2):=by
 have e:jg++([58]++(l1 fr dO id++(nl++(l2 p d++(nl++b)))))=(jg++([58]++(l1 fr dO id++(nl++l2 p d))))++(nl++b):=by simp
 have e2:whole (jg++([58]++(l1 fr dO id++(nl++(l2 p d++(nl++b))))))=(jg++([58]++l1 fr dO id))++(nl++(l2 p d++(nl++whole b))):=by
  rw [e,Av];simp
 have g1:cg nl ((jg++([58]++l1 fr dO id))++(nl++(l2 p d++(nl++whole b))))=some (jg++([58]++l1 fr dO id),l2 p d++(nl++whole b)):=by
  refine Au fun c hc=> ?_
  unfold l1 jg at hc
  simp only [List.mem_append] at hc
  rcases hc with hc|hc|hc|hc|hc|hc|hc|hc
  · revert c;decide
  · revert c;decide
  · revert c;decide
  · exact h1 c hc
  · revert c;decide
  · exact h2 c hc
  · revert c;decide
  · exact h3 c hc
 have g2:cg nl (l2 p d++(nl++whole b))=some (l2 p d,whole b):=by
  refine Au fun c hc=> ?_
  unfold l2 at hc
  simp only [List.mem_append] at hc
  rcases hc with hc|hc|hc|hc
  · revert c;decide
  · exact h4 c hc
  · revert c;decide
  · exact h5 c hc
 unfold tf
 rw [e2]
 obtain ⟨n,hn⟩:∃n,((jg++([58]++l1 fr dO id))++(nl++(l2 p d++(nl++whole b)))).length+1=n+1+1∧(whole b).length<n:=by
  refine ⟨((jg++([58]++l1 fr dO id))++(nl++(l2 p d++(nl++whole b)))).length - 1, ?_, ?_⟩<;>(simp [jg,l1,l2];try omega)
 rw [hn.1]
 have s1:iG (n+1+1) ((jg++([58]++l1 fr dO id))++(nl++(l2 p d++(nl++whole b)))) []=iG (n+1) (l2 p d++(nl++whole b)) [⟨jg,l1 fr dO id⟩]:=by
  rw [iG,g1]
  simp only
  rw [MV]
  rfl
 have s2:iG (n+1) (l2 p d++(nl++whole b)) [⟨jg,l1 fr dO id⟩]=iG n (whole b) [⟨jg,l1 fr dO id++(nl++l2 p d)⟩]:=by
  rw [iG,g2]
  rfl
 rw [s1,s2]
 have hw:(whole b).head?≠some 32∧(whole b).head?≠some 9:=by
  unfold whole
  split
  · exact hb
  · rename_i h
    cases b with
    |nil=>simp at h
    |cons c r=>simpa using hb
 rw [I4 _ _ _ _ (.inr hw),QF (n:=(whole b).length+1) (by omega) (by omega)]
theorem Ts (name:List UInt8):∀(l:List aG) (v w:List UInt8) (n m:Nat),(l.foldl (sK name) (v,n+m)).2=n+(l.foldl (sK name) (w,m)).2:=by
 intro l
 induction l with
 |nil=>intro v w n m;rfl
 |cons f r ih=>
  intro v w n m
  simp only [List.foldl_cons]
  by_cases h:f.name.map low=name.map low
  · have g1:∀p,sK name p f=(if p.2=0 then f.value else p.1,p.2+1):=fun p=>by unfold sK;rw [if_pos h]
    rw [g1,g1]
    exact ih _ _ n (m+1)
  · have g1:∀p,sK name p f=p:=fun p=>by unfold sK;rw [if_neg h]
    rw [g1,g1]
    exact ih v w n m
theorem Z6:∀(n:Nat) (rest:List UInt8) (s:List aG),(iG n rest s).1.length≤s.length+rest.length:=by
 intro n
 induction n with
 |zero=>intro rest s;simp [iG]
 |succ n ih=>
  intro rest s
  rw [iG]
  cases hc:cg nl rest with
  |none=>simp
  |some p=>
   obtain ⟨x,more⟩:=p
   have hl:=congrArg List.length (Ao hc)
   simp at hl
   simp only
   have he:(ext s x).length=s.length:=by unfold ext;split<;>simp
   split
   · have:=ih more (ext s x);omega
   · split
     · rename_i f _
       have:=ih more (s++[f]);simp at this;omega
     · split<;>simp
theorem Tt:∀(n:Nat) (rest:List UInt8) (s:List aG),Ends rest→Bd rest s→(iG n rest s).1.length≤20000∧∀f∈(iG n rest s).1,f.name.length≤76:=by
 intro n
 induction n with
 |zero=>
  intro rest s he hb
  exact ⟨by simp only [iG];have:=hb.1;omega,fun f hf=>(hb.2 f hf).2⟩
 |succ n ih=>
  intro rest s he hb
  have h0:s.length≤20000∧∀f∈s,f.name.length≤76:=⟨by have:=hb.1;omega,fun f hf=>(hb.2 f hf).2⟩
  rw [iG]
  by_cases hr:rest=[]
  · subst hr;exact h0
  · obtain ⟨x,more,hc,hr2,WC⟩:=F1 he hr
    rw [hc]
    simp only
    split
    · exact ih _ _ WC (hb.ext hr2)
    · split
      · rename_i f hf
        exact ih _ _ WC (hb.app hr2 hf)
      · split<;>exact h0
theorem Z7 {b:List UInt8} (hb:b.length≤19000):(tf b).1.length≤20000∧∀f∈(tf b).1,f.name.length≤76:=by
 have hw:=Ap b
 exact Tt _ _ _ (xD b) ⟨by simp;omega,by simp⟩
theorem QG (n:Nat):k9 (n+100)=some true:=by kernel_rfl
def Aw (s:List UInt8):Bool:=s.all fun c=> !(decide (c=13)||decide (c=10))
theorem DZ {s:List UInt8} (h:Aw s=true):∀c∈s,c≠13:=by
 intro c hc
 have:=List.all_eq_true.1 h c hc
 rintro rfl;simp at this
end Go.Proofs.bX
end
section
set_option maxRecDepth 100000
namespace Go.Proofs.bX
open Go Go.Am Go.Proofs
theorem Tu {b:List UInt8} (hb:b.length≤20000):kK b nl=some (nl.isSuffixOf b):=by
 unfold kK jG
 by_cases h:2≤b.length
 · rw [if_pos (by simp;omega)]
   have e:IntKind.wrap .i64 ((b.length:Int) - ((nl:List UInt8).length:Int))=((b.length - 2:Nat):Int):=by rw [wr (by simp;omega) (by simp;omega)];simp;omega
   rw [e,vD (by omega)]
   simp only [Option.bind_some]
   congr 1
   by_cases h2:b.drop (b.length - 2)=nl
   · rw [(jb h).1 h2];simpa using h2
   · have:nl.isSuffixOf b=false:=by rw [Bool.eq_false_iff];exact fun h3=>h2 ((jb h).2 h3)
     rw [this];simpa using h2
 · rw [if_neg (by simp;omega),not_suffix (by omega)];rfl
theorem QH {b:List UInt8} (hb:b.length≤19000):jH b=some (whole b):=by
 have hp:fJ b=some (decide (b=[]∨nl.isSuffixOf b=true)):=by
  unfold fJ
  by_cases h:b=[]
  · subst h;rfl
  · have h2:¬(b.length:Int)=0:=by have:=List.length_pos_iff.2 h;omega
    rw [if_neg (by simpa using h2),Tu (by omega)]
    simp only [Option.bind_some,h,false_or,Bool.decide_eq_true]
 unfold jH
 rw [hp]
 simp only [Option.bind_some]
 unfold whole
 by_cases h:b=[]∨nl.isSuffixOf b=true
 · rw [if_pos (by simpa using h),if_pos h,cA (by simp;omega) (by omega)];simp
 · rw [if_neg (by simpa using h),if_neg h,cA (by simp;omega) (by omega)]
   simp only [Option.bind_some]
   rw [cA (by simp;omega) (by omega)];simp
end Go.Proofs.bX
end
section
set_option maxRecDepth 100000
namespace Go.Proofs.bX
open Go Go.Am Go.Proofs
def line (f:aG):List UInt8:=f.name++([58]++(f.value++nl))
def rN (f:aG):List UInt8:=if s7 f.name=true then line f else []
def rO:List aG→List UInt8
 |[]=>[]
 |f::r=>rN f++rO r
theorem F5:∀(l:List aG) (a:List UInt8),l.foldl (fun a f=>a++rN f) a=a++rO l:=by
 intro l
 induction l with
 |nil=>intro a;simp [rO]
 |cons f r ih=>intro a;simp only [List.foldl_cons,ih,rO,List.append_assoc]
def vH (l:List aG):Nat:=(l.map (·.value.length)).sum
theorem Tv {s:List UInt8} (h:s7 s=true):s.length≤76:=by
 unfold s7 at h;simp at h;exact h.1.2
theorem BQ (f:aG):(rN f).length≤79+f.value.length:=by
 unfold rN
 split
 · rename_i h;have:=Tv h;simp [line];omega
 · simp
theorem MW:∀l:List aG,(rO l).length≤79*l.length+vH l:=by
 intro l
 induction l with
 |nil=>simp [rO,vH]
 |cons f r ih=>
  have:=BQ f
  simp only [rO,List.length_append,List.length_cons,vH,List.map_cons,List.sum_cons] at ih ⊢
  omega
theorem MX {l:List aG} {i:Nat} {f:aG} (h:l[i]? =some f):f.value.length≤vH l:=by
 have key:∀l:List aG,f∈l→f.value.length≤vH l:=by
  intro l
  induction l with
  |nil=>intro h;cases h
  |cons g r ih=>
   intro h
   simp only [vH,List.map_cons,List.sum_cons] at ih ⊢
   rcases List.mem_cons.1 h with rfl|h
   · omega
   · have:=ih h;omega
 exact key l (List.mem_of_getElem? h)
theorem I5 {l:List aG} {F:Nat} (hl:l.length≤60) (hv:vH l≤4096) (hn:∀f∈l,f.name.length≤200) (hF:300<F):iter (eK F l) F ([],0)=some (.inr (rO l)):=by
 have hh:=lpo (ρ:=List UInt8) (s:=l) (body:=eK F l) (mk:=fun (a:List UInt8) i=>(a,(i:Int))) (tt:=fun a=>a) (step:=fun a f=>a++rN f)
  (fun a i=>a.length≤4200*i) ?_ ?_ (F:=F) (a:=[]) (by omega) (by simp)
 · rw [show (([]:List UInt8),(0:Int))=(([]:List UInt8),((0:Nat):Int)) from rfl,hh.1,F5];simp
 · intro a i f hx hI
   have hi:i<l.length:=(List.getElem?_eq_some_iff.1 hx).1
   have hv1:=MX hx
   have XA:=hn f (List.mem_of_getElem? hx)
   have he:=BQ f
   refine ⟨?_,by simp;omega⟩
   simp only [eK]
   rw [if_pos (by simpa using hi),bF hx]
   simp only [Option.bind_some]
   rw [J4 (by omega) (by omega)]
   simp only [Option.bind_some]
   unfold rN
   by_cases h:s7 f.name=true
   · rw [if_pos h,if_pos h,aO (by simp;omega)]
     simp only [Option.bind_some]
     rw [aO (by simp;omega)]
     simp only [Option.bind_some]
     rw [aO (by simp;omega)]
     simp only [Option.bind_some]
     rw [cA (by simp;omega) (by omega)]
     simp only [Option.bind_some]
     rw [MS (by omega)]
     simp [line]
   · rw [if_neg h,if_neg h,MS (by omega)];simp
 · intro a hI
   simp only [eK]
   rw [if_neg (by simp)]
theorem WD {a b c:List UInt8} {F:Nat} (h:a.length+b.length+c.length≤100000) (hF:3<F):dn F [a,b,c]=some (a++(b++c)):=by
 have h1:=lpo (ρ:=List UInt8) (s:=[a,b,c]) (body:=bp [a,b,c]) (mk:=fun (n:Nat) i=>((n:Int),(i:Int))) (tt:=fun n=>(n:Int)) (step:=fun n x=>n+x.length)
  (fun n i=>n≤100000*i) ?_ ?_ (F:=F) (a:=0) (by simpa using hF) (by simp)
 · have h2:=lpo (ρ:=List UInt8) (s:=[a,b,c]) (body:=br [a,b,c]) (mk:=fun (n:List UInt8) i=>(n,(i:Int))) (tt:=fun n=>n) (step:=fun n x=>n++x)
    (fun n i=>n.length≤100000*i) ?_ ?_ (F:=F) (a:=[]) (by simpa using hF) (by simp)
   · unfold dn
     rw [show ((0:Int),(0:Int))=(((0:Nat):Int),((0:Nat):Int)) from rfl,h1.1]
     simp only [Option.bind_some,List.foldl_cons,List.foldl_nil]
     rw [F2 (by omega) (by omega)]
     simp only [Option.bind_some]
     rw [show (([]:List UInt8),(0:Int))=(([]:List UInt8),((0:Nat):Int)) from rfl,h2.1]
     simp
   · intro n i x hx hI
     have hi:=(List.getElem?_eq_some_iff.1 hx).1
     have hx2:x.length≤100000:=by
      have:=List.mem_of_getElem? hx
      simp at this;rcases this with rfl|rfl|rfl<;>omega
     simp only [List.length_cons,List.length_nil] at hi
     refine ⟨?_,by simp;omega⟩
     simp only [br]
     rw [if_pos (by simp;omega),bF hx]
     simp only [Option.bind_some]
     rw [cA (by omega) (by omega)]
     simp only [Option.bind_some]
     rw [MS (by omega)]
   · intro n hI
     simp only [br]
     rw [if_neg (by simp)]
 · intro n i x hx hI
   have hi:=(List.getElem?_eq_some_iff.1 hx).1
   have hx2:x.length≤100000:=by
    have:=List.mem_of_getElem? hx
    simp at this;rcases this with rfl|rfl|rfl<;>omega
   simp only [List.length_cons,List.length_nil] at hi
   refine ⟨?_,by omega⟩
   simp only [bp]
   rw [if_pos (by simp;omega),bF hx]
   simp only [Option.bind_some]
   rw [wr (by omega) (by omega),if_neg (by simp;omega),MS (by omega)]
   simp
 · intro n hI
   simp only [bp]
   rw [if_neg (by simp)]
theorem Tw {l:List aG} {body:List UInt8} {F:Nat} (hl:l.length≤60) (hv:vH l≤4096) (hn:∀f∈l,f.name.length≤200) (hb:body.length≤4096) (hF:300<F):mG F l body=some (rO l++(nl++body)):=by
 have he:=MW l
 unfold mG
 rw [I5 hl hv hn hF]
 simp only [Option.bind_some]
 rw [WD (by simp;omega) (by omega)]
 rfl
end Go.Proofs.bX
end
section
set_option maxRecDepth 100000
namespace Go.Proofs.bX
open Go Go.Am Go.Proofs
def D0 (c:UInt8):Bool:=(decide (65≤c)&&decide (c≤90))||(decide (97≤c)&&decide (c≤122))
def p9 (c:UInt8):Bool:=decide (48≤c)&&decide (c≤57)
def xh (c:UInt8):Bool:=D0 c||p9 c||c==45
theorem Xl (c:UInt8):gL c=some (D0 c||p9 c):=by
 have:=iM (p:=fun c=>decide (gL c=some (D0 c||p9 c))) (by kernel_rfl) c
 simpa using this
theorem F6 (c:UInt8):iy c=some (xh c):=by
 have:=iM (p:=fun c=>decide (iy c=some (xh c))) (by kernel_rfl) c
 simpa using this
theorem BR (c:UInt8):fN c=some (D0 c):=by
 have:=iM (p:=fun c=>decide (fN c=some (D0 c))) (by kernel_rfl) c
 simpa using this
theorem Ax (c:UInt8):fz c=some (p9 c):=by
 have:=iM (p:=fun c=>decide (fz c=some (p9 c))) (by kernel_rfl) c
 simpa using this
def aJ:List UInt8→List (List UInt8)
 |[]=>[[]]
 |c::r=>if c=46 then []::aJ r else match aJ r with|[]=>[[c]]|h::t=>(c::h)::t
theorem eL:∀s,aJ s≠[]
 |[]=>by simp [aJ]
 |c::r=>by
  unfold aJ
  split
  · simp
  · split<;>simp
theorem I6 (r:List UInt8):Lib.split (46::r) [46]=[]::Lib.split r [46]:=by
 have hi:Lib.index (46::r) [46]=((0:Nat):Int):=by unfold Lib.index;rw [if_pos (by simp [List.isPrefixOf])];rfl
 have hc:=Lib.count_hit (by simp) hi
 unfold Lib.split
 rw [hc,Nat.add_comm]
 simp only [Lib.splitK,hi]
 rfl
theorem F7 {c:UInt8} (hc:c≠46) (r:List UInt8):Lib.split (c::r) [46]=match Lib.split r [46] with|[]=>[[c]]|h::t=>(c::h)::t:=by
 have hp:([46]:List UInt8).isPrefixOf (c::r)=false:=by simp [List.isPrefixOf];exact fun h=>hc h.symm
 have hi:Lib.index (c::r) [46]=if Lib.index r [46]== -1 then -1 else Lib.index r [46]+1:=by
  conv=>lhs;unfold Lib.index
  rw [if_neg (by rw [hp];simp)]
 rcases Lib.index_spec r [46] with ⟨h, -⟩|⟨i,h, -, -, -⟩
 · rw [h] at hi
   unfold Lib.split
   rw [Lib.count_miss h,Lib.count_miss hi]
   rfl
 · have hne:(((i:Nat):Int)== -1)=false:=by rw [beq_eq_false_iff_ne];omega
   rw [h,hne] at hi
   have hi':Lib.index (c::r) [46]=((i+1:Nat):Int):=by rw [hi];simp
   unfold Lib.split
   rw [Lib.count_hit (by simp) h,Lib.count_hit (by simp) hi',Nat.add_comm 1,Nat.add_comm 1]
   have qM:(((i+1:Nat):Int)== -1)=false:=by rw [beq_eq_false_iff_ne];omega
   simp only [Lib.splitK,h,hi',hne,qM,Bool.false_eq_true,if_false,Int.toNat_natCast,Nat.add_zero,List.take_succ_cons,List.length_cons,List.length_nil,Nat.zero_add,List.drop_succ_cons]
theorem xj:∀s:List UInt8,Lib.split s [46]=aJ s
 |[]=>by rfl
 |c::r=>by
  by_cases hc:c=46
  · subst hc;rw [I6,xj r];simp [aJ]
  · rw [F7 hc,xj r];simp only [aJ,if_neg hc]
theorem kL (s:List UInt8):∀p∈aJ s,p.length≤s.length:=by
 induction s with
 |nil=>simp [aJ]
 |cons c r ih=>
  unfold aJ
  split
  · intro p hp
    rcases List.mem_cons.1 hp with rfl|hp
    · simp
    · have:=ih p hp;simp;omega
  · cases hs:aJ r with
    |nil=>exact absurd hs (eL r)
    |cons h t=>
     simp only
     intro p hp
     rcases List.mem_cons.1 hp with rfl|hp
     · have:=ih h (by rw [hs];simp);simp;omega
     · have:=ih p (by rw [hs];simp [hp]);simp;omega
theorem rZ (s:List UInt8):(aJ s).length≤s.length+1:=by
 induction s with
 |nil=>simp [aJ]
 |cons c r ih=>
  unfold aJ
  split
  · simp;omega
  · cases hs:aJ r with
    |nil=>exact absurd hs (eL r)
    |cons h t=>rw [hs] at ih;simp at ih ⊢;omega
theorem F8 {p:List UInt8} (hp:∀c∈p,c≠46) (r:List UInt8):aJ (p++46::r)=p::aJ r:=by
 induction p with
 |nil=>simp [aJ]
 |cons c p ih=>
  simp only [List.cons_append,aJ,if_neg (hp c (by simp)),ih fun x hx=>hp x (by simp [hx])]
theorem F9 {p:List UInt8} (hp:∀c∈p,c≠46):aJ p=[p]:=by
 induction p with
 |nil=>simp [aJ]
 |cons c p ih=>
  simp only [aJ,if_neg (hp c (by simp)),ih fun x hx=>hp x (by simp [hx])]
def QI:List (List UInt8):=(List.range 256).map fun n:Nat=>Lib.itoa (n:Int)
def gB (s:List UInt8):Bool:=QI.contains s
theorem Ga:(List.range 256).all (fun n:Nat=>decide (gK (Lib.itoa (n:Int))=some true))=true:=by kernel_rfl
theorem MY:QI.all (fun s=>decide (s.length≤3∧s.all p9=true∧s≠[]∧(s.head?=some 48→s.length≤1)))=true:=by kernel_rfl
theorem sg {s:List UInt8}:gB s=true↔∃n:Nat,n<256∧Lib.itoa (n:Int)=s:=by
 simp [gB,QI]
theorem qa {s:List UInt8} (h:gB s=true):s.length≤3∧s.all p9=true∧s≠[]∧(s.head?=some 48→s.length≤1):=by
 have:=List.all_eq_true.1 MY s (by simpa [gB] using h)
 exact of_decide_eq_true this
def Gb (s:List UInt8):Nat:=s.foldl (fun a c=>10*a+(c.toNat - 48)) 0
theorem MZ:(List.range 256).all (fun n:Nat=>decide (Gb (Lib.itoa (n:Int))=n))=true:=by kernel_rfl
def xE (s:List UInt8):Bool:=decide (Gb s<256)&&decide (Lib.itoa (Gb s:Int)=s)
theorem Tx (s:List UInt8):gB s=xE s:=by
 cases h:gB s with
 |true=>
  obtain ⟨n,hn,rfl⟩:=sg.1 h
  have hv:Gb (Lib.itoa (n:Int))=n:=of_decide_eq_true (List.all_eq_true.1 MZ n (by simpa using hn))
  unfold xE
  rw [hv]
  simp [hn]
 |false=>
  cases h':xE s with
  |false=>rfl
  |true=>
   simp only [xE,Bool.and_eq_true,decide_eq_true_eq] at h'
   rw [sg.2 ⟨Gb s,h'.1,h'.2⟩] at h;cases h
theorem I7 {s:List UInt8} (hs:s.length≤100000):gK s=some (gB s):=by
 cases hn:gB s with
 |true=>
  obtain ⟨n,hlt,rfl⟩:=sg.1 hn
  have:=List.all_eq_true.1 Ga n (by simpa using hlt)
  simpa using this
 |false=>
  unfold gK strconv_Atoi
  rw [if_pos (by omega)]
  rcases xM:Lib.atoiAll s with v|_|_
  · simp only [Option.bind_some,eB,Bool.not_false,if_true,decide_eq_true_eq]
    by_cases h0:0≤v
    · by_cases h1:v≤255
      · rw [if_pos h0,if_pos h1]
        unfold strconv_Itoa
        rw [if_pos (by omega)]
        simp only [Option.bind_some,Option.some.injEq,decide_eq_false_iff_not]
        intro he
        have:gB s=true:=sg.2 ⟨v.toNat,by omega,by rw [←he];congr 1;omega⟩
        rw [hn] at this;cases this
      · rw [if_pos h0,if_neg h1];rfl
    · rw [if_neg h0];rfl
  · simp [eB]
  · simp [eB]
end Go.Proofs.bX
end
section
set_option maxRecDepth 100000
namespace Go.Proofs.bX
open Go Go.Am Go.Proofs
def jI (s:List UInt8):Bool:=s !=[]&&s.head? !=some 45&&s.getLast? !=some 45&&s.all xh
def oy (s:List UInt8):Bool:=decide (1<s.length)&&s.head?==some 91&&s.getLast?==some 93
def inner (s:List UInt8):List UInt8:=(s.drop 1).dropLast
def jJ (s:List UInt8):Bool:=if oy s then decide ((aJ (inner s)).length=4)&&(aJ (inner s)).all gB else (aJ s).all jI
def jc (s:List UInt8):Bool:=decide (s.length≤255)&&jJ s&&(aJ s).all fun p=>decide (p.length≤63)
theorem vI (c:UInt8) (r:List UInt8):∃x,(c::r).getLast?=some x:=by
 cases h:(c::r).getLast? with
 |none=>simp at h
 |some x=>exact ⟨x,rfl⟩
theorem si {s:List UInt8} {x:UInt8} (h:s.getLast?=some x) (hl:s.length≤1000000):idx s (IntKind.wrap .i64 ((s.length:Int) - 1))=some x:=by
 have hp:0<s.length:=by cases s with|nil=>simp at h|cons=>simp
 rw [wr (by omega) (by omega),show (s.length:Int) - 1=((s.length - 1:Nat):Int) by omega,Al, ←List.getLast?_eq_getElem?,h]
theorem QJ {s:List UInt8} {F:Nat} (hl:s.length≤1000000) (hF:s.length<F):gj F s=some (s.all xh):=by
 unfold gj
 have hh:=scan (s:=s) (body:=cL s) (mk:=fun i=>(false,(i:Int))) (p:=xh) (rr:=fun _=>false) (tt:=()) ?_ ?_ ?_ hF
 · cases ha:s.all xh with
   |true=>have:=hh.1 ha;rw [show ((0:Nat):Int)=0 from rfl] at this;rw [this];rfl
   |false=>obtain ⟨j,hj⟩:=hh.2 ha;rw [show ((0:Nat):Int)=0 from rfl] at hj;rw [hj];rfl
 · intro i x hx hp
   have hi:=(List.getElem?_eq_some_iff.1 hx).1
   simp only [cL]
   rw [if_pos (by simpa using hi),bF hx,Option.bind_some,F6,Option.bind_some,hp,wi (by omega)];rfl
 · intro i x hx hp
   have hi:=(List.getElem?_eq_some_iff.1 hx).1
   simp only [cL]
   rw [if_pos (by simpa using hi),bF hx,Option.bind_some,F6,Option.bind_some,hp];rfl
 · simp [cL]
theorem QK {s:List UInt8} {F:Nat} (hl:s.length≤1000000) (hF:s.length<F):kF F s=some (jI s):=by
 unfold kF jo jI
 cases s with
 |nil=>simp
 |cons c r=>
  obtain ⟨x,hx⟩:∃x,(c::r).getLast?=some x:=vI c r
  rw [si hx hl,QJ hl hF,hx]
  have h0:idx (c::r) 0=some c:=by simp [idx]
  rw [h0]
  by_cases h1:c=45
  · simp [h1]
  · by_cases h2:x=45
    · simp [h1,h2]
    · simp [h1,h2]
theorem BS {x:List UInt8} (hx:x.length≤100000):gi x=some (!gB x):=by simp [gi,I7 hx]
theorem BT {F:Nat} {x:List UInt8} (hx:x.length≤100000) (hF:x.length<F):gl F x=some (!jI x):=by simp [gl,QK (by omega:x.length≤1000000) hF]
theorem Gc {l:List (List UInt8)} {F:Nat} (hl:l.length≤1000000) (hF:l.length<F) (hx:∀x∈l,x.length≤100000):cK F l=some (!l.all gB):=by
 unfold cK eO
 have hh:=scan (s:=l) (body:=b7 l) (mk:=fun i=>(0,(i:Int))) (p:=gB) (rr:=fun i=>(i:Int)) (tt:=()) ?_ ?_ ?_ hF
 · cases ha:l.all gB with
   |true=>have:=hh.1 ha;rw [show ((0:Nat):Int)=0 from rfl] at this;rw [this];rfl
   |false=>obtain ⟨j,hj⟩:=hh.2 ha;rw [show ((0:Nat):Int)=0 from rfl] at hj;rw [hj];simp
 · intro i x hx' hp
   have hi:=(List.getElem?_eq_some_iff.1 hx').1
   simp only [b7]
   rw [if_pos (by simpa using hi),bF hx',Option.bind_some,BS (hx x (List.mem_of_getElem? hx')),Option.bind_some,hp,wi (by omega)];rfl
 · intro i x hx' hp
   have hi:=(List.getElem?_eq_some_iff.1 hx').1
   simp only [b7]
   rw [if_pos (by simpa using hi),bF hx',Option.bind_some,BS (hx x (List.mem_of_getElem? hx')),Option.bind_some,hp];rfl
 · simp [b7]
theorem Gd {l:List (List UInt8)} {F:Nat} (hl:l.length≤1000000) (hF:l.length<F) (hx:∀x∈l,x.length≤100000∧x.length<F):cE F l=some (!l.all jI):=by
 unfold cE eD
 have hh:=scan (s:=l) (body:=bV F l) (mk:=fun i=>(0,(i:Int))) (p:=jI) (rr:=fun i=>(i:Int)) (tt:=()) ?_ ?_ ?_ hF
 · cases ha:l.all jI with
   |true=>have:=hh.1 ha;rw [show ((0:Nat):Int)=0 from rfl] at this;rw [this];rfl
   |false=>obtain ⟨j,hj⟩:=hh.2 ha;rw [show ((0:Nat):Int)=0 from rfl] at hj;rw [hj];simp
 · intro i x hx' hp
   have hi:=(List.getElem?_eq_some_iff.1 hx').1
   obtain ⟨ha,hb⟩:=hx x (List.mem_of_getElem? hx')
   simp only [bV]
   rw [if_pos (by simpa using hi),bF hx',Option.bind_some,BT ha hb,Option.bind_some,hp,wi (by omega)];rfl
 · intro i x hx' hp
   have hi:=(List.getElem?_eq_some_iff.1 hx').1
   obtain ⟨ha,hb⟩:=hx x (List.mem_of_getElem? hx')
   simp only [bV]
   rw [if_pos (by simpa using hi),bF hx',Option.bind_some,BT ha hb,Option.bind_some,hp];rfl
 · simp [bV]
theorem Ge {l:List (List UInt8)} {F:Nat} (hl:l.length≤1000000) (hF:l.length<F):cz F l=some (!l.all fun p=>decide (p.length≤63)):=by
 unfold cz eu
 have hh:=scan (s:=l) (body:=bT l) (mk:=fun i=>(0,(i:Int))) (p:=fun p=>decide (p.length≤63)) (rr:=fun i=>(i:Int)) (tt:=()) ?_ ?_ ?_ hF
 · cases ha:l.all fun p=>decide (p.length≤63) with
   |true=>have:=hh.1 ha;rw [show ((0:Nat):Int)=0 from rfl] at this;rw [this];rfl
   |false=>obtain ⟨j,hj⟩:=hh.2 ha;rw [show ((0:Nat):Int)=0 from rfl] at hj;rw [hj];simp
 · intro i x hx' hp
   have hi:=(List.getElem?_eq_some_iff.1 hx').1
   simp only [bT]
   rw [if_pos (by simpa using hi),bF hx',Option.bind_some,gp,Option.bind_some,if_neg (by simp at hp ⊢;omega),wi (by omega)]
 · intro i x hx' hp
   have hi:=(List.getElem?_eq_some_iff.1 hx').1
   simp only [bT]
   rw [if_pos (by simpa using hi),bF hx',Option.bind_some,gp,Option.bind_some,if_pos (by simp at hp ⊢;omega)]
 · simp [bT]
theorem n5 {s:List UInt8} (h:s.length≤1000000):strings_Split s [46]=some (aJ s):=by
 unfold strings_Split;rw [if_pos (by simp;omega),xj]
theorem I8 {s:List UInt8} {F:Nat} (hl:s.length≤99000) (hF:s.length+1<F):jr F s=some (jJ s):=by
 have F3:fC s=some (oy s):=by
  unfold fC oy
  by_cases h1:1<s.length
  · cases s with
    |nil=>simp at h1
    |cons c r=>
     obtain ⟨x,hx⟩:∃x,(c::r).getLast?=some x:=vI c r
     rw [if_pos (by simp at h1 ⊢;omega),si hx (by omega),hx,show idx (c::r) 0=some c by simp [idx]]
     rw [decide_eq_true h1]
     by_cases h2:c=91
     · simp [h2];rfl
     · simp [h2]
  · rw [if_neg (by simp;omega)];simp [h1]
 unfold jr jJ
 rw [F3,Option.bind_some]
 cases hi:oy s with
 |true=>
  have h1:1<s.length:=by simp [oy] at hi;omega
  simp only [if_true]
  rw [wr (by omega) (by omega)]
  have hsub:sub s 1 ((s.length:Int) - 1)=some (inner s):=by
   rw [show (1:Int)=((1:Nat):Int) from rfl,show (s.length:Int) - ((1:Nat):Int)=((s.length - 1:Nat):Int) by omega,nZ (by omega) (by omega)]
   congr 1
   unfold inner
   rw [List.dropLast_eq_take,List.length_drop,List.drop_take]
  have hil:(inner s).length+2=s.length:=by simp [inner];omega
  rw [hsub,Option.bind_some,n5 (by omega),Option.bind_some]
  unfold iH
  have hn:=rZ (inner s)
  by_cases h4:(aJ (inner s)).length=4
  · rw [if_pos (by simpa using by omega),Gc (by omega) (by omega) fun x hx=>by have:=kL _ x hx;omega]
    simp [h4]
  · rw [if_neg (by simpa using by omega)]
    simp [h4]
 |false=>
  have hn:=rZ s
  simp only [Bool.false_eq_true,if_false]
  rw [n5 (by omega),Option.bind_some,Gd (by omega) (by omega) fun x hx=>by have:=kL _ x hx;omega]
  simp
theorem WI {s:List UInt8} {F:Nat} (hl:s.length≤99000) (hF:s.length+1<F):js F s=some (jc s):=by
 unfold js iI jc
 by_cases h:s.length≤255
 · rw [if_pos (by simpa using by omega),I8 hl hF]
   have hn:=rZ s
   cases jJ s with
   |true=>simp only [Option.bind_some,if_true];rw [n5 (by omega),Option.bind_some,Ge (by omega) (by omega)];simp [h]
   |false=>simp
 · rw [if_neg (by simpa using by omega)];simp [h]
end Go.Proofs.bX
end
section
set_option maxRecDepth 100000
namespace Go.Proofs.bX
open Go Go.Am Go.Proofs
def xF:List UInt8:=(List.range 10).map fun n=>UInt8.ofNat (48+n)
theorem WJ (n:Nat):xF.all (fun a=>decide (dj (n+10) [a]=some (xE [a])))=true:=by kernel_rfl
theorem WK (n:Nat):xF.all (fun a=>xF.all fun b=>decide (dj (n+10) [a,b]=some (xE [a,b])))=true:=by kernel_rfl
theorem WN (n:Nat):xF.all (fun a=>xF.all fun b=>xF.all fun c=>decide (dj (n+10) [a,b,c]=some (xE [a,b,c])))=true:=by kernel_rfl
theorem lE {c:UInt8} (h:p9 c=true):c∈xF:=by
 have:=iM (p:=fun c=> !p9 c||xF.contains c) (by kernel_rfl) c
 simpa [h] using this
theorem M0 {s:List UInt8} {F:Nat} (hF:10≤F) (hl:s.length≤100000):dj F s=some (gB s):=by
 by_cases h3:3<s.length
 · have hn:gB s=false:=by
    cases h:gB s with
    |false=>rfl
    |true=>have:=(qa h).1;omega
   have hne:s≠[]:=by intro h;subst h;simp at h3
   unfold dj dF
   simp only [hne,decide_false,Bool.false_eq_true,if_false]
   rw [if_pos (by simp;omega),hn];rfl
 · by_cases hd:s.all p9=true
   · obtain ⟨G,rfl⟩:∃G,F=G+10:=⟨F - 10,by omega⟩
     rw [List.all_eq_true] at hd
     rw [Tx]
     match s,h3,hd with
     |[],_,_=>rw [show xE []=false by kernel_rfl];simp [dj,dF]
     |[a],_,hd=>exact of_decide_eq_true (List.all_eq_true.1 (WJ G) a (lE (hd a (by simp))))
     |[a,b],_,hd=>exact of_decide_eq_true (List.all_eq_true.1 (List.all_eq_true.1 (WK G) a (lE (hd a (by simp)))) b (lE (hd b (by simp))))
     |[a,b,c],_,hd=>exact of_decide_eq_true (List.all_eq_true.1 (List.all_eq_true.1 (List.all_eq_true.1 (WN G) a (lE (hd a (by simp)))) b (lE (hd b (by simp)))) c (lE (hd c (by simp))))
     |a::b::c::d::r,h3,_=>simp at h3
   · have hn:gB s=false:=by
      cases h:gB s with
      |false=>rfl
      |true=>exact absurd (qa h).2.1 hd
     rw [hn]
     have hp:∃b,dF s=some b:=by
      unfold dF
      cases s with
      |nil=>simp
      |cons c r=>
       rw [show idx (c::r) 0=some c by simp [idx]]
       simp only [Option.bind_some]
       repeat' split
       all_goals exact ⟨_,rfl⟩
     obtain ⟨b,hb⟩:=hp
     unfold dj
     rw [hb,Option.bind_some]
     cases b with
     |true=>rfl
     |false=>
      simp only [Bool.false_eq_true,if_false]
      have An:∀(r:List UInt8) (i F:Nat) (n:Int),s.drop i=r→i+r.length=s.length→r.length<F→r.all p9=false→iter (eC s) F (n,(i:Int))=some (.inl false):=by
       intro r
       induction r with
       |nil=>intro i F n _ _ _ h;simp at h
       |cons x r ih=>
        intro i F n Ty hlr hF ha
        obtain ⟨G,rfl⟩:=cU hF
        obtain ⟨hi,hx,hr⟩:=drop_cons Ty
        simp only [List.length_cons] at hlr hF
        have hstep:eC s (n,(i:Int))=if (!p9 x)=true then some (.ret false) else some (.cu ((IntKind.wrap .i64 ((IntKind.wrap .i64 (10*n))+(IntKind.wrap .i64 ((x - 48).toNat:Int)))),((i+1:Nat):Int))):=by
         simp only [eC]
         rw [if_pos (by simpa using hi),bF hx,Option.bind_some,Ax,Option.bind_some,wi (by omega)]
        cases hx':p9 x with
        |false=>rw [hx'] at hstep;exact fQ (by rw [hstep];rfl)
        |true=>
         rw [hx'] at hstep
         rw [ck (by rw [hstep];rfl)]
         exact ih (i+1) G _ hr (by omega) (by omega) (by simpa [hx'] using ha)
      rw [show (0,(0:Int))=((0:Int),((0:Nat):Int)) from rfl,An s 0 F 0 rfl (by simp) (by omega) (by simpa using hd)]
      rfl
def BU (s:List UInt8):Bool:=jI s&&decide (s.length≤63)
theorem QL {s:List UInt8} {F:Nat} (hl:s.length≤100000) (hF:s.length<F):jy F s=some (BU s):=by
 unfold jy iJ BU jI
 cases s with
 |nil=>simp
 |cons c r=>
  obtain ⟨x,hx⟩:=vI c r
  rw [si hx (by omega),hx,show idx (c::r) 0=some c by simp [idx]]
  by_cases h0:63<(c::r).length
  · rw [if_neg (by simp),if_pos (by simp at h0 ⊢;omega)]
    have:decide ((c::r).length≤63)=false:=by simp at h0 ⊢;omega
    rw [this];simp
  · have h0':decide ((c::r).length≤63)=true:=by simp at h0 ⊢;omega
    rw [if_neg (by simp),if_neg (by simp at h0 ⊢;omega),h0']
    by_cases h1:c=45
    · simp [h1]
    · by_cases h2:x=45
      · simp [h1,h2]
      · have hh:=scan (s:=c::r) (body:=dG (c::r)) (mk:=fun i=>(i:Int)) (p:=xh) (rr:=fun _=>false) (tt:=()) ?_ ?_ ?_ hF
        · simp only [Option.bind_some,h1,h2,decide_false,Bool.false_eq_true,if_false]
          cases ha:(c::r).all xh with
          |true=>have:=hh.1 ha;rw [show ((0:Nat):Int)=0 from rfl] at this;rw [this];simp [h1,h2]
          |false=>obtain ⟨j,hj⟩:=hh.2 ha;rw [show ((0:Nat):Int)=0 from rfl] at hj;rw [hj];simp [h1,h2]
        · intro i y hy hp
          have hi:=(List.getElem?_eq_some_iff.1 hy).1
          simp only [dG,fG]
          rw [if_pos (by simp at hi ⊢;omega),bF hy,Option.bind_some,BR,Option.bind_some,Ax,Option.bind_some,wi (by omega)]
          simp only [xh] at hp
          cases h1:D0 y<;>cases h2:p9 y<;>simp [h1,h2] at hp ⊢
          exact hp
        · intro i y hy hp
          have hi:=(List.getElem?_eq_some_iff.1 hy).1
          simp only [dG,fG]
          rw [if_pos (by simp at hi ⊢;omega),bF hy,Option.bind_some,BR,Option.bind_some,Ax,Option.bind_some]
          simp only [xh] at hp
          cases h1:D0 y<;>cases h2:p9 y<;>simp [h1,h2] at hp ⊢
          exact hp
        · simp [dG]
end Go.Proofs.bX
end
section
set_option maxRecDepth 100000
namespace Go.Proofs.bX
open Go Go.Am Go.Proofs
def D1 (num:Bool) (s:List UInt8):Bool:=if num then gB s else BU s
theorem QM {F:Nat} {x:UInt8} {s:List UInt8} {a i:Nat} (h:a≤i) (hi:i≤s.length) (hl:s.length≤99000) (hF:s.length+10<F):
 eZ F x s (a:Int) (i:Int)=some (!D1 (x==91) ((s.take i).drop a)):=by
 have hlen:((s.take i).drop a).length≤s.length:=by simp;omega
 unfold eZ D1
 rw [nZ h hi]
 by_cases hx:x=91
 · rw [if_pos (by simpa using hx)]
   simp only [Option.bind_some]
   rw [M0 (by omega) (by omega)]
   simp only [Option.bind_some,hx,beq_self_eq_true,if_true]
   cases gB ((s.take i).drop a)<;>rfl
 · rw [if_neg (by simpa using hx)]
   simp only [Option.bind_some]
   rw [QL (by omega) (by omega)]
   have:(x==91)=false:=by simpa using hx
   simp [this]
theorem BV {F:Nat} {x:UInt8} {s:List UInt8} (hl:s.length≤99000) (Tz:s.length+10<F):∀(r cur:List UInt8) (a k i G:Nat),(∀c∈cur,c≠46)→s.drop a=cur++r→a+cur.length=i→i+r.length=s.length→r.length+1<G→k≤i→
 iter (bQ F s x) G ((a:Int),(k:Int),(i:Int))=some (if (aJ (cur++r)).all (D1 (x==91)) then .inr ((k+(aJ (cur++r)).length:Nat):Int) else .inl false):=by
 have sj:∀(cur r:List UInt8) (a i:Nat),s.drop a=cur++r→a+cur.length=i→(s.take i).drop a=cur:=by
  intro cur r a i h hi
  rw [List.drop_take,h, ←hi,Nat.add_sub_cancel_left,List.take_left' rfl]
 intro r
 induction r with
 |nil=>
  intro cur a k i G hc hd ha hi hG hk
  obtain ⟨G,rfl⟩:=cU (show 0<G by omega)
  obtain ⟨G,rfl⟩:=cU (show 0<G by simp at hG;omega)
  have hie:i=s.length:=by simpa using hi
  have hstep:bQ F s x ((a:Int),(k:Int),(i:Int))=if (!D1 (x==91) cur)=true then some (.ret false) else some (.cu (((i+1:Nat):Int),((k+1:Nat):Int),((i+1:Nat):Int))):=by
   simp only [bQ]
   rw [if_pos (by simp;omega)]
   have:c8 (i:Int) s=some false:=by unfold c8;rw [if_neg (by simp;omega)]
   rw [this,Option.bind_some]
   simp only [Bool.false_eq_true,if_false]
   rw [QM (by omega) (by omega) hl Tz,Option.bind_some,sj cur [] a i hd ha,wi (by omega),wi (by omega)]
  rw [List.append_nil,F9 hc]
  cases hx:D1 (x==91) cur with
  |false=>rw [hx] at hstep;rw [fQ (by rw [hstep];rfl)];simp [hx]
  |true=>
   rw [hx] at hstep
   rw [ck (by rw [hstep];rfl)]
   have:bQ F s x (((i+1:Nat):Int),((k+1:Nat):Int),((i+1:Nat):Int))=some (.dU ((k+1:Nat):Int)):=by
    simp only [bQ]
    rw [if_neg (by simp;omega)]
   rw [dc this]
   simp [hx]
 |cons c r ih=>
  intro cur a k i G hc hd ha hi hG hk
  obtain ⟨G,rfl⟩:=cU (show 0<G by omega)
  simp only [List.length_cons] at hi hG
  have hci:s[i]? =some c:=by
   have:(s.drop a)[cur.length]? =some c:=by rw [hd];simp
   rw [List.getElem?_drop,ha] at this;exact this
  have Z8:c8 (i:Int) s=some (!decide (c=46)):=by unfold c8;rw [if_pos (by simp;omega),bF hci];rfl
  by_cases QN:c=46
  · subst QN
    have hstep:bQ F s x ((a:Int),(k:Int),(i:Int))=if (!D1 (x==91) cur)=true then some (.ret false) else some (.cu (((i+1:Nat):Int),((k+1:Nat):Int),((i+1:Nat):Int))):=by
     simp only [bQ]
     rw [if_pos (by simp;omega),Z8,Option.bind_some]
     simp only [decide_true,Bool.not_true,Bool.false_eq_true,if_false]
     rw [QM (by omega) (by omega) hl Tz,Option.bind_some,sj cur _ a i hd ha,wi (by omega),wi (by omega)]
    rw [F8 hc]
    cases hx:D1 (x==91) cur with
    |false=>rw [hx] at hstep;rw [fQ (by rw [hstep];rfl)];simp [hx]
    |true=>
     rw [hx] at hstep
     rw [ck (by rw [hstep];rfl)]
     have hd':s.drop (i+1)=r:=by
      have:(s.drop a).drop (cur.length+1)=r:=by rw [hd,List.drop_append];simp
      rw [List.drop_drop] at this
      rw [←this];congr 1;omega
     have:=ih [] (i+1) (k+1) (i+1) G (by simp) (by simpa using hd') (by simp) (by omega) (by omega) (by omega)
     rw [List.nil_append] at this
     rw [this]
     simp only [List.all_cons,hx,Bool.true_and,List.length_cons]
     congr 3
     omega
  · have hstep:bQ F s x ((a:Int),(k:Int),(i:Int))=some (.cu ((a:Int),(k:Int),((i+1:Nat):Int))):=by
     simp only [bQ]
     rw [if_pos (by simp;omega),Z8,Option.bind_some]
     simp only [QN,decide_false,Bool.not_false,if_true]
     rw [wi (by omega)]
    rw [ck hstep]
    have:=ih (cur++[c]) a k (i+1) G (by intro y hy;rcases List.mem_append.1 hy with h|h;exact hc y h;simp at h;subst h;exact QN) (by rw [hd];simp) (by simp;omega) (by omega) (by omega) (by omega)
    rw [this]
    simp
theorem M1 (l:List (List UInt8)):l.all BU=(l.all jI&&l.all fun p=>decide (p.length≤63)):=by
 induction l with
 |nil=>rfl
 |cons a l ih=>simp only [List.all_cons,ih,BU];cases jI a<;>cases decide (a.length≤63)<;>simp
theorem Gf (s:List UInt8):((aJ s).map List.length).sum+(aJ s).length=s.length+1:=by
 induction s with
 |nil=>simp [aJ]
 |cons c r ih=>
  unfold aJ
  split
  · simp;omega
  · cases h:aJ r with
    |nil=>exact absurd h (eL r)
    |cons a t=>rw [h] at ih;simp at ih ⊢;omega
theorem four {l:List (List UInt8)} (h4:l.length=4) (h:∀p∈l,p.length≤3):(l.map List.length).sum≤12:=by
 match l,h4 with
 |[a,b,c,d],_=>
  have ha:=h a (by simp);have hb:=h b (by simp);have hc:=h c (by simp);have hd:=h d (by simp)
  simp;omega
theorem I9 (r:List UInt8):(aJ (91::r)).all jI=false:=by
 have h1:∀t:List UInt8,jI (91::t)=false:=by
  intro t
  have:xh 91=false:=by decide
  simp [jI,this]
 simp only [aJ]
 rw [if_neg (by decide)]
 split
 · simp [h1]
 · simp [h1]
theorem WO {s:List UInt8} {F:Nat} (hl:s.length≤99000) (hF:s.length+10<F):dQ F s=some (jc s):=by
 cases s with
 |nil=>simp [dQ,jc,jJ,oy,aJ,jI]
 |cons c r=>
  unfold dQ
  by_cases J9:255<(c::r).length
  · rw [if_pos (by simp at J9 ⊢;omega)]
    have:decide ((c::r).length≤255)=false:=by simp at J9 ⊢;omega
    unfold jc;rw [this];rfl
  · have QO:decide ((c::r).length≤255)=true:=by simp at J9 ⊢;omega
    rw [if_neg (by simp at J9 ⊢;omega),show idx (c::r) 0=some c by simp [idx],Option.bind_some]
    obtain ⟨x,hx⟩:=vI c r
    by_cases hc:c=91
    · subst hc
      unfold eW gN
      rw [if_pos (by rfl),si hx (by omega),Option.bind_some]
      by_cases hin:oy (91::r)=true
      · have NC:x=93:=by rw [oy,hx] at hin;simpa using (by simp at hin;exact hin.2)
        have h1:1<(91::r).length:=by rw [oy] at hin;simp at hin ⊢;exact hin.1
        subst NC
        rw [if_neg (by simp)]
        have:decide ((((91::r).length:Nat):Int)<2)=false:=by simp at h1 ⊢;omega
        rw [this]
        simp only [Option.bind_some,Bool.false_eq_true,if_false]
        have hsub:sub (91::r) 1 (IntKind.wrap .i64 ((((91::r).length:Nat):Int) - 1))=some (inner (91::r)):=by
         rw [wr (by omega) (by omega),show (1:Int)=((1:Nat):Int) from rfl,show (((91::r).length:Nat):Int) - ((1:Nat):Int)=(((91::r).length - 1:Nat):Int) by omega,nZ (by omega) (by omega)]
         congr 1
         unfold inner
         rw [List.dropLast_eq_take,List.length_drop,List.drop_take]
        rw [hsub]
        simp only [Option.bind_some]
        have hil:(inner (91::r)).length≤(91::r).length:=by simp [inner];omega
        have QS:=BV (F:=F) (x:=91) (s:=inner (91::r)) (by omega) (by omega) (inner (91::r)) [] 0 0 0 F (by simp) (by simp) (by simp) (by simp) (by omega) (Nat.le_refl _)
        simp only [List.nil_append,Int.natCast_zero,Nat.zero_add] at QS
        rw [show ((0:Int),(0:Int),(0:Int))=(((0:Nat):Int),((0:Nat):Int),((0:Nat):Int)) from rfl]
        rw [show (((0:Nat):Int),((0:Nat):Int),((0:Nat):Int))=((0:Int),(0:Int),(0:Int)) from rfl,QS]
        have QT:(aJ (inner (91::r))).all (D1 ((91:UInt8)==91))=(aJ (inner (91::r))).all gB:=by congr 1
        rw [QT]
        unfold jc jJ
        rw [QO,hin]
        simp only [if_true,Bool.true_and]
        cases hall:(aJ (inner (91::r))).all gB with
        |false=>simp
        |true=>
         by_cases h4:(aJ (inner (91::r))).length=4
         · have hsum:=four h4 fun p hp=>(qa (List.all_eq_true.1 hall p hp)).1
           have htot:=Gf (inner (91::r))
           have hlen:(91::r).length=(inner (91::r)).length+2:=by simp [inner];simp at h1;omega
           have:(aJ (91::r)).all (fun p=>decide (p.length≤63))=true:=by
            rw [List.all_eq_true]
            intro p hp
            have:=kL _ p hp
            simp only [decide_eq_true_eq]
            omega
           rw [this]
           simp [h4]
         · simp [h4];omega
      · have Z9:oy (91::r)=false:=by simpa using hin
        have hdf:jc (91::r)=false:=by unfold jc jJ;rw [Z9];simp only [Bool.false_eq_true,if_false,I9];simp
        rw [hdf]
        by_cases Ub:x=93
        · subst Ub
          have h1:¬1<(91::r).length:=by intro h;rw [oy,hx,decide_eq_true h] at hin;simp at hin
          rw [if_neg (by simp),decide_eq_true (by omega)]
          rfl
        · rw [if_pos (by simpa using Ub)];rfl
    · unfold eW
      rw [if_neg (by simpa using hc)]
      simp only [Option.bind_some]
      have QS:=BV (F:=F) (x:=c) (s:=c::r) hl hF (c::r) [] 0 0 0 F (by simp) (by simp) (by simp) (by simp) (by omega) (Nat.le_refl _)
      simp only [List.nil_append,Int.natCast_zero,Nat.zero_add] at QS
      rw [QS]
      have P5:(c==91)=false:=by simpa using hc
      have QT:(aJ (c::r)).all (D1 (c==91))=(aJ (c::r)).all BU:=by rw [P5];congr 1
      rw [QT,M1]
      have hin:oy (c::r)=false:=by unfold oy;simp [hc]
      unfold jc jJ
      rw [QO,hin]
      simp only [Bool.false_eq_true,if_false,Bool.true_and]
      cases (aJ (c::r)).all jI<;>cases (aJ (c::r)).all (fun p=>decide (p.length≤63))<;>simp [hc]
end Go.Proofs.bX
end
section
set_option maxRecDepth 100000
namespace Go.Proofs.bX
open Go Go.Am Go.Proofs
theorem Uc (a b:List UInt8):aJ (a++46::b)=aJ a++aJ b:=by
 induction a with
 |nil=>simp [aJ]
 |cons c a ih=>
  simp only [List.cons_append,aJ,ih]
  by_cases hc:c=46
  · simp [hc]
  · simp only [if_neg hc]
    cases h:aJ a with
    |nil=>exact absurd h (eL a)
    |cons x t=>simp
theorem uf (s:List UInt8):∀c∈s,c=46∨∃p∈aJ s,c∈p:=by
 induction s with
 |nil=>simp
 |cons a r ih=>
  intro c hc
  simp only [aJ]
  rcases List.mem_cons.1 hc with rfl|hc
  · by_cases h:c=46
    · exact .inl h
    · right
      rw [if_neg h]
      cases hs:aJ r with
      |nil=>exact absurd hs (eL r)
      |cons x t=>exact ⟨c::x,by simp,by simp⟩
  · rcases ih c hc with h|⟨p,hp,gE⟩
    · exact .inl h
    · right
      by_cases ha:a=46
      · rw [if_pos ha];exact ⟨p,by simp [hp],gE⟩
      · rw [if_neg ha]
        cases hs:aJ r with
        |nil=>exact absurd hs (eL r)
        |cons x t=>
         rw [hs] at hp
         rcases List.mem_cons.1 hp with rfl|hp
         · exact ⟨a::p,by simp,by simp [gE]⟩
         · exact ⟨p,by simp [hp],gE⟩
theorem aaz {s:List UInt8} (h:s.head?≠some 91):oy s=false:=by
 unfold oy
 have:(s.head?==some 91)=false:=by simpa using h
 rw [this];simp
theorem aaa {s:List UInt8} (h:s.getLast?≠some 93):oy s=false:=by
 unfold oy
 have:(s.getLast?==some 93)=false:=by simpa using h
 rw [this];simp
theorem aab {s:List UInt8} (hi:oy s=false) {p:List UInt8} (hp:p∈aJ s) (hl:jI p=false):jc s=false:=by
 unfold jc jJ
 rw [hi]
 have:(aJ s).all jI=false:=by
  rw [List.all_eq_false]
  exact ⟨p,hp,by simp [hl]⟩
 simp [this]
end Go.Proofs.bX
end
section
set_option maxRecDepth 100000
namespace Go.Proofs.bX
open Go Go.Am Go.Proofs
def mI (c:UInt8):Bool:=D0 c||p9 c||c==45||c==46||c==91||c==93
def ei (c:UInt8):Bool:=decide (32≤c)&&decide (c≤126)
def cR (c:UInt8):Bool:=D0 c||p9 c||([33,35,36,37,38,39,42,43,45,47,61,63,94,95,96,123,124,125,126]:List UInt8).contains c
def ug (c:UInt8):Bool:=c==46||cR c
theorem Ka (c:UInt8):mb c=some (cR c):=by
 have:=iM (p:=fun c=>decide (mb c=some (cR c))) (by kernel_rfl) c
 simpa using this
structure At (s:List UInt8) (n:Nat) (r:List UInt8):Prop where
 le:n≤s.length
 dr:s.drop n=r
 sm:s.length≤90000
def nx:List UInt8→UInt8
 |[]=>0
 |c::_=>c
theorem At.len {s r:List UInt8} {n:Nat} (h:At s n r):n+r.length=s.length:=by
 rw [←h.dr,List.length_drop];have:=h.le;omega
theorem At.next {s r:List UInt8} {n:Nat} {c:UInt8} (h:At s n (c::r)):At s (n+1) r:=by
 obtain ⟨h1,h2,h3⟩:=drop_cons h.dr
 exact ⟨h1,h3,h.sm⟩
theorem D2 (q:UInt8→Bool) (r:List UInt8):(r.takeWhile q).length≤r.length:=(List.takeWhile_prefix q).length_le
theorem At.skip {s r:List UInt8} {n:Nat} (h:At s n r) (q:UInt8→Bool):At s (n+(r.takeWhile q).length) (r.dropWhile q):=by
 have h1:(r.takeWhile q).length≤r.length:=D2 _ _
 have h2:=h.len
 refine ⟨by omega, ?_,h.sm⟩
 rw [←List.drop_drop,h.dr]
 conv=>lhs;rw [←List.takeWhile_append_dropWhile (p:=q) (l:=r)]
 rw [List.takeWhile_append_dropWhile]
 conv=>lhs;arg 2;rw [←List.takeWhile_append_dropWhile (p:=q) (l:=r)]
 exact List.drop_left ..
theorem WQ {s r:List UInt8} {n:Nat} (h:At s n r) (q:UInt8→Bool):sub s (n:Int) ((n+(r.takeWhile q).length:Nat):Int)=some (r.takeWhile q):=by
 have h1:=(h.skip q).le
 rw [nZ (by omega) h1,List.drop_take,h.dr,Nat.add_sub_cancel_left]
 congr 1
 conv=>lhs;arg 2;rw [←List.takeWhile_append_dropWhile (p:=q) (l:=r)]
 exact List.take_left ..
def fU (s:List UInt8):Bool:=(aJ s).all fun p=>p !=[]&&p.all cR
theorem M3 {s:List UInt8} {F:Nat} (hl:s.length≤1000000) (hF:s.length<F):fD F s=some (s.all cR):=by
 unfold fD
 have hh:=scan (s:=s) (body:=cC s) (mk:=fun i=>(false,(i:Int))) (p:=cR) (rr:=fun _=>false) (tt:=()) ?_ ?_ ?_ hF
 · cases ha:s.all cR with
   |true=>have:=hh.1 ha;rw [show ((0:Nat):Int)=0 from rfl] at this;rw [this];rfl
   |false=>obtain ⟨j,hj⟩:=hh.2 ha;rw [show ((0:Nat):Int)=0 from rfl] at hj;rw [hj];rfl
 · intro i x hx hp
   have hi:=(List.getElem?_eq_some_iff.1 hx).1
   simp only [cC]
   rw [if_pos (by simpa using hi),bF hx,Option.bind_some,Ka,Option.bind_some,hp,wi (by omega)];rfl
 · intro i x hx hp
   have hi:=(List.getElem?_eq_some_iff.1 hx).1
   simp only [cC]
   rw [if_pos (by simpa using hi),bF hx,Option.bind_some,Ka,Option.bind_some,hp];rfl
 · simp [cC]
theorem Gg {x:List UInt8} {F:Nat} (hl:x.length≤1000000) (hF:x.length<F):iz F x=some (!(x !=[]&&x.all cR)):=by
 unfold iz gM
 by_cases hx:x=[]
 · subst hx;rfl
 · rw [if_neg (by simpa using hx),M3 hl hF]
   simp [hx]
theorem M4 {s:List UInt8} {F:Nat} (hl:s.length≤90000) (hF:s.length+1<F):kG F s=some (fU s):=by
 have hn:=rZ s
 unfold kG
 rw [n5 (by omega),Option.bind_some]
 unfold cT dM
 have hh:=scan (s:=aJ s) (F:=F) (body:=bP F (aJ s)) (mk:=fun i=>(0,(i:Int))) (p:=fun p=>p !=[]&&p.all cR) (rr:=fun i=>(i:Int)) (tt:=()) ?_ ?_ ?_ (by omega)
 · unfold fU
   cases ha:(aJ s).all fun p=>p !=[]&&p.all cR with
   |true=>have:=hh.1 ha;rw [show ((0:Nat):Int)=0 from rfl] at this;rw [this];rfl
   |false=>obtain ⟨j,hj⟩:=hh.2 ha;rw [show ((0:Nat):Int)=0 from rfl] at hj;rw [hj];simp
 · intro i x hx' hp
   have hi:=(List.getElem?_eq_some_iff.1 hx').1
   have hxl:=kL s x (List.mem_of_getElem? hx')
   simp only [bP]
   rw [if_pos (by simpa using hi),bF hx',Option.bind_some,Gg (by omega) (by omega),Option.bind_some,hp,wi (by omega)];rfl
 · intro i x hx' hp
   have hi:=(List.getElem?_eq_some_iff.1 hx').1
   have hxl:=kL s x (List.mem_of_getElem? hx')
   simp only [bP]
   rw [if_pos (by simpa using hi),bF hx',Option.bind_some,Gg (by omega) (by omega),Option.bind_some,hp];rfl
 · simp [bP]
def qL:List UInt8→Option (List UInt8×List UInt8)
 |[]=>none
 |c::r=>if c=34 then some ([],r)
  else if c=92 then (match r with
   |[]=>none
   |d::r'=>if ei d then (qL r').map fun x=>(d::x.1,x.2) else none)
  else if ei c then (qL r).map fun x=>(c::x.1,x.2) else none
theorem vJ (c:UInt8) (r:List UInt8):qL (c::r)=if c=34 then some ([],r)
 else if c=92 then (match r with
  |[]=>none
  |d::r'=>if ei d then (qL r').map fun x=>(d::x.1,x.2) else none)
 else if ei c then (qL r).map fun x=>(c::x.1,x.2) else none:=by
 cases r<;>rfl
theorem QU (c:UInt8):j6 c=some (ei c):=rfl
theorem abj:ei 0=false:=by decide
def qb (r:List UInt8):Option (List UInt8×List UInt8):=
 if nx r=34 then (match qL (r.drop 1) with|some (b,rest)=>if b=[] then none else some (b,rest)|none=>none)
 else if fU (r.takeWhile ug) then some (r.takeWhile ug,r.dropWhile ug) else none
def kM (r:List UInt8):Option (List UInt8×List UInt8):=if jJ (r.takeWhile mI) then some (r.takeWhile mI,r.dropWhile mI) else none
end Go.Proofs.bX
end
section
set_option maxRecDepth 100000
namespace Go.Proofs.bX
open Go Go.Am Go.Proofs
def Kb:Nat→List UInt8→Option (List UInt8)
 |0,_=>none
 |k+1,r=>if nx r=64 then (match kM (r.drop 1) with
   |none=>none
   |some (_,r2)=>if nx r2=44 then Kb k (r2.drop 1) else if nx r2=58 then some (r2.drop 1) else none) else none
def vK (r:List UInt8):Option (List UInt8):=if nx r=64 then Kb (r.length+1) r else some r
theorem aac {r:List UInt8} {c:UInt8} (h:nx r=c) (hc:c≠0):∃t,r=c::t:=by
 cases r with
 |nil=>exact absurd h.symm hc
 |cons a t=>exact ⟨t,by rw [←h];rfl⟩
theorem D3 {r b t:List UInt8} (h:kM r=some (b,t)):t.length≤r.length:=by
 unfold kM at h
 split at h
 · injection h with h;injection h with _ h;subst h;exact (List.dropWhile_suffix _).length_le
 · cases h
def BW (r:List UInt8):Option (aE×List UInt8):=
 match vK r with
 |none=>none
 |some r1=>match qb r1 with
  |none=>none
  |some (l,r2)=>if nx r2=64 then (match kM (r2.drop 1) with
   |none=>none
   |some (d,r3)=>if nx r3=62 then some (⟨l,d⟩,r3.drop 1) else none) else none
def QV (s:List UInt8):Option (aE×List UInt8):=
 if nx s=60 then (if nx (s.drop 1)=62 then some (⟨[],[]⟩,s.drop 2) else BW (s.drop 1)) else none
def esc (l:List UInt8):List UInt8:=l.flatMap fun c=>if c=34∨c=92 then [92,c] else [c]
def j3 (a:aE):List UInt8:=if fU a.aD then 60::(a.aD++64::(a.domain++[62])) else 60::34::(esc a.aD++34::64::(a.domain++[62]))
def vL (s:List UInt8):Bool:=s !=[]&&decide (s.length≤64)&&s.all ei
def ek (a:aE):Bool:=decide (a.aD=[])&&decide (a.domain=[])
def ew (a:aE):Bool:=ek a||(vL a.aD&&jc a.domain&&decide ((j3 a).length≤256))
theorem Gh (l:List UInt8):(esc l).length≤2*l.length:=by
 induction l with
 |nil=>simp [esc]
 |cons c l ih=>
  simp only [esc,List.flatMap_cons,List.length_append,List.length_cons] at ih ⊢
  split<;>simp only [List.length_cons,List.length_nil]<;>omega
theorem Ja {s:List UInt8} {F:Nat} (hl:s.length≤1000000) (hF:s.length<F):iw F s=some (s.all ei):=by
 unfold iw
 have hh:=scan (s:=s) (body:=c7 s) (mk:=fun i=>(false,(i:Int))) (p:=ei) (rr:=fun _=>false) (tt:=()) ?_ ?_ ?_ hF
 · cases ha:s.all ei with
   |true=>have:=hh.1 ha;rw [show ((0:Nat):Int)=0 from rfl] at this;rw [this];rfl
   |false=>obtain ⟨j,hj⟩:=hh.2 ha;rw [show ((0:Nat):Int)=0 from rfl] at hj;rw [hj];rfl
 · intro i x hx hp
   have hi:=(List.getElem?_eq_some_iff.1 hx).1
   simp only [c7]
   rw [if_pos (by simpa using hi),bF hx,Option.bind_some,QU,Option.bind_some,hp,wi (by omega)];rfl
 · intro i x hx hp
   have hi:=(List.getElem?_eq_some_iff.1 hx).1
   simp only [c7]
   rw [if_pos (by simpa using hi),bF hx,Option.bind_some,QU,Option.bind_some,hp];rfl
 · simp [c7]
theorem QW {s:List UInt8} {F:Nat} (hF:s.length<F):kD F s=some (vL s):=by
 unfold kD jn vL
 by_cases h:s=[]
 · subst h;rfl
 · by_cases h2:s.length≤64
   · rw [if_pos (by simpa using h),if_pos (by simp;omega),Ja (by omega) hF]
     simp [h,h2]
   · rw [if_pos (by simpa using h),if_neg (by simp;omega)]
     simp [h2]
theorem Jb {a:aE} (hl:a.aD.length≤80000):∀(r:List UInt8) (i F:Nat) (b:List UInt8),a.aD.drop i=r→i+r.length=a.aD.length→b.length≤2*i+1→r.length<F→
 iter (eI a) F (b,(i:Int))=some (.inr (b++esc r)):=by
 intro r
 induction r with
 |nil=>
  intro i F b hd hi hb hF
  obtain ⟨G,rfl⟩:=cU hF
  rw [dc (t:=b) (by simp only [eI];rw [if_neg (by simp at hi ⊢;omega)])]
  simp [esc]
 |cons c r ih=>
  intro i F b hd hi hb hF
  obtain ⟨G,rfl⟩:=cU (show 0<F by omega)
  obtain ⟨h1,h2,h3⟩:=drop_cons hd
  simp only [List.length_cons] at hi hF
  have hst:eI a (b,(i:Int))=some (.cu (b++(if c=34∨c=92 then [92,c] else [c]),((i+1:Nat):Int))):=by
   simp only [eI,j8]
   rw [if_pos (by simpa using h1),bF h2]
   simp only [Option.bind_some]
   by_cases D4:c=34
   · subst D4
     simp only [decide_true,if_true,Option.bind_some,true_or]
     rw [cA (by simp;omega) (by omega),Option.bind_some,cA (by simp;omega) (by omega),Option.bind_some,wi (by omega)]
     simp
   · by_cases Jc:c=92
     · subst Jc
       rw [if_neg (by decide)]
       simp only [decide_true,Option.bind_some,if_true,or_true]
       rw [cA (by simp;omega) (by omega),Option.bind_some,cA (by simp;omega) (by omega),Option.bind_some,wi (by omega)]
       simp
     · rw [if_neg (by simpa using D4)]
       simp only [Option.bind_some]
       rw [if_neg (by simpa using Jc),cA (by simp;omega) (by omega),Option.bind_some,wi (by omega),if_neg (by simp [D4,Jc])]
  rw [ck hst,ih (i+1) G _ h3 (by omega) (by split<;>simp<;>omega) (by omega)]
  simp [esc]
theorem Gi {a:aE} {F:Nat} (hl:a.aD.length≤80000) (hd:a.domain.length≤80000) (hF:a.aD.length+1<F):j0 F a=some (j3 a):=by
 have he:=Gh a.aD
 unfold j0 j3
 rw [M4 (by omega) hF,Option.bind_some]
 cases fU a.aD with
 |true=>
  simp only [Bool.not_true,Bool.false_eq_true,if_false,if_true]
  rw [aO (by simp;omega),Option.bind_some,aO (by simp;omega),Option.bind_some,aO (by simp;omega),Option.bind_some,aO (by simp;omega),Option.bind_some]
  simp
 |false=>
  simp only [Bool.not_false,if_true,Bool.false_eq_true,if_false]
  rw [show (([34]:List UInt8),(0:Int))=(([34]:List UInt8),((0:Nat):Int)) from rfl,Jb hl a.aD 0 F [34] (by simp) (by simp) (by simp) (by omega)]
  simp only [Option.bind_some]
  rw [cA (by simp;omega) (by omega),Option.bind_some,aO (by simp;omega),Option.bind_some,aO (by simp;omega),Option.bind_some,aO (by simp;omega),Option.bind_some,aO (by simp;omega),Option.bind_some]
  simp
theorem M5 {a:aE} {F:Nat} (hl:a.aD.length≤80000) (hd:a.domain.length≤80000) (hF:a.aD.length+a.domain.length+1<F):kH F a=some (ew a):=by
 unfold kH jt jY ew
 simp only [Option.bind_some]
 cases hn:ek a with
 |true=>rw [ek] at hn;rw [hn];rfl
 |false=>
  rw [ek] at hn
  rw [hn]
  simp only [Bool.false_eq_true,if_false,Bool.false_or]
  rw [QW (by omega),Option.bind_some]
  cases hlb:vL a.aD with
  |false=>rfl
  |true=>
   simp only [if_true,Bool.true_and]
   rw [WI (by omega) (by omega),Option.bind_some]
   cases hdb:jc a.domain with
   |false=>rfl
   |true=>
    simp only [if_true,Bool.true_and]
    rw [Gi hl hd (by omega)]
    simp
    omega
theorem TA (a:aE):jY a=some (ek a):=rfl
def xk (s:List UInt8):aE×List UInt8×Int:=
 match QV s with
 |none=>(⟨[],[]⟩,[],3)
 |some (a,rest)=>if ew a then (a,rest,0) else (⟨[],[]⟩,[],5)
theorem At.zero {s:List UInt8} (h:s.length≤90000):At s 0 s:=⟨Nat.zero_le _,rfl,h⟩
theorem WR {s:List UInt8} {a:aE} {rest:List UInt8} {n:Nat} {t:List UInt8}:True:=trivial
end Go.Proofs.bX
end
section
set_option maxRecDepth 100000
namespace Go.Proofs.bX
open Go Go.Am Go.Proofs
theorem TB:∀(k:Nat) (r b rest:List UInt8),r.length≤k→qL r=some (b,rest)→b.length+rest.length≤r.length:=by
 intro k
 induction k with
 |zero=>
  intro r b rest hk h
  have hr:r=[]:=List.length_eq_zero_iff.1 (by omega)
  subst hr;cases h
 |succ k ih=>
  intro r b rest hk h
  match r,hk,h with
  |[],hk,h=>cases h
  |c::r,hk,h=>
   rw [vJ] at h
   simp only [List.length_cons] at hk ⊢
   split at h
   · injection h with h;injection h with h1 h2;subst h1 h2;simp
   · split at h
     · match r,hk,h with
       |[],hk,h=>cases h
       |d::r',hk,h=>
        simp only at h
        split at h
        · simp only [Option.map_eq_some_iff] at h
          obtain ⟨⟨b',rest'⟩,h1,h2⟩:=h
          injection h2 with h2 h3
          subst h2 h3
          have:=ih r' b' rest' (by simp at hk;omega) h1
          simp;omega
        · cases h
     · split at h
       · simp only [Option.map_eq_some_iff] at h
         obtain ⟨⟨b',rest'⟩,h1,h2⟩:=h
         injection h2 with h2 h3
         subst h2 h3
         have:=ih r b' rest' (by omega) h1
         simp;omega
       · cases h
theorem TD (q:UInt8→Bool) (r:List UInt8):(r.dropWhile q).length≤r.length:=(List.dropWhile_suffix q).length_le
theorem Gj {r b t:List UInt8} (h:qb r=some (b,t)):b.length≤r.length∧t.length≤r.length:=by
 unfold qb at h
 split at h
 · split at h
   · rename_i b' rest' hq
     have:=TB _ _ _ _ (Nat.le_refl _) hq
     have hd:(r.drop 1).length≤r.length:=by simp
     split at h
     · cases h
     · injection h with h;injection h with h1 h2;subst h1 h2;omega
   · cases h
 · split at h
   · injection h with h;injection h with h1 h2;subst h1 h2
     exact ⟨D2 _ _,TD _ _⟩
   · cases h
theorem Bx {r b t:List UInt8} (h:kM r=some (b,t)):b.length≤r.length:=by
 unfold kM at h
 split at h
 · injection h with h;injection h with h1 _;subst h1;exact D2 _ _
 · cases h
theorem M6:∀(k:Nat) (r r':List UInt8),Kb k r=some r'→r'.length≤r.length:=by
 intro k
 induction k with
 |zero=>intro r r' h;cases h
 |succ k ih=>
  intro r r' h
  simp only [Kb] at h
  split at h
  · split at h
    · cases h
    · rename_i b r2 hd
      have h1:=D3 hd
      have h2:(r.drop 1).length≤r.length:=by simp
      have h3:(r2.drop 1).length≤r2.length:=by simp
      split at h
      · have:=ih _ _ h;omega
      · split at h
        · injection h with h;subst h;omega
        · cases h
  · cases h
theorem Gk {r r':List UInt8} (h:vK r=some r'):r'.length≤r.length:=by
 unfold vK at h
 split at h
 · exact M6 _ _ _ h
 · injection h with h;subst h;exact Nat.le_refl _
theorem Xm {r rest:List UInt8} {a:aE} (h:BW r=some (a,rest)):a.aD.length≤r.length∧a.domain.length≤r.length:=by
 unfold BW at h
 split at h
 · cases h
 · rename_i r1 hr
   have h1:=Gk hr
   split at h
   · cases h
   · rename_i l r2 hl
     have h2:=Gj hl
     split at h
     · split at h
       · cases h
       · rename_i d r3 hd
         have h3:=Bx hd
         have h4:(r2.drop 1).length≤r2.length:=by simp
         split at h
         · injection h with h;injection h with h5 _;subst h5;simp only;omega
         · cases h
     · cases h
def aaA (s:List UInt8):aE×Int:=if (xk s).2.2=0∧(xk s).2.1≠[] then (⟨[],[]⟩,3) else ((xk s).1,(xk s).2.2)
theorem Kc {q:UInt8→Bool} {l:List UInt8} {x:UInt8} (hx:q x=false) (h:∀c∈l,q c=true) (t:List UInt8):(l++x::t).takeWhile q=l∧(l++x::t).dropWhile q=x::t:=by
 induction l with
 |nil=>simp [hx]
 |cons c l ih=>
  obtain ⟨h1,h2⟩:=ih fun y hy=>h y (by simp [hy])
  have:=h c (by simp)
  simp [this,h1,h2]
theorem Ay (c:UInt8):cR c=true→ug c=true∧c≠62∧c≠64∧c≠34:=by
 have:=iM (p:=fun c=> !cR c||(ug c&&c !=62&&c !=64&&c !=34)) (by kernel_rfl) c
 intro h
 rw [h] at this
 simp at this
 exact ⟨this.1.1.1,this.1.1.2,this.1.2,this.2⟩
theorem Jd {l:List UInt8} (h:fU l=true):∀c∈l,ug c=true:=by
 intro c hc
 rcases uf l c hc with rfl|⟨p,hp,gE⟩
 · decide
 · have:=List.all_eq_true.1 h p hp
   simp only [Bool.and_eq_true] at this
   exact (Ay c (List.all_eq_true.1 this.2 c gE)).1
theorem Gl {l:List UInt8} (h:fU l=true):∃c t,l=c::t∧cR c=true:=by
 cases l with
 |nil=>simp [fU,aJ] at h
 |cons c t=>
  refine ⟨c,t,rfl, ?_⟩
  unfold fU at h
  simp only [aJ] at h
  by_cases hc:c=46
  · rw [if_pos hc] at h;simp at h
  · rw [if_neg hc] at h
    cases hs:aJ t with
    |nil=>exact absurd hs (eL t)
    |cons x y=>rw [hs] at h;simp at h;exact h.1.1
theorem QX (c:UInt8):(xh c=true→mI c=true)∧(p9 c=true→mI c=true):=by
 have:=iM (p:=fun c=>(!xh c||mI c)&&(!p9 c||mI c)) (by kernel_rfl) c
 simp at this
 exact ⟨fun h=>by simpa [h] using this.1,fun h=>by simpa [h] using this.2⟩
theorem Je {l:List UInt8} {x:UInt8} (h:l.getLast?=some x):l.dropLast++[x]=l:=by
 have hne:l≠[]:=by intro h0;subst h0;cases h
 have h2:=List.dropLast_concat_getLast hne
 rw [List.getLast?_eq_some_getLast hne] at h
 injection h with h
 rw [←h];exact h2
theorem QY {d:List UInt8} (h:oy d=true):d=91::(inner d++[93]):=by
 simp only [oy,Bool.and_eq_true,decide_eq_true_eq,beq_iff_eq] at h
 cases d with
 |nil=>simp at h
 |cons c r=>
  obtain ⟨⟨h1,h2⟩,h3⟩:=h
  simp at h2
  subst h2
  cases r with
  |nil=>simp at h1
  |cons a t=>
   rw [List.getLast?_cons_cons] at h3
   simp only [inner,List.drop_succ_cons,List.drop_zero]
   rw [Je h3]
theorem Az {d:List UInt8} (h:jc d=true):∀c∈d,mI c=true:=by
 intro c hc
 simp only [jc,Bool.and_eq_true] at h
 have hs:=h.1.2
 unfold jJ at hs
 by_cases hi:oy d=true
 · rw [if_pos hi] at hs
   simp only [Bool.and_eq_true] at hs
   rw [QY hi] at hc
   rcases List.mem_cons.1 hc with rfl|hc
   · decide
   · rcases List.mem_append.1 hc with hc|hc
     · rcases uf _ c hc with rfl|⟨p,hp,gE⟩
       · decide
       · exact (QX c).2 (List.all_eq_true.1 (qa (List.all_eq_true.1 hs.2 p hp)).2.1 c gE)
     · simp at hc;subst hc;decide
 · rw [if_neg hi] at hs
   rcases uf _ c hc with rfl|⟨p,hp,gE⟩
   · decide
   · have:=List.all_eq_true.1 hs p hp
     simp only [jI,Bool.and_eq_true] at this
     exact (QX c).1 (List.all_eq_true.1 this.2 c gE)
theorem vM {d:List UInt8} (h:jc d=true) {x:UInt8} (hx:mI x=false) (t:List UInt8):kM (d++x::t)=some (d,x::t):=by
 obtain ⟨h1,h2⟩:=Kc hx (Az h) t
 unfold kM
 rw [h1,h2,if_pos]
 simp only [jc,Bool.and_eq_true] at h
 exact h.1.2
theorem TE {l:List UInt8} (h:l.all ei=true) (rest:List UInt8):qL (esc l++34::rest)=some (l,rest):=by
 induction l with
 |nil=>simp [esc,vJ]
 |cons c l ih=>
  simp only [List.all_cons,Bool.and_eq_true] at h
  have ih:=ih h.2
  simp only [esc,List.flatMap_cons,List.append_assoc] at ih ⊢
  by_cases hc:c=34∨c=92
  · rw [if_pos hc]
    simp only [List.cons_append,List.nil_append]
    rw [vJ,if_neg (by decide),if_pos rfl]
    simp only [h.1,if_true,ih,Option.map_some]
  · rw [if_neg hc]
    simp only [List.cons_append,List.nil_append]
    rw [vJ,if_neg fun h=>hc (.inl h),if_neg fun h=>hc (.inr h)]
    simp only [h.1,if_true,ih,Option.map_some]
theorem M7 {a:aE} (hn:ek a=false) (h:ew a=true) (more:List UInt8):∃r,j3 a=60::r∧nx r≠62∧nx r≠64∧(∀r',vK r'=some (r++more)→BW r'=some (a,more)):=by
 simp only [ew,hn,Bool.false_or,Bool.and_eq_true] at h
 obtain ⟨⟨hl,hd⟩, -⟩:=h
 simp only [vL,Bool.and_eq_true] at hl
 unfold j3
 cases hp:fU a.aD with
 |true=>
  obtain ⟨c,t,ht,hc⟩:=Gl hp
  obtain ⟨-,WT,WX,D4⟩:=Ay c hc
  refine ⟨a.aD++64::(a.domain++[62]),by simp, ?_, ?_, ?_⟩
  · rw [ht];simpa [nx] using WT
  · rw [ht];simpa [nx] using WX
  · intro r' hr'
    have e:(a.aD++64::(a.domain++[62]))++more=a.aD++64::(a.domain++62::more):=by simp
    obtain ⟨h1,h2⟩:=Kc (q:=ug) (x:=64) (by decide) (Jd hp) (a.domain++62::more)
    unfold BW
    rw [hr',e]
    have QZ:qb (a.aD++64::(a.domain++62::more))=some (a.aD,64::(a.domain++62::more)):=by
     unfold qb
     rw [if_neg (by rw [ht];simpa [nx] using D4),h1,h2,if_pos hp]
    simp only [QZ]
    rw [if_pos (show nx (64::(a.domain++62::more))=64 from rfl)]
    simp only [List.drop_succ_cons,List.drop_zero]
    rw [vM hd (by decide)]
    rfl
 |false=>
  refine ⟨34::(esc a.aD++34::64::(a.domain++[62])),by simp,by simp [nx],by simp [nx], ?_⟩
  intro r' hr'
  have e:(34::(esc a.aD++34::64::(a.domain++[62])))++more=34::(esc a.aD++34::64::(a.domain++62::more)):=by simp
  unfold BW
  rw [hr',e]
  have QZ:qb (34::(esc a.aD++34::64::(a.domain++62::more)))=some (a.aD,64::(a.domain++62::more)):=by
   unfold qb
   rw [if_pos (show nx (34::(esc a.aD++34::64::(a.domain++62::more)))=34 from rfl)]
   simp only [List.drop_succ_cons,List.drop_zero]
   rw [TE hl.2]
   simp only
   rw [if_neg (by simpa using hl.1.1)]
  simp only [QZ]
  rw [if_pos (show nx (64::(a.domain++62::more))=64 from rfl)]
  simp only [List.drop_succ_cons,List.drop_zero]
  rw [vM hd (by decide)]
  rfl
theorem WY {a:aE} (hn:ek a=false) (h:ew a=true) (more:List UInt8):xk (j3 a++more)=(a,more,0):=by
 obtain ⟨r,hr,WT,WX,hb⟩:=M7 hn h more
 have aad:r≠[]:=by
  intro hr0
  subst hr0
  unfold j3 at hr
  split at hr
  · injection hr with _ hr;simp at hr
  · injection hr with _ hr;simp at hr
 have hnx:nx (r++more)=nx r:=by
  cases r with
  |nil=>exact absurd rfl aad
  |cons=>rfl
 unfold xk QV
 rw [hr,List.cons_append,if_pos (show nx (60::(r++more))=60 from rfl)]
 simp only [List.drop_succ_cons,List.drop_zero]
 rw [if_neg (by rw [hnx];exact WT),hb (r++more) (by unfold vK;rw [if_neg (by rw [hnx];exact WX)])]
 simp only
 rw [if_pos h]
theorem M8 {a:aE} {F:Nat} (hl:a.aD.length≤40000) (hd:a.domain.length≤40000) (hF:a.aD.length+a.domain.length+1<F):gq F a=some (if ek a then [60,62] else if ew a then j3 a else []):=by
 unfold gq
 rw [TA,Option.bind_some]
 cases ek a with
 |true=>rfl
 |false=>
  simp only [Bool.false_eq_true,if_false]
  rw [M5 (by omega) (by omega) hF,Option.bind_some]
  cases ew a with
  |false=>rfl
  |true=>
   simp only [Bool.not_true,Bool.false_eq_true,if_false,if_true]
   rw [Gi (by omega) (by omega) (by omega)]
   rfl
end Go.Proofs.bX
end
section
set_option maxRecDepth 100000
namespace Go.Proofs.bX
open Go Go.Am Go.Proofs
theorem Jf (n:Nat):(List.range 256).all (fun m=>decide (gO (n+30) (UInt8.ofNat m)=some (cR (UInt8.ofNat m))))=true:=by kernel_rfl
theorem Q0 {F:Nat} (hF:30≤F) (c:UInt8):gO F c=some (cR c):=by
 obtain ⟨n,rfl⟩:∃n,F=n+30:=⟨F - 30,by omega⟩
 have:=iM (p:=fun c=>decide (gO (n+30) c=some (cR c))) (Jf n) c
 simpa using this
def pr:Bool→List UInt8→Bool
 |_,[]=>true
 |p,c::r=>(if c=46 then p&&decide (r≠[]) else cR c)&&pr (decide (c≠46)) r
theorem Gm {F:Nat} {s:List UInt8} (hs:s.length≤90000) (Tz:30≤F):∀(r:List UInt8) (i G:Nat) (p:Bool),s.drop i=r→i+r.length=s.length→r.length<G→
 (if 0<i then ∃x,s[i - 1]? =some x∧p= !decide (x=46) else p=false)→iter (dH F s) G (i:Int)=some (if pr p r then .inr () else .inl false):=by
 intro r
 induction r with
 |nil=>
  intro i G p hd hi hG hp
  obtain ⟨G,rfl⟩:=cU hG
  rw [dc (t:=()) (by simp only [dH];rw [if_neg (by simp at hi ⊢;omega)])]
  rfl
 |cons c r ih=>
  intro i G p hd hi hG hp
  obtain ⟨G,rfl⟩:=cU (show 0<G by omega)
  obtain ⟨h1,h2,h3⟩:=drop_cons hd
  simp only [List.length_cons] at hi hG
  have F3:fH s (i:Int)=some (decide (c=46)&&p&&decide (r≠[])):=by
   unfold fH
   rw [bF h2,Option.bind_some]
   by_cases hc:c=46
   · rw [if_pos (by simpa using hc)]
     by_cases h0:0<i
     · rw [if_pos h0] at hp
       obtain ⟨x,hx,hpx⟩:=hp
       rw [if_pos (by simpa using h0),wi (by omega)]
       by_cases hr:r=[]
       · rw [if_neg (by subst hr;simp at hi ⊢;omega)];simp [hr]
       · rw [if_pos (by have:0<r.length:=List.length_pos_iff.2 hr
                        simp;omega),wr (by omega) (by omega),show (i:Int) - 1=((i - 1:Nat):Int) by omega,bF hx,Option.bind_some,hpx]
         simp [hc,hr]
     · rw [if_neg h0] at hp
       rw [if_neg (by simpa using h0),hp];simp
   · rw [if_neg (by simpa using hc)];simp [hc]
  have hst:dH F s (i:Int)=if (if c=46 then p&&decide (r≠[]) else cR c)=true then some (.cu ((i+1:Nat):Int)) else some (.ret false):=by
   simp only [dH]
   rw [if_pos (by simpa using h1),F3,Option.bind_some]
   unfold iK
   rw [bF h2]
   simp only [Option.bind_some,Q0 Tz]
   by_cases hc:c=46
   · have h46:cR c=false:=by subst hc;decide
     simp only [hc,decide_true,Bool.true_and,if_true]
     subst hc
     cases hpp:(p&&decide (r≠[])) with
     |true=>simp only [Bool.not_true,Bool.false_eq_true,if_false,Option.bind_some,if_true];rw [wi (by omega)]
     |false=>simp only [Bool.not_false,if_true,Option.bind_some,h46,Bool.false_eq_true,if_false]
   · simp only [hc,decide_false,Bool.false_and,Bool.not_false,if_true,if_false,Option.bind_some]
     cases cR c with
     |true=>simp only [Bool.not_true,Bool.false_eq_true,if_false,if_true];rw [wi (by omega)]
     |false=>simp
  have WZ:pr p (c::r)=((if c=46 then p&&decide (r≠[]) else cR c)&&pr (decide (c≠46)) r):=rfl
  rw [WZ]
  obtain ⟨q,hq⟩:∃q,q=(if c=46 then p&&decide (r≠[]) else cR c):=⟨_,rfl⟩
  rw [←hq] at hst ⊢
  cases q with
  |false=>
   have Q1:=hst.trans (if_neg (by decide))
   rw [fQ Q1]
   simp
  |true=>
   have Q1:=hst.trans (if_pos rfl)
   rw [ck Q1,ih (i+1) G (decide (c≠46)) h3 (by omega) (by omega) (by rw [if_pos (by omega)];exact ⟨c,by simpa using h2,by simp⟩)]
   simp
theorem M9:∀(r:List UInt8) (p:Bool),r≠[]→pr p r=match aJ r with|[]=>false|h::t=>h.all cR&&(p||h !=[])&&t.all fun q=>q !=[]&&q.all cR:=by
 intro r
 induction r with
 |nil=>intro p h;exact absurd rfl h
 |cons c r ih=>
  intro p _
  simp only [pr,aJ]
  by_cases hc:c=46
  · simp only [if_pos hc]
    by_cases hr:r=[]
    · subst hr;simp [aJ]
    · have h2:=ih false hr
      have hd:decide (c≠46)=false:=by simpa using hc
      rw [hd,h2]
      cases hs:aJ r with
      |nil=>exact absurd hs (eL r)
      |cons h t=>
       simp only [hr,ne_eq,not_false_eq_true,decide_true,Bool.and_true,List.all_nil,Bool.true_and,List.all_cons,Bool.false_or]
       cases p<;>cases h.all cR<;>cases (h !=[])<;>simp
  · simp only [if_neg hc]
    have hd:decide (c≠46)=true:=by simpa using hc
    rw [hd]
    by_cases hr:r=[]
    · subst hr;simp [aJ,pr]
    · rw [ih true hr]
      cases hs:aJ r with
      |nil=>exact absurd hs (eL r)
      |cons h t=>
       simp only [List.all_cons,Bool.true_or,Bool.and_true]
       have:(c::h !=[])=true:=rfl
       rw [this]
       cases cR c<;>cases p<;>simp
theorem Q2 {F:Nat} {s:List UInt8} (hs:s.length≤80000) (hF:s.length+30<F):jB F s=some (fU s):=by
 unfold jB
 rw [show (0:Int)=((0:Nat):Int) from rfl,Gm (by omega) (by omega) s 0 F false rfl (by simp) (by omega) (by simp)]
 simp only [Option.bind_some]
 by_cases h:s=[]
 · subst h;simp [pr,fU,aJ]
 · rw [M9 s false h]
   unfold fU
   cases hsp:aJ s with
   |nil=>exact absurd hsp (eL s)
   |cons a t=>
    simp only [Bool.false_or,List.all_cons]
    cases h1:a.all cR<;>cases h2:(a !=[])<;>cases h3:(t.all fun q=>q !=[]&&q.all cR)<;>simp [h]
theorem Q3 (x:UInt8):(if decide (x<32)=true then some true else some (decide (126<x)))=some (!ei x):=by
 have:=iM (p:=fun x=>decide ((if decide (x<32)=true then some true else some (decide (126<x)))=some (!ei x))) (by kernel_rfl) x
 exact of_decide_eq_true this
theorem Q4 {s:List UInt8} {F:Nat} (hF:65<F):jv F s=some (vL s):=by
 unfold jv vL
 by_cases h:s=[]
 · subst h;rfl
 · by_cases h2:64<s.length
   · rw [if_pos (by simp;omega),decide_eq_false (by omega)];simp
   · rw [if_neg (by simp [h];omega),decide_eq_true (by omega)]
     have hh:=scan (s:=s) (F:=F) (body:=dD s) (mk:=fun i=>(i:Int)) (p:=ei) (rr:=fun _=>false) (tt:=()) ?_ ?_ ?_ (by omega)
     · cases ha:s.all ei with
       |true=>have:=hh.1 ha;rw [show ((0:Nat):Int)=0 from rfl] at this;rw [this];simp [h]
       |false=>obtain ⟨j,hj⟩:=hh.2 ha;rw [show ((0:Nat):Int)=0 from rfl] at hj;rw [hj];simp
     · intro i x hx hp
       have hi:=(List.getElem?_eq_some_iff.1 hx).1
       simp only [dD,fF]
       rw [if_pos (by simpa using hi),bF hx,Option.bind_some,Q3,Option.bind_some,hp,wi (by omega)];rfl
     · intro i x hx hp
       have hi:=(List.getElem?_eq_some_iff.1 hx).1
       simp only [dD,fF]
       rw [if_pos (by simpa using hi),bF hx,Option.bind_some,Q3,Option.bind_some,hp];rfl
     · simp [dD]
theorem TF {s:List UInt8} {F:Nat} (hF:99010<F):dQ F s=some (jc s):=by
 by_cases h:s.length≤99000
 · exact WO h (by omega)
 · unfold dQ jc
   rw [if_pos (by simp;omega),decide_eq_false (by omega)]
   rfl
theorem Jg {a:aE} (hl:a.aD.length≤80000):∀(r:List UInt8) (i F:Nat) (b:List UInt8),a.aD.drop i=r→i+r.length=a.aD.length→b.length≤2*i+2→r.length<F→
 iter (ec a) F (b,(i:Int))=some (.inr (b++esc r)):=by
 intro r
 induction r with
 |nil=>
  intro i F b hd hi hb hF
  obtain ⟨G,rfl⟩:=cU hF
  rw [dc (t:=b) (by simp only [ec];rw [if_neg (by simp at hi ⊢;omega)])]
  simp [esc]
 |cons c r ih=>
  intro i F b hd hi hb hF
  obtain ⟨G,rfl⟩:=cU (show 0<F by omega)
  obtain ⟨h1,h2,h3⟩:=drop_cons hd
  simp only [List.length_cons] at hi hF
  have hst:ec a (b,(i:Int))=some (.cu (b++(if c=34∨c=92 then [92,c] else [c]),((i+1:Nat):Int))):=by
   simp only [ec,jC]
   rw [if_pos (by simpa using h1),bF h2]
   simp only [Option.bind_some]
   by_cases D4:c=34
   · subst D4
     simp only [decide_true,if_true,Option.bind_some,true_or]
     rw [cA (by simp;omega) (by omega),Option.bind_some,cA (by simp;omega) (by omega),Option.bind_some,wi (by omega)]
     simp
   · by_cases Jc:c=92
     · subst Jc
       rw [if_neg (by decide)]
       simp only [decide_true,Option.bind_some,if_true,or_true]
       rw [cA (by simp;omega) (by omega),Option.bind_some,cA (by simp;omega) (by omega),Option.bind_some,wi (by omega)]
       simp
     · rw [if_neg (by simpa using D4)]
       simp only [Option.bind_some]
       rw [if_neg (by simpa using Jc),cA (by simp;omega) (by omega),Option.bind_some,wi (by omega),if_neg (by simp [D4,Jc])]
  rw [ck hst,ih (i+1) G _ h3 (by omega) (by split<;>simp<;>omega) (by omega)]
  simp [esc]
theorem Kd {a:aE} {F:Nat} (hn:ek a=false) (hl:a.aD.length≤80000) (hd:a.domain.length≤80000) (hF:a.aD.length+30<F):gv F a=some (j3 a):=by
 have he:=Gh a.aD
 unfold gv j3
 rw [ek] at hn
 rw [hn,Q2 hl hF]
 simp only [Bool.false_eq_true,if_false,Option.bind_some]
 cases fU a.aD with
 |true=>
  simp only [if_true]
  rw [aO (by simp;omega),Option.bind_some,aO (by simp;omega),Option.bind_some,aO (by simp;omega),Option.bind_some,aO (by simp;omega),Option.bind_some]
  simp
 |false=>
  simp only [Bool.false_eq_true,if_false]
  rw [show (([60,34]:List UInt8),(0:Int))=(([60,34]:List UInt8),((0:Nat):Int)) from rfl,Jg hl a.aD 0 F [60,34] (by simp) (by simp) (by simp) (by omega)]
  simp only [Option.bind_some]
  try unfold jD
  rw [cA (by simp;omega) (by omega),Option.bind_some,aO (by simp;omega),Option.bind_some,aO (by simp;omega),Option.bind_some,aO (by simp;omega),Option.bind_some]
  simp
theorem Q5 {a:aE} {F:Nat} (hl:a.aD.length≤80000) (hd:a.domain.length≤80000) (hF:99010<F):jE F a=some (ew a):=by
 unfold jE iL ew
 cases hn:ek a with
 |true=>rw [ek] at hn;rw [hn];rfl
 |false=>
  have hn':=hn
  rw [ek] at hn
  rw [hn]
  simp only [Bool.false_eq_true,if_false,Bool.false_or]
  rw [Q4 (by omega),Option.bind_some]
  cases hlb:vL a.aD with
  |false=>rfl
  |true=>
   simp only [if_true,Bool.true_and]
   rw [TF hF,Option.bind_some]
   cases hdb:jc a.domain with
   |false=>rfl
   |true=>
    simp only [if_true,Bool.true_and]
    rw [Kd hn' hl hd (by omega)]
    simp
    omega
end Go.Proofs.bX
end
section
set_option maxRecDepth 100000
namespace Go.Proofs.bX
open Go Go.Am Go.Proofs
abbrev A0:aE:=aE.mk ([]:List UInt8) ([]:List UInt8)
end Go.Proofs.bX
end
section
set_option maxRecDepth 100000
namespace Go.Proofs.bX
open Go Go.Am Go.Proofs
def Q6 (a:aE):List UInt8:=if ek a then [60,62] else j3 a
theorem Q7 (c:UInt8):mI c=true→ei c=true:=by
 have:=iM (p:=fun c=> !mI c||ei c) (by kernel_rfl) c
 intro h;simpa [h] using this
theorem Q8 {l:List UInt8} (h:l.all ei=true):∀c∈esc l,ei c=true:=by
 intro c hc
 unfold esc at hc
 rw [List.mem_flatMap] at hc
 obtain ⟨d,hd,hc⟩:=hc
 have hv:=List.all_eq_true.1 h d hd
 split at hc
 · simp at hc
   rcases hc with rfl|rfl
   · decide
   · exact hv
 · simp at hc;subst hc;exact hv
theorem TG {a:aE} (h:ew a=true):∀c∈Q6 a,ei c=true:=by
 unfold Q6
 cases hn:ek a with
 |true=>rw [if_pos rfl];decide
 |false=>
  simp only [Bool.false_eq_true,if_false]
  simp only [ew,hn,Bool.false_or,Bool.and_eq_true] at h
  obtain ⟨⟨hl,hd⟩, -⟩:=h
  simp only [vL,Bool.and_eq_true] at hl
  have hdv:∀c∈a.domain,ei c=true:=fun c hc=>Q7 c (Az hd c hc)
  have hlv:∀c∈a.aD,ei c=true:=fun c hc=>List.all_eq_true.1 hl.2 c hc
  intro c hc
  unfold j3 at hc
  split at hc
  · simp only [List.mem_cons,List.mem_append,List.mem_nil_iff,or_false] at hc
    rcases hc with rfl|hc|rfl|hc|rfl
    · decide
    · exact hlv c hc
    · decide
    · exact hdv c hc
    · decide
  · simp only [List.mem_cons,List.mem_append,List.mem_nil_iff,or_false] at hc
    rcases hc with rfl|rfl|hc|rfl|rfl|hc|rfl
    · decide
    · decide
    · exact Q8 hl.2 c hc
    · decide
    · decide
    · exact hdv c hc
    · decide
theorem aaB {a:aE} (h:ew a=true):(Q6 a).length≤256:=by
 unfold Q6
 cases hn:ek a with
 |true=>simp
 |false=>
  simp only [ew,hn,Bool.false_or,Bool.and_eq_true,decide_eq_true_eq] at h
  simpa using h.2
theorem Q9 {a:aE} (h:ek a=true):a=A0:=by
 unfold ek at h
 simp only [Bool.and_eq_true,decide_eq_true_eq] at h
 cases a;simp at h;simp [h]
end Go.Proofs.bX
end
section
set_option maxRecDepth 100000
namespace Go.Proofs.bX
open Go Go.Am Go.Proofs
def vN (a:aE):List UInt8:=if ek a then [60,62] else if ew a then j3 a else []
theorem TH (a:aE):(vN a).length≤256:=by
 unfold vN
 split
 · simp
 · split
   · rename_i h1 h2
     simp only [ew,h1,Bool.false_or,Bool.and_eq_true,decide_eq_true_eq] at h2
     exact h2.2
   · simp
theorem Na {a:aE} {F:Nat} (hl:a.aD.length≤400) (hd:a.domain.length≤600) (hF:99010<F):fA F a=some (vN a):=by
 unfold fA vN
 rw [Q5 (by omega) (by omega) hF]
 simp only [Option.bind_some]
 cases hr:ew a with
 |false=>
  have hn:ek a=false:=by
   cases h:ek a with
   |false=>rfl
   |true=>simp [ew,h] at hr
  simp [hn]
 |true=>
  simp only [Bool.not_true,Bool.false_eq_true,if_false,if_true]
  cases hn:ek a with
  |true=>
   rw [Q9 hn]
   unfold gv
   rfl
  |false=>
   rw [Kd hn (by omega) (by omega) (by omega)]
   simp
end Go.Proofs.bX
end
section
set_option maxRecDepth 100000
namespace Go.Proofs.bX
open Go Go.Am Go.Proofs
theorem Jh (t:Int) {F:Nat} (hF:3000000<F):∃d,cx F t=some d∧dw F t=some d∧d.length=31∧∀c∈d,c≠13:=by
 have e:min (max (min (max t 0) 253402300799) 0) 253402300799=min (max t 0) 253402300799:=by omega
 have h1:cx F t=cx F (min (max t 0) 253402300799):=by
  unfold cx
  rw [e]
 have p1:∀t:Int,ef t=some (max t 0):=by
  intro t;unfold ef
  by_cases h:t<0
  · rw [if_pos (by simpa using h)];congr 1;omega
  · rw [if_neg (by simpa using h)];congr 1;omega
 have p2:∀t:Int,eg t=some (min t 253402300799):=by
  intro t;unfold eg
  by_cases h:253402300799<t
  · rw [if_pos (by simpa using h)];congr 1;omega
  · rw [if_neg (by simpa using h)];congr 1;omega
 have h2:dw F t=dw F (min (max t 0) 253402300799):=by
  unfold dw
  simp only [p1,p2,bs]
  rw [e]
 obtain ⟨n,hn⟩:∃n:Nat,min (max t 0) 253402300799=(n:Int):=⟨(min (max t 0) 253402300799).toNat,by omega⟩
 have hn2:n≤253402300799:=by omega
 obtain ⟨y,m,a,hc,h⟩:=J7 (F:=F) hn2 hF
 obtain ⟨hy,hm,ha⟩:=yH hc (by omega)
 refine ⟨_,by rw [h1,hn];exact h,by rw [h2,hn];exact WA hn2 hF hc,BP (Nat.mod_lt _ (by decide)) hm,J8 (Nat.mod_lt _ (by decide)) hm (by omega) hy (Nat.mod_lt _ (by decide))⟩
theorem Gn {fr dO id p d:List UInt8} {t:Int} {a:aE} {F:Nat} (hp:fA F a=some p) (hd:dw F t=some d)
 (h1:fr.length≤300) (h2:dO.length≤300) (h3:id.length≤100) (h4:p.length≤1000) (h5:d.length=31):fI F fr dO id t a=some ⟨jg,l1 fr dO id++(nl++l2 p d)⟩:=by
 unfold fI
 rw [aO (by simp;omega)];simp only [Option.bind_some]
 rw [aO (by simp;omega)];simp only [Option.bind_some]
 rw [aO (by simp;omega)];simp only [Option.bind_some]
 rw [aO (by simp;omega)];simp only [Option.bind_some]
 rw [aO (by simp;omega)];simp only [Option.bind_some]
 rw [aO (by simp;omega),hp];simp only [Option.bind_some]
 rw [aO (by simp;omega)];simp only [Option.bind_some]
 rw [aO (by simp;omega),hd];simp only [Option.bind_some]
 rw [aO (by simp;omega)]
 simp [l1,l2,jg]
theorem xG {x:List UInt8} {F:Nat} (hx:x.length≤1000) (hF:2000<F):
 (Aw x=true→iter (bH x) F 0=some (.inr ()))∧(Aw x=false→∃j:Nat,iter (bH x) F 0=some (.inl true)):=by
 refine scan (s:=x) (body:=bH x) (mk:=fun i=>(i:Int)) (p:=fun c=> !(decide (c=13)||decide (c=10))) (rr:=fun _=>true) (tt:=()) ?_ ?_ ?_ (F:=F) (by omega)
 · intro k c hc hp
   have hk:=(List.getElem?_eq_some_iff.1 hc).1
   simp only [bH,cP]
   rw [if_pos (by simpa using hk),bF hc]
   simp only [Option.bind_some]
   simp only [Bool.not_eq_true',Bool.or_eq_false_iff] at hp
   simp only [hp.1,hp.2,Bool.false_eq_true,if_false,Option.bind_some]
   rw [MS (by omega)]
 · intro k c hc hp
   have hk:=(List.getElem?_eq_some_iff.1 hc).1
   simp only [bH,cP]
   rw [if_pos (by simpa using hk),bF hc]
   simp only [Option.bind_some]
   by_cases h:c=13
   · simp [h]
   · have:c=10:=by simpa [h] using hp
     simp [this]
 · simp only [bH]
   rw [if_neg (by simp)]
theorem Gp {a b c:List UInt8} {F:Nat} (ha:a.length≤1000) (hb:b.length≤1000) (hc:c.length≤1000) (hF:2000<F):
 (([a,b,c].all Aw)=true→iter (bJ F a b c) F 0=some (.inr ()))∧(([a,b,c].all Aw)=false→∃j:Nat,iter (bJ F a b c) F 0=some (.inl true)):=by
 refine scan (s:=[a,b,c]) (body:=bJ F a b c) (mk:=fun i=>(i:Int)) (p:=Aw) (rr:=fun _=>true) (tt:=()) ?_ ?_ ?_ (F:=F) (by simp;omega)
 · intro k x hx hp
   have hk:=(List.getElem?_eq_some_iff.1 hx).1
   have hl:x.length≤1000:=by
    have:=List.mem_of_getElem? hx
    simp at this;rcases this with rfl|rfl|rfl<;>omega
   simp only [List.length_cons,List.length_nil] at hk
   simp only [bJ]
   rw [if_pos (by simp;omega),bF hx]
   simp only [Option.bind_some]
   rw [(xG hl hF).1 hp]
   simp only [Option.bind_some]
   rw [MS (by omega)]
 · intro k x hx hp
   have hk:=(List.getElem?_eq_some_iff.1 hx).1
   have hl:x.length≤1000:=by
    have:=List.mem_of_getElem? hx
    simp at this;rcases this with rfl|rfl|rfl<;>omega
   simp only [List.length_cons,List.length_nil] at hk
   simp only [bJ]
   rw [if_pos (by simp;omega),bF hx]
   simp only [Option.bind_some]
   obtain ⟨_,h⟩:=(xG hl hF).2 hp
   rw [h];rfl
 · simp only [bJ]
   rw [if_neg (by simp)]
theorem W0 (c:UInt8):ei c=true→c≠13:=by
 rintro h rfl;cases h
theorem aae (a:aE):∀c∈vN a,c≠13:=by
 unfold vN
 split
 · decide
 · rename_i hn
   split
   · rename_i h
     have:=TG h
     unfold Q6 at this
     rw [if_neg hn] at this
     exact fun c hc=>W0 c (this c hc)
   · simp
theorem Nb (body:List UInt8):tf (nl++body)=([],whole body):=by
 have e:whole (nl++body)=nl++whole body:=Av (y:=[]) (body:=body)
 unfold tf
 rw [e]
 have hg:cg nl (nl++whole body)=some ([],whole body):=by
  have:=Au (x:=[]) (more:=whole body) (by simp)
  simpa using this
 simp only [iG,hg]
 rfl
theorem vO (fr dO id:List UInt8) (t:Int) (a:aE) (body:List UInt8):∃F,eP F fr dO id t a body=some true:=by
 refine ⟨4000000+100, ?_⟩
 unfold eP
 rw [QG]
 simp only [Option.bind_some,Bool.not_true,Bool.false_eq_true,if_false]
 have F3:cN fr dO id a body=some (decide (300<fr.length∨300<dO.length∨100<id.length∨¬(a.aD.length≤400∧a.domain.length≤600)∨4096<body.length)):=by
  unfold cN pW
  by_cases c1:300<fr.length
  · rw [if_pos (by simp;omega)];simp [c1]
  · rw [if_neg (by simp;omega)]
    by_cases c2:300<dO.length
    · rw [if_pos (by simp;omega)];simp [c2]
    · rw [if_neg (by simp;omega)]
      by_cases c3:100<id.length
      · rw [if_pos (by simp;omega)];simp [c3]
      · rw [if_neg (by simp;omega)]
        simp only [Option.bind_some]
        by_cases c4:a.aD.length≤400∧a.domain.length≤600
        · rw [if_neg (by simp;omega)]
          simp [c1,c2,c3,c4];omega
        · rw [if_pos (by simp;omega)]
          simp [c1,c2,c3];left;omega
 rw [F3]
 simp only [Option.bind_some]
 by_cases hc:300<fr.length∨300<dO.length∨100<id.length∨¬(a.aD.length≤400∧a.domain.length≤600)∨4096<body.length
 · rw [decide_eq_true hc];rfl
 · rw [decide_eq_false hc]
   simp only [Bool.false_eq_true,if_false]
   have hf:fr.length≤300:=by omega
   have hb:dO.length≤300:=by omega
   have hi:id.length≤100:=by omega
   have hl:a.aD.length≤400:=by omega
   have hd0:a.domain.length≤600:=by omega
   have hbd:body.length≤4096:=by omega
   obtain ⟨d,hd,Ty,W3,aaf⟩:=Jh t (F:=4000000+100) (by omega)
   have WZ:gq (4000000+100) a=some (vN a):=by rw [M8 (by omega) (by omega) (by omega)];rfl
   have aag:fA (4000000+100) a=some (vN a):=Na hl hd0 (by omega)
   have hpl:=TH a
   rw [DX (dO:=dO) WZ hd hf hb hi (by omega) W3]
   simp only [Option.bind_some]
   have Tq:cO (4000000+100) fr dO id t a ⟨jg,l1 fr dO id++(nl++l2 (vN a) d)⟩=some false:=by
    unfold cO
    rw [Gn (dO:=dO) aag Ty hf hb hi (by omega) W3]
    simp only [Option.bind_some]
    rw [if_neg (by simp),hd,Ty]
    simp
   rw [Tq]
   simp only [Option.bind_some,Bool.false_eq_true,if_false]
   obtain ⟨c1,c2⟩:=Gp (a:=fr) (b:=dO) (c:=id) (F:=4000000+100) (by omega) (by omega) (by omega) (by omega)
   cases hn:[fr,dO,id].all Aw with
   |false=>obtain ⟨_,h⟩:=c2 hn;rw [h];rfl
   |true=>
    rw [c1 hn]
    simp only [Option.bind_some]
    have Rm:(l1 fr dO id).length=fr.length+dO.length+id.length+24:=by simp [l1];omega
    have vU:(l2 (vN a) d).length=(vN a).length+38:=by simp [l2,W3]
    rw [Tw (by simp) (by simp [vH];omega) (by simp [jg]) hbd (by omega)]
    simp only [Option.bind_some]
    have he:rO [⟨jg,l1 fr dO id++(nl++l2 (vN a) d)⟩]++(nl++body)=jg++([58]++(l1 fr dO id++(nl++(l2 (vN a) d++(nl++(nl++body)))))):=by
     have hnm:s7 jg=true:=by decide
     simp [rO,rN,line,hnm]
    simp only [List.all_cons,List.all_nil,Bool.and_true,Bool.and_eq_true] at hn
    have hs:=DY (dO:=dO) (DZ hn.1) (DZ hn.2.1) (DZ hn.2.2) (p:=vN a) (aae a) aaf (b:=nl++body) (by simp)
    rw [Nb] at hs
    rw [he,Qy (by simp [jg,Rm,vU];omega) (by omega),hs]
    simp only [Option.bind_some]
    unfold dN
    rw [if_pos (by simp),show ∀(f:aG) (l:List aG),idx (f::l) 0=some f from fun f l=>by simp [idx]]
    simp only [Option.bind_some]
    rw [if_pos (by simp),QH (by omega)]
    simp only [Option.bind_some]
    rw [if_pos (by simp)]
    unfold p7
    rw [Ww (by simp) (by simp) (by simp [jg]) (by omega) (by simp)]
    simp only [Option.bind_some]
    simp [J5,sK,jg]
end Go.Proofs.bX
end
section
namespace Go.Am
open Go Go.RowKit
variable [Tabs]
def C0 (W:World) (b:Nat):List Value:=match W.heap[b]? with
 |some (.cells cs _ _)=>cs.toList
 |_=>[]
theorem az.row {P:Program} {f:Nat} {args:List AV} {R:AV→AH→Prop} (h:az P f args [] R) {W:World} {vs:Array Value} (htab:∀e∈Tabs.l,∃cs ty fr,W.heap[e.1]? =some (.cells cs ty fr)∧e.2 cs) (hl:vs.size=args.length)
 (hv:∀(i:Nat) (a:AV),args[i]? =some a→VR (C0 W) [] a (vs.getD i undef)∧TC W (C0 W) a (vs.getD i undef)∧a.plain=true):
 Calls P f vs W fun e w'=>∃r v ax γ' C',e= .returned v∧R r ax∧VR C' γ' r v∧Below W.heap.size W w':=by
 have hg:∀t,get (dJ 0 args) t=(args[t]?).getD .un:=fun t=>by rw [c6];simp
 have hno:∀p b,¬blk [] (dJ 0 args) [] vs W p b:=by
  intro p b hp
  cases p with
  |obj s=>simp [blk] at hp
  |cell s i=>obtain ⟨cs,a,b0,h1, -⟩:=hp;simp at h1
  |tmp t=>
   simp only [blk,hg] at hp
   cases ht:args[t]? with
   |none=>rw [ht] at hp;simp [bz] at hp
   |some a=>rw [ht] at hp;simp only [Option.getD_some] at hp;rw [fK _ (fm (hv t a ht).2.2)] at hp;cases hp
 have hs:SR [] args.length (fun b=>b<W.heap.size) [] (C0 W) (dJ 0 args) [] vs W:=by
  refine ⟨⟨rfl,fun s b cs hs=>by simp at hs,fun b hne=> ?_,fun s b cs hs=>by simp at hs,fun s b cs us ty fr hs=>by simp at hs⟩,hl,fun t=> ?_,fun p q b hp=>absurd hp (hno p b),fun p b hp=>absurd hp (hno p b),⟨fun b hb=>hb,fun e he=> ?_⟩,fun t l k xs ht=> ?_⟩
  · unfold C0 at hne ⊢
    split at hne
    · rename_i cs ty fr hb
      rw [hb]
      exact ⟨cs,ty,fr,rfl,List.prefix_refl _⟩
    · exact absurd rfl hne
  · rw [hg]
    cases ht:args[t]? with
    |none=>exact ⟨.un ..,by cases vs.getD t undef<;>trivial⟩
    |some a=>exact ⟨(hv t a ht).1,(hv t a ht).2.1⟩
  · obtain ⟨cs0,ty,fr,h2,h5⟩:=htab e he
    have h4:e.1<W.heap.size:=by
     rcases Nat.lt_or_ge e.1 W.heap.size with h3|h3
     · exact h3
     · rw [Array.getElem?_eq_none h3] at h2;cases h2
    exact ⟨h4,cs0,ty,fr,h2,h5⟩
  · rw [hg] at ht
    cases hq:args[t]? with
    |none=>rw [hq] at ht;simp at ht
    |some a=>rw [hq] at ht;exact absurd ht (rT (hv t a hq).2.2 l k xs)
 refine (h.2 _ [] (C0 W) W vs hs).mono ?_
 rintro e w' ⟨r,v,ax,γ',C',rfl,hR, -,hs',hx⟩
 refine ⟨r,v,ax,γ',C',rfl,hR, ?_,hx.out.1,hx.out.2.1,hx.out.2.2,hx.size,fun k hk=>(hx.keep k hk).1⟩
 have:=(hs'.env 0).1
 simpa [get] using this
end Go.Am
end
section
namespace Go.Am
open Go Go.RowKit Go.Deep
variable [Tabs]
theorem Gq {W:World} {b o:Nat} {v:Value} (h:W.cell? ⟨b,o,none⟩=some v):o<(C0 W b).length∧(C0 W b).getD o undef=v:=by
 unfold C0
 unfold World.cell? at h
 simp only at h
 split at h
 · rename_i cs ty fr hb
   rw [hb]
   simp only at h ⊢
   have hlt:o<cs.size:=by
    rcases Nat.lt_or_ge o cs.size with h'|h'
    · exact h'
    · rw [Array.getElem?_eq_none h'] at h;cases h
   rw [Array.getElem?_eq_getElem hlt] at h
   injection h with h
   refine ⟨by simpa using hlt, ?_⟩
   rw [List.getD_eq_getElem?_getD,List.getElem?_eq_getElem (by simpa using hlt)]
   simpa using h
 · cases h
section
variable {H:Type} {enc:TypeId×Value→H} {P:Program} {W:World} {sp:Nat→Bool} {held:Bool}
theorem aaY {t e:TypeId} {A:Type} (g:A→AV) {v:Value} {d:DataW H} {ps:List MemPlace} {base:Nat} {r:Reach} (ht:P.underlying t=some (.slice e)) (hc:P.cellsOf e=1) (hval:Value.okWide P W r base t v)
 (h:DataW.Trod enc P W 0 sp held t v d ps)
 (hg:∀x,(g x).cells=[g x]) (he:∀n V y,DataW.trod enc P W 0 sp held n e [V]=some y→V.oneCell'=true∧∃x,VR (C0 W) [] (g x) V):∃xs:List A,VR (C0 W) [] (.sl .n 1 (xs.map g)) v:=by
 have hv:(v= .slice none 0 0)∨∃a len cap,v= .slice (some a) len cap∧a.spot=none:=by
  unfold Value.okWide at hval
  rw [ht] at hval
  simp only [Cell.okWide,ht,Cell.ok] at hval
  cases v with
  |slice a len cap=>
   cases a with
   |none=>cases len<;>cases cap<;>first|exact .inl rfl|exact hval.elim
   |some a=>exact .inr ⟨a,len,cap,rfl,hval.2.2.2.1⟩
  |_=>exact hval.elim
 obtain ⟨fuel,h⟩:=h
 rcases hv with rfl|⟨a,len,cap,rfl,hsp⟩
 · exact ⟨[], .n7 ..⟩
 · rcases open_slice1 ht hc h with ⟨h0, -⟩|⟨a',len',cap',m,n,V,D,Pl,h1,hb,hl,hm,xJ,hx,hall⟩
   · simp [Value.cells] at h0
   · have h1:a'=a∧len'=len∧cap'=cap:=by simpa [Value.cells,eq_comm] using h1
     obtain ⟨rfl,rfl,rfl⟩:=h1
     have hlm:len'≤m:=by rw [xJ];split<;>omega
     have key:∀i,i<len'→∃x,VR (C0 W) [] (g x) (V i):=fun i hi=>(he n (V i) _ (hall i (by omega)).2).2
     obtain ⟨b,o,s⟩:=a'
     simp only at hsp
     subst hsp
     have hcell:∀i,i<len'→o+i<(C0 W b).length∧(C0 W b).getD (o+i) undef=V i:=fun i hi=>by
      have:=(hall i (by omega)).1
      rw [add_eq] at this
      exact Gq this
     by_cases h0:len'=0
     · subst h0;exact ⟨[], .n7 ..⟩
     let f:Nat→A:=fun i=>if hi:i<len' then Classical.choose (key i hi) else Classical.choose (key 0 (by omega))
     have hf:∀i,i<len'→VR (C0 W) [] (g (f i)) (V i):=fun i hi=>by
      show VR (C0 W) [] (g (if hi:i<len' then Classical.choose (key i hi) else Classical.choose (key 0 (by omega)))) (V i)
      rw [dif_pos hi]
      exact Classical.choose_spec (key i hi)
     refine ⟨(List.range len').map f, .sl _ _ _ _ _ _ _ _ (by simp) hl (fun i a hi=> ?_) ?_ (fun q h1 h2=> ?_) fun i a hi j y hj=> ?_⟩
     · rw [List.getElem?_map,List.getElem?_map] at hi
       cases hr:(List.range len')[i]? with
       |none=>rw [hr] at hi;simp at hi
       |some q=>rw [hr] at hi;simp at hi;subst hi;rw [hg];rfl
     · have:=(hcell (len' - 1) (by omega)).1;omega
     · have:=hcell (q - o) (by omega)
       rw [show o+(q - o)=q by omega] at this
       rw [this.2]
       exact (he n (V (q - o)) _ (hall (q - o) (by omega)).2).1
     · rw [List.getElem?_map,List.getElem?_map] at hi
       cases hr:(List.range len')[i]? with
       |none=>rw [hr] at hi;simp at hi
       |some q=>
        rw [hr] at hi
        have hq:=(List.getElem?_eq_some_iff.1 hr)
        obtain ⟨hlt,hq⟩:=hq
        simp at hlt hq
        subst hq
        simp at hi
        subst hi
        rw [hg] at hj
        cases j with
        |zero=>
         simp at hj
         subst hj
         have:=hcell i hlt
         rw [Nat.mul_one,Nat.add_zero,this.2]
         exact hf i hlt
        |succ j=>simp at hj
end
end Go.Am
end
section
namespace Go.Am
open Go Go.RowKit Go.Deep
variable [Tabs]
def CR (W:World) (zq:List AV) (vs:List Value):Prop:=
 zq.length=vs.length∧(∀v∈vs,v.oneCell'=true)∧∀(j:Nat) (a:AV),zq[j]? =some a→VR (C0 W) [] a (vs.getD j undef)
theorem CR.nil {W:World}:CR W [] []:=⟨rfl,by simp,by simp⟩
theorem CR.one {W:World} {a:AV} {V:Value} (h:VR (C0 W) [] a V) (ho:V.oneCell'=true):CR W [a] [V]:=by
 refine ⟨rfl,by simpa using ho,fun j b hj=> ?_⟩
 rcases j with _|j
 · simp at hj;subst hj;simpa using h
 · simp at hj
theorem CR.append {W:World} {zq bs:List AV} {vs ws:List Value} (h:CR W zq vs) (h2:CR W bs ws):CR W (zq++bs) (vs++ws):=by
 refine ⟨by simp [h.1,h2.1],fun v hv=> ?_,fun j a hj=> ?_⟩
 · rcases List.mem_append.1 hv with hv|hv
   · exact h.2.1 v hv
   · exact h2.2.1 v hv
 · rw [List.getElem?_append] at hj
   split at hj
   · rename_i hlt
     have:=h.2.2 j a hj
     rw [List.getD_eq_getElem?_getD,List.getElem?_append_left (by rw [←h.1];exact hlt), ←List.getD_eq_getElem?_getD]
     exact this
   · rename_i hlt
     have:=h2.2.2 _ a hj
     rw [List.getD_eq_getElem?_getD,List.getElem?_append_right (by rw [←h.1];omega), ←List.getD_eq_getElem?_getD, ←h.1]
     exact this
def AV.rN:AV→Bool
 | .sl .n _ _=>true
 | .sl _ _ _| .agg _| .aW _=>false
 |_=>true
def AV.W4:AV→Bool
 | .agg cs=>cs.all AV.rN
 |a=>a.rN
theorem TC.enc {w:World} {C:Nat→List Value} {a:AV} (h:a.W4=true) (v:Value):TC w C a v:=by
 have h1:∀(a:AV) (v:Value),a.rN=true→jd a v:=by
  intro a v h
  cases a with
  |sl t k xs=>cases t<;>first|exact B7 .. |cases h
  |_=>first|(cases h;done)|(cases v<;>trivial)
 cases a with
 |agg cs=>
  cases v with
  |agg vs=>
   intro i a hi
   exact h1 a _ (List.all_eq_true.1 h a (List.mem_of_getElem? hi))
  |_=>trivial
 |sl t k xs=>cases t<;>first|(cases h;done)|(cases v<;>trivial)
 |_=>first|(cases h;done)|(cases v<;>trivial)
section
variable {H:Type} (enc:TypeId×Value→H) (P:Program) (W:World) (sp:Nat→Bool) (held:Bool)
def Op (t:TypeId) {A:Type} (f:A→AV):Prop:=∀n cs y,DataW.trod enc P W 0 sp held n t cs=some y→∃x:A,CR W (f x).cells cs
end
section
variable {H:Type} {enc:TypeId×Value→H} {P:Program} {W:World} {sp:Nat→Bool} {held:Bool}
theorem TI {t:TypeId} {k:IntKind} (ht:P.underlying t=some (.int k)):Op enc P W sp held t (xx k):=by
 intro n cs y h
 cases n with
 |zero=>simp [DataW.trod] at h
 |succ n=>
  rcases cs with _|⟨V,_|⟨V2,r⟩⟩
  · simp [DataW.trod,ht] at h
  · cases V<;>simp [DataW.trod,ht] at h
    rename_i k' z
    obtain ⟨⟨rfl,hw⟩, -⟩:=h
    exact ⟨z,CR.one (.int ..) rfl⟩
  · simp [DataW.trod,ht] at h
theorem W5 {t:TypeId} (ht:P.underlying t=some (.int .u8)):Op enc P W sp held t b8:=by
 intro n cs y h
 cases n with
 |zero=>simp [DataW.trod] at h
 |succ n=>
  rcases cs with _|⟨V,_|⟨V2,r⟩⟩
  · simp [DataW.trod,ht] at h
  · cases V<;>simp [DataW.trod,ht] at h
    rename_i k' z
    obtain ⟨⟨rfl,hw⟩, -⟩:=h
    have hz:0≤z∧z≤255:=by
     simp [Lit.wf,IntKind.min,IntKind.max,IntKind.bits,IntKind.signed] at hw
     omega
    refine ⟨UInt8.ofNat z.toNat,CR.one ?_ rfl⟩
    have:((UInt8.ofNat z.toNat).toNat:Int)=z:=by simp [UInt8.toNat_ofNat];omega
    simp only [b8,this]
    exact .int ..
  · simp [DataW.trod,ht] at h
theorem aah {t:TypeId} (ht:P.underlying t=some .bool):Op enc P W sp held t AV.bool:=by
 intro n cs y h
 cases n with
 |zero=>simp [DataW.trod] at h
 |succ n=>
  rcases cs with _|⟨V,_|⟨V2,r⟩⟩
  · simp [DataW.trod,ht] at h
  · cases V<;>simp [DataW.trod,ht] at h
    exact ⟨_,CR.one (.bool ..) rfl⟩
  · simp [DataW.trod,ht] at h
theorem vP {t:TypeId} (ht:P.underlying t=some .string):Op enc P W sp held t AV.str:=by
 intro n cs y h
 cases n with
 |zero=>simp [DataW.trod] at h
 |succ n=>
  rcases cs with _|⟨V,_|⟨V2,r⟩⟩
  · simp [DataW.trod,ht] at h
  · cases V<;>simp [DataW.trod,ht] at h
    rename_i s
    refine ⟨s.data.toList,CR.one ?_ rfl⟩
    have:s=⟨s.data.toList.toArray⟩:=by cases s;simp
    have h2:=VR.str (C:=C0 W) [] s.data.toList
    rwa [←this] at h2
  · simp [DataW.trod,ht] at h
theorem Gr {A:Type} {p:Nat→A→Prop}:∀(n:Nat),(∀i,i<n→∃x,p i x)→∃xs:List A,xs.length=n∧∀(i:Nat) (x:A),xs[i]? =some x→p i x:=by
 intro n
 induction n with
 |zero=>intro _;exact ⟨[],rfl,by simp⟩
 |succ n ih=>
  intro h
  obtain ⟨xs,h1,h2⟩:=ih fun i hi=>h i (by omega)
  obtain ⟨x,hx⟩:=h n (by omega)
  refine ⟨xs++[x],by simp [h1],fun i y hy=> ?_⟩
  rw [List.getElem?_append] at hy
  split at hy
  · exact h2 i y hy
  · rename_i hlt
    have:i=n:=by
     have:=(List.getElem?_eq_some_iff.1 hy).1
     simp at this;omega
    subst this
    rw [h1] at hy;simp at hy;subst hy;exact hx
theorem W6 {t e:TypeId} {k:Nat} {A:Type} {f:A→AV} (ht:P.underlying t=some (.slice e)) (hk:P.cellsOf e=k) (uv:0<k) (hop:Op enc P W sp held e f) (hf:∀x,(f x).cells.length=k):
 Op enc P W sp held t (fun xs:List A=>AV.sl .n k (ml f xs)):=by
 intro n cs y h
 rcases open_slice ht h with ⟨rfl, -⟩|⟨a,len,cap,m,fu,D,Pl,rfl,hb,hl,hm,xJ, -,hx⟩
 · exact ⟨[],CR.one (.n7 ..) rfl⟩
 have hlm:len≤m:=by rw [xJ];split<;>omega
 by_cases h0:len=0
 · subst h0;exact ⟨[],CR.one (.n7 ..) rfl⟩
 subst hk
 have hel:∀i,i<len→∃x:A,∃cs',W.cells? 0 (a.add (i*P.cellsOf e)) (P.cellsOf e)=some cs'∧CR W (f x).cells cs':=fun i hi=>by
  obtain ⟨cs',h1,h2⟩:=hx i (by omega)
  obtain ⟨x,hc⟩:=hop _ _ _ h2
  exact ⟨x,cs',h1,hc⟩
 have hsp:a.spot=none:=by
  obtain ⟨x,cs',h1,hc⟩:=hel 0 (by omega)
  obtain ⟨-,h2,h3⟩:=World.cells?_some h1
  have h4:=h3 0 uv
  have h5:(a.add (0*P.cellsOf e)).add 0=a:=by simp [Addr.add]
  rw [h5,List.getElem?_eq_getElem (by omega)] at h4
  unfold World.cell? at h4
  split at h4
  · split at h4
    · cases h4
    · rename_i hq;cases hs:a.spot<;>simp_all
  · cases h4
 obtain ⟨b,o,s⟩:=a
 simp only at hsp
 subst hsp
 obtain ⟨xs,hlen,hxs⟩:=Gr len hel
 have hcell:∀(i:Nat) (x:A),xs[i]? =some x→∃cs',CR W (f x).cells cs'∧cs'.length=P.cellsOf e∧∀j,j<P.cellsOf e→o+i*P.cellsOf e+j<(C0 W b).length∧(C0 W b).getD (o+i*P.cellsOf e+j) undef=cs'.getD j undef:=fun i x hi=>by
  obtain ⟨cs',h1,hc⟩:=hxs i x hi
  obtain ⟨-,h2,h3⟩:=World.cells?_some h1
  refine ⟨cs',hc,h2,fun j hj=> ?_⟩
  have h4:=h3 j hj
  rw [add_add,add_eq,List.getElem?_eq_getElem (by omega)] at h4
  have:=Gq h4
  rw [Nat.add_assoc,List.getD_eq_getElem?_getD (l:=cs'),List.getElem?_eq_getElem (by omega)]
  exact this
 refine ⟨xs,CR.one (.sl _ _ _ _ _ _ _ _ (by rw [rW,hlen]) hl (fun i a hi=> ?_) ?_ (fun q h1 h2=> ?_) fun i a hi j y hj=> ?_) rfl⟩
 · rw [ml,List.getElem?_map] at hi
   cases hr:xs[i]? with
   |none=>rw [hr] at hi;simp at hi
   |some x=>rw [hr] at hi;simp at hi;subst hi;exact hf x
 · have GJ:len - 1<xs.length:=by omega
   obtain ⟨cs', -, -,h3⟩:=hcell (len - 1) _ (List.getElem?_eq_getElem GJ)
   have:=(h3 (P.cellsOf e - 1) (by omega)).1
   have h5:len*P.cellsOf e=(len - 1)*P.cellsOf e+P.cellsOf e:=by
    conv=>lhs;rw [show len=(len - 1)+1 by omega,Nat.succ_mul]
   omega
 · have hq:q - o<len*P.cellsOf e:=by omega
   have hi:(q - o) / P.cellsOf e<len:=Nat.div_lt_of_lt_mul (by rw [Nat.mul_comm];exact hq)
   have hj:(q - o) % P.cellsOf e<P.cellsOf e:=Nat.mod_lt _ uv
   obtain ⟨cs',hc,h2,h3⟩:=hcell ((q - o) / P.cellsOf e) _ (List.getElem?_eq_getElem (by omega))
   have h4:=(h3 _ hj).2
   have h5:o+(q - o) / P.cellsOf e*P.cellsOf e+(q - o) % P.cellsOf e=q:=by
    have:=Nat.div_add_mod (q - o) (P.cellsOf e)
    rw [Nat.mul_comm] at this
    omega
   rw [h5] at h4
   rw [h4,List.getD_eq_getElem?_getD,List.getElem?_eq_getElem (by omega)]
   exact hc.2.1 _ (List.getElem_mem ..)
 · rw [ml,List.getElem?_map] at hi
   cases hr:xs[i]? with
   |none=>rw [hr] at hi;simp at hi
   |some x=>
    rw [hr] at hi;simp at hi;subst hi
    obtain ⟨cs',hc,h2,h3⟩:=hcell i x hr
    have hjl:j<P.cellsOf e:=by rw [←hf x];exact (List.getElem?_eq_some_iff.1 hj).1
    rw [(h3 j hjl).2]
    exact hc.2.2 j y hj
theorem Ji {t:TypeId} {fs:Array Field} {A:Type} {f:A→AV} (ht:P.underlying t=some (.struct fs))
 (hb:∀cs:List Value,cs.length=P.cellsOf t→(∀(i:Nat) (fl:Field),fs[i]? =some fl→∃n y,DataW.trod enc P W 0 sp held n fl.type ((cs.drop fl.offset).take (P.cellsOf fl.type))=some y)→∃x,CR W (f x).cells cs):
 Op enc P W sp held t f:=by
 intro n cs y h
 obtain ⟨xs,m, -, -,hl,hlen,hf⟩:=DataW.trod_struct ht h
 refine hb cs hl fun i fl hfl=> ?_
 have hlt:i<xs.length:=by rw [hlen];exact (Array.getElem?_eq_some_iff.1 hfl).1
 exact ⟨m,xs[i],by rw [hf i fl hfl,List.getElem?_eq_getElem hlt]⟩
theorem seg {cs:List Value} {o k:Nat}:(cs.drop o).take k++cs.drop (o+k)=cs.drop o:=by
 rw [←List.drop_drop,List.take_append_drop]
theorem Op.arg1 {t:TypeId} {A:Type} {f:A→AV} (hop:Op enc P W sp held t f) (hf:∀x,(f x).cells=[f x]) {v:Value} {d:DataW H} {ps:List MemPlace} {r:Reach} {base:Nat} (hs:∀cs,¬Value.okWide P W r base t (.agg cs))
 (hval:Value.okWide P W r base t v) (h:DataW.Trod enc P W 0 sp held t v d ps):∃x,VR (C0 W) [] (f x) v:=by
 obtain ⟨fuel,h⟩:=h
 obtain ⟨x,h1, -,h3⟩:=hop _ _ _ h
 rw [hf] at h1 h3
 have hc:v.cells.toList=[v]:=by
  cases v with
  |agg cs=>exact absurd hval (hs cs)
  |_=>rfl
 rw [hc] at h3
 exact ⟨x,by simpa using h3 0 (f x) rfl⟩
theorem Op.aai {t:TypeId} {A:Type} {f:A→AV} (hop:Op enc P W sp held t f) {fs:Array Field} (ht:P.underlying t=some (.struct fs)) (hf:∀x,f x= .agg (f x).cells) {v:Value} {d:DataW H} {ps:List MemPlace} {r:Reach} {base:Nat}
 (hval:Value.okWide P W r base t v) (h:DataW.Trod enc P W 0 sp held t v d ps):∃x,VR (C0 W) [] (f x) v:=by
 obtain ⟨fuel,h⟩:=h
 obtain ⟨x,h1, -,h3⟩:=hop _ _ _ h
 unfold Value.okWide at hval
 rw [ht] at hval
 obtain ⟨cs,rfl, -, -⟩:=hval
 refine ⟨x, ?_⟩
 rw [hf x]
 refine .agg _ _ _ (by simpa [Value.cells] using h1) fun i a hi=> ?_
 have:=h3 i a hi
 simpa [Value.cells,Array.getD_eq_getD_getElem?,List.getD_eq_getElem?_getD] using this
theorem Jj {t:TypeId} {k:IntKind} {r:Reach} {base:Nat} (ht:P.underlying t=some (.int k)) (cs:Array Value):¬Value.okWide P W r base t (.agg cs):=by
 simp [Value.okWide,Cell.okWide,Cell.ok,ht]
theorem Ud {t:TypeId} {r:Reach} {base:Nat} (ht:P.underlying t=some .bool) (cs:Array Value):¬Value.okWide P W r base t (.agg cs):=by
 simp [Value.okWide,Cell.okWide,Cell.ok,ht]
theorem uh {t:TypeId} {r:Reach} {base:Nat} (ht:P.underlying t=some .string) (cs:Array Value):¬Value.okWide P W r base t (.agg cs):=by
 simp [Value.okWide,Cell.okWide,Cell.ok,ht]
theorem Nc {t e:TypeId} {r:Reach} {base:Nat} (ht:P.underlying t=some (.slice e)) (cs:Array Value):¬Value.okWide P W r base t (.agg cs):=by
 simp [Value.okWide,Cell.okWide,Cell.ok,ht]
theorem AA {ts:List TypeId} (hl:laidOutB P=true) {W W':World} (hb:Below W.heap.size W W'):∀ {vs:List Value} {ds:List (DataW H)} {ps:List MemPlace},(∀t∈ts,P.readableRec t=true∧t<P.types.size)→
 DataW.TrodAll enc P W 0 (fun _=>true) true ts vs ds ps→(∀x∈ps,x.block<W.heap.size)→DataW.TrodAll enc P W' 0 (fun b=>decide (b<W.heap.size)) true ts vs ds ps:=by
 induction ts with
 |nil=>
  intro vs ds ps _ h _
  cases vs<;>cases ds<;>simp [DataW.TrodAll] at h ⊢
  exact h
 |cons t ts ih=>
  intro vs ds ps ht h hlt
  cases vs<;>cases ds<;>simp only [DataW.TrodAll] at h ⊢
  obtain ⟨p,q,h1,h2,rfl⟩:=h
  exact ⟨p,q,Below.trod hl (ht t (by simp)).1 (ht t (by simp)).2 h1 hb (fun x hx=>hlt x (by simp [hx])),ih (fun t h=>ht t (by simp [h])) h2 (fun x hx=>hlt x (by simp [hx])),rfl⟩
end
end Go.Am
end
section
namespace Go.Proofs.YtfnnmecilcnloaaGreatDoor
open Go.ChangeShapes Go.WideShapes Go.ChangeAt Go.RowKit Go.Am Go.Proofs.bX
theorem W7.own:ownKnob Tryz.prog.godebug=none:=by kernel_rfl
theorem W7.laidOut:laidOutB Tryz.prog=true:=by kernel_rfl
def pK:List (String×DataW Unit):=[("math/bits.deBruijn32tab",Rows.laid_math_bits_deBruijn32tab),("math/bits.deBruijn64tab",Rows.laid_math_bits_deBruijn64tab),("internal/strconv.uint64pow10",Rows.laid_internal_strconv_uint64pow10),("unicode/utf8.acceptRanges",Rows.laid_unicode_utf8_acceptRanges),("strconv.ErrRange",Rows.laid_strconv_ErrRange),("strconv.ErrSyntax",Rows.laid_strconv_ErrSyntax),("unicode/utf8.first",Rows.laid_unicode_utf8_first)]
noncomputable def uj (os:Os):World:=
 {World.doorLaid Tryz.prog 4000 os with heap:=(World.doorLaid Tryz.prog 4000 os).heap.modify 6 fun
  | .cells _ t fr=> .cells (Go.Pinned.utf8FirstZ.map fun n:Nat=>Value.int .u8 (n:Int)).toArray t fr
  |o=>o}
set_option maxRecDepth 100000 in
theorem Nd (os:Os) (args:Array Value):laidMetH Tryz.prog pK ((uj os).forCall (fun _ _=>0) ⟨#[],args,[]⟩).memory:=
 laidMetH_of_parts3 (fuel:=8) (laidMet_of_run' 8 (by kernel_rfl) (by kernel_rfl)) (by kernel_rfl) (by kernel_rfl)
set_option maxRecDepth 100000 in
theorem D5 (os:Os) (args:Array Value):((uj os).forCall (fun _ _=>0) ⟨#[],args,[]⟩).Shaped Tryz.prog:=World.shaped_of_RefB (by kernel_rfl) (by kernel_rfl)
end Go.Proofs.YtfnnmecilcnloaaGreatDoor
end
section
namespace Go.Proofs.YtfnnmecilcnloaaGreatDoor
open Go.ChangeShapes Go.WideShapes Go.ChangeAt Go.RowKit Go.Am Go.Proofs.bX
theorem BX {t:TypeId} {ms:Array (String×TypeId)} (ht:Tryz.prog.underlying t=some (.interface ms)) {H:Type} {enc:TypeId×Value→H} {W:World} {sp:Nat→Bool} {held:Bool} {fuel:Nat} {cs:List Value} {y:DataW H×List MemPlace}
 (h:DataW.trod enc Tryz.prog W 0 sp held fuel t cs=some y):∃ev,cs=[ev]∧(ev= .nilIface∨∃te pe,ev= .iface te pe):=by
 cases fuel with
 |zero=>simp [DataW.trod] at h
 |succ n=>
  rcases cs with _|⟨v,_|⟨v2,r⟩⟩
  · simp [DataW.trod,ht] at h
  · cases v<;>first|exact ⟨_,rfl, .inl rfl⟩|exact ⟨_,rfl, .inr ⟨_,_,rfl⟩⟩|(exfalso;simp [DataW.trod,ht] at h)
  · cases v<;>simp [DataW.trod,ht] at h
theorem uk {W:World} {name:String} {g:Nat} {cs:Array Value} (hg:Tryz.prog.globalNamed name=some g) (h:W.var? Tryz.prog name=some cs):∃t fr,W.heap[g]? =some (.cells cs t fr):=by
 simp only [World.var?,hg,Option.bind_some] at h
 split at h
 · rename_i c t fr hb
   injection h with h
   subst h
   exact ⟨t,fr,hb⟩
 · cases h
theorem Jk {W:World} (hs:W.ShapedOpen Tryz.prog) (h:laidMetH Tryz.prog pK W):∀e∈Tabs.l,∃cs ty fr,W.heap[e.1]? =some (.cells cs ty fr)∧e.2 cs:=by
 rw [MakeChecks.laidMetH_plain _ _ _ (by kernel_rfl)] at h
 obtain ⟨ps,⟨g0,t0,cs0,f0,p0,q0,RD,ht0,hv0,hd0,⟨g1,t1,RH,f1,p1,q1,RO,ht1,hv1,hd1,⟨g2,t2,cs2,f2,p2,q2,NX,ht2,AF,Ew,⟨g3,t3,cs3,f3,p3,q3,hg3,ht3,XD,XM,⟨g4,t4,cs4,f4,p4,q4,hg4,ht4,hv4,hd4,⟨g5,t5,cs5,f5,p5,q5,hg5,ht5,hv5,hd5,_,_⟩,_⟩,_⟩,_⟩,_⟩,_⟩,_⟩:=h
 intro e he
 simp only [Tabs.l,List.mem_cons,List.mem_nil_iff,or_false] at he
 rcases he with rfl|rfl|rfl|rfl
 · obtain ⟨cs,hh,hsz, -⟩:=hs.1 0 #[.int .i64 0] 3 (of_decide_eq_true (by kernel_rfl)) (by kernel_rfl)
   obtain ⟨m,hm⟩:=cell_of_shapedOpen_int (g:=0) (t:=3) (k:= .i64) (zero:= #[.int .i64 0]) hs (of_decide_eq_true (by kernel_rfl)) (by kernel_rfl) rfl (by kernel_rfl) (by kernel_rfl) (by kernel_rfl)
   refine ⟨cs,_,_,hh,m, ?_⟩
   have h1:cs.size=1:=hsz
   apply Array.ext
   · exact h1
   · intro i hi _
     have:i=0:=by omega
     subst this
     simpa [World.cell?,hh,h1] using hm
 · have hg:Tryz.prog.globalNamed "internal/strconv.uint64pow10" =some 1:=by kernel_rfl
   obtain rfl:=Option.some.inj (hg.symm.trans NX)
   obtain rfl:=Option.some.inj ((show (Tryz.prog.globals[1]?).map (·.type)=some 85 by kernel_rfl).symm.trans ht2)
   have hc:cs2.toList=Lib.pow10Tab.map fun z=>Value.int .u64 z:=Lib.cells_of_tab (n:=20) (e:=71) (k:= .u64) Tryz.underlying85 (by kernel_rfl) (by kernel_rfl) (by kernel_rfl) Ew
   obtain ⟨t,fr,hb⟩:=uk hg AF
   refine ⟨cs2,t,fr,hb, ?_⟩
   simp only [←hc,Array.toArray_toList]
 · have hg:Tryz.prog.globalNamed "strconv.ErrSyntax" =some 4:=by kernel_rfl
   obtain rfl:=Option.some.inj (hg.symm.trans hg5)
   obtain rfl:=Option.some.inj ((show (Tryz.prog.globals[4]?).map (·.type)=some 80 by kernel_rfl).symm.trans ht5)
   obtain ⟨ev,he,hev⟩:=BX Tryz.underlying80 hd5
   obtain ⟨t,fr,hb⟩:=uk hg hv5
   exact ⟨cs5,t,fr,hb,ev,by rw [←Array.toArray_toList (xs:=cs5),he],hev⟩
 · have hg:Tryz.prog.globalNamed "strconv.ErrRange" =some 5:=by kernel_rfl
   obtain rfl:=Option.some.inj (hg.symm.trans hg4)
   obtain rfl:=Option.some.inj ((show (Tryz.prog.globals[5]?).map (·.type)=some 80 by kernel_rfl).symm.trans ht4)
   obtain ⟨ev,he,hev⟩:=BX Tryz.underlying80 hd4
   obtain ⟨t,fr,hb⟩:=uk hg hv4
   exact ⟨cs4,t,fr,hb,ev,by rw [←Array.toArray_toList (xs:=cs4),he],hev⟩
section
variable {H:Type} {enc:TypeId×Value→H}
theorem xl {a:Assume} {C:Checked} {os:Os} {f:FuncId} {fn:Func} {s:ChangeSpec} {conds:List PathCond} {apart fresh handsOn again:Bool} {X:World→Array Value→Prop}
 (hX:∀(w w':World) (args:Array Value),w.heap=w'.heap→X w args→X w' args)
 (own:ownKnob C.prog.godebug=none) (started:os.Started) (noInit:C.prog.inits.idxOf? f=none) (hfn:C.prog.funcs[f]? =some fn)
 (witness:∃(w:World) (tape:Tape) (i:Input),w.os=os∧(w.forCall tape i).Shaped C.prog∧i.vars=[]∧Input.okWide C.prog (w.forCall tape i) .any w.heap.size f i∧
  ((s.pre enc C.prog fn conds apart (w.forCall tape i).memory i.args∧X (w.forCall tape i).memory i.args)∧sizedMet enc C.prog fn (OpenSpec.ofChange s) apart (w.forCall tape i).memory i.args)∧a.holds C.prog (lone (Frame.enter C.prog f i.args .normal) [] (w.forCall tape i)))
 (contract:∀(W:World) (base:Nat) (args:Array Value) (ds gs:List (DataW H)) (before:List MemPlace),
  (∀(j:Nat) t v,fn.params[j]? =some t→args[j]? =some v→Value.okWide C.prog W .any base t v)→
  DataW.Whole enc C.prog fn.params.toList s.vars apart W args.toList ds gs before→W.ShapedOpen C.prog→X W args→
  Calls C.prog f args W fun e W'=>∃v,e= .returned v∧s.post enc C.prog fn apart fresh handsOn again W args v W'):
 ReturnsInHanded a C os f .any (fun w args=>(s.pre enc C.prog fn conds apart w args∧X w args)∧sizedMet enc C.prog fn (OpenSpec.ofChange s) apart w args) (s.post enc C.prog fn apart fresh handsOn again):=by
 refine returnsInHanded_of_calls own started noInit witness ?_
 rintro w tape i - TJ - ⟨-, -, -,fn2,aaj, -, -, -, -,W8⟩ ⟨⟨⟨ds,gs,before,TK, -⟩,hx⟩, -⟩ -
 obtain rfl:fn2=fn:=Option.some.inj (aaj.symm.trans hfn)
 refine (contract (w.forCall tape i) _ i.args ds gs before W8 (DataW.Whole.of_heap (w':=w.forCall tape i) (by rfl) TK) TJ (hX _ _ _ (by rfl) hx)).mono ?_
 rintro e W' ⟨v,rfl,hp⟩
 exact ChangeSpec.post_blind hp
end
theorem aak {P:Program} {W:World} {r:Reach} {base:Nat} {t:TypeId} {k:IntKind} (ht:P.underlying t=some (.int k)) {C:Nat→List Value} {γ:List Nat} {x:Int} {v:Value} (hv:VR C γ (.int k x) v) (h:Value.okWide P W r base t v):k.has x:=by
 obtain rfl:=hv.cr
 unfold Value.okWide at h
 rw [ht] at h
 unfold Cell.okWide Cell.ok at h
 rw [ht] at h
 exact h.2
end Go.Proofs.YtfnnmecilcnloaaGreatDoor
end
