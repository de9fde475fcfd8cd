import Derived.Test.YtomkmghgppgegaaGreatDoorM4
set_option linter.unusedSimpArgs false
set_option linter.unusedVariables false
set_option linter.unusedSectionVars false
set_option linter.defProp false
section
set_option maxRecDepth 100000
namespace Go.Proofs.cI
open Go Go.Am Go.Proofs
open Nat renaming reduceEqDiff→nA,reduceLT→nB,reduceLeDiff→nC,reduceAdd→nD,reduceSub→nE,reduceMul→nF,reduceBEq→nG
set_option maxHeartbeats 2000000
abbrev qv:av:=(.rg [(aj 18 (.ld (.t 6) (some 6))),(aj 19 (.call (.c (.fn 16 [])) [(.t 18)])),(au 20 19),(ax 21 (.mv (.t 2)) 20 false),(ax 22 (.len (.t 21)) 20 false),(ax 23 (.bin .eql (.t 22) (.c (.int .i64 0))) 20 false),(aj 24 (.pick (.t 20) (.c (.bool true)) (.t 23))),(au 25 24),(ax 26 (.mv (.t 0)) 25 false),(ax 27 (.call (.c (.fn 31 [])) [(.t 26)]) 25 false),(ax 28 (.un .not (.t 27)) 25 false),(aj 29 (.pick (.t 25) (.c (.bool true)) (.t 28)))])
abbrev qw:av:=(.rg [(au 71 16),(aj 72 (.bin .lss (.t 71) (.c (.int .i64 0)))),(au 73 72),(ax 74 (.mv (.t 16)) 73 false),(ax 75 (.cj (.t 6) 5) 73 false),(ax 76 (.ld (.t 75) none) 73 false),(ax 77 (.len (.t 76)) 73 false),(ax 78 (.bin .geq (.t 74) (.t 77)) 73 false),(aj 79 (.pick (.t 73) (.c (.bool true)) (.t 78)))])
abbrev qx:av:=(.rg [(au 85 14),(aj 86 (.cj (.t 17) 0)),(aj 87 (.Bh (.t 86) (some 2))),(aj 90 (.cj (.t 17) 5)),(aj 91 (.Bh (.t 90) none)),(aj 94 (.cj (.t 17) 5)),(aj 95 (.Bh (.t 94) none)),(aj 99 (.cj (.t 17) 6)),(aj 100 (.Bh (.t 99) none)),(aj 88 (.call (.c (.fn 36 [])) [(.t 87)])),(aj 89 (.bin .add (.c (.str [70,105,110,97,108,45,82,101,99,105,112,105,101,110,116,58,32,114,102,99,56,50,50,59,32])) (.t 88))),(aj 92 (.call (.c (.fn 19 [])) [(.t 91)])),(aj 93 (.bin .add (.c (.str [83,116,97,116,117,115,58,32])) (.t 92))),(aj 96 (.call (.c (.fn 38 [])) [(.t 95)])),(aj 97 (.bin .add (.c (.str [68,105,97,103,110,111,115,116,105,99,45,67,111,100,101,58,32,115,109,116,112,59,32])) (.t 96))),(aj 98 (.bin .add (.t 97) (.c (.str [32])))),(aj 101 (.bin .add (.t 98) (.t 100))),(aj 102 (.gA 1 [(.c (.str [])),(.t 89),(.c (.str [65,99,116,105,111,110,58,32,102,97,105,108,101,100])),(.t 93),(.t 101)])),(aj 103 (.call (.t 85) [(.t 102)]))])
abbrev oW:av:=(.seq (.rg [(aj 68 (.bin .lss (.t 67) (.t 66)))]) (.seq (.cond (.t 68) .skip (.exit 0)) (.seq (.blk 1 (.seq (.rg [(aj 69 (.mj 1 (.t 65) (.t 67))),(aj 70 (.ld (.t 69) none)),(aP 16 70)]) (.seq (.seq (.sem (erase qw)) (.cond (.t 79) (.seq (.rg [(aj 10 (.aO (.c (.sl .ex 1 [])))),(aj 11 (.aO (.c (.bool false))))]) .ret) .skip)) (.seq (.rg [(aj 80 (.cj (.t 6) 5)),(aj 81 (.ld (.t 80) none)),(au 82 16),(aj 83 (.mj 7 (.t 81) (.t 82))),(aj 84 (.ld (.t 83) (some 7))),(aj 17 (.alloc [(.str []),(.str []),(.int .i64 0),(.int .i64 0),(.int .i64 0),(.int .i64 0),(.str [])])),(gu (.st (.t 17) (.t 84) 7))]) (.sem (erase qx)))))) (.rg [(aj 104 (.bin .add (.t 67) (.c (.int .i64 1)))),(au 67 104)]))))
abbrev Ex:av:=(.seq (.rg [(aj 6 (.box (.t 1))),(aj 10 (.aO (.c (.sl .ex 1 [])))),(aj 11 (.aO (.c (.bool false))))]) (.seq (.seq (.sem (erase qv)) (.cond (.t 29) (.seq (.rg [(aj 10 (.aO (.c (.sl .ex 1 [])))),(aj 11 (.aO (.c (.bool false))))]) .ret) .skip)) (.seq (.rg [(aj 30 (.cj (.t 6) 4)),(aj 31 (.ld (.t 30) none)),(aj 32 (.call (.c (.fn 32 [])) [(.t 31)])),(aP 12 32)]) (.seq (.rg [(aj 13 (.alloc [(.dy 76),(.dn 5 [])]))]) (.seq (.rg [(aj 33 (.Uk 33 [(.t 13)])),(aP 14 33)]) (.seq (.rg [(au 34 14),(au 35 0),(aj 36 (.bin .add (.c (.str [70,114,111,109,58,32,60,109,97,105,108,101,114,45,100,97,101,109,111,110,64])) (.t 35))),(aj 37 (.bin .add (.t 36) (.c (.str [62])))),(aj 38 (.cj (.t 6) 0)),(aj 39 (.ld (.t 38) (some 2))),(aj 40 (.call (.c (.fn 36 [])) [(.t 39)])),(aj 41 (.bin .add (.c (.str [84,111,58,32])) (.t 40))),(au 42 4),(aj 43 (.call (.c (.fn 37 [])) [(.t 42)])),(aj 44 (.bin .add (.c (.str [68,97,116,101,58,32])) (.t 43))),(aj 45 (.gA 1 [(.t 37),(.t 41),(.c (.str [83,117,98,106,101,99,116,58,32,102,97,105,108,117,114,101])),(.t 44),(.c (.str [77,73,77,69,45,86,101,114,115,105,111,110,58,32,49,46,48]))])),(aj 46 (.call (.t 34) [(.t 45)]))]) (.seq (.rg [(au 47 14),(au 48 12),(aj 49 (.bin .add (.c (.str (67::111::110::116::101::110::116::45::84::121::112::101::58::32::109::117::108::116::105::112::97::114::116::47::114::101::112::111::114::116::59::32::114::101::112::111::114::116::45::116::121::112::101::61::100::101::108::105::118::101::114::121::45::115::116::97::116::117::115::59::32::98::111::117::110::100::97::114::121::61::34::[]))) (.t 48))),(aj 50 (.bin .add (.t 49) (.c (.str [34])))),(aj 51 (.gA 1 [(.t 50),(.c (.str []))])),(aj 52 (.call (.t 47) [(.t 51)]))]) (.seq (.rg [(au 53 14),(au 54 12),(aj 55 (.bin .add (.c (.str [45,45])) (.t 54))),(aj 56 (.gA 1 [(.t 55),(.c (.str [67,111,110,116,101,110,116,45,84,121,112,101,58,32,116,101,120,116,47,112,108,97,105,110])),(.c (.str [])),(.c (.str (84::104::105::115::32::109::97::105::108::32::99::111::117::108::100::32::110::111::116::32::98::101::32::100::101::108::105::118::101::114::101::100::46::[])))])),(aj 57 (.call (.t 53) [(.t 56)]))]) (.seq (.rg [(au 58 14),(au 59 12),(aj 60 (.bin .add (.c (.str [45,45])) (.t 59))),(au 61 0),(aj 62 (.bin .add (.c (.str [82,101,112,111,114,116,105,110,103,45,77,84,65,58,32,100,110,115,59,32])) (.t 61))),(aj 63 (.gA 1 [(.t 60),(.c (.str (67::111::110::116::101::110::116::45::84::121::112::101::58::32::109::101::115::115::97::103::101::47::100::101::108::105::118::101::114::121::45::115::116::97::116::117::115::[]))),(.c (.str [])),(.t 62)])),(aj 64 (.call (.t 58) [(.t 63)]))]) (.seq (.seq (.rg [(au 65 2),(aj 66 (.len (.t 65))),(aj 67 (.mv (.c (.int .i64 0))))]) (.blk 0 (.loop (erase oW)))) (.seq (.rg [(au 105 14),(au 106 12),(aj 107 (.bin .add (.c (.str [45,45])) (.t 106))),(aj 108 (.gA 1 [(.t 107),(.c (.str (67::111::110::116::101::110::116::45::84::121::112::101::58::32::116::101::120::116::47::114::102::99::56::50::50::45::104::101::97::100::101::114::115::[]))),(.c (.str []))])),(aj 109 (.call (.t 105) [(.t 108)]))]) (.seq (.rg [(au 110 3),(aj 111 (.call (.c (.fn 39 [])) [(.t 110)])),(aj 112 (.call (.c (.fn 34 [])) [(.t 13),(.t 111)]))]) (.seq (.rg [(au 113 14),(au 114 12),(aj 115 (.bin .add (.c (.str [45,45])) (.t 114))),(aj 116 (.bin .add (.t 115) (.c (.str [45,45])))),(aj 117 (.gA 1 [(.t 116)])),(aj 118 (.call (.t 113) [(.t 117)]))]) (.seq (.rg [(aj 119 (.call (.c (.fn 40 [])) [(.t 13)])),(aj 120 (.iS .sb (.t 119))),(aP 10 120),(aj 11 (.aO (.c (.bool true))))]) .ret))))))))))))))
theorem Ey:bw Tryz.prog 11 121 [(.tmp 10),(.tmp 11)] (erase Ex):=⟨Tryz.f11,_,rfl,by decide,rfl,by kernel_rfl,rfl,rfl⟩
abbrev iZ:List Nat:=[0,1,2,3,4,6,10,11,12,13,14,16,17,29,65,66,67,68,79]
def n7 (F:Nat) (e2:bu) (cR:List Int) (oL:List UInt8):Option (Bool):=
 (vB e2).bind fun r7=>
 (if r7 then
  some true
 else
  (if (decide ((cR.length:Int)=0)) then
   some true
  else
   (kj F oL).bind fun r8=>some (!r8)))
def n9 (F:Nat) (pP:ic) (w6:List UInt8):Option ((List UInt8)):=
 (l9 F pP.HA).bind fun r36=>
 (cat ([70,105,110,97,108,45,82,101,99,105,112,105,101,110,116,58,32,114,102,99,56,50,50,59,32]:List UInt8) r36).bind fun x37=>
 (jS pP.code).bind fun TL=>
 (cat ([83,116,97,116,117,115,58,32]:List UInt8) TL).bind fun x39=>
 (strconv_Itoa pP.code).bind fun r40=>
 (cat ([68,105,97,103,110,111,115,116,105,99,45,67,111,100,101,58,32,115,109,116,112,59,32]:List UInt8) r40).bind fun x41=>
 (cat x41 ([32]:List UInt8)).bind fun x42=>
 (cat x42 pP.why).bind fun x43=>
 (dx ([([]:List UInt8),x37,([65,99,116,105,111,110,58,32,102,97,105,108,101,100]:List UInt8),x39,x43]:List (List UInt8)) w6).bind fun r44=>some r44
def oa (F:Nat) (cR:List Int) (e2:bu):(Int×(List UInt8))→Option (St ((List UInt8)×Bool) (List UInt8) (Int×(List UInt8)))
 |(t28,w6)=>
  (if (decide (t28<(cR.length:Int))) then
   (idx cR t28).bind fun Gd=>
   (if ((decide (Gd<0))||(decide ((e2.c8.length:Int)≤Gd))) then
    some (.ret (([]:List UInt8),false))
   else
    (idx e2.c8 Gd).bind fun pP=>
    (n9 F pP w6).bind fun s46=>
    some (.cv ((IntKind.wrap .i64 (t28+1)),s46)))
  else
   some (.eC w6))
def od (F:Nat) (oL:List UInt8) (e2:bu) (cR:List Int) (fC:List UInt8) (B6:Int):Option ((List UInt8)×Bool):=
 (n7 F e2 cR oL).bind fun t10=>
 (if t10 then
  some (([]:List UInt8),false)
 else
  (nS F e2.sum).bind fun e7=>
  (cat ([70,114,111,109,58,32,60,109,97,105,108,101,114,45,100,97,101,109,111,110,64]:List UInt8) oL).bind fun nV=>
  (cat nV ([62]:List UInt8)).bind fun jG=>
  (l9 F e2.bD).bind fun gM=>
  (cat ([84,111,58,32]:List UInt8) gM).bind fun mK=>
  (Ab F B6).bind fun r16=>
  (cat ([68,97,116,101,58,32]:List UInt8) r16).bind fun kU=>
  (dx ([jG,mK,([83,117,98,106,101,99,116,58,32,102,97,105,108,117,114,101]:List UInt8),kU,([77,73,77,69,45,86,101,114,115,105,111,110,58,32,49,46,48]:List UInt8)]:List (List UInt8)) ([]:List UInt8)).bind fun XE=>
  (cat ((67::111::110::116::101::110::116::45::84::121::112::101::58::32::109::117::108::116::105::112::97::114::116::47::114::101::112::111::114::116::59::32::114::101::112::111::114::116::45::116::121::112::101::61::100::101::108::105::118::101::114::121::45::115::116::97::116::117::115::59::32::98::111::117::110::100::97::114::121::61::34::[]):List UInt8) e7).bind fun xO=>
  (cat xO ([34]:List UInt8)).bind fun lT=>
  (dx ([lT,([]:List UInt8)]:List (List UInt8)) XE).bind fun uR=>
  (cat ([45,45]:List UInt8) e7).bind fun KF=>
  (dx ([KF,([67,111,110,116,101,110,116,45,84,121,112,101,58,32,116,101,120,116,47,112,108,97,105,110]:List UInt8),([]:List UInt8),((84::104::105::115::32::109::97::105::108::32::99::111::117::108::100::32::110::111::116::32::98::101::32::100::101::108::105::118::101::114::101::100::46::[]):List UInt8)]:List (List UInt8)) uR).bind fun PT=>
  (cat ([82,101,112,111,114,116,105,110,103,45,77,84,65,58,32,100,110,115,59,32]:List UInt8) oL).bind fun Er=>
  (dx ([KF,((67::111::110::116::101::110::116::45::84::121::112::101::58::32::109::101::115::115::97::103::101::47::100::101::108::105::118::101::114::121::45::115::116::97::116::117::115::[]):List UInt8),([]:List UInt8),Er]:List (List UInt8)) PT).bind fun HV=>
  ((iter (oa F cR e2) F (0,HV)).bind fun o61=>
  match o61 with
  | .inr s50=>
    (dx ([KF,((67::111::110::116::101::110::116::45::84::121::112::101::58::32::116::101::120::116::47::114::102::99::56::50::50::45::104::101::97::100::101::114::115::[]):List UInt8),([]:List UInt8)]:List (List UInt8)) s50).bind fun r51=>
    (oJ F fC).bind fun r52=>
    (dW r51 r52).bind fun (r53,r54,r55)=>
    (cat KF ([45,45]:List UInt8)).bind fun x56=>
    (dx ([x56]:List (List UInt8)) r55).bind fun r57=>
    (ia r57).bind fun r58=>some (r58,true)
  | .inl (r59,r60)=>
    some (r59,r60)))
theorem yW {F:Nat} {e2:bu} {cR:List Int} {oL:List UInt8} {fC:List UInt8} {B6:Int} {q6:Nat} {H0 H:AH} (hfr:Fr H0 H0.length [] H) (ai:H[q6]? =some [(.str e2.bD.aC),(.str e2.bD.domain),(.int .i64 e2.born),(.int .i64 e2.size),(.int .u32 e2.sum),(.sl .n 7 (ml bH e2.c8))]) (hi0:H0.length≤q6) {K:Exit→Env→AH→Prop} {t9:Bool}
 (h:n7 F e2 cR oL=some t9)
 (kn:∀H':AH,Fr H0 H0.length [] H'→H'[q6]? =some [(.str e2.bD.aC),(.str e2.bD.domain),(.int .i64 e2.born),(.int .i64 e2.size),(.int .u32 e2.sum),(.sl .n 7 (ml bH e2.c8))]→K .normal [(0,(.str oL)),(2,(.sl .n 1 (ml (rY .i64) cR))),(3,(.sl .n 1 (ml b8 fC))),(4,(.int .i64 B6)),(6,(.ptr q6 0)),(29,(.bool t9))] H'):
 AX Tryz.prog iZ 121 H0.length (erase qv) K [(0,(.str oL)),(2,(.sl .n 1 (ml (rY .i64) cR))),(3,(.sl .n 1 (ml b8 fC))),(4,(.int .i64 B6)),(6,(.ptr q6 0))] H:=by
 refine cB fun K' hK=> ?_
 have hle:=hfr.le
 have aW:=aV ai
 rw [n7.eq_1] at h
 refine aG ai ?_
 obtain ⟨r7,hy1,h⟩:=ak h
 refine aY aq (zq hy1) ?_
 refine aG ai ?_
 refine bZ h (fun aS h=> ?_) fun aS h=> ?_
 · refine aG (aH aS ai) ?_
   obtain rfl:=aB h
   exact hK _ _ _ _ _ aK aq (kn _ hfr (ai.trans rfl))
 · refine aG (aH aS ai) ?_
   refine bZ h (fun aZ h=> ?_) fun aZ h=> ?_
   · refine aG (aH aZ ai) ?_
     obtain rfl:=aB h
     exact hK _ _ _ _ _ aK aq (kn _ hfr (ai.trans rfl))
   · refine aG (aH aZ ai) ?_
     obtain ⟨r8,br,h⟩:=ak h
     refine aY aq (wu br) ?_
     refine aG ai ?_
     obtain rfl:=aB h
     exact hK _ _ _ _ _ aK aq (kn _ hfr (ai.trans rfl))
theorem yX {fC:List UInt8} {HT:Nat} {e7:List UInt8} {Ew:Nat} {Gd:Int} {cR:List Int} {t28:Int} {e2:bu} {w6:List UInt8} {H0 H:AH} (hfr:Fr H0 H0.length [] H) (ai:H[HT]? =some [(.str e2.bD.aC),(.str e2.bD.domain),(.int .i64 e2.born),(.int .i64 e2.size),(.int .u32 e2.sum),(.sl .n 7 (ml bH e2.c8))]) (aL:H[Ew]? =some [(.dy 76),(.dn 5 w6)]) (hi0:H0.length≤HT) (hi1:H0.length≤Ew) (hi2:HT≠Ew) {K:Exit→Env→AH→Prop}
 (kn:∀H':AH,Fr H0 H0.length [] H'→H'[HT]? =some [(.str e2.bD.aC),(.str e2.bD.domain),(.int .i64 e2.born),(.int .i64 e2.size),(.int .u32 e2.sum),(.sl .n 7 (ml bH e2.c8))]→H'[Ew]? =some [(.dy 76),(.dn 5 w6)]→K .normal [(3,(.sl .n 1 (ml b8 fC))),(6,(.ptr HT 0)),(12,(.str e7)),(13,(.ptr Ew 0)),(14,(.fn 33 [(.ptr Ew 0)])),(16,(.int .i64 Gd)),(65,(.sl .n 1 (ml (rY .i64) cR))),(66,(.int .i64 (cR.length:Int))),(67,(.int .i64 t28)),(79,(.bool ((decide (Gd<0))||(decide ((e2.c8.length:Int)≤Gd)))))] H'):
 AX Tryz.prog iZ 121 H0.length (erase qw) K [(3,(.sl .n 1 (ml b8 fC))),(6,(.ptr HT 0)),(12,(.str e7)),(13,(.ptr Ew 0)),(14,(.fn 33 [(.ptr Ew 0)])),(16,(.int .i64 Gd)),(65,(.sl .n 1 (ml (rY .i64) cR))),(66,(.int .i64 (cR.length:Int))),(67,(.int .i64 t28))] H:=by
 refine cB fun K' hK=> ?_
 have hle:=hfr.le
 have aW:=aV ai
 have lW:=aV aL
 refine aG (aH ai aL) ?_
 refine om (fun iD=> ?_) fun iD=> ?_
 · refine aG (aH iD (aH ai aL)) ?_
   exact hK _ _ _ _ _ (fh iD) aq (kn _ hfr (ai.trans rfl) (aL.trans rfl))
 · refine aG (aH iD (aH ai aL)) ?_
   exact hK _ _ _ _ _ (fh iD) aq (kn _ hfr (ai.trans rfl) (aL.trans rfl))
theorem yY {F:Nat} {pP:ic} {w6:List UInt8} {fC:List UInt8} {PU:Nat} {e7:List UInt8} {KG:Nat} {cR:List Int} {t28:Int} {e2:bu} {H0 H:AH} (hfr:Fr H0 H0.length [] H) (ai:H[PU]? =some [(.str e2.bD.aC),(.str e2.bD.domain),(.int .i64 e2.born),(.int .i64 e2.size),(.int .u32 e2.sum),(.sl .n 7 (ml bH e2.c8))]) (aL:H[KG]? =some [(.dy 76),(.dn 5 w6)]) (hi0:H0.length≤PU) (hi1:H0.length≤KG) (hi2:PU≠KG) {K:Exit→Env→AH→Prop} {s45:List UInt8}
 (h:n9 F pP w6=some s45)
 (kn:∀H':AH,Fr H0 H0.length [] H'→H'[PU]? =some [(.str e2.bD.aC),(.str e2.bD.domain),(.int .i64 e2.born),(.int .i64 e2.size),(.int .u32 e2.sum),(.sl .n 7 (ml bH e2.c8))]→H'[KG]? =some [(.dy 76),(.dn 5 s45)]→K .normal [(3,(.sl .n 1 (ml b8 fC))),(6,(.ptr PU 0)),(12,(.str e7)),(13,(.ptr KG 0)),(14,(.fn 33 [(.ptr KG 0)])),(65,(.sl .n 1 (ml (rY .i64) cR))),(66,(.int .i64 (cR.length:Int))),(67,(.int .i64 t28))] H'):
 AX Tryz.prog iZ 121 H0.length (erase qx) K [(3,(.sl .n 1 (ml b8 fC))),(6,(.ptr PU 0)),(12,(.str e7)),(13,(.ptr KG 0)),(14,(.fn 33 [(.ptr KG 0)])),(17,(.ep (.agg [(.str pP.HA.aC),(.str pP.HA.domain),(.int .i64 pP.state),(.int .i64 pP.tries),(.int .i64 pP.next),(.int .i64 pP.code),(.str pP.why)]) 0)),(65,(.sl .n 1 (ml (rY .i64) cR))),(66,(.int .i64 (cR.length:Int))),(67,(.int .i64 t28))] H:=by
 refine cB fun K' hK=> ?_
 have hle:=hfr.le
 have aW:=aV ai
 have lW:=aV aL
 rw [n9.eq_1] at h
 refine aG (aH ai aL) ?_
 obtain ⟨r36,uJ,h⟩:=ak h
 refine aY aq (xQ uJ) ?_
 refine aG (aH ai aL) ?_
 obtain ⟨x37,xR,h⟩:=ak h
 refine aG (aH xR (aH ai aL)) ?_
 obtain ⟨TL,ML,h⟩:=ak h
 refine aY aq (mL ML) ?_
 refine aG (aH ai aL) ?_
 obtain ⟨x39,IF,h⟩:=ak h
 refine aG (aH IF (aH ai aL)) ?_
 obtain ⟨r40,MM,h⟩:=ak h
 refine aY aq (gZ (i1:=pP.code) MM) ?_
 refine aG (aH ai aL) ?_
 obtain ⟨x41,MN,h⟩:=ak h
 obtain ⟨x42,XF,h⟩:=ak h
 obtain ⟨x43,aeJ,h⟩:=ak h
 refine aG (aH MN (aH XF (aH aeJ (aH ai aL)))) ?_
 obtain ⟨r44,aeK,h⟩:=ak h
 refine aY aq (dF (aL.trans rfl) aeK) ?_
 refine aG (aH ai aL) ?_
 obtain rfl:=aB h
 exact hK _ _ _ _ _ aK aq (kn _ (cE _ hfr) (iB (ai.trans rfl)) dK)
theorem yZ {F:Nat} {t28:Int} {cR:List Int} {e2:bu} {w6:List UInt8} {fC:List UInt8} {HW:Nat} {e7:List UInt8} {vN:Nat} {H0 H:AH} (hfr:Fr H0 H0.length [] H) (ai:H[HW]? =some [(.str e2.bD.aC),(.str e2.bD.domain),(.int .i64 e2.born),(.int .i64 e2.size),(.int .u32 e2.sum),(.sl .n 7 (ml bH e2.c8))]) (aL:H[vN]? =some [(.dy 76),(.dn 5 w6)]) (hi0:H0.length≤HW) (hi1:H0.length≤vN) (hi2:HW≠vN) {K:Exit→Env→AH→Prop} {o:((List UInt8)×Bool)⊕((List UInt8))}
 (h:iter (oa F cR e2) F (t28,w6)=some o)
 (dw:∀o':(List UInt8),o= .inr o'→∀H':AH,Fr H0 H0.length [] H'→H'[HW]? =some [(.str e2.bD.aC),(.str e2.bD.domain),(.int .i64 e2.born),(.int .i64 e2.size),(.int .u32 e2.sum),(.sl .n 7 (ml bH e2.c8))]→H'[vN]? =some [(.dy 76),(.dn 5 o')]→K (.exit 0) [(3,(.sl .n 1 (ml b8 fC))),(12,(.str e7)),(13,(.ptr vN 0)),(14,(.fn 33 [(.ptr vN 0)]))] H')
 (kr:∀o':(List UInt8)×Bool,o= .inl o'→∀H':AH,Fr H0 H0.length [] H'→K .ret [(10,(.sl .n 1 (ml b8 o'.1))),(11,(.bool o'.2))] H'):
 AX Tryz.prog iZ 121 H0.length (.loop (erase oW)) K [(3,(.sl .n 1 (ml b8 fC))),(6,(.ptr HW 0)),(12,(.str e7)),(13,(.ptr vN 0)),(14,(.fn 33 [(.ptr vN 0)])),(65,(.sl .n 1 (ml (rY .i64) cR))),(66,(.int .i64 (cR.length:Int))),(67,(.int .i64 t28))] H:=by
 refine gY (fun s e H1=>match s with|(t28,w6)=>e=[(3,(.sl .n 1 (ml b8 fC))),(6,(.ptr HW 0)),(12,(.str e7)),(13,(.ptr vN 0)),(14,(.fn 33 [(.ptr vN 0)])),(65,(.sl .n 1 (ml (rY .i64) cR))),(66,(.int .i64 (cR.length:Int))),(67,(.int .i64 t28))]∧Fr H0 H0.length [] H1∧H1[HW]? =some [(.str e2.bD.aC),(.str e2.bD.domain),(.int .i64 e2.born),(.int .i64 e2.size),(.int .u32 e2.sum),(.sl .n 7 (ml bH e2.c8))]∧H1[vN]? =some [(.dy 76),(.dn 5 w6)]) h ⟨rfl,hfr,ai,aL⟩ ?_
 rintro K' ⟨t28,w6⟩ st e H ⟨rfl,hfr,ai,aL⟩ h hN hB hR hX
 have hle:=hfr.le
 have aW:=aV ai
 have lW:=aV aL
 rw [oa.eq_1] at h
 refine aG (aH ai aL) ?_
 refine bL h (fun lA h=> ?_) fun lA h=> ?_
 · obtain ⟨Gd,mI,h⟩:=ak h
   refine aG (aH mI (aH ai aL)) ?_
   refine bF aq (yX (fC:=fC) (HT:=HW) (e7:=e7) (Ew:=vN) (Gd:=Gd) (cR:=cR) (t28:=t28) (e2:=e2) (w6:=w6) hfr (ai.trans rfl) (aL.trans rfl) dG dG dG ?_)
   intro H hfr ai aL
   have hle:=hfr.le
   have aW:=aV ai
   have lW:=aV aL
   refine aG (aH ai aL) ?_
   refine bL h (fun jR h=> ?_) fun jR h=> ?_
   · refine aG (aH ai aL) ?_
     obtain rfl:=aB h
     exact hX _ _ _ _ _ dI aK aq (kr _ (hR _ rfl) _ hfr)
   · obtain ⟨pP,ow,h⟩:=ak h
     refine aG (aH ow (aH ai aL)) ?_
     refine J3 ?_
     apply AX.freeze (s:=H.length) (cs:=[(.str pP.HA.aC),(.str pP.HA.domain),(.int .i64 pP.state),(.int .i64 pP.tries),(.int .i64 pP.next),(.int .i64 pP.code),(.str pP.why)]) (by exact dK) (eV.same (eV.same (eV.same (eV.same (eV.same (eV.same (eV.same (eV.nil)))))))) (by simp)
     · repeat (first|exact FZ.nil|apply FZ.ep|apply FZ.same)
     refine PG ?_
     obtain ⟨s46,aeL,h⟩:=ak h
     refine bF aq (yY (fC:=fC) (e7:=e7) (cR:=cR) (t28:=t28) (e2:=e2) (PU:=HW) (KG:=vN) (cE _ (cE _ (Fr.app hfr))) (iB (iB (Ee (ai.trans rfl)))) (iB (iB (Ee (aL.trans rfl)))) dG dG dG aeL ?_)
     intro H hfr ai aL
     have hle:=hfr.le
     have aW:=aV ai
     have lW:=aV aL
     refine aG (aH ai aL) ?_
     obtain rfl:=aB h
     exact hN _ rfl _ _ _ _ aK aq ⟨rfl,hfr,(ai.trans rfl),(aL.trans rfl)⟩
 · refine aG (aH ai aL) ?_
   obtain rfl:=aB h
   exact hX _ _ _ _ _ dI aK aq (dw _ (hB _ rfl) _ hfr (ai.trans rfl) (aL.trans rfl))
theorem uS {F:Nat} {oL:List UInt8} {e2:bu} {cR:List Int} {fC:List UInt8} {B6:Int} {H0:AH} {aJ:List UInt8} {eS:Bool} (h:od F oL e2 cR fC B6=some (aJ,eS)):
 aA Tryz.prog 11 [(.str oL),(.agg [(.str e2.bD.aC),(.str e2.bD.domain),(.int .i64 e2.born),(.int .i64 e2.size),(.int .u32 e2.sum),(.sl .n 7 (ml bH e2.c8))]),(.sl .n 1 (ml (rY .i64) cR)),(.sl .n 1 (ml b8 fC)),(.int .i64 B6)] H0 fun v H'=>v=(.bz [(.sl .n 1 (ml b8 aJ)),(.bool eS)])∧H'=H0:=by
 refine mD Ey iZ [] fun hcl K0 aN H hH hfr=> ?_
 clear hH
 have hle:=hfr.le
 rw [od.eq_1] at h
 refine cm ?_
 obtain ⟨q6,Ah⟩:∃q:Nat,H.length=q:=⟨_,rfl⟩
 try rw [Ah]
 obtain ⟨t10,bC,h⟩:=ak h
 refine bF aq (yW (fC:=fC) (B6:=B6) (q6:=q6) (Fr.app hfr) xH dG bC ?_)
 intro H hfr ai
 have hle:=hfr.le
 have aW:=aV ai
 refine aG ai ?_
 refine bL h (fun bW h=> ?_) fun bW h=> ?_
 · refine aG ai ?_
   obtain ⟨rfl,rfl⟩:=gw h
   exact aN _ _ _ bt (bE hfr hcl (aT (aT bn (.bool false)) (.sl .ex 1 [])) bp aX ⟨rfl,rfl⟩)
 · refine aG ai ?_
   obtain ⟨e7,cO,h⟩:=ak h
   refine aY aq (yO cO) ?_
   refine aG ai ?_
   obtain ⟨nV,cD,h⟩:=ak h
   obtain ⟨jG,dA,h⟩:=ak h
   refine aG (aH cD (aH dA ai)) ?_
   obtain ⟨gM,cJ,h⟩:=ak h
   refine aY aq (xQ cJ) ?_
   refine aG ai ?_
   obtain ⟨mK,cG,h⟩:=ak h
   refine aG (aH cG ai) ?_
   obtain ⟨r16,cS,h⟩:=ak h
   refine aY aq (HQ cS) ?_
   refine aG ai ?_
   obtain ⟨kU,cW,h⟩:=ak h
   refine aG (aH cW ai) ?_
   obtain ⟨XE,eT,h⟩:=ak h
   refine aY aq (dF (q2:=H.length) xH eT) ?_
   refine aG ai ?_
   obtain ⟨xO,gh,h⟩:=ak h
   obtain ⟨lT,gx,h⟩:=ak h
   refine aG (aH gh (aH gx ai)) ?_
   obtain ⟨uR,lu,h⟩:=ak h
   refine aY aq (dF (q2:=H.length) dK lu) ?_
   refine aG ai ?_
   obtain ⟨KF,jD,h⟩:=ak h
   refine aG (aH jD ai) ?_
   obtain ⟨PT,jQ,h⟩:=ak h
   refine aY aq (dF (q2:=H.length) dK jQ) ?_
   refine aG ai ?_
   obtain ⟨Er,lz,h⟩:=ak h
   refine aG (aH jD (aH lz ai)) ?_
   obtain ⟨HV,ig,h⟩:=ak h
   refine aY aq (dF (q2:=H.length) dK ig) ?_
   refine aG ai ?_
   obtain ⟨vN,aab⟩:∃q:Nat,H.length=q:=⟨_,rfl⟩
   try rw [aab]
   obtain ⟨o61,aeM,h⟩:=ak h
   refine bF aq (yZ (fC:=fC) (e7:=e7) (HW:=q6) (vN:=vN) (cE _ (cE _ (cE _ (cE _ (Fr.app hfr))))) (iB (iB (iB (iB (Ee (ai.trans rfl)))))) dK dG dG dG aeM ?_ ?_)
   · rintro s50 rfl H hfr ai aL
     try dsimp only at h ai aL
     have hle:=hfr.le
     have aW:=aV ai
     have lW:=aV aL
     refine aG (aH jD (aH ai aL)) ?_
     obtain ⟨r51,aeN,h⟩:=ak h
     refine aY aq (dF (aL.trans rfl) aeN) ?_
     refine aG (aH ai aL) ?_
     obtain ⟨r52,aeO,h⟩:=ak h
     refine aY aq (Ag aeO) ?_
     refine aG (aH ai aL) ?_
     obtain ⟨⟨r53,r54,r55⟩,aeP,h⟩:=ak h
     dsimp only at h
     refine aY aq (gQ (b2:=r51) (s3:=r52) (q1:=vN) dK aeP) ?_
     refine aG (aH ai aL) ?_
     obtain ⟨x56,aeQ,h⟩:=ak h
     refine aG (aH jD (aH aeQ (aH ai aL))) ?_
     obtain ⟨r57,aeR,h⟩:=ak h
     refine aY aq (dF (q2:=vN) dK aeR) ?_
     refine aG (aH ai aL) ?_
     obtain ⟨r58,aeS,h⟩:=ak h
     refine aY aq (qe (b2:=r57) (q1:=vN) dK aeS) ?_
     refine aG (aH ai aL) ?_
     obtain ⟨rfl,rfl⟩:=gw h
     exact aN _ _ _ bt (bE (cE _ (cE _ (cE _ hfr))) hcl (aT (aT bn (.bool true)) (.sl .own 1 (ml b8 r58))) bp aX ⟨rfl,rfl⟩)
   · rintro ⟨r59,r60⟩ rfl H hfr
     try dsimp only at h
     have hle:=hfr.le
     refine cm ?_
     obtain ⟨rfl,rfl⟩:=gw h
     exact aN _ _ _ bt (bE hfr hcl (aT (aT bn (.bool r60)) (.sl .n 1 (ml b8 r59))) bp aX ⟨rfl,rfl⟩)
theorem Ge:bw Tryz.prog 26 8 [(.tmp 2)] (yE 1 1):=⟨Tryz.f26,_,rfl,by decide,rfl,by kernel_rfl,rfl,rfl⟩
def vO (s1:List UInt8):Option (List UInt8):=cw 1 [] s1
theorem Ez {s1:List UInt8} {H0:AH} {aJ:List UInt8} (h:vO s1=some aJ):aA Tryz.prog 26 [(.sl .n 1 (ml b8 s1))] H0 fun v H'=>v=(.sl .own 1 (ml b8 aJ))∧H'=H0:=Bz Ge (eH (f:=b8) h)
abbrev KH:av:=(.seq (.rg [(aj 2 (.aO (.c (.sl .ex 1 []))))]) (.seq (.seq (.rg [(au 4 0),(aj 5 (.len (.t 4))),(aj 6 (.bin .eql (.t 5) (.c (.int .i64 0))))]) (.cond (.t 6) (.seq (.rg [(aj 2 (.aO (.c (.sl .ex 1 []))))]) .ret) .skip)) (.seq (.rg [(au 7 0),(aj 8 (.call (.c (.fn 61 [])) [(.t 7)])),(aj 9 (.iS .bs (.t 8))),(aj 10 (.call (.c (.fn 65 [])) [(.t 9),(.c (.str [13,10]))])),(aP 3 10)]) (.seq (.rg [(au 11 3),(au 12 3),(aj 13 (.len (.t 12))),(aj 14 (.bin .sub (.t 13) (.c (.int .i64 1)))),(aj 15 (.slc 1 (.t 11) none (some (.t 14)) none)),(aP 2 15)]) .ret))))
theorem KI:bw Tryz.prog 25 16 [(.tmp 2)] (erase KH):=⟨Tryz.f25,_,rfl,by decide,rfl,by kernel_rfl,rfl,rfl⟩
abbrev KJ:List Nat:=[0,2,3,6]
def qy (F:Nat) (b1:List UInt8):Option ((List (List UInt8))):=
 (if (decide ((b1.length:Int)=0)) then
  some ([]:List (List UInt8))
 else
  (n5 F b1).bind fun r2=>
  (strings_Split r2 ([13,10]:List UInt8)).bind fun r3=>
  (sub r3 0 (IntKind.wrap .i64 ((r3.length:Int) - 1))).bind fun x4=>some x4)
theorem HX {F:Nat} {b1:List UInt8} {H0:AH} {aJ:List (List UInt8)} (h:qy F b1=some aJ):
 aA Tryz.prog 25 [(.sl .n 1 (ml b8 b1))] H0 fun v H'=>v=(.sl .n 1 (ml AV.str aJ))∧H'=H0:=by
 refine eF KI KJ fun hcl K0 aN=> ?_
 rw [qy.eq_1] at h
 refine az ?_
 refine bL h (fun hy1 h=> ?_) fun hy1 h=> ?_
 · refine az ?_
   obtain rfl:=aB h
   exact aN _ _ _ bt (aI hcl (aT bn (.sl .ex 1 [])) bp aX ⟨rfl,rfl⟩)
 · refine az ?_
   obtain ⟨r2,aS,h⟩:=ak h
   refine aY aq (zE aS) ?_
   refine az ?_
   obtain ⟨r3,aZ,h⟩:=ak h
   refine aY aq (gH (s1:=r2) (s2:=([13,10]:List UInt8)) aZ) ?_
   refine az ?_
   obtain ⟨x4,br,h⟩:=ak h
   have bC:=CM (f:=AV.str) br
   refine aQ br ?_
   obtain rfl:=aB h
   exact aN _ _ _ bt (aI hcl (aT bn (.sl .n 1 (ml AV.str x4))) bp aX ⟨rfl,rfl⟩)
abbrev jE:av:=(.rg [(au 5 0),(aj 6 (.lens (.t 5))),(au 7 1),(aj 8 (.lens (.t 7))),(aj 9 (.bin .geq (.t 6) (.t 8))),(au 10 9),(ax 11 (.mv (.t 0)) 10 true),(ax 12 (.mv (.t 1)) 10 true),(ax 13 (.lens (.t 12)) 10 true),(ax 14 (.mh (.t 11) none (some (.t 13))) 10 true),(ax 15 (.mv (.t 1)) 10 true),(ax 16 (.bin .eql (.t 14) (.t 15)) 10 true),(aj 17 (.pick (.t 10) (.t 16) (.c (.bool false)))),(aP 4 17)])
abbrev tX:av:=(.seq (.rg [(aj 4 (.aO (.c (.bool false))))]) (.seq (.sem (erase jE)) .ret))
theorem tY:bw Tryz.prog 97 18 [(.tmp 4)] (erase tX):=⟨Tryz.f97,_,rfl,by decide,rfl,by kernel_rfl,rfl,rfl⟩
abbrev lD:List Nat:=[0,1,4]
def e4 (dL:List UInt8) (s1:List UInt8):Option (Bool):=
 (if (decide ((dL.length:Int)≤(s1.length:Int))) then
  (sub s1 0 (dL.length:Int)).bind fun x3=>some (decide (x3=dL))
 else
  some false)
def stringslite_HasPrefix (s1:List UInt8) (dL:List UInt8):Option (Bool):=
 (e4 dL s1).bind fun t5=>
 some t5
theorem oM {dL:List UInt8} {s1:List UInt8} {H:AH} {K:Exit→Env→AH→Prop} {t4:Bool}
 (h:e4 dL s1=some t4)
 (kn:K .normal [(4,(.bool t4))] H):
 AX Tryz.prog lD 18 H.length (erase jE) K [(0,(.str s1)),(1,(.str dL)),(4,(.bool false))] H:=by
 refine cB fun K' hK=> ?_
 rw [e4.eq_1] at h
 refine az ?_
 refine bZ h (fun hy1 h=> ?_) fun hy1 h=> ?_
 · obtain ⟨x3,aS,h⟩:=ak h
   refine aQ (aH hy1 aS) ?_
   obtain rfl:=aB h
   exact hK _ _ _ _ _ aK aq kn
 · refine aQ hy1 ?_
   obtain rfl:=aB h
   exact hK _ _ _ _ _ aK aq kn
theorem rO {s1:List UInt8} {dL:List UInt8} {H0:AH} {aJ:Bool} (h:stringslite_HasPrefix s1 dL=some aJ):
 aA Tryz.prog 97 [(.str s1),(.str dL)] H0 fun v H'=>v=(.bool aJ)∧H'=H0:=by
 refine eF tY lD fun hcl K0 aN=> ?_
 rw [stringslite_HasPrefix.eq_1] at h
 refine az ?_
 obtain ⟨t5,aZ,h⟩:=ak h
 refine bF aq (oM aZ ?_)
 refine az ?_
 obtain rfl:=aB h
 exact aN _ _ _ bt (aI hcl (aT bn (.bool t5)) bp aX ⟨rfl,rfl⟩)
abbrev tZ:av:=(.seq (.rg [(aj 4 (.aO (.c (.str [])))),(aj 5 (.aO (.c (.bool false))))]) (.seq (.seq (.rg [(au 6 0),(au 7 1),(aj 8 (.call (.c (.fn 97 [])) [(.t 6),(.t 7)])),(aj 9 (.un .not (.t 8)))]) (.cond (.t 9) (.seq (.rg [(au 10 0),(aP 4 10),(aj 5 (.aO (.c (.bool false))))]) .ret) .skip)) (.seq (.rg [(au 11 0),(au 12 1),(aj 13 (.lens (.t 12))),(aj 14 (.mh (.t 11) (some (.t 13)) none)),(aP 4 14),(aj 5 (.aO (.c (.bool true))))]) .ret)))
theorem ua:bw Tryz.prog 66 15 [(.tmp 4),(.tmp 5)] (erase tZ):=⟨Tryz.f66,_,rfl,by decide,rfl,by kernel_rfl,rfl,rfl⟩
abbrev uc:List Nat:=[0,1,4,5,9]
def stringslite_CutPrefix (s1:List UInt8) (dL:List UInt8):Option ((List UInt8)×Bool):=
 (stringslite_HasPrefix s1 dL).bind fun r3=>
 (if (!r3) then
  some (s1,false)
 else
  (sub s1 (dL.length:Int) (s1.length:Int)).bind fun x4=>some (x4,true))
theorem rP {s1:List UInt8} {dL:List UInt8} {H0:AH} {aJ:List UInt8} {eS:Bool} (h:stringslite_CutPrefix s1 dL=some (aJ,eS)):
 aA Tryz.prog 66 [(.str s1),(.str dL)] H0 fun v H'=>v=(.bz [(.str aJ),(.bool eS)])∧H'=H0:=by
 refine eF ua uc fun hcl K0 aN=> ?_
 rw [stringslite_CutPrefix.eq_1] at h
 refine az ?_
 obtain ⟨r3,hy1,h⟩:=ak h
 refine aY aq (rO hy1) ?_
 refine az ?_
 refine bL h (fun aS h=> ?_) fun aS h=> ?_
 · refine az ?_
   obtain ⟨rfl,rfl⟩:=gw h
   exact aN _ _ _ bt (aI hcl (aT (aT bn (.bool false)) (.str s1)) bp aX ⟨rfl,rfl⟩)
 · obtain ⟨x4,aZ,h⟩:=ak h
   refine aQ aZ ?_
   obtain ⟨rfl,rfl⟩:=gw h
   exact aN _ _ _ bt (aI hcl (aT (aT bn (.bool true)) (.str x4)) bp aX ⟨rfl,rfl⟩)
abbrev xX:av:=(.seq (.rg [(aj 4 (.aO (.c (.str [])))),(aj 5 (.aO (.c (.bool false))))]) (.seq (.rg [(au 6 0),(au 7 1),(aj 8 (.call (.c (.fn 66 [])) [(.t 6),(.t 7)])),(aj 9 (.ext (.t 8) 0)),(aj 10 (.ext (.t 8) 1)),(aP 4 9),(aP 5 10)]) .ret))
theorem xY:bw Tryz.prog 27 11 [(.tmp 4),(.tmp 5)] (erase xX):=⟨Tryz.f27,_,rfl,by decide,rfl,by kernel_rfl,rfl,rfl⟩
abbrev xZ:List Nat:=[0,1,4,5]
def strings_CutPrefix (s1:List UInt8) (dL:List UInt8):Option ((List UInt8)×Bool):=
 (stringslite_CutPrefix s1 dL).bind fun (r3,r4)=>some (r3,r4)
theorem w7 {s1:List UInt8} {dL:List UInt8} {H0:AH} {aJ:List UInt8} {eS:Bool} (h:strings_CutPrefix s1 dL=some (aJ,eS)):
 aA Tryz.prog 27 [(.str s1),(.str dL)] H0 fun v H'=>v=(.bz [(.str aJ),(.bool eS)])∧H'=H0:=by
 refine eF xY xZ fun hcl K0 aN=> ?_
 rw [strings_CutPrefix.eq_1] at h
 refine az ?_
 obtain ⟨⟨r3,r4⟩,hy1,h⟩:=ak h
 dsimp only at h
 refine aY aq (rP hy1) ?_
 refine az ?_
 obtain ⟨rfl,rfl⟩:=gw h
 exact aN _ _ _ bt (aI hcl (aT (aT bn (.bool r4)) (.str r3)) bp aX ⟨rfl,rfl⟩)
abbrev kK:av:=(.rg [(au 3 0),(aj 4 (.jy (.t 3))),(aj 5 (.cj (.t 4) 2)),(aj 6 (.ld (.t 5) none)),(au 7 6),(ax 8 (.mv (.t 0)) 7 false),(ax 9 (.jy (.t 8)) 7 false),(ax 10 (.cj (.t 9) 1) 7 false),(ax 11 (.ld (.t 10) none) 7 false),(ax 12 (.mv (.t 0)) 7 false),(ax 13 (.jy (.t 12)) 7 false),(ax 14 (.cj (.t 13) 0) 7 false),(ax 15 (.ld (.t 14) none) 7 false),(ax 16 (.lens (.t 15)) 7 false),(ax 17 (.bin .geq (.t 11) (.t 16)) 7 false),(aj 18 (.pick (.t 7) (.c (.bool true)) (.t 17)))])
abbrev vP:av:=(.seq (.rg [(aj 2 (.aO (.c (b8 0))))]) (.seq (.seq (.sem (erase kK)) (.cond (.t 18) (.seq (.rg [(aj 2 (.aO (.c (b8 0))))]) .ret) .skip)) (.seq (.rg [(au 19 0),(aj 20 (.jy (.t 19))),(aj 21 (.cj (.t 20) 0)),(aj 22 (.ld (.t 21) none)),(au 23 0),(aj 24 (.jy (.t 23))),(aj 25 (.cj (.t 24) 1)),(aj 26 (.ld (.t 25) none)),(aj 27 (.ixs (.t 22) (.t 26))),(aP 2 27)]) .ret)))
theorem vQ:bw Tryz.prog 131 28 [(.tmp 2)] (erase vP):=⟨Tryz.f131,_,rfl,by decide,rfl,by kernel_rfl,rfl,rfl⟩
abbrev mM:List Nat:=[0,2,18]
def bx (x1:aD):Option (UInt8):=
 (if (x1.bad||(decide ((x1.s.length:Int)≤x1.dc))) then
  some 0
 else
  (idx x1.s x1.dc).bind fun x2=>some x2)
theorem qz {x1:aD} {H:AH} {K:Exit→Env→AH→Prop}
 (kn:K .normal [(0,(.ep (.agg [(.str x1.s),(.int .i64 x1.dc),(.bool x1.bad)]) 0)),(18,(.bool (x1.bad||(decide ((x1.s.length:Int)≤x1.dc)))))] H):
 AX Tryz.prog mM 28 H.length (erase kK) K [(0,(.ep (.agg [(.str x1.s),(.int .i64 x1.dc),(.bool x1.bad)]) 0))] H:=by
 refine cB fun K' hK=> ?_
 refine az ?_
 refine om (fun hy1=> ?_) fun hy1=> ?_
 · refine aQ hy1 ?_
   exact hK _ _ _ _ _ (fh hy1) aq kn
 · refine aQ hy1 ?_
   exact hK _ _ _ _ _ (fh hy1) aq kn
theorem cA {x1:aD} {H0:AH} {aJ:UInt8} (h:bx x1=some aJ):
 aA Tryz.prog 131 [(.ep (.agg [(.str x1.s),(.int .i64 x1.dc),(.bool x1.bad)]) 0)] H0 fun v H'=>v=(b8 aJ)∧H'=H0:=by
 refine eF vQ mM fun hcl K0 aN=> ?_
 rw [bx.eq_1] at h
 refine az ?_
 refine bF aq (qz (x1:=x1) ?_)
 refine az ?_
 refine bL h (fun aS h=> ?_) fun aS h=> ?_
 · refine az ?_
   obtain rfl:=aB h
   exact aN _ _ _ bt (aI hcl (aT bn (b8 0)) bp aX ⟨rfl,rfl⟩)
 · obtain ⟨x2,aZ,h⟩:=ak h
   refine aQ aZ ?_
   obtain rfl:=aB h
   exact aN _ _ _ bt (aI hcl (aT bn (b8 x2)) bp aX ⟨rfl,rfl⟩)
abbrev w9:av:=(.seq (.rg [(aj 4 (.aO (.c (.bool false))))]) (.seq (.seq (.rg [(au 5 0),(aj 6 (.call (.c (.fn 131 [])) [(.t 5)])),(au 7 1),(aj 8 (.bin .neq (.t 6) (.t 7)))]) (.cond (.t 8) (.seq (.rg [(aj 4 (.aO (.c (.bool false))))]) .ret) .skip)) (.seq (.rg [(au 9 0),(aj 10 (.jy (.t 9))),(aj 11 (.cj (.t 10) 1)),(aj 12 (.ld (.t 11) none)),(aj 13 (.bin .add (.t 12) (.c (.int .i64 1)))),(aj 14 (.jy (.t 9))),(aj 15 (.cj (.t 14) 1)),(gu (.st (.t 15) (.t 13) 1))]) (.seq (.rg [(aj 4 (.aO (.c (.bool true))))]) .ret))))
theorem xb:bw Tryz.prog 99 16 [(.tmp 4)] (erase w9):=⟨Tryz.f99,_,rfl,by decide,rfl,by kernel_rfl,rfl,rfl⟩
abbrev xd:List Nat:=[0,1,4,8]
def bM (x2:aD) (c3:UInt8):Option (Bool×aD):=
 (bx x2).bind fun r4=>
 (if (!decide (r4=c3)) then
  some (false,x2)
 else
  some (true,(aD.mk x2.s (IntKind.wrap .i64 (x2.dc+1)) x2.bad)))
theorem eK {x2:aD} {c3:UInt8} {q1:Nat} {H0:AH} (ai:H0[q1]? =some [(.str x2.s),(.int .i64 x2.dc),(.bool x2.bad)]) {aJ:Bool} {eS:aD} (h:bM x2 c3=some (aJ,eS)):
 aA Tryz.prog 99 [(.ptr q1 0),(b8 c3)] H0 fun v H'=>v=(.bool aJ)∧H'=(H0.set q1 [(.str eS.s),(.int .i64 eS.dc),(.bool eS.bad)]):=by
 have aW:=aV ai
 refine mD xb xd [q1] fun hcl K0 aN H hH hfr=> ?_
 rw [←hH] at ai
 clear hH
 have hle:=hfr.le
 have Dl:=aV ai
 rw [bM.eq_1] at h
 refine aG ai ?_
 obtain ⟨r4,hy1,h⟩:=ak h
 refine MA (cA hy1) (nu.cons (.one _ _ (iK.DY (ai.trans rfl) MB)) (nu.nil)) ?_
 refine aG ai ?_
 refine bL h (fun aS h=> ?_) fun aS h=> ?_
 · refine aG ai ?_
   obtain ⟨rfl,rfl⟩:=gw h
   exact aN _ _ _ bt (jK hfr hcl (aT bn (.bool false)) bp aX (ai.trans rfl) dG FK CN ⟨rfl,rfl⟩)
 · refine aG ai ?_
   obtain ⟨rfl,rfl⟩:=gw h
   exact aN _ _ _ bt (jK (cE _ hfr) hcl (aT bn (.bool true)) bp aX dK dG FK CN ⟨rfl,rfl⟩)
abbrev IG:av:=(.rg [(au 4 0),(au 5 0),(aj 6 (.jy (.t 5))),(aj 7 (.cj (.t 6) 2)),(aj 8 (.ld (.t 7) none)),(au 9 8),(ax 10 (.mv (.t 0)) 9 false),(ax 11 (.mv (.t 1)) 9 false),(ax 12 (.call (.c (.fn 99 [])) [(.t 10),(.t 11)]) 9 false),(ax 13 (.un .not (.t 12)) 9 false),(aj 14 (.pick (.t 9) (.c (.bool true)) (.t 13))),(aj 15 (.jy (.t 4))),(aj 16 (.cj (.t 15) 2)),(gu (.st (.t 16) (.t 14) 1))])
abbrev ya:av:=(.rg [(au 4 0),(au 5 0),(aj 6 (.jy (.t 5))),(aj 7 (.cj (.t 6) 2)),(aj 8 (.ld (.t 7) none)),(au 9 8),(ax 10 (.mv (.t 0)) 9 false),(ax 11 (.mv (.t 1)) 9 false),(ax 12 (.call (.c (.fn 99 [])) [(.t 10),(.t 11)]) 9 false),(ax 13 (.un .not (.t 12)) 9 false),(aj 14 (.pick (.t 9) (.c (.bool true)) (.t 13))),(aj 15 (.jy (.t 4))),(aj 16 (.cj (.t 15) 2)),(gu (.st (.t 16) (.t 14) 1))])
theorem yb:bw Tryz.prog 98 17 [] (erase ya):=⟨Tryz.f98,_,rfl,by decide,rfl,by kernel_rfl,rfl,rfl⟩
abbrev yc:List Nat:=[0,1]
def bg (x2:aD) (c3:UInt8):Option (aD):=
 (if x2.bad then
  some (aD.mk x2.s x2.dc true)
 else
  (bM x2 c3).bind fun (r4,r5)=>some (aD.mk r5.s r5.dc (!r4)))
theorem dP {x2:aD} {c3:UInt8} {q1:Nat} {H0:AH} (ai:H0[q1]? =some [(.str x2.s),(.int .i64 x2.dc),(.bool x2.bad)]) {aJ:aD} (h:bg x2 c3=some aJ):
 aA Tryz.prog 98 [(.ptr q1 0),(b8 c3)] H0 fun v H'=>v=(.bz [])∧H'=(H0.set q1 [(.str aJ.s),(.int .i64 aJ.dc),(.bool aJ.bad)]):=by
 have aW:=aV ai
 refine mD yb yc [q1] fun hcl K0 aN H hH hfr=> ?_
 rw [←hH] at ai
 clear hH
 have hle:=hfr.le
 have Dl:=aV ai
 rw [bg.eq_1] at h
 refine aG ai ?_
 refine bZ h (fun hy1 h=> ?_) fun hy1 h=> ?_
 · refine aG (aH hy1 ai) ?_
   obtain rfl:=aB h
   exact aN _ _ _ Z6 (jK (cE _ hfr) hcl bn bp aX dK dG FK CN ⟨rfl,rfl⟩)
 · refine aG (aH hy1 ai) ?_
   obtain ⟨⟨r4,r5⟩,aS,h⟩:=ak h
   dsimp only at h
   refine aY aq (eK (ai.trans rfl) aS) ?_
   refine aG ai ?_
   obtain rfl:=aB h
   exact aN _ _ _ Z6 (jK (cE _ (cE _ hfr)) hcl bn bp aX dK dG FK CN ⟨rfl,rfl⟩)
abbrev kL:av:=(.rg [(au 12 4),(aj 13 (.call (.c (.fn 134 [])) [(.t 12)])),(au 14 13),(ax 15 (.mv (.t 4)) 14 false),(ax 16 (.bin .eql (.t 15) (.c (b8 45))) 14 false),(aj 17 (.pick (.t 14) (.c (.bool true)) (.t 16))),(au 18 17),(ax 19 (.mv (.t 4)) 18 false),(ax 20 (.bin .eql (.t 19) (.c (b8 46))) 18 false),(aj 21 (.pick (.t 18) (.c (.bool true)) (.t 20))),(au 22 21),(ax 23 (.mv (.t 4)) 22 false),(ax 24 (.bin .eql (.t 23) (.c (b8 91))) 22 false),(aj 25 (.pick (.t 22) (.c (.bool true)) (.t 24))),(au 26 25),(ax 27 (.mv (.t 4)) 26 false),(ax 28 (.bin .eql (.t 27) (.c (b8 93))) 26 false),(aj 29 (.pick (.t 26) (.c (.bool true)) (.t 28)))])
abbrev jU:av:=(.seq (.seq (.sem (erase kL)) (.cond (.t 29) .skip (.exit 0))) (.seq (.blk 1 (.rg [(au 32 0),(aj 33 (.jy (.t 32))),(aj 34 (.cj (.t 33) 1)),(aj 35 (.ld (.t 34) none)),(aj 36 (.bin .add (.t 35) (.c (.int .i64 1)))),(aj 37 (.jy (.t 32))),(aj 38 (.cj (.t 37) 1)),(gu (.st (.t 38) (.t 36) 1))])) (.rg [(au 30 0),(aj 31 (.call (.c (.fn 131 [])) [(.t 30)])),(aP 4 31)])))
abbrev kM:av:=(.rg [(au 49 0),(au 50 0),(aj 51 (.jy (.t 50))),(aj 52 (.cj (.t 51) 2)),(aj 53 (.ld (.t 52) none)),(au 54 53),(ax 55 (.mv (.t 5)) 54 false),(ax 56 (.call (.c (.fn 71 [])) [(.t 55)]) 54 false),(ax 57 (.un .not (.t 56)) 54 false),(aj 58 (.pick (.t 54) (.c (.bool true)) (.t 57))),(aj 59 (.jy (.t 49))),(aj 60 (.cj (.t 59) 2)),(gu (.st (.t 60) (.t 58) 1))])
abbrev vR:av:=(.seq (.rg [(aj 2 (.aO (.c (.str []))))]) (.seq (.rg [(au 6 0),(aj 7 (.jy (.t 6))),(aj 8 (.cj (.t 7) 1)),(aj 9 (.ld (.t 8) none)),(aP 3 9)]) (.seq (.seq (.rg [(au 10 0),(aj 11 (.call (.c (.fn 131 [])) [(.t 10)])),(aP 4 11)]) (.blk 0 (.loop (erase jU)))) (.seq (.rg [(au 39 0),(aj 40 (.jy (.t 39))),(aj 41 (.cj (.t 40) 0)),(aj 42 (.ld (.t 41) none)),(au 43 3),(au 44 0),(aj 45 (.jy (.t 44))),(aj 46 (.cj (.t 45) 1)),(aj 47 (.ld (.t 46) none)),(aj 48 (.mh (.t 42) (some (.t 43)) (some (.t 47)))),(aP 5 48)]) (.seq (.sem (erase kM)) (.seq (.rg [(au 61 5),(aP 2 61)]) .ret))))))
theorem vS:bw Tryz.prog 102 62 [(.tmp 2)] (erase vR):=⟨Tryz.f102,_,rfl,by decide,rfl,by kernel_rfl,rfl,rfl⟩
abbrev fP:List Nat:=[0,2,3,4,5,29]
def ey (c4:UInt8):Option (Bool):=
 (iM c4).bind fun r6=>
 (if r6 then
  some true
 else
  (if (decide (c4=45)) then
   some true
  else
   (if (decide (c4=46)) then
    some true
   else
    (if (decide (c4=91)) then
     some true
    else
     some (decide (c4=93))))))
def ez:(UInt8×aD)→Option (St ((List UInt8)×aD) aD (UInt8×aD))
 |(c4,s5)=>
  (ey c4).bind fun t8=>
  (if t8 then
   (bx (aD.mk s5.s (IntKind.wrap .i64 (s5.dc+1)) s5.bad)).bind fun r9=>
   some (.cv (r9,(aD.mk s5.s (IntKind.wrap .i64 (s5.dc+1)) s5.bad)))
  else
   some (.eC s5))
def eA (F:Nat) (vT:aD) (nV:List UInt8):Option (aD):=
 (if vT.bad then
  some (aD.mk vT.s vT.dc true)
 else
  (kg F nV).bind fun lB=>some (aD.mk vT.s vT.dc (!lB)))
def b6 (F:Nat) (x2:aD):Option ((List UInt8)×aD):=
 (bx x2).bind fun r3=>
 ((iter ez F (r3,x2)).bind fun MK=>
 match MK with
 | .inr vT=>
   (sub vT.s x2.dc vT.dc).bind fun nV=>
   (eA F vT nV).bind fun PV=>
   some (nV,PV)
 | .inl _=>none)
theorem qA {c4:UInt8} {q1:Nat} {x2:aD} {s5:aD} {H0 H:AH} (hfr:Fr H0 H0.length [q1] H) (ai:H[q1]? =some [(.str s5.s),(.int .i64 s5.dc),(.bool s5.bad)]) (hi0:q1<H0.length) {K:Exit→Env→AH→Prop} {t7:Bool}
 (h:ey c4=some t7)
 (kn:∀H':AH,Fr H0 H0.length [q1] H'→H'[q1]? =some [(.str s5.s),(.int .i64 s5.dc),(.bool s5.bad)]→K .normal [(0,(.ptr q1 0)),(3,(.int .i64 x2.dc)),(29,(.bool t7))] H'):
 AX Tryz.prog fP 62 H0.length (erase kL) K [(0,(.ptr q1 0)),(3,(.int .i64 x2.dc)),(4,(b8 c4))] H:=by
 refine cB fun K' hK=> ?_
 have hle:=hfr.le
 have aW:=aV ai
 rw [ey.eq_1] at h
 refine aG ai ?_
 obtain ⟨r6,aS,h⟩:=ak h
 refine aY aq (oG aS) ?_
 refine aG ai ?_
 refine bZ h (fun aZ h=> ?_) fun aZ h=> ?_
 · refine aG (aH aZ ai) ?_
   obtain rfl:=aB h
   exact hK _ _ _ _ _ aK aq (kn _ hfr (ai.trans rfl))
 · refine aG (aH aZ ai) ?_
   refine bZ h (fun br h=> ?_) fun br h=> ?_
   · refine aG (aH br ai) ?_
     obtain rfl:=aB h
     exact hK _ _ _ _ _ aK aq (kn _ hfr (ai.trans rfl))
   · refine aG (aH br ai) ?_
     refine bZ h (fun bC h=> ?_) fun bC h=> ?_
     · refine aG (aH bC ai) ?_
       obtain rfl:=aB h
       exact hK _ _ _ _ _ aK aq (kn _ hfr (ai.trans rfl))
     · refine aG (aH bC ai) ?_
       refine bZ h (fun bW h=> ?_) fun bW h=> ?_
       · refine aG (aH bW ai) ?_
         obtain rfl:=aB h
         exact hK _ _ _ _ _ aK aq (kn _ hfr (ai.trans rfl))
       · refine aG (aH bW ai) ?_
         obtain rfl:=aB h
         exact hK _ _ _ _ _ aK aq (kn _ hfr (ai.trans rfl))
theorem qB {F:Nat} {c4:UInt8} {s5:aD} {q1:Nat} {x2:aD} {H0 H:AH} (hfr:Fr H0 H0.length [q1] H) (ai:H[q1]? =some [(.str s5.s),(.int .i64 s5.dc),(.bool s5.bad)]) (hi0:q1<H0.length) {K:Exit→Env→AH→Prop} {o:((List UInt8)×aD)⊕(aD)}
 (h:iter ez F (c4,s5)=some o)
 (dw:∀o':aD,o= .inr o'→∀H':AH,Fr H0 H0.length [q1] H'→H'[q1]? =some [(.str o'.s),(.int .i64 o'.dc),(.bool o'.bad)]→K (.exit 0) [(0,(.ptr q1 0)),(3,(.int .i64 x2.dc))] H'):
 AX Tryz.prog fP 62 H0.length (.loop (erase jU)) K [(0,(.ptr q1 0)),(3,(.int .i64 x2.dc)),(4,(b8 c4))] H:=by
 refine gY (fun s e H1=>match s with|(c4,s5)=>e=[(0,(.ptr q1 0)),(3,(.int .i64 x2.dc)),(4,(b8 c4))]∧Fr H0 H0.length [q1] H1∧H1[q1]? =some [(.str s5.s),(.int .i64 s5.dc),(.bool s5.bad)]) h ⟨rfl,hfr,ai⟩ ?_
 rintro K' ⟨c4,s5⟩ st e H ⟨rfl,hfr,ai⟩ h hN hB hR hX
 have hle:=hfr.le
 have aW:=aV ai
 rw [ez.eq_1] at h
 refine aG ai ?_
 obtain ⟨t8,cO,h⟩:=ak h
 refine bF aq (qA (q1:=q1) (x2:=x2) (s5:=s5) hfr (ai.trans rfl) dG cO ?_)
 intro H hfr ai
 have hle:=hfr.le
 have aW:=aV ai
 refine aG ai ?_
 refine bL h (fun cD h=> ?_) fun cD h=> ?_
 · refine aG ai ?_
   obtain ⟨r9,dA,h⟩:=ak h
   refine MA (cA dA) (nu.cons (.one _ _ (iK.DY dK MB)) (nu.nil)) ?_
   refine aG ai ?_
   obtain rfl:=aB h
   exact hN _ rfl _ _ _ _ aK aq ⟨rfl,(cE _ hfr),dK⟩
 · refine aG ai ?_
   obtain rfl:=aB h
   exact hX _ _ _ _ _ dI aK aq (dw _ (hB _ rfl) _ hfr (ai.trans rfl))
theorem qC {F:Nat} {vT:aD} {nV:List UInt8} {q1:Nat} {H0 H:AH} (hfr:Fr H0 H0.length [q1] H) (ai:H[q1]? =some [(.str vT.s),(.int .i64 vT.dc),(.bool vT.bad)]) (hi0:q1<H0.length) {K:Exit→Env→AH→Prop} {uT:aD}
 (h:eA F vT nV=some uT)
 (kn:∀H':AH,Fr H0 H0.length [q1] H'→H'[q1]? =some [(.str uT.s),(.int .i64 uT.dc),(.bool uT.bad)]→K .normal [(5,(.str nV))] H'):
 AX Tryz.prog fP 62 H0.length (erase kM) K [(0,(.ptr q1 0)),(5,(.str nV))] H:=by
 refine cB fun K' hK=> ?_
 have hle:=hfr.le
 have aW:=aV ai
 rw [eA.eq_1] at h
 refine aG ai ?_
 refine bZ h (fun cS h=> ?_) fun cS h=> ?_
 · refine aG (aH cS ai) ?_
   obtain rfl:=aB h
   exact hK _ _ _ _ _ aK aq (kn _ (cE _ hfr) dK)
 · refine aG (aH cS ai) ?_
   obtain ⟨lB,cW,h⟩:=ak h
   refine aY aq (wq cW) ?_
   refine aG ai ?_
   obtain rfl:=aB h
   exact hK _ _ _ _ _ aK aq (kn _ (cE _ hfr) dK)
theorem mc {F:Nat} {x2:aD} {q1:Nat} {H0:AH} (ai:H0[q1]? =some [(.str x2.s),(.int .i64 x2.dc),(.bool x2.bad)]) {aJ:List UInt8} {eS:aD} (h:b6 F x2=some (aJ,eS)):
 aA Tryz.prog 102 [(.ptr q1 0)] H0 fun v H'=>v=(.str aJ)∧H'=(H0.set q1 [(.str eS.s),(.int .i64 eS.dc),(.bool eS.bad)]):=by
 have aW:=aV ai
 refine mD vS fP [q1] fun hcl K0 aN H hH hfr=> ?_
 rw [←hH] at ai
 clear hH
 have hle:=hfr.le
 have Dl:=aV ai
 rw [b6.eq_1] at h
 refine aG ai ?_
 obtain ⟨r3,hy1,h⟩:=ak h
 refine MA (cA hy1) (nu.cons (.one _ _ (iK.DY (ai.trans rfl) MB)) (nu.nil)) ?_
 refine aG ai ?_
 obtain ⟨MK,cJ,h⟩:=ak h
 refine bF aq (qB (q1:=q1) (x2:=x2) hfr (ai.trans rfl) dG cJ ?_)
 · rintro vT rfl H hfr ai
   try dsimp only at h ai
   have hle:=hfr.le
   have aW:=aV ai
   refine aG ai ?_
   obtain ⟨nV,cG,h⟩:=ak h
   refine aG (aH cG ai) ?_
   obtain ⟨PV,eT,h⟩:=ak h
   refine bF aq (qC (q1:=q1) hfr (ai.trans rfl) dG eT ?_)
   intro H hfr ai
   have hle:=hfr.le
   have aW:=aV ai
   refine aG ai ?_
   obtain ⟨rfl,rfl⟩:=gw h
   exact aN _ _ _ bt (jK hfr hcl (aT bn (.str nV)) bp aX (ai.trans rfl) dG FK CN ⟨rfl,rfl⟩)
abbrev lE:av:=(.rg [(au 3 0),(aj 4 (.call (.c (.fn 131 [])) [(.t 3)])),(aj 5 (.bin .eql (.t 4) (.c (b8 64)))),(au 6 5),(ax 7 (.mv (.t 2)) 6 false),(ax 8 (.un .not (.t 7)) 6 false),(aj 9 (.pick (.t 6) (.c (.bool true)) (.t 8)))])
abbrev kN:av:=(.seq (.seq (.sem (erase lE)) (.cond (.t 9) .skip (.exit 0))) (.seq (.blk 1 (.seq (.rg [(au 10 0),(aj 11 (.call (.c (.fn 98 [])) [(.t 10),(.c (b8 64))]))]) (.seq (.rg [(au 12 0),(aj 13 (.call (.c (.fn 102 [])) [(.t 12)]))]) (.seq (.rg [(au 14 0),(aj 15 (.call (.c (.fn 99 [])) [(.t 14),(.c (b8 44))])),(aj 16 (.un .not (.t 15)))]) (.cond (.t 16) (.seq (.rg [(au 17 0),(aj 18 (.call (.c (.fn 98 [])) [(.t 17),(.c (b8 58))]))]) .ret) .skip))))) (.rg [(aj 2 (.aO (.c (.bool false))))])))
abbrev xe:av:=(.seq (.rg [(aj 2 (.aO (.c (.bool true))))]) (.blk 0 (.loop (erase kN))))
theorem xg:bw Tryz.prog 100 19 [] (erase xe):=⟨Tryz.f100,_,rfl,by decide,rfl,by kernel_rfl,rfl,rfl⟩
abbrev jB:List Nat:=[0,2,9,16]
def cM (s4:aD) (lN:Bool):Option (Bool):=
 (bx s4).bind fun r5=>
 (if (decide (r5=64)) then
  some true
 else
  some (!lN))
def bJ (F:Nat):(Bool×aD)→Option (St aD aD (Bool×aD))
 |(lN,s4)=>
  (cM s4 lN).bind fun t7=>
  (if t7 then
   (bg s4 64).bind fun r8=>
   (b6 F r8).bind fun (r9,fA)=>
   (bM fA 44).bind fun (e7,gv)=>
   (if (!e7) then
    (bg gv 58).bind fun lB=>some (.ret lB)
   else
    some (.cv (false,gv)))
  else
   some (.eC s4))
def dM (F:Nat) (x2:aD):Option (aD):=
 ((iter (bJ F) F (true,x2)).bind fun o18=>
 match o18 with
 | .inr TM=>
   some TM
 | .inl ud=>
   some ud)
theorem rQ {s4:aD} {lN:Bool} {q1:Nat} {H0 H:AH} (hfr:Fr H0 H0.length [q1] H) (ai:H[q1]? =some [(.str s4.s),(.int .i64 s4.dc),(.bool s4.bad)]) (hi0:q1<H0.length) {K:Exit→Env→AH→Prop} {t6:Bool}
 (h:cM s4 lN=some t6)
 (kn:∀H':AH,Fr H0 H0.length [q1] H'→H'[q1]? =some [(.str s4.s),(.int .i64 s4.dc),(.bool s4.bad)]→K .normal [(0,(.ptr q1 0)),(9,(.bool t6))] H'):
 AX Tryz.prog jB 19 H0.length (erase lE) K [(0,(.ptr q1 0)),(2,(.bool lN))] H:=by
 refine cB fun K' hK=> ?_
 have hle:=hfr.le
 have aW:=aV ai
 rw [cM.eq_1] at h
 refine aG ai ?_
 obtain ⟨r5,hy1,h⟩:=ak h
 refine MA (cA hy1) (nu.cons (.one _ _ (iK.DY (ai.trans rfl) MB)) (nu.nil)) ?_
 refine aG ai ?_
 refine bZ h (fun aS h=> ?_) fun aS h=> ?_
 · refine aG (aH aS ai) ?_
   obtain rfl:=aB h
   exact hK _ _ _ _ _ aK aq (kn _ hfr (ai.trans rfl))
 · refine aG (aH aS ai) ?_
   obtain rfl:=aB h
   exact hK _ _ _ _ _ aK aq (kn _ hfr (ai.trans rfl))
theorem rR {F:Nat} {s4:aD} {lN:Bool} {q1:Nat} {H0 H:AH} (hfr:Fr H0 H0.length [q1] H) (ai:H[q1]? =some [(.str s4.s),(.int .i64 s4.dc),(.bool s4.bad)]) (hi0:q1<H0.length) {K:Exit→Env→AH→Prop} {o:(aD)⊕(aD)}
 (h:iter (bJ F) F (lN,s4)=some o)
 (dw:∀o':aD,o= .inr o'→∀H':AH,Fr H0 H0.length [q1] H'→H'[q1]? =some [(.str o'.s),(.int .i64 o'.dc),(.bool o'.bad)]→K (.exit 0) [] H')
 (kr:∀o':aD,o= .inl o'→∀H':AH,Fr H0 H0.length [q1] H'→H'[q1]? =some [(.str o'.s),(.int .i64 o'.dc),(.bool o'.bad)]→K .ret [] H'):
 AX Tryz.prog jB 19 H0.length (.loop (erase kN)) K [(0,(.ptr q1 0)),(2,(.bool lN))] H:=by
 refine gY (fun s e H1=>match s with|(lN,s4)=>e=[(0,(.ptr q1 0)),(2,(.bool lN))]∧Fr H0 H0.length [q1] H1∧H1[q1]? =some [(.str s4.s),(.int .i64 s4.dc),(.bool s4.bad)]) h ⟨rfl,hfr,ai⟩ ?_
 rintro K' ⟨lN,s4⟩ st e H ⟨rfl,hfr,ai⟩ h hN hB hR hX
 have hle:=hfr.le
 have aW:=aV ai
 rw [bJ.eq_1] at h
 refine aG ai ?_
 obtain ⟨t7,aZ,h⟩:=ak h
 refine bF aq (rQ (q1:=q1) hfr (ai.trans rfl) dG aZ ?_)
 intro H hfr ai
 have hle:=hfr.le
 have aW:=aV ai
 refine aG ai ?_
 refine bL h (fun br h=> ?_) fun br h=> ?_
 · refine aG ai ?_
   obtain ⟨r8,bC,h⟩:=ak h
   refine aY aq (dP (ai.trans rfl) bC) ?_
   refine aG ai ?_
   obtain ⟨⟨r9,fA⟩,bW,h⟩:=ak h
   dsimp only at h
   refine aY aq (mc (q1:=q1) dK bW) ?_
   refine aG ai ?_
   obtain ⟨⟨e7,gv⟩,cO,h⟩:=ak h
   dsimp only at h
   refine aY aq (eK (q1:=q1) dK cO) ?_
   refine aG ai ?_
   refine bL h (fun cD h=> ?_) fun cD h=> ?_
   · refine aG ai ?_
     obtain ⟨lB,dA,h⟩:=ak h
     refine aY aq (dP (q1:=q1) dK dA) ?_
     refine aG ai ?_
     obtain rfl:=aB h
     exact hX _ _ _ _ _ dI WE.nil aq (kr _ (hR _ rfl) _ (cE _ (cE _ (cE _ (cE _ hfr)))) dK)
   · refine aG ai ?_
     obtain rfl:=aB h
     exact hN _ rfl _ _ _ _ aK aq ⟨rfl,(cE _ (cE _ (cE _ hfr))),dK⟩
 · refine aG ai ?_
   obtain rfl:=aB h
   exact hX _ _ _ _ _ dI WE.nil aq (dw _ (hB _ rfl) _ hfr (ai.trans rfl))
theorem vU {F:Nat} {x2:aD} {q1:Nat} {H0:AH} (ai:H0[q1]? =some [(.str x2.s),(.int .i64 x2.dc),(.bool x2.bad)]) {aJ:aD} (h:dM F x2=some aJ):
 aA Tryz.prog 100 [(.ptr q1 0)] H0 fun v H'=>v=(.bz [])∧H'=(H0.set q1 [(.str aJ.s),(.int .i64 aJ.dc),(.bool aJ.bad)]):=by
 have aW:=aV ai
 refine mD xg jB [q1] fun hcl K0 aN H hH hfr=> ?_
 rw [←hH] at ai
 clear hH
 have hle:=hfr.le
 have Dl:=aV ai
 rw [dM.eq_1] at h
 refine aG ai ?_
 obtain ⟨o18,cJ,h⟩:=ak h
 refine bF aq (rR (q1:=q1) hfr (ai.trans rfl) dG cJ ?_ ?_)
 · rintro TM rfl H hfr ai
   try dsimp only at h ai
   have hle:=hfr.le
   have aW:=aV ai
   refine aG ai ?_
   obtain rfl:=aB h
   exact aN _ _ _ Z6 (jK hfr hcl bn bp aX (ai.trans rfl) dG FK CN ⟨rfl,rfl⟩)
 · rintro ud rfl H hfr ai
   try dsimp only at h ai
   have hle:=hfr.le
   have aW:=aV ai
   refine aG ai ?_
   obtain rfl:=aB h
   exact aN _ _ _ bt (jK hfr hcl bn bp aX (ai.trans rfl) dG FK CN ⟨rfl,rfl⟩)
abbrev kO:av:=(.rg [(au 7 0),(aj 8 (.jy (.t 7))),(aj 9 (.cj (.t 8) 2)),(aj 10 (.ld (.t 9) none)),(aj 11 (.un .not (.t 10))),(au 12 11),(ax 13 (.mv (.t 0)) 12 true),(ax 14 (.call (.c (.fn 99 [])) [(.t 13),(.c (b8 34))]) 12 true),(ax 15 (.un .not (.t 14)) 12 true),(aj 16 (.pick (.t 12) (.t 15) (.c (.bool false))))])
abbrev jV:av:=(.seq (.seq (.sem (erase kO)) (.cond (.t 16) .skip (.exit 0))) (.blk 1 (.seq (.rg [(au 17 0),(aj 18 (.call (.c (.fn 99 [])) [(.t 17),(.c (b8 92))]))]) (.seq (.rg [(au 19 0),(aj 20 (.call (.c (.fn 131 [])) [(.t 19)])),(aP 4 20)]) (.seq (.seq (.rg [(au 21 4),(aj 22 (.call (.c (.fn 121 [])) [(.t 21)])),(aj 23 (.un .not (.t 22)))]) (.cond (.t 23) (.seq (.rg [(au 24 0),(aj 25 (.jy (.t 24))),(aj 26 (.cj (.t 25) 2)),(gu (.st (.t 26) (.c (.bool true)) 1))]) (.exit 0)) .skip)) (.seq (.rg [(au 27 0),(aj 28 (.jy (.t 27))),(aj 29 (.cj (.t 28) 1)),(aj 30 (.ld (.t 29) none)),(aj 31 (.bin .add (.t 30) (.c (.int .i64 1)))),(aj 32 (.jy (.t 27))),(aj 33 (.cj (.t 32) 1)),(gu (.st (.t 33) (.t 31) 1))]) (.rg [(au 34 3),(au 35 4),(aj 36 (.gA 1 [(.t 35)])),(aj 37 (.app 1 1 (.t 34) (.t 36))),(aP 3 37)])))))))
abbrev kP:av:=(.rg [(au 38 0),(au 39 0),(aj 40 (.jy (.t 39))),(aj 41 (.cj (.t 40) 2)),(aj 42 (.ld (.t 41) none)),(au 43 42),(ax 44 (.mv (.t 3)) 43 false),(ax 45 (.len (.t 44)) 43 false),(ax 46 (.bin .eql (.t 45) (.c (.int .i64 0))) 43 false),(aj 47 (.pick (.t 43) (.c (.bool true)) (.t 46))),(aj 48 (.jy (.t 38))),(aj 49 (.cj (.t 48) 2)),(gu (.st (.t 49) (.t 47) 1))])
abbrev vV:av:=(.seq (.rg [(aj 2 (.aO (.c (.str []))))]) (.seq (.rg [(aj 3 (.aO (.c (.sl .ex 1 []))))]) (.seq (.rg [(au 5 0),(aj 6 (.call (.c (.fn 98 [])) [(.t 5),(.c (b8 34))]))]) (.seq (.blk 0 (.loop (erase jV))) (.seq (.sem (erase kP)) (.seq (.rg [(au 50 3),(aj 51 (.iS .bs (.t 50))),(aP 2 51)]) .ret))))))
theorem vW:bw Tryz.prog 132 52 [(.tmp 2)] (erase vV):=⟨Tryz.f132,_,rfl,by decide,rfl,by kernel_rfl,rfl,rfl⟩
abbrev fQ:List Nat:=[0,2,3,4,16,23]
def dz (s5:aD):Option (Bool×aD):=
 (if (!s5.bad) then
  (bM s5 34).bind fun (r6,r7)=>some ((!r6),r7)
 else
  some (false,s5))
def bO:((List UInt8)×aD)→Option (St ((List UInt8)×aD) ((List UInt8)×aD) ((List UInt8)×aD))
 |(b4,s5)=>
  (dz s5).bind fun (t10,vT)=>
  (if t10 then
   (bM vT 92).bind fun (gv,lB)=>
   (bx lB).bind fun gM=>
   (k9 gM).bind fun B7=>
   (if (!B7) then
    some (.eC (b4,(aD.mk lB.s lB.dc true)))
   else
    (cw 1 b4 ([gM]:List UInt8)).bind fun oN=>
    some (.cv (oN,(aD.mk lB.s (IntKind.wrap .i64 (lB.dc+1)) lB.bad))))
  else
   some (.eC (b4,vT)))
def eB (Dy:aD) (HY:List UInt8):Option (aD):=
 (if Dy.bad then
  some (aD.mk Dy.s Dy.dc true)
 else
  some (aD.mk Dy.s Dy.dc (decide ((HY.length:Int)=0))))
def gJ (F:Nat) (x2:aD):Option ((List UInt8)×aD):=
 (bg x2 34).bind fun r3=>
 ((iter bO F (([]:List UInt8),r3)).bind fun o23=>
 match o23 with
 | .inr (HY,Dy)=>
   (eB Dy HY).bind fun s22=>
   some (HY,s22)
 | .inl _=>none)
theorem qD {s5:aD} {q1:Nat} {b4:List UInt8} {H0 H:AH} (hfr:Fr H0 H0.length [q1] H) (ai:H[q1]? =some [(.str s5.s),(.int .i64 s5.dc),(.bool s5.bad)]) (hi0:q1<H0.length) {K:Exit→Env→AH→Prop} {t8:Bool} {s9:aD}
 (h:dz s5=some (t8,s9))
 (kn:∀H':AH,Fr H0 H0.length [q1] H'→H'[q1]? =some [(.str s9.s),(.int .i64 s9.dc),(.bool s9.bad)]→K .normal [(0,(.ptr q1 0)),(3,(.sl .own 1 (ml b8 b4))),(16,(.bool t8))] H'):
 AX Tryz.prog fQ 52 H0.length (erase kO) K [(0,(.ptr q1 0)),(3,(.sl .own 1 (ml b8 b4)))] H:=by
 refine cB fun K' hK=> ?_
 have hle:=hfr.le
 have aW:=aV ai
 rw [dz.eq_1] at h
 refine aG ai ?_
 refine bZ h (fun aS h=> ?_) fun aS h=> ?_
 · refine aG (aH aS ai) ?_
   obtain ⟨⟨r6,r7⟩,aZ,h⟩:=ak h
   dsimp only at h
   refine aY aq (eK (ai.trans rfl) aZ) ?_
   refine aG ai ?_
   obtain ⟨rfl,rfl⟩:=gw h
   exact hK _ _ _ _ _ aK aq (kn _ (cE _ hfr) dK)
 · refine aG (aH aS ai) ?_
   obtain ⟨rfl,rfl⟩:=gw h
   exact hK _ _ _ _ _ aK aq (kn _ hfr (ai.trans rfl))
theorem qE {F:Nat} {s5:aD} {b4:List UInt8} {q1:Nat} {H0 H:AH} (hfr:Fr H0 H0.length [q1] H) (ai:H[q1]? =some [(.str s5.s),(.int .i64 s5.dc),(.bool s5.bad)]) (hi0:q1<H0.length) {K:Exit→Env→AH→Prop} {o:((List UInt8)×aD)⊕((List UInt8)×aD)}
 (h:iter bO F (b4,s5)=some o)
 (dw:∀o':(List UInt8)×aD,o= .inr o'→∀H':AH,Fr H0 H0.length [q1] H'→H'[q1]? =some [(.str o'.2.s),(.int .i64 o'.2.dc),(.bool o'.2.bad)]→K (.exit 0) [(0,(.ptr q1 0)),(3,(.sl .own 1 (ml b8 o'.1)))] H'):
 AX Tryz.prog fQ 52 H0.length (.loop (erase jV)) K [(0,(.ptr q1 0)),(3,(.sl .own 1 (ml b8 b4)))] H:=by
 refine gY (fun s e H1=>match s with|(b4,s5)=>e=[(0,(.ptr q1 0)),(3,(.sl .own 1 (ml b8 b4)))]∧Fr H0 H0.length [q1] H1∧H1[q1]? =some [(.str s5.s),(.int .i64 s5.dc),(.bool s5.bad)]) h ⟨rfl,hfr,ai⟩ ?_
 rintro K' ⟨b4,s5⟩ st e H ⟨rfl,hfr,ai⟩ h hN hB hR hX
 have hle:=hfr.le
 have aW:=aV ai
 rw [bO.eq_1] at h
 refine aG ai ?_
 obtain ⟨⟨t10,vT⟩,br,h⟩:=ak h
 dsimp only at h
 refine bF aq (qD (q1:=q1) (b4:=b4) hfr (ai.trans rfl) dG br ?_)
 intro H hfr ai
 have hle:=hfr.le
 have aW:=aV ai
 refine aG ai ?_
 refine bL h (fun bC h=> ?_) fun bC h=> ?_
 · refine aG ai ?_
   obtain ⟨⟨gv,lB⟩,bW,h⟩:=ak h
   dsimp only at h
   refine aY aq (eK (ai.trans rfl) bW) ?_
   refine aG ai ?_
   obtain ⟨gM,cO,h⟩:=ak h
   refine MA (cA cO) (nu.cons (.one _ _ (iK.DY dK MB)) (nu.nil)) ?_
   refine aG ai ?_
   obtain ⟨B7,cD,h⟩:=ak h
   refine aY aq (uB cD) ?_
   refine aG ai ?_
   refine bL h (fun dA h=> ?_) fun dA h=> ?_
   · refine aG ai ?_
     obtain rfl:=aB h
     exact hX _ _ _ _ _ dI aK aq (dw _ (hB _ rfl) _ (cE _ (cE _ hfr)) dK)
   · obtain ⟨oN,cJ,h⟩:=ak h
     have cG:cw 1 (ml b8 b4) [(b8 gM)]=some (ml b8 oN):=eH (f:=b8) cJ
     refine aG (aH cG ai) ?_
     obtain rfl:=aB h
     exact hN _ rfl _ _ _ _ aK aq ⟨rfl,(cE _ (cE _ hfr)),dK⟩
 · refine aG ai ?_
   obtain rfl:=aB h
   exact hX _ _ _ _ _ dI aK aq (dw _ (hB _ rfl) _ hfr (ai.trans rfl))
theorem qF {Dy:aD} {HY:List UInt8} {q1:Nat} {H0 H:AH} (hfr:Fr H0 H0.length [q1] H) (ai:H[q1]? =some [(.str Dy.s),(.int .i64 Dy.dc),(.bool Dy.bad)]) (hi0:q1<H0.length) {K:Exit→Env→AH→Prop} {s21:aD}
 (h:eB Dy HY=some s21)
 (kn:∀H':AH,Fr H0 H0.length [q1] H'→H'[q1]? =some [(.str s21.s),(.int .i64 s21.dc),(.bool s21.bad)]→K .normal [(3,(.sl .own 1 (ml b8 HY)))] H'):
 AX Tryz.prog fQ 52 H0.length (erase kP) K [(0,(.ptr q1 0)),(3,(.sl .own 1 (ml b8 HY)))] H:=by
 refine cB fun K' hK=> ?_
 have hle:=hfr.le
 have aW:=aV ai
 rw [eB.eq_1] at h
 refine aG ai ?_
 refine bZ h (fun cW h=> ?_) fun cW h=> ?_
 · refine aG (aH cW ai) ?_
   obtain rfl:=aB h
   exact hK _ _ _ _ _ aK aq (kn _ (cE _ hfr) dK)
 · refine aG (aH cW ai) ?_
   obtain rfl:=aB h
   exact hK _ _ _ _ _ aK aq (kn _ (cE _ hfr) dK)
theorem uU {F:Nat} {x2:aD} {q1:Nat} {H0:AH} (ai:H0[q1]? =some [(.str x2.s),(.int .i64 x2.dc),(.bool x2.bad)]) {aJ:List UInt8} {eS:aD} (h:gJ F x2=some (aJ,eS)):
 aA Tryz.prog 132 [(.ptr q1 0)] H0 fun v H'=>v=(.str aJ)∧H'=(H0.set q1 [(.str eS.s),(.int .i64 eS.dc),(.bool eS.bad)]):=by
 have aW:=aV ai
 refine mD vW fQ [q1] fun hcl K0 aN H hH hfr=> ?_
 rw [←hH] at ai
 clear hH
 have hle:=hfr.le
 have Dl:=aV ai
 rw [gJ.eq_1] at h
 refine aG ai ?_
 obtain ⟨r3,hy1,h⟩:=ak h
 refine aY aq (dP (ai.trans rfl) hy1) ?_
 refine aG ai ?_
 obtain ⟨o23,cS,h⟩:=ak h
 refine bF aq (qE (q1:=q1) (cE _ hfr) dK dG cS ?_)
 · rintro ⟨HY,Dy⟩ rfl H hfr ai
   try dsimp only at h ai
   have hle:=hfr.le
   have aW:=aV ai
   refine aG ai ?_
   obtain ⟨s22,eT,h⟩:=ak h
   refine bF aq (qF (q1:=q1) hfr (ai.trans rfl) dG eT ?_)
   intro H hfr ai
   have hle:=hfr.le
   have aW:=aV ai
   refine aG ai ?_
   obtain ⟨rfl,rfl⟩:=gw h
   exact aN _ _ _ bt (jK hfr hcl (aT bn (.str HY)) bp aX (ai.trans rfl) dG FK CN ⟨rfl,rfl⟩)
abbrev lF:av:=(.rg [(au 17 4),(aj 18 (.bin .eql (.t 17) (.c (b8 46)))),(au 19 18),(ax 20 (.mv (.t 4)) 19 false),(ax 21 (.bin .neq (.t 20) (.c (b8 0))) 19 false),(ax 22 (.mv (.t 21)) 19 false),(ax 23 (.mv (.t 4)) 22 true),(ax 24 (.call (.c (.fn 133 [])) [(.t 23)]) 22 true),(ax 25 (.pick (.t 22) (.t 24) (.c (.bool false))) 19 false),(aj 26 (.pick (.t 19) (.c (.bool true)) (.t 25)))])
abbrev kQ:av:=(.seq (.seq (.sem (erase lF)) (.cond (.t 26) .skip (.exit 0))) (.seq (.blk 1 (.rg [(au 29 0),(aj 30 (.jy (.t 29))),(aj 31 (.cj (.t 30) 1)),(aj 32 (.ld (.t 31) none)),(aj 33 (.bin .add (.t 32) (.c (.int .i64 1)))),(aj 34 (.jy (.t 29))),(aj 35 (.cj (.t 34) 1)),(gu (.st (.t 35) (.t 33) 1))])) (.rg [(au 27 0),(aj 28 (.call (.c (.fn 131 [])) [(.t 27)])),(aP 4 28)])))
abbrev lG:av:=(.rg [(au 46 0),(au 47 0),(aj 48 (.jy (.t 47))),(aj 49 (.cj (.t 48) 2)),(aj 50 (.ld (.t 49) none)),(au 51 50),(ax 52 (.mv (.t 5)) 51 false),(ax 53 (.call (.c (.fn 115 [])) [(.t 52)]) 51 false),(ax 54 (.un .not (.t 53)) 51 false),(aj 55 (.pick (.t 51) (.c (.bool true)) (.t 54))),(aj 56 (.jy (.t 46))),(aj 57 (.cj (.t 56) 2)),(gu (.st (.t 57) (.t 55) 1))])
abbrev xh:av:=(.seq (.rg [(aj 2 (.aO (.c (.str []))))]) (.seq (.seq (.rg [(au 6 0),(aj 7 (.call (.c (.fn 131 [])) [(.t 6)])),(aj 8 (.bin .eql (.t 7) (.c (b8 34))))]) (.cond (.t 8) (.seq (.rg [(au 9 0),(aj 10 (.call (.c (.fn 132 [])) [(.t 9)])),(aP 2 10)]) .ret) .skip)) (.seq (.rg [(au 11 0),(aj 12 (.jy (.t 11))),(aj 13 (.cj (.t 12) 1)),(aj 14 (.ld (.t 13) none)),(aP 3 14)]) (.seq (.seq (.rg [(au 15 0),(aj 16 (.call (.c (.fn 131 [])) [(.t 15)])),(aP 4 16)]) (.blk 0 (.loop (erase kQ)))) (.seq (.rg [(au 36 0),(aj 37 (.jy (.t 36))),(aj 38 (.cj (.t 37) 0)),(aj 39 (.ld (.t 38) none)),(au 40 3),(au 41 0),(aj 42 (.jy (.t 41))),(aj 43 (.cj (.t 42) 1)),(aj 44 (.ld (.t 43) none)),(aj 45 (.mh (.t 39) (some (.t 40)) (some (.t 44)))),(aP 5 45)]) (.seq (.sem (erase lG)) (.seq (.rg [(au 58 5),(aP 2 58)]) .ret)))))))
theorem xj:bw Tryz.prog 101 59 [(.tmp 2)] (erase xh):=⟨Tryz.f101,_,rfl,by decide,rfl,by kernel_rfl,rfl,rfl⟩
abbrev gq:List Nat:=[0,2,3,4,5,8,26]
def eL (c7:UInt8):Option (Bool):=
 (if (decide (c7=46)) then
  some true
 else
  (if (!decide (c7=0)) then
   (nU c7).bind fun r9=>some r9
  else
   some false))
def eM:(UInt8×aD)→Option (St ((List UInt8)×aD) aD (UInt8×aD))
 |(c7,s8)=>
  (eL c7).bind fun t11=>
  (if t11 then
   (bx (aD.mk s8.s (IntKind.wrap .i64 (s8.dc+1)) s8.bad)).bind fun gv=>
   some (.cv (gv,(aD.mk s8.s (IntKind.wrap .i64 (s8.dc+1)) s8.bad)))
  else
   some (.eC s8))
def eN (F:Nat) (uT:aD) (mK:List UInt8):Option (aD):=
 (if uT.bad then
  some (aD.mk uT.s uT.dc true)
 else
  (l7 F mK).bind fun r16=>some (aD.mk uT.s uT.dc (!r16)))
def dN (F:Nat) (x2:aD):Option ((List UInt8)×aD):=
 (bx x2).bind fun r3=>
 (if (decide (r3=34)) then
  (gJ F x2).bind fun (r4,r5)=>some (r4,r5)
 else
  (bx x2).bind fun r6=>
  ((iter eM F (r6,x2)).bind fun XA=>
  match XA with
  | .inr uT=>
    (sub uT.s x2.dc uT.dc).bind fun mK=>
    (eN F uT mK).bind fun B8=>
    some (mK,B8)
  | .inl _=>none))
theorem rS {c7:UInt8} {q1:Nat} {x2:aD} {s8:aD} {H0 H:AH} (hfr:Fr H0 H0.length [q1] H) (ai:H[q1]? =some [(.str s8.s),(.int .i64 s8.dc),(.bool s8.bad)]) (hi0:q1<H0.length) {K:Exit→Env→AH→Prop} {t10:Bool}
 (h:eL c7=some t10)
 (kn:∀H':AH,Fr H0 H0.length [q1] H'→H'[q1]? =some [(.str s8.s),(.int .i64 s8.dc),(.bool s8.bad)]→K .normal [(0,(.ptr q1 0)),(3,(.int .i64 x2.dc)),(26,(.bool t10))] H'):
 AX Tryz.prog gq 59 H0.length (erase lF) K [(0,(.ptr q1 0)),(3,(.int .i64 x2.dc)),(4,(b8 c7))] H:=by
 refine cB fun K' hK=> ?_
 have hle:=hfr.le
 have aW:=aV ai
 rw [eL.eq_1] at h
 refine aG ai ?_
 refine bZ h (fun bC h=> ?_) fun bC h=> ?_
 · refine aG (aH bC ai) ?_
   obtain rfl:=aB h
   exact hK _ _ _ _ _ aK aq (kn _ hfr (ai.trans rfl))
 · refine aG (aH bC ai) ?_
   refine bZ h (fun bW h=> ?_) fun bW h=> ?_
   · refine aG (aH bW ai) ?_
     obtain ⟨r9,cO,h⟩:=ak h
     refine aY aq (zz cO) ?_
     refine aG ai ?_
     obtain rfl:=aB h
     exact hK _ _ _ _ _ aK aq (kn _ hfr (ai.trans rfl))
   · refine aG (aH bW ai) ?_
     obtain rfl:=aB h
     exact hK _ _ _ _ _ aK aq (kn _ hfr (ai.trans rfl))
theorem rT {F:Nat} {c7:UInt8} {s8:aD} {q1:Nat} {x2:aD} {H0 H:AH} (hfr:Fr H0 H0.length [q1] H) (ai:H[q1]? =some [(.str s8.s),(.int .i64 s8.dc),(.bool s8.bad)]) (hi0:q1<H0.length) {K:Exit→Env→AH→Prop} {o:((List UInt8)×aD)⊕(aD)}
 (h:iter eM F (c7,s8)=some o)
 (dw:∀o':aD,o= .inr o'→∀H':AH,Fr H0 H0.length [q1] H'→H'[q1]? =some [(.str o'.s),(.int .i64 o'.dc),(.bool o'.bad)]→K (.exit 0) [(0,(.ptr q1 0)),(3,(.int .i64 x2.dc))] H'):
 AX Tryz.prog gq 59 H0.length (.loop (erase kQ)) K [(0,(.ptr q1 0)),(3,(.int .i64 x2.dc)),(4,(b8 c7))] H:=by
 refine gY (fun s e H1=>match s with|(c7,s8)=>e=[(0,(.ptr q1 0)),(3,(.int .i64 x2.dc)),(4,(b8 c7))]∧Fr H0 H0.length [q1] H1∧H1[q1]? =some [(.str s8.s),(.int .i64 s8.dc),(.bool s8.bad)]) h ⟨rfl,hfr,ai⟩ ?_
 rintro K' ⟨c7,s8⟩ st e H ⟨rfl,hfr,ai⟩ h hN hB hR hX
 have hle:=hfr.le
 have aW:=aV ai
 rw [eM.eq_1] at h
 refine aG ai ?_
 obtain ⟨t11,cD,h⟩:=ak h
 refine bF aq (rS (q1:=q1) (x2:=x2) (s8:=s8) hfr (ai.trans rfl) dG cD ?_)
 intro H hfr ai
 have hle:=hfr.le
 have aW:=aV ai
 refine aG ai ?_
 refine bL h (fun dA h=> ?_) fun dA h=> ?_
 · refine aG ai ?_
   obtain ⟨gv,cJ,h⟩:=ak h
   refine MA (cA cJ) (nu.cons (.one _ _ (iK.DY dK MB)) (nu.nil)) ?_
   refine aG ai ?_
   obtain rfl:=aB h
   exact hN _ rfl _ _ _ _ aK aq ⟨rfl,(cE _ hfr),dK⟩
 · refine aG ai ?_
   obtain rfl:=aB h
   exact hX _ _ _ _ _ dI aK aq (dw _ (hB _ rfl) _ hfr (ai.trans rfl))
theorem rU {F:Nat} {uT:aD} {mK:List UInt8} {q1:Nat} {H0 H:AH} (hfr:Fr H0 H0.length [q1] H) (ai:H[q1]? =some [(.str uT.s),(.int .i64 uT.dc),(.bool uT.bad)]) (hi0:q1<H0.length) {K:Exit→Env→AH→Prop} {ud:aD}
 (h:eN F uT mK=some ud)
 (kn:∀H':AH,Fr H0 H0.length [q1] H'→H'[q1]? =some [(.str ud.s),(.int .i64 ud.dc),(.bool ud.bad)]→K .normal [(5,(.str mK))] H'):
 AX Tryz.prog gq 59 H0.length (erase lG) K [(0,(.ptr q1 0)),(5,(.str mK))] H:=by
 refine cB fun K' hK=> ?_
 have hle:=hfr.le
 have aW:=aV ai
 rw [eN.eq_1] at h
 refine aG ai ?_
 refine bZ h (fun cW h=> ?_) fun cW h=> ?_
 · refine aG (aH cW ai) ?_
   obtain rfl:=aB h
   exact hK _ _ _ _ _ aK aq (kn _ (cE _ hfr) dK)
 · refine aG (aH cW ai) ?_
   obtain ⟨r16,eT,h⟩:=ak h
   refine aY aq (xN eT) ?_
   refine aG ai ?_
   obtain rfl:=aB h
   exact hK _ _ _ _ _ aK aq (kn _ (cE _ hfr) dK)
theorem vX {F:Nat} {x2:aD} {q1:Nat} {H0:AH} (ai:H0[q1]? =some [(.str x2.s),(.int .i64 x2.dc),(.bool x2.bad)]) {aJ:List UInt8} {eS:aD} (h:dN F x2=some (aJ,eS)):
 aA Tryz.prog 101 [(.ptr q1 0)] H0 fun v H'=>v=(.str aJ)∧H'=(H0.set q1 [(.str eS.s),(.int .i64 eS.dc),(.bool eS.bad)]):=by
 have aW:=aV ai
 refine mD xj gq [q1] fun hcl K0 aN H hH hfr=> ?_
 rw [←hH] at ai
 clear hH
 have hle:=hfr.le
 have Dl:=aV ai
 rw [dN.eq_1] at h
 refine aG ai ?_
 obtain ⟨r3,hy1,h⟩:=ak h
 refine MA (cA hy1) (nu.cons (.one _ _ (iK.DY (ai.trans rfl) MB)) (nu.nil)) ?_
 refine aG ai ?_
 refine bL h (fun aS h=> ?_) fun aS h=> ?_
 · refine aG ai ?_
   obtain ⟨⟨r4,r5⟩,aZ,h⟩:=ak h
   dsimp only at h
   refine aY aq (uU (ai.trans rfl) aZ) ?_
   refine aG ai ?_
   obtain ⟨rfl,rfl⟩:=gw h
   exact aN _ _ _ bt (jK (cE _ hfr) hcl (aT bn (.str r4)) bp aX dK dG FK CN ⟨rfl,rfl⟩)
 · refine aG ai ?_
   obtain ⟨r6,br,h⟩:=ak h
   refine MA (cA br) (nu.cons (.one _ _ (iK.DY (ai.trans rfl) MB)) (nu.nil)) ?_
   refine aG ai ?_
   obtain ⟨XA,cG,h⟩:=ak h
   refine bF aq (rT (q1:=q1) (x2:=x2) hfr (ai.trans rfl) dG cG ?_)
   · rintro uT rfl H hfr ai
     try dsimp only at h ai
     have hle:=hfr.le
     have aW:=aV ai
     refine aG ai ?_
     obtain ⟨mK,cS,h⟩:=ak h
     refine aG (aH cS ai) ?_
     obtain ⟨B8,gh,h⟩:=ak h
     refine bF aq (rU (q1:=q1) hfr (ai.trans rfl) dG gh ?_)
     intro H hfr ai
     have hle:=hfr.le
     have aW:=aV ai
     refine aG ai ?_
     obtain ⟨rfl,rfl⟩:=gw h
     exact aN _ _ _ bt (jK hfr hcl (aT bn (.str mK)) bp aX (ai.trans rfl) dG FK CN ⟨rfl,rfl⟩)
abbrev wI:av:=(.cond (.t 14) (.seq (.rg [(au 15 5),(aj 16 (.call (.c (.fn 100 [])) [(.t 15)]))]) (.seq (.rg [(au 17 5),(aj 18 (.call (.c (.fn 101 [])) [(.t 17)])),(aj 19 (.cj (.t 6) 0)),(gu (.st (.t 19) (.t 18) 1))]) (.seq (.rg [(au 20 5),(aj 21 (.call (.c (.fn 98 [])) [(.t 20),(.c (b8 64))]))]) (.seq (.rg [(au 22 5),(aj 23 (.call (.c (.fn 102 [])) [(.t 22)])),(aj 24 (.cj (.t 6) 1)),(gu (.st (.t 24) (.t 23) 1))]) (.rg [(au 25 5),(aj 26 (.call (.c (.fn 98 [])) [(.t 25),(.c (b8 62))]))]))))) .skip)
abbrev wJ:av:=(.rg [(aj 38 (.Bh (.t 6) (some 2))),(au 39 0),(au 40 5),(aj 41 (.jy (.t 40))),(aj 42 (.cj (.t 41) 1)),(aj 43 (.Bh (.t 42) none)),(aj 44 (.mh (.t 39) (some (.t 43)) none)),(gu (.st (.t 2) (.t 38) 2)),(aP 3 44),(aj 4 (.aO (.c (.int .i64 0))))])
abbrev KK:av:=(.seq (.rg [(aj 2 (.alloc [(.str []),(.str [])])),(aj 3 (.aO (.c (.str [])))),(aj 4 (.aO (.c (.int .i64 0))))]) (.seq (.rg [(au 7 0),(aj 8 (.build [(.str []),(.int .i64 0),(.bool false)] [(0,(1,(.t 7)))])),(aj 9 (.box (.t 8))),(aP 5 9)]) (.seq (.rg [(au 10 5),(aj 11 (.call (.c (.fn 98 [])) [(.t 10),(.c (b8 60))]))]) (.seq (.rg [(aj 6 (.alloc [(.str []),(.str [])]))]) (.seq (.seq (.rg [(au 12 5),(aj 13 (.call (.c (.fn 99 [])) [(.t 12),(.c (b8 62))])),(aj 14 (.un .not (.t 13)))]) (.sem (erase wI))) (.seq (.blk 0 (.seq (.rg [(au 28 5),(aj 29 (.jy (.t 28))),(aj 30 (.cj (.t 29) 2)),(aj 31 (.ld (.t 30) none)),(aP 27 31)]) (.cond (.t 27) (.seq (.rg [(aj 32 (.build [(.str []),(.str [])] [])),(gu (.st (.t 2) (.t 32) 2)),(aj 3 (.aO (.c (.str [])))),(aj 4 (.aO (.c (.int .i64 3))))]) .ret) (.seq (.rg [(aj 34 (.ld (.t 6) (some 2))),(aj 35 (.call (.c (.fn 44 [])) [(.t 34)])),(aj 36 (.un .not (.t 35))),(aP 33 36)]) (.cond (.t 33) (.seq (.rg [(aj 37 (.build [(.str []),(.str [])] [])),(gu (.st (.t 2) (.t 37) 2)),(aj 3 (.aO (.c (.str [])))),(aj 4 (.aO (.c (.int .i64 5))))]) .ret) .skip))))) (.seq (.sem (erase wJ)) .ret)))))))
theorem KL:bw Tryz.prog 67 45 [(.cell 2 28),(.tmp 3),(.tmp 4)] (erase KK):=⟨Tryz.f67,_,rfl,by decide,rfl,by kernel_rfl,rfl,rfl⟩
abbrev vY:List Nat:=[0,2,3,4,5,6,14,27,33]
def fT (F:Nat) (r3:Bool) (r4:aD):Option (aD×ay):=
 (if (!r3) then
  (dM F r4).bind fun r8=>
  (dN F r8).bind fun (r9,fA)=>
  (bg fA 64).bind fun e7=>
  (b6 F e7).bind fun (gv,lB)=>
  (bg lB 62).bind fun gM=>some (gM,(ay.mk r9 gv))
 else
  some (r4,(ay.mk ([]:List UInt8) ([]:List UInt8))))
def lH (s1:List UInt8) (ud:aD) (B8:ay):Option ((List UInt8)×Int×ay):=
 (sub s1 ud.dc (s1.length:Int)).bind fun yR=>some (yR,0,B8)
def qG (F:Nat) (s1:List UInt8):Option (ay×(List UInt8)×Int):=
 (bg (aD.mk s1 0 false) 60).bind fun r2=>
 (bM r2 62).bind fun (r3,r4)=>
 (fT F r3 r4).bind fun (ud,B8)=>
 (if ud.bad then
  some ((ay.mk ([]:List UInt8) ([]:List UInt8)),([]:List UInt8),3)
 else
  (l8 F B8).bind fun F5=>
  (if (!F5) then
   some ((ay.mk ([]:List UInt8) ([]:List UInt8)),([]:List UInt8),5)
  else
   (lH s1 ud B8).bind fun (t25,t26,TN)=>
   some (TN,t25,t26)))
theorem Dz {F:Nat} {r3:Bool} {r4:aD} {s1:List UInt8} {q5:Nat} {q6:Nat} {q7:Nat} {H0 H:AH} (hfr:Fr H0 H0.length [] H) (ai:H[q5]? =some [(.str ([]:List UInt8)),(.str ([]:List UInt8))]) (aL:H[q6]? =some [(.str r4.s),(.int .i64 r4.dc),(.bool r4.bad)]) (eo:H[q7]? =some [(.str ([]:List UInt8)),(.str ([]:List UInt8))]) (hi0:H0.length≤q5) (hi1:H0.length≤q6) (hi2:q5≠q6) (hi3:H0.length≤q7) (hi4:q5≠q7) (hi5:q6≠q7) {K:Exit→Env→AH→Prop} {PV:aD} {TM:ay}
 (h:fT F r3 r4=some (PV,TM))
 (kn:∀H':AH,Fr H0 H0.length [] H'→H'[q5]? =some [(.str ([]:List UInt8)),(.str ([]:List UInt8))]→H'[q6]? =some [(.str PV.s),(.int .i64 PV.dc),(.bool PV.bad)]→H'[q7]? =some [(.str TM.aC),(.str TM.domain)]→K .normal [(0,(.str s1)),(2,(.ptr q5 0)),(5,(.ptr q6 0)),(6,(.ptr q7 0))] H'):
 AX Tryz.prog vY 45 H0.length (erase wI) K [(0,(.str s1)),(2,(.ptr q5 0)),(5,(.ptr q6 0)),(6,(.ptr q7 0)),(14,(.bool (!r3)))] H:=by
 refine cB fun K' hK=> ?_
 have hle:=hfr.le
 have aW:=aV ai
 have lW:=aV aL
 have PW:=aV eo
 rw [fT.eq_1] at h
 refine aG (aH ai (aH aL eo)) ?_
 refine bL h (fun aZ h=> ?_) fun aZ h=> ?_
 · refine aG (aH ai (aH aL eo)) ?_
   obtain ⟨r8,br,h⟩:=ak h
   refine aY aq (vU (aL.trans rfl) br) ?_
   refine aG (aH ai (aH aL eo)) ?_
   obtain ⟨⟨r9,fA⟩,bC,h⟩:=ak h
   dsimp only at h
   refine aY aq (vX (q1:=q6) dK bC) ?_
   refine aG (aH ai (aH aL eo)) ?_
   obtain ⟨e7,bW,h⟩:=ak h
   refine aY aq (dP (q1:=q6) (iB dK) bW) ?_
   refine aG (aH ai (aH aL eo)) ?_
   obtain ⟨⟨gv,lB⟩,cO,h⟩:=ak h
   dsimp only at h
   refine aY aq (mc (q1:=q6) dK cO) ?_
   refine aG (aH ai (aH aL eo)) ?_
   obtain ⟨gM,cD,h⟩:=ak h
   refine aY aq (dP (q1:=q6) (iB dK) cD) ?_
   refine aG (aH ai (aH aL eo)) ?_
   obtain ⟨rfl,rfl⟩:=gw h
   exact hK _ _ _ _ _ aK aq (kn _ (cE _ (cE _ (cE _ (cE _ (cE _ (cE _ (cE _ hfr))))))) (iB (iB (iB (iB (iB (iB (iB (ai.trans rfl)))))))) dK (iB dK))
 · refine aG (aH ai (aH aL eo)) ?_
   obtain ⟨rfl,rfl⟩:=gw h
   exact hK _ _ _ _ _ aK aq (kn _ hfr (ai.trans rfl) (aL.trans rfl) (eo.trans rfl))
theorem DA {s1:List UInt8} {ud:aD} {B8:ay} {TP:Nat} {H0 H:AH} (hfr:Fr H0 H0.length [] H) (ai:H[TP]? =some [(.str ([]:List UInt8)),(.str ([]:List UInt8))]) (hi0:H0.length≤TP) {K:Exit→Env→AH→Prop} {t22:List UInt8} {t23:Int} {s24:ay}
 (h:lH s1 ud B8=some (t22,t23,s24))
 (kn:∀H':AH,Fr H0 H0.length [] H'→H'[TP]? =some [(.str s24.aC),(.str s24.domain)]→K .normal [(2,(.ptr TP 0)),(3,(.str t22)),(4,(.int .i64 t23))] H'):
 AX Tryz.prog vY 45 H0.length (erase wJ) K [(0,(.str s1)),(2,(.ptr TP 0)),(5,(.ep (.agg [(.str ud.s),(.int .i64 ud.dc),(.bool ud.bad)]) 0)),(6,(.ep (.agg [(.str B8.aC),(.str B8.domain)]) 0))] H:=by
 refine cB fun K' hK=> ?_
 have hle:=hfr.le
 have aW:=aV ai
 rw [lH.eq_1] at h
 obtain ⟨yR,cW,h⟩:=ak h
 refine aG (aH cW ai) ?_
 obtain ⟨rfl,rfl,rfl⟩:=rZ h
 exact hK _ _ _ _ _ aK aq (kn _ (cE _ hfr) dK)
theorem HZ {F:Nat} {s1:List UInt8} {H0:AH} {aJ:ay} {eS:List UInt8} {FQ:Int} (h:qG F s1=some (aJ,eS,FQ)):
 aA Tryz.prog 67 [(.str s1)] H0 fun v H'=>v=(.bz [(.agg [(.str aJ.aC),(.str aJ.domain)]),(.str eS),(.int .i64 FQ)])∧H'=H0:=by
 refine mD KL vY [] fun hcl K0 aN H hH hfr=> ?_
 clear hH
 have hle:=hfr.le
 rw [qG.eq_1] at h
 refine cm ?_
 obtain ⟨r2,hy1,h⟩:=ak h
 refine aY aq (dP (q1:=(H.length+1)) xH hy1) ?_
 refine cm ?_
 obtain ⟨⟨r3,r4⟩,aS,h⟩:=ak h
 dsimp only at h
 refine aY aq (eK (q1:=(H.length+1)) (Ee dK) aS) ?_
 refine cm ?_
 obtain ⟨q6,Ah⟩:∃q:Nat,(H.length+1)=q:=⟨_,rfl⟩
 try rw [Ah]
 obtain ⟨q7,PX⟩:∃q:Nat,(H.length+2)=q:=⟨_,rfl⟩
 try rw [PX]
 obtain ⟨q5,Gf⟩:∃q:Nat,H.length=q:=⟨_,rfl⟩
 try rw [Gf]
 try rw [show q5+1=q6 from by omega]
 try rw [show q6+1=q7 from by omega]
 obtain ⟨⟨ud,B8⟩,dA,h⟩:=ak h
 dsimp only at h
 refine bF aq (Dz (s1:=s1) (q5:=q5) (q6:=q6) (q7:=q7) (cE _ (Fr.app (cE _ (Fr.app (Fr.app hfr))))) (iB (Ee (iB (Ee xH)))) dK (iB xH) dG dG dG dG dG dG dA ?_)
 intro H hfr ai aL eo
 have hle:=hfr.le
 have aW:=aV ai
 have lW:=aV aL
 have PW:=aV eo
 refine aG (aH ai (aH aL eo)) ?_
 refine bL h (fun cJ h=> ?_) fun cJ h=> ?_
 · refine aG (aH ai (aH aL eo)) ?_
   obtain ⟨rfl,rfl,rfl⟩:=rZ h
   exact aN _ _ _ bt (bE (cE _ hfr) hcl (ei (cs:=[(.str ([]:List UInt8)),(.str ([]:List UInt8))]) (v:=(.agg [(.str ([]:List UInt8)),(.str ([]:List UInt8))])) (by kernel_rfl) (n:=(some 2)) (by kernel_rfl) rfl dK (by simp [fN,fM,jI,bP,AV.flat,iJ,jJ,AV.bN,Tg.sh]) (aT (aT bn (.int .i64 3)) (.str ([]:List UInt8)))) bp aX ⟨rfl,rfl⟩)
 · refine aG (aH ai (aH aL eo)) ?_
   obtain ⟨F5,cG,h⟩:=ak h
   refine aY aq (xP cG) ?_
   refine aG (aH ai (aH aL eo)) ?_
   refine bL h (fun cS h=> ?_) fun cS h=> ?_
   · refine aG (aH ai (aH aL eo)) ?_
     obtain ⟨rfl,rfl,rfl⟩:=rZ h
     exact aN _ _ _ bt (bE (cE _ hfr) hcl (ei (cs:=[(.str ([]:List UInt8)),(.str ([]:List UInt8))]) (v:=(.agg [(.str ([]:List UInt8)),(.str ([]:List UInt8))])) (by kernel_rfl) (n:=(some 2)) (by kernel_rfl) rfl dK (by simp [fN,fM,jI,bP,AV.flat,iJ,jJ,AV.bN,Tg.sh]) (aT (aT bn (.int .i64 5)) (.str ([]:List UInt8)))) bp aX ⟨rfl,rfl⟩)
   · refine aG (aH ai (aH aL eo)) ?_
     refine J3 ?_
     apply AX.freeze (s:=q7) (cs:=[(.str B8.aC),(.str B8.domain)]) (by exact (eo.trans rfl)) (eV.same (eV.same (eV.nil))) (by simp)
     · repeat (first|exact FZ.nil|apply FZ.ep|apply FZ.same)
     apply AX.freeze (s:=q6) (cs:=[(.str ud.s),(.int .i64 ud.dc),(.bool ud.bad)]) (by exact (iB (aL.trans rfl))) (eV.same (eV.same (eV.same (eV.nil)))) (by simp)
     · repeat (first|exact FZ.nil|apply FZ.ep|apply FZ.same)
     refine PG ?_
     obtain ⟨⟨t25,t26,TN⟩,eT,h⟩:=ak h
     dsimp only at h
     refine bF aq (DA (TP:=q5) (cE _ (cE _ hfr)) (iB (iB (ai.trans rfl))) dG eT ?_)
     intro H hfr ai
     have hle:=hfr.le
     have aW:=aV ai
     refine aG ai ?_
     obtain ⟨rfl,rfl,rfl⟩:=rZ h
     exact aN _ _ _ bt (bE hfr hcl (ei (cs:=[(.str TN.aC),(.str TN.domain)]) (v:=(.agg [(.str TN.aC),(.str TN.domain)])) (by kernel_rfl) (n:=(some 2)) (by kernel_rfl) rfl (ai.trans rfl) (by simp [fN,fM,jI,bP,AV.flat,iJ,jJ,AV.bN,Tg.sh]) (aT (aT bn (.int .i64 t26)) (.str t25))) bp aX ⟨rfl,rfl⟩)
abbrev uV:av:=(.rg [(au 13 6),(aj 14 (.bin .eql (.t 13) (.c (.int .i64 0)))),(au 15 14),(ax 16 (.mv (.t 5)) 15 true),(ax 17 (.bin .neq (.t 16) (.c (.str []))) 15 true),(aj 18 (.pick (.t 15) (.t 17) (.c (.bool false))))])
abbrev H6:av:=(.seq (.rg [(aj 2 (.alloc [(.str []),(.str [])])),(aj 3 (.aO (.c (.int .i64 0))))]) (.seq (.rg [(au 8 0),(aj 9 (.call (.c (.fn 67 [])) [(.t 8)])),(au 7 9),(aj 10 (.ext (.t 7) 0)),(aj 11 (.ext (.t 7) 1)),(aj 12 (.ext (.t 7) 2)),(aj 4 (.alloc [(.str []),(.str [])])),(gu (.st (.t 4) (.t 10) 2)),(aP 5 11),(aP 6 12)]) (.seq (.seq (.sem (erase uV)) (.cond (.t 18) (.seq (.rg [(aj 19 (.build [(.str []),(.str [])] [])),(gu (.st (.t 2) (.t 19) 2)),(aj 3 (.aO (.c (.int .i64 3))))]) .ret) .skip)) (.seq (.rg [(aj 20 (.ld (.t 4) (some 2))),(au 21 6),(gu (.st (.t 2) (.t 20) 2)),(aP 3 21)]) .ret))))
theorem H7:bw Tryz.prog 28 22 [(.cell 2 28),(.tmp 3)] (erase H6):=⟨Tryz.f28,_,rfl,by decide,rfl,by kernel_rfl,rfl,rfl⟩
abbrev zG:List Nat:=[0,2,3,4,5,6,18]
def oA (F:Nat) (s1:List UInt8):Option (ay×Int):=
 (qG F s1).bind fun (r2,r3,r4)=>
 (if ((decide (r4=0))&&(!decide (r3=([]:List UInt8)))) then
  some ((ay.mk ([]:List UInt8) ([]:List UInt8)),3)
 else
  some (r2,r4))
theorem B9 {q5:Nat} {q6:Nat} {r3:List UInt8} {r4:Int} {r2:ay} {H0 H:AH} (hfr:Fr H0 H0.length [] H) (ai:H[q5]? =some [(.str ([]:List UInt8)),(.str ([]:List UInt8))]) (aL:H[q6]? =some [(.str r2.aC),(.str r2.domain)]) (hi0:H0.length≤q5) (hi1:H0.length≤q6) (hi2:q5≠q6) {K:Exit→Env→AH→Prop}
 (kn:∀H':AH,Fr H0 H0.length [] H'→H'[q5]? =some [(.str ([]:List UInt8)),(.str ([]:List UInt8))]→H'[q6]? =some [(.str r2.aC),(.str r2.domain)]→K .normal [(2,(.ptr q5 0)),(4,(.ptr q6 0)),(6,(.int .i64 r4)),(18,(.bool ((decide (r4=0))&&(!decide (r3=([]:List UInt8))))))] H'):
 AX Tryz.prog zG 22 H0.length (erase uV) K [(2,(.ptr q5 0)),(4,(.ptr q6 0)),(5,(.str r3)),(6,(.int .i64 r4))] H:=by
 refine cB fun K' hK=> ?_
 have hle:=hfr.le
 have aW:=aV ai
 have lW:=aV aL
 refine aG (aH ai aL) ?_
 refine om (fun aS=> ?_) fun aS=> ?_
 · refine aG (aH aS (aH ai aL)) ?_
   exact hK _ _ _ _ _ (fh aS) aq (kn _ hfr (ai.trans rfl) (aL.trans rfl))
 · refine aG (aH aS (aH ai aL)) ?_
   exact hK _ _ _ _ _ (fh aS) aq (kn _ hfr (ai.trans rfl) (aL.trans rfl))
theorem Gg {F:Nat} {s1:List UInt8} {H0:AH} {aJ:ay} {eS:Int} (h:oA F s1=some (aJ,eS)):
 aA Tryz.prog 28 [(.str s1)] H0 fun v H'=>v=(.bz [(.agg [(.str aJ.aC),(.str aJ.domain)]),(.int .i64 eS)])∧H'=H0:=by
 refine mD H7 zG [] fun hcl K0 aN H hH hfr=> ?_
 clear hH
 have hle:=hfr.le
 rw [oA.eq_1] at h
 refine cm ?_
 obtain ⟨⟨r2,r3,r4⟩,hy1,h⟩:=ak h
 dsimp only at h
 refine aY aq (HZ hy1) ?_
 refine cm ?_
 obtain ⟨q6,Ah⟩:∃q:Nat,(H.length+1)=q:=⟨_,rfl⟩
 try rw [Ah]
 obtain ⟨q5,Gf⟩:∃q:Nat,H.length=q:=⟨_,rfl⟩
 try rw [Gf]
 try rw [show q5+1=q6 from by omega]
 refine bF aq (B9 (q5:=q5) (q6:=q6) (r3:=r3) (r4:=r4) (r2:=r2) (cE _ (Fr.app (Fr.app hfr))) (iB (Ee xH)) dK dG dG dG ?_)
 intro H hfr ai aL
 have hle:=hfr.le
 have aW:=aV ai
 have lW:=aV aL
 refine aG (aH ai aL) ?_
 refine bL h (fun aZ h=> ?_) fun aZ h=> ?_
 · refine aG (aH ai aL) ?_
   obtain ⟨rfl,rfl⟩:=gw h
   exact aN _ _ _ bt (bE (cE _ hfr) hcl (ei (cs:=[(.str ([]:List UInt8)),(.str ([]:List UInt8))]) (v:=(.agg [(.str ([]:List UInt8)),(.str ([]:List UInt8))])) (by kernel_rfl) (n:=(some 2)) (by kernel_rfl) rfl dK (by simp [fN,fM,jI,bP,AV.flat,iJ,jJ,AV.bN,Tg.sh]) (aT bn (.int .i64 3))) bp aX ⟨rfl,rfl⟩)
 · refine aG (aH ai aL) ?_
   obtain ⟨rfl,rfl⟩:=gw h
   exact aN _ _ _ bt (bE (cE _ hfr) hcl (ei (cs:=[(.str r2.aC),(.str r2.domain)]) (v:=(.agg [(.str r2.aC),(.str r2.domain)])) (by kernel_rfl) (n:=(some 2)) (by kernel_rfl) rfl dK (by simp [fN,fM,jI,bP,AV.flat,iJ,jJ,AV.bN,Tg.sh]) (aT bn (.int .i64 r4))) bp aX ⟨rfl,rfl⟩)
abbrev oZ:av:=(.seq (.rg [(aj 16 (.bin .lss (.t 15) (.t 14)))]) (.seq (.cond (.t 16) .skip (.exit 0)) (.seq (.blk 1 (.seq (.rg [(aj 17 (.mj 1 (.t 13) (.t 15))),(aj 18 (.ld (.t 17) none)),(aP 6 18)]) (.seq (.rg [(au 20 6),(aj 21 (.call (.c (.fn 27 [])) [(.t 20),(.c (.str [70,105,110,97,108,45,82,101,99,105,112,105,101,110,116,58,32,114,102,99,56,50,50,59,32]))])),(au 19 21),(aj 22 (.ext (.t 19) 0)),(aj 23 (.ext (.t 19) 1)),(aP 7 22),(aP 8 23)]) (.seq (.seq (.rg [(au 24 8),(aj 25 (.un .not (.t 24)))]) (.cond (.t 25) (.exit 1) .skip)) (.seq (.rg [(au 27 7),(aj 28 (.call (.c (.fn 28 [])) [(.t 27)])),(au 26 28),(aj 29 (.ext (.t 26) 0)),(aj 30 (.ext (.t 26) 1)),(aj 9 (.alloc [(.str []),(.str [])])),(gu (.st (.t 9) (.t 29) 2)),(aP 10 30)]) (.seq (.rg [(au 31 10),(aj 32 (.bin .eql (.t 31) (.c (.int .i64 0))))]) (.cond (.t 32) (.rg [(au 33 4),(aj 34 (.ld (.t 9) (some 2))),(aj 35 (.gA 2 [(.t 34)])),(aj 36 (.app 2 32 (.t 33) (.t 35))),(aP 4 36)]) .skip))))))) (.rg [(aj 37 (.bin .add (.t 15) (.c (.int .i64 1)))),(au 15 37)]))))
abbrev EA:av:=(.seq (.rg [(aj 2 (.aO (.c (.sl .ex 2 [])))),(aj 3 (.aO (.c (.bool false))))]) (.seq (.rg [(aj 4 (.aO (.c (.sl .ex 2 []))))]) (.seq (.seq (.rg [(au 11 0),(aj 12 (.call (.c (.fn 26 [])) [(.t 11)])),(aj 13 (.call (.c (.fn 25 [])) [(.t 12)])),(aj 14 (.len (.t 13))),(aj 15 (.mv (.c (.int .i64 0))))]) (.blk 0 (.loop (erase oZ)))) (.seq (.rg [(au 38 4),(au 39 4),(aj 40 (.len (.t 39))),(aj 41 (.bin .gtr (.t 40) (.c (.int .i64 0)))),(aP 2 38),(aP 3 41)]) .ret))))
theorem EB:bw Tryz.prog 9 42 [(.tmp 2),(.tmp 3)] (erase EA):=⟨Tryz.f9,_,rfl,by decide,rfl,by kernel_rfl,rfl,rfl⟩
abbrev wK:List Nat:=[0,2,3,4,6,7,8,9,10,13,14,15,16,25,32]
def fZ (F:Nat) (r3:List (List UInt8)):((List ay)×Int)→Option (St ((List ay)×Bool) (List ay) ((List ay)×Int))
 |(yd,t5)=>
  (if (decide (t5<(r3.length:Int))) then
   (idx r3 t5).bind fun x6=>
   (strings_CutPrefix x6 ([70,105,110,97,108,45,82,101,99,105,112,105,101,110,116,58,32,114,102,99,56,50,50,59,32]:List UInt8)).bind fun (r7,r8)=>
   (if (!r8) then
    some (.cv (yd,(IntKind.wrap .i64 (t5+1))))
   else
    (oA F r7).bind fun (r9,fA)=>
    (if (decide (fA=0)) then
     (cw 32 yd ([r9]:List ay)).bind fun fj=>some (.cv (fj,(IntKind.wrap .i64 (t5+1))))
    else
     some (.cv (yd,(IntKind.wrap .i64 (t5+1))))))
  else
   some (.eC yd))
def jt (F:Nat) (b1:List UInt8):Option ((List ay)×Bool):=
 (vO b1).bind fun r2=>
 (qy F r2).bind fun r3=>
 ((iter (fZ F r3) F (([]:List ay),0)).bind fun BS=>
 match BS with
 | .inr oK=>
   some (oK,(decide (0<(oK.length:Int))))
 | .inl _=>none)
theorem y8 {F:Nat} {t5:Int} {r3:List (List UInt8)} {yd:List ay} {H0 H:AH} (hfr:Fr H0 H0.length [] H) {K:Exit→Env→AH→Prop} {o:((List ay)×Bool)⊕((List ay))}
 (h:iter (fZ F r3) F (yd,t5)=some o)
 (dw:∀o':(List ay),o= .inr o'→∀H':AH,Fr H0 H0.length [] H'→K (.exit 0) [(4,(.sl .own 2 (ml bB o')))] H'):
 AX Tryz.prog wK 42 H0.length (.loop (erase oZ)) K [(4,(.sl .own 2 (ml bB yd))),(13,(.sl .n 1 (ml AV.str r3))),(14,(.int .i64 (r3.length:Int))),(15,(.int .i64 t5))] H:=by
 refine gY (fun s e H1=>match s with|(yd,t5)=>e=[(4,(.sl .own 2 (ml bB yd))),(13,(.sl .n 1 (ml AV.str r3))),(14,(.int .i64 (r3.length:Int))),(15,(.int .i64 t5))]∧Fr H0 H0.length [] H1) h ⟨rfl,hfr⟩ ?_
 rintro K' ⟨yd,t5⟩ st e H ⟨rfl,hfr⟩ h hN hB hR hX
 have hle:=hfr.le
 rw [fZ.eq_1] at h
 refine cm ?_
 refine bL h (fun aZ h=> ?_) fun aZ h=> ?_
 · obtain ⟨x6,br,h⟩:=ak h
   refine aG br ?_
   obtain ⟨⟨r7,r8⟩,bC,h⟩:=ak h
   dsimp only at h
   refine aY aq (w7 bC) ?_
   refine cm ?_
   refine bL h (fun bW h=> ?_) fun bW h=> ?_
   · refine cm ?_
     obtain rfl:=aB h
     exact hN _ rfl _ _ _ _ aK aq ⟨rfl,hfr⟩
   · refine cm ?_
     obtain ⟨⟨r9,fA⟩,cO,h⟩:=ak h
     dsimp only at h
     refine aY aq (Gg cO) ?_
     refine cm ?_
     refine bL h (fun cD h=> ?_) fun cD h=> ?_
     · obtain ⟨fj,dA,h⟩:=ak h
       have cJ:cw 32 (ml bB yd) [(.agg [(.str r9.aC),(.str r9.domain)])]=some (ml bB fj):=eH (f:=bB) dA
       refine aG cJ ?_
       obtain rfl:=aB h
       exact hN _ rfl _ _ _ _ aK aq ⟨rfl,(cE _ (Fr.app hfr))⟩
     · refine cm ?_
       obtain rfl:=aB h
       exact hN _ rfl _ _ _ _ aK aq ⟨rfl,(cE _ (Fr.app hfr))⟩
 · refine cm ?_
   obtain rfl:=aB h
   exact hX _ _ _ _ _ dI aK aq (dw _ (hB _ rfl) _ hfr)
theorem uW {F:Nat} {b1:List UInt8} {H0:AH} {aJ:List ay} {eS:Bool} (h:jt F b1=some (aJ,eS)):
 aA Tryz.prog 9 [(.sl .n 1 (ml b8 b1))] H0 fun v H'=>v=(.bz [(.sl .n 2 (ml bB aJ)),(.bool eS)])∧H'=H0:=by
 refine mD EB wK [] fun hcl K0 aN H hH hfr=> ?_
 clear hH
 have hle:=hfr.le
 rw [jt.eq_1] at h
 refine cm ?_
 obtain ⟨r2,hy1,h⟩:=ak h
 refine aY aq (Ez hy1) ?_
 refine cm ?_
 obtain ⟨r3,aS,h⟩:=ak h
 refine aY aq (HX aS) ?_
 refine cm ?_
 obtain ⟨BS,cG,h⟩:=ak h
 refine bF aq (y8 hfr cG ?_)
 · rintro oK rfl H hfr
   try dsimp only at h
   have hle:=hfr.le
   refine cm ?_
   obtain ⟨rfl,rfl⟩:=gw h
   exact aN _ _ _ bt (bE hfr hcl (aT (aT bn (.bool (decide (0<(oK.length:Int))))) (.sl .n 2 (ml bB oK))) bp aX ⟨rfl,rfl⟩)
abbrev Ca:av:=(.rg [(aj 22 (.ld (.t 1) (some 6))),(aj 23 (.gA 1 [(.c (.int .i64 0))])),(aj 24 (.call (.c (.fn 11 [])) [(.c (.str [97,46,98])),(.t 22),(.t 23),(.c (.sl .ex 1 [])),(.c (.int .i64 5))])),(au 21 24),(aj 25 (.ext (.t 21) 0)),(aj 26 (.ext (.t 21) 1)),(aP 2 25),(aP 3 26)])
abbrev sC:av:=(.rg ((au 44 3)::(aj 45 (.un .not (.t 44)))::(au 46 45)::(ax 47 (.mv (.t 5)) 46 true)::(aj 48 (.pick (.t 46) (.t 47) (.c (.bool false))))::(au 49 48)::(ax 50 (.mv (.t 7)) 49 true)::(aj 51 (.pick (.t 49) (.t 50) (.c (.bool false))))::(au 52 51)::(ax 53 (.mv (.t 6)) 52 true)::(ax 54 (.len (.t 53)) 52 true)::(ax 55 (.bin .eql (.t 54) (.c (.int .i64 1))) 52 true)::(aj 56 (.pick (.t 52) (.t 55) (.c (.bool false))))::(au 57 56)::(ax 58 (.mv (.t 6)) 57 true)::(ax 59 (.mj 2 (.t 58) (.c (.int .i64 0))) 57 true)::(ax 60 (.cj (.t 59) 0) 57 true)::(ax 61 (.ld (.t 60) none) 57 true)::(ax 62 (.bin .eql (.t 61) (.c (.str [120]))) 57 true)::(aj 63 (.pick (.t 57) (.t 62) (.c (.bool false))))::(au 64 63)::(ax 65 (.call (.c (.fn 19 [])) [(.c (.int .i64 550))]) 64 true)::(ax 66 (.bin .eql (.t 65) (.c (.str [53,46,48,46,48]))) 64 true)::(aj 67 (.pick (.t 64) (.t 66) (.c (.bool false))))::(au 68 67)::(ax 69 (.call (.c (.fn 19 [])) [(.c (.int .i64 0))]) 68 true)::(ax 70 (.bin .eql (.t 69) (.c (.str [52,46,52,46,55]))) 68 true)::(aj 71 (.pick (.t 68) (.t 70) (.c (.bool false))))::(au 72 71)::(ax 73 (.ld (.t 1) (some 6)) 72 true)::(ax 74 (.call (.c (.fn 16 [])) [(.t 73)]) 72 true)::(ax 75 (.un .not (.t 74)) 72 true)::(aj 76 (.pick (.t 72) (.t 75) (.c (.bool false))))::(aP 0 76)::[]))
abbrev Gh:av:=(.seq (.rg [(aj 0 (.aO (.c (.bool false))))]) (.seq (.rg [(aj 8 (.build [(.str []),(.str []),(.int .i64 0),(.int .i64 0),(.int .i64 0),(.int .i64 0),(.str [])] [(2,(1,(.c (.int .i64 4)))),(5,(1,(.c (.int .i64 550)))),(6,(1,(.c (.str [110,111]))))])),(aj 9 (.nv 7 [(.t 8)])),(aj 10 (.build [(.str []),(.str []),(.int .i64 0),(.int .i64 0),(.int .u32 0),(.sl .ex 7 [])] [(5,(1,(.t 9)))])),(aj 1 (.alloc [(.str []),(.str []),(.int .i64 0),(.int .i64 0),(.int .u32 0),(.sl .ex 7 [])])),(gu (.st (.t 1) (.t 10) 6))]) (.seq (.rg [(aj 11 (.cj (.t 1) 5)),(aj 12 (.ld (.t 11) none)),(aj 13 (.mj 7 (.t 12) (.c (.int .i64 0)))),(aj 14 (.cj (.t 13) 0)),(aj 15 (.cj (.t 14) 0)),(gu (.st (.t 15) (.c (.str [120])) 1))]) (.seq (.rg [(aj 16 (.cj (.t 1) 5)),(aj 17 (.ld (.t 16) none)),(aj 18 (.mj 7 (.t 17) (.c (.int .i64 0)))),(aj 19 (.cj (.t 18) 0)),(aj 20 (.cj (.t 19) 1)),(gu (.st (.t 20) (.c (.str [121])) 1))]) (.seq (.sem (erase Ca)) (.seq (.rg [(aj 27 (.cj (.t 1) 0)),(aj 28 (.cj (.t 27) 0)),(gu (.st (.t 28) (.c (.str [109,101])) 1))]) (.seq (.rg [(aj 29 (.cj (.t 1) 0)),(aj 30 (.cj (.t 29) 1)),(gu (.st (.t 30) (.c (.str [104,111,109,101])) 1))]) (.seq (.rg [(aj 32 (.ld (.t 1) (some 6))),(aj 33 (.gA 1 [(.c (.int .i64 0))])),(aj 35 (.lit 34 [83,58,32,116,13,10,13,10,113])),(aj 36 (.call (.c (.fn 11 [])) [(.c (.str [97,46,98])),(.t 32),(.t 33),(.t 35),(.c (.int .i64 5))])),(au 31 36),(aj 37 (.ext (.t 31) 0)),(aj 38 (.ext (.t 31) 1)),(aP 4 37),(aP 5 38)]) (.seq (.rg [(au 40 4),(aj 41 (.call (.c (.fn 9 [])) [(.t 40)])),(au 39 41),(aj 42 (.ext (.t 39) 0)),(aj 43 (.ext (.t 39) 1)),(aP 6 42),(aP 7 43)]) (.seq (.sem (erase sC)) .ret))))))))))
theorem Gi:bw Tryz.prog 8 77 [(.tmp 0)] (erase Gh):=⟨Tryz.f8,_,rfl,by decide,rfl,by kernel_rfl,rfl,rfl⟩
abbrev ye:List Nat:=[0,1,3,4,5,6,7]
def oO (r2:Bool) (r4:Bool) (r6:Bool) (r5:List ay):Option (Bool):=
 (if (!r2) then
  (if r4 then
   (if r6 then
    (if (decide ((r5.length:Int)=1)) then
     (idx r5 0).bind fun x8=>
     (if (decide (x8.aC=([120]:List UInt8))) then
      (jS 550).bind fun r9=>
      (if (decide (r9=([53,46,48,46,48]:List UInt8))) then
       (jS 0).bind fun fA=>
       (if (decide (fA=([52,46,52,46,55]:List UInt8))) then
        (vB (bu.mk (ay.mk ([109,101]:List UInt8) ([104,111,109,101]:List UInt8)) 0 0 0 ([(ic.mk (ay.mk ([120]:List UInt8) ([121]:List UInt8)) 4 0 0 550 ([110,111]:List UInt8))]:List ic))).bind fun e7=>some (!e7)
       else
        some false)
      else
       some false)
     else
      some false)
    else
     some false)
   else
    some false)
  else
   some false)
 else
  some false)
def mN (F:Nat):Option (Bool):=
 (od F ([97,46,98]:List UInt8) (bu.mk (ay.mk ([]:List UInt8) ([]:List UInt8)) 0 0 0 ([(ic.mk (ay.mk ([120]:List UInt8) ([121]:List UInt8)) 4 0 0 550 ([110,111]:List UInt8))]:List ic)) ([0]:List Int) ([]:List UInt8) 5).bind fun (r1,r2)=>
 (od F ([97,46,98]:List UInt8) (bu.mk (ay.mk ([109,101]:List UInt8) ([104,111,109,101]:List UInt8)) 0 0 0 ([(ic.mk (ay.mk ([120]:List UInt8) ([121]:List UInt8)) 4 0 0 550 ([110,111]:List UInt8))]:List ic)) ([0]:List Int) ([83,58,32,116,13,10,13,10,113]:List UInt8) 5).bind fun (r3,r4)=>
 (jt F r3).bind fun (r5,r6)=>(oO r2 r4 r6 r5).bind fun t13=>
 some t13
theorem Ai {r2:Bool} {r4:Bool} {r6:Bool} {r5:List ay} {q7:Nat} {H0 H:AH} (hfr:Fr H0 H0.length [] H) (aL:H[q7]? =some [(.str ([109,101]:List UInt8)),(.str ([104,111,109,101]:List UInt8)),(.int .i64 0),(.int .i64 0),(.int .u32 0),(.sl .n 7 (ml bH ([(ic.mk (ay.mk ([120]:List UInt8) ([121]:List UInt8)) 4 0 0 550 ([110,111]:List UInt8))]:List ic)))]) (hi0:H0.length≤q7) {K:Exit→Env→AH→Prop} {t12:Bool}
 (h:oO r2 r4 r6 r5=some t12)
 (kn:∀H':AH,Fr H0 H0.length [] H'→H'[q7]? =some [(.str ([109,101]:List UInt8)),(.str ([104,111,109,101]:List UInt8)),(.int .i64 0),(.int .i64 0),(.int .u32 0),(.sl .n 7 (ml bH ([(ic.mk (ay.mk ([120]:List UInt8) ([121]:List UInt8)) 4 0 0 550 ([110,111]:List UInt8))]:List ic)))]→K .normal [(0,(.bool t12))] H'):
 AX Tryz.prog ye 77 H0.length (erase sC) K [(0,(.bool false)),(1,(.ptr q7 0)),(3,(.bool r2)),(5,(.bool r4)),(6,(.sl .n 2 (ml bB r5))),(7,(.bool r6))] H:=by
 refine cB fun K' hK=> ?_
 have hle:=hfr.le
 have lW:=aV aL
 rw [oO.eq_1] at h
 refine aG aL ?_
 refine bZ h (fun bW h=> ?_) fun bW h=> ?_
 · refine aG (aH bW aL) ?_
   refine bZ h (fun cO h=> ?_) fun cO h=> ?_
   · refine aG (aH cO aL) ?_
     refine bZ h (fun cD h=> ?_) fun cD h=> ?_
     · refine aG (aH cD aL) ?_
       refine bZ h (fun dA h=> ?_) fun dA h=> ?_
       · obtain ⟨x8,cJ,h⟩:=ak h
         refine aG (aH dA (aH cJ aL)) ?_
         refine bZ h (fun cG h=> ?_) fun cG h=> ?_
         · refine aG (aH cG aL) ?_
           obtain ⟨r9,cS,h⟩:=ak h
           refine aY aq (mL cS) ?_
           refine aG aL ?_
           refine bZ h (fun cW h=> ?_) fun cW h=> ?_
           · refine aG (aH cW aL) ?_
             obtain ⟨fA,eT,h⟩:=ak h
             refine aY aq (mL eT) ?_
             refine aG aL ?_
             refine bZ h (fun gh h=> ?_) fun gh h=> ?_
             · refine aG (aH gh aL) ?_
               obtain ⟨e7,gx,h⟩:=ak h
               refine aY aq (zq gx) ?_
               refine aG aL ?_
               obtain rfl:=aB h
               exact hK _ _ _ _ _ aK aq (kn _ hfr (aL.trans rfl))
             · refine aG (aH gh aL) ?_
               obtain rfl:=aB h
               exact hK _ _ _ _ _ aK aq (kn _ hfr (aL.trans rfl))
           · refine aG (aH cW aL) ?_
             obtain rfl:=aB h
             exact hK _ _ _ _ _ aK aq (kn _ hfr (aL.trans rfl))
         · refine aG (aH cG aL) ?_
           obtain rfl:=aB h
           exact hK _ _ _ _ _ aK aq (kn _ hfr (aL.trans rfl))
       · refine aG (aH dA aL) ?_
         obtain rfl:=aB h
         exact hK _ _ _ _ _ aK aq (kn _ hfr (aL.trans rfl))
     · refine aG (aH cD aL) ?_
       obtain rfl:=aB h
       exact hK _ _ _ _ _ aK aq (kn _ hfr (aL.trans rfl))
   · refine aG (aH cO aL) ?_
     obtain rfl:=aB h
     exact hK _ _ _ _ _ aK aq (kn _ hfr (aL.trans rfl))
 · refine aG (aH bW aL) ?_
   obtain rfl:=aB h
   exact hK _ _ _ _ _ aK aq (kn _ hfr (aL.trans rfl))
theorem EC {F:Nat} {H0:AH} {aJ:Bool} (h:mN F=some aJ):
 aA Tryz.prog 8 [] H0 fun v H'=>v=(.bool aJ)∧H'=H0:=by
 refine mD Gi ye [] fun hcl K0 aN H hH hfr=> ?_
 clear hH
 have hle:=hfr.le
 rw [mN.eq_1] at h
 have hy1:∀(L:List Nat) (e:Env) (ah:AH) (d:Option Nat),uv L e ah d 7 (.cN H.length 7 0 1) (.int .i64 0)=some (aF L e d (.ptr H.length 0),ah):=fun _ _ _ _=>Xn (j:=0) rfl
 have aS:∀(L:List Nat) (e:Env) (ah:AH) (d:Option Nat),uv L e ah d 7 (.cN H.length 7 0 1) (.int .i64 0)=some (aF L e d (.ptr H.length 0),ah):=fun _ _ _ _=>Xn (j:=0) rfl
 refine aG (aH hy1 aS) ?_
 refine J3 ?_
 apply AX.FM (s:=H.length) (s2:=(H.length+1)) (cs:=[(.str ([120]:List UInt8)),(.str ([121]:List UInt8)),(.int .i64 4),(.int .i64 0),(.int .i64 0),(.int .i64 550),(.str ([110,111]:List UInt8))]) (zs:=[(.str ([]:List UInt8)),(.str ([]:List UInt8)),(.int .i64 0),(.int .i64 0),(.int .u32 0),(.cN H.length 7 0 1)]) (zs':=[(.str ([]:List UInt8)),(.str ([]:List UInt8)),(.int .i64 0),(.int .i64 0),(.int .u32 0),(.sl .n 7 (ml bH ([(ic.mk (ay.mk ([120]:List UInt8) ([121]:List UInt8)) 4 0 0 550 ([110,111]:List UInt8))]:List ic)))]) (by exact dK) (eV.same (eV.same (eV.same (eV.same (eV.same (eV.same (eV.same (eV.nil)))))))) (by simp) (by exact (iB (iB dK))) (by omega) (yL.cons _ _ _ _ (Fc.same _) (yL.cons _ _ _ _ (Fc.same _) (yL.cons _ _ _ _ (Fc.same _) (yL.cons _ _ _ _ (Fc.same _) (yL.cons _ _ _ _ (Fc.same _) (yL.cons _ _ _ _ (Fc.cN 7 1 (ml bH ([(ic.mk (ay.mk ([120]:List UInt8) ([121]:List UInt8)) 4 0 0 550 ([110,111]:List UInt8))]:List ic)) rfl (fun i x hi=>((EK.ml (f:=bH) (fun _=>⟨rfl,rfl,rfl,rfl⟩) _) i x hi).1) rfl rfl rfl) (yL.nil)))))))
 · repeat (first|exact FZ.nil|apply FZ.ep|apply FZ.same)
 refine cB fun Kq2 aeT=> ?_
 refine cm ?_
 obtain ⟨⟨r1,r2⟩,aZ,h⟩:=ak h
 dsimp only at h
 refine aY aq (uS aZ) ?_
 refine cm ?_
 refine aeT _ _ _ [(0,(.bool false)),(1,(.ptr (H.length+1) 0)),(3,(.bool r2))] _ aK aq ?_
 show GZ _
 refine cm ?_
 obtain ⟨⟨r3,r4⟩,br,h⟩:=ak h
 dsimp only at h
 refine aY aq (uS br) ?_
 refine cm ?_
 obtain ⟨⟨r5,r6⟩,bC,h⟩:=ak h
 dsimp only at h
 refine aY aq (uW bC) ?_
 refine cm ?_
 obtain ⟨q7,PX⟩:∃q:Nat,(H.length+1)=q:=⟨_,rfl⟩
 try rw [PX]
 obtain ⟨t13,lu,h⟩:=ak h
 refine bF aq (Ai (q7:=q7) (cE _ (cE _ (cE _ (cE _ (cE _ (cE _ (cE _ (Fr.app (Fr.app hfr))))))))) dK dG lu ?_)
 intro H hfr aL
 have hle:=hfr.le
 have lW:=aV aL
 refine aG aL ?_
 obtain rfl:=aB h
 exact aN _ _ _ bt (bE hfr hcl (aT bn (.bool t13)) bp aX ⟨rfl,rfl⟩)
abbrev uX:av:=(.rg [(au 5 0),(aj 6 (.len (.t 5))),(au 7 1),(aj 8 (.lens (.t 7))),(aj 9 (.bin .geq (.t 6) (.t 8))),(au 10 9),(ax 11 (.mv (.t 0)) 10 true),(ax 12 (.mv (.t 0)) 10 true),(ax 13 (.len (.t 12)) 10 true),(ax 14 (.mv (.t 1)) 10 true),(ax 15 (.lens (.t 14)) 10 true),(ax 16 (.bin .sub (.t 13) (.t 15)) 10 true),(ax 17 (.slc 1 (.t 11) (some (.t 16)) none none) 10 true),(ax 18 (.iS .bs (.t 17)) 10 true),(ax 19 (.mv (.t 1)) 10 true),(ax 20 (.bin .eql (.t 18) (.t 19)) 10 true),(aj 21 (.pick (.t 10) (.t 20) (.c (.bool false)))),(aP 4 21)])
abbrev H8:av:=(.seq (.rg [(aj 4 (.aO (.c (.bool false))))]) (.seq (.sem (erase uX)) .ret))
theorem H9:bw Tryz.prog 103 22 [(.tmp 4)] (erase H8):=⟨Tryz.f103,_,rfl,by decide,rfl,by kernel_rfl,rfl,rfl⟩
abbrev zH:List Nat:=[0,1,4]
def mO (qH:List UInt8) (b1:List UInt8):Option (Bool):=
 (if (decide ((qH.length:Int)≤(b1.length:Int))) then
  (sub b1 (IntKind.wrap .i64 ((b1.length:Int) - (qH.length:Int))) (b1.length:Int)).bind fun x3=>some (decide (x3=qH))
 else
  some false)
def oB (b1:List UInt8) (qH:List UInt8):Option (Bool):=
 (mO qH b1).bind fun t5=>
 some t5
theorem Cb {qH:List UInt8} {b1:List UInt8} {H:AH} {K:Exit→Env→AH→Prop} {t4:Bool}
 (h:mO qH b1=some t4)
 (kn:K .normal [(4,(.bool t4))] H):
 AX Tryz.prog zH 22 H.length (erase uX) K [(0,(.sl .n 1 (ml b8 b1))),(1,(.str qH)),(4,(.bool false))] H:=by
 refine cB fun K' hK=> ?_
 rw [mO.eq_1] at h
 refine az ?_
 refine bZ h (fun hy1 h=> ?_) fun hy1 h=> ?_
 · obtain ⟨x3,aS,h⟩:=ak h
   have aZ:=CM (f:=b8) aS
   refine aQ (aH hy1 aS) ?_
   obtain rfl:=aB h
   exact hK _ _ _ _ _ aK aq kn
 · refine aQ hy1 ?_
   obtain rfl:=aB h
   exact hK _ _ _ _ _ aK aq kn
theorem Gj {b1:List UInt8} {qH:List UInt8} {H0:AH} {aJ:Bool} (h:oB b1 qH=some aJ):
 aA Tryz.prog 103 [(.sl .n 1 (ml b8 b1)),(.str qH)] H0 fun v H'=>v=(.bool aJ)∧H'=H0:=by
 refine eF H9 zH fun hcl K0 aN=> ?_
 rw [oB.eq_1] at h
 refine az ?_
 obtain ⟨t5,br,h⟩:=ak h
 refine bF aq (Cb br ?_)
 refine az ?_
 obtain rfl:=aB h
 exact aN _ _ _ bt (aI hcl (aT bn (.bool t5)) bp aX ⟨rfl,rfl⟩)
abbrev sD:av:=(.rg [(au 3 0),(aj 4 (.len (.t 3))),(aj 5 (.bin .eql (.t 4) (.c (.int .i64 0)))),(au 6 5),(ax 7 (.mv (.t 0)) 6 false),(ax 8 (.call (.c (.fn 103 [])) [(.t 7),(.c (.str [13,10]))]) 6 false),(aj 9 (.pick (.t 6) (.c (.bool true)) (.t 8)))])
abbrev Gk:av:=(.seq (.rg [(aj 2 (.aO (.c (.sl .ex 1 []))))]) (.seq (.seq (.sem (erase sD)) (.cond (.t 9) (.seq (.rg [(aj 10 (.gA 1 [])),(au 11 0),(aj 12 (.app 1 1 (.t 10) (.t 11))),(aP 2 12)]) .ret) .skip)) (.seq (.rg [(aj 13 (.gA 1 [])),(au 14 0),(aj 15 (.app 1 1 (.t 13) (.t 14))),(aj 16 (.gA 1 [(.c (b8 13)),(.c (b8 10))])),(aj 17 (.app 1 1 (.t 15) (.t 16))),(aP 2 17)]) .ret)))
theorem Gl:bw Tryz.prog 68 18 [(.tmp 2)] (erase Gk):=⟨Tryz.f68,_,rfl,by decide,rfl,by kernel_rfl,rfl,rfl⟩
abbrev yf:List Nat:=[0,2,9]
def ja (b1:List UInt8):Option (Bool):=
 (if (decide ((b1.length:Int)=0)) then
  some true
 else
  (oB b1 ([13,10]:List UInt8)).bind fun r2=>some r2)
def mP (b1:List UInt8):Option ((List UInt8)):=
 (ja b1).bind fun t4=>
 (if t4 then
  (cw 1 ([]:List UInt8) b1).bind fun x5=>some x5
 else
  (cw 1 ([]:List UInt8) b1).bind fun x6=>(cw 1 x6 ([13,10]:List UInt8)).bind fun x7=>some x7)
theorem Aj {b1:List UInt8} {H:AH} {K:Exit→Env→AH→Prop} {t3:Bool}
 (h:ja b1=some t3)
 (kn:K .normal [(0,(.sl .n 1 (ml b8 b1))),(9,(.bool t3))] H):
 AX Tryz.prog yf 18 H.length (erase sD) K [(0,(.sl .n 1 (ml b8 b1)))] H:=by
 refine cB fun K' hK=> ?_
 rw [ja.eq_1] at h
 refine az ?_
 refine bZ h (fun hy1 h=> ?_) fun hy1 h=> ?_
 · refine aQ hy1 ?_
   obtain rfl:=aB h
   exact hK _ _ _ _ _ aK aq kn
 · refine aQ hy1 ?_
   obtain ⟨r2,aS,h⟩:=ak h
   refine aY aq (Gj aS) ?_
   refine az ?_
   obtain rfl:=aB h
   exact hK _ _ _ _ _ aK aq kn
theorem ED {b1:List UInt8} {H0:AH} {aJ:List UInt8} (h:mP b1=some aJ):
 aA Tryz.prog 68 [(.sl .n 1 (ml b8 b1))] H0 fun v H'=>v=(.sl .own 1 (ml b8 aJ))∧H'=H0:=by
 refine eF Gl yf fun hcl K0 aN=> ?_
 rw [mP.eq_1] at h
 refine az ?_
 obtain ⟨t4,aZ,h⟩:=ak h
 refine bF aq (Aj aZ ?_)
 refine az ?_
 refine bL h (fun br h=> ?_) fun br h=> ?_
 · obtain ⟨x5,bC,h⟩:=ak h
   have bW:cw 1 [] (ml b8 b1)=some (ml b8 x5):=eH (f:=b8) bC
   refine aQ bW ?_
   obtain rfl:=aB h
   exact aN _ _ _ bt (aI hcl (aT bn (.sl .own 1 (ml b8 x5))) bp aX ⟨rfl,rfl⟩)
 · obtain ⟨x6,cO,h⟩:=ak h
   have cD:cw 1 [] (ml b8 b1)=some (ml b8 x6):=eH (f:=b8) cO
   obtain ⟨x7,dA,h⟩:=ak h
   have cJ:cw 1 (ml b8 x6) [(b8 13),(b8 10)]=some (ml b8 x7):=eH (f:=b8) dA
   refine aQ (aH cD cJ) ?_
   obtain rfl:=aB h
   exact aN _ _ _ bt (aI hcl (aT bn (.sl .own 1 (ml b8 x7))) bp aX ⟨rfl,rfl⟩)
abbrev sE:av:=(.rg [(au 15 3),(au 16 6),(aj 17 (.mj 1 (.t 15) (.t 16))),(aj 18 (.ld (.t 17) none)),(aj 19 (.bin .eql (.t 18) (.c (b8 10)))),(au 20 19),(ax 21 (.mv (.t 3)) 20 true),(ax 22 (.mv (.t 6)) 20 true),(ax 23 (.bin .sub (.t 22) (.c (.int .i64 1))) 20 true),(ax 24 (.mj 1 (.t 21) (.t 23)) 20 true),(ax 25 (.ld (.t 24) none) 20 true),(ax 26 (.bin .eql (.t 25) (.c (b8 13))) 20 true),(aj 27 (.pick (.t 20) (.t 26) (.c (.bool false)))),(au 28 27),(ax 29 (.mv (.t 6)) 28 true),(ax 30 (.mv (.t 5)) 28 true),(ax 31 (.bin .gtr (.t 29) (.t 30)) 28 true),(aj 32 (.pick (.t 28) (.t 31) (.c (.bool false))))])
abbrev qI:av:=(.seq (.seq (.rg [(au 9 6),(au 10 3),(aj 11 (.len (.t 10))),(aj 12 (.bin .lss (.t 9) (.t 11)))]) (.cond (.t 12) .skip (.exit 0))) (.seq (.blk 1 (.seq (.sem (erase sE)) (.cond (.t 32) (.seq (.rg [(au 33 4),(au 34 3),(au 35 5),(au 36 6),(aj 37 (.bin .sub (.t 36) (.c (.int .i64 1)))),(aj 38 (.slc 1 (.t 34) (some (.t 35)) (some (.t 37)) none)),(aj 39 (.iS .bs (.t 38))),(aj 40 (.gA 1 [(.t 39)])),(aj 41 (.app 1 16 (.t 33) (.t 40))),(aP 4 41)]) (.rg [(au 42 6),(aj 43 (.bin .add (.t 42) (.c (.int .i64 1)))),(aP 5 43)])) .skip))) (.rg [(au 13 6),(aj 14 (.bin .add (.t 13) (.c (.int .i64 1)))),(aP 6 14)])))
abbrev Gm:av:=(.seq (.rg [(aj 2 (.aO (.c (.sl .ex 1 []))))]) (.seq (.rg [(au 7 0),(aj 8 (.call (.c (.fn 68 [])) [(.t 7)])),(aP 3 8)]) (.seq (.rg [(aj 4 (.aO (.c (.sl .ex 1 []))))]) (.seq (.rg [(aj 5 (.aO (.c (.int .i64 0))))]) (.seq (.seq (.rg [(aj 6 (.aO (.c (.int .i64 1))))]) (.blk 0 (.loop (erase qI)))) (.seq (.rg [(au 44 4),(aj 2 (.yJ 1 (.t 44)))]) .ret))))))
theorem Gn:bw Tryz.prog 29 45 [(.tmp 2)] (erase Gm):=⟨Tryz.f29,_,rfl,by decide,rfl,by kernel_rfl,rfl,rfl⟩
abbrev qJ:List Nat:=[0,2,3,4,5,6,12,32]
def gC (r2:List UInt8) (i5:Int) (Ak:Int):Option (Bool):=
 (idx r2 i5).bind fun x6=>
 (if (decide (x6=10)) then
  (idx r2 (IntKind.wrap .i64 (i5 - 1))).bind fun x7=>
  (if (decide (x7=13)) then
   some (decide (Ak<i5))
  else
   some false)
 else
  some false)
def ct (r2:List UInt8):((List (List UInt8))×Int×Int)→Option (St (List (List UInt8)) (List (List UInt8)) ((List (List UInt8))×Int×Int))
 |(dU,Ak,i5)=>
  (if (decide (i5<(r2.length:Int))) then
   (gC r2 i5 Ak).bind fun t9=>
   (if t9 then
    (sub r2 Ak (IntKind.wrap .i64 (i5 - 1))).bind fun iY=>
    (cw 16 dU ([iY]:List (List UInt8))).bind fun fj=>
    some (.cv (fj,(IntKind.wrap .i64 (i5+1)),(IntKind.wrap .i64 (i5+1))))
   else
    some (.cv (dU,Ak,(IntKind.wrap .i64 (i5+1)))))
  else
   some (.eC dU))
def mQ (F:Nat) (b1:List UInt8):Option ((List (List UInt8))):=
 (mP b1).bind fun r2=>
 ((iter (ct r2) F (([]:List (List UInt8)),0,1)).bind fun BS=>
 match BS with
 | .inr oK=>
   some oK
 | .inl _=>none)
theorem Al {r2:List UInt8} {i5:Int} {Ak:Int} {dU:List (List UInt8)} {H:AH} {K:Exit→Env→AH→Prop} {t8:Bool}
 (h:gC r2 i5 Ak=some t8)
 (kn:K .normal [(3,(.sl .own 1 (ml b8 r2))),(4,(.sl .own 1 (ml AV.str dU))),(5,(.int .i64 Ak)),(6,(.int .i64 i5)),(32,(.bool t8))] H):
 AX Tryz.prog qJ 45 H.length (erase sE) K [(3,(.sl .own 1 (ml b8 r2))),(4,(.sl .own 1 (ml AV.str dU))),(5,(.int .i64 Ak)),(6,(.int .i64 i5))] H:=by
 refine cB fun K' hK=> ?_
 rw [gC.eq_1] at h
 obtain ⟨x6,aZ,h⟩:=ak h
 refine aQ aZ ?_
 refine bZ h (fun br h=> ?_) fun br h=> ?_
 · obtain ⟨x7,bC,h⟩:=ak h
   refine aQ (aH br bC) ?_
   refine bZ h (fun bW h=> ?_) fun bW h=> ?_
   · refine aQ bW ?_
     obtain rfl:=aB h
     exact hK _ _ _ _ _ aK aq kn
   · refine aQ bW ?_
     obtain rfl:=aB h
     exact hK _ _ _ _ _ aK aq kn
 · refine aQ br ?_
   obtain rfl:=aB h
   exact hK _ _ _ _ _ aK aq kn
theorem An {F:Nat} {i5:Int} {r2:List UInt8} {Ak:Int} {dU:List (List UInt8)} {H:AH} {K:Exit→Env→AH→Prop} {o:((List (List UInt8)))⊕((List (List UInt8)))}
 (h:iter (ct r2) F (dU,Ak,i5)=some o)
 (dw:∀o':(List (List UInt8)),o= .inr o'→K (.exit 0) [(4,(.sl .own 1 (ml AV.str o')))] H):
 AX Tryz.prog qJ 45 H.length (.loop (erase qI)) K [(3,(.sl .own 1 (ml b8 r2))),(4,(.sl .own 1 (ml AV.str dU))),(5,(.int .i64 Ak)),(6,(.int .i64 i5))] H:=by
 refine gY (fun s e H1=>match s with|(dU,Ak,i5)=>e=[(3,(.sl .own 1 (ml b8 r2))),(4,(.sl .own 1 (ml AV.str dU))),(5,(.int .i64 Ak)),(6,(.int .i64 i5))]∧H1=H) h ⟨rfl,rfl⟩ ?_
 rintro K' ⟨dU,Ak,i5⟩ st e H ⟨rfl,rfl⟩ h hN hB hR hX
 rw [ct.eq_1] at h
 refine az ?_
 refine bL h (fun aS h=> ?_) fun aS h=> ?_
 · refine az ?_
   obtain ⟨t9,cO,h⟩:=ak h
   refine bF aq (Al (dU:=dU) cO ?_)
   refine az ?_
   refine bL h (fun cD h=> ?_) fun cD h=> ?_
   · obtain ⟨iY,dA,h⟩:=ak h
     have cJ:=CM (f:=b8) dA
     obtain ⟨fj,cG,h⟩:=ak h
     have cS:cw 16 (ml AV.str dU) [(.str iY)]=some (ml AV.str fj):=eH (f:=AV.str) cG
     refine aQ (aH dA cS) ?_
     obtain rfl:=aB h
     exact hN _ rfl _ _ _ _ aK aq ⟨rfl,rfl⟩
   · refine az ?_
     obtain rfl:=aB h
     exact hN _ rfl _ _ _ _ aK aq ⟨rfl,rfl⟩
 · refine az ?_
   obtain rfl:=aB h
   exact hX _ _ _ _ _ dI aK aq (dw _ (hB _ rfl))
theorem EE {F:Nat} {b1:List UInt8} {H0:AH} {aJ:List (List UInt8)} (h:mQ F b1=some aJ):
 aA Tryz.prog 29 [(.sl .n 1 (ml b8 b1))] H0 fun v H'=>v=(.sl .own 1 (ml AV.str aJ))∧H'=H0:=by
 refine eF Gn qJ fun hcl K0 aN=> ?_
 rw [mQ.eq_1] at h
 refine az ?_
 obtain ⟨r2,hy1,h⟩:=ak h
 refine aY aq (ED hy1) ?_
 refine az ?_
 obtain ⟨BS,cW,h⟩:=ak h
 refine bF aq (An cW ?_)
 · rintro oK rfl
   try dsimp only at h
   refine az ?_
   obtain rfl:=aB h
   exact aN _ _ _ bt (aI hcl (aT bn (.sl .own 1 (ml AV.str oK))) bp aX ⟨rfl,rfl⟩)
abbrev qK:av:=(.rg [(au 3 0),(aj 4 (.bin .geq (.t 3) (.c (b8 65)))),(au 5 4),(ax 6 (.mv (.t 0)) 5 true),(ax 7 (.bin .leq (.t 6) (.c (b8 90))) 5 true),(aj 8 (.pick (.t 5) (.t 7) (.c (.bool false)))),(au 9 8),(ax 10 (.mv (.t 0)) 9 false),(ax 11 (.bin .geq (.t 10) (.c (b8 97))) 9 false),(ax 12 (.mv (.t 11)) 9 false),(ax 13 (.mv (.t 0)) 12 true),(ax 14 (.bin .leq (.t 13) (.c (b8 122))) 12 true),(ax 15 (.pick (.t 12) (.t 14) (.c (.bool false))) 9 false),(aj 16 (.pick (.t 9) (.c (.bool true)) (.t 15))),(aP 2 16)])
abbrev EG:av:=(.seq (.rg [(aj 2 (.aO (.c (.bool false))))]) (.seq (.sem (erase qK)) .ret))
theorem EH:bw Tryz.prog 135 17 [(.tmp 2)] (erase EG):=⟨Tryz.f135,_,rfl,by decide,rfl,by kernel_rfl,rfl,rfl⟩
abbrev wL:List Nat:=[0,2]
def fU (c1:UInt8):Option (Bool):=
 some (((decide (65≤c1))&&(decide (c1≤90)))||((decide (97≤c1))&&(decide (c1≤122))))
theorem y9 {c1:UInt8} {H:AH} {K:Exit→Env→AH→Prop}
 (kn:K .normal [(2,(.bool (((decide (65≤c1))&&(decide (c1≤90)))||((decide (97≤c1))&&(decide (c1≤122))))))] H):
 AX Tryz.prog wL 17 H.length (erase qK) K [(0,(b8 c1)),(2,(.bool false))] H:=by
 refine cB fun K' hK=> ?_
 refine az ?_
 refine om (fun hy1=> ?_) fun hy1=> ?_
 · refine aQ hy1 ?_
   refine om (fun aS=> ?_) fun aS=> ?_
   · refine aQ aS ?_
     exact hK _ _ _ _ _ (fh (aH hy1 aS)) aq kn
   · refine aQ aS ?_
     refine om (fun aZ=> ?_) fun aZ=> ?_
     · refine aQ aZ ?_
       exact hK _ _ _ _ _ (fh (aH hy1 (aH aS aZ))) aq kn
     · refine aQ aZ ?_
       exact hK _ _ _ _ _ (fh (aH hy1 (aH aS aZ))) aq kn
 · refine aQ hy1 ?_
   refine om (fun br=> ?_) fun br=> ?_
   · refine aQ br ?_
     exact hK _ _ _ _ _ (fh (aH hy1 br)) aq kn
   · refine aQ br ?_
     exact hK _ _ _ _ _ (fh (aH hy1 br)) aq kn
theorem kz {c1:UInt8} {H0:AH} {aJ:Bool} (h:fU c1=some aJ):
 aA Tryz.prog 135 [(b8 c1)] H0 fun v H'=>v=(.bool aJ)∧H'=H0:=by
 refine eF EH wL fun hcl K0 aN=> ?_
 rw [fU.eq_1] at h
 refine az ?_
 refine bF aq (y9 (c1:=c1) ?_)
 refine az ?_
 obtain rfl:=aB h
 exact aN _ _ _ bt (aI hcl (aT bn (.bool (((decide (65≤c1))&&(decide (c1≤90)))||((decide (97≤c1))&&(decide (c1≤122)))))) bp aX ⟨rfl,rfl⟩)
abbrev sF:av:=(.rg [(au 3 0),(aj 4 (.bin .geq (.t 3) (.c (b8 48)))),(au 5 4),(ax 6 (.mv (.t 0)) 5 true),(ax 7 (.bin .leq (.t 6) (.c (b8 57))) 5 true),(aj 8 (.pick (.t 5) (.t 7) (.c (.bool false)))),(aP 2 8)])
abbrev Gp:av:=(.seq (.rg [(aj 2 (.aO (.c (.bool false))))]) (.seq (.sem (erase sF)) .ret))
theorem Gq:bw Tryz.prog 136 9 [(.tmp 2)] (erase Gp):=⟨Tryz.f136,_,rfl,by decide,rfl,by kernel_rfl,rfl,rfl⟩
abbrev yg:List Nat:=[0,2]
def fR (c1:UInt8):Option (Bool):=
 some ((decide (48≤c1))&&(decide (c1≤57)))
theorem Ao {c1:UInt8} {H:AH} {K:Exit→Env→AH→Prop}
 (kn:K .normal [(2,(.bool ((decide (48≤c1))&&(decide (c1≤57)))))] H):
 AX Tryz.prog yg 9 H.length (erase sF) K [(0,(b8 c1)),(2,(.bool false))] H:=by
 refine cB fun K' hK=> ?_
 refine az ?_
 refine om (fun hy1=> ?_) fun hy1=> ?_
 · refine aQ hy1 ?_
   exact hK _ _ _ _ _ (fh hy1) aq kn
 · refine aQ hy1 ?_
   exact hK _ _ _ _ _ (fh hy1) aq kn
theorem jb {c1:UInt8} {H0:AH} {aJ:Bool} (h:fR c1=some aJ):
 aA Tryz.prog 136 [(b8 c1)] H0 fun v H'=>v=(.bool aJ)∧H'=H0:=by
 refine eF Gq yg fun hcl K0 aN=> ?_
 rw [fR.eq_1] at h
 refine az ?_
 refine bF aq (Ao (c1:=c1) ?_)
 refine az ?_
 obtain rfl:=aB h
 exact aN _ _ _ bt (aI hcl (aT bn (.bool ((decide (48≤c1))&&(decide (c1≤57))))) bp aX ⟨rfl,rfl⟩)
abbrev sG:av:=(.rg [(au 5 0),(aj 6 (.bin .eql (.t 5) (.c (.str [])))),(au 7 6),(ax 8 (.mv (.t 0)) 7 false),(ax 9 (.lens (.t 8)) 7 false),(ax 10 (.bin .gtr (.t 9) (.c (.int .i64 3))) 7 false),(aj 11 (.pick (.t 7) (.c (.bool true)) (.t 10))),(au 12 11),(ax 13 (.mv (.t 0)) 12 false),(ax 14 (.ixs (.t 13) (.c (.int .i64 0))) 12 false),(ax 15 (.bin .eql (.t 14) (.c (b8 48))) 12 false),(ax 16 (.mv (.t 15)) 12 false),(ax 17 (.mv (.t 0)) 16 true),(ax 18 (.lens (.t 17)) 16 true),(ax 19 (.bin .gtr (.t 18) (.c (.int .i64 1))) 16 true),(ax 20 (.pick (.t 16) (.t 19) (.c (.bool false))) 12 false),(aj 21 (.pick (.t 12) (.c (.bool true)) (.t 20)))])
abbrev qM:av:=(.seq (.seq (.rg [(au 22 4),(au 23 0),(aj 24 (.lens (.t 23))),(aj 25 (.bin .lss (.t 22) (.t 24)))]) (.cond (.t 25) .skip (.exit 0))) (.seq (.blk 1 (.seq (.seq (.rg [(au 28 0),(au 29 4),(aj 30 (.ixs (.t 28) (.t 29))),(aj 31 (.call (.c (.fn 136 [])) [(.t 30)])),(aj 32 (.un .not (.t 31)))]) (.cond (.t 32) (.seq (.rg [(aj 2 (.aO (.c (.bool false))))]) .ret) .skip)) (.rg [(au 33 3),(aj 34 (.bin .mul (.c (.int .i64 10)) (.t 33))),(au 35 0),(au 36 4),(aj 37 (.ixs (.t 35) (.t 36))),(aj 38 (.bin .sub (.t 37) (.c (b8 48)))),(aj 39 (.iS (.int .i64) (.t 38))),(aj 40 (.bin .add (.t 34) (.t 39))),(aP 3 40)]))) (.rg [(au 26 4),(aj 27 (.bin .add (.t 26) (.c (.int .i64 1)))),(aP 4 27)])))
abbrev Gr:av:=(.seq (.rg [(aj 2 (.aO (.c (.bool false))))]) (.seq (.seq (.sem (erase sG)) (.cond (.t 21) (.seq (.rg [(aj 2 (.aO (.c (.bool false))))]) .ret) .skip)) (.seq (.rg [(aj 3 (.aO (.c (.int .i64 0))))]) (.seq (.seq (.rg [(aj 4 (.aO (.c (.int .i64 0))))]) (.blk 0 (.loop (erase qM)))) (.seq (.rg [(au 41 3),(aj 42 (.bin .leq (.t 41) (.c (.int .i64 255)))),(aP 2 42)]) .ret)))))
theorem Gs:bw Tryz.prog 122 43 [(.tmp 2)] (erase Gr):=⟨Tryz.f122,_,rfl,by decide,rfl,by kernel_rfl,rfl,rfl⟩
abbrev qN:List Nat:=[0,2,3,4,21,25,32]
def fD (s1:List UInt8):Option (Bool):=
 (if (decide (s1=([]:List UInt8))) then
  some true
 else
  (if (decide (3<(s1.length:Int))) then
   some true
  else
   (idx s1 0).bind fun x2=>
   (if (decide (x2=48)) then
    some (decide (1<(s1.length:Int)))
   else
    some false)))
def gD (s1:List UInt8):(Int×Int)→Option (St Bool Int (Int×Int))
 |(MO,i6)=>
  (if (decide (i6<(s1.length:Int))) then
   (idx s1 i6).bind fun x7=>
   (fR x7).bind fun r8=>
   (if (!r8) then
    some (.ret false)
   else
    some (.cv ((IntKind.wrap .i64 ((IntKind.wrap .i64 (10*MO))+(IntKind.wrap .i64 ((x7 - 48).toNat:Int)))),(IntKind.wrap .i64 (i6+1)))))
  else
   some (.eC MO))
def fk (F:Nat) (s1:List UInt8):Option (Bool):=
 (fD s1).bind fun t4=>
 (if t4 then
  some false
 else
  ((iter (gD s1) F (0,0)).bind fun XG=>
  match XG with
  | .inr uI=>
    some (decide (uI≤255))
  | .inl gv=>
    some gv))
theorem Ap {s1:List UInt8} {H:AH} {K:Exit→Env→AH→Prop} {t3:Bool}
 (h:fD s1=some t3)
 (kn:K .normal [(0,(.str s1)),(21,(.bool t3))] H):
 AX Tryz.prog qN 43 H.length (erase sG) K [(0,(.str s1))] H:=by
 refine cB fun K' hK=> ?_
 rw [fD.eq_1] at h
 refine az ?_
 refine bZ h (fun hy1 h=> ?_) fun hy1 h=> ?_
 · refine aQ hy1 ?_
   obtain rfl:=aB h
   exact hK _ _ _ _ _ aK aq kn
 · refine aQ hy1 ?_
   refine bZ h (fun aS h=> ?_) fun aS h=> ?_
   · refine aQ aS ?_
     obtain rfl:=aB h
     exact hK _ _ _ _ _ aK aq kn
   · obtain ⟨x2,aZ,h⟩:=ak h
     refine aQ (aH aS aZ) ?_
     refine bZ h (fun br h=> ?_) fun br h=> ?_
     · refine aQ br ?_
       obtain rfl:=aB h
       exact hK _ _ _ _ _ aK aq kn
     · refine aQ br ?_
       obtain rfl:=aB h
       exact hK _ _ _ _ _ aK aq kn
theorem Aq {F:Nat} {i6:Int} {s1:List UInt8} {MO:Int} {H:AH} {K:Exit→Env→AH→Prop} {o:(Bool)⊕(Int)}
 (h:iter (gD s1) F (MO,i6)=some o)
 (dw:∀o':Int,o= .inr o'→K (.exit 0) [(3,(.int .i64 o'))] H)
 (kr:∀o':Bool,o= .inl o'→K .ret [(2,(.bool o'))] H):
 AX Tryz.prog qN 43 H.length (.loop (erase qM)) K [(0,(.str s1)),(3,(.int .i64 MO)),(4,(.int .i64 i6))] H:=by
 refine gY (fun s e H1=>match s with|(MO,i6)=>e=[(0,(.str s1)),(3,(.int .i64 MO)),(4,(.int .i64 i6))]∧H1=H) h ⟨rfl,rfl⟩ ?_
 rintro K' ⟨MO,i6⟩ st e H ⟨rfl,rfl⟩ h hN hB hR hX
 rw [gD.eq_1] at h
 refine az ?_
 refine bL h (fun cO h=> ?_) fun cO h=> ?_
 · obtain ⟨x7,cD,h⟩:=ak h
   refine aQ cD ?_
   obtain ⟨r8,dA,h⟩:=ak h
   refine aY aq (jb dA) ?_
   refine az ?_
   refine bL h (fun cJ h=> ?_) fun cJ h=> ?_
   · refine az ?_
     obtain rfl:=aB h
     exact hX _ _ _ _ _ dI aK aq (kr _ (hR _ rfl))
   · refine aQ cD ?_
     obtain rfl:=aB h
     exact hN _ rfl _ _ _ _ aK aq ⟨rfl,rfl⟩
 · refine az ?_
   obtain rfl:=aB h
   exact hX _ _ _ _ _ dI aK aq (dw _ (hB _ rfl))
theorem EI {F:Nat} {s1:List UInt8} {H0:AH} {aJ:Bool} (h:fk F s1=some aJ):
 aA Tryz.prog 122 [(.str s1)] H0 fun v H'=>v=(.bool aJ)∧H'=H0:=by
 refine eF Gs qN fun hcl K0 aN=> ?_
 rw [fk.eq_1] at h
 refine az ?_
 obtain ⟨t4,bC,h⟩:=ak h
 refine bF aq (Ap bC ?_)
 refine az ?_
 refine bL h (fun bW h=> ?_) fun bW h=> ?_
 · refine az ?_
   obtain rfl:=aB h
   exact aN _ _ _ bt (aI hcl (aT bn (.bool false)) bp aX ⟨rfl,rfl⟩)
 · refine az ?_
   obtain ⟨XG,cG,h⟩:=ak h
   refine bF aq (Aq cG ?_ ?_)
   · rintro uI rfl
     try dsimp only at h
     refine az ?_
     obtain rfl:=aB h
     exact aN _ _ _ bt (aI hcl (aT bn (.bool (decide (uI≤255)))) bp aX ⟨rfl,rfl⟩)
   · rintro gv rfl
     try dsimp only at h
     refine az ?_
     obtain rfl:=aB h
     exact aN _ _ _ bt (aI hcl (aT bn (.bool gv)) bp aX ⟨rfl,rfl⟩)
abbrev sH:av:=(.rg [(au 4 0),(aj 5 (.bin .eql (.t 4) (.c (.str [])))),(au 6 5),(ax 7 (.mv (.t 0)) 6 false),(ax 8 (.lens (.t 7)) 6 false),(ax 9 (.bin .gtr (.t 8) (.c (.int .i64 63))) 6 false),(aj 10 (.pick (.t 6) (.c (.bool true)) (.t 9))),(au 11 10),(ax 12 (.mv (.t 0)) 11 false),(ax 13 (.ixs (.t 12) (.c (.int .i64 0))) 11 false),(ax 14 (.bin .eql (.t 13) (.c (b8 45))) 11 false),(aj 15 (.pick (.t 11) (.c (.bool true)) (.t 14))),(au 16 15),(ax 17 (.mv (.t 0)) 16 false),(ax 18 (.mv (.t 0)) 16 false),(ax 19 (.lens (.t 18)) 16 false),(ax 20 (.bin .sub (.t 19) (.c (.int .i64 1))) 16 false),(ax 21 (.ixs (.t 17) (.t 20)) 16 false),(ax 22 (.bin .eql (.t 21) (.c (b8 45))) 16 false),(aj 23 (.pick (.t 16) (.c (.bool true)) (.t 22)))])
abbrev sI:av:=(.rg [(au 30 0),(au 31 3),(aj 32 (.ixs (.t 30) (.t 31))),(aj 33 (.call (.c (.fn 135 [])) [(.t 32)])),(aj 34 (.un .not (.t 33))),(au 35 34),(ax 36 (.mv (.t 0)) 35 true),(ax 37 (.mv (.t 3)) 35 true),(ax 38 (.ixs (.t 36) (.t 37)) 35 true),(ax 39 (.call (.c (.fn 136 [])) [(.t 38)]) 35 true),(ax 40 (.un .not (.t 39)) 35 true),(aj 41 (.pick (.t 35) (.t 40) (.c (.bool false)))),(au 42 41),(ax 43 (.mv (.t 0)) 42 true),(ax 44 (.mv (.t 3)) 42 true),(ax 45 (.ixs (.t 43) (.t 44)) 42 true),(ax 46 (.bin .neq (.t 45) (.c (b8 45))) 42 true),(aj 47 (.pick (.t 42) (.t 46) (.c (.bool false))))])
abbrev qO:av:=(.seq (.seq (.rg [(au 24 3),(au 25 0),(aj 26 (.lens (.t 25))),(aj 27 (.bin .lss (.t 24) (.t 26)))]) (.cond (.t 27) .skip (.exit 0))) (.seq (.blk 1 (.seq (.sem (erase sI)) (.cond (.t 47) (.seq (.rg [(aj 2 (.aO (.c (.bool false))))]) .ret) .skip))) (.rg [(au 28 3),(aj 29 (.bin .add (.t 28) (.c (.int .i64 1)))),(aP 3 29)])))
abbrev Gt:av:=(.seq (.rg [(aj 2 (.aO (.c (.bool false))))]) (.seq (.seq (.sem (erase sH)) (.cond (.t 23) (.seq (.rg [(aj 2 (.aO (.c (.bool false))))]) .ret) .skip)) (.seq (.seq (.rg [(aj 3 (.aO (.c (.int .i64 0))))]) (.blk 0 (.loop (erase qO)))) (.seq (.rg [(aj 2 (.aO (.c (.bool true))))]) .ret))))
theorem Gu:bw Tryz.prog 123 48 [(.tmp 2)] (erase Gt):=⟨Tryz.f123,_,rfl,by decide,rfl,by kernel_rfl,rfl,rfl⟩
abbrev mR:List Nat:=[0,2,3,23,27,47]
def lO (s1:List UInt8):Option (Bool):=
 (if (decide (s1=([]:List UInt8))) then
  some true
 else
  (if (decide (63<(s1.length:Int))) then
   some true
  else
   (idx s1 0).bind fun x2=>
   (if (decide (x2=45)) then
    some true
   else
    (idx s1 (IntKind.wrap .i64 ((s1.length:Int) - 1))).bind fun x3=>some (decide (x3=45)))))
def jc (s1:List UInt8) (i6:Int):Option (Bool):=
 (idx s1 i6).bind fun x7=>
 (fU x7).bind fun r8=>
 (if (!r8) then
  (fR x7).bind fun r9=>(if (!r9) then
   some (!decide (x7=45))
  else
   some false)
 else
  some false)
def fE (s1:List UInt8):Int→Option (St Bool Unit Int)
 |i6=>
  (if (decide (i6<(s1.length:Int))) then
   (jc s1 i6).bind fun t11=>
   (if t11 then
    some (.ret false)
   else
    some (.cv (IntKind.wrap .i64 (i6+1))))
  else
   some (.eC ()))
def mS (F:Nat) (s1:List UInt8):Option (Bool):=
 (lO s1).bind fun t5=>
 (if t5 then
  some false
 else
  ((iter (fE s1) F 0).bind fun BS=>
  match BS with
  | .inr ()=>
    some true
  | .inl lB=>
    some lB))
theorem As {s1:List UInt8} {H:AH} {K:Exit→Env→AH→Prop} {t4:Bool}
 (h:lO s1=some t4)
 (kn:K .normal [(0,(.str s1)),(23,(.bool t4))] H):
 AX Tryz.prog mR 48 H.length (erase sH) K [(0,(.str s1))] H:=by
 refine cB fun K' hK=> ?_
 rw [lO.eq_1] at h
 refine az ?_
 refine bZ h (fun hy1 h=> ?_) fun hy1 h=> ?_
 · refine aQ hy1 ?_
   obtain rfl:=aB h
   exact hK _ _ _ _ _ aK aq kn
 · refine aQ hy1 ?_
   refine bZ h (fun aS h=> ?_) fun aS h=> ?_
   · refine aQ aS ?_
     obtain rfl:=aB h
     exact hK _ _ _ _ _ aK aq kn
   · obtain ⟨x2,aZ,h⟩:=ak h
     refine aQ (aH aS aZ) ?_
     refine bZ h (fun br h=> ?_) fun br h=> ?_
     · refine aQ br ?_
       obtain rfl:=aB h
       exact hK _ _ _ _ _ aK aq kn
     · obtain ⟨x3,bC,h⟩:=ak h
       refine aQ (aH br bC) ?_
       obtain rfl:=aB h
       exact hK _ _ _ _ _ aK aq kn
theorem Au {s1:List UInt8} {i6:Int} {H:AH} {K:Exit→Env→AH→Prop} {t10:Bool}
 (h:jc s1 i6=some t10)
 (kn:K .normal [(0,(.str s1)),(3,(.int .i64 i6)),(47,(.bool t10))] H):
 AX Tryz.prog mR 48 H.length (erase sI) K [(0,(.str s1)),(3,(.int .i64 i6))] H:=by
 refine cB fun K' hK=> ?_
 rw [jc.eq_1] at h
 obtain ⟨x7,dA,h⟩:=ak h
 refine aQ dA ?_
 obtain ⟨r8,cJ,h⟩:=ak h
 refine aY aq (kz cJ) ?_
 refine az ?_
 refine bZ h (fun cG h=> ?_) fun cG h=> ?_
 · refine aQ (aH cG dA) ?_
   obtain ⟨r9,cS,h⟩:=ak h
   refine aY aq (jb cS) ?_
   refine az ?_
   refine bZ h (fun cW h=> ?_) fun cW h=> ?_
   · refine aQ (aH cW dA) ?_
     obtain rfl:=aB h
     exact hK _ _ _ _ _ aK aq kn
   · refine aQ cW ?_
     obtain rfl:=aB h
     exact hK _ _ _ _ _ aK aq kn
 · refine aQ cG ?_
   obtain rfl:=aB h
   exact hK _ _ _ _ _ aK aq kn
theorem Av {F:Nat} {i6:Int} {s1:List UInt8} {H:AH} {K:Exit→Env→AH→Prop} {o:(Bool)⊕(Unit)}
 (h:iter (fE s1) F i6=some o)
 (dw:∀o':Unit,o= .inr o'→K (.exit 0) [] H)
 (kr:∀o':Bool,o= .inl o'→K .ret [(2,(.bool o'))] H):
 AX Tryz.prog mR 48 H.length (.loop (erase qO)) K [(0,(.str s1)),(3,(.int .i64 i6))] H:=by
 refine gY (fun s e H1=>match s with|i6=>e=[(0,(.str s1)),(3,(.int .i64 i6))]∧H1=H) h ⟨rfl,rfl⟩ ?_
 rintro K' i6 st e H ⟨rfl,rfl⟩ h hN hB hR hX
 rw [fE.eq_1] at h
 refine az ?_
 refine bL h (fun cD h=> ?_) fun cD h=> ?_
 · refine az ?_
   obtain ⟨t11,eT,h⟩:=ak h
   refine bF aq (Au eT ?_)
   refine az ?_
   refine bL h (fun gh h=> ?_) fun gh h=> ?_
   · refine az ?_
     obtain rfl:=aB h
     exact hX _ _ _ _ _ dI aK aq (kr _ (hR _ rfl))
   · refine az ?_
     obtain rfl:=aB h
     exact hN _ rfl _ _ _ _ aK aq ⟨rfl,rfl⟩
 · refine az ?_
   obtain rfl:=aB h
   exact hX _ _ _ _ _ dI WE.nil aq (dw _ (hB _ rfl))
theorem EJ {F:Nat} {s1:List UInt8} {H0:AH} {aJ:Bool} (h:mS F s1=some aJ):
 aA Tryz.prog 123 [(.str s1)] H0 fun v H'=>v=(.bool aJ)∧H'=H0:=by
 refine eF Gu mR fun hcl K0 aN=> ?_
 rw [mS.eq_1] at h
 refine az ?_
 obtain ⟨t5,bW,h⟩:=ak h
 refine bF aq (As bW ?_)
 refine az ?_
 refine bL h (fun cO h=> ?_) fun cO h=> ?_
 · refine az ?_
   obtain rfl:=aB h
   exact aN _ _ _ bt (aI hcl (aT bn (.bool false)) bp aX ⟨rfl,rfl⟩)
 · refine az ?_
   obtain ⟨BS,gx,h⟩:=ak h
   refine bF aq (Av gx ?_ ?_)
   · rintro ⟨⟩ rfl
     try dsimp only at h
     refine az ?_
     obtain rfl:=aB h
     exact aN _ _ _ bt (aI hcl (aT bn (.bool true)) bp aX ⟨rfl,rfl⟩)
   · rintro lB rfl
     try dsimp only at h
     refine az ?_
     obtain rfl:=aB h
     exact aN _ _ _ bt (aI hcl (aT bn (.bool lB)) bp aX ⟨rfl,rfl⟩)
abbrev qP:av:=(.rg [(au 7 0),(aj 8 (.bin .eql (.t 7) (.c (.str [])))),(au 9 8),(ax 10 (.mv (.t 0)) 9 false),(ax 11 (.lens (.t 10)) 9 false),(ax 12 (.bin .gtr (.t 11) (.c (.int .i64 255))) 9 false),(aj 13 (.pick (.t 9) (.c (.bool true)) (.t 12)))])
abbrev qQ:av:=(.rg [(au 18 0),(au 19 0),(aj 20 (.lens (.t 19))),(aj 21 (.bin .sub (.t 20) (.c (.int .i64 1)))),(aj 22 (.ixs (.t 18) (.t 21))),(aj 23 (.bin .neq (.t 22) (.c (b8 93)))),(au 24 23),(ax 25 (.mv (.t 0)) 24 false),(ax 26 (.lens (.t 25)) 24 false),(ax 27 (.bin .lss (.t 26) (.c (.int .i64 2))) 24 false),(aj 28 (.pick (.t 24) (.c (.bool true)) (.t 27)))])
abbrev qR:av:=(.cond (.t 17) (.seq (.seq (.sem (erase qQ)) (.cond (.t 28) (.seq (.rg [(aj 2 (.aO (.c (.bool false))))]) .ret) .skip)) (.rg [(au 29 0),(au 30 0),(aj 31 (.lens (.t 30))),(aj 32 (.bin .sub (.t 31) (.c (.int .i64 1)))),(aj 33 (.mh (.t 29) (some (.c (.int .i64 1))) (some (.t 32)))),(aP 0 33)])) .skip)
abbrev qS:av:=(.rg [(au 40 6),(au 41 0),(aj 42 (.lens (.t 41))),(aj 43 (.bin .lss (.t 40) (.t 42))),(au 44 43),(ax 45 (.mv (.t 0)) 44 true),(ax 46 (.mv (.t 6)) 44 true),(ax 47 (.ixs (.t 45) (.t 46)) 44 true),(ax 48 (.bin .neq (.t 47) (.c (b8 46))) 44 true),(aj 49 (.pick (.t 44) (.t 48) (.c (.bool false))))])
abbrev qT:av:=(.rg [(au 50 3),(au 51 50),(ax 52 (.mv (.t 0)) 51 true),(ax 53 (.mv (.t 4)) 51 true),(ax 54 (.mv (.t 6)) 51 true),(ax 55 (.mh (.t 52) (some (.t 53)) (some (.t 54))) 51 true),(ax 56 (.call (.c (.fn 122 [])) [(.t 55)]) 51 true),(ax 57 (.un .not (.t 56)) 51 true),(aj 58 (.pick (.t 51) (.t 57) (.c (.bool false)))),(au 59 58),(ax 60 (.mv (.t 3)) 59 false),(ax 61 (.un .not (.t 60)) 59 false),(ax 62 (.mv (.t 61)) 59 false),(ax 63 (.mv (.t 0)) 62 true),(ax 64 (.mv (.t 4)) 62 true),(ax 65 (.mv (.t 6)) 62 true),(ax 66 (.mh (.t 63) (some (.t 64)) (some (.t 65))) 62 true),(ax 67 (.call (.c (.fn 123 [])) [(.t 66)]) 62 true),(ax 68 (.un .not (.t 67)) 62 true),(ax 69 (.pick (.t 62) (.t 68) (.c (.bool false))) 59 false),(aj 70 (.pick (.t 59) (.c (.bool true)) (.t 69)))])
abbrev o5:av:=(.seq (.seq (.rg [(au 34 6),(au 35 0),(aj 36 (.lens (.t 35))),(aj 37 (.bin .leq (.t 34) (.t 36)))]) (.cond (.t 37) .skip (.exit 0))) (.seq (.blk 1 (.seq (.seq (.sem (erase qS)) (.cond (.t 49) (.exit 1) .skip)) (.seq (.seq (.sem (erase qT)) (.cond (.t 70) (.seq (.rg [(aj 2 (.aO (.c (.bool false))))]) .ret) .skip)) (.seq (.rg [(au 71 5),(aj 72 (.bin .add (.t 71) (.c (.int .i64 1)))),(aP 5 72)]) (.rg [(au 73 6),(aj 74 (.bin .add (.t 73) (.c (.int .i64 1)))),(aP 4 74)]))))) (.rg [(au 38 6),(aj 39 (.bin .add (.t 38) (.c (.int .i64 1)))),(aP 6 39)])))
abbrev qU:av:=(.rg [(au 75 3),(aj 76 (.un .not (.t 75))),(au 77 76),(ax 78 (.mv (.t 5)) 77 false),(ax 79 (.bin .eql (.t 78) (.c (.int .i64 4))) 77 false),(aj 80 (.pick (.t 77) (.c (.bool true)) (.t 79))),(aP 2 80)])
abbrev EL:av:=(.seq (.rg [(aj 2 (.aO (.c (.bool false))))]) (.seq (.seq (.sem (erase qP)) (.cond (.t 13) (.seq (.rg [(aj 2 (.aO (.c (.bool false))))]) .ret) .skip)) (.seq (.rg [(au 14 0),(aj 15 (.ixs (.t 14) (.c (.int .i64 0)))),(aj 16 (.bin .eql (.t 15) (.c (b8 91)))),(aP 3 16)]) (.seq (.seq (.rg [(au 17 3)]) (.sem (erase qR))) (.seq (.rg [(aj 4 (.aO (.c (.int .i64 0))))]) (.seq (.rg [(aj 5 (.aO (.c (.int .i64 0))))]) (.seq (.seq (.rg [(aj 6 (.aO (.c (.int .i64 0))))]) (.blk 0 (.loop (erase o5)))) (.seq (.sem (erase qU)) .ret))))))))
theorem EM:bw Tryz.prog 87 81 [(.tmp 2)] (erase EL):=⟨Tryz.f87,_,rfl,by decide,rfl,by kernel_rfl,rfl,rfl⟩
abbrev eU:List Nat:=[0,2,3,4,5,6,13,17,28,37,49,70]
def kA (s1:List UInt8):Option (Bool):=
 (idx s1 (IntKind.wrap .i64 ((s1.length:Int) - 1))).bind fun x3=>
 (if (!decide (x3=93)) then
  some true
 else
  some (decide ((s1.length:Int)<2)))
def ir (x2:UInt8) (s1:List UInt8):Option (St Bool Unit (List UInt8)):=
 (if (decide (x2=91)) then
  (kA s1).bind fun t5=>
  (if t5 then
   some (.ret false)
  else
   (sub s1 1 (IntKind.wrap .i64 ((s1.length:Int) - 1))).bind fun x6=>some (.cv x6))
 else
  some (.cv s1))
def fc (i12:Int) (s9:List UInt8):Option (Bool):=
 (if (decide (i12<(s9.length:Int))) then
  (idx s9 i12).bind fun jG=>some (!decide (jG=46))
 else
  some false)
def iu (F:Nat) (x2:UInt8) (s9:List UInt8) (mT:Int) (i12:Int):Option (Bool):=
 (if (decide (x2=91)) then
  (sub s9 mT i12).bind fun oN=>
  (fk F oN).bind fun r17=>(if (!r17) then
   some true
  else
   some false)
 else
  (sub s9 mT i12).bind fun Ep=>(mS F Ep).bind fun F5=>some (!F5))
def cH (F:Nat) (s9:List UInt8) (x2:UInt8):(Int×Int×Int)→Option (St Bool Int (Int×Int×Int))
 |(mT,eO,i12)=>
  (if (decide (i12≤(s9.length:Int))) then
   (fc i12 s9).bind fun t15=>
   (if t15 then
    some (.cv (mT,eO,(IntKind.wrap .i64 (i12+1))))
   else
    (iu F x2 s9 mT i12).bind fun t21=>
    (if t21 then
     some (.ret false)
    else
     some (.cv ((IntKind.wrap .i64 (i12+1)),(IntKind.wrap .i64 (eO+1)),(IntKind.wrap .i64 (i12+1))))))
  else
   some (.eC eO))
def fm (F:Nat) (s1:List UInt8):Option (Bool):=
 (if ((decide (s1=([]:List UInt8)))||(decide (255<(s1.length:Int)))) then
  some false
 else
  (idx s1 0).bind fun x2=>
  ((ir x2 s1).bind fun XH=>
  match XH with
  | .cv s9=>
    ((iter (cH F s9 x2) F (0,0,0)).bind fun XI=>
    match XI with
    | .inr oC=>
      some ((!(decide (x2=91)))||(decide (oC=4)))
    | .inl HV=>
      some HV)
  | .ret r27=>
    some r27
  | .eC _=>none))
theorem za {s1:List UInt8} {H:AH} {K:Exit→Env→AH→Prop}
 (kn:K .normal [(0,(.str s1)),(13,(.bool ((decide (s1=([]:List UInt8)))||(decide (255<(s1.length:Int))))))] H):
 AX Tryz.prog eU 81 H.length (erase qP) K [(0,(.str s1))] H:=by
 refine cB fun K' hK=> ?_
 refine az ?_
 refine om (fun hy1=> ?_) fun hy1=> ?_
 · refine aQ hy1 ?_
   exact hK _ _ _ _ _ (fh hy1) aq kn
 · refine aQ hy1 ?_
   exact hK _ _ _ _ _ (fh hy1) aq kn
theorem zb {s1:List UInt8} {x2:UInt8} {H:AH} {K:Exit→Env→AH→Prop} {t4:Bool}
 (h:kA s1=some t4)
 (kn:K .normal [(0,(.str s1)),(3,(.bool (decide (x2=91)))),(28,(.bool t4))] H):
 AX Tryz.prog eU 81 H.length (erase qQ) K [(0,(.str s1)),(3,(.bool (decide (x2=91))))] H:=by
 refine cB fun K' hK=> ?_
 rw [kA.eq_1] at h
 obtain ⟨x3,bC,h⟩:=ak h
 refine aQ bC ?_
 refine bZ h (fun bW h=> ?_) fun bW h=> ?_
 · refine aQ bW ?_
   obtain rfl:=aB h
   exact hK _ _ _ _ _ aK aq kn
 · refine aQ bW ?_
   obtain rfl:=aB h
   exact hK _ _ _ _ _ aK aq kn
theorem zd {x2:UInt8} {s1:List UInt8} {H:AH} {K:Exit→Env→AH→Prop} {o:St Bool Unit (List UInt8)}
 (h:ir x2 s1=some o)
 (kn:∀o':(List UInt8),o= .cv o'→K .normal [(0,(.str o')),(3,(.bool (decide (x2=91))))] H)
 (kr:∀o':Bool,o= .ret o'→K .ret [(2,(.bool o'))] H):
 AX Tryz.prog eU 81 H.length (erase qR) K [(0,(.str s1)),(3,(.bool (decide (x2=91)))),(17,(.bool (decide (x2=91))))] H:=by
 refine cB fun K' hK=> ?_
 rw [ir.eq_1] at h
 refine az ?_
 refine bL h (fun br h=> ?_) fun br h=> ?_
 · refine az ?_
   obtain ⟨t5,cO,h⟩:=ak h
   refine bF aq (zb (x2:=x2) cO ?_)
   refine az ?_
   refine bL h (fun cD h=> ?_) fun cD h=> ?_
   · refine az ?_
     obtain rfl:=aB h
     exact hK _ _ _ _ _ aK aq (kr _ rfl)
   · obtain ⟨x6,dA,h⟩:=ak h
     refine aQ dA ?_
     obtain rfl:=aB h
     exact hK _ _ _ _ _ aK aq (kn _ rfl)
 · refine az ?_
   obtain rfl:=aB h
   exact hK _ _ _ _ _ aK aq (kn _ rfl)
theorem ze {i12:Int} {s9:List UInt8} {x2:UInt8} {mT:Int} {eO:Int} {H:AH} {K:Exit→Env→AH→Prop} {t14:Bool}
 (h:fc i12 s9=some t14)
 (kn:K .normal [(0,(.str s9)),(3,(.bool (decide (x2=91)))),(4,(.int .i64 mT)),(5,(.int .i64 eO)),(6,(.int .i64 i12)),(49,(.bool t14))] H):
 AX Tryz.prog eU 81 H.length (erase qS) K [(0,(.str s9)),(3,(.bool (decide (x2=91)))),(4,(.int .i64 mT)),(5,(.int .i64 eO)),(6,(.int .i64 i12))] H:=by
 refine cB fun K' hK=> ?_
 rw [fc.eq_1] at h
 refine az ?_
 refine bZ h (fun cS h=> ?_) fun cS h=> ?_
 · obtain ⟨jG,cW,h⟩:=ak h
   refine aQ (aH cS cW) ?_
   obtain rfl:=aB h
   exact hK _ _ _ _ _ aK aq kn
 · refine aQ cS ?_
   obtain rfl:=aB h
   exact hK _ _ _ _ _ aK aq kn
theorem zf {F:Nat} {x2:UInt8} {s9:List UInt8} {mT:Int} {i12:Int} {eO:Int} {H:AH} {K:Exit→Env→AH→Prop} {t20:Bool}
 (h:iu F x2 s9 mT i12=some t20)
 (kn:K .normal [(0,(.str s9)),(3,(.bool (decide (x2=91)))),(5,(.int .i64 eO)),(6,(.int .i64 i12)),(70,(.bool t20))] H):
 AX Tryz.prog eU 81 H.length (erase qT) K [(0,(.str s9)),(3,(.bool (decide (x2=91)))),(4,(.int .i64 mT)),(5,(.int .i64 eO)),(6,(.int .i64 i12))] H:=by
 refine cB fun K' hK=> ?_
 rw [iu.eq_1] at h
 refine az ?_
 refine bZ h (fun gx h=> ?_) fun gx h=> ?_
 · obtain ⟨oN,lu,h⟩:=ak h
   refine aQ (aH gx lu) ?_
   obtain ⟨r17,jD,h⟩:=ak h
   refine aY aq (EI jD) ?_
   refine az ?_
   refine bZ h (fun jQ h=> ?_) fun jQ h=> ?_
   · refine aQ jQ ?_
     obtain rfl:=aB h
     exact hK _ _ _ _ _ (fh (aH gx jQ)) aq kn
   · refine aQ jQ ?_
     obtain rfl:=aB h
     exact hK _ _ _ _ _ (fh (aH gx jQ)) aq kn
 · obtain ⟨Ep,lz,h⟩:=ak h
   refine aQ (aH gx lz) ?_
   obtain ⟨F5,ig,h⟩:=ak h
   refine aY aq (EJ ig) ?_
   refine az ?_
   obtain rfl:=aB h
   exact hK _ _ _ _ _ (fh gx) aq kn
theorem zg {F:Nat} {i12:Int} {s9:List UInt8} {mT:Int} {eO:Int} {x2:UInt8} {H:AH} {K:Exit→Env→AH→Prop} {o:(Bool)⊕(Int)}
 (h:iter (cH F s9 x2) F (mT,eO,i12)=some o)
 (dw:∀o':Int,o= .inr o'→K (.exit 0) [(3,(.bool (decide (x2=91)))),(5,(.int .i64 o'))] H)
 (kr:∀o':Bool,o= .inl o'→K .ret [(2,(.bool o'))] H):
 AX Tryz.prog eU 81 H.length (.loop (erase o5)) K [(0,(.str s9)),(3,(.bool (decide (x2=91)))),(4,(.int .i64 mT)),(5,(.int .i64 eO)),(6,(.int .i64 i12))] H:=by
 refine gY (fun s e H1=>match s with|(mT,eO,i12)=>e=[(0,(.str s9)),(3,(.bool (decide (x2=91)))),(4,(.int .i64 mT)),(5,(.int .i64 eO)),(6,(.int .i64 i12))]∧H1=H) h ⟨rfl,rfl⟩ ?_
 rintro K' ⟨mT,eO,i12⟩ st e H ⟨rfl,rfl⟩ h hN hB hR hX
 rw [cH.eq_1] at h
 refine az ?_
 refine bL h (fun cG h=> ?_) fun cG h=> ?_
 · refine az ?_
   obtain ⟨t15,eT,h⟩:=ak h
   refine bF aq (ze (x2:=x2) (mT:=mT) (eO:=eO) eT ?_)
   refine az ?_
   refine bL h (fun gh h=> ?_) fun gh h=> ?_
   · refine az ?_
     obtain rfl:=aB h
     exact hN _ rfl _ _ _ _ aK aq ⟨rfl,rfl⟩
   · refine az ?_
     obtain ⟨t21,lA,h⟩:=ak h
     refine bF aq (zf (eO:=eO) lA ?_)
     refine az ?_
     refine bL h (fun mI h=> ?_) fun mI h=> ?_
     · refine az ?_
       obtain rfl:=aB h
       exact hX _ _ _ _ _ dI aK aq (kr _ (hR _ rfl))
     · refine az ?_
       obtain rfl:=aB h
       exact hN _ rfl _ _ _ _ aK aq ⟨rfl,rfl⟩
 · refine az ?_
   obtain rfl:=aB h
   exact hX _ _ _ _ _ dI aK aq (dw _ (hB _ rfl))
theorem zh {x2:UInt8} {oC:Int} {H:AH} {K:Exit→Env→AH→Prop}
 (kn:K .normal [(2,(.bool ((!(decide (x2=91)))||(decide (oC=4)))))] H):
 AX Tryz.prog eU 81 H.length (erase qU) K [(3,(.bool (decide (x2=91)))),(5,(.int .i64 oC))] H:=by
 refine cB fun K' hK=> ?_
 refine az ?_
 refine om (fun jR=> ?_) fun jR=> ?_
 · refine aQ jR ?_
   exact hK _ _ _ _ _ (fh jR) aq kn
 · refine aQ jR ?_
   exact hK _ _ _ _ _ (fh jR) aq kn
theorem uY {F:Nat} {s1:List UInt8} {H0:AH} {aJ:Bool} (h:fm F s1=some aJ):
 aA Tryz.prog 87 [(.str s1)] H0 fun v H'=>v=(.bool aJ)∧H'=H0:=by
 refine eF EM eU fun hcl K0 aN=> ?_
 rw [fm.eq_1] at h
 refine az ?_
 refine bF aq (za (s1:=s1) ?_)
 refine az ?_
 refine bL h (fun aS h=> ?_) fun aS h=> ?_
 · refine az ?_
   obtain rfl:=aB h
   exact aN _ _ _ bt (aI hcl (aT bn (.bool false)) bp aX ⟨rfl,rfl⟩)
 · obtain ⟨x2,aZ,h⟩:=ak h
   refine aQ aZ ?_
   obtain ⟨XH,cJ,h⟩:=ak h
   refine bF aq (zd cJ ?_ ?_)
   · rintro s9 rfl
     try dsimp only at h
     refine az ?_
     obtain ⟨XI,iD,h⟩:=ak h
     refine bF aq (zg iD ?_ ?_)
     · rintro oC rfl
       try dsimp only at h
       refine az ?_
       refine bF aq (zh (x2:=x2) (oC:=oC) ?_)
       refine az ?_
       obtain rfl:=aB h
       exact aN _ _ _ bt (aI hcl (aT bn (.bool ((!(decide (x2=91)))||(decide (oC=4))))) bp aX ⟨rfl,rfl⟩)
     · rintro HV rfl
       try dsimp only at h
       refine az ?_
       obtain rfl:=aB h
       exact aN _ _ _ bt (aI hcl (aT bn (.bool HV)) bp aX ⟨rfl,rfl⟩)
   · rintro r27 rfl
     try dsimp only at h
     refine az ?_
     obtain rfl:=aB h
     exact aN _ _ _ bt (aI hcl (aT bn (.bool r27)) bp aX ⟨rfl,rfl⟩)
abbrev sJ:av:=(.rg [(au 5 0),(aj 6 (.call (.c (.fn 135 [])) [(.t 5)])),(au 7 6),(ax 8 (.mv (.t 0)) 7 false),(ax 9 (.call (.c (.fn 136 [])) [(.t 8)]) 7 false),(aj 10 (.pick (.t 7) (.c (.bool true)) (.t 9)))])
abbrev qV:av:=(.seq (.seq (.rg [(au 11 4),(au 12 3),(aj 13 (.lens (.t 12))),(aj 14 (.bin .lss (.t 11) (.t 13)))]) (.cond (.t 14) .skip (.exit 0))) (.seq (.blk 1 (.seq (.rg [(au 17 3),(au 18 4),(aj 19 (.ixs (.t 17) (.t 18))),(au 20 0),(aj 21 (.bin .eql (.t 19) (.t 20)))]) (.cond (.t 21) (.seq (.rg [(aj 2 (.aO (.c (.bool true))))]) .ret) .skip))) (.rg [(au 15 4),(aj 16 (.bin .add (.t 15) (.c (.int .i64 1)))),(aP 4 16)])))
abbrev Gv:av:=(.seq (.rg [(aj 2 (.aO (.c (.bool false))))]) (.seq (.seq (.sem (erase sJ)) (.cond (.t 10) (.seq (.rg [(aj 2 (.aO (.c (.bool true))))]) .ret) .skip)) (.seq (.rg [(aj 3 (.aO (.c (.str [33,35,36,37,38,39,42,43,45,47,61,63,94,95,123,124,125,126]))))]) (.seq (.seq (.rg [(aj 4 (.aO (.c (.int .i64 0))))]) (.blk 0 (.loop (erase qV)))) (.seq (.rg [(au 22 0),(aj 23 (.bin .eql (.t 22) (.c (b8 96)))),(aP 2 23)]) .ret)))))
theorem Gw:bw Tryz.prog 127 24 [(.tmp 2)] (erase Gv):=⟨Tryz.f127,_,rfl,by decide,rfl,by kernel_rfl,rfl,rfl⟩
abbrev qW:List Nat:=[0,2,3,4,10,14,21]
def oP (c1:UInt8):Option (Bool):=
 (fU c1).bind fun r2=>
 (if r2 then
  some true
 else
  (fR c1).bind fun r3=>some r3)
def oQ (c1:UInt8):Int→Option (St Bool Unit Int)
 |i6=>
  (if (decide (i6<(([33,35,36,37,38,39,42,43,45,47,61,63,94,95,123,124,125,126]:List UInt8).length:Int))) then
   (idx ([33,35,36,37,38,39,42,43,45,47,61,63,94,95,123,124,125,126]:List UInt8) i6).bind fun x7=>
   (if (decide (x7=c1)) then
    some (.ret true)
   else
    some (.cv (IntKind.wrap .i64 (i6+1))))
  else
   some (.eC ()))
def iO (F:Nat) (c1:UInt8):Option (Bool):=
 (oP c1).bind fun t5=>
 (if t5 then
  some true
 else
  ((iter (oQ c1) F 0).bind fun XJ=>
  match XJ with
  | .inr ()=>
    some (decide (c1=96))
  | .inl r9=>
    some r9))
theorem Aw {c1:UInt8} {H:AH} {K:Exit→Env→AH→Prop} {t4:Bool}
 (h:oP c1=some t4)
 (kn:K .normal [(0,(b8 c1)),(10,(.bool t4))] H):
 AX Tryz.prog qW 24 H.length (erase sJ) K [(0,(b8 c1))] H:=by
 refine cB fun K' hK=> ?_
 rw [oP.eq_1] at h
 refine az ?_
 obtain ⟨r2,hy1,h⟩:=ak h
 refine aY aq (kz hy1) ?_
 refine az ?_
 refine bZ h (fun aS h=> ?_) fun aS h=> ?_
 · refine aQ aS ?_
   obtain rfl:=aB h
   exact hK _ _ _ _ _ aK aq kn
 · refine aQ aS ?_
   obtain ⟨r3,aZ,h⟩:=ak h
   refine aY aq (jb aZ) ?_
   refine az ?_
   obtain rfl:=aB h
   exact hK _ _ _ _ _ aK aq kn
theorem Ax {F:Nat} {i6:Int} {c1:UInt8} {H:AH} {K:Exit→Env→AH→Prop} {o:(Bool)⊕(Unit)}
 (h:iter (oQ c1) F i6=some o)
 (dw:∀o':Unit,o= .inr o'→K (.exit 0) [(0,(b8 c1))] H)
 (kr:∀o':Bool,o= .inl o'→K .ret [(2,(.bool o'))] H):
 AX Tryz.prog qW 24 H.length (.loop (erase qV)) K [(0,(b8 c1)),(3,(.str ([33,35,36,37,38,39,42,43,45,47,61,63,94,95,123,124,125,126]:List UInt8))),(4,(.int .i64 i6))] H:=by
 refine gY (fun s e H1=>match s with|i6=>e=[(0,(b8 c1)),(3,(.str ([33,35,36,37,38,39,42,43,45,47,61,63,94,95,123,124,125,126]:List UInt8))),(4,(.int .i64 i6))]∧H1=H) h ⟨rfl,rfl⟩ ?_
 rintro K' i6 st e H ⟨rfl,rfl⟩ h hN hB hR hX
 rw [oQ.eq_1] at h
 refine az ?_
 refine bL h (fun bW h=> ?_) fun bW h=> ?_
 · obtain ⟨x7,cO,h⟩:=ak h
   refine aQ cO ?_
   refine bL h (fun cD h=> ?_) fun cD h=> ?_
   · refine az ?_
     obtain rfl:=aB h
     exact hX _ _ _ _ _ dI aK aq (kr _ (hR _ rfl))
   · refine az ?_
     obtain rfl:=aB h
     exact hN _ rfl _ _ _ _ aK aq ⟨rfl,rfl⟩
 · refine az ?_
   obtain rfl:=aB h
   exact hX _ _ _ _ _ dI aK aq (dw _ (hB _ rfl))
theorem wM {F:Nat} {c1:UInt8} {H0:AH} {aJ:Bool} (h:iO F c1=some aJ):
 aA Tryz.prog 127 [(b8 c1)] H0 fun v H'=>v=(.bool aJ)∧H'=H0:=by
 refine eF Gw qW fun hcl K0 aN=> ?_
 rw [iO.eq_1] at h
 refine az ?_
 obtain ⟨t5,br,h⟩:=ak h
 refine bF aq (Aw br ?_)
 refine az ?_
 refine bL h (fun bC h=> ?_) fun bC h=> ?_
 · refine az ?_
   obtain rfl:=aB h
   exact aN _ _ _ bt (aI hcl (aT bn (.bool true)) bp aX ⟨rfl,rfl⟩)
 · refine az ?_
   obtain ⟨XJ,dA,h⟩:=ak h
   refine bF aq (Ax dA ?_ ?_)
   · rintro ⟨⟩ rfl
     try dsimp only at h
     refine az ?_
     obtain rfl:=aB h
     exact aN _ _ _ bt (aI hcl (aT bn (.bool (decide (c1=96)))) bp aX ⟨rfl,rfl⟩)
   · rintro r9 rfl
     try dsimp only at h
     refine az ?_
     obtain rfl:=aB h
     exact aN _ _ _ bt (aI hcl (aT bn (.bool r9)) bp aX ⟨rfl,rfl⟩)
abbrev sK:av:=(.rg [(au 11 0),(au 12 3),(aj 13 (.ixs (.t 11) (.t 12))),(aj 14 (.bin .eql (.t 13) (.c (b8 46)))),(au 15 14),(ax 16 (.mv (.t 3)) 15 true),(ax 17 (.bin .gtr (.t 16) (.c (.int .i64 0))) 15 true),(aj 18 (.pick (.t 15) (.t 17) (.c (.bool false)))),(au 19 18),(ax 20 (.mv (.t 3)) 19 true),(ax 21 (.bin .add (.t 20) (.c (.int .i64 1))) 19 true),(ax 22 (.mv (.t 0)) 19 true),(ax 23 (.lens (.t 22)) 19 true),(ax 24 (.bin .lss (.t 21) (.t 23)) 19 true),(aj 25 (.pick (.t 19) (.t 24) (.c (.bool false)))),(au 26 25),(ax 27 (.mv (.t 0)) 26 true),(ax 28 (.mv (.t 3)) 26 true),(ax 29 (.bin .sub (.t 28) (.c (.int .i64 1))) 26 true),(ax 30 (.ixs (.t 27) (.t 29)) 26 true),(ax 31 (.bin .neq (.t 30) (.c (b8 46))) 26 true),(aj 32 (.pick (.t 26) (.t 31) (.c (.bool false)))),(aP 4 32)])
abbrev sL:av:=(.rg [(au 33 4),(aj 34 (.un .not (.t 33))),(au 35 34),(ax 36 (.mv (.t 0)) 35 true),(ax 37 (.mv (.t 3)) 35 true),(ax 38 (.ixs (.t 36) (.t 37)) 35 true),(ax 39 (.call (.c (.fn 127 [])) [(.t 38)]) 35 true),(ax 40 (.un .not (.t 39)) 35 true),(aj 41 (.pick (.t 35) (.t 40) (.c (.bool false))))])
abbrev qX:av:=(.seq (.seq (.rg [(au 5 3),(au 6 0),(aj 7 (.lens (.t 6))),(aj 8 (.bin .lss (.t 5) (.t 7)))]) (.cond (.t 8) .skip (.exit 0))) (.seq (.blk 1 (.seq (.sem (erase sK)) (.seq (.sem (erase sL)) (.cond (.t 41) (.seq (.rg [(aj 2 (.aO (.c (.bool false))))]) .ret) .skip)))) (.rg [(au 9 3),(aj 10 (.bin .add (.t 9) (.c (.int .i64 1)))),(aP 3 10)])))
abbrev Gx:av:=(.seq (.rg [(aj 2 (.aO (.c (.bool false))))]) (.seq (.seq (.rg [(aj 3 (.aO (.c (.int .i64 0))))]) (.blk 0 (.loop (erase qX)))) (.seq (.rg [(au 42 0),(aj 43 (.bin .neq (.t 42) (.c (.str [])))),(aP 2 43)]) .ret)))
theorem Gy:bw Tryz.prog 95 44 [(.tmp 2)] (erase Gx):=⟨Tryz.f95,_,rfl,by decide,rfl,by kernel_rfl,rfl,rfl⟩
abbrev mU:List Nat:=[0,2,3,4,8,41]
def jd (s1:List UInt8) (i2:Int):Option (Bool):=
 (idx s1 i2).bind fun x3=>
 (if (decide (x3=46)) then
  (if (decide (0<i2)) then
   (if (decide ((IntKind.wrap .i64 (i2+1))<(s1.length:Int))) then
    (idx s1 (IntKind.wrap .i64 (i2 - 1))).bind fun x4=>some (!decide (x4=46))
   else
    some false)
  else
   some false)
 else
  some false)
def lP (F:Nat) (Gz:Bool) (s1:List UInt8) (i2:Int):Option (Bool):=
 (if (!Gz) then
  (idx s1 i2).bind fun x7=>(iO F x7).bind fun r8=>some (!r8)
 else
  some false)
def fF (F:Nat) (s1:List UInt8):Int→Option (St Bool Unit Int)
 |i2=>
  (if (decide (i2<(s1.length:Int))) then
   (jd s1 i2).bind fun Gz=>
   (lP F Gz s1 i2).bind fun t10=>
   (if t10 then
    some (.ret false)
   else
    some (.cv (IntKind.wrap .i64 (i2+1))))
  else
   some (.eC ()))
def kB (F:Nat) (s1:List UInt8):Option (Bool):=
 ((iter (fF F s1) F 0).bind fun XG=>
 match XG with
 | .inr ()=>
   some (!decide (s1=([]:List UInt8)))
 | .inl gv=>
   some gv)
theorem Ay {s1:List UInt8} {i2:Int} {H:AH} {K:Exit→Env→AH→Prop} {aaR:Bool}
 (h:jd s1 i2=some aaR)
 (kn:K .normal [(0,(.str s1)),(3,(.int .i64 i2)),(4,(.bool aaR))] H):
 AX Tryz.prog mU 44 H.length (erase sK) K [(0,(.str s1)),(3,(.int .i64 i2))] H:=by
 refine cB fun K' hK=> ?_
 rw [jd.eq_1] at h
 obtain ⟨x3,aS,h⟩:=ak h
 refine aQ aS ?_
 refine bZ h (fun aZ h=> ?_) fun aZ h=> ?_
 · refine aQ aZ ?_
   refine bZ h (fun br h=> ?_) fun br h=> ?_
   · refine aQ br ?_
     refine bZ h (fun bC h=> ?_) fun bC h=> ?_
     · obtain ⟨x4,bW,h⟩:=ak h
       refine aQ (aH bC bW) ?_
       obtain rfl:=aB h
       exact hK _ _ _ _ _ aK aq kn
     · refine aQ bC ?_
       obtain rfl:=aB h
       exact hK _ _ _ _ _ aK aq kn
   · refine aQ br ?_
     obtain rfl:=aB h
     exact hK _ _ _ _ _ aK aq kn
 · refine aQ aZ ?_
   obtain rfl:=aB h
   exact hK _ _ _ _ _ aK aq kn
theorem Az {F:Nat} {Gz:Bool} {s1:List UInt8} {i2:Int} {H:AH} {K:Exit→Env→AH→Prop} {t9:Bool}
 (h:lP F Gz s1 i2=some t9)
 (kn:K .normal [(0,(.str s1)),(3,(.int .i64 i2)),(41,(.bool t9))] H):
 AX Tryz.prog mU 44 H.length (erase sL) K [(0,(.str s1)),(3,(.int .i64 i2)),(4,(.bool Gz))] H:=by
 refine cB fun K' hK=> ?_
 rw [lP.eq_1] at h
 refine az ?_
 refine bZ h (fun cD h=> ?_) fun cD h=> ?_
 · obtain ⟨x7,dA,h⟩:=ak h
   refine aQ (aH cD dA) ?_
   obtain ⟨r8,cJ,h⟩:=ak h
   refine aY aq (wM cJ) ?_
   refine az ?_
   obtain rfl:=aB h
   exact hK _ _ _ _ _ aK aq kn
 · refine aQ cD ?_
   obtain rfl:=aB h
   exact hK _ _ _ _ _ aK aq kn
theorem AA {F:Nat} {i2:Int} {s1:List UInt8} {H:AH} {K:Exit→Env→AH→Prop} {o:(Bool)⊕(Unit)}
 (h:iter (fF F s1) F i2=some o)
 (dw:∀o':Unit,o= .inr o'→K (.exit 0) [(0,(.str s1))] H)
 (kr:∀o':Bool,o= .inl o'→K .ret [(2,(.bool o'))] H):
 AX Tryz.prog mU 44 H.length (.loop (erase qX)) K [(0,(.str s1)),(3,(.int .i64 i2))] H:=by
 refine gY (fun s e H1=>match s with|i2=>e=[(0,(.str s1)),(3,(.int .i64 i2))]∧H1=H) h ⟨rfl,rfl⟩ ?_
 rintro K' i2 st e H ⟨rfl,rfl⟩ h hN hB hR hX
 rw [fF.eq_1] at h
 refine az ?_
 refine bL h (fun hy1 h=> ?_) fun hy1 h=> ?_
 · refine az ?_
   obtain ⟨Gz,cO,h⟩:=ak h
   refine bF aq (Ay cO ?_)
   refine az ?_
   obtain ⟨t10,cG,h⟩:=ak h
   refine bF aq (Az cG ?_)
   refine az ?_
   refine bL h (fun cS h=> ?_) fun cS h=> ?_
   · refine az ?_
     obtain rfl:=aB h
     exact hX _ _ _ _ _ dI aK aq (kr _ (hR _ rfl))
   · refine az ?_
     obtain rfl:=aB h
     exact hN _ rfl _ _ _ _ aK aq ⟨rfl,rfl⟩
 · refine az ?_
   obtain rfl:=aB h
   exact hX _ _ _ _ _ dI aK aq (dw _ (hB _ rfl))
theorem wN {F:Nat} {s1:List UInt8} {H0:AH} {aJ:Bool} (h:kB F s1=some aJ):
 aA Tryz.prog 95 [(.str s1)] H0 fun v H'=>v=(.bool aJ)∧H'=H0:=by
 refine eF Gy mU fun hcl K0 aN=> ?_
 rw [kB.eq_1] at h
 refine az ?_
 obtain ⟨XG,cW,h⟩:=ak h
 refine bF aq (AA cW ?_ ?_)
 · rintro ⟨⟩ rfl
   try dsimp only at h
   refine az ?_
   obtain rfl:=aB h
   exact aN _ _ _ bt (aI hcl (aT bn (.bool (!decide (s1=([]:List UInt8))))) bp aX ⟨rfl,rfl⟩)
 · rintro gv rfl
   try dsimp only at h
   refine az ?_
   obtain rfl:=aB h
   exact aN _ _ _ bt (aI hcl (aT bn (.bool gv)) bp aX ⟨rfl,rfl⟩)
abbrev sM:av:=(.rg [(au 4 0),(aj 5 (.bin .eql (.t 4) (.c (.str [])))),(au 6 5),(ax 7 (.mv (.t 0)) 6 false),(ax 8 (.lens (.t 7)) 6 false),(ax 9 (.bin .gtr (.t 8) (.c (.int .i64 64))) 6 false),(aj 10 (.pick (.t 6) (.c (.bool true)) (.t 9)))])
abbrev sN:av:=(.rg [(au 17 0),(au 18 3),(aj 19 (.ixs (.t 17) (.t 18))),(aj 20 (.bin .lss (.t 19) (.c (b8 32)))),(au 21 20),(ax 22 (.mv (.t 0)) 21 false),(ax 23 (.mv (.t 3)) 21 false),(ax 24 (.ixs (.t 22) (.t 23)) 21 false),(ax 25 (.bin .gtr (.t 24) (.c (b8 126))) 21 false),(aj 26 (.pick (.t 21) (.c (.bool true)) (.t 25)))])
abbrev qY:av:=(.seq (.seq (.rg [(au 11 3),(au 12 0),(aj 13 (.lens (.t 12))),(aj 14 (.bin .lss (.t 11) (.t 13)))]) (.cond (.t 14) .skip (.exit 0))) (.seq (.blk 1 (.seq (.sem (erase sN)) (.cond (.t 26) (.seq (.rg [(aj 2 (.aO (.c (.bool false))))]) .ret) .skip))) (.rg [(au 15 3),(aj 16 (.bin .add (.t 15) (.c (.int .i64 1)))),(aP 3 16)])))
abbrev GA:av:=(.seq (.rg [(aj 2 (.aO (.c (.bool false))))]) (.seq (.seq (.sem (erase sM)) (.cond (.t 10) (.seq (.rg [(aj 2 (.aO (.c (.bool false))))]) .ret) .skip)) (.seq (.seq (.rg [(aj 3 (.aO (.c (.int .i64 0))))]) (.blk 0 (.loop (erase qY)))) (.seq (.rg [(aj 2 (.aO (.c (.bool true))))]) .ret))))
theorem GB:bw Tryz.prog 86 27 [(.tmp 2)] (erase GA):=⟨Tryz.f86,_,rfl,by decide,rfl,by kernel_rfl,rfl,rfl⟩
abbrev mV:List Nat:=[0,2,3,10,14,26]
def je (s1:List UInt8) (i2:Int):Option (Bool):=
 (idx s1 i2).bind fun x3=>
 (if (decide (x3<32)) then
  some true
 else
  some (decide (126<x3)))
def fG (s1:List UInt8):Int→Option (St Bool Unit Int)
 |i2=>
  (if (decide (i2<(s1.length:Int))) then
   (je s1 i2).bind fun t5=>
   (if t5 then
    some (.ret false)
   else
    some (.cv (IntKind.wrap .i64 (i2+1))))
  else
   some (.eC ()))
def mW (F:Nat) (s1:List UInt8):Option (Bool):=
 (if ((decide (s1=([]:List UInt8)))||(decide (64<(s1.length:Int)))) then
  some false
 else
  ((iter (fG s1) F 0).bind fun o8=>
  match o8 with
  | .inr ()=>
    some true
  | .inl r7=>
    some r7))
theorem AB {s1:List UInt8} {H:AH} {K:Exit→Env→AH→Prop}
 (kn:K .normal [(0,(.str s1)),(10,(.bool ((decide (s1=([]:List UInt8)))||(decide (64<(s1.length:Int))))))] H):
 AX Tryz.prog mV 27 H.length (erase sM) K [(0,(.str s1))] H:=by
 refine cB fun K' hK=> ?_
 refine az ?_
 refine om (fun hy1=> ?_) fun hy1=> ?_
 · refine aQ hy1 ?_
   exact hK _ _ _ _ _ (fh hy1) aq kn
 · refine aQ hy1 ?_
   exact hK _ _ _ _ _ (fh hy1) aq kn
theorem AD {s1:List UInt8} {i2:Int} {H:AH} {K:Exit→Env→AH→Prop} {t4:Bool}
 (h:je s1 i2=some t4)
 (kn:K .normal [(0,(.str s1)),(3,(.int .i64 i2)),(26,(.bool t4))] H):
 AX Tryz.prog mV 27 H.length (erase sN) K [(0,(.str s1)),(3,(.int .i64 i2))] H:=by
 refine cB fun K' hK=> ?_
 rw [je.eq_1] at h
 obtain ⟨x3,br,h⟩:=ak h
 refine aQ br ?_
 refine bZ h (fun bC h=> ?_) fun bC h=> ?_
 · refine aQ bC ?_
   obtain rfl:=aB h
   exact hK _ _ _ _ _ aK aq kn
 · refine aQ (aH bC br) ?_
   obtain rfl:=aB h
   exact hK _ _ _ _ _ aK aq kn
theorem AE {F:Nat} {i2:Int} {s1:List UInt8} {H:AH} {K:Exit→Env→AH→Prop} {o:(Bool)⊕(Unit)}
 (h:iter (fG s1) F i2=some o)
 (dw:∀o':Unit,o= .inr o'→K (.exit 0) [] H)
 (kr:∀o':Bool,o= .inl o'→K .ret [(2,(.bool o'))] H):
 AX Tryz.prog mV 27 H.length (.loop (erase qY)) K [(0,(.str s1)),(3,(.int .i64 i2))] H:=by
 refine gY (fun s e H1=>match s with|i2=>e=[(0,(.str s1)),(3,(.int .i64 i2))]∧H1=H) h ⟨rfl,rfl⟩ ?_
 rintro K' i2 st e H ⟨rfl,rfl⟩ h hN hB hR hX
 rw [fG.eq_1] at h
 refine az ?_
 refine bL h (fun aZ h=> ?_) fun aZ h=> ?_
 · refine az ?_
   obtain ⟨t5,bW,h⟩:=ak h
   refine bF aq (AD bW ?_)
   refine az ?_
   refine bL h (fun cO h=> ?_) fun cO h=> ?_
   · refine az ?_
     obtain rfl:=aB h
     exact hX _ _ _ _ _ dI aK aq (kr _ (hR _ rfl))
   · refine az ?_
     obtain rfl:=aB h
     exact hN _ rfl _ _ _ _ aK aq ⟨rfl,rfl⟩
 · refine az ?_
   obtain rfl:=aB h
   exact hX _ _ _ _ _ dI WE.nil aq (dw _ (hB _ rfl))
theorem EN {F:Nat} {s1:List UInt8} {H0:AH} {aJ:Bool} (h:mW F s1=some aJ):
 aA Tryz.prog 86 [(.str s1)] H0 fun v H'=>v=(.bool aJ)∧H'=H0:=by
 refine eF GB mV fun hcl K0 aN=> ?_
 rw [mW.eq_1] at h
 refine az ?_
 refine bF aq (AB (s1:=s1) ?_)
 refine az ?_
 refine bL h (fun aS h=> ?_) fun aS h=> ?_
 · refine az ?_
   obtain rfl:=aB h
   exact aN _ _ _ bt (aI hcl (aT bn (.bool false)) bp aX ⟨rfl,rfl⟩)
 · refine az ?_
   obtain ⟨o8,cD,h⟩:=ak h
   refine bF aq (AE cD ?_ ?_)
   · rintro ⟨⟩ rfl
     try dsimp only at h
     refine az ?_
     obtain rfl:=aB h
     exact aN _ _ _ bt (aI hcl (aT bn (.bool true)) bp aX ⟨rfl,rfl⟩)
   · rintro r7 rfl
     try dsimp only at h
     refine az ?_
     obtain rfl:=aB h
     exact aN _ _ _ bt (aI hcl (aT bn (.bool r7)) bp aX ⟨rfl,rfl⟩)
end Go.Proofs.cI
end
section
set_option maxRecDepth 100000
namespace Go.Proofs.cI
open Go Go.Am Go.Proofs
open Nat renaming reduceEqDiff→nA,reduceLT→nB,reduceLeDiff→nC,reduceAdd→nD,reduceSub→nE,reduceMul→nF,reduceBEq→nG
set_option maxHeartbeats 2000000
abbrev uZ:av:=(.rg [(aj 5 (.cj (.t 1) 0)),(aj 6 (.ld (.t 5) none)),(aj 7 (.bin .eql (.t 6) (.c (.str [])))),(au 8 7),(ax 9 (.cj (.t 1) 1) 8 true),(ax 10 (.ld (.t 9) none) 8 true),(ax 11 (.bin .eql (.t 10) (.c (.str []))) 8 true),(aj 12 (.pick (.t 8) (.t 11) (.c (.bool false))))])
abbrev u0:av:=(.rg [(aj 32 (.cj (.t 1) 0)),(aj 33 (.ld (.t 32) none)),(au 34 4),(aj 35 (.ixs (.t 33) (.t 34))),(aj 36 (.bin .eql (.t 35) (.c (b8 34)))),(au 37 36),(ax 38 (.cj (.t 1) 0) 37 false),(ax 39 (.ld (.t 38) none) 37 false),(ax 40 (.mv (.t 4)) 37 false),(ax 41 (.ixs (.t 39) (.t 40)) 37 false),(ax 42 (.bin .eql (.t 41) (.c (b8 92))) 37 false),(aj 43 (.pick (.t 37) (.c (.bool true)) (.t 42)))])
abbrev sO:av:=(.seq (.seq (.rg [(au 25 4),(aj 26 (.cj (.t 1) 0)),(aj 27 (.ld (.t 26) none)),(aj 28 (.lens (.t 27))),(aj 29 (.bin .lss (.t 25) (.t 28)))]) (.cond (.t 29) .skip (.exit 0))) (.seq (.blk 1 (.seq (.seq (.sem (erase u0)) (.cond (.t 43) (.rg [(au 44 3),(aj 45 (.gA 1 [(.c (b8 92))])),(aj 46 (.app 1 1 (.t 44) (.t 45))),(aP 3 46)]) .skip)) (.rg [(au 47 3),(aj 48 (.cj (.t 1) 0)),(aj 49 (.ld (.t 48) none)),(au 50 4),(aj 51 (.ixs (.t 49) (.t 50))),(aj 52 (.gA 1 [(.t 51)])),(aj 53 (.app 1 1 (.t 47) (.t 52))),(aP 3 53)]))) (.rg [(au 30 4),(aj 31 (.bin .add (.t 30) (.c (.int .i64 1)))),(aP 4 31)])))
abbrev u6:av:=(.rg [(au 54 3),(aj 59 (.cj (.t 1) 1)),(aj 60 (.Bh (.t 59) none)),(aj 55 (.gA 1 [(.c (b8 34))])),(aj 56 (.app 1 1 (.t 54) (.t 55))),(aj 57 (.KZ (.t 56))),(aj 58 (.bin .add (.t 57) (.c (.str [64])))),(aj 61 (.bin .add (.t 58) (.t 60))),(aj 62 (.bin .add (.t 61) (.c (.str [62])))),(aP 2 62)])
abbrev Ia:av:=(.seq (.rg [(aj 1 (.box (.t 0))),(aj 2 (.aO (.c (.str []))))]) (.seq (.seq (.sem (erase uZ)) (.cond (.t 12) (.seq (.rg [(aj 2 (.aO (.c (.str [60,62]))))]) .ret) .skip)) (.seq (.seq (.rg [(aj 13 (.cj (.t 1) 0)),(aj 14 (.ld (.t 13) none)),(aj 15 (.call (.c (.fn 95 [])) [(.t 14)]))]) (.cond (.t 15) (.seq (.rg [(aj 16 (.cj (.t 1) 0)),(aj 17 (.ld (.t 16) none)),(aj 18 (.bin .add (.c (.str [60])) (.t 17))),(aj 19 (.bin .add (.t 18) (.c (.str [64])))),(aj 20 (.cj (.t 1) 1)),(aj 21 (.ld (.t 20) none)),(aj 22 (.bin .add (.t 19) (.t 21))),(aj 23 (.bin .add (.t 22) (.c (.str [62])))),(aP 2 23)]) .ret) .skip)) (.seq (.rg [(aj 24 (.gA 1 [(.c (b8 60)),(.c (b8 34))])),(aP 3 24)]) (.seq (.seq (.rg [(aj 4 (.aO (.c (.int .i64 0))))]) (.blk 0 (.loop (erase sO)))) (.seq (.sem (erase u6)) .ret))))))
theorem Ib:bw Tryz.prog 64 63 [(.tmp 2)] (erase Ia):=⟨Tryz.f64,_,rfl,by decide,rfl,by kernel_rfl,rfl,rfl⟩
abbrev lI:List Nat:=[0,1,2,3,4,12,15,29,43]
def mX (a1:ay) (i10:Int):Option (Bool):=
 (idx a1.aC i10).bind fun nV=>
 (if (decide (nV=34)) then
  some true
 else
  some (decide (nV=92)))
def gi (a1:ay):((List UInt8)×Int)→Option (St (List UInt8) (List UInt8) ((List UInt8)×Int))
 |(b9,i10)=>
  (if (decide (i10<(a1.aC.length:Int))) then
   (mX a1 i10).bind fun t14=>
   (if t14 then
    (cw 1 b9 ([92]:List UInt8)).bind fun mK=>
    (idx a1.aC i10).bind fun oN=>
    (cw 1 mK ([oN]:List UInt8)).bind fun kU=>some (.cv (kU,(IntKind.wrap .i64 (i10+1))))
   else
    (idx a1.aC i10).bind fun Ep=>
    (cw 1 b9 ([Ep]:List UInt8)).bind fun xO=>some (.cv (xO,(IntKind.wrap .i64 (i10+1)))))
  else
   some (.eC b9))
def mY (MP:List UInt8) (a1:ay):Option ((List UInt8)):=
 (cw 1 MP ([34]:List UInt8)).bind fun KF=>
 (cat KF ([64]:List UInt8)).bind fun F3=>
 (cat F3 a1.domain).bind fun Er=>(cat Er ([62]:List UInt8)).bind fun MG=>some MG
def oD (F:Nat) (a1:ay):Option ((List UInt8)):=
 (if ((decide (a1.aC=([]:List UInt8)))&&(decide (a1.domain=([]:List UInt8)))) then
  some ([60,62]:List UInt8)
 else
  (kB F a1.aC).bind fun r3=>
  (if r3 then
   (cat ([60]:List UInt8) a1.aC).bind fun x4=>
   (cat x4 ([64]:List UInt8)).bind fun x5=>
   (cat x5 a1.domain).bind fun x6=>(cat x6 ([62]:List UInt8)).bind fun x7=>some x7
  else
   ((iter (gi a1) F (([60,34]:List UInt8),0)).bind fun XH=>
   match XH with
   | .inr MP=>
     (mY MP a1).bind fun t27=>
     some t27
   | .inl _=>none)))
theorem Cc {q2:Nat} {a1:ay} {H0 H:AH} (hfr:Fr H0 H0.length [] H) (ai:H[q2]? =some [(.str a1.aC),(.str a1.domain)]) (hi0:H0.length≤q2) {K:Exit→Env→AH→Prop}
 (kn:∀H':AH,Fr H0 H0.length [] H'→H'[q2]? =some [(.str a1.aC),(.str a1.domain)]→K .normal [(1,(.ptr q2 0)),(12,(.bool ((decide (a1.aC=([]:List UInt8)))&&(decide (a1.domain=([]:List UInt8))))))] H'):
 AX Tryz.prog lI 63 H0.length (erase uZ) K [(1,(.ptr q2 0))] H:=by
 refine cB fun K' hK=> ?_
 have hle:=hfr.le
 have aW:=aV ai
 refine aG ai ?_
 refine om (fun hy1=> ?_) fun hy1=> ?_
 · refine aG (aH hy1 ai) ?_
   exact hK _ _ _ _ _ (fh hy1) aq (kn _ hfr (ai.trans rfl))
 · refine aG (aH hy1 ai) ?_
   exact hK _ _ _ _ _ (fh hy1) aq (kn _ hfr (ai.trans rfl))
theorem Cd {a1:ay} {i10:Int} {TQ:Nat} {b9:List UInt8} {H0 H:AH} (hfr:Fr H0 H0.length [] H) (ai:H[TQ]? =some [(.str a1.aC),(.str a1.domain)]) (hi0:H0.length≤TQ) {K:Exit→Env→AH→Prop} {t13:Bool}
 (h:mX a1 i10=some t13)
 (kn:∀H':AH,Fr H0 H0.length [] H'→H'[TQ]? =some [(.str a1.aC),(.str a1.domain)]→K .normal [(1,(.ptr TQ 0)),(3,(.sl .own 1 (ml b8 b9))),(4,(.int .i64 i10)),(43,(.bool t13))] H'):
 AX Tryz.prog lI 63 H0.length (erase u0) K [(1,(.ptr TQ 0)),(3,(.sl .own 1 (ml b8 b9))),(4,(.int .i64 i10))] H:=by
 refine cB fun K' hK=> ?_
 have hle:=hfr.le
 have aW:=aV ai
 rw [mX.eq_1] at h
 obtain ⟨nV,cJ,h⟩:=ak h
 refine aG (aH cJ ai) ?_
 refine bZ h (fun cG h=> ?_) fun cG h=> ?_
 · refine aG (aH cG ai) ?_
   obtain rfl:=aB h
   exact hK _ _ _ _ _ aK aq (kn _ hfr (ai.trans rfl))
 · refine aG (aH cG (aH cJ ai)) ?_
   obtain rfl:=aB h
   exact hK _ _ _ _ _ aK aq (kn _ hfr (ai.trans rfl))
theorem Ce {F:Nat} {i10:Int} {a1:ay} {b9:List UInt8} {q8:Nat} {H0 H:AH} (hfr:Fr H0 H0.length [] H) (ai:H[q8]? =some [(.str a1.aC),(.str a1.domain)]) (hi0:H0.length≤q8) {K:Exit→Env→AH→Prop} {o:((List UInt8))⊕((List UInt8))}
 (h:iter (gi a1) F (b9,i10)=some o)
 (dw:∀o':(List UInt8),o= .inr o'→∀H':AH,Fr H0 H0.length [] H'→H'[q8]? =some [(.str a1.aC),(.str a1.domain)]→K (.exit 0) [(1,(.ptr q8 0)),(3,(.sl .own 1 (ml b8 o')))] H'):
 AX Tryz.prog lI 63 H0.length (.loop (erase sO)) K [(1,(.ptr q8 0)),(3,(.sl .own 1 (ml b8 b9))),(4,(.int .i64 i10))] H:=by
 refine gY (fun s e H1=>match s with|(b9,i10)=>e=[(1,(.ptr q8 0)),(3,(.sl .own 1 (ml b8 b9))),(4,(.int .i64 i10))]∧Fr H0 H0.length [] H1∧H1[q8]? =some [(.str a1.aC),(.str a1.domain)]) h ⟨rfl,hfr,ai⟩ ?_
 rintro K' ⟨b9,i10⟩ st e H ⟨rfl,hfr,ai⟩ h hN hB hR hX
 have hle:=hfr.le
 have aW:=aV ai
 rw [gi.eq_1] at h
 refine aG ai ?_
 refine bL h (fun dA h=> ?_) fun dA h=> ?_
 · refine aG ai ?_
   obtain ⟨t14,cS,h⟩:=ak h
   refine bF aq (Cd (b9:=b9) (TQ:=q8) hfr (ai.trans rfl) dG cS ?_)
   intro H hfr ai
   have hle:=hfr.le
   have aW:=aV ai
   refine aG ai ?_
   refine bL h (fun cW h=> ?_) fun cW h=> ?_
   · obtain ⟨mK,eT,h⟩:=ak h
     have gh:cw 1 (ml b8 b9) [(b8 92)]=some (ml b8 mK):=eH (f:=b8) eT
     obtain ⟨oN,gx,h⟩:=ak h
     obtain ⟨kU,lu,h⟩:=ak h
     have jD:cw 1 (ml b8 mK) [(b8 oN)]=some (ml b8 kU):=eH (f:=b8) lu
     refine aG (aH gh (aH gx (aH jD ai))) ?_
     obtain rfl:=aB h
     exact hN _ rfl _ _ _ _ aK aq ⟨rfl,hfr,(ai.trans rfl)⟩
   · obtain ⟨Ep,jQ,h⟩:=ak h
     obtain ⟨xO,lz,h⟩:=ak h
     have ig:cw 1 (ml b8 b9) [(b8 Ep)]=some (ml b8 xO):=eH (f:=b8) lz
     refine aG (aH jQ (aH ig ai)) ?_
     obtain rfl:=aB h
     exact hN _ rfl _ _ _ _ aK aq ⟨rfl,hfr,(ai.trans rfl)⟩
 · refine aG ai ?_
   obtain rfl:=aB h
   exact hX _ _ _ _ _ dI aK aq (dw _ (hB _ rfl) _ hfr (ai.trans rfl))
theorem Cf {MP:List UInt8} {a1:ay} {H0 H:AH} (hfr:Fr H0 H0.length [] H) {K:Exit→Env→AH→Prop} {t26:List UInt8}
 (h:mY MP a1=some t26)
 (kn:∀H':AH,Fr H0 H0.length [] H'→K .normal [(2,(.str t26))] H'):
 AX Tryz.prog lI 63 H0.length (erase u6) K [(1,(.ep (.agg [(.str a1.aC),(.str a1.domain)]) 0)),(3,(.sl .own 1 (ml b8 MP)))] H:=by
 refine cB fun K' hK=> ?_
 have hle:=hfr.le
 rw [mY.eq_1] at h
 obtain ⟨KF,mI,h⟩:=ak h
 have iD:cw 1 (ml b8 MP) [(b8 34)]=some (ml b8 KF):=eH (f:=b8) mI
 obtain ⟨F3,jR,h⟩:=ak h
 obtain ⟨Er,ow,h⟩:=ak h
 obtain ⟨MG,uJ,h⟩:=ak h
 refine aG (aH iD (aH jR (aH ow uJ))) ?_
 obtain rfl:=aB h
 exact hK _ _ _ _ _ aK aq (kn _ hfr)
theorem GC {F:Nat} {a1:ay} {H0:AH} {aJ:List UInt8} (h:oD F a1=some aJ):
 aA Tryz.prog 64 [(.agg [(.str a1.aC),(.str a1.domain)])] H0 fun v H'=>v=(.str aJ)∧H'=H0:=by
 refine mD Ib lI [] fun hcl K0 aN H hH hfr=> ?_
 clear hH
 have hle:=hfr.le
 rw [oD.eq_1] at h
 refine cm ?_
 obtain ⟨q2,nX⟩:∃q:Nat,H.length=q:=⟨_,rfl⟩
 try rw [nX]
 refine bF aq (Cc (q2:=q2) (a1:=a1) (Fr.app hfr) xH dG ?_)
 intro H hfr ai
 have hle:=hfr.le
 have aW:=aV ai
 refine aG ai ?_
 refine bL h (fun aS h=> ?_) fun aS h=> ?_
 · refine aG ai ?_
   obtain rfl:=aB h
   exact aN _ _ _ bt (bE hfr hcl (aT bn (.str ([60,62]:List UInt8))) bp aX ⟨rfl,rfl⟩)
 · refine aG ai ?_
   obtain ⟨r3,aZ,h⟩:=ak h
   refine aY aq (wN aZ) ?_
   refine aG ai ?_
   refine bL h (fun br h=> ?_) fun br h=> ?_
   · obtain ⟨x4,bC,h⟩:=ak h
     obtain ⟨x5,bW,h⟩:=ak h
     obtain ⟨x6,cO,h⟩:=ak h
     obtain ⟨x7,cD,h⟩:=ak h
     refine aG (aH bC (aH bW (aH cO (aH cD ai)))) ?_
     obtain rfl:=aB h
     exact aN _ _ _ bt (bE hfr hcl (aT bn (.str x7)) bp aX ⟨rfl,rfl⟩)
   · refine aG ai ?_
     obtain ⟨XH,lA,h⟩:=ak h
     refine bF aq (Ce (q8:=q2) hfr (ai.trans rfl) dG lA ?_)
     · rintro MP rfl H hfr ai
       try dsimp only at h ai
       have hle:=hfr.le
       have aW:=aV ai
       refine aG ai ?_
       refine J3 ?_
       apply AX.freeze (s:=q2) (cs:=[(.str a1.aC),(.str a1.domain)]) (by exact (ai.trans rfl)) (eV.same (eV.same (eV.nil))) (by simp)
       · repeat (first|exact FZ.nil|apply FZ.ep|apply FZ.same)
       refine PG ?_
       obtain ⟨t27,xR,h⟩:=ak h
       refine bF aq (Cf (cE _ hfr) xR ?_)
       intro H hfr
       have hle:=hfr.le
       refine cm ?_
       obtain rfl:=aB h
       exact aN _ _ _ bt (bE hfr hcl (aT bn (.str t27)) bp aX ⟨rfl,rfl⟩)
abbrev sP:av:=(.rg [(aj 3 (.cj (.t 1) 0)),(aj 4 (.ld (.t 3) none)),(aj 5 (.bin .eql (.t 4) (.c (.str [])))),(au 6 5),(ax 7 (.cj (.t 1) 1) 6 true),(ax 8 (.ld (.t 7) none) 6 true),(ax 9 (.bin .eql (.t 8) (.c (.str []))) 6 true),(aj 10 (.pick (.t 6) (.t 9) (.c (.bool false))))])
abbrev sQ:av:=(.rg [(aj 11 (.cj (.t 1) 0)),(aj 12 (.ld (.t 11) none)),(aj 13 (.call (.c (.fn 86 [])) [(.t 12)])),(au 14 13),(ax 15 (.cj (.t 1) 1) 14 true),(ax 16 (.ld (.t 15) none) 14 true),(ax 17 (.call (.c (.fn 87 [])) [(.t 16)]) 14 true),(aj 18 (.pick (.t 14) (.t 17) (.c (.bool false)))),(au 19 18),(ax 20 (.ld (.t 1) (some 2)) 19 true),(ax 21 (.call (.c (.fn 64 [])) [(.t 20)]) 19 true),(ax 22 (.lens (.t 21)) 19 true),(ax 23 (.bin .leq (.t 22) (.c (.int .i64 256))) 19 true),(aj 24 (.pick (.t 19) (.t 23) (.c (.bool false)))),(aP 2 24)])
abbrev GD:av:=(.seq (.rg [(aj 1 (.box (.t 0))),(aj 2 (.aO (.c (.bool false))))]) (.seq (.seq (.sem (erase sP)) (.cond (.t 10) (.seq (.rg [(aj 2 (.aO (.c (.bool true))))]) .ret) .skip)) (.seq (.sem (erase sQ)) .ret)))
theorem GG:bw Tryz.prog 49 25 [(.tmp 2)] (erase GD):=⟨Tryz.f49,_,rfl,by decide,rfl,by kernel_rfl,rfl,rfl⟩
abbrev qZ:List Nat:=[0,1,2,10]
def lQ (F:Nat) (a1:ay):Option (Bool):=
 (mW F a1.aC).bind fun r4=>
 (if r4 then
  (fm F a1.domain).bind fun r5=>
  (if r5 then
   (oD F a1).bind fun r6=>some (decide ((r6.length:Int)≤256))
  else
   some false)
 else
  some false)
def mZ (F:Nat) (a1:ay):Option (Bool):=
 (if ((decide (a1.aC=([]:List UInt8)))&&(decide (a1.domain=([]:List UInt8)))) then
  some true
 else
  (lQ F a1).bind fun t8=>
  some t8)
theorem AF {q2:Nat} {a1:ay} {H0 H:AH} (hfr:Fr H0 H0.length [] H) (ai:H[q2]? =some [(.str a1.aC),(.str a1.domain)]) (hi0:H0.length≤q2) {K:Exit→Env→AH→Prop}
 (kn:∀H':AH,Fr H0 H0.length [] H'→H'[q2]? =some [(.str a1.aC),(.str a1.domain)]→K .normal [(1,(.ptr q2 0)),(10,(.bool ((decide (a1.aC=([]:List UInt8)))&&(decide (a1.domain=([]:List UInt8))))))] H'):
 AX Tryz.prog qZ 25 H0.length (erase sP) K [(1,(.ptr q2 0))] H:=by
 refine cB fun K' hK=> ?_
 have hle:=hfr.le
 have aW:=aV ai
 refine aG ai ?_
 refine om (fun hy1=> ?_) fun hy1=> ?_
 · refine aG (aH hy1 ai) ?_
   exact hK _ _ _ _ _ (fh hy1) aq (kn _ hfr (ai.trans rfl))
 · refine aG (aH hy1 ai) ?_
   exact hK _ _ _ _ _ (fh hy1) aq (kn _ hfr (ai.trans rfl))
theorem AG {F:Nat} {a1:ay} {q3:Nat} {H0 H:AH} (hfr:Fr H0 H0.length [] H) (ai:H[q3]? =some [(.str a1.aC),(.str a1.domain)]) (hi0:H0.length≤q3) {K:Exit→Env→AH→Prop} {t7:Bool}
 (h:lQ F a1=some t7)
 (kn:∀H':AH,Fr H0 H0.length [] H'→H'[q3]? =some [(.str a1.aC),(.str a1.domain)]→K .normal [(2,(.bool t7))] H'):
 AX Tryz.prog qZ 25 H0.length (erase sQ) K [(1,(.ptr q3 0))] H:=by
 refine cB fun K' hK=> ?_
 have hle:=hfr.le
 have aW:=aV ai
 rw [lQ.eq_1] at h
 refine aG ai ?_
 obtain ⟨r4,aZ,h⟩:=ak h
 refine aY aq (EN aZ) ?_
 refine aG ai ?_
 refine bZ h (fun br h=> ?_) fun br h=> ?_
 · refine aG (aH br ai) ?_
   obtain ⟨r5,bC,h⟩:=ak h
   refine aY aq (uY bC) ?_
   refine aG ai ?_
   refine bZ h (fun bW h=> ?_) fun bW h=> ?_
   · refine aG (aH bW ai) ?_
     obtain ⟨r6,cO,h⟩:=ak h
     refine aY aq (GC cO) ?_
     refine aG ai ?_
     obtain rfl:=aB h
     exact hK _ _ _ _ _ aK aq (kn _ hfr (ai.trans rfl))
   · refine aG (aH bW ai) ?_
     obtain rfl:=aB h
     exact hK _ _ _ _ _ aK aq (kn _ hfr (ai.trans rfl))
 · refine aG (aH br ai) ?_
   obtain rfl:=aB h
   exact hK _ _ _ _ _ aK aq (kn _ hfr (ai.trans rfl))
theorem EO {F:Nat} {a1:ay} {H0:AH} {aJ:Bool} (h:mZ F a1=some aJ):
 aA Tryz.prog 49 [(.agg [(.str a1.aC),(.str a1.domain)])] H0 fun v H'=>v=(.bool aJ)∧H'=H0:=by
 refine mD GG qZ [] fun hcl K0 aN H hH hfr=> ?_
 clear hH
 have hle:=hfr.le
 rw [mZ.eq_1] at h
 refine cm ?_
 obtain ⟨q2,nX⟩:∃q:Nat,H.length=q:=⟨_,rfl⟩
 try rw [nX]
 refine bF aq (AF (q2:=q2) (a1:=a1) (Fr.app hfr) xH dG ?_)
 intro H hfr ai
 have hle:=hfr.le
 have aW:=aV ai
 refine aG ai ?_
 refine bL h (fun aS h=> ?_) fun aS h=> ?_
 · refine aG ai ?_
   obtain rfl:=aB h
   exact aN _ _ _ bt (bE hfr hcl (aT bn (.bool true)) bp aX ⟨rfl,rfl⟩)
 · refine aG ai ?_
   obtain ⟨t8,cD,h⟩:=ak h
   refine bF aq (AG (q3:=q2) hfr (ai.trans rfl) dG cD ?_)
   intro H hfr ai
   have hle:=hfr.le
   have aW:=aV ai
   refine aG ai ?_
   obtain rfl:=aB h
   exact aN _ _ _ bt (bE hfr hcl (aT bn (.bool t8)) bp aX ⟨rfl,rfl⟩)
abbrev wO:av:=(.rg [(aj 3 (.cj (.t 1) 0)),(aj 4 (.ld (.t 3) none)),(aj 5 (.lens (.t 4))),(aj 6 (.bin .leq (.t 5) (.c (.int .i64 400)))),(au 7 6),(ax 8 (.cj (.t 1) 1) 7 true),(ax 9 (.ld (.t 8) none) 7 true),(ax 10 (.lens (.t 9)) 7 true),(ax 11 (.bin .leq (.t 10) (.c (.int .i64 600))) 7 true),(aj 12 (.pick (.t 7) (.t 11) (.c (.bool false)))),(aP 2 12)])
abbrev KM:av:=(.seq (.rg [(aj 1 (.box (.t 0))),(aj 2 (.aO (.c (.bool false))))]) (.seq (.sem (erase wO)) .ret))
theorem KN:bw Tryz.prog 43 13 [(.tmp 2)] (erase KM):=⟨Tryz.f43,_,rfl,by decide,rfl,by kernel_rfl,rfl,rfl⟩
abbrev Cg:List Nat:=[0,1,2]
def vZ (a1:ay):Option (Bool):=
 some ((decide ((a1.aC.length:Int)≤400))&&(decide ((a1.domain.length:Int)≤600)))
theorem DB {q2:Nat} {a1:ay} {H0 H:AH} (hfr:Fr H0 H0.length [] H) (ai:H[q2]? =some [(.str a1.aC),(.str a1.domain)]) (hi0:H0.length≤q2) {K:Exit→Env→AH→Prop}
 (kn:∀H':AH,Fr H0 H0.length [] H'→H'[q2]? =some [(.str a1.aC),(.str a1.domain)]→K .normal [(2,(.bool ((decide ((a1.aC.length:Int)≤400))&&(decide ((a1.domain.length:Int)≤600)))))] H'):
 AX Tryz.prog Cg 13 H0.length (erase wO) K [(1,(.ptr q2 0)),(2,(.bool false))] H:=by
 refine cB fun K' hK=> ?_
 have hle:=hfr.le
 have aW:=aV ai
 refine aG ai ?_
 refine om (fun hy1=> ?_) fun hy1=> ?_
 · refine aG (aH hy1 ai) ?_
   exact hK _ _ _ _ _ (fh hy1) aq (kn _ hfr (ai.trans rfl))
 · refine aG (aH hy1 ai) ?_
   exact hK _ _ _ _ _ (fh hy1) aq (kn _ hfr (ai.trans rfl))
theorem zI {a1:ay} {H0:AH} {aJ:Bool} (h:vZ a1=some aJ):
 aA Tryz.prog 43 [(.agg [(.str a1.aC),(.str a1.domain)])] H0 fun v H'=>v=(.bool aJ)∧H'=H0:=by
 refine mD KN Cg [] fun hcl K0 aN H hH hfr=> ?_
 clear hH
 have hle:=hfr.le
 rw [vZ.eq_1] at h
 refine cm ?_
 obtain ⟨q2,nX⟩:∃q:Nat,H.length=q:=⟨_,rfl⟩
 try rw [nX]
 refine bF aq (DB (q2:=q2) (a1:=a1) (Fr.app hfr) xH dG ?_)
 intro H hfr ai
 have hle:=hfr.le
 have aW:=aV ai
 refine aG ai ?_
 obtain rfl:=aB h
 exact aN _ _ _ bt (bE hfr hcl (aT bn (.bool ((decide ((a1.aC.length:Int)≤400))&&(decide ((a1.domain.length:Int)≤600))))) bp aX ⟨rfl,rfl⟩)
abbrev wP:av:=(.rg [(aj 4 (.cj (.t 1) 5)),(aj 5 (.ld (.t 4) none)),(aj 6 (.len (.t 5))),(aj 7 (.bin .gtr (.t 6) (.c (.int .i64 120)))),(au 8 7),(ax 9 (.cj (.t 1) 0) 8 false),(ax 10 (.ld (.t 9) (some 2)) 8 false),(ax 11 (.call (.c (.fn 43 [])) [(.t 10)]) 8 false),(ax 12 (.un .not (.t 11)) 8 false),(aj 13 (.pick (.t 8) (.c (.bool true)) (.t 12)))])
abbrev wQ:av:=(.rg [(aj 21 (.cj (.t 1) 5)),(aj 22 (.ld (.t 21) none)),(au 23 3),(aj 24 (.mj 7 (.t 22) (.t 23))),(aj 25 (.cj (.t 24) 0)),(aj 26 (.ld (.t 25) (some 2))),(aj 27 (.call (.c (.fn 43 [])) [(.t 26)])),(aj 28 (.un .not (.t 27))),(au 29 28),(ax 30 (.cj (.t 1) 5) 29 false),(ax 31 (.ld (.t 30) none) 29 false),(ax 32 (.mv (.t 3)) 29 false),(ax 33 (.mj 7 (.t 31) (.t 32)) 29 false),(ax 34 (.cj (.t 33) 6) 29 false),(ax 35 (.ld (.t 34) none) 29 false),(ax 36 (.lens (.t 35)) 29 false),(ax 37 (.bin .gtr (.t 36) (.c (.int .i64 300))) 29 false),(aj 38 (.pick (.t 29) (.c (.bool true)) (.t 37)))])
abbrev u7:av:=(.seq (.seq (.rg [(au 14 3),(aj 15 (.cj (.t 1) 5)),(aj 16 (.ld (.t 15) none)),(aj 17 (.len (.t 16))),(aj 18 (.bin .lss (.t 14) (.t 17)))]) (.cond (.t 18) .skip (.exit 0))) (.seq (.blk 1 (.seq (.sem (erase wQ)) (.cond (.t 38) (.seq (.rg [(aj 2 (.aO (.c (.bool false))))]) .ret) .skip))) (.rg [(au 19 3),(aj 20 (.bin .add (.t 19) (.c (.int .i64 1)))),(aP 3 20)])))
abbrev KO:av:=(.seq (.rg [(aj 1 (.box (.t 0))),(aj 2 (.aO (.c (.bool false))))]) (.seq (.seq (.sem (erase wP)) (.cond (.t 13) (.seq (.rg [(aj 2 (.aO (.c (.bool false))))]) .ret) .skip)) (.seq (.seq (.rg [(aj 3 (.aO (.c (.int .i64 0))))]) (.blk 0 (.loop (erase u7)))) (.seq (.rg [(aj 2 (.aO (.c (.bool true))))]) .ret))))
theorem KP:bw Tryz.prog 13 39 [(.tmp 2)] (erase KO):=⟨Tryz.f13,_,rfl,by decide,rfl,by kernel_rfl,rfl,rfl⟩
abbrev pQ:List Nat:=[0,1,2,3,13,18,38]
def ue (e1:bu):Option (Bool):=
 (if (decide (120<(e1.c8.length:Int))) then
  some true
 else
  (vZ e1.bD).bind fun r3=>some (!r3))
def uf (e1:bu) (i7:Int):Option (Bool):=
 (idx e1.c8 i7).bind fun x9=>
 (vZ x9.HA).bind fun fA=>
 (if (!fA) then
  some true
 else
  some (decide (300<(x9.why.length:Int))))
def ug (e1:bu):Int→Option (St Bool Unit Int)
 |i7=>
  (if (decide (i7<(e1.c8.length:Int))) then
   (uf e1 i7).bind fun t12=>
   (if t12 then
    some (.ret false)
   else
    some (.cv (IntKind.wrap .i64 (i7+1))))
  else
   some (.eC ()))
def GH (F:Nat) (e1:bu):Option (Bool):=
 (ue e1).bind fun t5=>
 (if t5 then
  some false
 else
  ((iter (ug e1) F 0).bind fun XC=>
  match XC with
  | .inr ()=>
    some true
  | .inl gM=>
    some gM))
theorem DC {e1:bu} {q2:Nat} {H0 H:AH} (hfr:Fr H0 H0.length [] H) (ai:H[q2]? =some [(.str e1.bD.aC),(.str e1.bD.domain),(.int .i64 e1.born),(.int .i64 e1.size),(.int .u32 e1.sum),(.sl .n 7 (ml bH e1.c8))]) (hi0:H0.length≤q2) {K:Exit→Env→AH→Prop} {t4:Bool}
 (h:ue e1=some t4)
 (kn:∀H':AH,Fr H0 H0.length [] H'→H'[q2]? =some [(.str e1.bD.aC),(.str e1.bD.domain),(.int .i64 e1.born),(.int .i64 e1.size),(.int .u32 e1.sum),(.sl .n 7 (ml bH e1.c8))]→K .normal [(1,(.ptr q2 0)),(13,(.bool t4))] H'):
 AX Tryz.prog pQ 39 H0.length (erase wP) K [(1,(.ptr q2 0))] H:=by
 refine cB fun K' hK=> ?_
 have hle:=hfr.le
 have aW:=aV ai
 rw [ue.eq_1] at h
 refine aG ai ?_
 refine bZ h (fun hy1 h=> ?_) fun hy1 h=> ?_
 · refine aG (aH hy1 ai) ?_
   obtain rfl:=aB h
   exact hK _ _ _ _ _ aK aq (kn _ hfr (ai.trans rfl))
 · refine aG (aH hy1 ai) ?_
   obtain ⟨r3,aS,h⟩:=ak h
   refine aY aq (zI aS) ?_
   refine aG ai ?_
   obtain rfl:=aB h
   exact hK _ _ _ _ _ aK aq (kn _ hfr (ai.trans rfl))
theorem DD {e1:bu} {i7:Int} {q8:Nat} {H0 H:AH} (hfr:Fr H0 H0.length [] H) (ai:H[q8]? =some [(.str e1.bD.aC),(.str e1.bD.domain),(.int .i64 e1.born),(.int .i64 e1.size),(.int .u32 e1.sum),(.sl .n 7 (ml bH e1.c8))]) (hi0:H0.length≤q8) {K:Exit→Env→AH→Prop} {t11:Bool}
 (h:uf e1 i7=some t11)
 (kn:∀H':AH,Fr H0 H0.length [] H'→H'[q8]? =some [(.str e1.bD.aC),(.str e1.bD.domain),(.int .i64 e1.born),(.int .i64 e1.size),(.int .u32 e1.sum),(.sl .n 7 (ml bH e1.c8))]→K .normal [(1,(.ptr q8 0)),(3,(.int .i64 i7)),(38,(.bool t11))] H'):
 AX Tryz.prog pQ 39 H0.length (erase wQ) K [(1,(.ptr q8 0)),(3,(.int .i64 i7))] H:=by
 refine cB fun K' hK=> ?_
 have hle:=hfr.le
 have aW:=aV ai
 rw [uf.eq_1] at h
 obtain ⟨x9,bW,h⟩:=ak h
 refine aG (aH bW ai) ?_
 obtain ⟨fA,cO,h⟩:=ak h
 refine aY aq (zI cO) ?_
 refine aG ai ?_
 refine bZ h (fun cD h=> ?_) fun cD h=> ?_
 · refine aG (aH cD ai) ?_
   obtain rfl:=aB h
   exact hK _ _ _ _ _ aK aq (kn _ hfr (ai.trans rfl))
 · refine aG (aH cD (aH bW ai)) ?_
   obtain rfl:=aB h
   exact hK _ _ _ _ _ aK aq (kn _ hfr (ai.trans rfl))
theorem DE {F:Nat} {i7:Int} {e1:bu} {q6:Nat} {H0 H:AH} (hfr:Fr H0 H0.length [] H) (ai:H[q6]? =some [(.str e1.bD.aC),(.str e1.bD.domain),(.int .i64 e1.born),(.int .i64 e1.size),(.int .u32 e1.sum),(.sl .n 7 (ml bH e1.c8))]) (hi0:H0.length≤q6) {K:Exit→Env→AH→Prop} {o:(Bool)⊕(Unit)}
 (h:iter (ug e1) F i7=some o)
 (dw:∀o':Unit,o= .inr o'→∀H':AH,Fr H0 H0.length [] H'→H'[q6]? =some [(.str e1.bD.aC),(.str e1.bD.domain),(.int .i64 e1.born),(.int .i64 e1.size),(.int .u32 e1.sum),(.sl .n 7 (ml bH e1.c8))]→K (.exit 0) [] H')
 (kr:∀o':Bool,o= .inl o'→∀H':AH,Fr H0 H0.length [] H'→K .ret [(2,(.bool o'))] H'):
 AX Tryz.prog pQ 39 H0.length (.loop (erase u7)) K [(1,(.ptr q6 0)),(3,(.int .i64 i7))] H:=by
 refine gY (fun s e H1=>match s with|i7=>e=[(1,(.ptr q6 0)),(3,(.int .i64 i7))]∧Fr H0 H0.length [] H1∧H1[q6]? =some [(.str e1.bD.aC),(.str e1.bD.domain),(.int .i64 e1.born),(.int .i64 e1.size),(.int .u32 e1.sum),(.sl .n 7 (ml bH e1.c8))]) h ⟨rfl,hfr,ai⟩ ?_
 rintro K' i7 st e H ⟨rfl,hfr,ai⟩ h hN hB hR hX
 have hle:=hfr.le
 have aW:=aV ai
 rw [ug.eq_1] at h
 refine aG ai ?_
 refine bL h (fun bC h=> ?_) fun bC h=> ?_
 · refine aG ai ?_
   obtain ⟨t12,dA,h⟩:=ak h
   refine bF aq (DD (q8:=q6) hfr (ai.trans rfl) dG dA ?_)
   intro H hfr ai
   have hle:=hfr.le
   have aW:=aV ai
   refine aG ai ?_
   refine bL h (fun cJ h=> ?_) fun cJ h=> ?_
   · refine aG ai ?_
     obtain rfl:=aB h
     exact hX _ _ _ _ _ dI aK aq (kr _ (hR _ rfl) _ hfr)
   · refine aG ai ?_
     obtain rfl:=aB h
     exact hN _ rfl _ _ _ _ aK aq ⟨rfl,hfr,(ai.trans rfl)⟩
 · refine aG ai ?_
   obtain rfl:=aB h
   exact hX _ _ _ _ _ dI WE.nil aq (dw _ (hB _ rfl) _ hfr (ai.trans rfl))
theorem Yh {F:Nat} {e1:bu} {H0:AH} {aJ:Bool} (h:GH F e1=some aJ):
 aA Tryz.prog 13 [(.agg [(.str e1.bD.aC),(.str e1.bD.domain),(.int .i64 e1.born),(.int .i64 e1.size),(.int .u32 e1.sum),(.sl .n 7 (ml bH e1.c8))])] H0 fun v H'=>v=(.bool aJ)∧H'=H0:=by
 refine mD KP pQ [] fun hcl K0 aN H hH hfr=> ?_
 clear hH
 have hle:=hfr.le
 rw [GH.eq_1] at h
 refine cm ?_
 obtain ⟨q2,nX⟩:∃q:Nat,H.length=q:=⟨_,rfl⟩
 try rw [nX]
 obtain ⟨t5,aZ,h⟩:=ak h
 refine bF aq (DC (q2:=q2) (Fr.app hfr) xH dG aZ ?_)
 intro H hfr ai
 have hle:=hfr.le
 have aW:=aV ai
 refine aG ai ?_
 refine bL h (fun br h=> ?_) fun br h=> ?_
 · refine aG ai ?_
   obtain rfl:=aB h
   exact aN _ _ _ bt (bE hfr hcl (aT bn (.bool false)) bp aX ⟨rfl,rfl⟩)
 · refine aG ai ?_
   obtain ⟨XC,cG,h⟩:=ak h
   refine bF aq (DE (q6:=q2) hfr (ai.trans rfl) dG cG ?_ ?_)
   · rintro ⟨⟩ rfl H hfr ai
     try dsimp only at h ai
     have hle:=hfr.le
     have aW:=aV ai
     refine aG ai ?_
     obtain rfl:=aB h
     exact aN _ _ _ bt (bE hfr hcl (aT bn (.bool true)) bp aX ⟨rfl,rfl⟩)
   · rintro gM rfl H hfr
     try dsimp only at h
     have hle:=hfr.le
     refine cm ?_
     obtain rfl:=aB h
     exact aN _ _ _ bt (bE hfr hcl (aT bn (.bool gM)) bp aX ⟨rfl,rfl⟩)
abbrev wR:av:=(.seq (.seq (.rg [(au 14 4),(aj 15 (.cj (.t 1) 5)),(aj 16 (.ld (.t 15) none)),(aj 17 (.len (.t 16))),(aj 18 (.bin .lss (.t 14) (.t 17)))]) (.cond (.t 18) .skip (.exit 0))) (.seq (.blk 1 (.rg [(aj 21 (.cj (.t 3) 5)),(aj 22 (.ld (.t 21) none)),(aj 23 (.cj (.t 1) 5)),(aj 24 (.ld (.t 23) none)),(au 25 4),(aj 26 (.mj 7 (.t 24) (.t 25))),(aj 27 (.ld (.t 26) (some 7))),(aj 28 (.gA 7 [(.t 27)])),(aj 29 (.app 7 80 (.t 22) (.t 28))),(aj 30 (.cj (.t 3) 5)),(gu (.st (.t 30) (.t 29) 1))])) (.rg [(au 19 4),(aj 20 (.bin .add (.t 19) (.c (.int .i64 1)))),(aP 4 20)])))
abbrev MQ:av:=(.seq (.rg [(aj 1 (.box (.t 0))),(aj 2 (.alloc [(.str []),(.str []),(.int .i64 0),(.int .i64 0),(.int .u32 0),(.sl .ex 7 [])]))]) (.seq (.rg [(aj 5 (.cj (.t 1) 0)),(aj 6 (.ld (.t 5) (some 2))),(aj 7 (.cj (.t 1) 2)),(aj 8 (.ld (.t 7) none)),(aj 9 (.cj (.t 1) 3)),(aj 10 (.ld (.t 9) none)),(aj 11 (.cj (.t 1) 4)),(aj 12 (.ld (.t 11) none)),(aj 13 (.build [(.str []),(.str []),(.int .i64 0),(.int .i64 0),(.int .u32 0),(.sl .ex 7 [])] [(0,(2,(.t 6))),(2,(1,(.t 8))),(3,(1,(.t 10))),(4,(1,(.t 12)))])),(aj 3 (.alloc [(.str []),(.str []),(.int .i64 0),(.int .i64 0),(.int .u32 0),(.sl .ex 7 [])])),(gu (.st (.t 3) (.t 13) 6))]) (.seq (.seq (.rg [(aj 4 (.aO (.c (.int .i64 0))))]) (.blk 0 (.loop (erase wR)))) (.seq (.rg [(aj 31 (.ld (.t 3) (some 6))),(gu (.st (.t 2) (.t 31) 6))]) .ret))))
theorem MR:bw Tryz.prog 15 32 [(.cell 2 48)] (erase MQ):=⟨Tryz.f15,_,rfl,by decide,rfl,by kernel_rfl,rfl,rfl⟩
abbrev DZ:List Nat:=[0,1,2,3,4,18]
def v7 (e1:bu):(Int×bu)→Option (St bu bu (Int×bu))
 |(i5,s6)=>
  (if (decide (i5<(e1.c8.length:Int))) then
   (idx e1.c8 i5).bind fun x7=>
   (cw 80 s6.c8 ([x7]:List ic)).bind fun x8=>
   some (.cv ((IntKind.wrap .i64 (i5+1)),(bu.mk s6.bD s6.born s6.size s6.sum x8)))
  else
   some (.eC s6))
def II (F:Nat) (e1:bu):Option (bu):=
 ((iter (v7 e1) F (0,(bu.mk e1.bD e1.born e1.size e1.sum ([]:List ic)))).bind fun o11=>
 match o11 with
 | .inr Ch=>
   some Ch
 | .inl _=>none)
theorem EP {F:Nat} {i5:Int} {e1:bu} {s6:bu} {q2:Nat} {q3:Nat} {q4:Nat} {H0 H:AH} (hfr:Fr H0 H0.length [] H) (ai:H[q2]? =some [(.str e1.bD.aC),(.str e1.bD.domain),(.int .i64 e1.born),(.int .i64 e1.size),(.int .u32 e1.sum),(.sl .n 7 (ml bH e1.c8))]) (aL:H[q3]? =some [(.str ([]:List UInt8)),(.str ([]:List UInt8)),(.int .i64 0),(.int .i64 0),(.int .u32 0),(.sl .own 7 [])]) (eo:H[q4]? =some [(.str s6.bD.aC),(.str s6.bD.domain),(.int .i64 s6.born),(.int .i64 s6.size),(.int .u32 s6.sum),(.sl .own 7 (ml bH s6.c8))]) (hi0:H0.length≤q2) (hi1:H0.length≤q3) (hi2:q2≠q3) (hi3:H0.length≤q4) (hi4:q2≠q4) (hi5:q3≠q4) {K:Exit→Env→AH→Prop} {o:(bu)⊕(bu)}
 (h:iter (v7 e1) F (i5,s6)=some o)
 (dw:∀o':bu,o= .inr o'→∀H':AH,Fr H0 H0.length [] H'→H'[q2]? =some [(.str e1.bD.aC),(.str e1.bD.domain),(.int .i64 e1.born),(.int .i64 e1.size),(.int .u32 e1.sum),(.sl .n 7 (ml bH e1.c8))]→H'[q3]? =some [(.str ([]:List UInt8)),(.str ([]:List UInt8)),(.int .i64 0),(.int .i64 0),(.int .u32 0),(.sl .own 7 [])]→H'[q4]? =some [(.str o'.bD.aC),(.str o'.bD.domain),(.int .i64 o'.born),(.int .i64 o'.size),(.int .u32 o'.sum),(.sl .own 7 (ml bH o'.c8))]→K (.exit 0) [(2,(.ptr q3 0)),(3,(.ptr q4 0))] H'):
 AX Tryz.prog DZ 32 H0.length (.loop (erase wR)) K [(1,(.ptr q2 0)),(2,(.ptr q3 0)),(3,(.ptr q4 0)),(4,(.int .i64 i5))] H:=by
 refine gY (fun s e H1=>match s with|(i5,s6)=>e=[(1,(.ptr q2 0)),(2,(.ptr q3 0)),(3,(.ptr q4 0)),(4,(.int .i64 i5))]∧Fr H0 H0.length [] H1∧H1[q2]? =some [(.str e1.bD.aC),(.str e1.bD.domain),(.int .i64 e1.born),(.int .i64 e1.size),(.int .u32 e1.sum),(.sl .n 7 (ml bH e1.c8))]∧H1[q3]? =some [(.str ([]:List UInt8)),(.str ([]:List UInt8)),(.int .i64 0),(.int .i64 0),(.int .u32 0),(.sl .own 7 [])]∧H1[q4]? =some [(.str s6.bD.aC),(.str s6.bD.domain),(.int .i64 s6.born),(.int .i64 s6.size),(.int .u32 s6.sum),(.sl .own 7 (ml bH s6.c8))]) h ⟨rfl,hfr,ai,aL,eo⟩ ?_
 rintro K' ⟨i5,s6⟩ st e H ⟨rfl,hfr,ai,aL,eo⟩ h hN hB hR hX
 have hle:=hfr.le
 have aW:=aV ai
 have lW:=aV aL
 have PW:=aV eo
 rw [v7.eq_1] at h
 refine aG (aH ai (aH aL eo)) ?_
 refine bL h (fun hy1 h=> ?_) fun hy1 h=> ?_
 · obtain ⟨x7,aS,h⟩:=ak h
   obtain ⟨x8,aZ,h⟩:=ak h
   have br:cw 80 (ml bH s6.c8) [(.agg [(.str x7.HA.aC),(.str x7.HA.domain),(.int .i64 x7.state),(.int .i64 x7.tries),(.int .i64 x7.next),(.int .i64 x7.code),(.str x7.why)])]=some (ml bH x8):=eH (f:=bH) aZ
   refine aG (aH aS (aH br (aH ai (aH aL eo)))) ?_
   obtain rfl:=aB h
   exact hN _ rfl _ _ _ _ aK aq ⟨rfl,(cE _ (cE _ hfr)),(iB (iB (ai.trans rfl))),(iB (iB (aL.trans rfl))),dK⟩
 · refine aG (aH ai (aH aL eo)) ?_
   obtain rfl:=aB h
   exact hX _ _ _ _ _ dI aK aq (dw _ (hB _ rfl) _ hfr (ai.trans rfl) (aL.trans rfl) (eo.trans rfl))
theorem aac {F:Nat} {e1:bu} {H0:AH} {aJ:bu} (h:II F e1=some aJ):
 aA Tryz.prog 15 [(.agg [(.str e1.bD.aC),(.str e1.bD.domain),(.int .i64 e1.born),(.int .i64 e1.size),(.int .u32 e1.sum),(.sl .n 7 (ml bH e1.c8))])] H0 fun v H'=>v=(.agg [(.str aJ.bD.aC),(.str aJ.bD.domain),(.int .i64 aJ.born),(.int .i64 aJ.size),(.int .u32 aJ.sum),(.sl .n 7 (ml bH aJ.c8))])∧H'=H0:=by
 refine mD MR DZ [] fun hcl K0 aN H hH hfr=> ?_
 clear hH
 have hle:=hfr.le
 rw [II.eq_1] at h
 refine cm ?_
 obtain ⟨q3,F4⟩:∃q:Nat,(H.length+1)=q:=⟨_,rfl⟩
 try rw [F4]
 obtain ⟨q4,acI⟩:∃q:Nat,(H.length+2)=q:=⟨_,rfl⟩
 try rw [acI]
 obtain ⟨q2,nX⟩:∃q:Nat,H.length=q:=⟨_,rfl⟩
 try rw [nX]
 try rw [show q2+1=q3 from by omega]
 try rw [show q3+1=q4 from by omega]
 obtain ⟨o11,bC,h⟩:=ak h
 refine bF (gr.Xc (q:=q4) (cs':=[(.str e1.bD.aC),(.str e1.bD.domain),(.int .i64 e1.born),(.int .i64 e1.size),(.int .u32 e1.sum),(.sl .own 7 [])]) (gr.set (q:=q3) (cs':=[(.str ([]:List UInt8)),(.str ([]:List UInt8)),(.int .i64 0),(.int .i64 0),(.int .u32 0),(.sl .own 7 [])]) (iB (Ee xH)) CN) dK CN) (EP (q2:=q2) (q3:=q3) (q4:=q4) (cE _ (cE _ (cE _ (Fr.app (Fr.app (Fr.app hfr)))))) (iB (iB (iB (Ee (Ee xH))))) (iB dK) dK dG dG dG dG dG dG bC ?_)
 · rintro Ch rfl H hfr ai aL eo
   try dsimp only at h ai aL eo
   have hle:=hfr.le
   have aW:=aV ai
   have lW:=aV aL
   have PW:=aV eo
   refine aG (aH ai (aH aL eo)) ?_
   obtain rfl:=aB h
   exact aN _ _ _ bt (bE (cE _ hfr) hcl (ei (cs:=[(.str Ch.bD.aC),(.str Ch.bD.domain),(.int .i64 Ch.born),(.int .i64 Ch.size),(.int .u32 Ch.sum),(.sl .n 7 (ml bH Ch.c8))]) (v:=(.agg [(.str Ch.bD.aC),(.str Ch.bD.domain),(.int .i64 Ch.born),(.int .i64 Ch.size),(.int .u32 Ch.sum),(.sl .n 7 (ml bH Ch.c8))])) (by kernel_rfl) (n:=(some 6)) (by kernel_rfl) rfl dK (by simp [fN,fM,jI,bP,AV.flat,iJ,jJ,AV.bN,Tg.sh]) bn) bp aX ⟨rfl,rfl⟩)
end Go.Proofs.cI
end
section
namespace Go.Am
open Go
theorem wr {n:Int} (h1: -9223372036854775808≤n) (h2:n≤9223372036854775807):IntKind.wrap .i64 n=n:=by
 simp only [IntKind.wrap,IntKind.bits,IntKind.signed,Bool.true_and,decide_eq_true_eq,Int.reducePow,Nat.reduceSub,ge_iff_le]
 split<;>omega
theorem GI {α:Type} (l:List α) (n:Nat):idx l (n:Int)=l[n]? :=by simp [idx]
theorem bh {α:Type} {l:List α} {n:Nat} {x:α} (h:l[n]? =some x):idx l (n:Int)=some x:=by rw [GI,h]
theorem aad {α:Type} {l:List α} {n:Nat} (h:n<l.length):idx l (n:Int)=some l[n]:=by rw [GI,List.getElem?_eq_getElem h]
theorem afl {α:Type} {l:List α} {i:Int} (h0:0≤i) (h1:i<l.length):∃x,idx l i=some x∧l[i.toNat]? =some x:=by
 obtain ⟨n,rfl⟩:=Int.eq_ofNat_of_zero_le h0
 have hn:n<l.length:=by omega
 exact ⟨l[n],aad hn,by simp [List.getElem?_eq_getElem hn]⟩
theorem oe {α:Type} {l:List α} {i j:Nat} (h:i≤j) (h2:j≤l.length):sub l (i:Int) (j:Int)=some ((l.take j).drop i):=by
 unfold sub;rw [if_pos (by omega)];simp
theorem iw {α:Type} {l:List α} {i:Nat} (h:i≤l.length):sub l (i:Int) (l.length:Int)=some (l.drop i):=by
 rw [oe h (Nat.le_refl _),List.take_length]
theorem Ci {α:Type} {l:List α} {j:Nat} (h:j≤l.length):sub l 0 (j:Int)=some (l.take j):=by
 have:=oe (l:=l) (i:=0) (Nat.zero_le j) h
 simpa using this
theorem aeU {α:Type} {l:List α} {i:Int} (h0:0≤i) (h:i≤l.length):sub l i (l.length:Int)=some (l.drop i.toNat):=by
 obtain ⟨n,rfl⟩:=Int.eq_ofNat_of_zero_le h0
 rw [iw (by omega)];simp
theorem sub_one {α:Type} {l:List α} {c:α} {r:List α} (h:l=c::r):sub l 1 (l.length:Int)=some r:=by
 have:=iw (l:=l) (i:=1) (by rw [h];simp)
 rw [h] at this ⊢;simpa using this
theorem c6 {α:Type} {b:Nat} {xs ys:List α} (h:xs.length+ys.length≤1000000000) (hb:b≤1000):cw b xs ys=some (xs++ys):=by
 unfold cw
 rw [if_pos]
 refine ⟨?_,by omega⟩
 calc (xs.length+ys.length)*b≤1000000000*1000:=Nat.mul_le_mul h hb
  _≤_:=by omega
theorem iP {l m:List UInt8} (h:l.length+m.length≤1000000000):cat l m=some (l++m):=by
 unfold cat;rw [if_pos (by omega)]
theorem bX {ρ τ σ:Type} {body:σ→Option (St ρ τ σ)} {F:Nat} {s s':σ} (h:body s=some (.cv s')):iter body (F+1) s=iter body F s':=by simp only [iter,h]
theorem bS {ρ τ σ:Type} {body:σ→Option (St ρ τ σ)} {F:Nat} {s:σ} {t:τ} (h:body s=some (.eC t)):iter body (F+1) s=some (.inr t):=by simp only [iter,h]
theorem dm {ρ τ σ:Type} {body:σ→Option (St ρ τ σ)} {F:Nat} {s:σ} {r:ρ} (h:body s=some (.ret r)):iter body (F+1) s=some (.inl r):=by simp only [iter,h]
theorem adf {ρ τ σ:Type} {body:σ→Option (St ρ τ σ)} (I:σ→Prop) (m:σ→Nat) (post:ρ⊕τ→Prop)
 (step:∀s,I s→(∃r,body s=some (.ret r)∧post (.inl r))∨(∃t,body s=some (.eC t)∧post (.inr t))∨∃s',body s=some (.cv s')∧I s'∧m s'<m s):
 ∀(F:Nat) (s:σ),I s→m s<F→∃o,iter body F s=some o∧post o:=by
 intro F
 induction F with
 |zero=>intro s _ h;omega
 |succ F ih=>
  intro s hI hm
  rcases step s hI with ⟨r,h,hp⟩|⟨t,h,hp⟩|⟨s',h,hI',hlt⟩
  · exact ⟨_,dm h,hp⟩
  · exact ⟨_,bS h,hp⟩
  · obtain ⟨o,ho,hp⟩:=ih s' hI' (by omega)
    exact ⟨o,by rw [bX h];exact ho,hp⟩
theorem drop_cons {α:Type} {l r:List α} {i:Nat} {c:α} (h:l.drop i=c::r):i<l.length∧l[i]? =some c∧l.drop (i+1)=r:=by
 have hlt:i<l.length:=by
  rcases Nat.lt_or_ge i l.length with h1|h1
  · exact h1
  · rw [List.drop_eq_nil_of_le h1] at h;cases h
 rw [List.drop_eq_getElem_cons hlt] at h
 injection h with h1 h2
 exact ⟨hlt,by rw [List.getElem?_eq_getElem hlt,h1],h2⟩
theorem aae {α:Type} {l:List α} {i:Nat} (h:l.drop i=[]):l.length≤i:=List.drop_eq_nil_iff.1 h
theorem cu {n F:Nat} (h:n<F):∃G,F=G+1:=⟨F - 1,by omega⟩
end Go.Am
end
section
set_option maxRecDepth 100000
namespace Go.Proofs.cI
open Go Go.Am Go.Proofs
theorem kC {p:UInt8→Bool} (h:(List.range 256).all (fun n=>p (UInt8.ofNat n))=true) (c:UInt8):p c=true:=by
 have:=List.all_eq_true.1 h c.toNat (by simpa using c.toNat_lt)
 simpa using this
theorem scan {α ρ τ σ:Type} {s:List α} {body:σ→Option (St ρ τ σ)} {mk:Nat→σ} {p:α→Bool} {rr:Nat→ρ} {tt:τ}
 (h1:∀i x,s[i]? =some x→p x=true→body (mk i)=some (.cv (mk (i+1)))) (h2:∀i x,s[i]? =some x→p x=false→body (mk i)=some (.ret (rr i)))
 (h3:body (mk s.length)=some (.eC tt)) {F:Nat} (hF:s.length<F):
 (s.all p=true→iter body F (mk 0)=some (.inr tt))∧(s.all p=false→∃j,iter body F (mk 0)=some (.inl (rr j))):=by
 suffices h:∀(r:List α) (i F:Nat),s.drop i=r→i+r.length=s.length→r.length<F→
  (r.all p=true→iter body F (mk i)=some (.inr tt))∧(r.all p=false→∃j,iter body F (mk i)=some (.inl (rr j))) from h s 0 F rfl (by simp) hF
 intro r
 induction r with
 |nil=>
  intro i F hd hl hF
  obtain ⟨G,rfl⟩:=cu hF
  have:i=s.length:=by simpa using hl
  subst this
  exact ⟨fun _=>bS h3,fun h=>by simp at h⟩
 |cons x r ih=>
  intro i F hd hl hF
  obtain ⟨G,rfl⟩:=cu hF
  obtain ⟨hi,hx,hr⟩:=drop_cons hd
  simp only [List.length_cons] at hl hF
  cases hp:p x with
  |true=>
   rw [bX (h1 i x hx hp)]
   simp only [List.all_cons,hp,Bool.true_and]
   exact ih (i+1) G hr (by omega) (by omega)
  |false=>
   rw [dm (h2 i x hx hp)]
   simp only [List.all_cons,hp,Bool.false_and]
   exact ⟨fun h=>by simp at h,fun _=>⟨i,rfl⟩⟩
theorem wi {n:Nat} (h:n≤1000000000):IntKind.wrap .i64 ((n:Int)+1)=((n+1:Nat):Int):=by rw [wr (by omega) (by omega)];simp
def ER (c:UInt8):Bool:=(decide (65≤c)&&decide (c≤90))||(decide (97≤c)&&decide (c≤122))
def rV (c:UInt8):Bool:=decide (48≤c)&&decide (c≤57)
def yh (c:UInt8):Bool:=ER c||rV c||c==45
theorem adg (c:UInt8):iM c=some (ER c||rV c):=by
 have:=kC (p:=fun c=>decide (iM c=some (ER c||rV c))) (by kernel_rfl) c
 simpa using this
theorem MS (c:UInt8):kZ c=some (yh c):=by
 have:=kC (p:=fun c=>decide (kZ c=some (yh c))) (by kernel_rfl) c
 simpa using this
theorem vb (c:UInt8):fU c=some (ER c):=by
 have:=kC (p:=fun c=>decide (fU c=some (ER c))) (by kernel_rfl) c
 simpa using this
theorem vc (c:UInt8):fR c=some (rV c):=by
 have:=kC (p:=fun c=>decide (fR c=some (rV c))) (by kernel_rfl) c
 simpa using this
def aR:List UInt8→List (List UInt8)
 |[]=>[[]]
 |c::r=>if c=46 then []::aR r else match aR r with|[]=>[[c]]|h::t=>(c::h)::t
theorem gP:∀s,aR s≠[]
 |[]=>by simp [aR]
 |c::r=>by
  unfold aR
  split
  · simp
  · split<;>simp
theorem PY (r:List UInt8):Lib.split (46::r) [46]=[]::Lib.split r [46]:=by
 have hi:Lib.index (46::r) [46]=((0:Nat):Int):=by unfold Lib.index;rw [if_pos (by simp [List.isPrefixOf])];rfl
 have hc:=Lib.count_hit (by simp) hi
 unfold Lib.split
 rw [hc,Nat.add_comm]
 simp only [Lib.splitK,hi]
 rfl
theorem MT {c:UInt8} (hc:c≠46) (r:List UInt8):Lib.split (c::r) [46]=match Lib.split r [46] with|[]=>[[c]]|h::t=>(c::h)::t:=by
 have hp:([46]:List UInt8).isPrefixOf (c::r)=false:=by simp [List.isPrefixOf];exact fun h=>hc h.symm
 have hi:Lib.index (c::r) [46]=if Lib.index r [46]== -1 then -1 else Lib.index r [46]+1:=by
  conv=>lhs;unfold Lib.index
  rw [if_neg (by rw [hp];simp)]
 rcases Lib.index_spec r [46] with ⟨h, -⟩|⟨i,h, -, -, -⟩
 · rw [h] at hi
   unfold Lib.split
   rw [Lib.count_miss h,Lib.count_miss hi]
   rfl
 · have hne:(((i:Nat):Int)== -1)=false:=by rw [beq_eq_false_iff_ne];omega
   rw [h,hne] at hi
   have hi':Lib.index (c::r) [46]=((i+1:Nat):Int):=by rw [hi];simp
   unfold Lib.split
   rw [Lib.count_hit (by simp) h,Lib.count_hit (by simp) hi',Nat.add_comm 1,Nat.add_comm 1]
   have nH:(((i+1:Nat):Int)== -1)=false:=by rw [beq_eq_false_iff_ne];omega
   simp only [Lib.splitK,h,hi',hne,nH,Bool.false_eq_true,if_false,Int.toNat_natCast,Nat.add_zero,List.take_succ_cons,List.length_cons,List.length_nil,Nat.zero_add,List.drop_succ_cons]
theorem DF:∀s:List UInt8,Lib.split s [46]=aR s
 |[]=>by rfl
 |c::r=>by
  by_cases hc:c=46
  · subst hc;rw [PY,DF r];simp [aR]
  · rw [MT hc,DF r];simp only [aR,if_neg hc]
theorem me (s:List UInt8):∀p∈aR s,p.length≤s.length:=by
 induction s with
 |nil=>simp [aR]
 |cons c r ih=>
  unfold aR
  split
  · intro p hp
    rcases List.mem_cons.1 hp with rfl|hp
    · simp
    · have:=ih p hp;simp;omega
  · cases hs:aR r with
    |nil=>exact absurd hs (gP r)
    |cons h t=>
     simp only
     intro p hp
     rcases List.mem_cons.1 hp with rfl|hp
     · have:=ih h (by rw [hs];simp);simp;omega
     · have:=ih p (by rw [hs];simp [hp]);simp;omega
theorem yG (s:List UInt8):(aR s).length≤s.length+1:=by
 induction s with
 |nil=>simp [aR]
 |cons c r ih=>
  unfold aR
  split
  · simp;omega
  · cases hs:aR r with
    |nil=>exact absurd hs (gP r)
    |cons h t=>rw [hs] at ih;simp at ih ⊢;omega
theorem D0 {p:List UInt8} (hp:∀c∈p,c≠46) (r:List UInt8):aR (p++46::r)=p::aR r:=by
 induction p with
 |nil=>simp [aR]
 |cons c p ih=>
  simp only [List.cons_append,aR,if_neg (hp c (by simp)),ih fun x hx=>hp x (by simp [hx])]
theorem D1 {p:List UInt8} (hp:∀c∈p,c≠46):aR p=[p]:=by
 induction p with
 |nil=>simp [aR]
 |cons c p ih=>
  simp only [aR,if_neg (hp c (by simp)),ih fun x hx=>hp x (by simp [hx])]
def XK:List (List UInt8):=(List.range 256).map fun n:Nat=>Lib.itoa (n:Int)
def jW (s:List UInt8):Bool:=XK.contains s
theorem MU:(List.range 256).all (fun n:Nat=>decide (kf (Lib.itoa (n:Int))=some true))=true:=by kernel_rfl
theorem TR:XK.all (fun s=>decide (s.length≤3∧s.all rV=true∧s≠[]∧(s.head?=some 48→s.length≤1)))=true:=by kernel_rfl
theorem yH {s:List UInt8}:jW s=true↔∃n:Nat,n<256∧Lib.itoa (n:Int)=s:=by
 simp [jW,XK]
theorem q9 {s:List UInt8} (h:jW s=true):s.length≤3∧s.all rV=true∧s≠[]∧(s.head?=some 48→s.length≤1):=by
 have:=List.all_eq_true.1 TR s (by simpa [jW] using h)
 exact of_decide_eq_true this
def MV (s:List UInt8):Nat:=s.foldl (fun a c=>10*a+(c.toNat - 48)) 0
theorem TS:(List.range 256).all (fun n:Nat=>decide (MV (Lib.itoa (n:Int))=n))=true:=by kernel_rfl
def D2 (s:List UInt8):Bool:=decide (MV s<256)&&decide (Lib.itoa (MV s:Int)=s)
theorem aaf (s:List UInt8):jW s=D2 s:=by
 cases h:jW s with
 |true=>
  obtain ⟨n,hn,rfl⟩:=yH.1 h
  have hv:MV (Lib.itoa (n:Int))=n:=of_decide_eq_true (List.all_eq_true.1 TS n (by simpa using hn))
  unfold D2
  rw [hv]
  simp [hn]
 |false=>
  cases h':D2 s with
  |false=>rfl
  |true=>
   simp only [D2,Bool.and_eq_true,decide_eq_true_eq] at h'
   rw [yH.2 ⟨MV s,h'.1,h'.2⟩] at h;cases h
theorem PZ {s:List UInt8} (hs:s.length≤100000):kf s=some (jW s):=by
 cases hn:jW s with
 |true=>
  obtain ⟨n,hlt,rfl⟩:=yH.1 hn
  have:=List.all_eq_true.1 MU n (by simpa using hlt)
  simpa using this
 |false=>
  unfold kf strconv_Atoi
  rw [if_pos (by omega)]
  rcases CI:Lib.atoiAll s with v|_|_
  · simp only [Option.bind_some,gB,Bool.not_false,if_true,decide_eq_true_eq]
    by_cases h0:0≤v
    · by_cases h1:v≤255
      · rw [if_pos h0,if_pos h1]
        unfold strconv_Itoa
        rw [if_pos (by omega)]
        simp only [Option.bind_some,Option.some.injEq,decide_eq_false_iff_not]
        intro he
        have:jW s=true:=yH.2 ⟨v.toNat,by omega,by rw [←he];congr 1;omega⟩
        rw [hn] at this;cases this
      · rw [if_pos h0,if_neg h1];rfl
    · rw [if_neg h0];rfl
  · simp [gB]
  · simp [gB]
end Go.Proofs.cI
end
section
set_option maxRecDepth 100000
namespace Go.Proofs.cI
open Go Go.Am Go.Proofs
def gy (s:List UInt8):Bool:=s !=[]&&s.head? !=some 45&&s.getLast? !=some 45&&s.all yh
def oR (s:List UInt8):Bool:=decide (1<s.length)&&s.head?==some 91&&s.getLast?==some 93
def inner (s:List UInt8):List UInt8:=(s.drop 1).dropLast
def dX (s:List UInt8):Bool:=if oR s then decide ((aR (inner s)).length=4)&&(aR (inner s)).all jW else (aR s).all gy
def jF (s:List UInt8):Bool:=decide (s.length≤255)&&dX s&&(aR s).all fun p=>decide (p.length≤63)
theorem yj (c:UInt8) (r:List UInt8):∃x,(c::r).getLast?=some x:=by
 cases h:(c::r).getLast? with
 |none=>simp at h
 |some x=>exact ⟨x,rfl⟩
theorem ve {s:List UInt8} {x:UInt8} (h:s.getLast?=some x) (hl:s.length≤1000000):idx s (IntKind.wrap .i64 ((s.length:Int) - 1))=some x:=by
 have hp:0<s.length:=by cases s with|nil=>simp at h|cons=>simp
 rw [wr (by omega) (by omega),show (s.length:Int) - 1=((s.length - 1:Nat):Int) by omega,GI, ←List.getLast?_eq_getElem?,h]
theorem XL {s:List UInt8} {F:Nat} (hl:s.length≤1000000) (hF:s.length<F):k8 F s=some (s.all yh):=by
 unfold k8
 have hh:=scan (s:=s) (body:=e9 s) (mk:=fun i=>(false,(i:Int))) (p:=yh) (rr:=fun _=>false) (tt:=()) ?_ ?_ ?_ hF
 · cases ha:s.all yh with
   |true=>have:=hh.1 ha;rw [show ((0:Nat):Int)=0 from rfl] at this;rw [this];rfl
   |false=>obtain ⟨j,hj⟩:=hh.2 ha;rw [show ((0:Nat):Int)=0 from rfl] at hj;rw [hj];rfl
 · intro i x hx hp
   have hi:=(List.getElem?_eq_some_iff.1 hx).1
   simp only [e9]
   rw [if_pos (by simpa using hi),bh hx,Option.bind_some,MS,Option.bind_some,hp,wi (by omega)];rfl
 · intro i x hx hp
   have hi:=(List.getElem?_eq_some_iff.1 hx).1
   simp only [e9]
   rw [if_pos (by simpa using hi),bh hx,Option.bind_some,MS,Option.bind_some,hp];rfl
 · simp [e9]
theorem XM {s:List UInt8} {F:Nat} (hl:s.length≤1000000) (hF:s.length<F):ot F s=some (gy s):=by
 unfold ot mE gy
 cases s with
 |nil=>simp
 |cons c r=>
  obtain ⟨x,hx⟩:∃x,(c::r).getLast?=some x:=yj c r
  rw [ve hx hl,XL hl hF,hx]
  have h0:idx (c::r) 0=some c:=by simp [idx]
  rw [h0]
  by_cases h1:c=45
  · simp [h1]
  · by_cases h2:x=45
    · simp [h1,h2]
    · simp [h1,h2]
theorem IJ {x:List UInt8} (hx:x.length≤100000):jL x=some (!jW x):=by simp [jL,PZ hx]
theorem IK {F:Nat} {x:List UInt8} (hx:x.length≤100000) (hF:x.length<F):jM F x=some (!gy x):=by simp [jM,XM (by omega:x.length≤1000000) hF]
theorem MW {l:List (List UInt8)} {F:Nat} (hl:l.length≤1000000) (hF:l.length<F) (hx:∀x∈l,x.length≤100000):eI F l=some (!l.all jW):=by
 unfold eI gR
 have hh:=scan (s:=l) (body:=de l) (mk:=fun i=>(0,(i:Int))) (p:=jW) (rr:=fun i=>(i:Int)) (tt:=()) ?_ ?_ ?_ hF
 · cases ha:l.all jW with
   |true=>have:=hh.1 ha;rw [show ((0:Nat):Int)=0 from rfl] at this;rw [this];rfl
   |false=>obtain ⟨j,hj⟩:=hh.2 ha;rw [show ((0:Nat):Int)=0 from rfl] at hj;rw [hj];simp
 · intro i x hx' hp
   have hi:=(List.getElem?_eq_some_iff.1 hx').1
   simp only [de]
   rw [if_pos (by simpa using hi),bh hx',Option.bind_some,IJ (hx x (List.mem_of_getElem? hx')),Option.bind_some,hp,wi (by omega)];rfl
 · intro i x hx' hp
   have hi:=(List.getElem?_eq_some_iff.1 hx').1
   simp only [de]
   rw [if_pos (by simpa using hi),bh hx',Option.bind_some,IJ (hx x (List.mem_of_getElem? hx')),Option.bind_some,hp];rfl
 · simp [de]
theorem MX {l:List (List UInt8)} {F:Nat} (hl:l.length≤1000000) (hF:l.length<F) (hx:∀x∈l,x.length≤100000∧x.length<F):eu F l=some (!l.all gy):=by
 unfold eu gI
 have hh:=scan (s:=l) (body:=cT F l) (mk:=fun i=>(0,(i:Int))) (p:=gy) (rr:=fun i=>(i:Int)) (tt:=()) ?_ ?_ ?_ hF
 · cases ha:l.all gy with
   |true=>have:=hh.1 ha;rw [show ((0:Nat):Int)=0 from rfl] at this;rw [this];rfl
   |false=>obtain ⟨j,hj⟩:=hh.2 ha;rw [show ((0:Nat):Int)=0 from rfl] at hj;rw [hj];simp
 · intro i x hx' hp
   have hi:=(List.getElem?_eq_some_iff.1 hx').1
   obtain ⟨ha,hb⟩:=hx x (List.mem_of_getElem? hx')
   simp only [cT]
   rw [if_pos (by simpa using hi),bh hx',Option.bind_some,IK ha hb,Option.bind_some,hp,wi (by omega)];rfl
 · intro i x hx' hp
   have hi:=(List.getElem?_eq_some_iff.1 hx').1
   obtain ⟨ha,hb⟩:=hx x (List.mem_of_getElem? hx')
   simp only [cT]
   rw [if_pos (by simpa using hi),bh hx',Option.bind_some,IK ha hb,Option.bind_some,hp];rfl
 · simp [cT]
theorem MY {l:List (List UInt8)} {F:Nat} (hl:l.length≤1000000) (hF:l.length<F):dS F l=some (!l.all fun p=>decide (p.length≤63)):=by
 unfold dS gp
 have hh:=scan (s:=l) (body:=cQ l) (mk:=fun i=>(0,(i:Int))) (p:=fun p=>decide (p.length≤63)) (rr:=fun i=>(i:Int)) (tt:=()) ?_ ?_ ?_ hF
 · cases ha:l.all fun p=>decide (p.length≤63) with
   |true=>have:=hh.1 ha;rw [show ((0:Nat):Int)=0 from rfl] at this;rw [this];rfl
   |false=>obtain ⟨j,hj⟩:=hh.2 ha;rw [show ((0:Nat):Int)=0 from rfl] at hj;rw [hj];simp
 · intro i x hx' hp
   have hi:=(List.getElem?_eq_some_iff.1 hx').1
   simp only [cQ]
   rw [if_pos (by simpa using hi),bh hx',Option.bind_some,jO,Option.bind_some,if_neg (by simp at hp ⊢;omega),wi (by omega)]
 · intro i x hx' hp
   have hi:=(List.getElem?_eq_some_iff.1 hx').1
   simp only [cQ]
   rw [if_pos (by simpa using hi),bh hx',Option.bind_some,jO,Option.bind_some,if_pos (by simp at hp ⊢;omega)]
 · simp [cQ]
theorem sR {s:List UInt8} (h:s.length≤1000000):strings_Split s [46]=some (aR s):=by
 unfold strings_Split;rw [if_pos (by simp;omega),DF]
theorem GJ {s:List UInt8} {F:Nat} (hl:s.length≤99000) (hF:s.length+1<F):kg F s=some (dX s):=by
 have GK:iV s=some (oR s):=by
  unfold iV oR
  by_cases h1:1<s.length
  · cases s with
    |nil=>simp at h1
    |cons c r=>
     obtain ⟨x,hx⟩:∃x,(c::r).getLast?=some x:=yj c r
     rw [if_pos (by simp at h1 ⊢;omega),ve hx (by omega),hx,show idx (c::r) 0=some c by simp [idx]]
     rw [decide_eq_true h1]
     by_cases h2:c=91
     · simp [h2];rfl
     · simp [h2]
  · rw [if_neg (by simp;omega)];simp [h1]
 unfold kg dX
 rw [GK,Option.bind_some]
 cases hi:oR s with
 |true=>
  have h1:1<s.length:=by simp [oR] at hi;omega
  simp only [if_true]
  rw [wr (by omega) (by omega)]
  have hsub:sub s 1 ((s.length:Int) - 1)=some (inner s):=by
   rw [show (1:Int)=((1:Nat):Int) from rfl,show (s.length:Int) - ((1:Nat):Int)=((s.length - 1:Nat):Int) by omega,oe (by omega) (by omega)]
   congr 1
   unfold inner
   rw [List.dropLast_eq_take,List.length_drop,List.drop_take]
  have hil:(inner s).length+2=s.length:=by simp [inner];omega
  rw [hsub,Option.bind_some,sR (by omega),Option.bind_some]
  unfold lK
  have hn:=yG (inner s)
  by_cases h4:(aR (inner s)).length=4
  · rw [if_pos (by simpa using by omega),MW (by omega) (by omega) fun x hx=>by have:=me _ x hx;omega]
    simp [h4]
  · rw [if_neg (by simpa using by omega)]
    simp [h4]
 |false=>
  have hn:=yG s
  simp only [Bool.false_eq_true,if_false]
  rw [sR (by omega),Option.bind_some,MX (by omega) (by omega) fun x hx=>by have:=me _ x hx;omega]
  simp
theorem acJ {s:List UInt8} {F:Nat} (hl:s.length≤99000) (hF:s.length+1<F):kj F s=some (jF s):=by
 unfold kj lM jF
 by_cases h:s.length≤255
 · rw [if_pos (by simpa using by omega),GJ hl hF]
   have hn:=yG s
   cases dX s with
   |true=>simp only [Option.bind_some,if_true];rw [sR (by omega),Option.bind_some,MY (by omega) (by omega)];simp [h]
   |false=>simp
 · rw [if_neg (by simpa using by omega)];simp [h]
end Go.Proofs.cI
end
section
set_option maxRecDepth 100000
namespace Go.Proofs.cI
open Go Go.Am Go.Proofs
def D3:List UInt8:=(List.range 10).map fun n=>UInt8.ofNat (48+n)
theorem acK (n:Nat):D3.all (fun a=>decide (fk (n+10) [a]=some (D2 [a])))=true:=by kernel_rfl
theorem acL (n:Nat):D3.all (fun a=>D3.all fun b=>decide (fk (n+10) [a,b]=some (D2 [a,b])))=true:=by kernel_rfl
theorem acM (n:Nat):D3.all (fun a=>D3.all fun b=>D3.all fun c=>decide (fk (n+10) [a,b,c]=some (D2 [a,b,c])))=true:=by kernel_rfl
theorem pW {c:UInt8} (h:rV c=true):c∈D3:=by
 have:=kC (p:=fun c=> !rV c||D3.contains c) (by kernel_rfl) c
 simpa [h] using this
theorem TT {s:List UInt8} {F:Nat} (hF:10≤F) (hl:s.length≤100000):fk F s=some (jW s):=by
 by_cases h3:3<s.length
 · have hn:jW s=false:=by
    cases h:jW s with
    |false=>rfl
    |true=>have:=(q9 h).1;omega
   have hne:s≠[]:=by intro h;subst h;simp at h3
   unfold fk fD
   simp only [hne,decide_false,Bool.false_eq_true,if_false]
   rw [if_pos (by simp;omega),hn];rfl
 · by_cases hd:s.all rV=true
   · obtain ⟨G,rfl⟩:∃G,F=G+10:=⟨F - 10,by omega⟩
     rw [List.all_eq_true] at hd
     rw [aaf]
     match s,h3,hd with
     |[],_,_=>rw [show D2 []=false by kernel_rfl];simp [fk,fD]
     |[a],_,hd=>exact of_decide_eq_true (List.all_eq_true.1 (acK G) a (pW (hd a (by simp))))
     |[a,b],_,hd=>exact of_decide_eq_true (List.all_eq_true.1 (List.all_eq_true.1 (acL G) a (pW (hd a (by simp)))) b (pW (hd b (by simp))))
     |[a,b,c],_,hd=>exact of_decide_eq_true (List.all_eq_true.1 (List.all_eq_true.1 (List.all_eq_true.1 (acM G) a (pW (hd a (by simp)))) b (pW (hd b (by simp)))) c (pW (hd c (by simp))))
     |a::b::c::d::r,h3,_=>simp at h3
   · have hn:jW s=false:=by
      cases h:jW s with
      |false=>rfl
      |true=>exact absurd (q9 h).2.1 hd
     rw [hn]
     have hp:∃b,fD s=some b:=by
      unfold fD
      cases s with
      |nil=>simp
      |cons c r=>
       rw [show idx (c::r) 0=some c by simp [idx]]
       simp only [Option.bind_some]
       repeat' split
       all_goals exact ⟨_,rfl⟩
     obtain ⟨b,hb⟩:=hp
     unfold fk
     rw [hb,Option.bind_some]
     cases b with
     |true=>rfl
     |false=>
      simp only [Bool.false_eq_true,if_false]
      have acN:∀(r:List UInt8) (i F:Nat) (n:Int),s.drop i=r→i+r.length=s.length→r.length<F→r.all rV=false→iter (gD s) F (n,(i:Int))=some (.inl false):=by
       intro r
       induction r with
       |nil=>intro i F n _ _ _ h;simp at h
       |cons x r ih=>
        intro i F n hdr hlr hF ha
        obtain ⟨G,rfl⟩:=cu hF
        obtain ⟨hi,hx,hr⟩:=drop_cons hdr
        simp only [List.length_cons] at hlr hF
        have hstep:gD s (n,(i:Int))=if (!rV x)=true then some (.ret false) else some (.cv ((IntKind.wrap .i64 ((IntKind.wrap .i64 (10*n))+(IntKind.wrap .i64 ((x - 48).toNat:Int)))),((i+1:Nat):Int))):=by
         simp only [gD]
         rw [if_pos (by simpa using hi),bh hx,Option.bind_some,vc,Option.bind_some,wi (by omega)]
        cases hx':rV x with
        |false=>rw [hx'] at hstep;exact dm (by rw [hstep];rfl)
        |true=>
         rw [hx'] at hstep
         rw [bX (by rw [hstep];rfl)]
         exact ih (i+1) G _ hr (by omega) (by omega) (by simpa [hx'] using ha)
      rw [show (0,(0:Int))=((0:Int),((0:Nat):Int)) from rfl,acN s 0 F 0 rfl (by simp) (by omega) (by simpa using hd)]
      rfl
def IL (s:List UInt8):Bool:=gy s&&decide (s.length≤63)
theorem XN {s:List UInt8} {F:Nat} (hl:s.length≤100000) (hF:s.length<F):mS F s=some (IL s):=by
 unfold mS lO IL gy
 cases s with
 |nil=>simp
 |cons c r=>
  obtain ⟨x,hx⟩:=yj c r
  rw [ve hx (by omega),hx,show idx (c::r) 0=some c by simp [idx]]
  by_cases h0:63<(c::r).length
  · rw [if_neg (by simp),if_pos (by simp at h0 ⊢;omega)]
    have:decide ((c::r).length≤63)=false:=by simp at h0 ⊢;omega
    rw [this];simp
  · have h0':decide ((c::r).length≤63)=true:=by simp at h0 ⊢;omega
    rw [if_neg (by simp),if_neg (by simp at h0 ⊢;omega),h0']
    by_cases h1:c=45
    · simp [h1]
    · by_cases h2:x=45
      · simp [h1,h2]
      · have hh:=scan (s:=c::r) (body:=fE (c::r)) (mk:=fun i=>(i:Int)) (p:=yh) (rr:=fun _=>false) (tt:=()) ?_ ?_ ?_ hF
        · simp only [Option.bind_some,h1,h2,decide_false,Bool.false_eq_true,if_false]
          cases ha:(c::r).all yh with
          |true=>have:=hh.1 ha;rw [show ((0:Nat):Int)=0 from rfl] at this;rw [this];simp [h1,h2]
          |false=>obtain ⟨j,hj⟩:=hh.2 ha;rw [show ((0:Nat):Int)=0 from rfl] at hj;rw [hj];simp [h1,h2]
        · intro i y hy hp
          have hi:=(List.getElem?_eq_some_iff.1 hy).1
          simp only [fE,jc]
          rw [if_pos (by simp at hi ⊢;omega),bh hy,Option.bind_some,vb,Option.bind_some,vc,Option.bind_some,wi (by omega)]
          simp only [yh] at hp
          cases h1:ER y<;>cases h2:rV y<;>simp [h1,h2] at hp ⊢
          exact hp
        · intro i y hy hp
          have hi:=(List.getElem?_eq_some_iff.1 hy).1
          simp only [fE,jc]
          rw [if_pos (by simp at hi ⊢;omega),bh hy,Option.bind_some,vb,Option.bind_some,vc,Option.bind_some]
          simp only [yh] at hp
          cases h1:ER y<;>cases h2:rV y<;>simp [h1,h2] at hp ⊢
          exact hp
        · simp [fE]
end Go.Proofs.cI
end
section
set_option maxRecDepth 100000
namespace Go.Proofs.cI
open Go Go.Am Go.Proofs
def KQ (num:Bool) (s:List UInt8):Bool:=if num then jW s else IL s
theorem XO {F:Nat} {x:UInt8} {s:List UInt8} {a i:Nat} (h:a≤i) (hi:i≤s.length) (hl:s.length≤99000) (hF:s.length+10<F):
 iu F x s (a:Int) (i:Int)=some (!KQ (x==91) ((s.take i).drop a)):=by
 have hlen:((s.take i).drop a).length≤s.length:=by simp;omega
 unfold iu KQ
 rw [oe h hi]
 by_cases hx:x=91
 · rw [if_pos (by simpa using hx)]
   simp only [Option.bind_some]
   rw [TT (by omega) (by omega)]
   simp only [Option.bind_some,hx,beq_self_eq_true,if_true]
   cases jW ((s.take i).drop a)<;>rfl
 · rw [if_neg (by simpa using hx)]
   simp only [Option.bind_some]
   rw [XN (by omega) (by omega)]
   have:(x==91)=false:=by simpa using hx
   simp [this]
theorem IM {F:Nat} {x:UInt8} {s:List UInt8} (hl:s.length≤99000) (DG:s.length+10<F):∀(r cur:List UInt8) (a k i G:Nat),(∀c∈cur,c≠46)→s.drop a=cur++r→a+cur.length=i→i+r.length=s.length→r.length+1<G→k≤i→
 iter (cH F s x) G ((a:Int),(k:Int),(i:Int))=some (if (aR (cur++r)).all (KQ (x==91)) then .inr ((k+(aR (cur++r)).length:Nat):Int) else .inl false):=by
 have wT:∀(cur r:List UInt8) (a i:Nat),s.drop a=cur++r→a+cur.length=i→(s.take i).drop a=cur:=by
  intro cur r a i h hi
  rw [List.drop_take,h, ←hi,Nat.add_sub_cancel_left,List.take_left' rfl]
 intro r
 induction r with
 |nil=>
  intro cur a k i G hc hd ha hi hG hk
  obtain ⟨G,rfl⟩:=cu (show 0<G by omega)
  obtain ⟨G,rfl⟩:=cu (show 0<G by simp at hG;omega)
  have hie:i=s.length:=by simpa using hi
  have hstep:cH F s x ((a:Int),(k:Int),(i:Int))=if (!KQ (x==91) cur)=true then some (.ret false) else some (.cv (((i+1:Nat):Int),((k+1:Nat):Int),((i+1:Nat):Int))):=by
   simp only [cH]
   rw [if_pos (by simp;omega)]
   have:fc (i:Int) s=some false:=by unfold fc;rw [if_neg (by simp;omega)]
   rw [this,Option.bind_some]
   simp only [Bool.false_eq_true,if_false]
   rw [XO (by omega) (by omega) hl DG,Option.bind_some,wT cur [] a i hd ha,wi (by omega),wi (by omega)]
  rw [List.append_nil,D1 hc]
  cases hx:KQ (x==91) cur with
  |false=>rw [hx] at hstep;rw [dm (by rw [hstep];rfl)];simp [hx]
  |true=>
   rw [hx] at hstep
   rw [bX (by rw [hstep];rfl)]
   have:cH F s x (((i+1:Nat):Int),((k+1:Nat):Int),((i+1:Nat):Int))=some (.eC ((k+1:Nat):Int)):=by
    simp only [cH]
    rw [if_neg (by simp;omega)]
   rw [bS this]
   simp [hx]
 |cons c r ih=>
  intro cur a k i G hc hd ha hi hG hk
  obtain ⟨G,rfl⟩:=cu (show 0<G by omega)
  simp only [List.length_cons] at hi hG
  have hci:s[i]? =some c:=by
   have:(s.drop a)[cur.length]? =some c:=by rw [hd];simp
   rw [List.getElem?_drop,ha] at this;exact this
  have hp4:fc (i:Int) s=some (!decide (c=46)):=by unfold fc;rw [if_pos (by simp;omega),bh hci];rfl
  by_cases GL:c=46
  · subst GL
    have hstep:cH F s x ((a:Int),(k:Int),(i:Int))=if (!KQ (x==91) cur)=true then some (.ret false) else some (.cv (((i+1:Nat):Int),((k+1:Nat):Int),((i+1:Nat):Int))):=by
     simp only [cH]
     rw [if_pos (by simp;omega),hp4,Option.bind_some]
     simp only [decide_true,Bool.not_true,Bool.false_eq_true,if_false]
     rw [XO (by omega) (by omega) hl DG,Option.bind_some,wT cur _ a i hd ha,wi (by omega),wi (by omega)]
    rw [D0 hc]
    cases hx:KQ (x==91) cur with
    |false=>rw [hx] at hstep;rw [dm (by rw [hstep];rfl)];simp [hx]
    |true=>
     rw [hx] at hstep
     rw [bX (by rw [hstep];rfl)]
     have hd':s.drop (i+1)=r:=by
      have:(s.drop a).drop (cur.length+1)=r:=by rw [hd,List.drop_append];simp
      rw [List.drop_drop] at this
      rw [←this];congr 1;omega
     have:=ih [] (i+1) (k+1) (i+1) G (by simp) (by simpa using hd') (by simp) (by omega) (by omega) (by omega)
     rw [List.nil_append] at this
     rw [this]
     simp only [List.all_cons,hx,Bool.true_and,List.length_cons]
     congr 3
     omega
  · have hstep:cH F s x ((a:Int),(k:Int),(i:Int))=some (.cv ((a:Int),(k:Int),((i+1:Nat):Int))):=by
     simp only [cH]
     rw [if_pos (by simp;omega),hp4,Option.bind_some]
     simp only [GL,decide_false,Bool.not_false,if_true]
     rw [wi (by omega)]
    rw [bX hstep]
    have:=ih (cur++[c]) a k (i+1) G (by intro y hy;rcases List.mem_append.1 hy with h|h;exact hc y h;simp at h;subst h;exact GL) (by rw [hd];simp) (by simp;omega) (by omega) (by omega) (by omega)
    rw [this]
    simp
theorem TU (l:List (List UInt8)):l.all IL=(l.all gy&&l.all fun p=>decide (p.length≤63)):=by
 induction l with
 |nil=>rfl
 |cons a l ih=>simp only [List.all_cons,ih,IL];cases gy a<;>cases decide (a.length≤63)<;>simp
theorem D4 (s:List UInt8):((aR s).map List.length).sum+(aR s).length=s.length+1:=by
 induction s with
 |nil=>simp [aR]
 |cons c r ih=>
  unfold aR
  split
  · simp;omega
  · cases h:aR r with
    |nil=>exact absurd h (gP r)
    |cons a t=>rw [h] at ih;simp at ih ⊢;omega
theorem four {l:List (List UInt8)} (h4:l.length=4) (h:∀p∈l,p.length≤3):(l.map List.length).sum≤12:=by
 match l,h4 with
 |[a,b,c,d],_=>
  have ha:=h a (by simp);have hb:=h b (by simp);have hc:=h c (by simp);have hd:=h d (by simp)
  simp;omega
theorem GM (r:List UInt8):(aR (91::r)).all gy=false:=by
 have h1:∀t:List UInt8,gy (91::t)=false:=by
  intro t
  have:yh 91=false:=by decide
  simp [gy,this]
 simp only [aR]
 rw [if_neg (by decide)]
 split
 · simp [h1]
 · simp [h1]
theorem acO {s:List UInt8} {F:Nat} (hl:s.length≤99000) (hF:s.length+10<F):fm F s=some (jF s):=by
 cases s with
 |nil=>simp [fm,jF,dX,oR,aR,gy]
 |cons c r=>
  unfold fm
  by_cases QY:255<(c::r).length
  · rw [if_pos (by simp at QY ⊢;omega)]
    have:decide ((c::r).length≤255)=false:=by simp at QY ⊢;omega
    unfold jF;rw [this];rfl
  · have XP:decide ((c::r).length≤255)=true:=by simp at QY ⊢;omega
    rw [if_neg (by simp at QY ⊢;omega),show idx (c::r) 0=some c by simp [idx],Option.bind_some]
    obtain ⟨x,hx⟩:=yj c r
    by_cases hc:c=91
    · subst hc
      unfold ir kA
      rw [if_pos (by rfl),ve hx (by omega),Option.bind_some]
      by_cases hin:oR (91::r)=true
      · have UI:x=93:=by rw [oR,hx] at hin;simpa using (by simp at hin;exact hin.2)
        have h1:1<(91::r).length:=by rw [oR] at hin;simp at hin ⊢;exact hin.1
        subst UI
        rw [if_neg (by simp)]
        have:decide ((((91::r).length:Nat):Int)<2)=false:=by simp at h1 ⊢;omega
        rw [this]
        simp only [Option.bind_some,Bool.false_eq_true,if_false]
        have hsub:sub (91::r) 1 (IntKind.wrap .i64 ((((91::r).length:Nat):Int) - 1))=some (inner (91::r)):=by
         rw [wr (by omega) (by omega),show (1:Int)=((1:Nat):Int) from rfl,show (((91::r).length:Nat):Int) - ((1:Nat):Int)=(((91::r).length - 1:Nat):Int) by omega,oe (by omega) (by omega)]
         congr 1
         unfold inner
         rw [List.dropLast_eq_take,List.length_drop,List.drop_take]
        rw [hsub]
        simp only [Option.bind_some]
        have hil:(inner (91::r)).length≤(91::r).length:=by simp [inner];omega
        have XQ:=IM (F:=F) (x:=91) (s:=inner (91::r)) (by omega) (by omega) (inner (91::r)) [] 0 0 0 F (by simp) (by simp) (by simp) (by simp) (by omega) (Nat.le_refl _)
        simp only [List.nil_append,Int.natCast_zero,Nat.zero_add] at XQ
        rw [show ((0:Int),(0:Int),(0:Int))=(((0:Nat):Int),((0:Nat):Int),((0:Nat):Int)) from rfl]
        rw [show (((0:Nat):Int),((0:Nat):Int),((0:Nat):Int))=((0:Int),(0:Int),(0:Int)) from rfl,XQ]
        have XR:(aR (inner (91::r))).all (KQ ((91:UInt8)==91))=(aR (inner (91::r))).all jW:=by congr 1
        rw [XR]
        unfold jF dX
        rw [XP,hin]
        simp only [if_true,Bool.true_and]
        cases hall:(aR (inner (91::r))).all jW with
        |false=>simp
        |true=>
         by_cases h4:(aR (inner (91::r))).length=4
         · have hsum:=four h4 fun p hp=>(q9 (List.all_eq_true.1 hall p hp)).1
           have htot:=D4 (inner (91::r))
           have hlen:(91::r).length=(inner (91::r)).length+2:=by simp [inner];simp at h1;omega
           have:(aR (91::r)).all (fun p=>decide (p.length≤63))=true:=by
            rw [List.all_eq_true]
            intro p hp
            have:=me _ p hp
            simp only [decide_eq_true_eq]
            omega
           rw [this]
           simp [h4]
         · simp [h4];omega
      · have aeV:oR (91::r)=false:=by simpa using hin
        have hdf:jF (91::r)=false:=by unfold jF dX;rw [aeV];simp only [Bool.false_eq_true,if_false,GM];simp
        rw [hdf]
        by_cases aaS:x=93
        · subst aaS
          have h1:¬1<(91::r).length:=by intro h;rw [oR,hx,decide_eq_true h] at hin;simp at hin
          rw [if_neg (by simp),decide_eq_true (by omega)]
          rfl
        · rw [if_pos (by simpa using aaS)];rfl
    · unfold ir
      rw [if_neg (by simpa using hc)]
      simp only [Option.bind_some]
      have XQ:=IM (F:=F) (x:=c) (s:=c::r) hl hF (c::r) [] 0 0 0 F (by simp) (by simp) (by simp) (by simp) (by omega) (Nat.le_refl _)
      simp only [List.nil_append,Int.natCast_zero,Nat.zero_add] at XQ
      rw [XQ]
      have PF:(c==91)=false:=by simpa using hc
      have XR:(aR (c::r)).all (KQ (c==91))=(aR (c::r)).all IL:=by rw [PF];congr 1
      rw [XR,TU]
      have hin:oR (c::r)=false:=by unfold oR;simp [hc]
      unfold jF dX
      rw [XP,hin]
      simp only [Bool.false_eq_true,if_false,Bool.true_and]
      cases (aR (c::r)).all gy<;>cases (aR (c::r)).all (fun p=>decide (p.length≤63))<;>simp [hc]
end Go.Proofs.cI
end
section
set_option maxRecDepth 100000
namespace Go.Proofs.cI
open Go Go.Am Go.Proofs
theorem aaT (a b:List UInt8):aR (a++46::b)=aR a++aR b:=by
 induction a with
 |nil=>simp [aR]
 |cons c a ih=>
  simp only [List.cons_append,aR,ih]
  by_cases hc:c=46
  · simp [hc]
  · simp only [if_neg hc]
    cases h:aR a with
    |nil=>exact absurd h (gP a)
    |cons x t=>simp
theorem AI (s:List UInt8):∀c∈s,c=46∨∃p∈aR s,c∈p:=by
 induction s with
 |nil=>simp
 |cons a r ih=>
  intro c hc
  simp only [aR]
  rcases List.mem_cons.1 hc with rfl|hc
  · by_cases h:c=46
    · exact .inl h
    · right
      rw [if_neg h]
      cases hs:aR r with
      |nil=>exact absurd hs (gP r)
      |cons x t=>exact ⟨c::x,by simp,by simp⟩
  · rcases ih c hc with h|⟨p,hp,j6⟩
    · exact .inl h
    · right
      by_cases ha:a=46
      · rw [if_pos ha];exact ⟨p,by simp [hp],j6⟩
      · rw [if_neg ha]
        cases hs:aR r with
        |nil=>exact absurd hs (gP r)
        |cons x t=>
         rw [hs] at hp
         rcases List.mem_cons.1 hp with rfl|hp
         · exact ⟨a::p,by simp,by simp [j6]⟩
         · exact ⟨p,by simp [hp],j6⟩
theorem aag {s:List UInt8} (h:s.head?≠some 91):oR s=false:=by
 unfold oR
 have:(s.head?==some 91)=false:=by simpa using h
 rw [this];simp
theorem aeW {s:List UInt8} (h:s.getLast?≠some 93):oR s=false:=by
 unfold oR
 have:(s.getLast?==some 93)=false:=by simpa using h
 rw [this];simp
theorem aeX {s:List UInt8} (hi:oR s=false) {p:List UInt8} (hp:p∈aR s) (hl:gy p=false):jF s=false:=by
 unfold jF dX
 rw [hi]
 have:(aR s).all gy=false:=by
  rw [List.all_eq_false]
  exact ⟨p,hp,by simp [hl]⟩
 simp [this]
end Go.Proofs.cI
end
section
set_option maxRecDepth 100000
namespace Go.Proofs.cI
open Go Go.Am Go.Proofs
def cq (c:UInt8):Bool:=ER c||rV c||c==45||c==46||c==91||c==93
def eD (c:UInt8):Bool:=decide (32≤c)&&decide (c≤126)
def eP (c:UInt8):Bool:=ER c||rV c||([33,35,36,37,38,39,42,43,45,47,61,63,94,95,96,123,124,125,126]:List UInt8).contains c
def iQ (c:UInt8):Bool:=c==46||eP c
theorem QZ (c:UInt8):nU c=some (eP c):=by
 have:=kC (p:=fun c=>decide (nU c=some (eP c))) (by kernel_rfl) c
 simpa using this
theorem Q0 (c:UInt8):ey c=some (cq c):=by
 have:=kC (p:=fun c=>decide (ey c=some (cq c))) (by kernel_rfl) c
 simpa using this
theorem Q1 (c:UInt8):eL c=some (iQ c):=by
 have:=kC (p:=fun c=>decide (eL c=some (iQ c))) (by kernel_rfl) c
 simpa using this
structure At (s:List UInt8) (n:Nat) (r:List UInt8):Prop where
 le:n≤s.length
 dr:s.drop n=r
 sm:s.length≤90000
def nx:List UInt8→UInt8
 |[]=>0
 |c::_=>c
theorem At.len {s r:List UInt8} {n:Nat} (h:At s n r):n+r.length=s.length:=by
 rw [←h.dr,List.length_drop];have:=h.le;omega
theorem At.next {s r:List UInt8} {n:Nat} {c:UInt8} (h:At s n (c::r)):At s (n+1) r:=by
 obtain ⟨h1,h2,h3⟩:=drop_cons h.dr
 exact ⟨h1,h3,h.sm⟩
theorem nc {s r:List UInt8} {n:Nat} (h:At s n r):bx ⟨s,(n:Int),false⟩=some (nx r):=by
 unfold bx
 cases r with
 |nil=>
  have:=h.len
  rw [if_pos (by simp at this ⊢;omega)];rfl
 |cons c r=>
  obtain ⟨h1,h2,h3⟩:=drop_cons h.dr
  rw [if_neg (by simp;omega),bh h2];rfl
theorem vf {s:List UInt8} {n:Int}:bx ⟨s,n,true⟩=some 0:=by simp [bx]
theorem yl {s r:List UInt8} {n:Nat} {c:UInt8} (h:At s n (c::r)):bM ⟨s,(n:Int),false⟩ c=some (true,⟨s,((n+1:Nat):Int),false⟩):=by
 have:=h.len;have:=h.sm
 unfold bM
 rw [nc h,Option.bind_some]
 simp only [nx]
 rw [if_neg (by simp),wi (by omega)]
theorem vg {s r:List UInt8} {n:Nat} {c:UInt8} (h:At s n r) (hc:nx r≠c):bM ⟨s,(n:Int),false⟩ c=some (false,⟨s,(n:Int),false⟩):=by
 unfold bM
 rw [nc h,Option.bind_some,if_pos (by simpa using hc)]
theorem v8 {s:List UInt8} {n:Int} {c:UInt8} (hc:c≠0):bM ⟨s,n,true⟩ c=some (false,⟨s,n,true⟩):=by
 unfold bM
 rw [vf,Option.bind_some,if_pos (by simpa using fun h=>hc h.symm)]
theorem yI {s r:List UInt8} {n:Nat} {c:UInt8} (h:At s n (c::r)):bg ⟨s,(n:Int),false⟩ c=some ⟨s,((n+1:Nat):Int),false⟩:=by
 unfold bg;simp [yl h]
theorem Cj {s r:List UInt8} {n:Nat} {c:UInt8} (h:At s n r) (hc:nx r≠c):bg ⟨s,(n:Int),false⟩ c=some ⟨s,(n:Int),true⟩:=by
 unfold bg;simp [vg h hc]
theorem ju {s:List UInt8} {n:Int} {c:UInt8}:bg ⟨s,n,true⟩ c=some ⟨s,n,true⟩:=by
 unfold bg;simp
theorem IP {q:UInt8→Bool} {ρ:Type} {body:(UInt8×aD)→Option (St ρ aD (UInt8×aD))} {s:List UInt8} (h0:q 0=false)
 (hb:∀(c:UInt8) (n:Int) (b:Bool),body (c,⟨s,n,b⟩)=if q c=true then (bx ⟨s,IntKind.wrap .i64 (n+1),b⟩).bind fun r9=>some (.cv (r9,⟨s,IntKind.wrap .i64 (n+1),b⟩)) else some (.eC ⟨s,n,b⟩)):
 ∀(r:List UInt8) (n F:Nat),At s n r→r.length<F→iter body F (nx r,⟨s,(n:Int),false⟩)=some (.inr ⟨s,((n+(r.takeWhile q).length:Nat):Int),false⟩):=by
 intro r
 induction r with
 |nil=>
  intro n F h hF
  obtain ⟨G,rfl⟩:=cu hF
  rw [bS (t:=⟨s,(n:Int),false⟩) (by rw [hb,if_neg (by simp [nx,h0])])]
  simp
 |cons c r ih=>
  intro n F h hF
  obtain ⟨G,rfl⟩:=cu hF
  have:=h.len;have:=h.sm
  by_cases hq:q c=true
  · have hst:body (nx (c::r),⟨s,(n:Int),false⟩)=some (.cv (nx r,⟨s,((n+1:Nat):Int),false⟩)):=by
     rw [hb,if_pos (by simpa [nx] using hq),wi (by omega),nc h.next];rfl
    rw [bX hst,ih (n+1) G h.next (by simp at hF;omega),List.takeWhile_cons,if_pos hq]
    simp only [List.length_cons]
    congr 4
    omega
  · rw [bS (t:=⟨s,(n:Int),false⟩) (by rw [hb,if_neg (by simpa [nx] using hq)]),List.takeWhile_cons,if_neg hq]
    simp
theorem pR (q:UInt8→Bool) (r:List UInt8):(r.takeWhile q).length≤r.length:=(List.takeWhile_prefix q).length_le
theorem At.skip {s r:List UInt8} {n:Nat} (h:At s n r) (q:UInt8→Bool):At s (n+(r.takeWhile q).length) (r.dropWhile q):=by
 have h1:(r.takeWhile q).length≤r.length:=pR _ _
 have h2:=h.len
 refine ⟨by omega, ?_,h.sm⟩
 rw [←List.drop_drop,h.dr]
 conv=>lhs;rw [←List.takeWhile_append_dropWhile (p:=q) (l:=r)]
 rw [List.takeWhile_append_dropWhile]
 conv=>lhs;arg 2;rw [←List.takeWhile_append_dropWhile (p:=q) (l:=r)]
 exact List.drop_left ..
theorem we {s r:List UInt8} {n:Nat} (h:At s n r) (q:UInt8→Bool):sub s (n:Int) ((n+(r.takeWhile q).length:Nat):Int)=some (r.takeWhile q):=by
 have h1:=(h.skip q).le
 rw [oe (by omega) h1,List.drop_take,h.dr,Nat.add_sub_cancel_left]
 congr 1
 conv=>lhs;arg 2;rw [←List.takeWhile_append_dropWhile (p:=q) (l:=r)]
 exact List.take_left ..
theorem P0 {s r:List UInt8} {n F:Nat} (h:At s n r) (hF:s.length+1<F):
 b6 F ⟨s,(n:Int),false⟩=some (r.takeWhile cq,⟨s,((n+(r.takeWhile cq).length:Nat):Int), !dX (r.takeWhile cq)⟩):=by
 have h1:=h.len;have h2:=h.sm
 have h3:(r.takeWhile cq).length≤r.length:=pR _ _
 unfold b6
 rw [nc h,Option.bind_some,IP (q:=cq) (s:=s) (by decide) (fun c n b=>by simp only [ez,Q0,Option.bind_some]) r n F h (by omega)]
 simp only [Option.bind_some]
 rw [we h,Option.bind_some]
 unfold eA
 simp only [Bool.false_eq_true,if_false]
 rw [GJ (by omega) (by omega)]
 rfl
theorem oE {s:List UInt8} {n F:Nat} (hn:n≤s.length) (hF:0<F):b6 F ⟨s,(n:Int),true⟩=some ([],⟨s,(n:Int),true⟩):=by
 obtain ⟨G,rfl⟩:=cu hF
 unfold b6
 rw [vf,Option.bind_some,bS (t:=⟨s,(n:Int),true⟩) (by simp only [ez,Q0,Option.bind_some];rfl)]
 simp only [Option.bind_some]
 rw [oe (Nat.le_refl _) hn,Option.bind_some]
 unfold eA
 simp only [if_true,Option.bind_some]
 congr 2
 simp
def gT (s:List UInt8):Bool:=(aR s).all fun p=>p !=[]&&p.all eP
theorem TV {s:List UInt8} {F:Nat} (hl:s.length≤1000000) (hF:s.length<F):iW F s=some (s.all eP):=by
 unfold iW
 have hh:=scan (s:=s) (body:=ek s) (mk:=fun i=>(false,(i:Int))) (p:=eP) (rr:=fun _=>false) (tt:=()) ?_ ?_ ?_ hF
 · cases ha:s.all eP with
   |true=>have:=hh.1 ha;rw [show ((0:Nat):Int)=0 from rfl] at this;rw [this];rfl
   |false=>obtain ⟨j,hj⟩:=hh.2 ha;rw [show ((0:Nat):Int)=0 from rfl] at hj;rw [hj];rfl
 · intro i x hx hp
   have hi:=(List.getElem?_eq_some_iff.1 hx).1
   simp only [ek]
   rw [if_pos (by simpa using hi),bh hx,Option.bind_some,QZ,Option.bind_some,hp,wi (by omega)];rfl
 · intro i x hx hp
   have hi:=(List.getElem?_eq_some_iff.1 hx).1
   simp only [ek]
   rw [if_pos (by simpa using hi),bh hx,Option.bind_some,QZ,Option.bind_some,hp];rfl
 · simp [ek]
theorem MZ {x:List UInt8} {F:Nat} (hl:x.length≤1000000) (hF:x.length<F):lg F x=some (!(x !=[]&&x.all eP)):=by
 unfold lg ko
 by_cases hx:x=[]
 · subst hx;rfl
 · rw [if_neg (by simpa using hx),TV hl hF]
   simp [hx]
theorem IQ {s:List UInt8} {F:Nat} (hl:s.length≤90000) (hF:s.length+1<F):l7 F s=some (gT s):=by
 have hn:=yG s
 unfold l7
 rw [sR (by omega),Option.bind_some]
 unfold eZ fO
 have hh:=scan (s:=aR s) (F:=F) (body:=cF F (aR s)) (mk:=fun i=>(0,(i:Int))) (p:=fun p=>p !=[]&&p.all eP) (rr:=fun i=>(i:Int)) (tt:=()) ?_ ?_ ?_ (by omega)
 · unfold gT
   cases ha:(aR s).all fun p=>p !=[]&&p.all eP with
   |true=>have:=hh.1 ha;rw [show ((0:Nat):Int)=0 from rfl] at this;rw [this];rfl
   |false=>obtain ⟨j,hj⟩:=hh.2 ha;rw [show ((0:Nat):Int)=0 from rfl] at hj;rw [hj];simp
 · intro i x hx' hp
   have hi:=(List.getElem?_eq_some_iff.1 hx').1
   have hxl:=me s x (List.mem_of_getElem? hx')
   simp only [cF]
   rw [if_pos (by simpa using hi),bh hx',Option.bind_some,MZ (by omega) (by omega),Option.bind_some,hp,wi (by omega)];rfl
 · intro i x hx' hp
   have hi:=(List.getElem?_eq_some_iff.1 hx').1
   have hxl:=me s x (List.mem_of_getElem? hx')
   simp only [cF]
   rw [if_pos (by simpa using hi),bh hx',Option.bind_some,MZ (by omega) (by omega),Option.bind_some,hp];rfl
 · simp [cF]
def qL:List UInt8→Option (List UInt8×List UInt8)
 |[]=>none
 |c::r=>if c=34 then some ([],r)
  else if c=92 then (match r with
   |[]=>none
   |d::r'=>if eD d then (qL r').map fun x=>(d::x.1,x.2) else none)
  else if eD c then (qL r).map fun x=>(c::x.1,x.2) else none
theorem vh (c:UInt8) (r:List UInt8):qL (c::r)=if c=34 then some ([],r)
 else if c=92 then (match r with
  |[]=>none
  |d::r'=>if eD d then (qL r').map fun x=>(d::x.1,x.2) else none)
 else if eD c then (qL r).map fun x=>(c::x.1,x.2) else none:=by
 cases r<;>rfl
theorem KR (c:UInt8):k9 c=some (eD c):=rfl
theorem agd:eD 0=false:=by decide
theorem acP {s r acc:List UInt8} {n:Nat} (h:At s n (34::r)):bO (acc,⟨s,(n:Int),false⟩)=some (.eC (acc,⟨s,((n+1:Nat):Int),false⟩)):=by
 simp only [bO,dz,Bool.not_false,if_true]
 rw [yl h]
 simp
theorem P1 {s r acc:List UInt8} {n:Nat} (h:At s n r) (h1:nx r≠34) (h2:nx r≠92) (ha:acc.length≤90000):bO (acc,⟨s,(n:Int),false⟩)=
 if eD (nx r)=true then some (.cv (acc++[nx r],⟨s,((n+1:Nat):Int),false⟩)) else some (.eC (acc,⟨s,(n:Int),true⟩)):=by
 have:=h.le;have:=h.sm
 simp only [bO,dz,Bool.not_false,if_true]
 rw [vg h h1]
 simp only [Option.bind_some,Bool.not_false,if_true]
 rw [vg h h2]
 simp only [Option.bind_some]
 rw [nc h]
 simp only [Option.bind_some,KR]
 cases eD (nx r) with
 |false=>simp
 |true=>
  simp only [Bool.not_true,Bool.false_eq_true,if_false,if_true]
  rw [c6 (by simp;omega) (by omega),Option.bind_some,wi (by omega)]
theorem acQ {s r acc:List UInt8} {n:Nat} (h:At s n (92::r)) (ha:acc.length≤90000):bO (acc,⟨s,(n:Int),false⟩)=
 if eD (nx r)=true then some (.cv (acc++[nx r],⟨s,((n+2:Nat):Int),false⟩)) else some (.eC (acc,⟨s,((n+1:Nat):Int),true⟩)):=by
 have:=h.next.le;have:=h.sm
 simp only [bO,dz,Bool.not_false,if_true]
 rw [vg h (by simp [nx])]
 simp only [Option.bind_some,Bool.not_false,if_true]
 rw [yl h]
 simp only [Option.bind_some]
 rw [nc h.next]
 simp only [Option.bind_some,KR]
 cases eD (nx r) with
 |false=>simp
 |true=>
  simp only [Bool.not_true,Bool.false_eq_true,if_false,if_true]
  rw [c6 (by simp;omega) (by omega),Option.bind_some,wi (by omega)]
theorem KS {s:List UInt8}:∀(k:Nat) (r acc:List UInt8) (n F:Nat),r.length≤k→At s n r→acc.length≤n→r.length<F→
 match qL r with
 |some (b,rest)=>∃n':Nat,iter bO F (acc,⟨s,(n:Int),false⟩)=some (.inr (acc++b,⟨s,(n':Int),false⟩))∧At s n' rest
 |none=>∃acc',∃n':Nat,iter bO F (acc,⟨s,(n:Int),false⟩)=some (.inr (acc',⟨s,((n':Nat):Int),true⟩))∧n'≤s.length:=by
 intro k
 induction k with
 |zero=>
  intro r acc n F hk h ha hF
  have hr:r=[]:=List.length_eq_zero_iff.1 (by omega)
  subst hr
  obtain ⟨G,rfl⟩:=cu hF
  have:=h.le;have:=h.sm
  refine ⟨acc,n,bS ?_,h.le⟩
  rw [P1 h (by decide) (by decide) (by omega),if_neg (by decide)]
 |succ k ih=>
  intro r acc n F hk h ha hF
  obtain ⟨G,rfl⟩:=cu (show 0<F by omega)
  have h1:=h.le;have h2:=h.sm
  match r,hk,h,hF with
  |[],hk,h,hF=>exact ⟨acc,n,bS (by rw [P1 h (by decide) (by decide) (by omega),if_neg (by decide)]),h.le⟩
  |c::r,hk,h,hF=>
   rw [vh]
   by_cases hc:c=34
   · subst hc
     rw [if_pos rfl]
     exact ⟨n+1,by rw [bS (acP h)];simp,h.next⟩
   · rw [if_neg hc]
     by_cases hc2:c=92
     · subst hc2
       rw [if_pos rfl]
       have hst:=acQ (acc:=acc) h (by omega)
       match r,hk,h,hF,hst with
       |[],hk,h,hF,hst=>exact ⟨acc,n+1,bS (by rw [hst,if_neg (by decide)]),h.next.le⟩
       |d::r',hk,h,hF,hst=>
        cases hv:eD d with
        |false=>simp only [hv,Bool.false_eq_true,if_false];exact ⟨acc,n+1,bS (hst.trans (if_neg (by show ¬eD d=true;rw [hv];decide))),h.next.le⟩
        |true=>
         simp only [if_true]
         have ym:=hst.trans (if_pos (show eD (nx (d::r'))=true from hv))
         have:=ih r' (acc++[d]) (n+2) G (by simp at hk;omega) h.next.next (by simp;omega) (by simp at hF;omega)
         rw [bX ym]
         cases hq:qL r' with
         |none=>rw [hq] at this;simp only [nx,hv,if_true,Option.map_none];exact this
         |some x=>
          obtain ⟨b,rest⟩:=x
          rw [hq] at this
          obtain ⟨n',h3,h4⟩:=this
          simp only [nx,hv,if_true,Option.map_some];exact ⟨n',by rw [h3];simp,h4⟩
     · rw [if_neg hc2]
       have hst:=P1 (acc:=acc) h (by simpa [nx] using hc) (by simpa [nx] using hc2) (by omega)
       cases hv:eD c with
       |false=>simp only [hv,Bool.false_eq_true,if_false];exact ⟨acc,n,bS (hst.trans (if_neg (by show ¬eD c=true;rw [hv];decide))),h.le⟩
       |true=>
        simp only [if_true]
        have ym:=hst.trans (if_pos (show eD (nx (c::r))=true from hv))
        have:=ih r (acc++[c]) (n+1) G (by simp at hk;omega) h.next (by simp;omega) (by simp at hF;omega)
        rw [bX ym]
        cases hq:qL r with
        |none=>rw [hq] at this;simp only [nx,hv,if_true,Option.map_none];exact this
        |some x=>
         obtain ⟨b,rest⟩:=x
         rw [hq] at this
         obtain ⟨n',h3,h4⟩:=this
         simp only [nx,hv,if_true,Option.map_some];exact ⟨n',by rw [h3];simp,h4⟩
def Out (s:List UInt8) (o:Option (List UInt8×aD)):Option (List UInt8×List UInt8)→Prop
 |some (b,rest)=>∃n',o=some (b,⟨s,((n':Nat):Int),false⟩)∧At s n' rest
 |none=>∃b n',o=some (b,⟨s,((n':Nat):Int),true⟩)∧n'≤s.length
def kD (r:List UInt8):Option (List UInt8×List UInt8):=
 if nx r=34 then (match qL (r.drop 1) with|some (b,rest)=>if b=[] then none else some (b,rest)|none=>none)
 else if gT (r.takeWhile iQ) then some (r.takeWhile iQ,r.dropWhile iQ) else none
def gK (r:List UInt8):Option (List UInt8×List UInt8):=if dX (r.takeWhile cq) then some (r.takeWhile cq,r.dropWhile cq) else none
theorem D5 {s r:List UInt8} {n F:Nat} (h:At s n r) (hF:s.length+1<F):Out s (b6 F ⟨s,(n:Int),false⟩) (gK r):=by
 rw [P0 h hF]
 unfold gK
 cases hs:dX (r.takeWhile cq) with
 |true=>exact ⟨_,rfl,h.skip _⟩
 |false=>exact ⟨_,_,rfl,(h.skip cq).le⟩
theorem P2 {s r:List UInt8} {n F:Nat} (h:At s n r) (hF:s.length+1<F):Out s (dN F ⟨s,(n:Int),false⟩) (kD r):=by
 have h1:=h.len;have h2:=h.sm
 unfold dN kD
 rw [nc h,Option.bind_some]
 by_cases hq:nx r=34
 · rw [if_pos (by simpa using hq),if_pos hq]
   cases r with
   |nil=>simp [nx] at hq
   |cons c r=>
    simp only [nx] at hq
    subst hq
    simp only [List.drop_succ_cons,List.drop_zero]
    unfold gJ
    rw [yI h]
    simp only [Option.bind_some]
    have:=KS (s:=s) r.length r [] (n+1) F (Nat.le_refl _) h.next (by simp) (by simp at h1;omega)
    cases hqr:qL r with
    |none=>
     rw [hqr] at this
     obtain ⟨acc,n',h3,h4⟩:=this
     rw [h3]
     simp only [Option.bind_some,eB,if_true]
     exact ⟨_,_,rfl,h4⟩
    |some x=>
     obtain ⟨b,rest⟩:=x
     rw [hqr] at this
     obtain ⟨n',h3,h4⟩:=this
     rw [h3]
     simp only [Option.bind_some,eB,Bool.false_eq_true,if_false,List.nil_append]
     by_cases hb:b=[]
     · subst hb
       exact ⟨_,n',rfl,h4.le⟩
     · rw [if_neg hb]
       refine ⟨n', ?_,h4⟩
       have:decide ((b.length:Int)=0)=false:=by simpa using hb
       rw [this]
 · rw [if_neg (by simpa using hq),if_neg hq,Option.bind_some]
   have h3:=pR iQ r
   rw [IP (q:=iQ) (s:=s) (by decide) (fun c n b=>by simp only [eM,Q1,Option.bind_some]) r n F h (by omega)]
   simp only [Option.bind_some]
   rw [we h,Option.bind_some]
   unfold eN
   simp only [Bool.false_eq_true,if_false]
   rw [IQ (by omega) (by omega)]
   simp only [Option.bind_some]
   cases hs:gT (r.takeWhile iQ) with
   |true=>exact ⟨_,rfl,h.skip _⟩
   |false=>exact ⟨_,_,rfl,(h.skip iQ).le⟩
theorem GN {s:List UInt8} {n F:Nat} (hn:n≤s.length) (hF:0<F):∃b,dN F ⟨s,(n:Int),true⟩=some (b,⟨s,(n:Int),true⟩):=by
 obtain ⟨G,rfl⟩:=cu hF
 unfold dN
 rw [vf,Option.bind_some,if_neg (by decide),Option.bind_some,bS (t:=⟨s,(n:Int),true⟩) (by simp only [eM,Q1,Option.bind_some];rfl)]
 simp only [Option.bind_some]
 rw [oe (Nat.le_refl _) hn,Option.bind_some]
 unfold eN
 exact ⟨_,rfl⟩
end Go.Proofs.cI
end
section
set_option maxRecDepth 100000
namespace Go.Proofs.cI
open Go Go.Am Go.Proofs
def zJ:Nat→List UInt8→Option (List UInt8)
 |0,_=>none
 |k+1,r=>if nx r=64 then (match gK (r.drop 1) with
   |none=>none
   |some (_,r2)=>if nx r2=44 then zJ k (r2.drop 1) else if nx r2=58 then some (r2.drop 1) else none) else none
def ng (r:List UInt8):Option (List UInt8):=if nx r=64 then zJ (r.length+1) r else some r
def XS (s:List UInt8) (o:Option aD):Option (List UInt8)→Prop
 |some rest=>∃n':Nat,o=some ⟨s,(n':Int),false⟩∧At s n' rest
 |none=>∃n':Nat,o=some ⟨s,(n':Int),true⟩∧n'≤s.length
theorem iy {r:List UInt8} {c:UInt8} (h:nx r=c) (hc:c≠0):∃t,r=c::t:=by
 cases r with
 |nil=>exact absurd h.symm hc
 |cons a t=>exact ⟨t,by rw [←h];rfl⟩
theorem TW {s r:List UInt8} {n:Nat} {c:UInt8} (h:At s n r) (hc:c≠0):XS s (bg ⟨s,(n:Int),false⟩ c) (if nx r=c then some (r.drop 1) else none):=by
 by_cases hn:nx r=c
 · obtain ⟨t,rfl⟩:=iy hn hc
   rw [if_pos hn]
   exact ⟨n+1,yI h,h.next⟩
 · rw [if_neg hn]
   exact ⟨n,Cj h hn,h.le⟩
theorem Ck {r b t:List UInt8} (h:gK r=some (b,t)):t.length≤r.length:=by
 unfold gK at h
 split at h
 · injection h with h;injection h with _ h;subst h;exact (List.dropWhile_suffix _).length_le
 · cases h
theorem acR {s:List UInt8} {n F:Nat} (hn:n≤s.length) (hF:s.length+1<F):bJ F (false,⟨s,(n:Int),true⟩)=some (.ret ⟨s,(n:Int),true⟩):=by
 simp only [bJ,cM]
 rw [vf]
 simp only [Option.bind_some]
 rw [if_neg (by decide)]
 simp only [Option.bind_some,Bool.not_false,if_true]
 rw [ju]
 simp only [Option.bind_some]
 rw [oE hn (by omega)]
 simp only [Option.bind_some]
 rw [v8 (by decide)]
 simp only [Option.bind_some,Bool.not_false,if_true]
 rw [ju]
 rfl
theorem M0 {s:List UInt8} {FF:Nat} (DG:s.length+1<FF):∀(k:Nat) (first:Bool) (r:List UInt8) (n F:Nat),At s n r→r.length<k→k≤F→(first=true→nx r=64)→
 ∃o:aD⊕aD,iter (bJ FF) F (first,⟨s,(n:Int),false⟩)=some o∧XS s (some (match o with| .inl x=>x| .inr x=>x)) (zJ k r):=by
 intro k
 induction k with
 |zero=>intro first r n F h hk;omega
 |succ k ih=>
  intro first r n F h hk hF aah
  obtain ⟨G,rfl⟩:=cu (show 0<F by omega)
  have GK:cM ⟨s,(n:Int),false⟩ first=some true:=by
   unfold cM
   rw [nc h,Option.bind_some]
   by_cases hx:nx r=64
   · rw [if_pos (by simpa using hx)]
   · rw [if_neg (by simpa using hx)]
     cases first with
     |false=>rfl
     |true=>exact absurd (aah rfl) hx
  have hb:bJ FF (first,⟨s,(n:Int),false⟩)=(bg ⟨s,(n:Int),false⟩ 64).bind fun r8=>(b6 FF r8).bind fun x=>(bM x.2 44).bind fun y=>if (!y.1)=true then (bg y.2 58).bind fun lB=>some (.ret lB) else some (.cv (false,y.2)):=by
   simp only [bJ]
   rw [GK]
   rfl
  simp only [zJ]
  by_cases hx:nx r=64
  · rw [if_pos hx]
    obtain ⟨t,rfl⟩:=iy hx (by decide)
    simp only [List.drop_succ_cons,List.drop_zero]
    rw [yI h] at hb
    simp only [Option.bind_some] at hb
    have hd:=D5 (F:=FF) h.next DG
    cases TX:gK t with
    |none=>
     rw [TX] at hd
     obtain ⟨b,n',h1,h2⟩:=hd
     rw [h1] at hb
     simp only [Option.bind_some] at hb
     rw [v8 (by decide)] at hb
     simp only [Option.bind_some,Bool.not_false,if_true] at hb
     rw [ju] at hb
     exact ⟨_,dm hb,n',rfl,h2⟩
    |some x=>
     obtain ⟨b,r2⟩:=x
     rw [TX] at hd
     obtain ⟨n',h1,h2⟩:=hd
     rw [h1] at hb
     simp only [Option.bind_some] at hb
     have hlen:=Ck TX
     by_cases M1:nx r2=44
     · obtain ⟨r3,rfl⟩:=iy M1 (by decide)
       simp only [if_pos M1,List.drop_succ_cons,List.drop_zero]
       rw [yl h2] at hb
       simp only [Option.bind_some,Bool.not_true,Bool.false_eq_true,if_false] at hb
       rw [bX hb]
       simp only [List.length_cons] at hk hlen
       exact ih false r3 (n'+1) G h2.next (by omega) (by omega) (fun h=>by cases h)
     · simp only [if_neg M1]
       rw [vg h2 M1] at hb
       simp only [Option.bind_some,Bool.not_false,if_true] at hb
       have hw:=TW (c:=58) h2 (by decide)
       generalize hg:(if nx r2=58 then some (r2.drop 1) else none)=g at hw
       cases g with
       |none=>obtain ⟨m,h3,h4⟩:=hw;rw [h3] at hb;exact ⟨_,dm hb,m,rfl,h4⟩
       |some rest=>obtain ⟨m,h3,h4⟩:=hw;rw [h3] at hb;exact ⟨_,dm hb,m,rfl,h4⟩
  · rw [if_neg hx]
    rw [Cj h hx] at hb
    simp only [Option.bind_some] at hb
    rw [oE h.le (by omega)] at hb
    simp only [Option.bind_some] at hb
    rw [v8 (by decide)] at hb
    simp only [Option.bind_some,Bool.not_false,if_true] at hb
    rw [ju] at hb
    exact ⟨_,dm hb,n,rfl,h.le⟩
theorem P3 {s r:List UInt8} {n F:Nat} (h:At s n r) (hF:s.length+1<F):XS s (dM F ⟨s,(n:Int),false⟩) (ng r):=by
 have:=h.len
 unfold dM ng
 by_cases hx:nx r=64
 · rw [if_pos hx]
   obtain ⟨o,h1,h2⟩:=M0 hF (r.length+1) true r n F h (by omega) (by omega) fun _=>hx
   rw [h1]
   cases o with
   |inl x=>exact h2
   |inr x=>exact h2
 · rw [if_neg hx]
   obtain ⟨G,rfl⟩:=cu (show 0<F by omega)
   have hb:bJ (G+1) (true,⟨s,(n:Int),false⟩)=some (.eC ⟨s,(n:Int),false⟩):=by
    simp only [bJ,cM]
    rw [nc h,Option.bind_some,if_neg (by simpa using hx)]
    rfl
   rw [bS hb]
   exact ⟨n,rfl,h⟩
theorem M3 {s:List UInt8} {n F:Nat} (hF:0<F):dM F ⟨s,(n:Int),true⟩=some ⟨s,(n:Int),true⟩:=by
 obtain ⟨G,rfl⟩:=cu hF
 unfold dM
 have hb:bJ (G+1) (true,⟨s,(n:Int),true⟩)=some (.eC ⟨s,(n:Int),true⟩):=by
  simp only [bJ,cM]
  rw [vf,Option.bind_some,if_neg (by decide)]
  rfl
 rw [bS hb]
 rfl
def zK (r:List UInt8):Option (ay×List UInt8):=
 match ng r with
 |none=>none
 |some r1=>match kD r1 with
  |none=>none
  |some (l,r2)=>if nx r2=64 then (match gK (r2.drop 1) with
   |none=>none
   |some (d,r3)=>if nx r3=62 then some (⟨l,d⟩,r3.drop 1) else none) else none
def KT (s:List UInt8):Option (ay×List UInt8):=
 if nx s=60 then (if nx (s.drop 1)=62 then some (⟨[],[]⟩,s.drop 2) else zK (s.drop 1)) else none
theorem acS {s r:List UInt8} {n F:Nat} (h:At s n r) (hF:s.length+1<F):
 match zK r with
 |some (a,rest)=>∃n':Nat,fT F false ⟨s,(n:Int),false⟩=some (⟨s,(n':Int),false⟩,a)∧At s n' rest
 |none=>∃a,∃n':Nat,fT F false ⟨s,(n:Int),false⟩=some (⟨s,(n':Int),true⟩,a)∧n'≤s.length:=by
 unfold fT
 simp only [Bool.not_false,if_true]
 have bad:∀(m:Nat) (l:List UInt8),m≤s.length→∃a,((bg ⟨s,(m:Int),true⟩ 64).bind fun e7=>(b6 F e7).bind fun x=>(bg x.2 62).bind fun gM=>some (gM,ay.mk l x.1))=some ((⟨s,(m:Int),true⟩:aD),a):=by
  intro m l hm
  rw [ju,Option.bind_some,oE hm (by omega),Option.bind_some]
  simp only
  rw [ju]
  exact ⟨_,rfl⟩
 unfold zK
 have hr:=P3 h hF
 cases hrl:ng r with
 |none=>
  rw [hrl] at hr
  obtain ⟨n1,h1,h2⟩:=hr
  rw [h1,Option.bind_some]
  obtain ⟨b,h3⟩:=GN (F:=F) h2 (by omega)
  rw [h3,Option.bind_some]
  obtain ⟨a,h4⟩:=bad n1 b h2
  exact ⟨a,n1,h4,h2⟩
 |some r1=>
  rw [hrl] at hr
  obtain ⟨n1,h1,h2⟩:=hr
  rw [h1,Option.bind_some]
  have hl:=P2 h2 hF
  cases vv:kD r1 with
  |none=>
   rw [vv] at hl
   obtain ⟨b,n2,h3,h4⟩:=hl
   rw [h3,Option.bind_some]
   obtain ⟨a,h5⟩:=bad n2 b h4
   simp only [vv]
   exact ⟨a,n2,h5,h4⟩
  |some x=>
   obtain ⟨l,r2⟩:=x
   rw [vv] at hl
   obtain ⟨n2,h3,h4⟩:=hl
   rw [h3,Option.bind_some]
   simp only [vv]
   by_cases Cm:nx r2=64
   · obtain ⟨t,rfl⟩:=iy Cm (by decide)
     rw [yI h4,Option.bind_some]
     simp only [if_pos Cm,List.drop_succ_cons,List.drop_zero]
     have hd:=D5 h4.next hF
     cases TX:gK t with
     |none=>
      rw [TX] at hd
      obtain ⟨b,n3,h5,h6⟩:=hd
      rw [h5,Option.bind_some]
      simp only
      rw [ju]
      exact ⟨_,n3,rfl,h6⟩
     |some y=>
      obtain ⟨d,r3⟩:=y
      rw [TX] at hd
      obtain ⟨n3,h5,h6⟩:=hd
      rw [h5,Option.bind_some]
      simp only
      by_cases wg:nx r3=62
      · obtain ⟨u,rfl⟩:=iy wg (by decide)
        rw [yI h6]
        simp only [if_pos wg,List.drop_succ_cons,List.drop_zero]
        exact ⟨_,rfl,h6.next⟩
      · rw [Cj h6 wg]
        simp only [if_neg wg]
        exact ⟨_,n3,rfl,h6.le⟩
   · rw [Cj h4 Cm,Option.bind_some]
     simp only [if_neg Cm]
     rw [oE h4.le (by omega),Option.bind_some]
     simp only
     rw [ju]
     exact ⟨_,n2,rfl,h4.le⟩
def esc (l:List UInt8):List UInt8:=l.flatMap fun c=>if c=34∨c=92 then [92,c] else [c]
def uh (a:ay):List UInt8:=if gT a.aC then 60::(a.aC++64::(a.domain++[62])) else 60::34::(esc a.aC++34::64::(a.domain++[62]))
def D6 (s:List UInt8):Bool:=s !=[]&&decide (s.length≤64)&&s.all eD
def kV (a:ay):Bool:=decide (a.aC=[])&&decide (a.domain=[])
def gU (a:ay):Bool:=kV a||(D6 a.aC&&jF a.domain&&decide ((uh a).length≤256))
theorem M4 (l:List UInt8):(esc l).length≤2*l.length:=by
 induction l with
 |nil=>simp [esc]
 |cons c l ih=>
  simp only [esc,List.flatMap_cons,List.length_append,List.length_cons] at ih ⊢
  split<;>simp only [List.length_cons,List.length_nil]<;>omega
theorem P4 {s:List UInt8} {F:Nat} (hl:s.length≤1000000) (hF:s.length<F):jP F s=some (s.all eD):=by
 unfold jP
 have hh:=scan (s:=s) (body:=eJ s) (mk:=fun i=>(false,(i:Int))) (p:=eD) (rr:=fun _=>false) (tt:=()) ?_ ?_ ?_ hF
 · cases ha:s.all eD with
   |true=>have:=hh.1 ha;rw [show ((0:Nat):Int)=0 from rfl] at this;rw [this];rfl
   |false=>obtain ⟨j,hj⟩:=hh.2 ha;rw [show ((0:Nat):Int)=0 from rfl] at hj;rw [hj];rfl
 · intro i x hx hp
   have hi:=(List.getElem?_eq_some_iff.1 hx).1
   simp only [eJ]
   rw [if_pos (by simpa using hi),bh hx,Option.bind_some,KR,Option.bind_some,hp,wi (by omega)];rfl
 · intro i x hx hp
   have hi:=(List.getElem?_eq_some_iff.1 hx).1
   simp only [eJ]
   rw [if_pos (by simpa using hi),bh hx,Option.bind_some,KR,Option.bind_some,hp];rfl
 · simp [eJ]
theorem XT {s:List UInt8} {F:Nat} (hF:s.length<F):ov F s=some (D6 s):=by
 unfold ov mH D6
 by_cases h:s=[]
 · subst h;rfl
 · by_cases h2:s.length≤64
   · rw [if_pos (by simpa using h),if_pos (by simp;omega),P4 (by omega) hF]
     simp [h,h2]
   · rw [if_pos (by simpa using h),if_neg (by simp;omega)]
     simp [h2]
theorem P5 {a:ay} (hl:a.aC.length≤80000):∀(r:List UInt8) (i F:Nat) (b:List UInt8),a.aC.drop i=r→i+r.length=a.aC.length→b.length≤2*i+1→r.length<F→
 iter (gL a) F (b,(i:Int))=some (.inr (b++esc r)):=by
 intro r
 induction r with
 |nil=>
  intro i F b hd hi hb hF
  obtain ⟨G,rfl⟩:=cu hF
  rw [bS (t:=b) (by simp only [gL];rw [if_neg (by simp at hi ⊢;omega)])]
  simp [esc]
 |cons c r ih=>
  intro i F b hd hi hb hF
  obtain ⟨G,rfl⟩:=cu (show 0<F by omega)
  obtain ⟨h1,h2,h3⟩:=drop_cons hd
  simp only [List.length_cons] at hi hF
  have hst:gL a (b,(i:Int))=some (.cv (b++(if c=34∨c=92 then [92,c] else [c]),((i+1:Nat):Int))):=by
   simp only [gL,oc]
   rw [if_pos (by simpa using h1),bh h2]
   simp only [Option.bind_some]
   by_cases KU:c=34
   · subst KU
     simp only [decide_true,if_true,Option.bind_some,true_or]
     rw [c6 (by simp;omega) (by omega),Option.bind_some,c6 (by simp;omega) (by omega),Option.bind_some,wi (by omega)]
     simp
   · by_cases P6:c=92
     · subst P6
       rw [if_neg (by decide)]
       simp only [decide_true,Option.bind_some,if_true,or_true]
       rw [c6 (by simp;omega) (by omega),Option.bind_some,c6 (by simp;omega) (by omega),Option.bind_some,wi (by omega)]
       simp
     · rw [if_neg (by simpa using KU)]
       simp only [Option.bind_some]
       rw [if_neg (by simpa using P6),c6 (by simp;omega) (by omega),Option.bind_some,wi (by omega),if_neg (by simp [KU,P6])]
  rw [bX hst,ih (i+1) G _ h3 (by omega) (by split<;>simp<;>omega) (by omega)]
  simp [esc]
theorem M5 {a:ay} {F:Nat} (hl:a.aC.length≤80000) (hd:a.domain.length≤80000) (hF:a.aC.length+1<F):nW F a=some (uh a):=by
 have he:=M4 a.aC
 unfold nW uh
 rw [IQ (by omega) hF,Option.bind_some]
 cases gT a.aC with
 |true=>
  simp only [Bool.not_true,Bool.false_eq_true,if_false,if_true]
  rw [iP (by simp;omega),Option.bind_some,iP (by simp;omega),Option.bind_some,iP (by simp;omega),Option.bind_some,iP (by simp;omega),Option.bind_some]
  simp
 |false=>
  simp only [Bool.not_false,if_true,Bool.false_eq_true,if_false]
  rw [show (([34]:List UInt8),(0:Int))=(([34]:List UInt8),((0:Nat):Int)) from rfl,P5 hl a.aC 0 F [34] (by simp) (by simp) (by simp) (by omega)]
  simp only [Option.bind_some]
  rw [c6 (by simp;omega) (by omega),Option.bind_some,iP (by simp;omega),Option.bind_some,iP (by simp;omega),Option.bind_some,iP (by simp;omega),Option.bind_some,iP (by simp;omega),Option.bind_some]
  simp
theorem DH {a:ay} {F:Nat} (hl:a.aC.length≤80000) (hd:a.domain.length≤80000) (hF:a.aC.length+a.domain.length+1<F):l8 F a=some (gU a):=by
 unfold l8 mJ nT gU
 simp only [Option.bind_some]
 cases hn:kV a with
 |true=>rw [kV] at hn;rw [hn];rfl
 |false=>
  rw [kV] at hn
  rw [hn]
  simp only [Bool.false_eq_true,if_false,Bool.false_or]
  rw [XT (by omega),Option.bind_some]
  cases hlb:D6 a.aC with
  |false=>rfl
  |true=>
   simp only [if_true,Bool.true_and]
   rw [acJ (by omega) (by omega),Option.bind_some]
   cases hdb:jF a.domain with
   |false=>rfl
   |true=>
    simp only [if_true,Bool.true_and]
    rw [M5 hl hd (by omega)]
    simp
    omega
theorem aai (a:ay):nT a=some (kV a):=rfl
def nh (s:List UInt8):ay×List UInt8×Int:=
 match KT s with
 |none=>(⟨[],[]⟩,[],3)
 |some (a,rest)=>if gU a then (a,rest,0) else (⟨[],[]⟩,[],5)
theorem At.zero {s:List UInt8} (h:s.length≤90000):At s 0 s:=⟨Nat.zero_le _,rfl,h⟩
theorem acT {s:List UInt8} {a:ay} {rest:List UInt8} {n:Nat} {t:List UInt8}:True:=trivial
end Go.Proofs.cI
end
section
set_option maxRecDepth 100000
namespace Go.Proofs.cI
open Go Go.Am Go.Proofs
theorem aaj:∀(k:Nat) (r b rest:List UInt8),r.length≤k→qL r=some (b,rest)→b.length+rest.length≤r.length:=by
 intro k
 induction k with
 |zero=>
  intro r b rest hk h
  have hr:r=[]:=List.length_eq_zero_iff.1 (by omega)
  subst hr;cases h
 |succ k ih=>
  intro r b rest hk h
  match r,hk,h with
  |[],hk,h=>cases h
  |c::r,hk,h=>
   rw [vh] at h
   simp only [List.length_cons] at hk ⊢
   split at h
   · injection h with h;injection h with h1 h2;subst h1 h2;simp
   · split at h
     · match r,hk,h with
       |[],hk,h=>cases h
       |d::r',hk,h=>
        simp only at h
        split at h
        · simp only [Option.map_eq_some_iff] at h
          obtain ⟨⟨b',rest'⟩,h1,h2⟩:=h
          injection h2 with h2 h3
          subst h2 h3
          have:=ih r' b' rest' (by simp at hk;omega) h1
          simp;omega
        · cases h
     · split at h
       · simp only [Option.map_eq_some_iff] at h
         obtain ⟨⟨b',rest'⟩,h1,h2⟩:=h
         injection h2 with h2 h3
         subst h2 h3
         have:=ih r b' rest' (by omega) h1
         simp;omega
       · cases h
theorem aak (q:UInt8→Bool) (r:List UInt8):(r.dropWhile q).length≤r.length:=(List.dropWhile_suffix q).length_le
theorem D7 {r b t:List UInt8} (h:kD r=some (b,t)):b.length≤r.length∧t.length≤r.length:=by
 unfold kD at h
 split at h
 · split at h
   · rename_i b' rest' hq
     have:=aaj _ _ _ _ (Nat.le_refl _) hq
     have hd:(r.drop 1).length≤r.length:=by simp
     split at h
     · cases h
     · injection h with h;injection h with h1 h2;subst h1 h2;omega
   · cases h
 · split at h
   · injection h with h;injection h with h1 h2;subst h1 h2
     exact ⟨pR _ _,aak _ _⟩
   · cases h
theorem Ic {r b t:List UInt8} (h:gK r=some (b,t)):b.length≤r.length:=by
 unfold gK at h
 split at h
 · injection h with h;injection h with h1 _;subst h1;exact pR _ _
 · cases h
theorem TY:∀(k:Nat) (r r':List UInt8),zJ k r=some r'→r'.length≤r.length:=by
 intro k
 induction k with
 |zero=>intro r r' h;cases h
 |succ k ih=>
  intro r r' h
  simp only [zJ] at h
  split at h
  · split at h
    · cases h
    · rename_i b r2 hd
      have h1:=Ck hd
      have h2:(r.drop 1).length≤r.length:=by simp
      have h3:(r2.drop 1).length≤r2.length:=by simp
      split at h
      · have:=ih _ _ h;omega
      · split at h
        · injection h with h;subst h;omega
        · cases h
  · cases h
theorem D8 {r r':List UInt8} (h:ng r=some r'):r'.length≤r.length:=by
 unfold ng at h
 split at h
 · exact TY _ _ _ h
 · injection h with h;subst h;exact Nat.le_refl _
theorem TZ {r rest:List UInt8} {a:ay} (h:zK r=some (a,rest)):a.aC.length≤r.length∧a.domain.length≤r.length:=by
 unfold zK at h
 split at h
 · cases h
 · rename_i r1 hr
   have h1:=D8 hr
   split at h
   · cases h
   · rename_i l r2 hl
     have h2:=D7 hl
     split at h
     · split at h
       · cases h
       · rename_i d r3 hd
         have h3:=Ic hd
         have h4:(r2.drop 1).length≤r2.length:=by simp
         split at h
         · injection h with h;injection h with h5 _;subst h5;simp only;omega
         · cases h
     · cases h
theorem XU {s:List UInt8} {F:Nat} (hs:s.length≤40000) (hF:2*s.length+10<F):qG F s=some (nh s):=by
 have hz:=At.zero (s:=s) (by omega)
 have P7:gU ⟨[],[]⟩=true:=by simp [gU,kV]
 unfold qG nh KT
 rw [show (aD.mk s 0 false)=⟨s,((0:Nat):Int),false⟩ from rfl]
 by_cases Ie:nx s=60
 · obtain ⟨r,rfl⟩:=iy Ie (by decide)
   rw [yI hz,Option.bind_some,if_pos Ie]
   simp only [List.drop_succ_cons,List.drop_zero]
   have h1:=hz.next
   by_cases wg:nx r=62
   · obtain ⟨t,rfl⟩:=iy wg (by decide)
     rw [yl h1,if_pos wg]
     simp only [Option.bind_some,fT,Bool.not_true,Bool.false_eq_true,if_false]
     rw [DH (a:=⟨[],[]⟩) (by simp) (by simp) (by simp;omega),P7]
     simp only [Option.bind_some,Bool.not_true,Bool.false_eq_true,if_false,lH]
     rw [iw h1.next.le]
     simp
   · rw [vg h1 wg,if_neg wg]
     simp only [Option.bind_some]
     have hp:=acS (F:=F) h1 (by omega)
     cases hb:zK r with
     |none=>
      rw [hb] at hp
      obtain ⟨a,n',h2,h3⟩:=hp
      rw [h2]
      rfl
     |some x=>
      obtain ⟨a,rest⟩:=x
      rw [hb] at hp
      obtain ⟨n',h2,h3⟩:=hp
      obtain ⟨hl1,Ec⟩:=TZ hb
      simp only [List.length_cons] at hs hF
      rw [h2]
      simp only [Option.bind_some,Bool.false_eq_true,if_false]
      rw [DH (by omega) (by omega) (by omega),Option.bind_some]
      cases hr:gU a with
      |false=>simp
      |true=>
       simp only [Bool.not_true,Bool.false_eq_true,if_false,lH,if_true]
       rw [iw h3.le,h3.dr]
       rfl
 · rw [Cj hz Ie,Option.bind_some,if_neg Ie,v8 (by decide)]
   simp only [Option.bind_some,fT,Bool.not_false,if_true]
   rw [M3 (by omega),Option.bind_some]
   obtain ⟨b,h3⟩:=GN (s:=s) (n:=0) (F:=F) (Nat.zero_le _) (by omega)
   rw [h3]
   simp only [Option.bind_some]
   rw [ju,Option.bind_some,oE (Nat.zero_le _) (by omega)]
   simp only [Option.bind_some]
   rw [ju]
   simp
def pS (s:List UInt8):ay×Int:=if (nh s).2.2=0∧(nh s).2.1≠[] then (⟨[],[]⟩,3) else ((nh s).1,(nh s).2.2)
theorem T0 {s:List UInt8} {F:Nat} (hs:s.length≤40000) (hF:2*s.length+10<F):oA F s=some (pS s):=by
 unfold oA pS
 rw [XU hs hF,Option.bind_some]
 simp only
 by_cases h:(nh s).2.2=0∧(nh s).2.1≠[]
 · rw [if_pos (by simpa using h),if_pos h]
 · rw [if_neg (by simpa using h),if_neg h]
theorem Q2 {q:UInt8→Bool} {l:List UInt8} {x:UInt8} (hx:q x=false) (h:∀c∈l,q c=true) (t:List UInt8):(l++x::t).takeWhile q=l∧(l++x::t).dropWhile q=x::t:=by
 induction l with
 |nil=>simp [hx]
 |cons c l ih=>
  obtain ⟨h1,h2⟩:=ih fun y hy=>h y (by simp [hy])
  have:=h c (by simp)
  simp [this,h1,h2]
theorem GO (c:UInt8):eP c=true→iQ c=true∧c≠62∧c≠64∧c≠34:=by
 have:=kC (p:=fun c=> !eP c||(iQ c&&c !=62&&c !=64&&c !=34)) (by kernel_rfl) c
 intro h
 rw [h] at this
 simp at this
 exact ⟨this.1.1.1,this.1.1.2,this.1.2,this.2⟩
theorem P8 {l:List UInt8} (h:gT l=true):∀c∈l,iQ c=true:=by
 intro c hc
 rcases AI l c hc with rfl|⟨p,hp,j6⟩
 · decide
 · have:=List.all_eq_true.1 h p hp
   simp only [Bool.and_eq_true] at this
   exact (GO c (List.all_eq_true.1 this.2 c j6)).1
theorem M6 {l:List UInt8} (h:gT l=true):∃c t,l=c::t∧eP c=true:=by
 cases l with
 |nil=>simp [gT,aR] at h
 |cons c t=>
  refine ⟨c,t,rfl, ?_⟩
  unfold gT at h
  simp only [aR] at h
  by_cases hc:c=46
  · rw [if_pos hc] at h;simp at h
  · rw [if_neg hc] at h
    cases hs:aR t with
    |nil=>exact absurd hs (gP t)
    |cons x y=>rw [hs] at h;simp at h;exact h.1.1
theorem XV (c:UInt8):(yh c=true→cq c=true)∧(rV c=true→cq c=true):=by
 have:=kC (p:=fun c=>(!yh c||cq c)&&(!rV c||cq c)) (by kernel_rfl) c
 simp at this
 exact ⟨fun h=>by simpa [h] using this.1,fun h=>by simpa [h] using this.2⟩
theorem P9 {l:List UInt8} {x:UInt8} (h:l.getLast?=some x):l.dropLast++[x]=l:=by
 have hne:l≠[]:=by intro h0;subst h0;cases h
 have h2:=List.dropLast_concat_getLast hne
 rw [List.getLast?_eq_some_getLast hne] at h
 injection h with h
 rw [←h];exact h2
theorem M7 {d:List UInt8} (h:oR d=true):d=91::(inner d++[93]):=by
 simp only [oR,Bool.and_eq_true,decide_eq_true_eq,beq_iff_eq] at h
 cases d with
 |nil=>simp at h
 |cons c r=>
  obtain ⟨⟨h1,h2⟩,h3⟩:=h
  simp at h2
  subst h2
  cases r with
  |nil=>simp at h1
  |cons a t=>
   rw [List.getLast?_cons_cons] at h3
   simp only [inner,List.drop_succ_cons,List.drop_zero]
   rw [P9 h3]
theorem Qa {d:List UInt8} (h:jF d=true):∀c∈d,cq c=true:=by
 intro c hc
 simp only [jF,Bool.and_eq_true] at h
 have hs:=h.1.2
 unfold dX at hs
 by_cases hi:oR d=true
 · rw [if_pos hi] at hs
   simp only [Bool.and_eq_true] at hs
   rw [M7 hi] at hc
   rcases List.mem_cons.1 hc with rfl|hc
   · decide
   · rcases List.mem_append.1 hc with hc|hc
     · rcases AI _ c hc with rfl|⟨p,hp,j6⟩
       · decide
       · exact (XV c).2 (List.all_eq_true.1 (q9 (List.all_eq_true.1 hs.2 p hp)).2.1 c j6)
     · simp at hc;subst hc;decide
 · rw [if_neg hi] at hs
   rcases AI _ c hc with rfl|⟨p,hp,j6⟩
   · decide
   · have:=List.all_eq_true.1 hs p hp
     simp only [gy,Bool.and_eq_true] at this
     exact (XV c).1 (List.all_eq_true.1 this.2 c j6)
theorem Cn {d:List UInt8} (h:jF d=true) {x:UInt8} (hx:cq x=false) (t:List UInt8):gK (d++x::t)=some (d,x::t):=by
 obtain ⟨h1,h2⟩:=Q2 hx (Qa h) t
 unfold gK
 rw [h1,h2,if_pos]
 simp only [jF,Bool.and_eq_true] at h
 exact h.1.2
theorem aal {l:List UInt8} (h:l.all eD=true) (rest:List UInt8):qL (esc l++34::rest)=some (l,rest):=by
 induction l with
 |nil=>simp [esc,vh]
 |cons c l ih=>
  simp only [List.all_cons,Bool.and_eq_true] at h
  have ih:=ih h.2
  simp only [esc,List.flatMap_cons,List.append_assoc] at ih ⊢
  by_cases hc:c=34∨c=92
  · rw [if_pos hc]
    simp only [List.cons_append,List.nil_append]
    rw [vh,if_neg (by decide),if_pos rfl]
    simp only [h.1,if_true,ih,Option.map_some]
  · rw [if_neg hc]
    simp only [List.cons_append,List.nil_append]
    rw [vh,if_neg fun h=>hc (.inl h),if_neg fun h=>hc (.inr h)]
    simp only [h.1,if_true,ih,Option.map_some]
theorem T3 {a:ay} (hn:kV a=false) (h:gU a=true) (more:List UInt8):∃r,uh a=60::r∧nx r≠62∧nx r≠64∧(∀r',ng r'=some (r++more)→zK r'=some (a,more)):=by
 simp only [gU,hn,Bool.false_or,Bool.and_eq_true] at h
 obtain ⟨⟨hl,hd⟩, -⟩:=h
 simp only [D6,Bool.and_eq_true] at hl
 unfold uh
 cases hp:gT a.aC with
 |true=>
  obtain ⟨c,t,ht,hc⟩:=M6 hp
  obtain ⟨-,wg,Cm,KU⟩:=GO c hc
  refine ⟨a.aC++64::(a.domain++[62]),by simp, ?_, ?_, ?_⟩
  · rw [ht];simpa [nx] using wg
  · rw [ht];simpa [nx] using Cm
  · intro r' hr'
    have e:(a.aC++64::(a.domain++[62]))++more=a.aC++64::(a.domain++62::more):=by simp
    obtain ⟨h1,h2⟩:=Q2 (q:=iQ) (x:=64) (by decide) (P8 hp) (a.domain++62::more)
    unfold zK
    rw [hr',e]
    have XW:kD (a.aC++64::(a.domain++62::more))=some (a.aC,64::(a.domain++62::more)):=by
     unfold kD
     rw [if_neg (by rw [ht];simpa [nx] using KU),h1,h2,if_pos hp]
    simp only [XW]
    rw [if_pos (show nx (64::(a.domain++62::more))=64 from rfl)]
    simp only [List.drop_succ_cons,List.drop_zero]
    rw [Cn hd (by decide)]
    rfl
 |false=>
  refine ⟨34::(esc a.aC++34::64::(a.domain++[62])),by simp,by simp [nx],by simp [nx], ?_⟩
  intro r' hr'
  have e:(34::(esc a.aC++34::64::(a.domain++[62])))++more=34::(esc a.aC++34::64::(a.domain++62::more)):=by simp
  unfold zK
  rw [hr',e]
  have XW:kD (34::(esc a.aC++34::64::(a.domain++62::more)))=some (a.aC,64::(a.domain++62::more)):=by
   unfold kD
   rw [if_pos (show nx (34::(esc a.aC++34::64::(a.domain++62::more)))=34 from rfl)]
   simp only [List.drop_succ_cons,List.drop_zero]
   rw [aal hl.2]
   simp only
   rw [if_neg (by simpa using hl.1.1)]
  simp only [XW]
  rw [if_pos (show nx (64::(a.domain++62::more))=64 from rfl)]
  simp only [List.drop_succ_cons,List.drop_zero]
  rw [Cn hd (by decide)]
  rfl
theorem acU {a:ay} (hn:kV a=false) (h:gU a=true) (more:List UInt8):nh (uh a++more)=(a,more,0):=by
 obtain ⟨r,hr,wg,Cm,hb⟩:=T3 hn h more
 have aeY:r≠[]:=by
  intro hr0
  subst hr0
  unfold uh at hr
  split at hr
  · injection hr with _ hr;simp at hr
  · injection hr with _ hr;simp at hr
 have hnx:nx (r++more)=nx r:=by
  cases r with
  |nil=>exact absurd rfl aeY
  |cons=>rfl
 unfold nh KT
 rw [hr,List.cons_append,if_pos (show nx (60::(r++more))=60 from rfl)]
 simp only [List.drop_succ_cons,List.drop_zero]
 rw [if_neg (by rw [hnx];exact wg),hb (r++more) (by unfold ng;rw [if_neg (by rw [hnx];exact Cm)])]
 simp only
 rw [if_pos h]
theorem adh {a:ay} {F:Nat} (hl:a.aC.length≤40000) (hd:a.domain.length≤40000) (hF:a.aC.length+a.domain.length+1<F):l9 F a=some (if kV a then [60,62] else if gU a then uh a else []):=by
 unfold l9
 rw [aai,Option.bind_some]
 cases kV a with
 |true=>rfl
 |false=>
  simp only [Bool.false_eq_true,if_false]
  rw [DH (by omega) (by omega) hF,Option.bind_some]
  cases gU a with
  |false=>rfl
  |true=>
   simp only [Bool.not_true,Bool.false_eq_true,if_false,if_true]
   rw [M5 (by omega) (by omega) (by omega)]
   rfl
end Go.Proofs.cI
end
section
set_option maxRecDepth 100000
namespace Go.Proofs.cI
open Go Go.Am Go.Proofs
theorem Qb (n:Nat):(List.range 256).all (fun m=>decide (iO (n+30) (UInt8.ofNat m)=some (eP (UInt8.ofNat m))))=true:=by kernel_rfl
theorem M8 {F:Nat} (hF:30≤F) (c:UInt8):iO F c=some (eP c):=by
 obtain ⟨n,rfl⟩:∃n,F=n+30:=⟨F - 30,by omega⟩
 have:=kC (p:=fun c=>decide (iO (n+30) c=some (eP c))) (Qb n) c
 simpa using this
def pr:Bool→List UInt8→Bool
 |_,[]=>true
 |p,c::r=>(if c=46 then p&&decide (r≠[]) else eP c)&&pr (decide (c≠46)) r
theorem M9 {F:Nat} {s:List UInt8} (hs:s.length≤90000) (DG:30≤F):∀(r:List UInt8) (i G:Nat) (p:Bool),s.drop i=r→i+r.length=s.length→r.length<G→
 (if 0<i then ∃x,s[i - 1]? =some x∧p= !decide (x=46) else p=false)→iter (fF F s) G (i:Int)=some (if pr p r then .inr () else .inl false):=by
 intro r
 induction r with
 |nil=>
  intro i G p hd hi hG hp
  obtain ⟨G,rfl⟩:=cu hG
  rw [bS (t:=()) (by simp only [fF];rw [if_neg (by simp at hi ⊢;omega)])]
  rfl
 |cons c r ih=>
  intro i G p hd hi hG hp
  obtain ⟨G,rfl⟩:=cu (show 0<G by omega)
  obtain ⟨h1,h2,h3⟩:=drop_cons hd
  simp only [List.length_cons] at hi hG
  have GK:jd s (i:Int)=some (decide (c=46)&&p&&decide (r≠[])):=by
   unfold jd
   rw [bh h2,Option.bind_some]
   by_cases hc:c=46
   · rw [if_pos (by simpa using hc)]
     by_cases h0:0<i
     · rw [if_pos h0] at hp
       obtain ⟨x,hx,hpx⟩:=hp
       rw [if_pos (by simpa using h0),wi (by omega)]
       by_cases hr:r=[]
       · rw [if_neg (by subst hr;simp at hi ⊢;omega)];simp [hr]
       · rw [if_pos (by have:0<r.length:=List.length_pos_iff.2 hr
                        simp;omega),wr (by omega) (by omega),show (i:Int) - 1=((i - 1:Nat):Int) by omega,bh hx,Option.bind_some,hpx]
         simp [hc,hr]
     · rw [if_neg h0] at hp
       rw [if_neg (by simpa using h0),hp];simp
   · rw [if_neg (by simpa using hc)];simp [hc]
  have hst:fF F s (i:Int)=if (if c=46 then p&&decide (r≠[]) else eP c)=true then some (.cv ((i+1:Nat):Int)) else some (.ret false):=by
   simp only [fF]
   rw [if_pos (by simpa using h1),GK,Option.bind_some]
   unfold lP
   rw [bh h2]
   simp only [Option.bind_some,M8 DG]
   by_cases hc:c=46
   · have h46:eP c=false:=by subst hc;decide
     simp only [hc,decide_true,Bool.true_and,if_true]
     subst hc
     cases hpp:(p&&decide (r≠[])) with
     |true=>simp only [Bool.not_true,Bool.false_eq_true,if_false,Option.bind_some,if_true];rw [wi (by omega)]
     |false=>simp only [Bool.not_false,if_true,Option.bind_some,h46,Bool.false_eq_true,if_false]
   · simp only [hc,decide_false,Bool.false_and,Bool.not_false,if_true,if_false,Option.bind_some]
     cases eP c with
     |true=>simp only [Bool.not_true,Bool.false_eq_true,if_false,if_true];rw [wi (by omega)]
     |false=>simp
  have hpr:pr p (c::r)=((if c=46 then p&&decide (r≠[]) else eP c)&&pr (decide (c≠46)) r):=rfl
  rw [hpr]
  obtain ⟨q,hq⟩:∃q,q=(if c=46 then p&&decide (r≠[]) else eP c):=⟨_,rfl⟩
  rw [←hq] at hst ⊢
  cases q with
  |false=>
   have ym:=hst.trans (if_neg (by decide))
   rw [dm ym]
   simp
  |true=>
   have ym:=hst.trans (if_pos rfl)
   rw [bX ym,ih (i+1) G (decide (c≠46)) h3 (by omega) (by omega) (by rw [if_pos (by omega)];exact ⟨c,by simpa using h2,by simp⟩)]
   simp
theorem T4:∀(r:List UInt8) (p:Bool),r≠[]→pr p r=match aR r with|[]=>false|h::t=>h.all eP&&(p||h !=[])&&t.all fun q=>q !=[]&&q.all eP:=by
 intro r
 induction r with
 |nil=>intro p h;exact absurd rfl h
 |cons c r ih=>
  intro p _
  simp only [pr,aR]
  by_cases hc:c=46
  · simp only [if_pos hc]
    by_cases hr:r=[]
    · subst hr;simp [aR]
    · have h2:=ih false hr
      have hd:decide (c≠46)=false:=by simpa using hc
      rw [hd,h2]
      cases hs:aR r with
      |nil=>exact absurd hs (gP r)
      |cons h t=>
       simp only [hr,ne_eq,not_false_eq_true,decide_true,Bool.and_true,List.all_nil,Bool.true_and,List.all_cons,Bool.false_or]
       cases p<;>cases h.all eP<;>cases (h !=[])<;>simp
  · simp only [if_neg hc]
    have hd:decide (c≠46)=true:=by simpa using hc
    rw [hd]
    by_cases hr:r=[]
    · subst hr;simp [aR,pr]
    · rw [ih true hr]
      cases hs:aR r with
      |nil=>exact absurd hs (gP r)
      |cons h t=>
       simp only [List.all_cons,Bool.true_or,Bool.and_true]
       have:(c::h !=[])=true:=rfl
       rw [this]
       cases eP c<;>cases p<;>simp
theorem Na {F:Nat} {s:List UInt8} (hs:s.length≤80000) (hF:s.length+30<F):kB F s=some (gT s):=by
 unfold kB
 rw [show (0:Int)=((0:Nat):Int) from rfl,M9 (by omega) (by omega) s 0 F false rfl (by simp) (by omega) (by simp)]
 simp only [Option.bind_some]
 by_cases h:s=[]
 · subst h;simp [pr,gT,aR]
 · rw [T4 s false h]
   unfold gT
   cases hsp:aR s with
   |nil=>exact absurd hsp (gP s)
   |cons a t=>
    simp only [Bool.false_or,List.all_cons]
    cases h1:a.all eP<;>cases h2:(a !=[])<;>cases h3:(t.all fun q=>q !=[]&&q.all eP)<;>simp [h]
theorem Qc (x:UInt8):(if decide (x<32)=true then some true else some (decide (126<x)))=some (!eD x):=by
 have:=kC (p:=fun x=>decide ((if decide (x<32)=true then some true else some (decide (126<x)))=some (!eD x))) (by kernel_rfl) x
 exact of_decide_eq_true this
theorem XX {s:List UInt8} {F:Nat} (hF:65<F):mW F s=some (D6 s):=by
 unfold mW D6
 by_cases h:s=[]
 · subst h;rfl
 · by_cases h2:64<s.length
   · rw [if_pos (by simp;omega),decide_eq_false (by omega)];simp
   · rw [if_neg (by simp [h];omega),decide_eq_true (by omega)]
     have hh:=scan (s:=s) (F:=F) (body:=fG s) (mk:=fun i=>(i:Int)) (p:=eD) (rr:=fun _=>false) (tt:=()) ?_ ?_ ?_ (by omega)
     · cases ha:s.all eD with
       |true=>have:=hh.1 ha;rw [show ((0:Nat):Int)=0 from rfl] at this;rw [this];simp [h]
       |false=>obtain ⟨j,hj⟩:=hh.2 ha;rw [show ((0:Nat):Int)=0 from rfl] at hj;rw [hj];simp
     · intro i x hx hp
       have hi:=(List.getElem?_eq_some_iff.1 hx).1
       simp only [fG,je]
       rw [if_pos (by simpa using hi),bh hx,Option.bind_some,Qc,Option.bind_some,hp,wi (by omega)];rfl
     · intro i x hx hp
       have hi:=(List.getElem?_eq_some_iff.1 hx).1
       simp only [fG,je]
       rw [if_pos (by simpa using hi),bh hx,Option.bind_some,Qc,Option.bind_some,hp];rfl
     · simp [fG]
theorem Q3 {s:List UInt8} {F:Nat} (hF:99010<F):fm F s=some (jF s):=by
 by_cases h:s.length≤99000
 · exact acO h (by omega)
 · unfold fm jF
   rw [if_pos (by simp;omega),decide_eq_false (by omega)]
   rfl
theorem Qd {a:ay} (hl:a.aC.length≤80000):∀(r:List UInt8) (i F:Nat) (b:List UInt8),a.aC.drop i=r→i+r.length=a.aC.length→b.length≤2*i+2→r.length<F→
 iter (gi a) F (b,(i:Int))=some (.inr (b++esc r)):=by
 intro r
 induction r with
 |nil=>
  intro i F b hd hi hb hF
  obtain ⟨G,rfl⟩:=cu hF
  rw [bS (t:=b) (by simp only [gi];rw [if_neg (by simp at hi ⊢;omega)])]
  simp [esc]
 |cons c r ih=>
  intro i F b hd hi hb hF
  obtain ⟨G,rfl⟩:=cu (show 0<F by omega)
  obtain ⟨h1,h2,h3⟩:=drop_cons hd
  simp only [List.length_cons] at hi hF
  have hst:gi a (b,(i:Int))=some (.cv (b++(if c=34∨c=92 then [92,c] else [c]),((i+1:Nat):Int))):=by
   simp only [gi,mX]
   rw [if_pos (by simpa using h1),bh h2]
   simp only [Option.bind_some]
   by_cases KU:c=34
   · subst KU
     simp only [decide_true,if_true,Option.bind_some,true_or]
     rw [c6 (by simp;omega) (by omega),Option.bind_some,c6 (by simp;omega) (by omega),Option.bind_some,wi (by omega)]
     simp
   · by_cases P6:c=92
     · subst P6
       rw [if_neg (by decide)]
       simp only [decide_true,Option.bind_some,if_true,or_true]
       rw [c6 (by simp;omega) (by omega),Option.bind_some,c6 (by simp;omega) (by omega),Option.bind_some,wi (by omega)]
       simp
     · rw [if_neg (by simpa using KU)]
       simp only [Option.bind_some]
       rw [if_neg (by simpa using P6),c6 (by simp;omega) (by omega),Option.bind_some,wi (by omega),if_neg (by simp [KU,P6])]
  rw [bX hst,ih (i+1) G _ h3 (by omega) (by split<;>simp<;>omega) (by omega)]
  simp [esc]
theorem aam {a:ay} {F:Nat} (hn:kV a=false) (hl:a.aC.length≤80000) (hd:a.domain.length≤80000) (hF:a.aC.length+30<F):oD F a=some (uh a):=by
 have he:=M4 a.aC
 unfold oD uh
 rw [kV] at hn
 rw [hn,Na hl hF]
 simp only [Bool.false_eq_true,if_false,Option.bind_some]
 cases gT a.aC with
 |true=>
  simp only [if_true]
  rw [iP (by simp;omega),Option.bind_some,iP (by simp;omega),Option.bind_some,iP (by simp;omega),Option.bind_some,iP (by simp;omega),Option.bind_some]
  simp
 |false=>
  simp only [Bool.false_eq_true,if_false]
  rw [show (([60,34]:List UInt8),(0:Int))=(([60,34]:List UInt8),((0:Nat):Int)) from rfl,Qd hl a.aC 0 F [60,34] (by simp) (by simp) (by simp) (by omega)]
  simp only [Option.bind_some]
  try unfold mY
  rw [c6 (by simp;omega) (by omega),Option.bind_some,iP (by simp;omega),Option.bind_some,iP (by simp;omega),Option.bind_some,iP (by simp;omega),Option.bind_some]
  simp
theorem XY {a:ay} {F:Nat} (hl:a.aC.length≤80000) (hd:a.domain.length≤80000) (hF:99010<F):mZ F a=some (gU a):=by
 unfold mZ lQ gU
 cases hn:kV a with
 |true=>rw [kV] at hn;rw [hn];rfl
 |false=>
  have hn':=hn
  rw [kV] at hn
  rw [hn]
  simp only [Bool.false_eq_true,if_false,Bool.false_or]
  rw [XX (by omega),Option.bind_some]
  cases hlb:D6 a.aC with
  |false=>rfl
  |true=>
   simp only [if_true,Bool.true_and]
   rw [Q3 hF,Option.bind_some]
   cases hdb:jF a.domain with
   |false=>rfl
   |true=>
    simp only [if_true,Bool.true_and]
    rw [aam hn' hl hd (by omega)]
    simp
    omega
end Go.Proofs.cI
end
