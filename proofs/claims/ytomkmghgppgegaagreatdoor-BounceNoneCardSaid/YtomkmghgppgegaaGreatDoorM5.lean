import Derived.Test.YtomkmghgppgegaaGreatDoorM4
set_option linter.unusedSimpArgs false
set_option linter.unusedVariables false
set_option linter.unusedSectionVars false
set_option linter.defProp false
section
set_option maxRecDepth 100000
namespace Go.Proofs.cD
open Go Go.Am Go.Proofs
open Nat renaming reduceEqDiff→nA,reduceLT→nB,reduceLeDiff→nC,reduceAdd→nD,reduceSub→nE,reduceMul→nF,reduceBEq→nG
set_option maxHeartbeats 2000000
abbrev pI:av:=(.rg [(aj 18 (.ld (.t 6) (some 6))),(aj 19 (.call (.c (.fn 16 [])) [(.t 18)])),(au 20 19),(az 21 (.mv (.t 2)) 20 false),(az 22 (.len (.t 21)) 20 false),(az 23 (.bin .eql (.t 22) (.c (.int .i64 0))) 20 false),(aj 24 (.pick (.t 20) (.c (.bool true)) (.t 23))),(au 25 24),(az 26 (.mv (.t 0)) 25 false),(az 27 (.call (.c (.fn 31 [])) [(.t 26)]) 25 false),(az 28 (.un .not (.t 27)) 25 false),(aj 29 (.pick (.t 25) (.c (.bool true)) (.t 28)))])
abbrev pJ:av:=(.rg [(au 71 16),(aj 72 (.bin .lss (.t 71) (.c (.int .i64 0)))),(au 73 72),(az 74 (.mv (.t 16)) 73 false),(az 75 (.bO (.t 6) 5) 73 false),(az 76 (.ld (.t 75) none) 73 false),(az 77 (.len (.t 76)) 73 false),(az 78 (.bin .geq (.t 74) (.t 77)) 73 false),(aj 79 (.pick (.t 73) (.c (.bool true)) (.t 78)))])
abbrev pK:av:=(.rg [(au 85 14),(aj 86 (.bO (.t 17) 0)),(aj 87 (.AP (.t 86) (some 2))),(aj 90 (.bO (.t 17) 5)),(aj 91 (.AP (.t 90) none)),(aj 94 (.bO (.t 17) 5)),(aj 95 (.AP (.t 94) none)),(aj 99 (.bO (.t 17) 6)),(aj 100 (.AP (.t 99) none)),(aj 88 (.call (.c (.fn 36 [])) [(.t 87)])),(aj 89 (.bin .add (.c (.str [70,105,110,97,108,45,82,101,99,105,112,105,101,110,116,58,32,114,102,99,56,50,50,59,32])) (.t 88))),(aj 92 (.call (.c (.fn 19 [])) [(.t 91)])),(aj 93 (.bin .add (.c (.str [83,116,97,116,117,115,58,32])) (.t 92))),(aj 96 (.call (.c (.fn 38 [])) [(.t 95)])),(aj 97 (.bin .add (.c (.str [68,105,97,103,110,111,115,116,105,99,45,67,111,100,101,58,32,115,109,116,112,59,32])) (.t 96))),(aj 98 (.bin .add (.t 97) (.c (.str [32])))),(aj 101 (.bin .add (.t 98) (.t 100))),(aj 102 (.fS 1 [(.c (.str [])),(.t 89),(.c (.str [65,99,116,105,111,110,58,32,102,97,105,108,101,100])),(.t 93),(.t 101)])),(aj 103 (.call (.t 85) [(.t 102)]))])
abbrev nT:av:=(.seq (.rg [(aj 68 (.bin .lss (.t 67) (.t 66)))]) (.seq (.cond (.t 68) .skip (.exit 0)) (.seq (.blk 1 (.seq (.rg [(aj 69 (.mK 1 (.t 65) (.t 67))),(aj 70 (.ld (.t 69) none)),(aP 16 70)]) (.seq (.seq (.sem (erase pJ)) (.cond (.t 79) (.seq (.rg [(aj 10 (.aS (.c (.sl .ex 1 [])))),(aj 11 (.aS (.c (.bool false))))]) .ret) .skip)) (.seq (.rg [(aj 80 (.bO (.t 6) 5)),(aj 81 (.ld (.t 80) none)),(au 82 16),(aj 83 (.mK 7 (.t 81) (.t 82))),(aj 84 (.ld (.t 83) (some 7))),(aj 17 (.alloc [(.str []),(.str []),(.int .i64 0),(.int .i64 0),(.int .i64 0),(.int .i64 0),(.str [])])),(iN (.st (.t 17) (.t 84) 7))]) (.sem (erase pK)))))) (.rg [(aj 104 (.bin .add (.t 67) (.c (.int .i64 1)))),(au 67 104)]))))
abbrev CQ:av:=(.seq (.rg [(aj 6 (.box (.t 1))),(aj 10 (.aS (.c (.sl .ex 1 [])))),(aj 11 (.aS (.c (.bool false))))]) (.seq (.seq (.sem (erase pI)) (.cond (.t 29) (.seq (.rg [(aj 10 (.aS (.c (.sl .ex 1 [])))),(aj 11 (.aS (.c (.bool false))))]) .ret) .skip)) (.seq (.rg [(aj 30 (.bO (.t 6) 4)),(aj 31 (.ld (.t 30) none)),(aj 32 (.call (.c (.fn 32 [])) [(.t 31)])),(aP 12 32)]) (.seq (.rg [(aj 13 (.alloc [(.dc 76),(.cV 5 [])]))]) (.seq (.rg [(aj 33 (.Sg 33 [(.t 13)])),(aP 14 33)]) (.seq (.rg [(au 34 14),(au 35 0),(aj 36 (.bin .add (.c (.str [70,114,111,109,58,32,60,109,97,105,108,101,114,45,100,97,101,109,111,110,64])) (.t 35))),(aj 37 (.bin .add (.t 36) (.c (.str [62])))),(aj 38 (.bO (.t 6) 0)),(aj 39 (.ld (.t 38) (some 2))),(aj 40 (.call (.c (.fn 36 [])) [(.t 39)])),(aj 41 (.bin .add (.c (.str [84,111,58,32])) (.t 40))),(au 42 4),(aj 43 (.call (.c (.fn 37 [])) [(.t 42)])),(aj 44 (.bin .add (.c (.str [68,97,116,101,58,32])) (.t 43))),(aj 45 (.fS 1 [(.t 37),(.t 41),(.c (.str [83,117,98,106,101,99,116,58,32,102,97,105,108,117,114,101])),(.t 44),(.c (.str [77,73,77,69,45,86,101,114,115,105,111,110,58,32,49,46,48]))])),(aj 46 (.call (.t 34) [(.t 45)]))]) (.seq (.rg [(au 47 14),(au 48 12),(aj 49 (.bin .add (.c (.str (67::111::110::116::101::110::116::45::84::121::112::101::58::32::109::117::108::116::105::112::97::114::116::47::114::101::112::111::114::116::59::32::114::101::112::111::114::116::45::116::121::112::101::61::100::101::108::105::118::101::114::121::45::115::116::97::116::117::115::59::32::98::111::117::110::100::97::114::121::61::34::[]))) (.t 48))),(aj 50 (.bin .add (.t 49) (.c (.str [34])))),(aj 51 (.fS 1 [(.t 50),(.c (.str []))])),(aj 52 (.call (.t 47) [(.t 51)]))]) (.seq (.rg [(au 53 14),(au 54 12),(aj 55 (.bin .add (.c (.str [45,45])) (.t 54))),(aj 56 (.fS 1 [(.t 55),(.c (.str [67,111,110,116,101,110,116,45,84,121,112,101,58,32,116,101,120,116,47,112,108,97,105,110])),(.c (.str [])),(.c (.str (84::104::105::115::32::109::97::105::108::32::99::111::117::108::100::32::110::111::116::32::98::101::32::100::101::108::105::118::101::114::101::100::46::[])))])),(aj 57 (.call (.t 53) [(.t 56)]))]) (.seq (.rg [(au 58 14),(au 59 12),(aj 60 (.bin .add (.c (.str [45,45])) (.t 59))),(au 61 0),(aj 62 (.bin .add (.c (.str [82,101,112,111,114,116,105,110,103,45,77,84,65,58,32,100,110,115,59,32])) (.t 61))),(aj 63 (.fS 1 [(.t 60),(.c (.str (67::111::110::116::101::110::116::45::84::121::112::101::58::32::109::101::115::115::97::103::101::47::100::101::108::105::118::101::114::121::45::115::116::97::116::117::115::[]))),(.c (.str [])),(.t 62)])),(aj 64 (.call (.t 58) [(.t 63)]))]) (.seq (.seq (.rg [(au 65 2),(aj 66 (.len (.t 65))),(aj 67 (.mv (.c (.int .i64 0))))]) (.blk 0 (.loop (erase nT)))) (.seq (.rg [(au 105 14),(au 106 12),(aj 107 (.bin .add (.c (.str [45,45])) (.t 106))),(aj 108 (.fS 1 [(.t 107),(.c (.str (67::111::110::116::101::110::116::45::84::121::112::101::58::32::116::101::120::116::47::114::102::99::56::50::50::45::104::101::97::100::101::114::115::[]))),(.c (.str []))])),(aj 109 (.call (.t 105) [(.t 108)]))]) (.seq (.rg [(au 110 3),(aj 111 (.call (.c (.fn 39 [])) [(.t 110)])),(aj 112 (.call (.c (.fn 34 [])) [(.t 13),(.t 111)]))]) (.seq (.rg [(au 113 14),(au 114 12),(aj 115 (.bin .add (.c (.str [45,45])) (.t 114))),(aj 116 (.bin .add (.t 115) (.c (.str [45,45])))),(aj 117 (.fS 1 [(.t 116)])),(aj 118 (.call (.t 113) [(.t 117)]))]) (.seq (.rg [(aj 119 (.call (.c (.fn 40 [])) [(.t 13)])),(aj 120 (.iJ .sb (.t 119))),(aP 10 120),(aj 11 (.aS (.c (.bool true))))]) .ret))))))))))))))
theorem CS:bu Tryz.prog 11 121 [(.tmp 10),(.tmp 11)] (erase CQ):=⟨Tryz.f11,_,rfl,by decide,rfl,by kernel_rfl,rfl,rfl⟩
abbrev iz:List Nat:=[0,1,2,3,4,6,10,11,12,13,14,16,17,29,65,66,67,68,79]
def eN (F:Nat) (e2:aL) (cB:List Int) (nv:List UInt8):Option (Bool):=
 (iV e2).bind fun r7=>
 (if r7 then
  some true
 else
  (if (decide ((cB.length:Int)=0)) then
   some true
  else
   (gY F nv).bind fun r8=>some (!r8)))
def js (F:Nat) (ou:cJ) (vq:List UInt8):Option ((List UInt8)):=
 (gN F ou.gh).bind fun r36=>
 (cat ([70,105,110,97,108,45,82,101,99,105,112,105,101,110,116,58,32,114,102,99,56,50,50,59,32]:List UInt8) r36).bind fun x37=>
 (eW ou.code).bind fun RO=>
 (cat ([83,116,97,116,117,115,58,32]:List UInt8) RO).bind fun x39=>
 (strconv_Itoa ou.code).bind fun r40=>
 (cat ([68,105,97,103,110,111,115,116,105,99,45,67,111,100,101,58,32,115,109,116,112,59,32]:List UInt8) r40).bind fun x41=>
 (cat x41 ([32]:List UInt8)).bind fun x42=>
 (cat x42 ou.why).bind fun x43=>
 (bH ([([]:List UInt8),x37,([65,99,116,105,111,110,58,32,102,97,105,108,101,100]:List UInt8),x39,x43]:List (List UInt8)) vq).bind fun r44=>some r44
def dV (F:Nat) (cB:List Int) (e2:aL):(Int×(List UInt8))→Option (St ((List UInt8)×Bool) (List UInt8) (Int×(List UInt8)))
 |(t28,vq)=>
  (if (decide (t28<(cB.length:Int))) then
   (idx cB t28).bind fun Ek=>
   (if ((decide (Ek<0))||(decide ((e2.bh.length:Int)≤Ek))) then
    some (.ret (([]:List UInt8),false))
   else
    (idx e2.bh Ek).bind fun ou=>
    (js F ou vq).bind fun s46=>
    some (.dz ((IntKind.wrap .i64 (t28+1)),s46)))
  else
   some (.eZ vq))
def cq (F:Nat) (nv:List UInt8) (e2:aL) (cB:List Int) (e9:List UInt8) (Ao:Int):Option ((List UInt8)×Bool):=
 (eN F e2 cB nv).bind fun t10=>
 (if t10 then
  some (([]:List UInt8),false)
 else
  (gG F e2.sum).bind fun eM=>
  (cat ([70,114,111,109,58,32,60,109,97,105,108,101,114,45,100,97,101,109,111,110,64]:List UInt8) nv).bind fun om=>
  (cat om ([62]:List UInt8)).bind fun Im=>
  (gN F e2.aQ).bind fun kB=>
  (cat ([84,111,58,32]:List UInt8) kB).bind fun lg=>
  (pz F Ao).bind fun r16=>
  (cat ([68,97,116,101,58,32]:List UInt8) r16).bind fun Bt=>
  (bH ([Im,lg,([83,117,98,106,101,99,116,58,32,102,97,105,108,117,114,101]:List UInt8),Bt,([77,73,77,69,45,86,101,114,115,105,111,110,58,32,49,46,48]:List UInt8)]:List (List UInt8)) ([]:List UInt8)).bind fun r18=>
  (cat ((67::111::110::116::101::110::116::45::84::121::112::101::58::32::109::117::108::116::105::112::97::114::116::47::114::101::112::111::114::116::59::32::114::101::112::111::114::116::45::116::121::112::101::61::100::101::108::105::118::101::114::121::45::115::116::97::116::117::115::59::32::98::111::117::110::100::97::114::121::61::34::[]):List UInt8) eM).bind fun we=>
  (cat we ([34]:List UInt8)).bind fun Ea=>
  (bH ([Ea,([]:List UInt8)]:List (List UInt8)) r18).bind fun r21=>
  (cat ([45,45]:List UInt8) eM).bind fun IK=>
  (bH ([IK,([67,111,110,116,101,110,116,45,84,121,112,101,58,32,116,101,120,116,47,112,108,97,105,110]:List UInt8),([]:List UInt8),((84::104::105::115::32::109::97::105::108::32::99::111::117::108::100::32::110::111::116::32::98::101::32::100::101::108::105::118::101::114::101::100::46::[]):List UInt8)]:List (List UInt8)) r21).bind fun r23=>
  (cat ([82,101,112,111,114,116,105,110,103,45,77,84,65,58,32,100,110,115,59,32]:List UInt8) nv).bind fun CK=>
  (bH ([IK,((67::111::110::116::101::110::116::45::84::121::112::101::58::32::109::101::115::115::97::103::101::47::100::101::108::105::118::101::114::121::45::115::116::97::116::117::115::[]):List UInt8),([]:List UInt8),CK]:List (List UInt8)) r23).bind fun RP=>
  ((iter (dV F cB e2) F (0,RP)).bind fun o61=>
  match o61 with
  | .inr s50=>
    (bH ([IK,((67::111::110::116::101::110::116::45::84::121::112::101::58::32::116::101::120::116::47::114::102::99::56::50::50::45::104::101::97::100::101::114::115::[]):List UInt8),([]:List UInt8)]:List (List UInt8)) s50).bind fun r51=>
    (nt F e9).bind fun r52=>
    (cS r51 r52).bind fun (r53,r54,r55)=>
    (cat IK ([45,45]:List UInt8)).bind fun x56=>
    (bH ([x56]:List (List UInt8)) r55).bind fun r57=>
    (gF r57).bind fun r58=>some (r58,true)
  | .inl (r59,r60)=>
    some (r59,r60)))
theorem xz {F:Nat} {e2:aL} {cB:List Int} {nv:List UInt8} {e9:List UInt8} {Ao:Int} {q6:Nat} {H0 H:AH} (hfr:Fr H0 H0.length [] H) (ai:H[q6]? =some [(.str e2.aQ.ax),(.str e2.aQ.domain),(.int .i64 e2.born),(.int .i64 e2.size),(.int .u32 e2.sum),(.sl .n 7 (ml aR e2.bh))]) (hi0:H0.length≤q6) {K:Exit→Env→AH→Prop} {t9:Bool}
 (h:eN F e2 cB nv=some t9)
 (kn:∀H':AH,Fr H0 H0.length [] H'→H'[q6]? =some [(.str e2.aQ.ax),(.str e2.aQ.domain),(.int .i64 e2.born),(.int .i64 e2.size),(.int .u32 e2.sum),(.sl .n 7 (ml aR e2.bh))]→K .normal [(0,(.str nv)),(2,(.sl .n 1 (ml (gx .i64) cB))),(3,(.sl .n 1 (ml b8 e9))),(4,(.int .i64 Ao)),(6,(.ptr q6 0)),(29,(.bool t9))] H'):
 AX Tryz.prog iz 121 H0.length (erase pI) K [(0,(.str nv)),(2,(.sl .n 1 (ml (gx .i64) cB))),(3,(.sl .n 1 (ml b8 e9))),(4,(.int .i64 Ao)),(6,(.ptr q6 0))] H:=by
 refine cU fun K' hK=> ?_
 have hle:=hfr.le
 have bf:=aY ai
 rw [eN.eq_1] at h
 refine aF ai ?_
 obtain ⟨r7,hy1,h⟩:=ak h
 refine aX aq (rP hy1) ?_
 refine aF ai ?_
 refine b6 h (fun aU h=> ?_) fun aU h=> ?_
 · refine aF (aH aU ai) ?_
   obtain rfl:=aE h
   exact hK _ _ _ _ _ aN aq (kn _ hfr (ai.trans rfl))
 · refine aF (aH aU ai) ?_
   refine b6 h (fun bp h=> ?_) fun bp h=> ?_
   · refine aF (aH bp ai) ?_
     obtain rfl:=aE h
     exact hK _ _ _ _ _ aN aq (kn _ hfr (ai.trans rfl))
   · refine aF (aH bp ai) ?_
     obtain ⟨r8,bn,h⟩:=ak h
     refine aX aq (uN bn) ?_
     refine aF ai ?_
     obtain rfl:=aE h
     exact hK _ _ _ _ _ aN aq (kn _ hfr (ai.trans rfl))
theorem xA {e9:List UInt8} {FM:Nat} {eM:List UInt8} {CP:Nat} {Ek:Int} {cB:List Int} {t28:Int} {e2:aL} {vq:List UInt8} {H0 H:AH} (hfr:Fr H0 H0.length [] H) (ai:H[FM]? =some [(.str e2.aQ.ax),(.str e2.aQ.domain),(.int .i64 e2.born),(.int .i64 e2.size),(.int .u32 e2.sum),(.sl .n 7 (ml aR e2.bh))]) (aI:H[CP]? =some [(.dc 76),(.cV 5 vq)]) (hi0:H0.length≤FM) (hi1:H0.length≤CP) (hi2:FM≠CP) {K:Exit→Env→AH→Prop}
 (kn:∀H':AH,Fr H0 H0.length [] H'→H'[FM]? =some [(.str e2.aQ.ax),(.str e2.aQ.domain),(.int .i64 e2.born),(.int .i64 e2.size),(.int .u32 e2.sum),(.sl .n 7 (ml aR e2.bh))]→H'[CP]? =some [(.dc 76),(.cV 5 vq)]→K .normal [(3,(.sl .n 1 (ml b8 e9))),(6,(.ptr FM 0)),(12,(.str eM)),(13,(.ptr CP 0)),(14,(.fn 33 [(.ptr CP 0)])),(16,(.int .i64 Ek)),(65,(.sl .n 1 (ml (gx .i64) cB))),(66,(.int .i64 (cB.length:Int))),(67,(.int .i64 t28)),(79,(.bool ((decide (Ek<0))||(decide ((e2.bh.length:Int)≤Ek)))))] H'):
 AX Tryz.prog iz 121 H0.length (erase pJ) K [(3,(.sl .n 1 (ml b8 e9))),(6,(.ptr FM 0)),(12,(.str eM)),(13,(.ptr CP 0)),(14,(.fn 33 [(.ptr CP 0)])),(16,(.int .i64 Ek)),(65,(.sl .n 1 (ml (gx .i64) cB))),(66,(.int .i64 (cB.length:Int))),(67,(.int .i64 t28))] H:=by
 refine cU fun K' hK=> ?_
 have hle:=hfr.le
 have bf:=aY ai
 have kD:=aY aI
 refine aF (aH ai aI) ?_
 refine ob (fun pg=> ?_) fun pg=> ?_
 · refine aF (aH pg (aH ai aI)) ?_
   exact hK _ _ _ _ _ (fq pg) aq (kn _ hfr (ai.trans rfl) (aI.trans rfl))
 · refine aF (aH pg (aH ai aI)) ?_
   exact hK _ _ _ _ _ (fq pg) aq (kn _ hfr (ai.trans rfl) (aI.trans rfl))
theorem xB {F:Nat} {ou:cJ} {vq:List UInt8} {e9:List UInt8} {NL:Nat} {eM:List UInt8} {IL:Nat} {cB:List Int} {t28:Int} {e2:aL} {H0 H:AH} (hfr:Fr H0 H0.length [] H) (ai:H[NL]? =some [(.str e2.aQ.ax),(.str e2.aQ.domain),(.int .i64 e2.born),(.int .i64 e2.size),(.int .u32 e2.sum),(.sl .n 7 (ml aR e2.bh))]) (aI:H[IL]? =some [(.dc 76),(.cV 5 vq)]) (hi0:H0.length≤NL) (hi1:H0.length≤IL) (hi2:NL≠IL) {K:Exit→Env→AH→Prop} {s45:List UInt8}
 (h:js F ou vq=some s45)
 (kn:∀H':AH,Fr H0 H0.length [] H'→H'[NL]? =some [(.str e2.aQ.ax),(.str e2.aQ.domain),(.int .i64 e2.born),(.int .i64 e2.size),(.int .u32 e2.sum),(.sl .n 7 (ml aR e2.bh))]→H'[IL]? =some [(.dc 76),(.cV 5 s45)]→K .normal [(3,(.sl .n 1 (ml b8 e9))),(6,(.ptr NL 0)),(12,(.str eM)),(13,(.ptr IL 0)),(14,(.fn 33 [(.ptr IL 0)])),(65,(.sl .n 1 (ml (gx .i64) cB))),(66,(.int .i64 (cB.length:Int))),(67,(.int .i64 t28))] H'):
 AX Tryz.prog iz 121 H0.length (erase pK) K [(3,(.sl .n 1 (ml b8 e9))),(6,(.ptr NL 0)),(12,(.str eM)),(13,(.ptr IL 0)),(14,(.fn 33 [(.ptr IL 0)])),(17,(.ep (.agg [(.str ou.gh.ax),(.str ou.gh.domain),(.int .i64 ou.state),(.int .i64 ou.tries),(.int .i64 ou.next),(.int .i64 ou.code),(.str ou.why)]) 0)),(65,(.sl .n 1 (ml (gx .i64) cB))),(66,(.int .i64 (cB.length:Int))),(67,(.int .i64 t28))] H:=by
 refine cU fun K' hK=> ?_
 have hle:=hfr.le
 have bf:=aY ai
 have kD:=aY aI
 rw [js.eq_1] at h
 refine aF (aH ai aI) ?_
 obtain ⟨r36,Ed,h⟩:=ak h
 refine aX aq (wj Ed) ?_
 refine aF (aH ai aI) ?_
 obtain ⟨x37,KZ,h⟩:=ak h
 refine aF (aH KZ (aH ai aI)) ?_
 obtain ⟨RO,ac5,h⟩:=ak h
 refine aX aq (lu ac5) ?_
 refine aF (aH ai aI) ?_
 obtain ⟨x39,ac6,h⟩:=ak h
 refine aF (aH ac6 (aH ai aI)) ?_
 obtain ⟨r40,ac7,h⟩:=ak h
 refine aX aq (gE (i1:=ou.code) ac7) ?_
 refine aF (aH ai aI) ?_
 obtain ⟨x41,ac8,h⟩:=ak h
 obtain ⟨x42,ac9,h⟩:=ak h
 obtain ⟨x43,ada,h⟩:=ak h
 refine aF (aH ac8 (aH ac9 (aH ada (aH ai aI)))) ?_
 obtain ⟨r44,adb,h⟩:=ak h
 refine aX aq (dn (aI.trans rfl) adb) ?_
 refine aF (aH ai aI) ?_
 obtain rfl:=aE h
 exact hK _ _ _ _ _ aN aq (kn _ (cM _ hfr) (iM (ai.trans rfl)) eB)
theorem xC {F:Nat} {t28:Int} {cB:List Int} {e2:aL} {vq:List UInt8} {e9:List UInt8} {FO:Nat} {eM:List UInt8} {um:Nat} {H0 H:AH} (hfr:Fr H0 H0.length [] H) (ai:H[FO]? =some [(.str e2.aQ.ax),(.str e2.aQ.domain),(.int .i64 e2.born),(.int .i64 e2.size),(.int .u32 e2.sum),(.sl .n 7 (ml aR e2.bh))]) (aI:H[um]? =some [(.dc 76),(.cV 5 vq)]) (hi0:H0.length≤FO) (hi1:H0.length≤um) (hi2:FO≠um) {K:Exit→Env→AH→Prop} {o:((List UInt8)×Bool)⊕((List UInt8))}
 (h:iter (dV F cB e2) F (t28,vq)=some o)
 (dN:∀o':(List UInt8),o= .inr o'→∀H':AH,Fr H0 H0.length [] H'→H'[FO]? =some [(.str e2.aQ.ax),(.str e2.aQ.domain),(.int .i64 e2.born),(.int .i64 e2.size),(.int .u32 e2.sum),(.sl .n 7 (ml aR e2.bh))]→H'[um]? =some [(.dc 76),(.cV 5 o')]→K (.exit 0) [(3,(.sl .n 1 (ml b8 e9))),(12,(.str eM)),(13,(.ptr um 0)),(14,(.fn 33 [(.ptr um 0)]))] H')
 (kr:∀o':(List UInt8)×Bool,o= .inl o'→∀H':AH,Fr H0 H0.length [] H'→K .ret [(10,(.sl .n 1 (ml b8 o'.1))),(11,(.bool o'.2))] H'):
 AX Tryz.prog iz 121 H0.length (.loop (erase nT)) K [(3,(.sl .n 1 (ml b8 e9))),(6,(.ptr FO 0)),(12,(.str eM)),(13,(.ptr um 0)),(14,(.fn 33 [(.ptr um 0)])),(65,(.sl .n 1 (ml (gx .i64) cB))),(66,(.int .i64 (cB.length:Int))),(67,(.int .i64 t28))] H:=by
 refine jl (fun s e H1=>match s with|(t28,vq)=>e=[(3,(.sl .n 1 (ml b8 e9))),(6,(.ptr FO 0)),(12,(.str eM)),(13,(.ptr um 0)),(14,(.fn 33 [(.ptr um 0)])),(65,(.sl .n 1 (ml (gx .i64) cB))),(66,(.int .i64 (cB.length:Int))),(67,(.int .i64 t28))]∧Fr H0 H0.length [] H1∧H1[FO]? =some [(.str e2.aQ.ax),(.str e2.aQ.domain),(.int .i64 e2.born),(.int .i64 e2.size),(.int .u32 e2.sum),(.sl .n 7 (ml aR e2.bh))]∧H1[um]? =some [(.dc 76),(.cV 5 vq)]) h ⟨rfl,hfr,ai,aI⟩ ?_
 rintro K' ⟨t28,vq⟩ st e H ⟨rfl,hfr,ai,aI⟩ h hN hB hR hX
 have hle:=hfr.le
 have bf:=aY ai
 have kD:=aY aI
 rw [dV.eq_1] at h
 refine aF (aH ai aI) ?_
 refine b7 h (fun wg h=> ?_) fun wg h=> ?_
 · obtain ⟨Ek,wh,h⟩:=ak h
   refine aF (aH wh (aH ai aI)) ?_
   refine bS aq (xA (e9:=e9) (FM:=FO) (eM:=eM) (CP:=um) (Ek:=Ek) (cB:=cB) (t28:=t28) (e2:=e2) (vq:=vq) hfr (ai.trans rfl) (aI.trans rfl) dD dD dD ?_)
   intro H hfr ai aI
   have hle:=hfr.le
   have bf:=aY ai
   have kD:=aY aI
   refine aF (aH ai aI) ?_
   refine b7 h (fun pn h=> ?_) fun pn h=> ?_
   · refine aF (aH ai aI) ?_
     obtain rfl:=aE h
     exact hX _ _ _ _ _ eK aN aq (kr _ (hR _ rfl) _ hfr)
   · obtain ⟨ou,zZ,h⟩:=ak h
     refine aF (aH zZ (aH ai aI)) ?_
     refine KP ?_
     apply AX.freeze (s:=H.length) (cs:=[(.str ou.gh.ax),(.str ou.gh.domain),(.int .i64 ou.state),(.int .i64 ou.tries),(.int .i64 ou.next),(.int .i64 ou.code),(.str ou.why)]) (by exact eB) (eR.same (eR.same (eR.same (eR.same (eR.same (eR.same (eR.same (eR.nil)))))))) (by simp)
     · repeat (first|exact FZ.nil|apply FZ.ep|apply FZ.same)
     refine RF ?_
     obtain ⟨s46,ade,h⟩:=ak h
     refine bS aq (xB (e9:=e9) (eM:=eM) (cB:=cB) (t28:=t28) (e2:=e2) (NL:=FO) (IL:=um) (cM _ (cM _ (Fr.app hfr))) (iM (iM (Fo (ai.trans rfl)))) (iM (iM (Fo (aI.trans rfl)))) dD dD dD ade ?_)
     intro H hfr ai aI
     have hle:=hfr.le
     have bf:=aY ai
     have kD:=aY aI
     refine aF (aH ai aI) ?_
     obtain rfl:=aE h
     exact hN _ rfl _ _ _ _ aN aq ⟨rfl,hfr,(ai.trans rfl),(aI.trans rfl)⟩
 · refine aF (aH ai aI) ?_
   obtain rfl:=aE h
   exact hX _ _ _ _ _ eK aN aq (dN _ (hB _ rfl) _ hfr (ai.trans rfl) (aI.trans rfl))
theorem fK {F:Nat} {nv:List UInt8} {e2:aL} {cB:List Int} {e9:List UInt8} {Ao:Int} {H0:AH} {aJ:List UInt8} {fU:Bool} (h:cq F nv e2 cB e9 Ao=some (aJ,fU)):
 ay Tryz.prog 11 [(.str nv),(.agg [(.str e2.aQ.ax),(.str e2.aQ.domain),(.int .i64 e2.born),(.int .i64 e2.size),(.int .u32 e2.sum),(.sl .n 7 (ml aR e2.bh))]),(.sl .n 1 (ml (gx .i64) cB)),(.sl .n 1 (ml b8 e9)),(.int .i64 Ao)] H0 fun v H'=>v=(.bz [(.sl .n 1 (ml b8 aJ)),(.bool fU)])∧H'=H0:=by
 refine kO CS iz [] fun hcl K0 aO H hH hfr=> ?_
 clear hH
 have hle:=hfr.le
 rw [cq.eq_1] at h
 refine cj ?_
 obtain ⟨q6,El⟩:∃q:Nat,H.length=q:=⟨_,rfl⟩
 try rw [El]
 obtain ⟨t10,bG,h⟩:=ak h
 refine bS aq (xz (e9:=e9) (Ao:=Ao) (q6:=q6) (Fr.app hfr) vj dD bG ?_)
 intro H hfr ai
 have hle:=hfr.le
 have bf:=aY ai
 refine aF ai ?_
 refine b7 h (fun bY h=> ?_) fun bY h=> ?_
 · refine aF ai ?_
   obtain ⟨rfl,rfl⟩:=jA h
   exact aO _ _ _ bC (bM hfr hcl (br (br bA (.bool false)) (.sl .ex 1 [])) bB bt ⟨rfl,rfl⟩)
 · refine aF ai ?_
   obtain ⟨eM,cK,h⟩:=ak h
   refine aX aq (xm cK) ?_
   refine aF ai ?_
   obtain ⟨om,cE,h⟩:=ak h
   obtain ⟨Im,dO,h⟩:=ak h
   refine aF (aH cE (aH dO ai)) ?_
   obtain ⟨kB,cT,h⟩:=ak h
   refine aX aq (wj cT) ?_
   refine aF ai ?_
   obtain ⟨lg,cP,h⟩:=ak h
   refine aF (aH cP ai) ?_
   obtain ⟨r16,dI,h⟩:=ak h
   refine aX aq (FI dI) ?_
   refine aF ai ?_
   obtain ⟨Bt,dx,h⟩:=ak h
   refine aF (aH dx ai) ?_
   obtain ⟨r18,gz,h⟩:=ak h
   refine aX aq (dn (q2:=H.length) vj gz) ?_
   refine aF ai ?_
   obtain ⟨we,jb,h⟩:=ak h
   obtain ⟨Ea,iR,h⟩:=ak h
   refine aF (aH jb (aH iR ai)) ?_
   obtain ⟨r21,mS,h⟩:=ak h
   refine aX aq (dn (q2:=H.length) eB mS) ?_
   refine aF ai ?_
   obtain ⟨IK,l9,h⟩:=ak h
   refine aF (aH l9 ai) ?_
   obtain ⟨r23,kZ,h⟩:=ak h
   refine aX aq (dn (q2:=H.length) eB kZ) ?_
   refine aF ai ?_
   obtain ⟨CK,sX,h⟩:=ak h
   refine aF (aH l9 (aH sX ai)) ?_
   obtain ⟨RP,mT,h⟩:=ak h
   refine aX aq (dn (q2:=H.length) eB mT) ?_
   refine aF ai ?_
   obtain ⟨um,Yj⟩:∃q:Nat,H.length=q:=⟨_,rfl⟩
   try rw [Yj]
   obtain ⟨o61,adf,h⟩:=ak h
   refine bS aq (xC (e9:=e9) (eM:=eM) (FO:=q6) (um:=um) (cM _ (cM _ (cM _ (cM _ (Fr.app hfr))))) (iM (iM (iM (iM (Fo (ai.trans rfl)))))) eB dD dD dD adf ?_ ?_)
   · rintro s50 rfl H hfr ai aI
     try dsimp only at h ai aI
     have hle:=hfr.le
     have bf:=aY ai
     have kD:=aY aI
     refine aF (aH l9 (aH ai aI)) ?_
     obtain ⟨r51,adg,h⟩:=ak h
     refine aX aq (dn (aI.trans rfl) adg) ?_
     refine aF (aH ai aI) ?_
     obtain ⟨r52,adh,h⟩:=ak h
     refine aX aq (yN adh) ?_
     refine aF (aH ai aI) ?_
     obtain ⟨⟨r53,r54,r55⟩,adi,h⟩:=ak h
     dsimp only at h
     refine aX aq (gy (b2:=r51) (s3:=r52) (q1:=um) eB adi) ?_
     refine aF (aH ai aI) ?_
     obtain ⟨x56,adj,h⟩:=ak h
     refine aF (aH l9 (aH adj (aH ai aI))) ?_
     obtain ⟨r57,adk,h⟩:=ak h
     refine aX aq (dn (q2:=um) eB adk) ?_
     refine aF (aH ai aI) ?_
     obtain ⟨r58,adl,h⟩:=ak h
     refine aX aq (oP (b2:=r57) (q1:=um) eB adl) ?_
     refine aF (aH ai aI) ?_
     obtain ⟨rfl,rfl⟩:=jA h
     exact aO _ _ _ bC (bM (cM _ (cM _ (cM _ hfr))) hcl (br (br bA (.bool true)) (.sl .own 1 (ml b8 r58))) bB bt ⟨rfl,rfl⟩)
   · rintro ⟨r59,r60⟩ rfl H hfr
     try dsimp only at h
     have hle:=hfr.le
     refine cj ?_
     obtain ⟨rfl,rfl⟩:=jA h
     exact aO _ _ _ bC (bM hfr hcl (br (br bA (.bool r60)) (.sl .n 1 (ml b8 r59))) bB bt ⟨rfl,rfl⟩)
theorem Em:bu Tryz.prog 26 8 [(.tmp 2)] (wZ 1 1):=⟨Tryz.f26,_,rfl,by decide,rfl,by kernel_rfl,rfl,rfl⟩
def Ap (s1:List UInt8):Option (List UInt8):=cF 1 [] s1
theorem CT {s1:List UInt8} {H0:AH} {aJ:List UInt8} (h:Ap s1=some aJ):ay Tryz.prog 26 [(.sl .n 1 (ml b8 s1))] H0 fun v H'=>v=(.sl .own 1 (ml b8 aJ))∧H'=H0:=zM Em (eS (f:=b8) h)
abbrev IM:av:=(.seq (.rg [(aj 2 (.aS (.c (.sl .ex 1 []))))]) (.seq (.seq (.rg [(au 4 0),(aj 5 (.len (.t 4))),(aj 6 (.bin .eql (.t 5) (.c (.int .i64 0))))]) (.cond (.t 6) (.seq (.rg [(aj 2 (.aS (.c (.sl .ex 1 []))))]) .ret) .skip)) (.seq (.rg [(au 7 0),(aj 8 (.call (.c (.fn 61 [])) [(.t 7)])),(aj 9 (.iJ .bs (.t 8))),(aj 10 (.call (.c (.fn 65 [])) [(.t 9),(.c (.str [13,10]))])),(aP 3 10)]) (.seq (.rg [(au 11 3),(au 12 3),(aj 13 (.len (.t 12))),(aj 14 (.bin .sub (.t 13) (.c (.int .i64 1)))),(aj 15 (.slc 1 (.t 11) none (some (.t 14)) none)),(aP 2 15)]) .ret))))
theorem IP:bu Tryz.prog 25 16 [(.tmp 2)] (erase IM):=⟨Tryz.f25,_,rfl,by decide,rfl,by kernel_rfl,rfl,rfl⟩
abbrev IQ:List Nat:=[0,2,3,6]
def yO (F:Nat) (b1:List UInt8):Option ((List (List UInt8))):=
 (if (decide ((b1.length:Int)=0)) then
  some ([]:List (List UInt8))
 else
  (uj F b1).bind fun r2=>
  (strings_Split r2 ([13,10]:List UInt8)).bind fun r3=>
  (sub r3 0 (IntKind.wrap .i64 ((r3.length:Int) - 1))).bind fun x4=>some x4)
theorem FP {F:Nat} {b1:List UInt8} {H0:AH} {aJ:List (List UInt8)} (h:yO F b1=some aJ):
 ay Tryz.prog 25 [(.sl .n 1 (ml b8 b1))] H0 fun v H'=>v=(.sl .n 1 (ml AV.str aJ))∧H'=H0:=by
 refine eC IP IQ fun hcl K0 aO=> ?_
 rw [yO.eq_1] at h
 refine aG ?_
 refine b7 h (fun hy1 h=> ?_) fun hy1 h=> ?_
 · refine aG ?_
   obtain rfl:=aE h
   exact aO _ _ _ bC (aK hcl (br bA (.sl .ex 1 [])) bB bt ⟨rfl,rfl⟩)
 · refine aG ?_
   obtain ⟨r2,aU,h⟩:=ak h
   refine aX aq (yc aU) ?_
   refine aG ?_
   obtain ⟨r3,bp,h⟩:=ak h
   refine aX aq (gf (s1:=r2) (s2:=([13,10]:List UInt8)) bp) ?_
   refine aG ?_
   obtain ⟨x4,bn,h⟩:=ak h
   have bG:=A8 (f:=AV.str) bn
   refine aW bn ?_
   obtain rfl:=aE h
   exact aO _ _ _ bC (aK hcl (br bA (.sl .n 1 (ml AV.str x4))) bB bt ⟨rfl,rfl⟩)
abbrev iS:av:=(.rg [(au 5 0),(aj 6 (.lens (.t 5))),(au 7 1),(aj 8 (.lens (.t 7))),(aj 9 (.bin .geq (.t 6) (.t 8))),(au 10 9),(az 11 (.mv (.t 0)) 10 true),(az 12 (.mv (.t 1)) 10 true),(az 13 (.lens (.t 12)) 10 true),(az 14 (.xd (.t 11) none (some (.t 13))) 10 true),(az 15 (.mv (.t 1)) 10 true),(az 16 (.bin .eql (.t 14) (.t 15)) 10 true),(aj 17 (.pick (.t 10) (.t 16) (.c (.bool false)))),(aP 4 17)])
abbrev sw:av:=(.seq (.rg [(aj 4 (.aS (.c (.bool false))))]) (.seq (.sem (erase iS)) .ret))
theorem sx:bu Tryz.prog 97 18 [(.tmp 4)] (erase sw):=⟨Tryz.f97,_,rfl,by decide,rfl,by kernel_rfl,rfl,rfl⟩
abbrev jX:List Nat:=[0,1,4]
def fW (dB:List UInt8) (s1:List UInt8):Option (Bool):=
 (if (decide ((dB.length:Int)≤(s1.length:Int))) then
  (sub s1 0 (dB.length:Int)).bind fun x3=>some (decide (x3=dB))
 else
  some false)
def stringslite_HasPrefix (s1:List UInt8) (dB:List UInt8):Option (Bool):=
 (fW dB s1).bind fun t5=>
 some t5
theorem ny {dB:List UInt8} {s1:List UInt8} {H:AH} {K:Exit→Env→AH→Prop} {t4:Bool}
 (h:fW dB s1=some t4)
 (kn:K .normal [(4,(.bool t4))] H):
 AX Tryz.prog jX 18 H.length (erase iS) K [(0,(.str s1)),(1,(.str dB)),(4,(.bool false))] H:=by
 refine cU fun K' hK=> ?_
 rw [fW.eq_1] at h
 refine aG ?_
 refine b6 h (fun hy1 h=> ?_) fun hy1 h=> ?_
 · obtain ⟨x3,aU,h⟩:=ak h
   refine aW (aH hy1 aU) ?_
   obtain rfl:=aE h
   exact hK _ _ _ _ _ aN aq kn
 · refine aW hy1 ?_
   obtain rfl:=aE h
   exact hK _ _ _ _ _ aN aq kn
theorem qA {s1:List UInt8} {dB:List UInt8} {H0:AH} {aJ:Bool} (h:stringslite_HasPrefix s1 dB=some aJ):
 ay Tryz.prog 97 [(.str s1),(.str dB)] H0 fun v H'=>v=(.bool aJ)∧H'=H0:=by
 refine eC sx jX fun hcl K0 aO=> ?_
 rw [stringslite_HasPrefix.eq_1] at h
 refine aG ?_
 obtain ⟨t5,bp,h⟩:=ak h
 refine bS aq (ny bp ?_)
 refine aG ?_
 obtain rfl:=aE h
 exact aO _ _ _ bC (aK hcl (br bA (.bool t5)) bB bt ⟨rfl,rfl⟩)
abbrev sy:av:=(.seq (.rg [(aj 4 (.aS (.c (.str [])))),(aj 5 (.aS (.c (.bool false))))]) (.seq (.seq (.rg [(au 6 0),(au 7 1),(aj 8 (.call (.c (.fn 97 [])) [(.t 6),(.t 7)])),(aj 9 (.un .not (.t 8)))]) (.cond (.t 9) (.seq (.rg [(au 10 0),(aP 4 10),(aj 5 (.aS (.c (.bool false))))]) .ret) .skip)) (.seq (.rg [(au 11 0),(au 12 1),(aj 13 (.lens (.t 12))),(aj 14 (.xd (.t 11) (some (.t 13)) none)),(aP 4 14),(aj 5 (.aS (.c (.bool true))))]) .ret)))
theorem sA:bu Tryz.prog 66 15 [(.tmp 4),(.tmp 5)] (erase sy):=⟨Tryz.f66,_,rfl,by decide,rfl,by kernel_rfl,rfl,rfl⟩
abbrev sB:List Nat:=[0,1,4,5,9]
def stringslite_CutPrefix (s1:List UInt8) (dB:List UInt8):Option ((List UInt8)×Bool):=
 (stringslite_HasPrefix s1 dB).bind fun r3=>
 (if (!r3) then
  some (s1,false)
 else
  (sub s1 (dB.length:Int) (s1.length:Int)).bind fun x4=>some (x4,true))
theorem qB {s1:List UInt8} {dB:List UInt8} {H0:AH} {aJ:List UInt8} {fU:Bool} (h:stringslite_CutPrefix s1 dB=some (aJ,fU)):
 ay Tryz.prog 66 [(.str s1),(.str dB)] H0 fun v H'=>v=(.bz [(.str aJ),(.bool fU)])∧H'=H0:=by
 refine eC sA sB fun hcl K0 aO=> ?_
 rw [stringslite_CutPrefix.eq_1] at h
 refine aG ?_
 obtain ⟨r3,hy1,h⟩:=ak h
 refine aX aq (qA hy1) ?_
 refine aG ?_
 refine b7 h (fun aU h=> ?_) fun aU h=> ?_
 · refine aG ?_
   obtain ⟨rfl,rfl⟩:=jA h
   exact aO _ _ _ bC (aK hcl (br (br bA (.bool false)) (.str s1)) bB bt ⟨rfl,rfl⟩)
 · obtain ⟨x4,bp,h⟩:=ak h
   refine aW bp ?_
   obtain ⟨rfl,rfl⟩:=jA h
   exact aO _ _ _ bC (aK hcl (br (br bA (.bool true)) (.str x4)) bB bt ⟨rfl,rfl⟩)
abbrev wz:av:=(.seq (.rg [(aj 4 (.aS (.c (.str [])))),(aj 5 (.aS (.c (.bool false))))]) (.seq (.rg [(au 6 0),(au 7 1),(aj 8 (.call (.c (.fn 66 [])) [(.t 6),(.t 7)])),(aj 9 (.ext (.t 8) 0)),(aj 10 (.ext (.t 8) 1)),(aP 4 9),(aP 5 10)]) .ret))
theorem wA:bu Tryz.prog 27 11 [(.tmp 4),(.tmp 5)] (erase wz):=⟨Tryz.f27,_,rfl,by decide,rfl,by kernel_rfl,rfl,rfl⟩
abbrev wB:List Nat:=[0,1,4,5]
def strings_CutPrefix (s1:List UInt8) (dB:List UInt8):Option ((List UInt8)×Bool):=
 (stringslite_CutPrefix s1 dB).bind fun (r3,r4)=>some (r3,r4)
theorem vt {s1:List UInt8} {dB:List UInt8} {H0:AH} {aJ:List UInt8} {fU:Bool} (h:strings_CutPrefix s1 dB=some (aJ,fU)):
 ay Tryz.prog 27 [(.str s1),(.str dB)] H0 fun v H'=>v=(.bz [(.str aJ),(.bool fU)])∧H'=H0:=by
 refine eC wA wB fun hcl K0 aO=> ?_
 rw [strings_CutPrefix.eq_1] at h
 refine aG ?_
 obtain ⟨⟨r3,r4⟩,hy1,h⟩:=ak h
 dsimp only at h
 refine aX aq (qB hy1) ?_
 refine aG ?_
 obtain ⟨rfl,rfl⟩:=jA h
 exact aO _ _ _ bC (aK hcl (br (br bA (.bool r4)) (.str r3)) bB bt ⟨rfl,rfl⟩)
abbrev jC:av:=(.rg [(au 3 0),(aj 4 (.iI (.t 3))),(aj 5 (.bO (.t 4) 2)),(aj 6 (.ld (.t 5) none)),(au 7 6),(az 8 (.mv (.t 0)) 7 false),(az 9 (.iI (.t 8)) 7 false),(az 10 (.bO (.t 9) 1) 7 false),(az 11 (.ld (.t 10) none) 7 false),(az 12 (.mv (.t 0)) 7 false),(az 13 (.iI (.t 12)) 7 false),(az 14 (.bO (.t 13) 0) 7 false),(az 15 (.ld (.t 14) none) 7 false),(az 16 (.lens (.t 15)) 7 false),(az 17 (.bin .geq (.t 11) (.t 16)) 7 false),(aj 18 (.pick (.t 7) (.c (.bool true)) (.t 17)))])
abbrev uo:av:=(.seq (.rg [(aj 2 (.aS (.c (b8 0))))]) (.seq (.seq (.sem (erase jC)) (.cond (.t 18) (.seq (.rg [(aj 2 (.aS (.c (b8 0))))]) .ret) .skip)) (.seq (.rg [(au 19 0),(aj 20 (.iI (.t 19))),(aj 21 (.bO (.t 20) 0)),(aj 22 (.ld (.t 21) none)),(au 23 0),(aj 24 (.iI (.t 23))),(aj 25 (.bO (.t 24) 1)),(aj 26 (.ld (.t 25) none)),(aj 27 (.ixs (.t 22) (.t 26))),(aP 2 27)]) .ret)))
theorem uq:bu Tryz.prog 131 28 [(.tmp 2)] (erase uo):=⟨Tryz.f131,_,rfl,by decide,rfl,by kernel_rfl,rfl,rfl⟩
abbrev lC:List Nat:=[0,2,18]
def bw (x1:aA):Option (UInt8):=
 (if (x1.bad||(decide ((x1.s.length:Int)≤x1.cN))) then
  some 0
 else
  (idx x1.s x1.cN).bind fun x2=>some x2)
theorem pL {x1:aA} {H:AH} {K:Exit→Env→AH→Prop}
 (kn:K .normal [(0,(.ep (.agg [(.str x1.s),(.int .i64 x1.cN),(.bool x1.bad)]) 0)),(18,(.bool (x1.bad||(decide ((x1.s.length:Int)≤x1.cN)))))] H):
 AX Tryz.prog lC 28 H.length (erase jC) K [(0,(.ep (.agg [(.str x1.s),(.int .i64 x1.cN),(.bool x1.bad)]) 0))] H:=by
 refine cU fun K' hK=> ?_
 refine aG ?_
 refine ob (fun hy1=> ?_) fun hy1=> ?_
 · refine aW hy1 ?_
   exact hK _ _ _ _ _ (fq hy1) aq kn
 · refine aW hy1 ?_
   exact hK _ _ _ _ _ (fq hy1) aq kn
theorem cm {x1:aA} {H0:AH} {aJ:UInt8} (h:bw x1=some aJ):
 ay Tryz.prog 131 [(.ep (.agg [(.str x1.s),(.int .i64 x1.cN),(.bool x1.bad)]) 0)] H0 fun v H'=>v=(b8 aJ)∧H'=H0:=by
 refine eC uq lC fun hcl K0 aO=> ?_
 rw [bw.eq_1] at h
 refine aG ?_
 refine bS aq (pL (x1:=x1) ?_)
 refine aG ?_
 refine b7 h (fun aU h=> ?_) fun aU h=> ?_
 · refine aG ?_
   obtain rfl:=aE h
   exact aO _ _ _ bC (aK hcl (br bA (b8 0)) bB bt ⟨rfl,rfl⟩)
 · obtain ⟨x2,bp,h⟩:=ak h
   refine aW bp ?_
   obtain rfl:=aE h
   exact aO _ _ _ bC (aK hcl (br bA (b8 x2)) bB bt ⟨rfl,rfl⟩)
abbrev vu:av:=(.seq (.rg [(aj 4 (.aS (.c (.bool false))))]) (.seq (.seq (.rg [(au 5 0),(aj 6 (.call (.c (.fn 131 [])) [(.t 5)])),(au 7 1),(aj 8 (.bin .neq (.t 6) (.t 7)))]) (.cond (.t 8) (.seq (.rg [(aj 4 (.aS (.c (.bool false))))]) .ret) .skip)) (.seq (.rg [(au 9 0),(aj 10 (.iI (.t 9))),(aj 11 (.bO (.t 10) 1)),(aj 12 (.ld (.t 11) none)),(aj 13 (.bin .add (.t 12) (.c (.int .i64 1)))),(aj 14 (.iI (.t 9))),(aj 15 (.bO (.t 14) 1)),(iN (.st (.t 15) (.t 13) 1))]) (.seq (.rg [(aj 4 (.aS (.c (.bool true))))]) .ret))))
theorem vv:bu Tryz.prog 99 16 [(.tmp 4)] (erase vu):=⟨Tryz.f99,_,rfl,by decide,rfl,by kernel_rfl,rfl,rfl⟩
abbrev vw:List Nat:=[0,1,4,8]
def bJ (x2:aA) (c3:UInt8):Option (Bool×aA):=
 (bw x2).bind fun r4=>
 (if (!decide (r4=c3)) then
  some (false,x2)
 else
  some (true,(aA.mk x2.s (IntKind.wrap .i64 (x2.cN+1)) x2.bad)))
theorem eo {x2:aA} {c3:UInt8} {q1:Nat} {H0:AH} (ai:H0[q1]? =some [(.str x2.s),(.int .i64 x2.cN),(.bool x2.bad)]) {aJ:Bool} {fU:aA} (h:bJ x2 c3=some (aJ,fU)):
 ay Tryz.prog 99 [(.ptr q1 0),(b8 c3)] H0 fun v H'=>v=(.bool aJ)∧H'=(H0.set q1 [(.str fU.s),(.int .i64 fU.cN),(.bool fU.bad)]):=by
 have bf:=aY ai
 refine kO vv vw [q1] fun hcl K0 aO H hH hfr=> ?_
 rw [←hH] at ai
 clear hH
 have hle:=hfr.le
 have BF:=aY ai
 rw [bJ.eq_1] at h
 refine aF ai ?_
 obtain ⟨r4,hy1,h⟩:=ak h
 refine KN (cm hy1) (lW.cons (.one _ _ (gV.Cn (ai.trans rfl) KO)) (lW.nil)) ?_
 refine aF ai ?_
 refine b7 h (fun aU h=> ?_) fun aU h=> ?_
 · refine aF ai ?_
   obtain ⟨rfl,rfl⟩:=jA h
   exact aO _ _ _ bC (iU hfr hcl (br bA (.bool false)) bB bt (ai.trans rfl) dD DV A9 ⟨rfl,rfl⟩)
 · refine aF ai ?_
   obtain ⟨rfl,rfl⟩:=jA h
   exact aO _ _ _ bC (iU (cM _ hfr) hcl (br bA (.bool true)) bB bt eB dD DV A9 ⟨rfl,rfl⟩)
abbrev Gu:av:=(.rg [(au 4 0),(au 5 0),(aj 6 (.iI (.t 5))),(aj 7 (.bO (.t 6) 2)),(aj 8 (.ld (.t 7) none)),(au 9 8),(az 10 (.mv (.t 0)) 9 false),(az 11 (.mv (.t 1)) 9 false),(az 12 (.call (.c (.fn 99 [])) [(.t 10),(.t 11)]) 9 false),(az 13 (.un .not (.t 12)) 9 false),(aj 14 (.pick (.t 9) (.c (.bool true)) (.t 13))),(aj 15 (.iI (.t 4))),(aj 16 (.bO (.t 15) 2)),(iN (.st (.t 16) (.t 14) 1))])
abbrev wC:av:=(.rg [(au 4 0),(au 5 0),(aj 6 (.iI (.t 5))),(aj 7 (.bO (.t 6) 2)),(aj 8 (.ld (.t 7) none)),(au 9 8),(az 10 (.mv (.t 0)) 9 false),(az 11 (.mv (.t 1)) 9 false),(az 12 (.call (.c (.fn 99 [])) [(.t 10),(.t 11)]) 9 false),(az 13 (.un .not (.t 12)) 9 false),(aj 14 (.pick (.t 9) (.c (.bool true)) (.t 13))),(aj 15 (.iI (.t 4))),(aj 16 (.bO (.t 15) 2)),(iN (.st (.t 16) (.t 14) 1))])
theorem wD:bu Tryz.prog 98 17 [] (erase wC):=⟨Tryz.f98,_,rfl,by decide,rfl,by kernel_rfl,rfl,rfl⟩
abbrev wE:List Nat:=[0,1]
def bg (x2:aA) (c3:UInt8):Option (aA):=
 (if x2.bad then
  some (aA.mk x2.s x2.cN true)
 else
  (bJ x2 c3).bind fun (r4,r5)=>some (aA.mk r5.s r5.cN (!r4)))
theorem dJ {x2:aA} {c3:UInt8} {q1:Nat} {H0:AH} (ai:H0[q1]? =some [(.str x2.s),(.int .i64 x2.cN),(.bool x2.bad)]) {aJ:aA} (h:bg x2 c3=some aJ):
 ay Tryz.prog 98 [(.ptr q1 0),(b8 c3)] H0 fun v H'=>v=(.bz [])∧H'=(H0.set q1 [(.str aJ.s),(.int .i64 aJ.cN),(.bool aJ.bad)]):=by
 have bf:=aY ai
 refine kO wD wE [q1] fun hcl K0 aO H hH hfr=> ?_
 rw [←hH] at ai
 clear hH
 have hle:=hfr.le
 have BF:=aY ai
 rw [bg.eq_1] at h
 refine aF ai ?_
 refine b6 h (fun hy1 h=> ?_) fun hy1 h=> ?_
 · refine aF (aH hy1 ai) ?_
   obtain rfl:=aE h
   exact aO _ _ _ Ya (iU (cM _ hfr) hcl bA bB bt eB dD DV A9 ⟨rfl,rfl⟩)
 · refine aF (aH hy1 ai) ?_
   obtain ⟨⟨r4,r5⟩,aU,h⟩:=ak h
   dsimp only at h
   refine aX aq (eo (ai.trans rfl) aU) ?_
   refine aF ai ?_
   obtain rfl:=aE h
   exact aO _ _ _ Ya (iU (cM _ (cM _ hfr)) hcl bA bB bt eB dD DV A9 ⟨rfl,rfl⟩)
abbrev jD:av:=(.rg [(au 12 4),(aj 13 (.call (.c (.fn 134 [])) [(.t 12)])),(au 14 13),(az 15 (.mv (.t 4)) 14 false),(az 16 (.bin .eql (.t 15) (.c (b8 45))) 14 false),(aj 17 (.pick (.t 14) (.c (.bool true)) (.t 16))),(au 18 17),(az 19 (.mv (.t 4)) 18 false),(az 20 (.bin .eql (.t 19) (.c (b8 46))) 18 false),(aj 21 (.pick (.t 18) (.c (.bool true)) (.t 20))),(au 22 21),(az 23 (.mv (.t 4)) 22 false),(az 24 (.bin .eql (.t 23) (.c (b8 91))) 22 false),(aj 25 (.pick (.t 22) (.c (.bool true)) (.t 24))),(au 26 25),(az 27 (.mv (.t 4)) 26 false),(az 28 (.bin .eql (.t 27) (.c (b8 93))) 26 false),(aj 29 (.pick (.t 26) (.c (.bool true)) (.t 28)))])
abbrev jd:av:=(.seq (.seq (.sem (erase jD)) (.cond (.t 29) .skip (.exit 0))) (.seq (.blk 1 (.rg [(au 32 0),(aj 33 (.iI (.t 32))),(aj 34 (.bO (.t 33) 1)),(aj 35 (.ld (.t 34) none)),(aj 36 (.bin .add (.t 35) (.c (.int .i64 1)))),(aj 37 (.iI (.t 32))),(aj 38 (.bO (.t 37) 1)),(iN (.st (.t 38) (.t 36) 1))])) (.rg [(au 30 0),(aj 31 (.call (.c (.fn 131 [])) [(.t 30)])),(aP 4 31)])))
abbrev jE:av:=(.rg [(au 49 0),(au 50 0),(aj 51 (.iI (.t 50))),(aj 52 (.bO (.t 51) 2)),(aj 53 (.ld (.t 52) none)),(au 54 53),(az 55 (.mv (.t 5)) 54 false),(az 56 (.call (.c (.fn 71 [])) [(.t 55)]) 54 false),(az 57 (.un .not (.t 56)) 54 false),(aj 58 (.pick (.t 54) (.c (.bool true)) (.t 57))),(aj 59 (.iI (.t 49))),(aj 60 (.bO (.t 59) 2)),(iN (.st (.t 60) (.t 58) 1))])
abbrev ur:av:=(.seq (.rg [(aj 2 (.aS (.c (.str []))))]) (.seq (.rg [(au 6 0),(aj 7 (.iI (.t 6))),(aj 8 (.bO (.t 7) 1)),(aj 9 (.ld (.t 8) none)),(aP 3 9)]) (.seq (.seq (.rg [(au 10 0),(aj 11 (.call (.c (.fn 131 [])) [(.t 10)])),(aP 4 11)]) (.blk 0 (.loop (erase jd)))) (.seq (.rg [(au 39 0),(aj 40 (.iI (.t 39))),(aj 41 (.bO (.t 40) 0)),(aj 42 (.ld (.t 41) none)),(au 43 3),(au 44 0),(aj 45 (.iI (.t 44))),(aj 46 (.bO (.t 45) 1)),(aj 47 (.ld (.t 46) none)),(aj 48 (.xd (.t 42) (some (.t 43)) (some (.t 47)))),(aP 5 48)]) (.seq (.sem (erase jE)) (.seq (.rg [(au 61 5),(aP 2 61)]) .ret))))))
theorem uu:bu Tryz.prog 102 62 [(.tmp 2)] (erase ur):=⟨Tryz.f102,_,rfl,by decide,rfl,by kernel_rfl,rfl,rfl⟩
abbrev fD:List Nat:=[0,2,3,4,5,29]
def dW (c4:UInt8):Option (Bool):=
 (gX c4).bind fun r6=>
 (if r6 then
  some true
 else
  (if (decide (c4=45)) then
   some true
  else
   (if (decide (c4=46)) then
    some true
   else
    (if (decide (c4=91)) then
     some true
    else
     some (decide (c4=93))))))
def dX:(UInt8×aA)→Option (St ((List UInt8)×aA) aA (UInt8×aA))
 |(c4,s5)=>
  (dW c4).bind fun t8=>
  (if t8 then
   (bw (aA.mk s5.s (IntKind.wrap .i64 (s5.cN+1)) s5.bad)).bind fun r9=>
   some (.dz (r9,(aA.mk s5.s (IntKind.wrap .i64 (s5.cN+1)) s5.bad)))
  else
   some (.eZ s5))
def dY (F:Nat) (uv:aA) (om:List UInt8):Option (aA):=
 (if uv.bad then
  some (aA.mk uv.s uv.cN true)
 else
  (jo F om).bind fun gK=>some (aA.mk uv.s uv.cN (!gK)))
def bU (F:Nat) (x2:aA):Option ((List UInt8)×aA):=
 (bw x2).bind fun r3=>
 ((iter dX F (r3,x2)).bind fun Vv=>
 match Vv with
 | .inr uv=>
   (sub uv.s x2.cN uv.cN).bind fun om=>
   (dY F uv om).bind fun NM=>
   some (om,NM)
 | .inl _=>none)
theorem pM {c4:UInt8} {q1:Nat} {x2:aA} {s5:aA} {H0 H:AH} (hfr:Fr H0 H0.length [q1] H) (ai:H[q1]? =some [(.str s5.s),(.int .i64 s5.cN),(.bool s5.bad)]) (hi0:q1<H0.length) {K:Exit→Env→AH→Prop} {t7:Bool}
 (h:dW c4=some t7)
 (kn:∀H':AH,Fr H0 H0.length [q1] H'→H'[q1]? =some [(.str s5.s),(.int .i64 s5.cN),(.bool s5.bad)]→K .normal [(0,(.ptr q1 0)),(3,(.int .i64 x2.cN)),(29,(.bool t7))] H'):
 AX Tryz.prog fD 62 H0.length (erase jD) K [(0,(.ptr q1 0)),(3,(.int .i64 x2.cN)),(4,(b8 c4))] H:=by
 refine cU fun K' hK=> ?_
 have hle:=hfr.le
 have bf:=aY ai
 rw [dW.eq_1] at h
 refine aF ai ?_
 obtain ⟨r6,aU,h⟩:=ak h
 refine aX aq (nj aU) ?_
 refine aF ai ?_
 refine b6 h (fun bp h=> ?_) fun bp h=> ?_
 · refine aF (aH bp ai) ?_
   obtain rfl:=aE h
   exact hK _ _ _ _ _ aN aq (kn _ hfr (ai.trans rfl))
 · refine aF (aH bp ai) ?_
   refine b6 h (fun bn h=> ?_) fun bn h=> ?_
   · refine aF (aH bn ai) ?_
     obtain rfl:=aE h
     exact hK _ _ _ _ _ aN aq (kn _ hfr (ai.trans rfl))
   · refine aF (aH bn ai) ?_
     refine b6 h (fun bG h=> ?_) fun bG h=> ?_
     · refine aF (aH bG ai) ?_
       obtain rfl:=aE h
       exact hK _ _ _ _ _ aN aq (kn _ hfr (ai.trans rfl))
     · refine aF (aH bG ai) ?_
       refine b6 h (fun bY h=> ?_) fun bY h=> ?_
       · refine aF (aH bY ai) ?_
         obtain rfl:=aE h
         exact hK _ _ _ _ _ aN aq (kn _ hfr (ai.trans rfl))
       · refine aF (aH bY ai) ?_
         obtain rfl:=aE h
         exact hK _ _ _ _ _ aN aq (kn _ hfr (ai.trans rfl))
theorem pN {F:Nat} {c4:UInt8} {s5:aA} {q1:Nat} {x2:aA} {H0 H:AH} (hfr:Fr H0 H0.length [q1] H) (ai:H[q1]? =some [(.str s5.s),(.int .i64 s5.cN),(.bool s5.bad)]) (hi0:q1<H0.length) {K:Exit→Env→AH→Prop} {o:((List UInt8)×aA)⊕(aA)}
 (h:iter dX F (c4,s5)=some o)
 (dN:∀o':aA,o= .inr o'→∀H':AH,Fr H0 H0.length [q1] H'→H'[q1]? =some [(.str o'.s),(.int .i64 o'.cN),(.bool o'.bad)]→K (.exit 0) [(0,(.ptr q1 0)),(3,(.int .i64 x2.cN))] H'):
 AX Tryz.prog fD 62 H0.length (.loop (erase jd)) K [(0,(.ptr q1 0)),(3,(.int .i64 x2.cN)),(4,(b8 c4))] H:=by
 refine jl (fun s e H1=>match s with|(c4,s5)=>e=[(0,(.ptr q1 0)),(3,(.int .i64 x2.cN)),(4,(b8 c4))]∧Fr H0 H0.length [q1] H1∧H1[q1]? =some [(.str s5.s),(.int .i64 s5.cN),(.bool s5.bad)]) h ⟨rfl,hfr,ai⟩ ?_
 rintro K' ⟨c4,s5⟩ st e H ⟨rfl,hfr,ai⟩ h hN hB hR hX
 have hle:=hfr.le
 have bf:=aY ai
 rw [dX.eq_1] at h
 refine aF ai ?_
 obtain ⟨t8,cK,h⟩:=ak h
 refine bS aq (pM (q1:=q1) (x2:=x2) (s5:=s5) hfr (ai.trans rfl) dD cK ?_)
 intro H hfr ai
 have hle:=hfr.le
 have bf:=aY ai
 refine aF ai ?_
 refine b7 h (fun cE h=> ?_) fun cE h=> ?_
 · refine aF ai ?_
   obtain ⟨r9,dO,h⟩:=ak h
   refine KN (cm dO) (lW.cons (.one _ _ (gV.Cn eB KO)) (lW.nil)) ?_
   refine aF ai ?_
   obtain rfl:=aE h
   exact hN _ rfl _ _ _ _ aN aq ⟨rfl,(cM _ hfr),eB⟩
 · refine aF ai ?_
   obtain rfl:=aE h
   exact hX _ _ _ _ _ eK aN aq (dN _ (hB _ rfl) _ hfr (ai.trans rfl))
theorem pO {F:Nat} {uv:aA} {om:List UInt8} {q1:Nat} {H0 H:AH} (hfr:Fr H0 H0.length [q1] H) (ai:H[q1]? =some [(.str uv.s),(.int .i64 uv.cN),(.bool uv.bad)]) (hi0:q1<H0.length) {K:Exit→Env→AH→Prop} {tA:aA}
 (h:dY F uv om=some tA)
 (kn:∀H':AH,Fr H0 H0.length [q1] H'→H'[q1]? =some [(.str tA.s),(.int .i64 tA.cN),(.bool tA.bad)]→K .normal [(5,(.str om))] H'):
 AX Tryz.prog fD 62 H0.length (erase jE) K [(0,(.ptr q1 0)),(5,(.str om))] H:=by
 refine cU fun K' hK=> ?_
 have hle:=hfr.le
 have bf:=aY ai
 rw [dY.eq_1] at h
 refine aF ai ?_
 refine b6 h (fun dI h=> ?_) fun dI h=> ?_
 · refine aF (aH dI ai) ?_
   obtain rfl:=aE h
   exact hK _ _ _ _ _ aN aq (kn _ (cM _ hfr) eB)
 · refine aF (aH dI ai) ?_
   obtain ⟨gK,dx,h⟩:=ak h
   refine aX aq (uM dx) ?_
   refine aF ai ?_
   obtain rfl:=aE h
   exact hK _ _ _ _ _ aN aq (kn _ (cM _ hfr) eB)
theorem kK {F:Nat} {x2:aA} {q1:Nat} {H0:AH} (ai:H0[q1]? =some [(.str x2.s),(.int .i64 x2.cN),(.bool x2.bad)]) {aJ:List UInt8} {fU:aA} (h:bU F x2=some (aJ,fU)):
 ay Tryz.prog 102 [(.ptr q1 0)] H0 fun v H'=>v=(.str aJ)∧H'=(H0.set q1 [(.str fU.s),(.int .i64 fU.cN),(.bool fU.bad)]):=by
 have bf:=aY ai
 refine kO uu fD [q1] fun hcl K0 aO H hH hfr=> ?_
 rw [←hH] at ai
 clear hH
 have hle:=hfr.le
 have BF:=aY ai
 rw [bU.eq_1] at h
 refine aF ai ?_
 obtain ⟨r3,hy1,h⟩:=ak h
 refine KN (cm hy1) (lW.cons (.one _ _ (gV.Cn (ai.trans rfl) KO)) (lW.nil)) ?_
 refine aF ai ?_
 obtain ⟨Vv,cT,h⟩:=ak h
 refine bS aq (pN (q1:=q1) (x2:=x2) hfr (ai.trans rfl) dD cT ?_)
 · rintro uv rfl H hfr ai
   try dsimp only at h ai
   have hle:=hfr.le
   have bf:=aY ai
   refine aF ai ?_
   obtain ⟨om,cP,h⟩:=ak h
   refine aF (aH cP ai) ?_
   obtain ⟨NM,gz,h⟩:=ak h
   refine bS aq (pO (q1:=q1) hfr (ai.trans rfl) dD gz ?_)
   intro H hfr ai
   have hle:=hfr.le
   have bf:=aY ai
   refine aF ai ?_
   obtain ⟨rfl,rfl⟩:=jA h
   exact aO _ _ _ bC (iU hfr hcl (br bA (.str om)) bB bt (ai.trans rfl) dD DV A9 ⟨rfl,rfl⟩)
abbrev jY:av:=(.rg [(au 3 0),(aj 4 (.call (.c (.fn 131 [])) [(.t 3)])),(aj 5 (.bin .eql (.t 4) (.c (b8 64)))),(au 6 5),(az 7 (.mv (.t 2)) 6 false),(az 8 (.un .not (.t 7)) 6 false),(aj 9 (.pick (.t 6) (.c (.bool true)) (.t 8)))])
abbrev jF:av:=(.seq (.seq (.sem (erase jY)) (.cond (.t 9) .skip (.exit 0))) (.seq (.blk 1 (.seq (.rg [(au 10 0),(aj 11 (.call (.c (.fn 98 [])) [(.t 10),(.c (b8 64))]))]) (.seq (.rg [(au 12 0),(aj 13 (.call (.c (.fn 102 [])) [(.t 12)]))]) (.seq (.rg [(au 14 0),(aj 15 (.call (.c (.fn 99 [])) [(.t 14),(.c (b8 44))])),(aj 16 (.un .not (.t 15)))]) (.cond (.t 16) (.seq (.rg [(au 17 0),(aj 18 (.call (.c (.fn 98 [])) [(.t 17),(.c (b8 58))]))]) .ret) .skip))))) (.rg [(aj 2 (.aS (.c (.bool false))))])))
abbrev vz:av:=(.seq (.rg [(aj 2 (.aS (.c (.bool true))))]) (.blk 0 (.loop (erase jF))))
theorem vA:bu Tryz.prog 100 19 [] (erase vz):=⟨Tryz.f100,_,rfl,by decide,rfl,by kernel_rfl,rfl,rfl⟩
abbrev iO:List Nat:=[0,2,9,16]
def cv (s4:aA) (j9:Bool):Option (Bool):=
 (bw s4).bind fun r5=>
 (if (decide (r5=64)) then
  some true
 else
  some (!j9))
def bE (F:Nat):(Bool×aA)→Option (St aA aA (Bool×aA))
 |(j9,s4)=>
  (cv s4 j9).bind fun t7=>
  (if t7 then
   (bg s4 64).bind fun r8=>
   (bU F r8).bind fun (r9,gH)=>
   (bJ gH 44).bind fun (eM,gj)=>
   (if (!eM) then
    (bg gj 58).bind fun gK=>some (.ret gK)
   else
    some (.dz (false,gj)))
  else
   some (.eZ s4))
def dF (F:Nat) (x2:aA):Option (aA):=
 ((iter (bE F) F (true,x2)).bind fun o18=>
 match o18 with
 | .inr RQ=>
   some RQ
 | .inl sC=>
   some sC)
theorem qC {s4:aA} {j9:Bool} {q1:Nat} {H0 H:AH} (hfr:Fr H0 H0.length [q1] H) (ai:H[q1]? =some [(.str s4.s),(.int .i64 s4.cN),(.bool s4.bad)]) (hi0:q1<H0.length) {K:Exit→Env→AH→Prop} {t6:Bool}
 (h:cv s4 j9=some t6)
 (kn:∀H':AH,Fr H0 H0.length [q1] H'→H'[q1]? =some [(.str s4.s),(.int .i64 s4.cN),(.bool s4.bad)]→K .normal [(0,(.ptr q1 0)),(9,(.bool t6))] H'):
 AX Tryz.prog iO 19 H0.length (erase jY) K [(0,(.ptr q1 0)),(2,(.bool j9))] H:=by
 refine cU fun K' hK=> ?_
 have hle:=hfr.le
 have bf:=aY ai
 rw [cv.eq_1] at h
 refine aF ai ?_
 obtain ⟨r5,hy1,h⟩:=ak h
 refine KN (cm hy1) (lW.cons (.one _ _ (gV.Cn (ai.trans rfl) KO)) (lW.nil)) ?_
 refine aF ai ?_
 refine b6 h (fun aU h=> ?_) fun aU h=> ?_
 · refine aF (aH aU ai) ?_
   obtain rfl:=aE h
   exact hK _ _ _ _ _ aN aq (kn _ hfr (ai.trans rfl))
 · refine aF (aH aU ai) ?_
   obtain rfl:=aE h
   exact hK _ _ _ _ _ aN aq (kn _ hfr (ai.trans rfl))
theorem qD {F:Nat} {s4:aA} {j9:Bool} {q1:Nat} {H0 H:AH} (hfr:Fr H0 H0.length [q1] H) (ai:H[q1]? =some [(.str s4.s),(.int .i64 s4.cN),(.bool s4.bad)]) (hi0:q1<H0.length) {K:Exit→Env→AH→Prop} {o:(aA)⊕(aA)}
 (h:iter (bE F) F (j9,s4)=some o)
 (dN:∀o':aA,o= .inr o'→∀H':AH,Fr H0 H0.length [q1] H'→H'[q1]? =some [(.str o'.s),(.int .i64 o'.cN),(.bool o'.bad)]→K (.exit 0) [] H')
 (kr:∀o':aA,o= .inl o'→∀H':AH,Fr H0 H0.length [q1] H'→H'[q1]? =some [(.str o'.s),(.int .i64 o'.cN),(.bool o'.bad)]→K .ret [] H'):
 AX Tryz.prog iO 19 H0.length (.loop (erase jF)) K [(0,(.ptr q1 0)),(2,(.bool j9))] H:=by
 refine jl (fun s e H1=>match s with|(j9,s4)=>e=[(0,(.ptr q1 0)),(2,(.bool j9))]∧Fr H0 H0.length [q1] H1∧H1[q1]? =some [(.str s4.s),(.int .i64 s4.cN),(.bool s4.bad)]) h ⟨rfl,hfr,ai⟩ ?_
 rintro K' ⟨j9,s4⟩ st e H ⟨rfl,hfr,ai⟩ h hN hB hR hX
 have hle:=hfr.le
 have bf:=aY ai
 rw [bE.eq_1] at h
 refine aF ai ?_
 obtain ⟨t7,bp,h⟩:=ak h
 refine bS aq (qC (q1:=q1) hfr (ai.trans rfl) dD bp ?_)
 intro H hfr ai
 have hle:=hfr.le
 have bf:=aY ai
 refine aF ai ?_
 refine b7 h (fun bn h=> ?_) fun bn h=> ?_
 · refine aF ai ?_
   obtain ⟨r8,bG,h⟩:=ak h
   refine aX aq (dJ (ai.trans rfl) bG) ?_
   refine aF ai ?_
   obtain ⟨⟨r9,gH⟩,bY,h⟩:=ak h
   dsimp only at h
   refine aX aq (kK (q1:=q1) eB bY) ?_
   refine aF ai ?_
   obtain ⟨⟨eM,gj⟩,cK,h⟩:=ak h
   dsimp only at h
   refine aX aq (eo (q1:=q1) eB cK) ?_
   refine aF ai ?_
   refine b7 h (fun cE h=> ?_) fun cE h=> ?_
   · refine aF ai ?_
     obtain ⟨gK,dO,h⟩:=ak h
     refine aX aq (dJ (q1:=q1) eB dO) ?_
     refine aF ai ?_
     obtain rfl:=aE h
     exact hX _ _ _ _ _ eK WE.nil aq (kr _ (hR _ rfl) _ (cM _ (cM _ (cM _ (cM _ hfr)))) eB)
   · refine aF ai ?_
     obtain rfl:=aE h
     exact hN _ rfl _ _ _ _ aN aq ⟨rfl,(cM _ (cM _ (cM _ hfr))),eB⟩
 · refine aF ai ?_
   obtain rfl:=aE h
   exact hX _ _ _ _ _ eK WE.nil aq (dN _ (hB _ rfl) _ hfr (ai.trans rfl))
theorem uw {F:Nat} {x2:aA} {q1:Nat} {H0:AH} (ai:H0[q1]? =some [(.str x2.s),(.int .i64 x2.cN),(.bool x2.bad)]) {aJ:aA} (h:dF F x2=some aJ):
 ay Tryz.prog 100 [(.ptr q1 0)] H0 fun v H'=>v=(.bz [])∧H'=(H0.set q1 [(.str aJ.s),(.int .i64 aJ.cN),(.bool aJ.bad)]):=by
 have bf:=aY ai
 refine kO vA iO [q1] fun hcl K0 aO H hH hfr=> ?_
 rw [←hH] at ai
 clear hH
 have hle:=hfr.le
 have BF:=aY ai
 rw [dF.eq_1] at h
 refine aF ai ?_
 obtain ⟨o18,cT,h⟩:=ak h
 refine bS aq (qD (q1:=q1) hfr (ai.trans rfl) dD cT ?_ ?_)
 · rintro RQ rfl H hfr ai
   try dsimp only at h ai
   have hle:=hfr.le
   have bf:=aY ai
   refine aF ai ?_
   obtain rfl:=aE h
   exact aO _ _ _ Ya (iU hfr hcl bA bB bt (ai.trans rfl) dD DV A9 ⟨rfl,rfl⟩)
 · rintro sC rfl H hfr ai
   try dsimp only at h ai
   have hle:=hfr.le
   have bf:=aY ai
   refine aF ai ?_
   obtain rfl:=aE h
   exact aO _ _ _ bC (iU hfr hcl bA bB bt (ai.trans rfl) dD DV A9 ⟨rfl,rfl⟩)
abbrev jG:av:=(.rg [(au 7 0),(aj 8 (.iI (.t 7))),(aj 9 (.bO (.t 8) 2)),(aj 10 (.ld (.t 9) none)),(aj 11 (.un .not (.t 10))),(au 12 11),(az 13 (.mv (.t 0)) 12 true),(az 14 (.call (.c (.fn 99 [])) [(.t 13),(.c (b8 34))]) 12 true),(az 15 (.un .not (.t 14)) 12 true),(aj 16 (.pick (.t 12) (.t 15) (.c (.bool false))))])
abbrev je:av:=(.seq (.seq (.sem (erase jG)) (.cond (.t 16) .skip (.exit 0))) (.blk 1 (.seq (.rg [(au 17 0),(aj 18 (.call (.c (.fn 99 [])) [(.t 17),(.c (b8 92))]))]) (.seq (.rg [(au 19 0),(aj 20 (.call (.c (.fn 131 [])) [(.t 19)])),(aP 4 20)]) (.seq (.seq (.rg [(au 21 4),(aj 22 (.call (.c (.fn 121 [])) [(.t 21)])),(aj 23 (.un .not (.t 22)))]) (.cond (.t 23) (.seq (.rg [(au 24 0),(aj 25 (.iI (.t 24))),(aj 26 (.bO (.t 25) 2)),(iN (.st (.t 26) (.c (.bool true)) 1))]) (.exit 0)) .skip)) (.seq (.rg [(au 27 0),(aj 28 (.iI (.t 27))),(aj 29 (.bO (.t 28) 1)),(aj 30 (.ld (.t 29) none)),(aj 31 (.bin .add (.t 30) (.c (.int .i64 1)))),(aj 32 (.iI (.t 27))),(aj 33 (.bO (.t 32) 1)),(iN (.st (.t 33) (.t 31) 1))]) (.rg [(au 34 3),(au 35 4),(aj 36 (.fS 1 [(.t 35)])),(aj 37 (.app 1 1 (.t 34) (.t 36))),(aP 3 37)])))))))
abbrev jH:av:=(.rg [(au 38 0),(au 39 0),(aj 40 (.iI (.t 39))),(aj 41 (.bO (.t 40) 2)),(aj 42 (.ld (.t 41) none)),(au 43 42),(az 44 (.mv (.t 3)) 43 false),(az 45 (.len (.t 44)) 43 false),(az 46 (.bin .eql (.t 45) (.c (.int .i64 0))) 43 false),(aj 47 (.pick (.t 43) (.c (.bool true)) (.t 46))),(aj 48 (.iI (.t 38))),(aj 49 (.bO (.t 48) 2)),(iN (.st (.t 49) (.t 47) 1))])
abbrev ux:av:=(.seq (.rg [(aj 2 (.aS (.c (.str []))))]) (.seq (.rg [(aj 3 (.aS (.c (.sl .ex 1 []))))]) (.seq (.rg [(au 5 0),(aj 6 (.call (.c (.fn 98 [])) [(.t 5),(.c (b8 34))]))]) (.seq (.blk 0 (.loop (erase je))) (.seq (.sem (erase jH)) (.seq (.rg [(au 50 3),(aj 51 (.iJ .bs (.t 50))),(aP 2 51)]) .ret))))))
theorem uy:bu Tryz.prog 132 52 [(.tmp 2)] (erase ux):=⟨Tryz.f132,_,rfl,by decide,rfl,by kernel_rfl,rfl,rfl⟩
abbrev fE:List Nat:=[0,2,3,4,16,23]
def de (s5:aA):Option (Bool×aA):=
 (if (!s5.bad) then
  (bJ s5 34).bind fun (r6,r7)=>some ((!r6),r7)
 else
  some (false,s5))
def bK:((List UInt8)×aA)→Option (St ((List UInt8)×aA) ((List UInt8)×aA) ((List UInt8)×aA))
 |(b4,s5)=>
  (de s5).bind fun (t10,uv)=>
  (if t10 then
   (bJ uv 92).bind fun (gj,gK)=>
   (bw gK).bind fun kB=>
   (jU kB).bind fun FQ=>
   (if (!FQ) then
    some (.eZ (b4,(aA.mk gK.s gK.cN true)))
   else
    (cF 1 b4 ([kB]:List UInt8)).bind fun FR=>
    some (.dz (FR,(aA.mk gK.s (IntKind.wrap .i64 (gK.cN+1)) gK.bad))))
  else
   some (.eZ (b4,uv)))
def dZ (BS:aA) (FT:List UInt8):Option (aA):=
 (if BS.bad then
  some (aA.mk BS.s BS.cN true)
 else
  some (aA.mk BS.s BS.cN (decide ((FT.length:Int)=0))))
def gl (F:Nat) (x2:aA):Option ((List UInt8)×aA):=
 (bg x2 34).bind fun r3=>
 ((iter bK F (([]:List UInt8),r3)).bind fun o23=>
 match o23 with
 | .inr (FT,BS)=>
   (dZ BS FT).bind fun s22=>
   some (FT,s22)
 | .inl _=>none)
theorem pP {s5:aA} {q1:Nat} {b4:List UInt8} {H0 H:AH} (hfr:Fr H0 H0.length [q1] H) (ai:H[q1]? =some [(.str s5.s),(.int .i64 s5.cN),(.bool s5.bad)]) (hi0:q1<H0.length) {K:Exit→Env→AH→Prop} {t8:Bool} {s9:aA}
 (h:de s5=some (t8,s9))
 (kn:∀H':AH,Fr H0 H0.length [q1] H'→H'[q1]? =some [(.str s9.s),(.int .i64 s9.cN),(.bool s9.bad)]→K .normal [(0,(.ptr q1 0)),(3,(.sl .own 1 (ml b8 b4))),(16,(.bool t8))] H'):
 AX Tryz.prog fE 52 H0.length (erase jG) K [(0,(.ptr q1 0)),(3,(.sl .own 1 (ml b8 b4)))] H:=by
 refine cU fun K' hK=> ?_
 have hle:=hfr.le
 have bf:=aY ai
 rw [de.eq_1] at h
 refine aF ai ?_
 refine b6 h (fun aU h=> ?_) fun aU h=> ?_
 · refine aF (aH aU ai) ?_
   obtain ⟨⟨r6,r7⟩,bp,h⟩:=ak h
   dsimp only at h
   refine aX aq (eo (ai.trans rfl) bp) ?_
   refine aF ai ?_
   obtain ⟨rfl,rfl⟩:=jA h
   exact hK _ _ _ _ _ aN aq (kn _ (cM _ hfr) eB)
 · refine aF (aH aU ai) ?_
   obtain ⟨rfl,rfl⟩:=jA h
   exact hK _ _ _ _ _ aN aq (kn _ hfr (ai.trans rfl))
theorem pQ {F:Nat} {s5:aA} {b4:List UInt8} {q1:Nat} {H0 H:AH} (hfr:Fr H0 H0.length [q1] H) (ai:H[q1]? =some [(.str s5.s),(.int .i64 s5.cN),(.bool s5.bad)]) (hi0:q1<H0.length) {K:Exit→Env→AH→Prop} {o:((List UInt8)×aA)⊕((List UInt8)×aA)}
 (h:iter bK F (b4,s5)=some o)
 (dN:∀o':(List UInt8)×aA,o= .inr o'→∀H':AH,Fr H0 H0.length [q1] H'→H'[q1]? =some [(.str o'.2.s),(.int .i64 o'.2.cN),(.bool o'.2.bad)]→K (.exit 0) [(0,(.ptr q1 0)),(3,(.sl .own 1 (ml b8 o'.1)))] H'):
 AX Tryz.prog fE 52 H0.length (.loop (erase je)) K [(0,(.ptr q1 0)),(3,(.sl .own 1 (ml b8 b4)))] H:=by
 refine jl (fun s e H1=>match s with|(b4,s5)=>e=[(0,(.ptr q1 0)),(3,(.sl .own 1 (ml b8 b4)))]∧Fr H0 H0.length [q1] H1∧H1[q1]? =some [(.str s5.s),(.int .i64 s5.cN),(.bool s5.bad)]) h ⟨rfl,hfr,ai⟩ ?_
 rintro K' ⟨b4,s5⟩ st e H ⟨rfl,hfr,ai⟩ h hN hB hR hX
 have hle:=hfr.le
 have bf:=aY ai
 rw [bK.eq_1] at h
 refine aF ai ?_
 obtain ⟨⟨t10,uv⟩,bn,h⟩:=ak h
 dsimp only at h
 refine bS aq (pP (q1:=q1) (b4:=b4) hfr (ai.trans rfl) dD bn ?_)
 intro H hfr ai
 have hle:=hfr.le
 have bf:=aY ai
 refine aF ai ?_
 refine b7 h (fun bG h=> ?_) fun bG h=> ?_
 · refine aF ai ?_
   obtain ⟨⟨gj,gK⟩,bY,h⟩:=ak h
   dsimp only at h
   refine aX aq (eo (ai.trans rfl) bY) ?_
   refine aF ai ?_
   obtain ⟨kB,cK,h⟩:=ak h
   refine KN (cm cK) (lW.cons (.one _ _ (gV.Cn eB KO)) (lW.nil)) ?_
   refine aF ai ?_
   obtain ⟨FQ,cE,h⟩:=ak h
   refine aX aq (sS cE) ?_
   refine aF ai ?_
   refine b7 h (fun dO h=> ?_) fun dO h=> ?_
   · refine aF ai ?_
     obtain rfl:=aE h
     exact hX _ _ _ _ _ eK aN aq (dN _ (hB _ rfl) _ (cM _ (cM _ hfr)) eB)
   · obtain ⟨FR,cT,h⟩:=ak h
     have cP:cF 1 (ml b8 b4) [(b8 kB)]=some (ml b8 FR):=eS (f:=b8) cT
     refine aF (aH cP ai) ?_
     obtain rfl:=aE h
     exact hN _ rfl _ _ _ _ aN aq ⟨rfl,(cM _ (cM _ hfr)),eB⟩
 · refine aF ai ?_
   obtain rfl:=aE h
   exact hX _ _ _ _ _ eK aN aq (dN _ (hB _ rfl) _ hfr (ai.trans rfl))
theorem pR {BS:aA} {FT:List UInt8} {q1:Nat} {H0 H:AH} (hfr:Fr H0 H0.length [q1] H) (ai:H[q1]? =some [(.str BS.s),(.int .i64 BS.cN),(.bool BS.bad)]) (hi0:q1<H0.length) {K:Exit→Env→AH→Prop} {Yk:aA}
 (h:dZ BS FT=some Yk)
 (kn:∀H':AH,Fr H0 H0.length [q1] H'→H'[q1]? =some [(.str Yk.s),(.int .i64 Yk.cN),(.bool Yk.bad)]→K .normal [(3,(.sl .own 1 (ml b8 FT)))] H'):
 AX Tryz.prog fE 52 H0.length (erase jH) K [(0,(.ptr q1 0)),(3,(.sl .own 1 (ml b8 FT)))] H:=by
 refine cU fun K' hK=> ?_
 have hle:=hfr.le
 have bf:=aY ai
 rw [dZ.eq_1] at h
 refine aF ai ?_
 refine b6 h (fun dx h=> ?_) fun dx h=> ?_
 · refine aF (aH dx ai) ?_
   obtain rfl:=aE h
   exact hK _ _ _ _ _ aN aq (kn _ (cM _ hfr) eB)
 · refine aF (aH dx ai) ?_
   obtain rfl:=aE h
   exact hK _ _ _ _ _ aN aq (kn _ (cM _ hfr) eB)
theorem tB {F:Nat} {x2:aA} {q1:Nat} {H0:AH} (ai:H0[q1]? =some [(.str x2.s),(.int .i64 x2.cN),(.bool x2.bad)]) {aJ:List UInt8} {fU:aA} (h:gl F x2=some (aJ,fU)):
 ay Tryz.prog 132 [(.ptr q1 0)] H0 fun v H'=>v=(.str aJ)∧H'=(H0.set q1 [(.str fU.s),(.int .i64 fU.cN),(.bool fU.bad)]):=by
 have bf:=aY ai
 refine kO uy fE [q1] fun hcl K0 aO H hH hfr=> ?_
 rw [←hH] at ai
 clear hH
 have hle:=hfr.le
 have BF:=aY ai
 rw [gl.eq_1] at h
 refine aF ai ?_
 obtain ⟨r3,hy1,h⟩:=ak h
 refine aX aq (dJ (ai.trans rfl) hy1) ?_
 refine aF ai ?_
 obtain ⟨o23,dI,h⟩:=ak h
 refine bS aq (pQ (q1:=q1) (cM _ hfr) eB dD dI ?_)
 · rintro ⟨FT,BS⟩ rfl H hfr ai
   try dsimp only at h ai
   have hle:=hfr.le
   have bf:=aY ai
   refine aF ai ?_
   obtain ⟨s22,gz,h⟩:=ak h
   refine bS aq (pR (q1:=q1) hfr (ai.trans rfl) dD gz ?_)
   intro H hfr ai
   have hle:=hfr.le
   have bf:=aY ai
   refine aF ai ?_
   obtain ⟨rfl,rfl⟩:=jA h
   exact aO _ _ _ bC (iU hfr hcl (br bA (.str FT)) bB bt (ai.trans rfl) dD DV A9 ⟨rfl,rfl⟩)
abbrev jZ:av:=(.rg [(au 17 4),(aj 18 (.bin .eql (.t 17) (.c (b8 46)))),(au 19 18),(az 20 (.mv (.t 4)) 19 false),(az 21 (.bin .neq (.t 20) (.c (b8 0))) 19 false),(az 22 (.mv (.t 21)) 19 false),(az 23 (.mv (.t 4)) 22 true),(az 24 (.call (.c (.fn 133 [])) [(.t 23)]) 22 true),(az 25 (.pick (.t 22) (.t 24) (.c (.bool false))) 19 false),(aj 26 (.pick (.t 19) (.c (.bool true)) (.t 25)))])
abbrev jI:av:=(.seq (.seq (.sem (erase jZ)) (.cond (.t 26) .skip (.exit 0))) (.seq (.blk 1 (.rg [(au 29 0),(aj 30 (.iI (.t 29))),(aj 31 (.bO (.t 30) 1)),(aj 32 (.ld (.t 31) none)),(aj 33 (.bin .add (.t 32) (.c (.int .i64 1)))),(aj 34 (.iI (.t 29))),(aj 35 (.bO (.t 34) 1)),(iN (.st (.t 35) (.t 33) 1))])) (.rg [(au 27 0),(aj 28 (.call (.c (.fn 131 [])) [(.t 27)])),(aP 4 28)])))
abbrev j0:av:=(.rg [(au 46 0),(au 47 0),(aj 48 (.iI (.t 47))),(aj 49 (.bO (.t 48) 2)),(aj 50 (.ld (.t 49) none)),(au 51 50),(az 52 (.mv (.t 5)) 51 false),(az 53 (.call (.c (.fn 115 [])) [(.t 52)]) 51 false),(az 54 (.un .not (.t 53)) 51 false),(aj 55 (.pick (.t 51) (.c (.bool true)) (.t 54))),(aj 56 (.iI (.t 46))),(aj 57 (.bO (.t 56) 2)),(iN (.st (.t 57) (.t 55) 1))])
abbrev vB:av:=(.seq (.rg [(aj 2 (.aS (.c (.str []))))]) (.seq (.seq (.rg [(au 6 0),(aj 7 (.call (.c (.fn 131 [])) [(.t 6)])),(aj 8 (.bin .eql (.t 7) (.c (b8 34))))]) (.cond (.t 8) (.seq (.rg [(au 9 0),(aj 10 (.call (.c (.fn 132 [])) [(.t 9)])),(aP 2 10)]) .ret) .skip)) (.seq (.rg [(au 11 0),(aj 12 (.iI (.t 11))),(aj 13 (.bO (.t 12) 1)),(aj 14 (.ld (.t 13) none)),(aP 3 14)]) (.seq (.seq (.rg [(au 15 0),(aj 16 (.call (.c (.fn 131 [])) [(.t 15)])),(aP 4 16)]) (.blk 0 (.loop (erase jI)))) (.seq (.rg [(au 36 0),(aj 37 (.iI (.t 36))),(aj 38 (.bO (.t 37) 0)),(aj 39 (.ld (.t 38) none)),(au 40 3),(au 41 0),(aj 42 (.iI (.t 41))),(aj 43 (.bO (.t 42) 1)),(aj 44 (.ld (.t 43) none)),(aj 45 (.xd (.t 39) (some (.t 40)) (some (.t 44)))),(aP 5 45)]) (.seq (.sem (erase j0)) (.seq (.rg [(au 58 5),(aP 2 58)]) .ret)))))))
theorem vC:bu Tryz.prog 101 59 [(.tmp 2)] (erase vB):=⟨Tryz.f101,_,rfl,by decide,rfl,by kernel_rfl,rfl,rfl⟩
abbrev fR:List Nat:=[0,2,3,4,5,8,26]
def eu (c7:UInt8):Option (Bool):=
 (if (decide (c7=46)) then
  some true
 else
  (if (!decide (c7=0)) then
   (mw c7).bind fun r9=>some r9
  else
   some false))
def ey:(UInt8×aA)→Option (St ((List UInt8)×aA) aA (UInt8×aA))
 |(c7,s8)=>
  (eu c7).bind fun t11=>
  (if t11 then
   (bw (aA.mk s8.s (IntKind.wrap .i64 (s8.cN+1)) s8.bad)).bind fun gj=>
   some (.dz (gj,(aA.mk s8.s (IntKind.wrap .i64 (s8.cN+1)) s8.bad)))
  else
   some (.eZ s8))
def ez (F:Nat) (tA:aA) (lg:List UInt8):Option (aA):=
 (if tA.bad then
  some (aA.mk tA.s tA.cN true)
 else
  (kI F lg).bind fun r16=>some (aA.mk tA.s tA.cN (!r16)))
def dG (F:Nat) (x2:aA):Option ((List UInt8)×aA):=
 (bw x2).bind fun r3=>
 (if (decide (r3=34)) then
  (gl F x2).bind fun (r4,r5)=>some (r4,r5)
 else
  (bw x2).bind fun r6=>
  ((iter ey F (r6,x2)).bind fun Vr=>
  match Vr with
  | .inr tA=>
    (sub tA.s x2.cN tA.cN).bind fun lg=>
    (ez F tA lg).bind fun Aq=>
    some (lg,Aq)
  | .inl _=>none))
theorem qE {c7:UInt8} {q1:Nat} {x2:aA} {s8:aA} {H0 H:AH} (hfr:Fr H0 H0.length [q1] H) (ai:H[q1]? =some [(.str s8.s),(.int .i64 s8.cN),(.bool s8.bad)]) (hi0:q1<H0.length) {K:Exit→Env→AH→Prop} {t10:Bool}
 (h:eu c7=some t10)
 (kn:∀H':AH,Fr H0 H0.length [q1] H'→H'[q1]? =some [(.str s8.s),(.int .i64 s8.cN),(.bool s8.bad)]→K .normal [(0,(.ptr q1 0)),(3,(.int .i64 x2.cN)),(26,(.bool t10))] H'):
 AX Tryz.prog fR 59 H0.length (erase jZ) K [(0,(.ptr q1 0)),(3,(.int .i64 x2.cN)),(4,(b8 c7))] H:=by
 refine cU fun K' hK=> ?_
 have hle:=hfr.le
 have bf:=aY ai
 rw [eu.eq_1] at h
 refine aF ai ?_
 refine b6 h (fun bG h=> ?_) fun bG h=> ?_
 · refine aF (aH bG ai) ?_
   obtain rfl:=aE h
   exact hK _ _ _ _ _ aN aq (kn _ hfr (ai.trans rfl))
 · refine aF (aH bG ai) ?_
   refine b6 h (fun bY h=> ?_) fun bY h=> ?_
   · refine aF (aH bY ai) ?_
     obtain ⟨r9,cK,h⟩:=ak h
     refine aX aq (xW cK) ?_
     refine aF ai ?_
     obtain rfl:=aE h
     exact hK _ _ _ _ _ aN aq (kn _ hfr (ai.trans rfl))
   · refine aF (aH bY ai) ?_
     obtain rfl:=aE h
     exact hK _ _ _ _ _ aN aq (kn _ hfr (ai.trans rfl))
theorem qF {F:Nat} {c7:UInt8} {s8:aA} {q1:Nat} {x2:aA} {H0 H:AH} (hfr:Fr H0 H0.length [q1] H) (ai:H[q1]? =some [(.str s8.s),(.int .i64 s8.cN),(.bool s8.bad)]) (hi0:q1<H0.length) {K:Exit→Env→AH→Prop} {o:((List UInt8)×aA)⊕(aA)}
 (h:iter ey F (c7,s8)=some o)
 (dN:∀o':aA,o= .inr o'→∀H':AH,Fr H0 H0.length [q1] H'→H'[q1]? =some [(.str o'.s),(.int .i64 o'.cN),(.bool o'.bad)]→K (.exit 0) [(0,(.ptr q1 0)),(3,(.int .i64 x2.cN))] H'):
 AX Tryz.prog fR 59 H0.length (.loop (erase jI)) K [(0,(.ptr q1 0)),(3,(.int .i64 x2.cN)),(4,(b8 c7))] H:=by
 refine jl (fun s e H1=>match s with|(c7,s8)=>e=[(0,(.ptr q1 0)),(3,(.int .i64 x2.cN)),(4,(b8 c7))]∧Fr H0 H0.length [q1] H1∧H1[q1]? =some [(.str s8.s),(.int .i64 s8.cN),(.bool s8.bad)]) h ⟨rfl,hfr,ai⟩ ?_
 rintro K' ⟨c7,s8⟩ st e H ⟨rfl,hfr,ai⟩ h hN hB hR hX
 have hle:=hfr.le
 have bf:=aY ai
 rw [ey.eq_1] at h
 refine aF ai ?_
 obtain ⟨t11,cE,h⟩:=ak h
 refine bS aq (qE (q1:=q1) (x2:=x2) (s8:=s8) hfr (ai.trans rfl) dD cE ?_)
 intro H hfr ai
 have hle:=hfr.le
 have bf:=aY ai
 refine aF ai ?_
 refine b7 h (fun dO h=> ?_) fun dO h=> ?_
 · refine aF ai ?_
   obtain ⟨gj,cT,h⟩:=ak h
   refine KN (cm cT) (lW.cons (.one _ _ (gV.Cn eB KO)) (lW.nil)) ?_
   refine aF ai ?_
   obtain rfl:=aE h
   exact hN _ rfl _ _ _ _ aN aq ⟨rfl,(cM _ hfr),eB⟩
 · refine aF ai ?_
   obtain rfl:=aE h
   exact hX _ _ _ _ _ eK aN aq (dN _ (hB _ rfl) _ hfr (ai.trans rfl))
theorem qG {F:Nat} {tA:aA} {lg:List UInt8} {q1:Nat} {H0 H:AH} (hfr:Fr H0 H0.length [q1] H) (ai:H[q1]? =some [(.str tA.s),(.int .i64 tA.cN),(.bool tA.bad)]) (hi0:q1<H0.length) {K:Exit→Env→AH→Prop} {sC:aA}
 (h:ez F tA lg=some sC)
 (kn:∀H':AH,Fr H0 H0.length [q1] H'→H'[q1]? =some [(.str sC.s),(.int .i64 sC.cN),(.bool sC.bad)]→K .normal [(5,(.str lg))] H'):
 AX Tryz.prog fR 59 H0.length (erase j0) K [(0,(.ptr q1 0)),(5,(.str lg))] H:=by
 refine cU fun K' hK=> ?_
 have hle:=hfr.le
 have bf:=aY ai
 rw [ez.eq_1] at h
 refine aF ai ?_
 refine b6 h (fun dx h=> ?_) fun dx h=> ?_
 · refine aF (aH dx ai) ?_
   obtain rfl:=aE h
   exact hK _ _ _ _ _ aN aq (kn _ (cM _ hfr) eB)
 · refine aF (aH dx ai) ?_
   obtain ⟨r16,gz,h⟩:=ak h
   refine aX aq (v8 gz) ?_
   refine aF ai ?_
   obtain rfl:=aE h
   exact hK _ _ _ _ _ aN aq (kn _ (cM _ hfr) eB)
theorem uz {F:Nat} {x2:aA} {q1:Nat} {H0:AH} (ai:H0[q1]? =some [(.str x2.s),(.int .i64 x2.cN),(.bool x2.bad)]) {aJ:List UInt8} {fU:aA} (h:dG F x2=some (aJ,fU)):
 ay Tryz.prog 101 [(.ptr q1 0)] H0 fun v H'=>v=(.str aJ)∧H'=(H0.set q1 [(.str fU.s),(.int .i64 fU.cN),(.bool fU.bad)]):=by
 have bf:=aY ai
 refine kO vC fR [q1] fun hcl K0 aO H hH hfr=> ?_
 rw [←hH] at ai
 clear hH
 have hle:=hfr.le
 have BF:=aY ai
 rw [dG.eq_1] at h
 refine aF ai ?_
 obtain ⟨r3,hy1,h⟩:=ak h
 refine KN (cm hy1) (lW.cons (.one _ _ (gV.Cn (ai.trans rfl) KO)) (lW.nil)) ?_
 refine aF ai ?_
 refine b7 h (fun aU h=> ?_) fun aU h=> ?_
 · refine aF ai ?_
   obtain ⟨⟨r4,r5⟩,bp,h⟩:=ak h
   dsimp only at h
   refine aX aq (tB (ai.trans rfl) bp) ?_
   refine aF ai ?_
   obtain ⟨rfl,rfl⟩:=jA h
   exact aO _ _ _ bC (iU (cM _ hfr) hcl (br bA (.str r4)) bB bt eB dD DV A9 ⟨rfl,rfl⟩)
 · refine aF ai ?_
   obtain ⟨r6,bn,h⟩:=ak h
   refine KN (cm bn) (lW.cons (.one _ _ (gV.Cn (ai.trans rfl) KO)) (lW.nil)) ?_
   refine aF ai ?_
   obtain ⟨Vr,cP,h⟩:=ak h
   refine bS aq (qF (q1:=q1) (x2:=x2) hfr (ai.trans rfl) dD cP ?_)
   · rintro tA rfl H hfr ai
     try dsimp only at h ai
     have hle:=hfr.le
     have bf:=aY ai
     refine aF ai ?_
     obtain ⟨lg,dI,h⟩:=ak h
     refine aF (aH dI ai) ?_
     obtain ⟨Aq,jb,h⟩:=ak h
     refine bS aq (qG (q1:=q1) hfr (ai.trans rfl) dD jb ?_)
     intro H hfr ai
     have hle:=hfr.le
     have bf:=aY ai
     refine aF ai ?_
     obtain ⟨rfl,rfl⟩:=jA h
     exact aO _ _ _ bC (iU hfr hcl (br bA (.str lg)) bB bt (ai.trans rfl) dD DV A9 ⟨rfl,rfl⟩)
abbrev uY:av:=(.cond (.t 14) (.seq (.rg [(au 15 5),(aj 16 (.call (.c (.fn 100 [])) [(.t 15)]))]) (.seq (.rg [(au 17 5),(aj 18 (.call (.c (.fn 101 [])) [(.t 17)])),(aj 19 (.bO (.t 6) 0)),(iN (.st (.t 19) (.t 18) 1))]) (.seq (.rg [(au 20 5),(aj 21 (.call (.c (.fn 98 [])) [(.t 20),(.c (b8 64))]))]) (.seq (.rg [(au 22 5),(aj 23 (.call (.c (.fn 102 [])) [(.t 22)])),(aj 24 (.bO (.t 6) 1)),(iN (.st (.t 24) (.t 23) 1))]) (.rg [(au 25 5),(aj 26 (.call (.c (.fn 98 [])) [(.t 25),(.c (b8 62))]))]))))) .skip)
abbrev uZ:av:=(.rg [(aj 38 (.AP (.t 6) (some 2))),(au 39 0),(au 40 5),(aj 41 (.iI (.t 40))),(aj 42 (.bO (.t 41) 1)),(aj 43 (.AP (.t 42) none)),(aj 44 (.xd (.t 39) (some (.t 43)) none)),(iN (.st (.t 2) (.t 38) 2)),(aP 3 44),(aj 4 (.aS (.c (.int .i64 0))))])
abbrev IU:av:=(.seq (.rg [(aj 2 (.alloc [(.str []),(.str [])])),(aj 3 (.aS (.c (.str [])))),(aj 4 (.aS (.c (.int .i64 0))))]) (.seq (.rg [(au 7 0),(aj 8 (.build [(.str []),(.int .i64 0),(.bool false)] [(0,(1,(.t 7)))])),(aj 9 (.box (.t 8))),(aP 5 9)]) (.seq (.rg [(au 10 5),(aj 11 (.call (.c (.fn 98 [])) [(.t 10),(.c (b8 60))]))]) (.seq (.rg [(aj 6 (.alloc [(.str []),(.str [])]))]) (.seq (.seq (.rg [(au 12 5),(aj 13 (.call (.c (.fn 99 [])) [(.t 12),(.c (b8 62))])),(aj 14 (.un .not (.t 13)))]) (.sem (erase uY))) (.seq (.blk 0 (.seq (.rg [(au 28 5),(aj 29 (.iI (.t 28))),(aj 30 (.bO (.t 29) 2)),(aj 31 (.ld (.t 30) none)),(aP 27 31)]) (.cond (.t 27) (.seq (.rg [(aj 32 (.build [(.str []),(.str [])] [])),(iN (.st (.t 2) (.t 32) 2)),(aj 3 (.aS (.c (.str [])))),(aj 4 (.aS (.c (.int .i64 3))))]) .ret) (.seq (.rg [(aj 34 (.ld (.t 6) (some 2))),(aj 35 (.call (.c (.fn 44 [])) [(.t 34)])),(aj 36 (.un .not (.t 35))),(aP 33 36)]) (.cond (.t 33) (.seq (.rg [(aj 37 (.build [(.str []),(.str [])] [])),(iN (.st (.t 2) (.t 37) 2)),(aj 3 (.aS (.c (.str [])))),(aj 4 (.aS (.c (.int .i64 5))))]) .ret) .skip))))) (.seq (.sem (erase uZ)) .ret)))))))
theorem IV:bu Tryz.prog 67 45 [(.cell 2 28),(.tmp 3),(.tmp 4)] (erase IU):=⟨Tryz.f67,_,rfl,by decide,rfl,by kernel_rfl,rfl,rfl⟩
abbrev uA:List Nat:=[0,2,3,4,5,6,14,27,33]
def fG (F:Nat) (r3:Bool) (r4:aA):Option (aA×aD):=
 (if (!r3) then
  (dF F r4).bind fun r8=>
  (dG F r8).bind fun (r9,gH)=>
  (bg gH 64).bind fun eM=>
  (bU F eM).bind fun (gj,gK)=>
  (bg gK 62).bind fun kB=>some (kB,(aD.mk r9 gj))
 else
  some (r4,(aD.mk ([]:List UInt8) ([]:List UInt8))))
def j3 (s1:List UInt8) (sC:aA) (Aq:aD):Option ((List UInt8)×Int×aD):=
 (sub s1 sC.cN (s1.length:Int)).bind fun xq=>some (xq,0,Aq)
def pS (F:Nat) (s1:List UInt8):Option (aD×(List UInt8)×Int):=
 (bg (aA.mk s1 0 false) 60).bind fun r2=>
 (bJ r2 62).bind fun (r3,r4)=>
 (fG F r3 r4).bind fun (sC,Aq)=>
 (if sC.bad then
  some ((aD.mk ([]:List UInt8) ([]:List UInt8)),([]:List UInt8),3)
 else
  (gM F Aq).bind fun Ec=>
  (if (!Ec) then
   some ((aD.mk ([]:List UInt8) ([]:List UInt8)),([]:List UInt8),5)
  else
   (j3 s1 sC Aq).bind fun (t25,t26,RR)=>
   some (RR,t25,t26)))
theorem BT {F:Nat} {r3:Bool} {r4:aA} {s1:List UInt8} {q5:Nat} {q6:Nat} {q7:Nat} {H0 H:AH} (hfr:Fr H0 H0.length [] H) (ai:H[q5]? =some [(.str ([]:List UInt8)),(.str ([]:List UInt8))]) (aI:H[q6]? =some [(.str r4.s),(.int .i64 r4.cN),(.bool r4.bad)]) (dS:H[q7]? =some [(.str ([]:List UInt8)),(.str ([]:List UInt8))]) (hi0:H0.length≤q5) (hi1:H0.length≤q6) (hi2:q5≠q6) (CU:H0.length≤q7) (hi4:q5≠q7) (hi5:q6≠q7) {K:Exit→Env→AH→Prop} {NM:aA} {RQ:aD}
 (h:fG F r3 r4=some (NM,RQ))
 (kn:∀H':AH,Fr H0 H0.length [] H'→H'[q5]? =some [(.str ([]:List UInt8)),(.str ([]:List UInt8))]→H'[q6]? =some [(.str NM.s),(.int .i64 NM.cN),(.bool NM.bad)]→H'[q7]? =some [(.str RQ.ax),(.str RQ.domain)]→K .normal [(0,(.str s1)),(2,(.ptr q5 0)),(5,(.ptr q6 0)),(6,(.ptr q7 0))] H'):
 AX Tryz.prog uA 45 H0.length (erase uY) K [(0,(.str s1)),(2,(.ptr q5 0)),(5,(.ptr q6 0)),(6,(.ptr q7 0)),(14,(.bool (!r3)))] H:=by
 refine cU fun K' hK=> ?_
 have hle:=hfr.le
 have bf:=aY ai
 have kD:=aY aI
 have NN:=aY dS
 rw [fG.eq_1] at h
 refine aF (aH ai (aH aI dS)) ?_
 refine b7 h (fun bp h=> ?_) fun bp h=> ?_
 · refine aF (aH ai (aH aI dS)) ?_
   obtain ⟨r8,bn,h⟩:=ak h
   refine aX aq (uw (aI.trans rfl) bn) ?_
   refine aF (aH ai (aH aI dS)) ?_
   obtain ⟨⟨r9,gH⟩,bG,h⟩:=ak h
   dsimp only at h
   refine aX aq (uz (q1:=q6) eB bG) ?_
   refine aF (aH ai (aH aI dS)) ?_
   obtain ⟨eM,bY,h⟩:=ak h
   refine aX aq (dJ (q1:=q6) (iM eB) bY) ?_
   refine aF (aH ai (aH aI dS)) ?_
   obtain ⟨⟨gj,gK⟩,cK,h⟩:=ak h
   dsimp only at h
   refine aX aq (kK (q1:=q6) eB cK) ?_
   refine aF (aH ai (aH aI dS)) ?_
   obtain ⟨kB,cE,h⟩:=ak h
   refine aX aq (dJ (q1:=q6) (iM eB) cE) ?_
   refine aF (aH ai (aH aI dS)) ?_
   obtain ⟨rfl,rfl⟩:=jA h
   exact hK _ _ _ _ _ aN aq (kn _ (cM _ (cM _ (cM _ (cM _ (cM _ (cM _ (cM _ hfr))))))) (iM (iM (iM (iM (iM (iM (iM (ai.trans rfl)))))))) eB (iM eB))
 · refine aF (aH ai (aH aI dS)) ?_
   obtain ⟨rfl,rfl⟩:=jA h
   exact hK _ _ _ _ _ aN aq (kn _ hfr (ai.trans rfl) (aI.trans rfl) (dS.trans rfl))
theorem BU {s1:List UInt8} {sC:aA} {Aq:aD} {RS:Nat} {H0 H:AH} (hfr:Fr H0 H0.length [] H) (ai:H[RS]? =some [(.str ([]:List UInt8)),(.str ([]:List UInt8))]) (hi0:H0.length≤RS) {K:Exit→Env→AH→Prop} {t22:List UInt8} {t23:Int} {s24:aD}
 (h:j3 s1 sC Aq=some (t22,t23,s24))
 (kn:∀H':AH,Fr H0 H0.length [] H'→H'[RS]? =some [(.str s24.ax),(.str s24.domain)]→K .normal [(2,(.ptr RS 0)),(3,(.str t22)),(4,(.int .i64 t23))] H'):
 AX Tryz.prog uA 45 H0.length (erase uZ) K [(0,(.str s1)),(2,(.ptr RS 0)),(5,(.ep (.agg [(.str sC.s),(.int .i64 sC.cN),(.bool sC.bad)]) 0)),(6,(.ep (.agg [(.str Aq.ax),(.str Aq.domain)]) 0))] H:=by
 refine cU fun K' hK=> ?_
 have hle:=hfr.le
 have bf:=aY ai
 rw [j3.eq_1] at h
 obtain ⟨xq,dx,h⟩:=ak h
 refine aF (aH dx ai) ?_
 obtain ⟨rfl,rfl,rfl⟩:=Gq h
 exact hK _ _ _ _ _ aN aq (kn _ (cM _ hfr) eB)
theorem FU {F:Nat} {s1:List UInt8} {H0:AH} {aJ:aD} {fU:List UInt8} {KS:Int} (h:pS F s1=some (aJ,fU,KS)):
 ay Tryz.prog 67 [(.str s1)] H0 fun v H'=>v=(.bz [(.agg [(.str aJ.ax),(.str aJ.domain)]),(.str fU),(.int .i64 KS)])∧H'=H0:=by
 refine kO IV uA [] fun hcl K0 aO H hH hfr=> ?_
 clear hH
 have hle:=hfr.le
 rw [pS.eq_1] at h
 refine cj ?_
 obtain ⟨r2,hy1,h⟩:=ak h
 refine aX aq (dJ (q1:=(H.length+1)) vj hy1) ?_
 refine cj ?_
 obtain ⟨⟨r3,r4⟩,aU,h⟩:=ak h
 dsimp only at h
 refine aX aq (eo (q1:=(H.length+1)) (Fo eB) aU) ?_
 refine cj ?_
 obtain ⟨q6,El⟩:∃q:Nat,(H.length+1)=q:=⟨_,rfl⟩
 try rw [El]
 obtain ⟨q7,NP⟩:∃q:Nat,(H.length+2)=q:=⟨_,rfl⟩
 try rw [NP]
 obtain ⟨q5,NQ⟩:∃q:Nat,H.length=q:=⟨_,rfl⟩
 try rw [NQ]
 try rw [show q5+1=q6 from by omega]
 try rw [show q6+1=q7 from by omega]
 obtain ⟨⟨sC,Aq⟩,dO,h⟩:=ak h
 dsimp only at h
 refine bS aq (BT (s1:=s1) (q5:=q5) (q6:=q6) (q7:=q7) (cM _ (Fr.app (cM _ (Fr.app (Fr.app hfr))))) (iM (Fo (iM (Fo vj)))) eB (iM vj) dD dD dD dD dD dD dO ?_)
 intro H hfr ai aI dS
 have hle:=hfr.le
 have bf:=aY ai
 have kD:=aY aI
 have NN:=aY dS
 refine aF (aH ai (aH aI dS)) ?_
 refine b7 h (fun cT h=> ?_) fun cT h=> ?_
 · refine aF (aH ai (aH aI dS)) ?_
   obtain ⟨rfl,rfl,rfl⟩:=Gq h
   exact aO _ _ _ bC (bM (cM _ hfr) hcl (mj (cs:=[(.str ([]:List UInt8)),(.str ([]:List UInt8))]) (v:=(.agg [(.str ([]:List UInt8)),(.str ([]:List UInt8))])) (by kernel_rfl) (n:=(some 2)) (by kernel_rfl) rfl eB (by simp [oO,oN,mM,cc,AV.flat,wX,vV,AV.bP,Tg.sh]) (br (br bA (.int .i64 3)) (.str ([]:List UInt8)))) bB bt ⟨rfl,rfl⟩)
 · refine aF (aH ai (aH aI dS)) ?_
   obtain ⟨Ec,cP,h⟩:=ak h
   refine aX aq (k9 cP) ?_
   refine aF (aH ai (aH aI dS)) ?_
   refine b7 h (fun dI h=> ?_) fun dI h=> ?_
   · refine aF (aH ai (aH aI dS)) ?_
     obtain ⟨rfl,rfl,rfl⟩:=Gq h
     exact aO _ _ _ bC (bM (cM _ hfr) hcl (mj (cs:=[(.str ([]:List UInt8)),(.str ([]:List UInt8))]) (v:=(.agg [(.str ([]:List UInt8)),(.str ([]:List UInt8))])) (by kernel_rfl) (n:=(some 2)) (by kernel_rfl) rfl eB (by simp [oO,oN,mM,cc,AV.flat,wX,vV,AV.bP,Tg.sh]) (br (br bA (.int .i64 5)) (.str ([]:List UInt8)))) bB bt ⟨rfl,rfl⟩)
   · refine aF (aH ai (aH aI dS)) ?_
     refine KP ?_
     apply AX.freeze (s:=q7) (cs:=[(.str Aq.ax),(.str Aq.domain)]) (by exact (dS.trans rfl)) (eR.same (eR.same (eR.nil))) (by simp)
     · repeat (first|exact FZ.nil|apply FZ.ep|apply FZ.same)
     apply AX.freeze (s:=q6) (cs:=[(.str sC.s),(.int .i64 sC.cN),(.bool sC.bad)]) (by exact (iM (aI.trans rfl))) (eR.same (eR.same (eR.same (eR.nil)))) (by simp)
     · repeat (first|exact FZ.nil|apply FZ.ep|apply FZ.same)
     refine RF ?_
     obtain ⟨⟨t25,t26,RR⟩,gz,h⟩:=ak h
     dsimp only at h
     refine bS aq (BU (RS:=q5) (cM _ (cM _ hfr)) (iM (iM (ai.trans rfl))) dD gz ?_)
     intro H hfr ai
     have hle:=hfr.le
     have bf:=aY ai
     refine aF ai ?_
     obtain ⟨rfl,rfl,rfl⟩:=Gq h
     exact aO _ _ _ bC (bM hfr hcl (mj (cs:=[(.str RR.ax),(.str RR.domain)]) (v:=(.agg [(.str RR.ax),(.str RR.domain)])) (by kernel_rfl) (n:=(some 2)) (by kernel_rfl) rfl (ai.trans rfl) (by simp [oO,oN,mM,cc,AV.flat,wX,vV,AV.bP,Tg.sh]) (br (br bA (.int .i64 t26)) (.str t25))) bB bt ⟨rfl,rfl⟩)
abbrev tC:av:=(.rg [(au 13 6),(aj 14 (.bin .eql (.t 13) (.c (.int .i64 0)))),(au 15 14),(az 16 (.mv (.t 5)) 15 true),(az 17 (.bin .neq (.t 16) (.c (.str []))) 15 true),(aj 18 (.pick (.t 15) (.t 17) (.c (.bool false))))])
abbrev FV:av:=(.seq (.rg [(aj 2 (.alloc [(.str []),(.str [])])),(aj 3 (.aS (.c (.int .i64 0))))]) (.seq (.rg [(au 8 0),(aj 9 (.call (.c (.fn 67 [])) [(.t 8)])),(au 7 9),(aj 10 (.ext (.t 7) 0)),(aj 11 (.ext (.t 7) 1)),(aj 12 (.ext (.t 7) 2)),(aj 4 (.alloc [(.str []),(.str [])])),(iN (.st (.t 4) (.t 10) 2)),(aP 5 11),(aP 6 12)]) (.seq (.seq (.sem (erase tC)) (.cond (.t 18) (.seq (.rg [(aj 19 (.build [(.str []),(.str [])] [])),(iN (.st (.t 2) (.t 19) 2)),(aj 3 (.aS (.c (.int .i64 3))))]) .ret) .skip)) (.seq (.rg [(aj 20 (.ld (.t 4) (some 2))),(au 21 6),(iN (.st (.t 2) (.t 20) 2)),(aP 3 21)]) .ret))))
theorem FW:bu Tryz.prog 28 22 [(.cell 2 28),(.tmp 3)] (erase FV):=⟨Tryz.f28,_,rfl,by decide,rfl,by kernel_rfl,rfl,rfl⟩
abbrev ye:List Nat:=[0,2,3,4,5,6,18]
def mX (F:Nat) (s1:List UInt8):Option (aD×Int):=
 (pS F s1).bind fun (r2,r3,r4)=>
 (if ((decide (r4=0))&&(!decide (r3=([]:List UInt8)))) then
  some ((aD.mk ([]:List UInt8) ([]:List UInt8)),3)
 else
  some (r2,r4))
theorem As {q5:Nat} {q6:Nat} {r3:List UInt8} {r4:Int} {r2:aD} {H0 H:AH} (hfr:Fr H0 H0.length [] H) (ai:H[q5]? =some [(.str ([]:List UInt8)),(.str ([]:List UInt8))]) (aI:H[q6]? =some [(.str r2.ax),(.str r2.domain)]) (hi0:H0.length≤q5) (hi1:H0.length≤q6) (hi2:q5≠q6) {K:Exit→Env→AH→Prop}
 (kn:∀H':AH,Fr H0 H0.length [] H'→H'[q5]? =some [(.str ([]:List UInt8)),(.str ([]:List UInt8))]→H'[q6]? =some [(.str r2.ax),(.str r2.domain)]→K .normal [(2,(.ptr q5 0)),(4,(.ptr q6 0)),(6,(.int .i64 r4)),(18,(.bool ((decide (r4=0))&&(!decide (r3=([]:List UInt8))))))] H'):
 AX Tryz.prog ye 22 H0.length (erase tC) K [(2,(.ptr q5 0)),(4,(.ptr q6 0)),(5,(.str r3)),(6,(.int .i64 r4))] H:=by
 refine cU fun K' hK=> ?_
 have hle:=hfr.le
 have bf:=aY ai
 have kD:=aY aI
 refine aF (aH ai aI) ?_
 refine ob (fun aU=> ?_) fun aU=> ?_
 · refine aF (aH aU (aH ai aI)) ?_
   exact hK _ _ _ _ _ (fq aU) aq (kn _ hfr (ai.trans rfl) (aI.trans rfl))
 · refine aF (aH aU (aH ai aI)) ?_
   exact hK _ _ _ _ _ (fq aU) aq (kn _ hfr (ai.trans rfl) (aI.trans rfl))
theorem En {F:Nat} {s1:List UInt8} {H0:AH} {aJ:aD} {fU:Int} (h:mX F s1=some (aJ,fU)):
 ay Tryz.prog 28 [(.str s1)] H0 fun v H'=>v=(.bz [(.agg [(.str aJ.ax),(.str aJ.domain)]),(.int .i64 fU)])∧H'=H0:=by
 refine kO FW ye [] fun hcl K0 aO H hH hfr=> ?_
 clear hH
 have hle:=hfr.le
 rw [mX.eq_1] at h
 refine cj ?_
 obtain ⟨⟨r2,r3,r4⟩,hy1,h⟩:=ak h
 dsimp only at h
 refine aX aq (FU hy1) ?_
 refine cj ?_
 obtain ⟨q6,El⟩:∃q:Nat,(H.length+1)=q:=⟨_,rfl⟩
 try rw [El]
 obtain ⟨q5,NQ⟩:∃q:Nat,H.length=q:=⟨_,rfl⟩
 try rw [NQ]
 try rw [show q5+1=q6 from by omega]
 refine bS aq (As (q5:=q5) (q6:=q6) (r3:=r3) (r4:=r4) (r2:=r2) (cM _ (Fr.app (Fr.app hfr))) (iM (Fo vj)) eB dD dD dD ?_)
 intro H hfr ai aI
 have hle:=hfr.le
 have bf:=aY ai
 have kD:=aY aI
 refine aF (aH ai aI) ?_
 refine b7 h (fun bp h=> ?_) fun bp h=> ?_
 · refine aF (aH ai aI) ?_
   obtain ⟨rfl,rfl⟩:=jA h
   exact aO _ _ _ bC (bM (cM _ hfr) hcl (mj (cs:=[(.str ([]:List UInt8)),(.str ([]:List UInt8))]) (v:=(.agg [(.str ([]:List UInt8)),(.str ([]:List UInt8))])) (by kernel_rfl) (n:=(some 2)) (by kernel_rfl) rfl eB (by simp [oO,oN,mM,cc,AV.flat,wX,vV,AV.bP,Tg.sh]) (br bA (.int .i64 3))) bB bt ⟨rfl,rfl⟩)
 · refine aF (aH ai aI) ?_
   obtain ⟨rfl,rfl⟩:=jA h
   exact aO _ _ _ bC (bM (cM _ hfr) hcl (mj (cs:=[(.str r2.ax),(.str r2.domain)]) (v:=(.agg [(.str r2.ax),(.str r2.domain)])) (by kernel_rfl) (n:=(some 2)) (by kernel_rfl) rfl eB (by simp [oO,oN,mM,cc,AV.flat,wX,vV,AV.bP,Tg.sh]) (br bA (.int .i64 r4))) bB bt ⟨rfl,rfl⟩)
abbrev nU:av:=(.seq (.rg [(aj 16 (.bin .lss (.t 15) (.t 14)))]) (.seq (.cond (.t 16) .skip (.exit 0)) (.seq (.blk 1 (.seq (.rg [(aj 17 (.mK 1 (.t 13) (.t 15))),(aj 18 (.ld (.t 17) none)),(aP 6 18)]) (.seq (.rg [(au 20 6),(aj 21 (.call (.c (.fn 27 [])) [(.t 20),(.c (.str [70,105,110,97,108,45,82,101,99,105,112,105,101,110,116,58,32,114,102,99,56,50,50,59,32]))])),(au 19 21),(aj 22 (.ext (.t 19) 0)),(aj 23 (.ext (.t 19) 1)),(aP 7 22),(aP 8 23)]) (.seq (.seq (.rg [(au 24 8),(aj 25 (.un .not (.t 24)))]) (.cond (.t 25) (.exit 1) .skip)) (.seq (.rg [(au 27 7),(aj 28 (.call (.c (.fn 28 [])) [(.t 27)])),(au 26 28),(aj 29 (.ext (.t 26) 0)),(aj 30 (.ext (.t 26) 1)),(aj 9 (.alloc [(.str []),(.str [])])),(iN (.st (.t 9) (.t 29) 2)),(aP 10 30)]) (.seq (.rg [(au 31 10),(aj 32 (.bin .eql (.t 31) (.c (.int .i64 0))))]) (.cond (.t 32) (.rg [(au 33 4),(aj 34 (.ld (.t 9) (some 2))),(aj 35 (.fS 2 [(.t 34)])),(aj 36 (.app 2 32 (.t 33) (.t 35))),(aP 4 36)]) .skip))))))) (.rg [(aj 37 (.bin .add (.t 15) (.c (.int .i64 1)))),(au 15 37)]))))
abbrev CV:av:=(.seq (.rg [(aj 2 (.aS (.c (.sl .ex 2 [])))),(aj 3 (.aS (.c (.bool false))))]) (.seq (.rg [(aj 4 (.aS (.c (.sl .ex 2 []))))]) (.seq (.seq (.rg [(au 11 0),(aj 12 (.call (.c (.fn 26 [])) [(.t 11)])),(aj 13 (.call (.c (.fn 25 [])) [(.t 12)])),(aj 14 (.len (.t 13))),(aj 15 (.mv (.c (.int .i64 0))))]) (.blk 0 (.loop (erase nU)))) (.seq (.rg [(au 38 4),(au 39 4),(aj 40 (.len (.t 39))),(aj 41 (.bin .gtr (.t 40) (.c (.int .i64 0)))),(aP 2 38),(aP 3 41)]) .ret))))
theorem CW:bu Tryz.prog 9 42 [(.tmp 2),(.tmp 3)] (erase CV):=⟨Tryz.f9,_,rfl,by decide,rfl,by kernel_rfl,rfl,rfl⟩
abbrev u0:List Nat:=[0,2,3,4,6,7,8,9,10,13,14,15,16,25,32]
def mC (F:Nat) (r3:List (List UInt8)):((List aD)×Int)→Option (St ((List aD)×Bool) (List aD) ((List aD)×Int))
 |(wF,t5)=>
  (if (decide (t5<(r3.length:Int))) then
   (idx r3 t5).bind fun x6=>
   (strings_CutPrefix x6 ([70,105,110,97,108,45,82,101,99,105,112,105,101,110,116,58,32,114,102,99,56,50,50,59,32]:List UInt8)).bind fun (r7,r8)=>
   (if (!r8) then
    some (.dz (wF,(IntKind.wrap .i64 (t5+1))))
   else
    (mX F r7).bind fun (r9,gH)=>
    (if (decide (gH=0)) then
     (cF 32 wF ([r9]:List aD)).bind fun qz=>some (.dz (qz,(IntKind.wrap .i64 (t5+1))))
    else
     some (.dz (wF,(IntKind.wrap .i64 (t5+1))))))
  else
   some (.eZ wF))
def sD (F:Nat) (b1:List UInt8):Option ((List aD)×Bool):=
 (Ap b1).bind fun r2=>
 (yO F r2).bind fun r3=>
 ((iter (mC F r3) F (([]:List aD),0)).bind fun Ab=>
 match Ab with
 | .inr nu=>
   some (nu,(decide (0<(nu.length:Int))))
 | .inl _=>none)
theorem xD {F:Nat} {t5:Int} {r3:List (List UInt8)} {wF:List aD} {H0 H:AH} (hfr:Fr H0 H0.length [] H) {K:Exit→Env→AH→Prop} {o:((List aD)×Bool)⊕((List aD))}
 (h:iter (mC F r3) F (wF,t5)=some o)
 (dN:∀o':(List aD),o= .inr o'→∀H':AH,Fr H0 H0.length [] H'→K (.exit 0) [(4,(.sl .own 2 (ml cW o')))] H'):
 AX Tryz.prog u0 42 H0.length (.loop (erase nU)) K [(4,(.sl .own 2 (ml cW wF))),(13,(.sl .n 1 (ml AV.str r3))),(14,(.int .i64 (r3.length:Int))),(15,(.int .i64 t5))] H:=by
 refine jl (fun s e H1=>match s with|(wF,t5)=>e=[(4,(.sl .own 2 (ml cW wF))),(13,(.sl .n 1 (ml AV.str r3))),(14,(.int .i64 (r3.length:Int))),(15,(.int .i64 t5))]∧Fr H0 H0.length [] H1) h ⟨rfl,hfr⟩ ?_
 rintro K' ⟨wF,t5⟩ st e H ⟨rfl,hfr⟩ h hN hB hR hX
 have hle:=hfr.le
 rw [mC.eq_1] at h
 refine cj ?_
 refine b7 h (fun bp h=> ?_) fun bp h=> ?_
 · obtain ⟨x6,bn,h⟩:=ak h
   refine aF bn ?_
   obtain ⟨⟨r7,r8⟩,bG,h⟩:=ak h
   dsimp only at h
   refine aX aq (vt bG) ?_
   refine cj ?_
   refine b7 h (fun bY h=> ?_) fun bY h=> ?_
   · refine cj ?_
     obtain rfl:=aE h
     exact hN _ rfl _ _ _ _ aN aq ⟨rfl,hfr⟩
   · refine cj ?_
     obtain ⟨⟨r9,gH⟩,cK,h⟩:=ak h
     dsimp only at h
     refine aX aq (En cK) ?_
     refine cj ?_
     refine b7 h (fun cE h=> ?_) fun cE h=> ?_
     · obtain ⟨qz,dO,h⟩:=ak h
       have cT:cF 32 (ml cW wF) [(.agg [(.str r9.ax),(.str r9.domain)])]=some (ml cW qz):=eS (f:=cW) dO
       refine aF cT ?_
       obtain rfl:=aE h
       exact hN _ rfl _ _ _ _ aN aq ⟨rfl,(cM _ (Fr.app hfr))⟩
     · refine cj ?_
       obtain rfl:=aE h
       exact hN _ rfl _ _ _ _ aN aq ⟨rfl,(cM _ (Fr.app hfr))⟩
 · refine cj ?_
   obtain rfl:=aE h
   exact hX _ _ _ _ _ eK aN aq (dN _ (hB _ rfl) _ hfr)
theorem BV {F:Nat} {b1:List UInt8} {H0:AH} {aJ:List aD} {fU:Bool} (h:sD F b1=some (aJ,fU)):
 ay Tryz.prog 9 [(.sl .n 1 (ml b8 b1))] H0 fun v H'=>v=(.bz [(.sl .n 2 (ml cW aJ)),(.bool fU)])∧H'=H0:=by
 refine kO CW u0 [] fun hcl K0 aO H hH hfr=> ?_
 clear hH
 have hle:=hfr.le
 rw [sD.eq_1] at h
 refine cj ?_
 obtain ⟨r2,hy1,h⟩:=ak h
 refine aX aq (CT hy1) ?_
 refine cj ?_
 obtain ⟨r3,aU,h⟩:=ak h
 refine aX aq (FP aU) ?_
 refine cj ?_
 obtain ⟨Ab,cP,h⟩:=ak h
 refine bS aq (xD hfr cP ?_)
 · rintro nu rfl H hfr
   try dsimp only at h
   have hle:=hfr.le
   refine cj ?_
   obtain ⟨rfl,rfl⟩:=jA h
   exact aO _ _ _ bC (bM hfr hcl (br (br bA (.bool (decide (0<(nu.length:Int))))) (.sl .n 2 (ml cW nu))) bB bt ⟨rfl,rfl⟩)
abbrev Au:av:=(.rg [(aj 22 (.ld (.t 1) (some 6))),(aj 23 (.fS 1 [(.c (.int .i64 0))])),(aj 24 (.call (.c (.fn 11 [])) [(.c (.str [97,46,98])),(.t 22),(.t 23),(.c (.sl .ex 1 [])),(.c (.int .i64 5))])),(au 21 24),(aj 25 (.ext (.t 21) 0)),(aj 26 (.ext (.t 21) 1)),(aP 2 25),(aP 3 26)])
abbrev qX:av:=(.rg ((au 44 3)::(aj 45 (.un .not (.t 44)))::(au 46 45)::(az 47 (.mv (.t 5)) 46 true)::(aj 48 (.pick (.t 46) (.t 47) (.c (.bool false))))::(au 49 48)::(az 50 (.mv (.t 7)) 49 true)::(aj 51 (.pick (.t 49) (.t 50) (.c (.bool false))))::(au 52 51)::(az 53 (.mv (.t 6)) 52 true)::(az 54 (.len (.t 53)) 52 true)::(az 55 (.bin .eql (.t 54) (.c (.int .i64 1))) 52 true)::(aj 56 (.pick (.t 52) (.t 55) (.c (.bool false))))::(au 57 56)::(az 58 (.mv (.t 6)) 57 true)::(az 59 (.mK 2 (.t 58) (.c (.int .i64 0))) 57 true)::(az 60 (.bO (.t 59) 0) 57 true)::(az 61 (.ld (.t 60) none) 57 true)::(az 62 (.bin .eql (.t 61) (.c (.str [120]))) 57 true)::(aj 63 (.pick (.t 57) (.t 62) (.c (.bool false))))::(au 64 63)::(az 65 (.call (.c (.fn 19 [])) [(.c (.int .i64 550))]) 64 true)::(az 66 (.bin .eql (.t 65) (.c (.str [53,46,48,46,48]))) 64 true)::(aj 67 (.pick (.t 64) (.t 66) (.c (.bool false))))::(au 68 67)::(az 69 (.call (.c (.fn 19 [])) [(.c (.int .i64 0))]) 68 true)::(az 70 (.bin .eql (.t 69) (.c (.str [52,46,52,46,55]))) 68 true)::(aj 71 (.pick (.t 68) (.t 70) (.c (.bool false))))::(au 72 71)::(az 73 (.ld (.t 1) (some 6)) 72 true)::(az 74 (.call (.c (.fn 16 [])) [(.t 73)]) 72 true)::(az 75 (.un .not (.t 74)) 72 true)::(aj 76 (.pick (.t 72) (.t 75) (.c (.bool false))))::(aP 0 76)::[]))
abbrev Eo:av:=(.seq (.rg [(aj 0 (.aS (.c (.bool false))))]) (.seq (.rg [(aj 8 (.build [(.str []),(.str []),(.int .i64 0),(.int .i64 0),(.int .i64 0),(.int .i64 0),(.str [])] [(2,(1,(.c (.int .i64 4)))),(5,(1,(.c (.int .i64 550)))),(6,(1,(.c (.str [110,111]))))])),(aj 9 (.lZ 7 [(.t 8)])),(aj 10 (.build [(.str []),(.str []),(.int .i64 0),(.int .i64 0),(.int .u32 0),(.sl .ex 7 [])] [(5,(1,(.t 9)))])),(aj 1 (.alloc [(.str []),(.str []),(.int .i64 0),(.int .i64 0),(.int .u32 0),(.sl .ex 7 [])])),(iN (.st (.t 1) (.t 10) 6))]) (.seq (.rg [(aj 11 (.bO (.t 1) 5)),(aj 12 (.ld (.t 11) none)),(aj 13 (.mK 7 (.t 12) (.c (.int .i64 0)))),(aj 14 (.bO (.t 13) 0)),(aj 15 (.bO (.t 14) 0)),(iN (.st (.t 15) (.c (.str [120])) 1))]) (.seq (.rg [(aj 16 (.bO (.t 1) 5)),(aj 17 (.ld (.t 16) none)),(aj 18 (.mK 7 (.t 17) (.c (.int .i64 0)))),(aj 19 (.bO (.t 18) 0)),(aj 20 (.bO (.t 19) 1)),(iN (.st (.t 20) (.c (.str [121])) 1))]) (.seq (.sem (erase Au)) (.seq (.rg [(aj 27 (.bO (.t 1) 0)),(aj 28 (.bO (.t 27) 0)),(iN (.st (.t 28) (.c (.str [109,101])) 1))]) (.seq (.rg [(aj 29 (.bO (.t 1) 0)),(aj 30 (.bO (.t 29) 1)),(iN (.st (.t 30) (.c (.str [104,111,109,101])) 1))]) (.seq (.rg [(aj 32 (.ld (.t 1) (some 6))),(aj 33 (.fS 1 [(.c (.int .i64 0))])),(aj 35 (.lit 34 [83,58,32,116,13,10,13,10,113])),(aj 36 (.call (.c (.fn 11 [])) [(.c (.str [97,46,98])),(.t 32),(.t 33),(.t 35),(.c (.int .i64 5))])),(au 31 36),(aj 37 (.ext (.t 31) 0)),(aj 38 (.ext (.t 31) 1)),(aP 4 37),(aP 5 38)]) (.seq (.rg [(au 40 4),(aj 41 (.call (.c (.fn 9 [])) [(.t 40)])),(au 39 41),(aj 42 (.ext (.t 39) 0)),(aj 43 (.ext (.t 39) 1)),(aP 6 42),(aP 7 43)]) (.seq (.sem (erase qX)) .ret))))))))))
theorem Ep:bu Tryz.prog 8 77 [(.tmp 0)] (erase Eo):=⟨Tryz.f8,_,rfl,by decide,rfl,by kernel_rfl,rfl,rfl⟩
abbrev wG:List Nat:=[0,1,3,4,5,6,7]
def nH (r2:Bool) (r4:Bool) (r6:Bool) (r5:List aD):Option (Bool):=
 (if (!r2) then
  (if r4 then
   (if r6 then
    (if (decide ((r5.length:Int)=1)) then
     (idx r5 0).bind fun x8=>
     (if (decide (x8.ax=([120]:List UInt8))) then
      (eW 550).bind fun r9=>
      (if (decide (r9=([53,46,48,46,48]:List UInt8))) then
       (eW 0).bind fun gH=>
       (if (decide (gH=([52,46,52,46,55]:List UInt8))) then
        (iV (aL.mk (aD.mk ([109,101]:List UInt8) ([104,111,109,101]:List UInt8)) 0 0 0 ([(cJ.mk (aD.mk ([120]:List UInt8) ([121]:List UInt8)) 4 0 0 550 ([110,111]:List UInt8))]:List cJ))).bind fun eM=>some (!eM)
       else
        some false)
      else
       some false)
     else
      some false)
    else
     some false)
   else
    some false)
  else
   some false)
 else
  some false)
def lD (F:Nat):Option (Bool):=
 (cq F ([97,46,98]:List UInt8) (aL.mk (aD.mk ([]:List UInt8) ([]:List UInt8)) 0 0 0 ([(cJ.mk (aD.mk ([120]:List UInt8) ([121]:List UInt8)) 4 0 0 550 ([110,111]:List UInt8))]:List cJ)) ([0]:List Int) ([]:List UInt8) 5).bind fun (r1,r2)=>
 (cq F ([97,46,98]:List UInt8) (aL.mk (aD.mk ([109,101]:List UInt8) ([104,111,109,101]:List UInt8)) 0 0 0 ([(cJ.mk (aD.mk ([120]:List UInt8) ([121]:List UInt8)) 4 0 0 550 ([110,111]:List UInt8))]:List cJ)) ([0]:List Int) ([83,58,32,116,13,10,13,10,113]:List UInt8) 5).bind fun (r3,r4)=>
 (sD F r3).bind fun (r5,r6)=>(nH r2 r4 r6 r5).bind fun t13=>
 some t13
theorem yP {r2:Bool} {r4:Bool} {r6:Bool} {r5:List aD} {q7:Nat} {H0 H:AH} (hfr:Fr H0 H0.length [] H) (aI:H[q7]? =some [(.str ([109,101]:List UInt8)),(.str ([104,111,109,101]:List UInt8)),(.int .i64 0),(.int .i64 0),(.int .u32 0),(.sl .n 7 (ml aR ([(cJ.mk (aD.mk ([120]:List UInt8) ([121]:List UInt8)) 4 0 0 550 ([110,111]:List UInt8))]:List cJ)))]) (hi0:H0.length≤q7) {K:Exit→Env→AH→Prop} {t12:Bool}
 (h:nH r2 r4 r6 r5=some t12)
 (kn:∀H':AH,Fr H0 H0.length [] H'→H'[q7]? =some [(.str ([109,101]:List UInt8)),(.str ([104,111,109,101]:List UInt8)),(.int .i64 0),(.int .i64 0),(.int .u32 0),(.sl .n 7 (ml aR ([(cJ.mk (aD.mk ([120]:List UInt8) ([121]:List UInt8)) 4 0 0 550 ([110,111]:List UInt8))]:List cJ)))]→K .normal [(0,(.bool t12))] H'):
 AX Tryz.prog wG 77 H0.length (erase qX) K [(0,(.bool false)),(1,(.ptr q7 0)),(3,(.bool r2)),(5,(.bool r4)),(6,(.sl .n 2 (ml cW r5))),(7,(.bool r6))] H:=by
 refine cU fun K' hK=> ?_
 have hle:=hfr.le
 have kD:=aY aI
 rw [nH.eq_1] at h
 refine aF aI ?_
 refine b6 h (fun bY h=> ?_) fun bY h=> ?_
 · refine aF (aH bY aI) ?_
   refine b6 h (fun cK h=> ?_) fun cK h=> ?_
   · refine aF (aH cK aI) ?_
     refine b6 h (fun cE h=> ?_) fun cE h=> ?_
     · refine aF (aH cE aI) ?_
       refine b6 h (fun dO h=> ?_) fun dO h=> ?_
       · obtain ⟨x8,cT,h⟩:=ak h
         refine aF (aH dO (aH cT aI)) ?_
         refine b6 h (fun cP h=> ?_) fun cP h=> ?_
         · refine aF (aH cP aI) ?_
           obtain ⟨r9,dI,h⟩:=ak h
           refine aX aq (lu dI) ?_
           refine aF aI ?_
           refine b6 h (fun dx h=> ?_) fun dx h=> ?_
           · refine aF (aH dx aI) ?_
             obtain ⟨gH,gz,h⟩:=ak h
             refine aX aq (lu gz) ?_
             refine aF aI ?_
             refine b6 h (fun jb h=> ?_) fun jb h=> ?_
             · refine aF (aH jb aI) ?_
               obtain ⟨eM,iR,h⟩:=ak h
               refine aX aq (rP iR) ?_
               refine aF aI ?_
               obtain rfl:=aE h
               exact hK _ _ _ _ _ aN aq (kn _ hfr (aI.trans rfl))
             · refine aF (aH jb aI) ?_
               obtain rfl:=aE h
               exact hK _ _ _ _ _ aN aq (kn _ hfr (aI.trans rfl))
           · refine aF (aH dx aI) ?_
             obtain rfl:=aE h
             exact hK _ _ _ _ _ aN aq (kn _ hfr (aI.trans rfl))
         · refine aF (aH cP aI) ?_
           obtain rfl:=aE h
           exact hK _ _ _ _ _ aN aq (kn _ hfr (aI.trans rfl))
       · refine aF (aH dO aI) ?_
         obtain rfl:=aE h
         exact hK _ _ _ _ _ aN aq (kn _ hfr (aI.trans rfl))
     · refine aF (aH cE aI) ?_
       obtain rfl:=aE h
       exact hK _ _ _ _ _ aN aq (kn _ hfr (aI.trans rfl))
   · refine aF (aH cK aI) ?_
     obtain rfl:=aE h
     exact hK _ _ _ _ _ aN aq (kn _ hfr (aI.trans rfl))
 · refine aF (aH bY aI) ?_
   obtain rfl:=aE h
   exact hK _ _ _ _ _ aN aq (kn _ hfr (aI.trans rfl))
theorem CX {F:Nat} {H0:AH} {aJ:Bool} (h:lD F=some aJ):
 ay Tryz.prog 8 [] H0 fun v H'=>v=(.bool aJ)∧H'=H0:=by
 refine kO Ep wG [] fun hcl K0 aO H hH hfr=> ?_
 clear hH
 have hle:=hfr.le
 rw [lD.eq_1] at h
 have hy1:∀(L:List Nat) (e:Env) (ah:AH) (d:Option Nat),sM L e ah d 7 (.cw H.length 7 0 1) (.int .i64 0)=some (aC L e d (.ptr H.length 0),ah):=fun _ _ _ _=>Vd (j:=0) rfl
 have aU:∀(L:List Nat) (e:Env) (ah:AH) (d:Option Nat),sM L e ah d 7 (.cw H.length 7 0 1) (.int .i64 0)=some (aC L e d (.ptr H.length 0),ah):=fun _ _ _ _=>Vd (j:=0) rfl
 refine aF (aH hy1 aU) ?_
 refine KP ?_
 apply AX.DW (s:=H.length) (s2:=(H.length+1)) (cs:=[(.str ([120]:List UInt8)),(.str ([121]:List UInt8)),(.int .i64 4),(.int .i64 0),(.int .i64 0),(.int .i64 550),(.str ([110,111]:List UInt8))]) (zs:=[(.str ([]:List UInt8)),(.str ([]:List UInt8)),(.int .i64 0),(.int .i64 0),(.int .u32 0),(.cw H.length 7 0 1)]) (zs':=[(.str ([]:List UInt8)),(.str ([]:List UInt8)),(.int .i64 0),(.int .i64 0),(.int .u32 0),(.sl .n 7 (ml aR ([(cJ.mk (aD.mk ([120]:List UInt8) ([121]:List UInt8)) 4 0 0 550 ([110,111]:List UInt8))]:List cJ)))]) (by exact eB) (eR.same (eR.same (eR.same (eR.same (eR.same (eR.same (eR.same (eR.nil)))))))) (by simp) (by exact (iM (iM eB))) (by omega) (xj.cons _ _ _ _ (Fc.same _) (xj.cons _ _ _ _ (Fc.same _) (xj.cons _ _ _ _ (Fc.same _) (xj.cons _ _ _ _ (Fc.same _) (xj.cons _ _ _ _ (Fc.same _) (xj.cons _ _ _ _ (Fc.cw 7 1 (ml aR ([(cJ.mk (aD.mk ([120]:List UInt8) ([121]:List UInt8)) 4 0 0 550 ([110,111]:List UInt8))]:List cJ)) rfl (fun i x hi=>((EK.ml (f:=aR) (fun _=>⟨rfl,rfl,rfl,rfl⟩) _) i x hi).1) rfl rfl rfl) (xj.nil)))))))
 · repeat (first|exact FZ.nil|apply FZ.ep|apply FZ.same)
 refine cU fun Kq2 adm=> ?_
 refine cj ?_
 obtain ⟨⟨r1,r2⟩,bp,h⟩:=ak h
 dsimp only at h
 refine aX aq (fK bp) ?_
 refine cj ?_
 refine adm _ _ _ [(0,(.bool false)),(1,(.ptr (H.length+1) 0)),(3,(.bool r2))] _ aN aq ?_
 show GZ _
 refine cj ?_
 obtain ⟨⟨r3,r4⟩,bn,h⟩:=ak h
 dsimp only at h
 refine aX aq (fK bn) ?_
 refine cj ?_
 obtain ⟨⟨r5,r6⟩,bG,h⟩:=ak h
 dsimp only at h
 refine aX aq (BV bG) ?_
 refine cj ?_
 obtain ⟨q7,NP⟩:∃q:Nat,(H.length+1)=q:=⟨_,rfl⟩
 try rw [NP]
 obtain ⟨t13,mS,h⟩:=ak h
 refine bS aq (yP (q7:=q7) (cM _ (cM _ (cM _ (cM _ (cM _ (cM _ (cM _ (Fr.app (Fr.app hfr))))))))) eB dD mS ?_)
 intro H hfr aI
 have hle:=hfr.le
 have kD:=aY aI
 refine aF aI ?_
 obtain rfl:=aE h
 exact aO _ _ _ bC (bM hfr hcl (br bA (.bool t13)) bB bt ⟨rfl,rfl⟩)
abbrev tD:av:=(.rg [(au 5 0),(aj 6 (.len (.t 5))),(au 7 1),(aj 8 (.lens (.t 7))),(aj 9 (.bin .geq (.t 6) (.t 8))),(au 10 9),(az 11 (.mv (.t 0)) 10 true),(az 12 (.mv (.t 0)) 10 true),(az 13 (.len (.t 12)) 10 true),(az 14 (.mv (.t 1)) 10 true),(az 15 (.lens (.t 14)) 10 true),(az 16 (.bin .sub (.t 13) (.t 15)) 10 true),(az 17 (.slc 1 (.t 11) (some (.t 16)) none none) 10 true),(az 18 (.iJ .bs (.t 17)) 10 true),(az 19 (.mv (.t 1)) 10 true),(az 20 (.bin .eql (.t 18) (.t 19)) 10 true),(aj 21 (.pick (.t 10) (.t 20) (.c (.bool false)))),(aP 4 21)])
abbrev FX:av:=(.seq (.rg [(aj 4 (.aS (.c (.bool false))))]) (.seq (.sem (erase tD)) .ret))
theorem FY:bu Tryz.prog 103 22 [(.tmp 4)] (erase FX):=⟨Tryz.f103,_,rfl,by decide,rfl,by kernel_rfl,rfl,rfl⟩
abbrev yf:List Nat:=[0,1,4]
def pT (pU:List UInt8) (b1:List UInt8):Option (Bool):=
 (if (decide ((pU.length:Int)≤(b1.length:Int))) then
  (sub b1 (IntKind.wrap .i64 ((b1.length:Int) - (pU.length:Int))) (b1.length:Int)).bind fun x3=>some (decide (x3=pU))
 else
  some false)
def wH (b1:List UInt8) (pU:List UInt8):Option (Bool):=
 (pT pU b1).bind fun t5=>
 some t5
theorem Av {pU:List UInt8} {b1:List UInt8} {H:AH} {K:Exit→Env→AH→Prop} {t4:Bool}
 (h:pT pU b1=some t4)
 (kn:K .normal [(4,(.bool t4))] H):
 AX Tryz.prog yf 22 H.length (erase tD) K [(0,(.sl .n 1 (ml b8 b1))),(1,(.str pU)),(4,(.bool false))] H:=by
 refine cU fun K' hK=> ?_
 rw [pT.eq_1] at h
 refine aG ?_
 refine b6 h (fun hy1 h=> ?_) fun hy1 h=> ?_
 · obtain ⟨x3,aU,h⟩:=ak h
   have bp:=A8 (f:=b8) aU
   refine aW (aH hy1 aU) ?_
   obtain rfl:=aE h
   exact hK _ _ _ _ _ aN aq kn
 · refine aW hy1 ?_
   obtain rfl:=aE h
   exact hK _ _ _ _ _ aN aq kn
theorem Er {b1:List UInt8} {pU:List UInt8} {H0:AH} {aJ:Bool} (h:wH b1 pU=some aJ):
 ay Tryz.prog 103 [(.sl .n 1 (ml b8 b1)),(.str pU)] H0 fun v H'=>v=(.bool aJ)∧H'=H0:=by
 refine eC FY yf fun hcl K0 aO=> ?_
 rw [wH.eq_1] at h
 refine aG ?_
 obtain ⟨t5,bn,h⟩:=ak h
 refine bS aq (Av bn ?_)
 refine aG ?_
 obtain rfl:=aE h
 exact aO _ _ _ bC (aK hcl (br bA (.bool t5)) bB bt ⟨rfl,rfl⟩)
abbrev qY:av:=(.rg [(au 3 0),(aj 4 (.len (.t 3))),(aj 5 (.bin .eql (.t 4) (.c (.int .i64 0)))),(au 6 5),(az 7 (.mv (.t 0)) 6 false),(az 8 (.call (.c (.fn 103 [])) [(.t 7),(.c (.str [13,10]))]) 6 false),(aj 9 (.pick (.t 6) (.c (.bool true)) (.t 8)))])
abbrev Es:av:=(.seq (.rg [(aj 2 (.aS (.c (.sl .ex 1 []))))]) (.seq (.seq (.sem (erase qY)) (.cond (.t 9) (.seq (.rg [(aj 10 (.fS 1 [])),(au 11 0),(aj 12 (.app 1 1 (.t 10) (.t 11))),(aP 2 12)]) .ret) .skip)) (.seq (.rg [(aj 13 (.fS 1 [])),(au 14 0),(aj 15 (.app 1 1 (.t 13) (.t 14))),(aj 16 (.fS 1 [(.c (b8 13)),(.c (b8 10))])),(aj 17 (.app 1 1 (.t 15) (.t 16))),(aP 2 17)]) .ret)))
theorem Et:bu Tryz.prog 68 18 [(.tmp 2)] (erase Es):=⟨Tryz.f68,_,rfl,by decide,rfl,by kernel_rfl,rfl,rfl⟩
abbrev wI:List Nat:=[0,2,9]
def nI (b1:List UInt8):Option (Bool):=
 (if (decide ((b1.length:Int)=0)) then
  some true
 else
  (wH b1 ([13,10]:List UInt8)).bind fun r2=>some r2)
def uB (b1:List UInt8):Option ((List UInt8)):=
 (nI b1).bind fun t4=>
 (if t4 then
  (cF 1 ([]:List UInt8) b1).bind fun x5=>some x5
 else
  (cF 1 ([]:List UInt8) b1).bind fun x6=>(cF 1 x6 ([13,10]:List UInt8)).bind fun x7=>some x7)
theorem yQ {b1:List UInt8} {H:AH} {K:Exit→Env→AH→Prop} {t3:Bool}
 (h:nI b1=some t3)
 (kn:K .normal [(0,(.sl .n 1 (ml b8 b1))),(9,(.bool t3))] H):
 AX Tryz.prog wI 18 H.length (erase qY) K [(0,(.sl .n 1 (ml b8 b1)))] H:=by
 refine cU fun K' hK=> ?_
 rw [nI.eq_1] at h
 refine aG ?_
 refine b6 h (fun hy1 h=> ?_) fun hy1 h=> ?_
 · refine aW hy1 ?_
   obtain rfl:=aE h
   exact hK _ _ _ _ _ aN aq kn
 · refine aW hy1 ?_
   obtain ⟨r2,aU,h⟩:=ak h
   refine aX aq (Er aU) ?_
   refine aG ?_
   obtain rfl:=aE h
   exact hK _ _ _ _ _ aN aq kn
theorem CY {b1:List UInt8} {H0:AH} {aJ:List UInt8} (h:uB b1=some aJ):
 ay Tryz.prog 68 [(.sl .n 1 (ml b8 b1))] H0 fun v H'=>v=(.sl .own 1 (ml b8 aJ))∧H'=H0:=by
 refine eC Et wI fun hcl K0 aO=> ?_
 rw [uB.eq_1] at h
 refine aG ?_
 obtain ⟨t4,bp,h⟩:=ak h
 refine bS aq (yQ bp ?_)
 refine aG ?_
 refine b7 h (fun bn h=> ?_) fun bn h=> ?_
 · obtain ⟨x5,bG,h⟩:=ak h
   have bY:cF 1 [] (ml b8 b1)=some (ml b8 x5):=eS (f:=b8) bG
   refine aW bY ?_
   obtain rfl:=aE h
   exact aO _ _ _ bC (aK hcl (br bA (.sl .own 1 (ml b8 x5))) bB bt ⟨rfl,rfl⟩)
 · obtain ⟨x6,cK,h⟩:=ak h
   have cE:cF 1 [] (ml b8 b1)=some (ml b8 x6):=eS (f:=b8) cK
   obtain ⟨x7,dO,h⟩:=ak h
   have cT:cF 1 (ml b8 x6) [(b8 13),(b8 10)]=some (ml b8 x7):=eS (f:=b8) dO
   refine aW (aH cE cT) ?_
   obtain rfl:=aE h
   exact aO _ _ _ bC (aK hcl (br bA (.sl .own 1 (ml b8 x7))) bB bt ⟨rfl,rfl⟩)
abbrev qZ:av:=(.rg [(au 15 3),(au 16 6),(aj 17 (.mK 1 (.t 15) (.t 16))),(aj 18 (.ld (.t 17) none)),(aj 19 (.bin .eql (.t 18) (.c (b8 10)))),(au 20 19),(az 21 (.mv (.t 3)) 20 true),(az 22 (.mv (.t 6)) 20 true),(az 23 (.bin .sub (.t 22) (.c (.int .i64 1))) 20 true),(az 24 (.mK 1 (.t 21) (.t 23)) 20 true),(az 25 (.ld (.t 24) none) 20 true),(az 26 (.bin .eql (.t 25) (.c (b8 13))) 20 true),(aj 27 (.pick (.t 20) (.t 26) (.c (.bool false)))),(au 28 27),(az 29 (.mv (.t 6)) 28 true),(az 30 (.mv (.t 5)) 28 true),(az 31 (.bin .gtr (.t 29) (.t 30)) 28 true),(aj 32 (.pick (.t 28) (.t 31) (.c (.bool false))))])
abbrev pV:av:=(.seq (.seq (.rg [(au 9 6),(au 10 3),(aj 11 (.len (.t 10))),(aj 12 (.bin .lss (.t 9) (.t 11)))]) (.cond (.t 12) .skip (.exit 0))) (.seq (.blk 1 (.seq (.sem (erase qZ)) (.cond (.t 32) (.seq (.rg [(au 33 4),(au 34 3),(au 35 5),(au 36 6),(aj 37 (.bin .sub (.t 36) (.c (.int .i64 1)))),(aj 38 (.slc 1 (.t 34) (some (.t 35)) (some (.t 37)) none)),(aj 39 (.iJ .bs (.t 38))),(aj 40 (.fS 1 [(.t 39)])),(aj 41 (.app 1 16 (.t 33) (.t 40))),(aP 4 41)]) (.rg [(au 42 6),(aj 43 (.bin .add (.t 42) (.c (.int .i64 1)))),(aP 5 43)])) .skip))) (.rg [(au 13 6),(aj 14 (.bin .add (.t 13) (.c (.int .i64 1)))),(aP 6 14)])))
abbrev Eu:av:=(.seq (.rg [(aj 2 (.aS (.c (.sl .ex 1 []))))]) (.seq (.rg [(au 7 0),(aj 8 (.call (.c (.fn 68 [])) [(.t 7)])),(aP 3 8)]) (.seq (.rg [(aj 4 (.aS (.c (.sl .ex 1 []))))]) (.seq (.rg [(aj 5 (.aS (.c (.int .i64 0))))]) (.seq (.seq (.rg [(aj 6 (.aS (.c (.int .i64 1))))]) (.blk 0 (.loop (erase pV)))) (.seq (.rg [(au 44 4),(aj 2 (.xe 1 (.t 44)))]) .ret))))))
theorem Ev:bu Tryz.prog 29 45 [(.tmp 2)] (erase Eu):=⟨Tryz.f29,_,rfl,by decide,rfl,by kernel_rfl,rfl,rfl⟩
abbrev pW:List Nat:=[0,2,3,4,5,6,12,32]
def nJ (r2:List UInt8) (i5:Int) (yR:Int):Option (Bool):=
 (idx r2 i5).bind fun x6=>
 (if (decide (x6=10)) then
  (idx r2 (IntKind.wrap .i64 (i5 - 1))).bind fun x7=>
  (if (decide (x7=13)) then
   some (decide (yR<i5))
  else
   some false)
 else
  some false)
def nK (r2:List UInt8):((List (List UInt8))×Int×Int)→Option (St (List (List UInt8)) (List (List UInt8)) ((List (List UInt8))×Int×Int))
 |(gO,yR,i5)=>
  (if (decide (i5<(r2.length:Int))) then
   (nJ r2 i5 yR).bind fun t9=>
   (if t9 then
    (sub r2 yR (IntKind.wrap .i64 (i5 - 1))).bind fun o7=>
    (cF 16 gO ([o7]:List (List UInt8))).bind fun qz=>
    some (.dz (qz,(IntKind.wrap .i64 (i5+1)),(IntKind.wrap .i64 (i5+1))))
   else
    some (.dz (gO,yR,(IntKind.wrap .i64 (i5+1)))))
  else
   some (.eZ gO))
def Aw (F:Nat) (b1:List UInt8):Option ((List (List UInt8))):=
 (uB b1).bind fun r2=>
 ((iter (nK r2) F (([]:List (List UInt8)),0,1)).bind fun Ab=>
 match Ab with
 | .inr nu=>
   some nu
 | .inl _=>none)
theorem yS {r2:List UInt8} {i5:Int} {yR:Int} {gO:List (List UInt8)} {H:AH} {K:Exit→Env→AH→Prop} {t8:Bool}
 (h:nJ r2 i5 yR=some t8)
 (kn:K .normal [(3,(.sl .own 1 (ml b8 r2))),(4,(.sl .own 1 (ml AV.str gO))),(5,(.int .i64 yR)),(6,(.int .i64 i5)),(32,(.bool t8))] H):
 AX Tryz.prog pW 45 H.length (erase qZ) K [(3,(.sl .own 1 (ml b8 r2))),(4,(.sl .own 1 (ml AV.str gO))),(5,(.int .i64 yR)),(6,(.int .i64 i5))] H:=by
 refine cU fun K' hK=> ?_
 rw [nJ.eq_1] at h
 obtain ⟨x6,bp,h⟩:=ak h
 refine aW bp ?_
 refine b6 h (fun bn h=> ?_) fun bn h=> ?_
 · obtain ⟨x7,bG,h⟩:=ak h
   refine aW (aH bn bG) ?_
   refine b6 h (fun bY h=> ?_) fun bY h=> ?_
   · refine aW bY ?_
     obtain rfl:=aE h
     exact hK _ _ _ _ _ aN aq kn
   · refine aW bY ?_
     obtain rfl:=aE h
     exact hK _ _ _ _ _ aN aq kn
 · refine aW bn ?_
   obtain rfl:=aE h
   exact hK _ _ _ _ _ aN aq kn
theorem yT {F:Nat} {i5:Int} {r2:List UInt8} {yR:Int} {gO:List (List UInt8)} {H:AH} {K:Exit→Env→AH→Prop} {o:((List (List UInt8)))⊕((List (List UInt8)))}
 (h:iter (nK r2) F (gO,yR,i5)=some o)
 (dN:∀o':(List (List UInt8)),o= .inr o'→K (.exit 0) [(4,(.sl .own 1 (ml AV.str o')))] H):
 AX Tryz.prog pW 45 H.length (.loop (erase pV)) K [(3,(.sl .own 1 (ml b8 r2))),(4,(.sl .own 1 (ml AV.str gO))),(5,(.int .i64 yR)),(6,(.int .i64 i5))] H:=by
 refine jl (fun s e H1=>match s with|(gO,yR,i5)=>e=[(3,(.sl .own 1 (ml b8 r2))),(4,(.sl .own 1 (ml AV.str gO))),(5,(.int .i64 yR)),(6,(.int .i64 i5))]∧H1=H) h ⟨rfl,rfl⟩ ?_
 rintro K' ⟨gO,yR,i5⟩ st e H ⟨rfl,rfl⟩ h hN hB hR hX
 rw [nK.eq_1] at h
 refine aG ?_
 refine b7 h (fun aU h=> ?_) fun aU h=> ?_
 · refine aG ?_
   obtain ⟨t9,cK,h⟩:=ak h
   refine bS aq (yS (gO:=gO) cK ?_)
   refine aG ?_
   refine b7 h (fun cE h=> ?_) fun cE h=> ?_
   · obtain ⟨o7,dO,h⟩:=ak h
     have cT:=A8 (f:=b8) dO
     obtain ⟨qz,cP,h⟩:=ak h
     have dI:cF 16 (ml AV.str gO) [(.str o7)]=some (ml AV.str qz):=eS (f:=AV.str) cP
     refine aW (aH dO dI) ?_
     obtain rfl:=aE h
     exact hN _ rfl _ _ _ _ aN aq ⟨rfl,rfl⟩
   · refine aG ?_
     obtain rfl:=aE h
     exact hN _ rfl _ _ _ _ aN aq ⟨rfl,rfl⟩
 · refine aG ?_
   obtain rfl:=aE h
   exact hX _ _ _ _ _ eK aN aq (dN _ (hB _ rfl))
theorem Se {F:Nat} {b1:List UInt8} {H0:AH} {aJ:List (List UInt8)} (h:Aw F b1=some aJ):
 ay Tryz.prog 29 [(.sl .n 1 (ml b8 b1))] H0 fun v H'=>v=(.sl .own 1 (ml AV.str aJ))∧H'=H0:=by
 refine eC Ev pW fun hcl K0 aO=> ?_
 rw [Aw.eq_1] at h
 refine aG ?_
 obtain ⟨r2,hy1,h⟩:=ak h
 refine aX aq (CY hy1) ?_
 refine aG ?_
 obtain ⟨Ab,dx,h⟩:=ak h
 refine bS aq (yT dx ?_)
 · rintro nu rfl
   try dsimp only at h
   refine aG ?_
   obtain rfl:=aE h
   exact aO _ _ _ bC (aK hcl (br bA (.sl .own 1 (ml AV.str nu))) bB bt ⟨rfl,rfl⟩)
abbrev pX:av:=(.rg [(au 3 0),(aj 4 (.bin .geq (.t 3) (.c (b8 65)))),(au 5 4),(az 6 (.mv (.t 0)) 5 true),(az 7 (.bin .leq (.t 6) (.c (b8 90))) 5 true),(aj 8 (.pick (.t 5) (.t 7) (.c (.bool false)))),(au 9 8),(az 10 (.mv (.t 0)) 9 false),(az 11 (.bin .geq (.t 10) (.c (b8 97))) 9 false),(az 12 (.mv (.t 11)) 9 false),(az 13 (.mv (.t 0)) 12 true),(az 14 (.bin .leq (.t 13) (.c (b8 122))) 12 true),(az 15 (.pick (.t 12) (.t 14) (.c (.bool false))) 9 false),(aj 16 (.pick (.t 9) (.c (.bool true)) (.t 15))),(aP 2 16)])
abbrev CZ:av:=(.seq (.rg [(aj 2 (.aS (.c (.bool false))))]) (.seq (.sem (erase pX)) .ret))
theorem C3:bu Tryz.prog 135 17 [(.tmp 2)] (erase CZ):=⟨Tryz.f135,_,rfl,by decide,rfl,by kernel_rfl,rfl,rfl⟩
abbrev u6:List Nat:=[0,2]
def iG (c1:UInt8):Option (Bool):=
 some (((decide (65≤c1))&&(decide (c1≤90)))||((decide (97≤c1))&&(decide (c1≤122))))
theorem xE {c1:UInt8} {H:AH} {K:Exit→Env→AH→Prop}
 (kn:K .normal [(2,(.bool (((decide (65≤c1))&&(decide (c1≤90)))||((decide (97≤c1))&&(decide (c1≤122))))))] H):
 AX Tryz.prog u6 17 H.length (erase pX) K [(0,(b8 c1)),(2,(.bool false))] H:=by
 refine cU fun K' hK=> ?_
 refine aG ?_
 refine ob (fun hy1=> ?_) fun hy1=> ?_
 · refine aW hy1 ?_
   refine ob (fun aU=> ?_) fun aU=> ?_
   · refine aW aU ?_
     exact hK _ _ _ _ _ (fq (aH hy1 aU)) aq kn
   · refine aW aU ?_
     refine ob (fun bp=> ?_) fun bp=> ?_
     · refine aW bp ?_
       exact hK _ _ _ _ _ (fq (aH hy1 (aH aU bp))) aq kn
     · refine aW bp ?_
       exact hK _ _ _ _ _ (fq (aH hy1 (aH aU bp))) aq kn
 · refine aW hy1 ?_
   refine ob (fun bn=> ?_) fun bn=> ?_
   · refine aW bn ?_
     exact hK _ _ _ _ _ (fq (aH hy1 bn)) aq kn
   · refine aW bn ?_
     exact hK _ _ _ _ _ (fq (aH hy1 bn)) aq kn
theorem tE {c1:UInt8} {H0:AH} {aJ:Bool} (h:iG c1=some aJ):
 ay Tryz.prog 135 [(b8 c1)] H0 fun v H'=>v=(.bool aJ)∧H'=H0:=by
 refine eC C3 u6 fun hcl K0 aO=> ?_
 rw [iG.eq_1] at h
 refine aG ?_
 refine bS aq (xE (c1:=c1) ?_)
 refine aG ?_
 obtain rfl:=aE h
 exact aO _ _ _ bC (aK hcl (br bA (.bool (((decide (65≤c1))&&(decide (c1≤90)))||((decide (97≤c1))&&(decide (c1≤122)))))) bB bt ⟨rfl,rfl⟩)
abbrev q9:av:=(.rg [(au 3 0),(aj 4 (.bin .geq (.t 3) (.c (b8 48)))),(au 5 4),(az 6 (.mv (.t 0)) 5 true),(az 7 (.bin .leq (.t 6) (.c (b8 57))) 5 true),(aj 8 (.pick (.t 5) (.t 7) (.c (.bool false)))),(aP 2 8)])
abbrev Ew:av:=(.seq (.rg [(aj 2 (.aS (.c (.bool false))))]) (.seq (.sem (erase q9)) .ret))
theorem Ex:bu Tryz.prog 136 9 [(.tmp 2)] (erase Ew):=⟨Tryz.f136,_,rfl,by decide,rfl,by kernel_rfl,rfl,rfl⟩
abbrev wJ:List Nat:=[0,2]
def ia (c1:UInt8):Option (Bool):=
 some ((decide (48≤c1))&&(decide (c1≤57)))
theorem yU {c1:UInt8} {H:AH} {K:Exit→Env→AH→Prop}
 (kn:K .normal [(2,(.bool ((decide (48≤c1))&&(decide (c1≤57)))))] H):
 AX Tryz.prog wJ 9 H.length (erase q9) K [(0,(b8 c1)),(2,(.bool false))] H:=by
 refine cU fun K' hK=> ?_
 refine aG ?_
 refine ob (fun hy1=> ?_) fun hy1=> ?_
 · refine aW hy1 ?_
   exact hK _ _ _ _ _ (fq hy1) aq kn
 · refine aW hy1 ?_
   exact hK _ _ _ _ _ (fq hy1) aq kn
theorem nL {c1:UInt8} {H0:AH} {aJ:Bool} (h:ia c1=some aJ):
 ay Tryz.prog 136 [(b8 c1)] H0 fun v H'=>v=(.bool aJ)∧H'=H0:=by
 refine eC Ex wJ fun hcl K0 aO=> ?_
 rw [ia.eq_1] at h
 refine aG ?_
 refine bS aq (yU (c1:=c1) ?_)
 refine aG ?_
 obtain rfl:=aE h
 exact aO _ _ _ bC (aK hcl (br bA (.bool ((decide (48≤c1))&&(decide (c1≤57))))) bB bt ⟨rfl,rfl⟩)
abbrev ri:av:=(.rg [(au 5 0),(aj 6 (.bin .eql (.t 5) (.c (.str [])))),(au 7 6),(az 8 (.mv (.t 0)) 7 false),(az 9 (.lens (.t 8)) 7 false),(az 10 (.bin .gtr (.t 9) (.c (.int .i64 3))) 7 false),(aj 11 (.pick (.t 7) (.c (.bool true)) (.t 10))),(au 12 11),(az 13 (.mv (.t 0)) 12 false),(az 14 (.ixs (.t 13) (.c (.int .i64 0))) 12 false),(az 15 (.bin .eql (.t 14) (.c (b8 48))) 12 false),(az 16 (.mv (.t 15)) 12 false),(az 17 (.mv (.t 0)) 16 true),(az 18 (.lens (.t 17)) 16 true),(az 19 (.bin .gtr (.t 18) (.c (.int .i64 1))) 16 true),(az 20 (.pick (.t 16) (.t 19) (.c (.bool false))) 12 false),(aj 21 (.pick (.t 12) (.c (.bool true)) (.t 20)))])
abbrev pY:av:=(.seq (.seq (.rg [(au 22 4),(au 23 0),(aj 24 (.lens (.t 23))),(aj 25 (.bin .lss (.t 22) (.t 24)))]) (.cond (.t 25) .skip (.exit 0))) (.seq (.blk 1 (.seq (.seq (.rg [(au 28 0),(au 29 4),(aj 30 (.ixs (.t 28) (.t 29))),(aj 31 (.call (.c (.fn 136 [])) [(.t 30)])),(aj 32 (.un .not (.t 31)))]) (.cond (.t 32) (.seq (.rg [(aj 2 (.aS (.c (.bool false))))]) .ret) .skip)) (.rg [(au 33 3),(aj 34 (.bin .mul (.c (.int .i64 10)) (.t 33))),(au 35 0),(au 36 4),(aj 37 (.ixs (.t 35) (.t 36))),(aj 38 (.bin .sub (.t 37) (.c (b8 48)))),(aj 39 (.iJ (.int .i64) (.t 38))),(aj 40 (.bin .add (.t 34) (.t 39))),(aP 3 40)]))) (.rg [(au 26 4),(aj 27 (.bin .add (.t 26) (.c (.int .i64 1)))),(aP 4 27)])))
abbrev Ey:av:=(.seq (.rg [(aj 2 (.aS (.c (.bool false))))]) (.seq (.seq (.sem (erase ri)) (.cond (.t 21) (.seq (.rg [(aj 2 (.aS (.c (.bool false))))]) .ret) .skip)) (.seq (.rg [(aj 3 (.aS (.c (.int .i64 0))))]) (.seq (.seq (.rg [(aj 4 (.aS (.c (.int .i64 0))))]) (.blk 0 (.loop (erase pY)))) (.seq (.rg [(au 41 3),(aj 42 (.bin .leq (.t 41) (.c (.int .i64 255)))),(aP 2 42)]) .ret)))))
theorem Ez:bu Tryz.prog 122 43 [(.tmp 2)] (erase Ey):=⟨Tryz.f122,_,rfl,by decide,rfl,by kernel_rfl,rfl,rfl⟩
abbrev pZ:List Nat:=[0,2,3,4,21,25,32]
def fc (s1:List UInt8):Option (Bool):=
 (if (decide (s1=([]:List UInt8))) then
  some true
 else
  (if (decide (3<(s1.length:Int))) then
   some true
  else
   (idx s1 0).bind fun x2=>
   (if (decide (x2=48)) then
    some (decide (1<(s1.length:Int)))
   else
    some false)))
def gb (s1:List UInt8):(Int×Int)→Option (St Bool Int (Int×Int))
 |(K1,i6)=>
  (if (decide (i6<(s1.length:Int))) then
   (idx s1 i6).bind fun x7=>
   (ia x7).bind fun r8=>
   (if (!r8) then
    some (.ret false)
   else
    some (.dz ((IntKind.wrap .i64 ((IntKind.wrap .i64 (10*K1))+(IntKind.wrap .i64 ((x7 - 48).toNat:Int)))),(IntKind.wrap .i64 (i6+1)))))
  else
   some (.eZ K1))
def eT (F:Nat) (s1:List UInt8):Option (Bool):=
 (fc s1).bind fun t4=>
 (if t4 then
  some false
 else
  ((iter (gb s1) F (0,0)).bind fun Vw=>
  match Vw with
  | .inr td=>
    some (decide (td≤255))
  | .inl gj=>
    some gj))
theorem yV {s1:List UInt8} {H:AH} {K:Exit→Env→AH→Prop} {t3:Bool}
 (h:fc s1=some t3)
 (kn:K .normal [(0,(.str s1)),(21,(.bool t3))] H):
 AX Tryz.prog pZ 43 H.length (erase ri) K [(0,(.str s1))] H:=by
 refine cU fun K' hK=> ?_
 rw [fc.eq_1] at h
 refine aG ?_
 refine b6 h (fun hy1 h=> ?_) fun hy1 h=> ?_
 · refine aW hy1 ?_
   obtain rfl:=aE h
   exact hK _ _ _ _ _ aN aq kn
 · refine aW hy1 ?_
   refine b6 h (fun aU h=> ?_) fun aU h=> ?_
   · refine aW aU ?_
     obtain rfl:=aE h
     exact hK _ _ _ _ _ aN aq kn
   · obtain ⟨x2,bp,h⟩:=ak h
     refine aW (aH aU bp) ?_
     refine b6 h (fun bn h=> ?_) fun bn h=> ?_
     · refine aW bn ?_
       obtain rfl:=aE h
       exact hK _ _ _ _ _ aN aq kn
     · refine aW bn ?_
       obtain rfl:=aE h
       exact hK _ _ _ _ _ aN aq kn
theorem yW {F:Nat} {i6:Int} {s1:List UInt8} {K1:Int} {H:AH} {K:Exit→Env→AH→Prop} {o:(Bool)⊕(Int)}
 (h:iter (gb s1) F (K1,i6)=some o)
 (dN:∀o':Int,o= .inr o'→K (.exit 0) [(3,(.int .i64 o'))] H)
 (kr:∀o':Bool,o= .inl o'→K .ret [(2,(.bool o'))] H):
 AX Tryz.prog pZ 43 H.length (.loop (erase pY)) K [(0,(.str s1)),(3,(.int .i64 K1)),(4,(.int .i64 i6))] H:=by
 refine jl (fun s e H1=>match s with|(K1,i6)=>e=[(0,(.str s1)),(3,(.int .i64 K1)),(4,(.int .i64 i6))]∧H1=H) h ⟨rfl,rfl⟩ ?_
 rintro K' ⟨K1,i6⟩ st e H ⟨rfl,rfl⟩ h hN hB hR hX
 rw [gb.eq_1] at h
 refine aG ?_
 refine b7 h (fun cK h=> ?_) fun cK h=> ?_
 · obtain ⟨x7,cE,h⟩:=ak h
   refine aW cE ?_
   obtain ⟨r8,dO,h⟩:=ak h
   refine aX aq (nL dO) ?_
   refine aG ?_
   refine b7 h (fun cT h=> ?_) fun cT h=> ?_
   · refine aG ?_
     obtain rfl:=aE h
     exact hX _ _ _ _ _ eK aN aq (kr _ (hR _ rfl))
   · refine aW cE ?_
     obtain rfl:=aE h
     exact hN _ rfl _ _ _ _ aN aq ⟨rfl,rfl⟩
 · refine aG ?_
   obtain rfl:=aE h
   exact hX _ _ _ _ _ eK aN aq (dN _ (hB _ rfl))
theorem C4 {F:Nat} {s1:List UInt8} {H0:AH} {aJ:Bool} (h:eT F s1=some aJ):
 ay Tryz.prog 122 [(.str s1)] H0 fun v H'=>v=(.bool aJ)∧H'=H0:=by
 refine eC Ez pZ fun hcl K0 aO=> ?_
 rw [eT.eq_1] at h
 refine aG ?_
 obtain ⟨t4,bG,h⟩:=ak h
 refine bS aq (yV bG ?_)
 refine aG ?_
 refine b7 h (fun bY h=> ?_) fun bY h=> ?_
 · refine aG ?_
   obtain rfl:=aE h
   exact aO _ _ _ bC (aK hcl (br bA (.bool false)) bB bt ⟨rfl,rfl⟩)
 · refine aG ?_
   obtain ⟨Vw,cP,h⟩:=ak h
   refine bS aq (yW cP ?_ ?_)
   · rintro td rfl
     try dsimp only at h
     refine aG ?_
     obtain rfl:=aE h
     exact aO _ _ _ bC (aK hcl (br bA (.bool (decide (td≤255)))) bB bt ⟨rfl,rfl⟩)
   · rintro gj rfl
     try dsimp only at h
     refine aG ?_
     obtain rfl:=aE h
     exact aO _ _ _ bC (aK hcl (br bA (.bool gj)) bB bt ⟨rfl,rfl⟩)
abbrev rj:av:=(.rg [(au 4 0),(aj 5 (.bin .eql (.t 4) (.c (.str [])))),(au 6 5),(az 7 (.mv (.t 0)) 6 false),(az 8 (.lens (.t 7)) 6 false),(az 9 (.bin .gtr (.t 8) (.c (.int .i64 63))) 6 false),(aj 10 (.pick (.t 6) (.c (.bool true)) (.t 9))),(au 11 10),(az 12 (.mv (.t 0)) 11 false),(az 13 (.ixs (.t 12) (.c (.int .i64 0))) 11 false),(az 14 (.bin .eql (.t 13) (.c (b8 45))) 11 false),(aj 15 (.pick (.t 11) (.c (.bool true)) (.t 14))),(au 16 15),(az 17 (.mv (.t 0)) 16 false),(az 18 (.mv (.t 0)) 16 false),(az 19 (.lens (.t 18)) 16 false),(az 20 (.bin .sub (.t 19) (.c (.int .i64 1))) 16 false),(az 21 (.ixs (.t 17) (.t 20)) 16 false),(az 22 (.bin .eql (.t 21) (.c (b8 45))) 16 false),(aj 23 (.pick (.t 16) (.c (.bool true)) (.t 22)))])
abbrev rq:av:=(.rg [(au 30 0),(au 31 3),(aj 32 (.ixs (.t 30) (.t 31))),(aj 33 (.call (.c (.fn 135 [])) [(.t 32)])),(aj 34 (.un .not (.t 33))),(au 35 34),(az 36 (.mv (.t 0)) 35 true),(az 37 (.mv (.t 3)) 35 true),(az 38 (.ixs (.t 36) (.t 37)) 35 true),(az 39 (.call (.c (.fn 136 [])) [(.t 38)]) 35 true),(az 40 (.un .not (.t 39)) 35 true),(aj 41 (.pick (.t 35) (.t 40) (.c (.bool false)))),(au 42 41),(az 43 (.mv (.t 0)) 42 true),(az 44 (.mv (.t 3)) 42 true),(az 45 (.ixs (.t 43) (.t 44)) 42 true),(az 46 (.bin .neq (.t 45) (.c (b8 45))) 42 true),(aj 47 (.pick (.t 42) (.t 46) (.c (.bool false))))])
abbrev p6:av:=(.seq (.seq (.rg [(au 24 3),(au 25 0),(aj 26 (.lens (.t 25))),(aj 27 (.bin .lss (.t 24) (.t 26)))]) (.cond (.t 27) .skip (.exit 0))) (.seq (.blk 1 (.seq (.sem (erase rq)) (.cond (.t 47) (.seq (.rg [(aj 2 (.aS (.c (.bool false))))]) .ret) .skip))) (.rg [(au 28 3),(aj 29 (.bin .add (.t 28) (.c (.int .i64 1)))),(aP 3 29)])))
abbrev EA:av:=(.seq (.rg [(aj 2 (.aS (.c (.bool false))))]) (.seq (.seq (.sem (erase rj)) (.cond (.t 23) (.seq (.rg [(aj 2 (.aS (.c (.bool false))))]) .ret) .skip)) (.seq (.seq (.rg [(aj 3 (.aS (.c (.int .i64 0))))]) (.blk 0 (.loop (erase p6)))) (.seq (.rg [(aj 2 (.aS (.c (.bool true))))]) .ret))))
theorem EB:bu Tryz.prog 123 48 [(.tmp 2)] (erase EA):=⟨Tryz.f123,_,rfl,by decide,rfl,by kernel_rfl,rfl,rfl⟩
abbrev lE:List Nat:=[0,2,3,23,27,47]
def kf (s1:List UInt8):Option (Bool):=
 (if (decide (s1=([]:List UInt8))) then
  some true
 else
  (if (decide (63<(s1.length:Int))) then
   some true
  else
   (idx s1 0).bind fun x2=>
   (if (decide (x2=45)) then
    some true
   else
    (idx s1 (IntKind.wrap .i64 ((s1.length:Int) - 1))).bind fun x3=>some (decide (x3=45)))))
def iA (s1:List UInt8) (i6:Int):Option (Bool):=
 (idx s1 i6).bind fun x7=>
 (iG x7).bind fun r8=>
 (if (!r8) then
  (ia x7).bind fun r9=>(if (!r9) then
   some (!decide (x7=45))
  else
   some false)
 else
  some false)
def fe (s1:List UInt8):Int→Option (St Bool Unit Int)
 |i6=>
  (if (decide (i6<(s1.length:Int))) then
   (iA s1 i6).bind fun t11=>
   (if t11 then
    some (.ret false)
   else
    some (.dz (IntKind.wrap .i64 (i6+1))))
  else
   some (.eZ ()))
def lF (F:Nat) (s1:List UInt8):Option (Bool):=
 (kf s1).bind fun t5=>
 (if t5 then
  some false
 else
  ((iter (fe s1) F 0).bind fun Ab=>
  match Ab with
  | .inr ()=>
    some true
  | .inl gK=>
    some gK))
theorem yX {s1:List UInt8} {H:AH} {K:Exit→Env→AH→Prop} {t4:Bool}
 (h:kf s1=some t4)
 (kn:K .normal [(0,(.str s1)),(23,(.bool t4))] H):
 AX Tryz.prog lE 48 H.length (erase rj) K [(0,(.str s1))] H:=by
 refine cU fun K' hK=> ?_
 rw [kf.eq_1] at h
 refine aG ?_
 refine b6 h (fun hy1 h=> ?_) fun hy1 h=> ?_
 · refine aW hy1 ?_
   obtain rfl:=aE h
   exact hK _ _ _ _ _ aN aq kn
 · refine aW hy1 ?_
   refine b6 h (fun aU h=> ?_) fun aU h=> ?_
   · refine aW aU ?_
     obtain rfl:=aE h
     exact hK _ _ _ _ _ aN aq kn
   · obtain ⟨x2,bp,h⟩:=ak h
     refine aW (aH aU bp) ?_
     refine b6 h (fun bn h=> ?_) fun bn h=> ?_
     · refine aW bn ?_
       obtain rfl:=aE h
       exact hK _ _ _ _ _ aN aq kn
     · obtain ⟨x3,bG,h⟩:=ak h
       refine aW (aH bn bG) ?_
       obtain rfl:=aE h
       exact hK _ _ _ _ _ aN aq kn
theorem yY {s1:List UInt8} {i6:Int} {H:AH} {K:Exit→Env→AH→Prop} {t10:Bool}
 (h:iA s1 i6=some t10)
 (kn:K .normal [(0,(.str s1)),(3,(.int .i64 i6)),(47,(.bool t10))] H):
 AX Tryz.prog lE 48 H.length (erase rq) K [(0,(.str s1)),(3,(.int .i64 i6))] H:=by
 refine cU fun K' hK=> ?_
 rw [iA.eq_1] at h
 obtain ⟨x7,dO,h⟩:=ak h
 refine aW dO ?_
 obtain ⟨r8,cT,h⟩:=ak h
 refine aX aq (tE cT) ?_
 refine aG ?_
 refine b6 h (fun cP h=> ?_) fun cP h=> ?_
 · refine aW (aH cP dO) ?_
   obtain ⟨r9,dI,h⟩:=ak h
   refine aX aq (nL dI) ?_
   refine aG ?_
   refine b6 h (fun dx h=> ?_) fun dx h=> ?_
   · refine aW (aH dx dO) ?_
     obtain rfl:=aE h
     exact hK _ _ _ _ _ aN aq kn
   · refine aW dx ?_
     obtain rfl:=aE h
     exact hK _ _ _ _ _ aN aq kn
 · refine aW cP ?_
   obtain rfl:=aE h
   exact hK _ _ _ _ _ aN aq kn
theorem yZ {F:Nat} {i6:Int} {s1:List UInt8} {H:AH} {K:Exit→Env→AH→Prop} {o:(Bool)⊕(Unit)}
 (h:iter (fe s1) F i6=some o)
 (dN:∀o':Unit,o= .inr o'→K (.exit 0) [] H)
 (kr:∀o':Bool,o= .inl o'→K .ret [(2,(.bool o'))] H):
 AX Tryz.prog lE 48 H.length (.loop (erase p6)) K [(0,(.str s1)),(3,(.int .i64 i6))] H:=by
 refine jl (fun s e H1=>match s with|i6=>e=[(0,(.str s1)),(3,(.int .i64 i6))]∧H1=H) h ⟨rfl,rfl⟩ ?_
 rintro K' i6 st e H ⟨rfl,rfl⟩ h hN hB hR hX
 rw [fe.eq_1] at h
 refine aG ?_
 refine b7 h (fun cE h=> ?_) fun cE h=> ?_
 · refine aG ?_
   obtain ⟨t11,gz,h⟩:=ak h
   refine bS aq (yY gz ?_)
   refine aG ?_
   refine b7 h (fun jb h=> ?_) fun jb h=> ?_
   · refine aG ?_
     obtain rfl:=aE h
     exact hX _ _ _ _ _ eK aN aq (kr _ (hR _ rfl))
   · refine aG ?_
     obtain rfl:=aE h
     exact hN _ rfl _ _ _ _ aN aq ⟨rfl,rfl⟩
 · refine aG ?_
   obtain rfl:=aE h
   exact hX _ _ _ _ _ eK WE.nil aq (dN _ (hB _ rfl))
theorem C5 {F:Nat} {s1:List UInt8} {H0:AH} {aJ:Bool} (h:lF F s1=some aJ):
 ay Tryz.prog 123 [(.str s1)] H0 fun v H'=>v=(.bool aJ)∧H'=H0:=by
 refine eC EB lE fun hcl K0 aO=> ?_
 rw [lF.eq_1] at h
 refine aG ?_
 obtain ⟨t5,bY,h⟩:=ak h
 refine bS aq (yX bY ?_)
 refine aG ?_
 refine b7 h (fun cK h=> ?_) fun cK h=> ?_
 · refine aG ?_
   obtain rfl:=aE h
   exact aO _ _ _ bC (aK hcl (br bA (.bool false)) bB bt ⟨rfl,rfl⟩)
 · refine aG ?_
   obtain ⟨Ab,iR,h⟩:=ak h
   refine bS aq (yZ iR ?_ ?_)
   · rintro ⟨⟩ rfl
     try dsimp only at h
     refine aG ?_
     obtain rfl:=aE h
     exact aO _ _ _ bC (aK hcl (br bA (.bool true)) bB bt ⟨rfl,rfl⟩)
   · rintro gK rfl
     try dsimp only at h
     refine aG ?_
     obtain rfl:=aE h
     exact aO _ _ _ bC (aK hcl (br bA (.bool gK)) bB bt ⟨rfl,rfl⟩)
abbrev p7:av:=(.rg [(au 7 0),(aj 8 (.bin .eql (.t 7) (.c (.str [])))),(au 9 8),(az 10 (.mv (.t 0)) 9 false),(az 11 (.lens (.t 10)) 9 false),(az 12 (.bin .gtr (.t 11) (.c (.int .i64 255))) 9 false),(aj 13 (.pick (.t 9) (.c (.bool true)) (.t 12)))])
abbrev p8:av:=(.rg [(au 18 0),(au 19 0),(aj 20 (.lens (.t 19))),(aj 21 (.bin .sub (.t 20) (.c (.int .i64 1)))),(aj 22 (.ixs (.t 18) (.t 21))),(aj 23 (.bin .neq (.t 22) (.c (b8 93)))),(au 24 23),(az 25 (.mv (.t 0)) 24 false),(az 26 (.lens (.t 25)) 24 false),(az 27 (.bin .lss (.t 26) (.c (.int .i64 2))) 24 false),(aj 28 (.pick (.t 24) (.c (.bool true)) (.t 27)))])
abbrev p9:av:=(.cond (.t 17) (.seq (.seq (.sem (erase p8)) (.cond (.t 28) (.seq (.rg [(aj 2 (.aS (.c (.bool false))))]) .ret) .skip)) (.rg [(au 29 0),(au 30 0),(aj 31 (.lens (.t 30))),(aj 32 (.bin .sub (.t 31) (.c (.int .i64 1)))),(aj 33 (.xd (.t 29) (some (.c (.int .i64 1))) (some (.t 32)))),(aP 0 33)])) .skip)
abbrev qa:av:=(.rg [(au 40 6),(au 41 0),(aj 42 (.lens (.t 41))),(aj 43 (.bin .lss (.t 40) (.t 42))),(au 44 43),(az 45 (.mv (.t 0)) 44 true),(az 46 (.mv (.t 6)) 44 true),(az 47 (.ixs (.t 45) (.t 46)) 44 true),(az 48 (.bin .neq (.t 47) (.c (b8 46))) 44 true),(aj 49 (.pick (.t 44) (.t 48) (.c (.bool false))))])
abbrev qb:av:=(.rg [(au 50 3),(au 51 50),(az 52 (.mv (.t 0)) 51 true),(az 53 (.mv (.t 4)) 51 true),(az 54 (.mv (.t 6)) 51 true),(az 55 (.xd (.t 52) (some (.t 53)) (some (.t 54))) 51 true),(az 56 (.call (.c (.fn 122 [])) [(.t 55)]) 51 true),(az 57 (.un .not (.t 56)) 51 true),(aj 58 (.pick (.t 51) (.t 57) (.c (.bool false)))),(au 59 58),(az 60 (.mv (.t 3)) 59 false),(az 61 (.un .not (.t 60)) 59 false),(az 62 (.mv (.t 61)) 59 false),(az 63 (.mv (.t 0)) 62 true),(az 64 (.mv (.t 4)) 62 true),(az 65 (.mv (.t 6)) 62 true),(az 66 (.xd (.t 63) (some (.t 64)) (some (.t 65))) 62 true),(az 67 (.call (.c (.fn 123 [])) [(.t 66)]) 62 true),(az 68 (.un .not (.t 67)) 62 true),(az 69 (.pick (.t 62) (.t 68) (.c (.bool false))) 59 false),(aj 70 (.pick (.t 59) (.c (.bool true)) (.t 69)))])
abbrev nV:av:=(.seq (.seq (.rg [(au 34 6),(au 35 0),(aj 36 (.lens (.t 35))),(aj 37 (.bin .leq (.t 34) (.t 36)))]) (.cond (.t 37) .skip (.exit 0))) (.seq (.blk 1 (.seq (.seq (.sem (erase qa)) (.cond (.t 49) (.exit 1) .skip)) (.seq (.seq (.sem (erase qb)) (.cond (.t 70) (.seq (.rg [(aj 2 (.aS (.c (.bool false))))]) .ret) .skip)) (.seq (.rg [(au 71 5),(aj 72 (.bin .add (.t 71) (.c (.int .i64 1)))),(aP 5 72)]) (.rg [(au 73 6),(aj 74 (.bin .add (.t 73) (.c (.int .i64 1)))),(aP 4 74)]))))) (.rg [(au 38 6),(aj 39 (.bin .add (.t 38) (.c (.int .i64 1)))),(aP 6 39)])))
abbrev qc:av:=(.rg [(au 75 3),(aj 76 (.un .not (.t 75))),(au 77 76),(az 78 (.mv (.t 5)) 77 false),(az 79 (.bin .eql (.t 78) (.c (.int .i64 4))) 77 false),(aj 80 (.pick (.t 77) (.c (.bool true)) (.t 79))),(aP 2 80)])
abbrev C6:av:=(.seq (.rg [(aj 2 (.aS (.c (.bool false))))]) (.seq (.seq (.sem (erase p7)) (.cond (.t 13) (.seq (.rg [(aj 2 (.aS (.c (.bool false))))]) .ret) .skip)) (.seq (.rg [(au 14 0),(aj 15 (.ixs (.t 14) (.c (.int .i64 0)))),(aj 16 (.bin .eql (.t 15) (.c (b8 91)))),(aP 3 16)]) (.seq (.seq (.rg [(au 17 3)]) (.sem (erase p9))) (.seq (.rg [(aj 4 (.aS (.c (.int .i64 0))))]) (.seq (.rg [(aj 5 (.aS (.c (.int .i64 0))))]) (.seq (.seq (.rg [(aj 6 (.aS (.c (.int .i64 0))))]) (.blk 0 (.loop (erase nV)))) (.seq (.sem (erase qc)) .ret))))))))
theorem C7:bu Tryz.prog 87 81 [(.tmp 2)] (erase C6):=⟨Tryz.f87,_,rfl,by decide,rfl,by kernel_rfl,rfl,rfl⟩
abbrev eD:List Nat:=[0,2,3,4,5,6,13,17,28,37,49,70]
def jt (s1:List UInt8):Option (Bool):=
 (idx s1 (IntKind.wrap .i64 ((s1.length:Int) - 1))).bind fun x3=>
 (if (!decide (x3=93)) then
  some true
 else
  some (decide ((s1.length:Int)<2)))
def gI (x2:UInt8) (s1:List UInt8):Option (St Bool Unit (List UInt8)):=
 (if (decide (x2=91)) then
  (jt s1).bind fun t5=>
  (if t5 then
   some (.ret false)
  else
   (sub s1 1 (IntKind.wrap .i64 ((s1.length:Int) - 1))).bind fun x6=>some (.dz x6))
 else
  some (.dz s1))
def eO (i12:Int) (s9:List UInt8):Option (Bool):=
 (if (decide (i12<(s9.length:Int))) then
  (idx s9 i12).bind fun Im=>some (!decide (Im=46))
 else
  some false)
def gJ (F:Nat) (x2:UInt8) (s9:List UInt8) (lG:Int) (i12:Int):Option (Bool):=
 (if (decide (x2=91)) then
  (sub s9 lG i12).bind fun FR=>
  (eT F FR).bind fun F0=>(if (!F0) then
   some true
  else
   some false)
 else
  (sub s9 lG i12).bind fun CJ=>(lF F CJ).bind fun Ec=>some (!Ec))
def cu (F:Nat) (s9:List UInt8) (x2:UInt8):(Int×Int×Int)→Option (St Bool Int (Int×Int×Int))
 |(lG,eA,i12)=>
  (if (decide (i12≤(s9.length:Int))) then
   (eO i12 s9).bind fun t15=>
   (if t15 then
    some (.dz (lG,eA,(IntKind.wrap .i64 (i12+1))))
   else
    (gJ F x2 s9 lG i12).bind fun t21=>
    (if t21 then
     some (.ret false)
    else
     some (.dz ((IntKind.wrap .i64 (i12+1)),(IntKind.wrap .i64 (eA+1)),(IntKind.wrap .i64 (i12+1))))))
  else
   some (.eZ eA))
def fH (F:Nat) (s1:List UInt8):Option (Bool):=
 (if ((decide (s1=([]:List UInt8)))||(decide (255<(s1.length:Int)))) then
  some false
 else
  (idx s1 0).bind fun x2=>
  ((gI x2 s1).bind fun Vx=>
  match Vx with
  | .dz s9=>
    ((iter (cu F s9 x2) F (0,0,0)).bind fun o26=>
    match o26 with
    | .inr mY=>
      some ((!(decide (x2=91)))||(decide (mY=4)))
    | .inl RP=>
      some RP)
  | .ret r27=>
    some r27
  | .eZ _=>none))
theorem xF {s1:List UInt8} {H:AH} {K:Exit→Env→AH→Prop}
 (kn:K .normal [(0,(.str s1)),(13,(.bool ((decide (s1=([]:List UInt8)))||(decide (255<(s1.length:Int))))))] H):
 AX Tryz.prog eD 81 H.length (erase p7) K [(0,(.str s1))] H:=by
 refine cU fun K' hK=> ?_
 refine aG ?_
 refine ob (fun hy1=> ?_) fun hy1=> ?_
 · refine aW hy1 ?_
   exact hK _ _ _ _ _ (fq hy1) aq kn
 · refine aW hy1 ?_
   exact hK _ _ _ _ _ (fq hy1) aq kn
theorem xG {s1:List UInt8} {x2:UInt8} {H:AH} {K:Exit→Env→AH→Prop} {t4:Bool}
 (h:jt s1=some t4)
 (kn:K .normal [(0,(.str s1)),(3,(.bool (decide (x2=91)))),(28,(.bool t4))] H):
 AX Tryz.prog eD 81 H.length (erase p8) K [(0,(.str s1)),(3,(.bool (decide (x2=91))))] H:=by
 refine cU fun K' hK=> ?_
 rw [jt.eq_1] at h
 obtain ⟨x3,bG,h⟩:=ak h
 refine aW bG ?_
 refine b6 h (fun bY h=> ?_) fun bY h=> ?_
 · refine aW bY ?_
   obtain rfl:=aE h
   exact hK _ _ _ _ _ aN aq kn
 · refine aW bY ?_
   obtain rfl:=aE h
   exact hK _ _ _ _ _ aN aq kn
theorem xH {x2:UInt8} {s1:List UInt8} {H:AH} {K:Exit→Env→AH→Prop} {o:St Bool Unit (List UInt8)}
 (h:gI x2 s1=some o)
 (kn:∀o':(List UInt8),o= .dz o'→K .normal [(0,(.str o')),(3,(.bool (decide (x2=91))))] H)
 (kr:∀o':Bool,o= .ret o'→K .ret [(2,(.bool o'))] H):
 AX Tryz.prog eD 81 H.length (erase p9) K [(0,(.str s1)),(3,(.bool (decide (x2=91)))),(17,(.bool (decide (x2=91))))] H:=by
 refine cU fun K' hK=> ?_
 rw [gI.eq_1] at h
 refine aG ?_
 refine b7 h (fun bn h=> ?_) fun bn h=> ?_
 · refine aG ?_
   obtain ⟨t5,cK,h⟩:=ak h
   refine bS aq (xG (x2:=x2) cK ?_)
   refine aG ?_
   refine b7 h (fun cE h=> ?_) fun cE h=> ?_
   · refine aG ?_
     obtain rfl:=aE h
     exact hK _ _ _ _ _ aN aq (kr _ rfl)
   · obtain ⟨x6,dO,h⟩:=ak h
     refine aW dO ?_
     obtain rfl:=aE h
     exact hK _ _ _ _ _ aN aq (kn _ rfl)
 · refine aG ?_
   obtain rfl:=aE h
   exact hK _ _ _ _ _ aN aq (kn _ rfl)
theorem xI {i12:Int} {s9:List UInt8} {x2:UInt8} {lG:Int} {eA:Int} {H:AH} {K:Exit→Env→AH→Prop} {t14:Bool}
 (h:eO i12 s9=some t14)
 (kn:K .normal [(0,(.str s9)),(3,(.bool (decide (x2=91)))),(4,(.int .i64 lG)),(5,(.int .i64 eA)),(6,(.int .i64 i12)),(49,(.bool t14))] H):
 AX Tryz.prog eD 81 H.length (erase qa) K [(0,(.str s9)),(3,(.bool (decide (x2=91)))),(4,(.int .i64 lG)),(5,(.int .i64 eA)),(6,(.int .i64 i12))] H:=by
 refine cU fun K' hK=> ?_
 rw [eO.eq_1] at h
 refine aG ?_
 refine b6 h (fun dI h=> ?_) fun dI h=> ?_
 · obtain ⟨Im,dx,h⟩:=ak h
   refine aW (aH dI dx) ?_
   obtain rfl:=aE h
   exact hK _ _ _ _ _ aN aq kn
 · refine aW dI ?_
   obtain rfl:=aE h
   exact hK _ _ _ _ _ aN aq kn
theorem xJ {F:Nat} {x2:UInt8} {s9:List UInt8} {lG:Int} {i12:Int} {eA:Int} {H:AH} {K:Exit→Env→AH→Prop} {t20:Bool}
 (h:gJ F x2 s9 lG i12=some t20)
 (kn:K .normal [(0,(.str s9)),(3,(.bool (decide (x2=91)))),(5,(.int .i64 eA)),(6,(.int .i64 i12)),(70,(.bool t20))] H):
 AX Tryz.prog eD 81 H.length (erase qb) K [(0,(.str s9)),(3,(.bool (decide (x2=91)))),(4,(.int .i64 lG)),(5,(.int .i64 eA)),(6,(.int .i64 i12))] H:=by
 refine cU fun K' hK=> ?_
 rw [gJ.eq_1] at h
 refine aG ?_
 refine b6 h (fun iR h=> ?_) fun iR h=> ?_
 · obtain ⟨FR,mS,h⟩:=ak h
   refine aW (aH iR mS) ?_
   obtain ⟨F0,l9,h⟩:=ak h
   refine aX aq (C4 l9) ?_
   refine aG ?_
   refine b6 h (fun kZ h=> ?_) fun kZ h=> ?_
   · refine aW kZ ?_
     obtain rfl:=aE h
     exact hK _ _ _ _ _ (fq (aH iR kZ)) aq kn
   · refine aW kZ ?_
     obtain rfl:=aE h
     exact hK _ _ _ _ _ (fq (aH iR kZ)) aq kn
 · obtain ⟨CJ,sX,h⟩:=ak h
   refine aW (aH iR sX) ?_
   obtain ⟨Ec,mT,h⟩:=ak h
   refine aX aq (C5 mT) ?_
   refine aG ?_
   obtain rfl:=aE h
   exact hK _ _ _ _ _ (fq iR) aq kn
theorem xK {F:Nat} {i12:Int} {s9:List UInt8} {lG:Int} {eA:Int} {x2:UInt8} {H:AH} {K:Exit→Env→AH→Prop} {o:(Bool)⊕(Int)}
 (h:iter (cu F s9 x2) F (lG,eA,i12)=some o)
 (dN:∀o':Int,o= .inr o'→K (.exit 0) [(3,(.bool (decide (x2=91)))),(5,(.int .i64 o'))] H)
 (kr:∀o':Bool,o= .inl o'→K .ret [(2,(.bool o'))] H):
 AX Tryz.prog eD 81 H.length (.loop (erase nV)) K [(0,(.str s9)),(3,(.bool (decide (x2=91)))),(4,(.int .i64 lG)),(5,(.int .i64 eA)),(6,(.int .i64 i12))] H:=by
 refine jl (fun s e H1=>match s with|(lG,eA,i12)=>e=[(0,(.str s9)),(3,(.bool (decide (x2=91)))),(4,(.int .i64 lG)),(5,(.int .i64 eA)),(6,(.int .i64 i12))]∧H1=H) h ⟨rfl,rfl⟩ ?_
 rintro K' ⟨lG,eA,i12⟩ st e H ⟨rfl,rfl⟩ h hN hB hR hX
 rw [cu.eq_1] at h
 refine aG ?_
 refine b7 h (fun cP h=> ?_) fun cP h=> ?_
 · refine aG ?_
   obtain ⟨t15,gz,h⟩:=ak h
   refine bS aq (xI (x2:=x2) (lG:=lG) (eA:=eA) gz ?_)
   refine aG ?_
   refine b7 h (fun jb h=> ?_) fun jb h=> ?_
   · refine aG ?_
     obtain rfl:=aE h
     exact hN _ rfl _ _ _ _ aN aq ⟨rfl,rfl⟩
   · refine aG ?_
     obtain ⟨t21,wg,h⟩:=ak h
     refine bS aq (xJ (eA:=eA) wg ?_)
     refine aG ?_
     refine b7 h (fun wh h=> ?_) fun wh h=> ?_
     · refine aG ?_
       obtain rfl:=aE h
       exact hX _ _ _ _ _ eK aN aq (kr _ (hR _ rfl))
     · refine aG ?_
       obtain rfl:=aE h
       exact hN _ rfl _ _ _ _ aN aq ⟨rfl,rfl⟩
 · refine aG ?_
   obtain rfl:=aE h
   exact hX _ _ _ _ _ eK aN aq (dN _ (hB _ rfl))
theorem xL {x2:UInt8} {mY:Int} {H:AH} {K:Exit→Env→AH→Prop}
 (kn:K .normal [(2,(.bool ((!(decide (x2=91)))||(decide (mY=4)))))] H):
 AX Tryz.prog eD 81 H.length (erase qc) K [(3,(.bool (decide (x2=91)))),(5,(.int .i64 mY))] H:=by
 refine cU fun K' hK=> ?_
 refine aG ?_
 refine ob (fun pn=> ?_) fun pn=> ?_
 · refine aW pn ?_
   exact hK _ _ _ _ _ (fq pn) aq kn
 · refine aW pn ?_
   exact hK _ _ _ _ _ (fq pn) aq kn
theorem BX {F:Nat} {s1:List UInt8} {H0:AH} {aJ:Bool} (h:fH F s1=some aJ):
 ay Tryz.prog 87 [(.str s1)] H0 fun v H'=>v=(.bool aJ)∧H'=H0:=by
 refine eC C7 eD fun hcl K0 aO=> ?_
 rw [fH.eq_1] at h
 refine aG ?_
 refine bS aq (xF (s1:=s1) ?_)
 refine aG ?_
 refine b7 h (fun aU h=> ?_) fun aU h=> ?_
 · refine aG ?_
   obtain rfl:=aE h
   exact aO _ _ _ bC (aK hcl (br bA (.bool false)) bB bt ⟨rfl,rfl⟩)
 · obtain ⟨x2,bp,h⟩:=ak h
   refine aW bp ?_
   obtain ⟨Vx,cT,h⟩:=ak h
   refine bS aq (xH cT ?_ ?_)
   · rintro s9 rfl
     try dsimp only at h
     refine aG ?_
     obtain ⟨o26,pg,h⟩:=ak h
     refine bS aq (xK pg ?_ ?_)
     · rintro mY rfl
       try dsimp only at h
       refine aG ?_
       refine bS aq (xL (x2:=x2) (mY:=mY) ?_)
       refine aG ?_
       obtain rfl:=aE h
       exact aO _ _ _ bC (aK hcl (br bA (.bool ((!(decide (x2=91)))||(decide (mY=4))))) bB bt ⟨rfl,rfl⟩)
     · rintro RP rfl
       try dsimp only at h
       refine aG ?_
       obtain rfl:=aE h
       exact aO _ _ _ bC (aK hcl (br bA (.bool RP)) bB bt ⟨rfl,rfl⟩)
   · rintro r27 rfl
     try dsimp only at h
     refine aG ?_
     obtain rfl:=aE h
     exact aO _ _ _ bC (aK hcl (br bA (.bool r27)) bB bt ⟨rfl,rfl⟩)
abbrev ru:av:=(.rg [(au 5 0),(aj 6 (.call (.c (.fn 135 [])) [(.t 5)])),(au 7 6),(az 8 (.mv (.t 0)) 7 false),(az 9 (.call (.c (.fn 136 [])) [(.t 8)]) 7 false),(aj 10 (.pick (.t 7) (.c (.bool true)) (.t 9)))])
abbrev qd:av:=(.seq (.seq (.rg [(au 11 4),(au 12 3),(aj 13 (.lens (.t 12))),(aj 14 (.bin .lss (.t 11) (.t 13)))]) (.cond (.t 14) .skip (.exit 0))) (.seq (.blk 1 (.seq (.rg [(au 17 3),(au 18 4),(aj 19 (.ixs (.t 17) (.t 18))),(au 20 0),(aj 21 (.bin .eql (.t 19) (.t 20)))]) (.cond (.t 21) (.seq (.rg [(aj 2 (.aS (.c (.bool true))))]) .ret) .skip))) (.rg [(au 15 4),(aj 16 (.bin .add (.t 15) (.c (.int .i64 1)))),(aP 4 16)])))
abbrev EC:av:=(.seq (.rg [(aj 2 (.aS (.c (.bool false))))]) (.seq (.seq (.sem (erase ru)) (.cond (.t 10) (.seq (.rg [(aj 2 (.aS (.c (.bool true))))]) .ret) .skip)) (.seq (.rg [(aj 3 (.aS (.c (.str [33,35,36,37,38,39,42,43,45,47,61,63,94,95,123,124,125,126]))))]) (.seq (.seq (.rg [(aj 4 (.aS (.c (.int .i64 0))))]) (.blk 0 (.loop (erase qd)))) (.seq (.rg [(au 22 0),(aj 23 (.bin .eql (.t 22) (.c (b8 96)))),(aP 2 23)]) .ret)))))
theorem ED:bu Tryz.prog 127 24 [(.tmp 2)] (erase EC):=⟨Tryz.f127,_,rfl,by decide,rfl,by kernel_rfl,rfl,rfl⟩
abbrev qe:List Nat:=[0,2,3,4,10,14,21]
def nM (c1:UInt8):Option (Bool):=
 (iG c1).bind fun r2=>
 (if r2 then
  some true
 else
  (ia c1).bind fun r3=>some r3)
def nN (c1:UInt8):Int→Option (St Bool Unit Int)
 |i6=>
  (if (decide (i6<(([33,35,36,37,38,39,42,43,45,47,61,63,94,95,123,124,125,126]:List UInt8).length:Int))) then
   (idx ([33,35,36,37,38,39,42,43,45,47,61,63,94,95,123,124,125,126]:List UInt8) i6).bind fun x7=>
   (if (decide (x7=c1)) then
    some (.ret true)
   else
    some (.dz (IntKind.wrap .i64 (i6+1))))
  else
   some (.eZ ()))
def ju (F:Nat) (c1:UInt8):Option (Bool):=
 (nM c1).bind fun t5=>
 (if t5 then
  some true
 else
  ((iter (nN c1) F 0).bind fun o10=>
  match o10 with
  | .inr ()=>
    some (decide (c1=96))
  | .inl r9=>
    some r9))
theorem y8 {c1:UInt8} {H:AH} {K:Exit→Env→AH→Prop} {t4:Bool}
 (h:nM c1=some t4)
 (kn:K .normal [(0,(b8 c1)),(10,(.bool t4))] H):
 AX Tryz.prog qe 24 H.length (erase ru) K [(0,(b8 c1))] H:=by
 refine cU fun K' hK=> ?_
 rw [nM.eq_1] at h
 refine aG ?_
 obtain ⟨r2,hy1,h⟩:=ak h
 refine aX aq (tE hy1) ?_
 refine aG ?_
 refine b6 h (fun aU h=> ?_) fun aU h=> ?_
 · refine aW aU ?_
   obtain rfl:=aE h
   exact hK _ _ _ _ _ aN aq kn
 · refine aW aU ?_
   obtain ⟨r3,bp,h⟩:=ak h
   refine aX aq (nL bp) ?_
   refine aG ?_
   obtain rfl:=aE h
   exact hK _ _ _ _ _ aN aq kn
theorem y9 {F:Nat} {i6:Int} {c1:UInt8} {H:AH} {K:Exit→Env→AH→Prop} {o:(Bool)⊕(Unit)}
 (h:iter (nN c1) F i6=some o)
 (dN:∀o':Unit,o= .inr o'→K (.exit 0) [(0,(b8 c1))] H)
 (kr:∀o':Bool,o= .inl o'→K .ret [(2,(.bool o'))] H):
 AX Tryz.prog qe 24 H.length (.loop (erase qd)) K [(0,(b8 c1)),(3,(.str ([33,35,36,37,38,39,42,43,45,47,61,63,94,95,123,124,125,126]:List UInt8))),(4,(.int .i64 i6))] H:=by
 refine jl (fun s e H1=>match s with|i6=>e=[(0,(b8 c1)),(3,(.str ([33,35,36,37,38,39,42,43,45,47,61,63,94,95,123,124,125,126]:List UInt8))),(4,(.int .i64 i6))]∧H1=H) h ⟨rfl,rfl⟩ ?_
 rintro K' i6 st e H ⟨rfl,rfl⟩ h hN hB hR hX
 rw [nN.eq_1] at h
 refine aG ?_
 refine b7 h (fun bY h=> ?_) fun bY h=> ?_
 · obtain ⟨x7,cK,h⟩:=ak h
   refine aW cK ?_
   refine b7 h (fun cE h=> ?_) fun cE h=> ?_
   · refine aG ?_
     obtain rfl:=aE h
     exact hX _ _ _ _ _ eK aN aq (kr _ (hR _ rfl))
   · refine aG ?_
     obtain rfl:=aE h
     exact hN _ rfl _ _ _ _ aN aq ⟨rfl,rfl⟩
 · refine aG ?_
   obtain rfl:=aE h
   exact hX _ _ _ _ _ eK aN aq (dN _ (hB _ rfl))
theorem C8 {F:Nat} {c1:UInt8} {H0:AH} {aJ:Bool} (h:ju F c1=some aJ):
 ay Tryz.prog 127 [(b8 c1)] H0 fun v H'=>v=(.bool aJ)∧H'=H0:=by
 refine eC ED qe fun hcl K0 aO=> ?_
 rw [ju.eq_1] at h
 refine aG ?_
 obtain ⟨t5,bn,h⟩:=ak h
 refine bS aq (y8 bn ?_)
 refine aG ?_
 refine b7 h (fun bG h=> ?_) fun bG h=> ?_
 · refine aG ?_
   obtain rfl:=aE h
   exact aO _ _ _ bC (aK hcl (br bA (.bool true)) bB bt ⟨rfl,rfl⟩)
 · refine aG ?_
   obtain ⟨o10,dO,h⟩:=ak h
   refine bS aq (y9 dO ?_ ?_)
   · rintro ⟨⟩ rfl
     try dsimp only at h
     refine aG ?_
     obtain rfl:=aE h
     exact aO _ _ _ bC (aK hcl (br bA (.bool (decide (c1=96)))) bB bt ⟨rfl,rfl⟩)
   · rintro r9 rfl
     try dsimp only at h
     refine aG ?_
     obtain rfl:=aE h
     exact aO _ _ _ bC (aK hcl (br bA (.bool r9)) bB bt ⟨rfl,rfl⟩)
abbrev ry:av:=(.rg [(au 11 0),(au 12 3),(aj 13 (.ixs (.t 11) (.t 12))),(aj 14 (.bin .eql (.t 13) (.c (b8 46)))),(au 15 14),(az 16 (.mv (.t 3)) 15 true),(az 17 (.bin .gtr (.t 16) (.c (.int .i64 0))) 15 true),(aj 18 (.pick (.t 15) (.t 17) (.c (.bool false)))),(au 19 18),(az 20 (.mv (.t 3)) 19 true),(az 21 (.bin .add (.t 20) (.c (.int .i64 1))) 19 true),(az 22 (.mv (.t 0)) 19 true),(az 23 (.lens (.t 22)) 19 true),(az 24 (.bin .lss (.t 21) (.t 23)) 19 true),(aj 25 (.pick (.t 19) (.t 24) (.c (.bool false)))),(au 26 25),(az 27 (.mv (.t 0)) 26 true),(az 28 (.mv (.t 3)) 26 true),(az 29 (.bin .sub (.t 28) (.c (.int .i64 1))) 26 true),(az 30 (.ixs (.t 27) (.t 29)) 26 true),(az 31 (.bin .neq (.t 30) (.c (b8 46))) 26 true),(aj 32 (.pick (.t 26) (.t 31) (.c (.bool false)))),(aP 4 32)])
abbrev rz:av:=(.rg [(au 33 4),(aj 34 (.un .not (.t 33))),(au 35 34),(az 36 (.mv (.t 0)) 35 true),(az 37 (.mv (.t 3)) 35 true),(az 38 (.ixs (.t 36) (.t 37)) 35 true),(az 39 (.call (.c (.fn 127 [])) [(.t 38)]) 35 true),(az 40 (.un .not (.t 39)) 35 true),(aj 41 (.pick (.t 35) (.t 40) (.c (.bool false))))])
abbrev qf:av:=(.seq (.seq (.rg [(au 5 3),(au 6 0),(aj 7 (.lens (.t 6))),(aj 8 (.bin .lss (.t 5) (.t 7)))]) (.cond (.t 8) .skip (.exit 0))) (.seq (.blk 1 (.seq (.sem (erase ry)) (.seq (.sem (erase rz)) (.cond (.t 41) (.seq (.rg [(aj 2 (.aS (.c (.bool false))))]) .ret) .skip)))) (.rg [(au 9 3),(aj 10 (.bin .add (.t 9) (.c (.int .i64 1)))),(aP 3 10)])))
abbrev EE:av:=(.seq (.rg [(aj 2 (.aS (.c (.bool false))))]) (.seq (.seq (.rg [(aj 3 (.aS (.c (.int .i64 0))))]) (.blk 0 (.loop (erase qf)))) (.seq (.rg [(au 42 0),(aj 43 (.bin .neq (.t 42) (.c (.str [])))),(aP 2 43)]) .ret)))
theorem EG:bu Tryz.prog 95 44 [(.tmp 2)] (erase EE):=⟨Tryz.f95,_,rfl,by decide,rfl,by kernel_rfl,rfl,rfl⟩
abbrev lH:List Nat:=[0,2,3,4,8,41]
def iB (s1:List UInt8) (i2:Int):Option (Bool):=
 (idx s1 i2).bind fun x3=>
 (if (decide (x3=46)) then
  (if (decide (0<i2)) then
   (if (decide ((IntKind.wrap .i64 (i2+1))<(s1.length:Int))) then
    (idx s1 (IntKind.wrap .i64 (i2 - 1))).bind fun x4=>some (!decide (x4=46))
   else
    some false)
  else
   some false)
 else
  some false)
def kg (F:Nat) (EH:Bool) (s1:List UInt8) (i2:Int):Option (Bool):=
 (if (!EH) then
  (idx s1 i2).bind fun x7=>(ju F x7).bind fun r8=>some (!r8)
 else
  some false)
def ff (F:Nat) (s1:List UInt8):Int→Option (St Bool Unit Int)
 |i2=>
  (if (decide (i2<(s1.length:Int))) then
   (iB s1 i2).bind fun EH=>
   (kg F EH s1 i2).bind fun t10=>
   (if t10 then
    some (.ret false)
   else
    some (.dz (IntKind.wrap .i64 (i2+1))))
  else
   some (.eZ ()))
def lI (F:Nat) (s1:List UInt8):Option (Bool):=
 ((iter (ff F s1) F 0).bind fun Vw=>
 match Vw with
 | .inr ()=>
   some (!decide (s1=([]:List UInt8)))
 | .inl gj=>
   some gj)
theorem za {s1:List UInt8} {i2:Int} {H:AH} {K:Exit→Env→AH→Prop} {YZ:Bool}
 (h:iB s1 i2=some YZ)
 (kn:K .normal [(0,(.str s1)),(3,(.int .i64 i2)),(4,(.bool YZ))] H):
 AX Tryz.prog lH 44 H.length (erase ry) K [(0,(.str s1)),(3,(.int .i64 i2))] H:=by
 refine cU fun K' hK=> ?_
 rw [iB.eq_1] at h
 obtain ⟨x3,aU,h⟩:=ak h
 refine aW aU ?_
 refine b6 h (fun bp h=> ?_) fun bp h=> ?_
 · refine aW bp ?_
   refine b6 h (fun bn h=> ?_) fun bn h=> ?_
   · refine aW bn ?_
     refine b6 h (fun bG h=> ?_) fun bG h=> ?_
     · obtain ⟨x4,bY,h⟩:=ak h
       refine aW (aH bG bY) ?_
       obtain rfl:=aE h
       exact hK _ _ _ _ _ aN aq kn
     · refine aW bG ?_
       obtain rfl:=aE h
       exact hK _ _ _ _ _ aN aq kn
   · refine aW bn ?_
     obtain rfl:=aE h
     exact hK _ _ _ _ _ aN aq kn
 · refine aW bp ?_
   obtain rfl:=aE h
   exact hK _ _ _ _ _ aN aq kn
theorem zb {F:Nat} {EH:Bool} {s1:List UInt8} {i2:Int} {H:AH} {K:Exit→Env→AH→Prop} {t9:Bool}
 (h:kg F EH s1 i2=some t9)
 (kn:K .normal [(0,(.str s1)),(3,(.int .i64 i2)),(41,(.bool t9))] H):
 AX Tryz.prog lH 44 H.length (erase rz) K [(0,(.str s1)),(3,(.int .i64 i2)),(4,(.bool EH))] H:=by
 refine cU fun K' hK=> ?_
 rw [kg.eq_1] at h
 refine aG ?_
 refine b6 h (fun cE h=> ?_) fun cE h=> ?_
 · obtain ⟨x7,dO,h⟩:=ak h
   refine aW (aH cE dO) ?_
   obtain ⟨r8,cT,h⟩:=ak h
   refine aX aq (C8 cT) ?_
   refine aG ?_
   obtain rfl:=aE h
   exact hK _ _ _ _ _ aN aq kn
 · refine aW cE ?_
   obtain rfl:=aE h
   exact hK _ _ _ _ _ aN aq kn
theorem zd {F:Nat} {i2:Int} {s1:List UInt8} {H:AH} {K:Exit→Env→AH→Prop} {o:(Bool)⊕(Unit)}
 (h:iter (ff F s1) F i2=some o)
 (dN:∀o':Unit,o= .inr o'→K (.exit 0) [(0,(.str s1))] H)
 (kr:∀o':Bool,o= .inl o'→K .ret [(2,(.bool o'))] H):
 AX Tryz.prog lH 44 H.length (.loop (erase qf)) K [(0,(.str s1)),(3,(.int .i64 i2))] H:=by
 refine jl (fun s e H1=>match s with|i2=>e=[(0,(.str s1)),(3,(.int .i64 i2))]∧H1=H) h ⟨rfl,rfl⟩ ?_
 rintro K' i2 st e H ⟨rfl,rfl⟩ h hN hB hR hX
 rw [ff.eq_1] at h
 refine aG ?_
 refine b7 h (fun hy1 h=> ?_) fun hy1 h=> ?_
 · refine aG ?_
   obtain ⟨EH,cK,h⟩:=ak h
   refine bS aq (za cK ?_)
   refine aG ?_
   obtain ⟨t10,cP,h⟩:=ak h
   refine bS aq (zb cP ?_)
   refine aG ?_
   refine b7 h (fun dI h=> ?_) fun dI h=> ?_
   · refine aG ?_
     obtain rfl:=aE h
     exact hX _ _ _ _ _ eK aN aq (kr _ (hR _ rfl))
   · refine aG ?_
     obtain rfl:=aE h
     exact hN _ rfl _ _ _ _ aN aq ⟨rfl,rfl⟩
 · refine aG ?_
   obtain rfl:=aE h
   exact hX _ _ _ _ _ eK aN aq (dN _ (hB _ rfl))
theorem C9 {F:Nat} {s1:List UInt8} {H0:AH} {aJ:Bool} (h:lI F s1=some aJ):
 ay Tryz.prog 95 [(.str s1)] H0 fun v H'=>v=(.bool aJ)∧H'=H0:=by
 refine eC EG lH fun hcl K0 aO=> ?_
 rw [lI.eq_1] at h
 refine aG ?_
 obtain ⟨Vw,dx,h⟩:=ak h
 refine bS aq (zd dx ?_ ?_)
 · rintro ⟨⟩ rfl
   try dsimp only at h
   refine aG ?_
   obtain rfl:=aE h
   exact aO _ _ _ bC (aK hcl (br bA (.bool (!decide (s1=([]:List UInt8))))) bB bt ⟨rfl,rfl⟩)
 · rintro gj rfl
   try dsimp only at h
   refine aG ?_
   obtain rfl:=aE h
   exact aO _ _ _ bC (aK hcl (br bA (.bool gj)) bB bt ⟨rfl,rfl⟩)
abbrev rA:av:=(.rg [(au 4 0),(aj 5 (.bin .eql (.t 4) (.c (.str [])))),(au 6 5),(az 7 (.mv (.t 0)) 6 false),(az 8 (.lens (.t 7)) 6 false),(az 9 (.bin .gtr (.t 8) (.c (.int .i64 64))) 6 false),(aj 10 (.pick (.t 6) (.c (.bool true)) (.t 9)))])
abbrev rB:av:=(.rg [(au 17 0),(au 18 3),(aj 19 (.ixs (.t 17) (.t 18))),(aj 20 (.bin .lss (.t 19) (.c (b8 32)))),(au 21 20),(az 22 (.mv (.t 0)) 21 false),(az 23 (.mv (.t 3)) 21 false),(az 24 (.ixs (.t 22) (.t 23)) 21 false),(az 25 (.bin .gtr (.t 24) (.c (b8 126))) 21 false),(aj 26 (.pick (.t 21) (.c (.bool true)) (.t 25)))])
abbrev qg:av:=(.seq (.seq (.rg [(au 11 3),(au 12 0),(aj 13 (.lens (.t 12))),(aj 14 (.bin .lss (.t 11) (.t 13)))]) (.cond (.t 14) .skip (.exit 0))) (.seq (.blk 1 (.seq (.sem (erase rB)) (.cond (.t 26) (.seq (.rg [(aj 2 (.aS (.c (.bool false))))]) .ret) .skip))) (.rg [(au 15 3),(aj 16 (.bin .add (.t 15) (.c (.int .i64 1)))),(aP 3 16)])))
abbrev EI:av:=(.seq (.rg [(aj 2 (.aS (.c (.bool false))))]) (.seq (.seq (.sem (erase rA)) (.cond (.t 10) (.seq (.rg [(aj 2 (.aS (.c (.bool false))))]) .ret) .skip)) (.seq (.seq (.rg [(aj 3 (.aS (.c (.int .i64 0))))]) (.blk 0 (.loop (erase qg)))) (.seq (.rg [(aj 2 (.aS (.c (.bool true))))]) .ret))))
theorem EJ:bu Tryz.prog 86 27 [(.tmp 2)] (erase EI):=⟨Tryz.f86,_,rfl,by decide,rfl,by kernel_rfl,rfl,rfl⟩
abbrev lJ:List Nat:=[0,2,3,10,14,26]
def iC (s1:List UInt8) (i2:Int):Option (Bool):=
 (idx s1 i2).bind fun x3=>
 (if (decide (x3<32)) then
  some true
 else
  some (decide (126<x3)))
def fh (s1:List UInt8):Int→Option (St Bool Unit Int)
 |i2=>
  (if (decide (i2<(s1.length:Int))) then
   (iC s1 i2).bind fun t5=>
   (if t5 then
    some (.ret false)
   else
    some (.dz (IntKind.wrap .i64 (i2+1))))
  else
   some (.eZ ()))
def lK (F:Nat) (s1:List UInt8):Option (Bool):=
 (if ((decide (s1=([]:List UInt8)))||(decide (64<(s1.length:Int)))) then
  some false
 else
  ((iter (fh s1) F 0).bind fun o8=>
  match o8 with
  | .inr ()=>
    some true
  | .inl r7=>
    some r7))
theorem ze {s1:List UInt8} {H:AH} {K:Exit→Env→AH→Prop}
 (kn:K .normal [(0,(.str s1)),(10,(.bool ((decide (s1=([]:List UInt8)))||(decide (64<(s1.length:Int))))))] H):
 AX Tryz.prog lJ 27 H.length (erase rA) K [(0,(.str s1))] H:=by
 refine cU fun K' hK=> ?_
 refine aG ?_
 refine ob (fun hy1=> ?_) fun hy1=> ?_
 · refine aW hy1 ?_
   exact hK _ _ _ _ _ (fq hy1) aq kn
 · refine aW hy1 ?_
   exact hK _ _ _ _ _ (fq hy1) aq kn
theorem zf {s1:List UInt8} {i2:Int} {H:AH} {K:Exit→Env→AH→Prop} {t4:Bool}
 (h:iC s1 i2=some t4)
 (kn:K .normal [(0,(.str s1)),(3,(.int .i64 i2)),(26,(.bool t4))] H):
 AX Tryz.prog lJ 27 H.length (erase rB) K [(0,(.str s1)),(3,(.int .i64 i2))] H:=by
 refine cU fun K' hK=> ?_
 rw [iC.eq_1] at h
 obtain ⟨x3,bn,h⟩:=ak h
 refine aW bn ?_
 refine b6 h (fun bG h=> ?_) fun bG h=> ?_
 · refine aW bG ?_
   obtain rfl:=aE h
   exact hK _ _ _ _ _ aN aq kn
 · refine aW (aH bG bn) ?_
   obtain rfl:=aE h
   exact hK _ _ _ _ _ aN aq kn
theorem zg {F:Nat} {i2:Int} {s1:List UInt8} {H:AH} {K:Exit→Env→AH→Prop} {o:(Bool)⊕(Unit)}
 (h:iter (fh s1) F i2=some o)
 (dN:∀o':Unit,o= .inr o'→K (.exit 0) [] H)
 (kr:∀o':Bool,o= .inl o'→K .ret [(2,(.bool o'))] H):
 AX Tryz.prog lJ 27 H.length (.loop (erase qg)) K [(0,(.str s1)),(3,(.int .i64 i2))] H:=by
 refine jl (fun s e H1=>match s with|i2=>e=[(0,(.str s1)),(3,(.int .i64 i2))]∧H1=H) h ⟨rfl,rfl⟩ ?_
 rintro K' i2 st e H ⟨rfl,rfl⟩ h hN hB hR hX
 rw [fh.eq_1] at h
 refine aG ?_
 refine b7 h (fun bp h=> ?_) fun bp h=> ?_
 · refine aG ?_
   obtain ⟨t5,bY,h⟩:=ak h
   refine bS aq (zf bY ?_)
   refine aG ?_
   refine b7 h (fun cK h=> ?_) fun cK h=> ?_
   · refine aG ?_
     obtain rfl:=aE h
     exact hX _ _ _ _ _ eK aN aq (kr _ (hR _ rfl))
   · refine aG ?_
     obtain rfl:=aE h
     exact hN _ rfl _ _ _ _ aN aq ⟨rfl,rfl⟩
 · refine aG ?_
   obtain rfl:=aE h
   exact hX _ _ _ _ _ eK WE.nil aq (dN _ (hB _ rfl))
theorem Da {F:Nat} {s1:List UInt8} {H0:AH} {aJ:Bool} (h:lK F s1=some aJ):
 ay Tryz.prog 86 [(.str s1)] H0 fun v H'=>v=(.bool aJ)∧H'=H0:=by
 refine eC EJ lJ fun hcl K0 aO=> ?_
 rw [lK.eq_1] at h
 refine aG ?_
 refine bS aq (ze (s1:=s1) ?_)
 refine aG ?_
 refine b7 h (fun aU h=> ?_) fun aU h=> ?_
 · refine aG ?_
   obtain rfl:=aE h
   exact aO _ _ _ bC (aK hcl (br bA (.bool false)) bB bt ⟨rfl,rfl⟩)
 · refine aG ?_
   obtain ⟨o8,cE,h⟩:=ak h
   refine bS aq (zg cE ?_ ?_)
   · rintro ⟨⟩ rfl
     try dsimp only at h
     refine aG ?_
     obtain rfl:=aE h
     exact aO _ _ _ bC (aK hcl (br bA (.bool true)) bB bt ⟨rfl,rfl⟩)
   · rintro r7 rfl
     try dsimp only at h
     refine aG ?_
     obtain rfl:=aE h
     exact aO _ _ _ bC (aK hcl (br bA (.bool r7)) bB bt ⟨rfl,rfl⟩)
end Go.Proofs.cD
end
section
set_option maxRecDepth 100000
namespace Go.Proofs.cD
open Go Go.Am Go.Proofs
open Nat renaming reduceEqDiff→nA,reduceLT→nB,reduceLeDiff→nC,reduceAdd→nD,reduceSub→nE,reduceMul→nF,reduceBEq→nG
set_option maxHeartbeats 2000000
abbrev tF:av:=(.rg [(aj 5 (.bO (.t 1) 0)),(aj 6 (.ld (.t 5) none)),(aj 7 (.bin .eql (.t 6) (.c (.str [])))),(au 8 7),(az 9 (.bO (.t 1) 1) 8 true),(az 10 (.ld (.t 9) none) 8 true),(az 11 (.bin .eql (.t 10) (.c (.str []))) 8 true),(aj 12 (.pick (.t 8) (.t 11) (.c (.bool false))))])
abbrev tG:av:=(.rg [(aj 32 (.bO (.t 1) 0)),(aj 33 (.ld (.t 32) none)),(au 34 4),(aj 35 (.ixs (.t 33) (.t 34))),(aj 36 (.bin .eql (.t 35) (.c (b8 34)))),(au 37 36),(az 38 (.bO (.t 1) 0) 37 false),(az 39 (.ld (.t 38) none) 37 false),(az 40 (.mv (.t 4)) 37 false),(az 41 (.ixs (.t 39) (.t 40)) 37 false),(az 42 (.bin .eql (.t 41) (.c (b8 92))) 37 false),(aj 43 (.pick (.t 37) (.c (.bool true)) (.t 42)))])
abbrev rC:av:=(.seq (.seq (.rg [(au 25 4),(aj 26 (.bO (.t 1) 0)),(aj 27 (.ld (.t 26) none)),(aj 28 (.lens (.t 27))),(aj 29 (.bin .lss (.t 25) (.t 28)))]) (.cond (.t 29) .skip (.exit 0))) (.seq (.blk 1 (.seq (.seq (.sem (erase tG)) (.cond (.t 43) (.rg [(au 44 3),(aj 45 (.fS 1 [(.c (b8 92))])),(aj 46 (.app 1 1 (.t 44) (.t 45))),(aP 3 46)]) .skip)) (.rg [(au 47 3),(aj 48 (.bO (.t 1) 0)),(aj 49 (.ld (.t 48) none)),(au 50 4),(aj 51 (.ixs (.t 49) (.t 50))),(aj 52 (.fS 1 [(.t 51)])),(aj 53 (.app 1 1 (.t 47) (.t 52))),(aP 3 53)]))) (.rg [(au 30 4),(aj 31 (.bin .add (.t 30) (.c (.int .i64 1)))),(aP 4 31)])))
abbrev tH:av:=(.rg [(au 54 3),(aj 59 (.bO (.t 1) 1)),(aj 60 (.AP (.t 59) none)),(aj 55 (.fS 1 [(.c (b8 34))])),(aj 56 (.app 1 1 (.t 54) (.t 55))),(aj 57 (.Je (.t 56))),(aj 58 (.bin .add (.t 57) (.c (.str [64])))),(aj 61 (.bin .add (.t 58) (.t 60))),(aj 62 (.bin .add (.t 61) (.c (.str [62])))),(aP 2 62)])
abbrev F1:av:=(.seq (.rg [(aj 1 (.box (.t 0))),(aj 2 (.aS (.c (.str []))))]) (.seq (.seq (.sem (erase tF)) (.cond (.t 12) (.seq (.rg [(aj 2 (.aS (.c (.str [60,62]))))]) .ret) .skip)) (.seq (.seq (.rg [(aj 13 (.bO (.t 1) 0)),(aj 14 (.ld (.t 13) none)),(aj 15 (.call (.c (.fn 95 [])) [(.t 14)]))]) (.cond (.t 15) (.seq (.rg [(aj 16 (.bO (.t 1) 0)),(aj 17 (.ld (.t 16) none)),(aj 18 (.bin .add (.c (.str [60])) (.t 17))),(aj 19 (.bin .add (.t 18) (.c (.str [64])))),(aj 20 (.bO (.t 1) 1)),(aj 21 (.ld (.t 20) none)),(aj 22 (.bin .add (.t 19) (.t 21))),(aj 23 (.bin .add (.t 22) (.c (.str [62])))),(aP 2 23)]) .ret) .skip)) (.seq (.rg [(aj 24 (.fS 1 [(.c (b8 60)),(.c (b8 34))])),(aP 3 24)]) (.seq (.seq (.rg [(aj 4 (.aS (.c (.int .i64 0))))]) (.blk 0 (.loop (erase rC)))) (.seq (.sem (erase tH)) .ret))))))
theorem F2:bu Tryz.prog 64 63 [(.tmp 2)] (erase F1):=⟨Tryz.f64,_,rfl,by decide,rfl,by kernel_rfl,rfl,rfl⟩
abbrev j4:List Nat:=[0,1,2,3,4,12,15,29,43]
def lM (a1:aD) (i10:Int):Option (Bool):=
 (idx a1.ax i10).bind fun om=>
 (if (decide (om=34)) then
  some true
 else
  some (decide (om=92)))
def fO (a1:aD):((List UInt8)×Int)→Option (St (List UInt8) (List UInt8) ((List UInt8)×Int))
 |(b9,i10)=>
  (if (decide (i10<(a1.ax.length:Int))) then
   (lM a1 i10).bind fun t14=>
   (if t14 then
    (cF 1 b9 ([92]:List UInt8)).bind fun lg=>
    (idx a1.ax i10).bind fun FR=>
    (cF 1 lg ([FR]:List UInt8)).bind fun Bt=>some (.dz (Bt,(IntKind.wrap .i64 (i10+1))))
   else
    (idx a1.ax i10).bind fun CJ=>
    (cF 1 b9 ([CJ]:List UInt8)).bind fun we=>some (.dz (we,(IntKind.wrap .i64 (i10+1)))))
  else
   some (.eZ b9))
def lN (K2:List UInt8) (a1:aD):Option ((List UInt8)):=
 (cF 1 K2 ([34]:List UInt8)).bind fun IK=>
 (cat IK ([64]:List UInt8)).bind fun KV=>
 (cat KV a1.domain).bind fun CK=>(cat CK ([62]:List UInt8)).bind fun Vp=>some Vp
def mZ (F:Nat) (a1:aD):Option ((List UInt8)):=
 (if ((decide (a1.ax=([]:List UInt8)))&&(decide (a1.domain=([]:List UInt8)))) then
  some ([60,62]:List UInt8)
 else
  (lI F a1.ax).bind fun r3=>
  (if r3 then
   (cat ([60]:List UInt8) a1.ax).bind fun x4=>
   (cat x4 ([64]:List UInt8)).bind fun x5=>
   (cat x5 a1.domain).bind fun x6=>(cat x6 ([62]:List UInt8)).bind fun x7=>some x7
  else
   ((iter (fO a1) F (([60,34]:List UInt8),0)).bind fun Vx=>
   match Vx with
   | .inr K2=>
     (lN K2 a1).bind fun t27=>
     some t27
   | .inl _=>none)))
theorem Ax {q2:Nat} {a1:aD} {H0 H:AH} (hfr:Fr H0 H0.length [] H) (ai:H[q2]? =some [(.str a1.ax),(.str a1.domain)]) (hi0:H0.length≤q2) {K:Exit→Env→AH→Prop}
 (kn:∀H':AH,Fr H0 H0.length [] H'→H'[q2]? =some [(.str a1.ax),(.str a1.domain)]→K .normal [(1,(.ptr q2 0)),(12,(.bool ((decide (a1.ax=([]:List UInt8)))&&(decide (a1.domain=([]:List UInt8))))))] H'):
 AX Tryz.prog j4 63 H0.length (erase tF) K [(1,(.ptr q2 0))] H:=by
 refine cU fun K' hK=> ?_
 have hle:=hfr.le
 have bf:=aY ai
 refine aF ai ?_
 refine ob (fun hy1=> ?_) fun hy1=> ?_
 · refine aF (aH hy1 ai) ?_
   exact hK _ _ _ _ _ (fq hy1) aq (kn _ hfr (ai.trans rfl))
 · refine aF (aH hy1 ai) ?_
   exact hK _ _ _ _ _ (fq hy1) aq (kn _ hfr (ai.trans rfl))
theorem Ay {a1:aD} {i10:Int} {RT:Nat} {b9:List UInt8} {H0 H:AH} (hfr:Fr H0 H0.length [] H) (ai:H[RT]? =some [(.str a1.ax),(.str a1.domain)]) (hi0:H0.length≤RT) {K:Exit→Env→AH→Prop} {t13:Bool}
 (h:lM a1 i10=some t13)
 (kn:∀H':AH,Fr H0 H0.length [] H'→H'[RT]? =some [(.str a1.ax),(.str a1.domain)]→K .normal [(1,(.ptr RT 0)),(3,(.sl .own 1 (ml b8 b9))),(4,(.int .i64 i10)),(43,(.bool t13))] H'):
 AX Tryz.prog j4 63 H0.length (erase tG) K [(1,(.ptr RT 0)),(3,(.sl .own 1 (ml b8 b9))),(4,(.int .i64 i10))] H:=by
 refine cU fun K' hK=> ?_
 have hle:=hfr.le
 have bf:=aY ai
 rw [lM.eq_1] at h
 obtain ⟨om,cT,h⟩:=ak h
 refine aF (aH cT ai) ?_
 refine b6 h (fun cP h=> ?_) fun cP h=> ?_
 · refine aF (aH cP ai) ?_
   obtain rfl:=aE h
   exact hK _ _ _ _ _ aN aq (kn _ hfr (ai.trans rfl))
 · refine aF (aH cP (aH cT ai)) ?_
   obtain rfl:=aE h
   exact hK _ _ _ _ _ aN aq (kn _ hfr (ai.trans rfl))
theorem Az {F:Nat} {i10:Int} {a1:aD} {b9:List UInt8} {q8:Nat} {H0 H:AH} (hfr:Fr H0 H0.length [] H) (ai:H[q8]? =some [(.str a1.ax),(.str a1.domain)]) (hi0:H0.length≤q8) {K:Exit→Env→AH→Prop} {o:((List UInt8))⊕((List UInt8))}
 (h:iter (fO a1) F (b9,i10)=some o)
 (dN:∀o':(List UInt8),o= .inr o'→∀H':AH,Fr H0 H0.length [] H'→H'[q8]? =some [(.str a1.ax),(.str a1.domain)]→K (.exit 0) [(1,(.ptr q8 0)),(3,(.sl .own 1 (ml b8 o')))] H'):
 AX Tryz.prog j4 63 H0.length (.loop (erase rC)) K [(1,(.ptr q8 0)),(3,(.sl .own 1 (ml b8 b9))),(4,(.int .i64 i10))] H:=by
 refine jl (fun s e H1=>match s with|(b9,i10)=>e=[(1,(.ptr q8 0)),(3,(.sl .own 1 (ml b8 b9))),(4,(.int .i64 i10))]∧Fr H0 H0.length [] H1∧H1[q8]? =some [(.str a1.ax),(.str a1.domain)]) h ⟨rfl,hfr,ai⟩ ?_
 rintro K' ⟨b9,i10⟩ st e H ⟨rfl,hfr,ai⟩ h hN hB hR hX
 have hle:=hfr.le
 have bf:=aY ai
 rw [fO.eq_1] at h
 refine aF ai ?_
 refine b7 h (fun dO h=> ?_) fun dO h=> ?_
 · refine aF ai ?_
   obtain ⟨t14,dI,h⟩:=ak h
   refine bS aq (Ay (b9:=b9) (RT:=q8) hfr (ai.trans rfl) dD dI ?_)
   intro H hfr ai
   have hle:=hfr.le
   have bf:=aY ai
   refine aF ai ?_
   refine b7 h (fun dx h=> ?_) fun dx h=> ?_
   · obtain ⟨lg,gz,h⟩:=ak h
     have jb:cF 1 (ml b8 b9) [(b8 92)]=some (ml b8 lg):=eS (f:=b8) gz
     obtain ⟨FR,iR,h⟩:=ak h
     obtain ⟨Bt,mS,h⟩:=ak h
     have l9:cF 1 (ml b8 lg) [(b8 FR)]=some (ml b8 Bt):=eS (f:=b8) mS
     refine aF (aH jb (aH iR (aH l9 ai))) ?_
     obtain rfl:=aE h
     exact hN _ rfl _ _ _ _ aN aq ⟨rfl,hfr,(ai.trans rfl)⟩
   · obtain ⟨CJ,kZ,h⟩:=ak h
     obtain ⟨we,sX,h⟩:=ak h
     have mT:cF 1 (ml b8 b9) [(b8 CJ)]=some (ml b8 we):=eS (f:=b8) sX
     refine aF (aH kZ (aH mT ai)) ?_
     obtain rfl:=aE h
     exact hN _ rfl _ _ _ _ aN aq ⟨rfl,hfr,(ai.trans rfl)⟩
 · refine aF ai ?_
   obtain rfl:=aE h
   exact hX _ _ _ _ _ eK aN aq (dN _ (hB _ rfl) _ hfr (ai.trans rfl))
theorem AA {K2:List UInt8} {a1:aD} {H0 H:AH} (hfr:Fr H0 H0.length [] H) {K:Exit→Env→AH→Prop} {t26:List UInt8}
 (h:lN K2 a1=some t26)
 (kn:∀H':AH,Fr H0 H0.length [] H'→K .normal [(2,(.str t26))] H'):
 AX Tryz.prog j4 63 H0.length (erase tH) K [(1,(.ep (.agg [(.str a1.ax),(.str a1.domain)]) 0)),(3,(.sl .own 1 (ml b8 K2)))] H:=by
 refine cU fun K' hK=> ?_
 have hle:=hfr.le
 rw [lN.eq_1] at h
 obtain ⟨IK,wh,h⟩:=ak h
 have pg:cF 1 (ml b8 K2) [(b8 34)]=some (ml b8 IK):=eS (f:=b8) wh
 obtain ⟨KV,pn,h⟩:=ak h
 obtain ⟨CK,zZ,h⟩:=ak h
 obtain ⟨Vp,Ed,h⟩:=ak h
 refine aF (aH pg (aH pn (aH zZ Ed))) ?_
 obtain rfl:=aE h
 exact hK _ _ _ _ _ aN aq (kn _ hfr)
theorem EL {F:Nat} {a1:aD} {H0:AH} {aJ:List UInt8} (h:mZ F a1=some aJ):
 ay Tryz.prog 64 [(.agg [(.str a1.ax),(.str a1.domain)])] H0 fun v H'=>v=(.str aJ)∧H'=H0:=by
 refine kO F2 j4 [] fun hcl K0 aO H hH hfr=> ?_
 clear hH
 have hle:=hfr.le
 rw [mZ.eq_1] at h
 refine cj ?_
 obtain ⟨q2,kA⟩:∃q:Nat,H.length=q:=⟨_,rfl⟩
 try rw [kA]
 refine bS aq (Ax (q2:=q2) (a1:=a1) (Fr.app hfr) vj dD ?_)
 intro H hfr ai
 have hle:=hfr.le
 have bf:=aY ai
 refine aF ai ?_
 refine b7 h (fun aU h=> ?_) fun aU h=> ?_
 · refine aF ai ?_
   obtain rfl:=aE h
   exact aO _ _ _ bC (bM hfr hcl (br bA (.str ([60,62]:List UInt8))) bB bt ⟨rfl,rfl⟩)
 · refine aF ai ?_
   obtain ⟨r3,bp,h⟩:=ak h
   refine aX aq (C9 bp) ?_
   refine aF ai ?_
   refine b7 h (fun bn h=> ?_) fun bn h=> ?_
   · obtain ⟨x4,bG,h⟩:=ak h
     obtain ⟨x5,bY,h⟩:=ak h
     obtain ⟨x6,cK,h⟩:=ak h
     obtain ⟨x7,cE,h⟩:=ak h
     refine aF (aH bG (aH bY (aH cK (aH cE ai)))) ?_
     obtain rfl:=aE h
     exact aO _ _ _ bC (bM hfr hcl (br bA (.str x7)) bB bt ⟨rfl,rfl⟩)
   · refine aF ai ?_
     obtain ⟨Vx,wg,h⟩:=ak h
     refine bS aq (Az (q8:=q2) hfr (ai.trans rfl) dD wg ?_)
     · rintro K2 rfl H hfr ai
       try dsimp only at h ai
       have hle:=hfr.le
       have bf:=aY ai
       refine aF ai ?_
       refine KP ?_
       apply AX.freeze (s:=q2) (cs:=[(.str a1.ax),(.str a1.domain)]) (by exact (ai.trans rfl)) (eR.same (eR.same (eR.nil))) (by simp)
       · repeat (first|exact FZ.nil|apply FZ.ep|apply FZ.same)
       refine RF ?_
       obtain ⟨t27,KZ,h⟩:=ak h
       refine bS aq (AA (cM _ hfr) KZ ?_)
       intro H hfr
       have hle:=hfr.le
       refine cj ?_
       obtain rfl:=aE h
       exact aO _ _ _ bC (bM hfr hcl (br bA (.str t27)) bB bt ⟨rfl,rfl⟩)
abbrev rD:av:=(.rg [(aj 3 (.bO (.t 1) 0)),(aj 4 (.ld (.t 3) none)),(aj 5 (.bin .eql (.t 4) (.c (.str [])))),(au 6 5),(az 7 (.bO (.t 1) 1) 6 true),(az 8 (.ld (.t 7) none) 6 true),(az 9 (.bin .eql (.t 8) (.c (.str []))) 6 true),(aj 10 (.pick (.t 6) (.t 9) (.c (.bool false))))])
abbrev rE:av:=(.rg [(aj 11 (.bO (.t 1) 0)),(aj 12 (.ld (.t 11) none)),(aj 13 (.call (.c (.fn 86 [])) [(.t 12)])),(au 14 13),(az 15 (.bO (.t 1) 1) 14 true),(az 16 (.ld (.t 15) none) 14 true),(az 17 (.call (.c (.fn 87 [])) [(.t 16)]) 14 true),(aj 18 (.pick (.t 14) (.t 17) (.c (.bool false)))),(au 19 18),(az 20 (.ld (.t 1) (some 2)) 19 true),(az 21 (.call (.c (.fn 64 [])) [(.t 20)]) 19 true),(az 22 (.lens (.t 21)) 19 true),(az 23 (.bin .leq (.t 22) (.c (.int .i64 256))) 19 true),(aj 24 (.pick (.t 19) (.t 23) (.c (.bool false)))),(aP 2 24)])
abbrev EM:av:=(.seq (.rg [(aj 1 (.box (.t 0))),(aj 2 (.aS (.c (.bool false))))]) (.seq (.seq (.sem (erase rD)) (.cond (.t 10) (.seq (.rg [(aj 2 (.aS (.c (.bool true))))]) .ret) .skip)) (.seq (.sem (erase rE)) .ret)))
theorem EN:bu Tryz.prog 49 25 [(.tmp 2)] (erase EM):=⟨Tryz.f49,_,rfl,by decide,rfl,by kernel_rfl,rfl,rfl⟩
abbrev qh:List Nat:=[0,1,2,10]
def kj (F:Nat) (a1:aD):Option (Bool):=
 (lK F a1.ax).bind fun r4=>
 (if r4 then
  (fH F a1.domain).bind fun r5=>
  (if r5 then
   (mZ F a1).bind fun r6=>some (decide ((r6.length:Int)≤256))
  else
   some false)
 else
  some false)
def ov (F:Nat) (a1:aD):Option (Bool):=
 (if ((decide (a1.ax=([]:List UInt8)))&&(decide (a1.domain=([]:List UInt8)))) then
  some true
 else
  (kj F a1).bind fun t8=>
  some t8)
theorem zh {q2:Nat} {a1:aD} {H0 H:AH} (hfr:Fr H0 H0.length [] H) (ai:H[q2]? =some [(.str a1.ax),(.str a1.domain)]) (hi0:H0.length≤q2) {K:Exit→Env→AH→Prop}
 (kn:∀H':AH,Fr H0 H0.length [] H'→H'[q2]? =some [(.str a1.ax),(.str a1.domain)]→K .normal [(1,(.ptr q2 0)),(10,(.bool ((decide (a1.ax=([]:List UInt8)))&&(decide (a1.domain=([]:List UInt8))))))] H'):
 AX Tryz.prog qh 25 H0.length (erase rD) K [(1,(.ptr q2 0))] H:=by
 refine cU fun K' hK=> ?_
 have hle:=hfr.le
 have bf:=aY ai
 refine aF ai ?_
 refine ob (fun hy1=> ?_) fun hy1=> ?_
 · refine aF (aH hy1 ai) ?_
   exact hK _ _ _ _ _ (fq hy1) aq (kn _ hfr (ai.trans rfl))
 · refine aF (aH hy1 ai) ?_
   exact hK _ _ _ _ _ (fq hy1) aq (kn _ hfr (ai.trans rfl))
theorem zi {F:Nat} {a1:aD} {q3:Nat} {H0 H:AH} (hfr:Fr H0 H0.length [] H) (ai:H[q3]? =some [(.str a1.ax),(.str a1.domain)]) (hi0:H0.length≤q3) {K:Exit→Env→AH→Prop} {t7:Bool}
 (h:kj F a1=some t7)
 (kn:∀H':AH,Fr H0 H0.length [] H'→H'[q3]? =some [(.str a1.ax),(.str a1.domain)]→K .normal [(2,(.bool t7))] H'):
 AX Tryz.prog qh 25 H0.length (erase rE) K [(1,(.ptr q3 0))] H:=by
 refine cU fun K' hK=> ?_
 have hle:=hfr.le
 have bf:=aY ai
 rw [kj.eq_1] at h
 refine aF ai ?_
 obtain ⟨r4,bp,h⟩:=ak h
 refine aX aq (Da bp) ?_
 refine aF ai ?_
 refine b6 h (fun bn h=> ?_) fun bn h=> ?_
 · refine aF (aH bn ai) ?_
   obtain ⟨r5,bG,h⟩:=ak h
   refine aX aq (BX bG) ?_
   refine aF ai ?_
   refine b6 h (fun bY h=> ?_) fun bY h=> ?_
   · refine aF (aH bY ai) ?_
     obtain ⟨r6,cK,h⟩:=ak h
     refine aX aq (EL cK) ?_
     refine aF ai ?_
     obtain rfl:=aE h
     exact hK _ _ _ _ _ aN aq (kn _ hfr (ai.trans rfl))
   · refine aF (aH bY ai) ?_
     obtain rfl:=aE h
     exact hK _ _ _ _ _ aN aq (kn _ hfr (ai.trans rfl))
 · refine aF (aH bn ai) ?_
   obtain rfl:=aE h
   exact hK _ _ _ _ _ aN aq (kn _ hfr (ai.trans rfl))
theorem Sf {F:Nat} {a1:aD} {H0:AH} {aJ:Bool} (h:ov F a1=some aJ):
 ay Tryz.prog 49 [(.agg [(.str a1.ax),(.str a1.domain)])] H0 fun v H'=>v=(.bool aJ)∧H'=H0:=by
 refine kO EN qh [] fun hcl K0 aO H hH hfr=> ?_
 clear hH
 have hle:=hfr.le
 rw [ov.eq_1] at h
 refine cj ?_
 obtain ⟨q2,kA⟩:∃q:Nat,H.length=q:=⟨_,rfl⟩
 try rw [kA]
 refine bS aq (zh (q2:=q2) (a1:=a1) (Fr.app hfr) vj dD ?_)
 intro H hfr ai
 have hle:=hfr.le
 have bf:=aY ai
 refine aF ai ?_
 refine b7 h (fun aU h=> ?_) fun aU h=> ?_
 · refine aF ai ?_
   obtain rfl:=aE h
   exact aO _ _ _ bC (bM hfr hcl (br bA (.bool true)) bB bt ⟨rfl,rfl⟩)
 · refine aF ai ?_
   obtain ⟨t8,cE,h⟩:=ak h
   refine bS aq (zi (q3:=q2) hfr (ai.trans rfl) dD cE ?_)
   intro H hfr ai
   have hle:=hfr.le
   have bf:=aY ai
   refine aF ai ?_
   obtain rfl:=aE h
   exact aO _ _ _ bC (bM hfr hcl (br bA (.bool t8)) bB bt ⟨rfl,rfl⟩)
abbrev u7:av:=(.rg [(aj 3 (.bO (.t 1) 0)),(aj 4 (.ld (.t 3) none)),(aj 5 (.lens (.t 4))),(aj 6 (.bin .leq (.t 5) (.c (.int .i64 400)))),(au 7 6),(az 8 (.bO (.t 1) 1) 7 true),(az 9 (.ld (.t 8) none) 7 true),(az 10 (.lens (.t 9)) 7 true),(az 11 (.bin .leq (.t 10) (.c (.int .i64 600))) 7 true),(aj 12 (.pick (.t 7) (.t 11) (.c (.bool false)))),(aP 2 12)])
abbrev IW:av:=(.seq (.rg [(aj 1 (.box (.t 0))),(aj 2 (.aS (.c (.bool false))))]) (.seq (.sem (erase u7)) .ret))
theorem IX:bu Tryz.prog 43 13 [(.tmp 2)] (erase IW):=⟨Tryz.f43,_,rfl,by decide,rfl,by kernel_rfl,rfl,rfl⟩
abbrev AB:List Nat:=[0,1,2]
def kE (a1:aD):Option (Bool):=
 some ((decide ((a1.ax.length:Int)≤400))&&(decide ((a1.domain.length:Int)≤600)))
theorem BZ {q2:Nat} {a1:aD} {H0 H:AH} (hfr:Fr H0 H0.length [] H) (ai:H[q2]? =some [(.str a1.ax),(.str a1.domain)]) (hi0:H0.length≤q2) {K:Exit→Env→AH→Prop}
 (kn:∀H':AH,Fr H0 H0.length [] H'→H'[q2]? =some [(.str a1.ax),(.str a1.domain)]→K .normal [(2,(.bool ((decide ((a1.ax.length:Int)≤400))&&(decide ((a1.domain.length:Int)≤600)))))] H'):
 AX Tryz.prog AB 13 H0.length (erase u7) K [(1,(.ptr q2 0)),(2,(.bool false))] H:=by
 refine cU fun K' hK=> ?_
 have hle:=hfr.le
 have bf:=aY ai
 refine aF ai ?_
 refine ob (fun hy1=> ?_) fun hy1=> ?_
 · refine aF (aH hy1 ai) ?_
   exact hK _ _ _ _ _ (fq hy1) aq (kn _ hfr (ai.trans rfl))
 · refine aF (aH hy1 ai) ?_
   exact hK _ _ _ _ _ (fq hy1) aq (kn _ hfr (ai.trans rfl))
theorem yg {a1:aD} {H0:AH} {aJ:Bool} (h:kE a1=some aJ):
 ay Tryz.prog 43 [(.agg [(.str a1.ax),(.str a1.domain)])] H0 fun v H'=>v=(.bool aJ)∧H'=H0:=by
 refine kO IX AB [] fun hcl K0 aO H hH hfr=> ?_
 clear hH
 have hle:=hfr.le
 rw [kE.eq_1] at h
 refine cj ?_
 obtain ⟨q2,kA⟩:∃q:Nat,H.length=q:=⟨_,rfl⟩
 try rw [kA]
 refine bS aq (BZ (q2:=q2) (a1:=a1) (Fr.app hfr) vj dD ?_)
 intro H hfr ai
 have hle:=hfr.le
 have bf:=aY ai
 refine aF ai ?_
 obtain rfl:=aE h
 exact aO _ _ _ bC (bM hfr hcl (br bA (.bool ((decide ((a1.ax.length:Int)≤400))&&(decide ((a1.domain.length:Int)≤600))))) bB bt ⟨rfl,rfl⟩)
abbrev vb:av:=(.rg [(aj 4 (.bO (.t 1) 5)),(aj 5 (.ld (.t 4) none)),(aj 6 (.len (.t 5))),(aj 7 (.bin .gtr (.t 6) (.c (.int .i64 120)))),(au 8 7),(az 9 (.bO (.t 1) 0) 8 false),(az 10 (.ld (.t 9) (some 2)) 8 false),(az 11 (.call (.c (.fn 43 [])) [(.t 10)]) 8 false),(az 12 (.un .not (.t 11)) 8 false),(aj 13 (.pick (.t 8) (.c (.bool true)) (.t 12)))])
abbrev vc:av:=(.rg [(aj 21 (.bO (.t 1) 5)),(aj 22 (.ld (.t 21) none)),(au 23 3),(aj 24 (.mK 7 (.t 22) (.t 23))),(aj 25 (.bO (.t 24) 0)),(aj 26 (.ld (.t 25) (some 2))),(aj 27 (.call (.c (.fn 43 [])) [(.t 26)])),(aj 28 (.un .not (.t 27))),(au 29 28),(az 30 (.bO (.t 1) 5) 29 false),(az 31 (.ld (.t 30) none) 29 false),(az 32 (.mv (.t 3)) 29 false),(az 33 (.mK 7 (.t 31) (.t 32)) 29 false),(az 34 (.bO (.t 33) 6) 29 false),(az 35 (.ld (.t 34) none) 29 false),(az 36 (.lens (.t 35)) 29 false),(az 37 (.bin .gtr (.t 36) (.c (.int .i64 300))) 29 false),(aj 38 (.pick (.t 29) (.c (.bool true)) (.t 37)))])
abbrev tI:av:=(.seq (.seq (.rg [(au 14 3),(aj 15 (.bO (.t 1) 5)),(aj 16 (.ld (.t 15) none)),(aj 17 (.len (.t 16))),(aj 18 (.bin .lss (.t 14) (.t 17)))]) (.cond (.t 18) .skip (.exit 0))) (.seq (.blk 1 (.seq (.sem (erase vc)) (.cond (.t 38) (.seq (.rg [(aj 2 (.aS (.c (.bool false))))]) .ret) .skip))) (.rg [(au 19 3),(aj 20 (.bin .add (.t 19) (.c (.int .i64 1)))),(aP 3 20)])))
abbrev IY:av:=(.seq (.rg [(aj 1 (.box (.t 0))),(aj 2 (.aS (.c (.bool false))))]) (.seq (.seq (.sem (erase vb)) (.cond (.t 13) (.seq (.rg [(aj 2 (.aS (.c (.bool false))))]) .ret) .skip)) (.seq (.seq (.rg [(aj 3 (.aS (.c (.int .i64 0))))]) (.blk 0 (.loop (erase tI)))) (.seq (.rg [(aj 2 (.aS (.c (.bool true))))]) .ret))))
theorem IZ:bu Tryz.prog 13 39 [(.tmp 2)] (erase IY):=⟨Tryz.f13,_,rfl,by decide,rfl,by kernel_rfl,rfl,rfl⟩
abbrev ow:List Nat:=[0,1,2,3,13,18,38]
def mF (e1:aL):Option (Bool):=
 (if (decide (120<(e1.bh.length:Int))) then
  some true
 else
  (kE e1.aQ).bind fun r3=>some (!r3))
def j5 (e1:aL) (i7:Int):Option (Bool):=
 (idx e1.bh i7).bind fun x9=>
 (kE x9.gh).bind fun gH=>
 (if (!gH) then
  some true
 else
  some (decide (300<(x9.why.length:Int))))
def gv (e1:aL):Int→Option (St Bool Unit Int)
 |i7=>
  (if (decide (i7<(e1.bh.length:Int))) then
   (j5 e1 i7).bind fun t12=>
   (if t12 then
    some (.ret false)
   else
    some (.dz (IntKind.wrap .i64 (i7+1))))
  else
   some (.eZ ()))
def qi (F:Nat) (e1:aL):Option (Bool):=
 (mF e1).bind fun t5=>
 (if t5 then
  some false
 else
  ((iter (gv e1) F 0).bind fun Vt=>
  match Vt with
  | .inr ()=>
    some true
  | .inl kB=>
    some kB))
theorem B0 {e1:aL} {q2:Nat} {H0 H:AH} (hfr:Fr H0 H0.length [] H) (ai:H[q2]? =some [(.str e1.aQ.ax),(.str e1.aQ.domain),(.int .i64 e1.born),(.int .i64 e1.size),(.int .u32 e1.sum),(.sl .n 7 (ml aR e1.bh))]) (hi0:H0.length≤q2) {K:Exit→Env→AH→Prop} {t4:Bool}
 (h:mF e1=some t4)
 (kn:∀H':AH,Fr H0 H0.length [] H'→H'[q2]? =some [(.str e1.aQ.ax),(.str e1.aQ.domain),(.int .i64 e1.born),(.int .i64 e1.size),(.int .u32 e1.sum),(.sl .n 7 (ml aR e1.bh))]→K .normal [(1,(.ptr q2 0)),(13,(.bool t4))] H'):
 AX Tryz.prog ow 39 H0.length (erase vb) K [(1,(.ptr q2 0))] H:=by
 refine cU fun K' hK=> ?_
 have hle:=hfr.le
 have bf:=aY ai
 rw [mF.eq_1] at h
 refine aF ai ?_
 refine b6 h (fun hy1 h=> ?_) fun hy1 h=> ?_
 · refine aF (aH hy1 ai) ?_
   obtain rfl:=aE h
   exact hK _ _ _ _ _ aN aq (kn _ hfr (ai.trans rfl))
 · refine aF (aH hy1 ai) ?_
   obtain ⟨r3,aU,h⟩:=ak h
   refine aX aq (yg aU) ?_
   refine aF ai ?_
   obtain rfl:=aE h
   exact hK _ _ _ _ _ aN aq (kn _ hfr (ai.trans rfl))
theorem B1 {e1:aL} {i7:Int} {q8:Nat} {H0 H:AH} (hfr:Fr H0 H0.length [] H) (ai:H[q8]? =some [(.str e1.aQ.ax),(.str e1.aQ.domain),(.int .i64 e1.born),(.int .i64 e1.size),(.int .u32 e1.sum),(.sl .n 7 (ml aR e1.bh))]) (hi0:H0.length≤q8) {K:Exit→Env→AH→Prop} {t11:Bool}
 (h:j5 e1 i7=some t11)
 (kn:∀H':AH,Fr H0 H0.length [] H'→H'[q8]? =some [(.str e1.aQ.ax),(.str e1.aQ.domain),(.int .i64 e1.born),(.int .i64 e1.size),(.int .u32 e1.sum),(.sl .n 7 (ml aR e1.bh))]→K .normal [(1,(.ptr q8 0)),(3,(.int .i64 i7)),(38,(.bool t11))] H'):
 AX Tryz.prog ow 39 H0.length (erase vc) K [(1,(.ptr q8 0)),(3,(.int .i64 i7))] H:=by
 refine cU fun K' hK=> ?_
 have hle:=hfr.le
 have bf:=aY ai
 rw [j5.eq_1] at h
 obtain ⟨x9,bY,h⟩:=ak h
 refine aF (aH bY ai) ?_
 obtain ⟨gH,cK,h⟩:=ak h
 refine aX aq (yg cK) ?_
 refine aF ai ?_
 refine b6 h (fun cE h=> ?_) fun cE h=> ?_
 · refine aF (aH cE ai) ?_
   obtain rfl:=aE h
   exact hK _ _ _ _ _ aN aq (kn _ hfr (ai.trans rfl))
 · refine aF (aH cE (aH bY ai)) ?_
   obtain rfl:=aE h
   exact hK _ _ _ _ _ aN aq (kn _ hfr (ai.trans rfl))
theorem B2 {F:Nat} {i7:Int} {e1:aL} {q6:Nat} {H0 H:AH} (hfr:Fr H0 H0.length [] H) (ai:H[q6]? =some [(.str e1.aQ.ax),(.str e1.aQ.domain),(.int .i64 e1.born),(.int .i64 e1.size),(.int .u32 e1.sum),(.sl .n 7 (ml aR e1.bh))]) (hi0:H0.length≤q6) {K:Exit→Env→AH→Prop} {o:(Bool)⊕(Unit)}
 (h:iter (gv e1) F i7=some o)
 (dN:∀o':Unit,o= .inr o'→∀H':AH,Fr H0 H0.length [] H'→H'[q6]? =some [(.str e1.aQ.ax),(.str e1.aQ.domain),(.int .i64 e1.born),(.int .i64 e1.size),(.int .u32 e1.sum),(.sl .n 7 (ml aR e1.bh))]→K (.exit 0) [] H')
 (kr:∀o':Bool,o= .inl o'→∀H':AH,Fr H0 H0.length [] H'→K .ret [(2,(.bool o'))] H'):
 AX Tryz.prog ow 39 H0.length (.loop (erase tI)) K [(1,(.ptr q6 0)),(3,(.int .i64 i7))] H:=by
 refine jl (fun s e H1=>match s with|i7=>e=[(1,(.ptr q6 0)),(3,(.int .i64 i7))]∧Fr H0 H0.length [] H1∧H1[q6]? =some [(.str e1.aQ.ax),(.str e1.aQ.domain),(.int .i64 e1.born),(.int .i64 e1.size),(.int .u32 e1.sum),(.sl .n 7 (ml aR e1.bh))]) h ⟨rfl,hfr,ai⟩ ?_
 rintro K' i7 st e H ⟨rfl,hfr,ai⟩ h hN hB hR hX
 have hle:=hfr.le
 have bf:=aY ai
 rw [gv.eq_1] at h
 refine aF ai ?_
 refine b7 h (fun bG h=> ?_) fun bG h=> ?_
 · refine aF ai ?_
   obtain ⟨t12,dO,h⟩:=ak h
   refine bS aq (B1 (q8:=q6) hfr (ai.trans rfl) dD dO ?_)
   intro H hfr ai
   have hle:=hfr.le
   have bf:=aY ai
   refine aF ai ?_
   refine b7 h (fun cT h=> ?_) fun cT h=> ?_
   · refine aF ai ?_
     obtain rfl:=aE h
     exact hX _ _ _ _ _ eK aN aq (kr _ (hR _ rfl) _ hfr)
   · refine aF ai ?_
     obtain rfl:=aE h
     exact hN _ rfl _ _ _ _ aN aq ⟨rfl,hfr,(ai.trans rfl)⟩
 · refine aF ai ?_
   obtain rfl:=aE h
   exact hX _ _ _ _ _ eK WE.nil aq (dN _ (hB _ rfl) _ hfr (ai.trans rfl))
theorem F3 {F:Nat} {e1:aL} {H0:AH} {aJ:Bool} (h:qi F e1=some aJ):
 ay Tryz.prog 13 [(.agg [(.str e1.aQ.ax),(.str e1.aQ.domain),(.int .i64 e1.born),(.int .i64 e1.size),(.int .u32 e1.sum),(.sl .n 7 (ml aR e1.bh))])] H0 fun v H'=>v=(.bool aJ)∧H'=H0:=by
 refine kO IZ ow [] fun hcl K0 aO H hH hfr=> ?_
 clear hH
 have hle:=hfr.le
 rw [qi.eq_1] at h
 refine cj ?_
 obtain ⟨q2,kA⟩:∃q:Nat,H.length=q:=⟨_,rfl⟩
 try rw [kA]
 obtain ⟨t5,bp,h⟩:=ak h
 refine bS aq (B0 (q2:=q2) (Fr.app hfr) vj dD bp ?_)
 intro H hfr ai
 have hle:=hfr.le
 have bf:=aY ai
 refine aF ai ?_
 refine b7 h (fun bn h=> ?_) fun bn h=> ?_
 · refine aF ai ?_
   obtain rfl:=aE h
   exact aO _ _ _ bC (bM hfr hcl (br bA (.bool false)) bB bt ⟨rfl,rfl⟩)
 · refine aF ai ?_
   obtain ⟨Vt,cP,h⟩:=ak h
   refine bS aq (B2 (q6:=q2) hfr (ai.trans rfl) dD cP ?_ ?_)
   · rintro ⟨⟩ rfl H hfr ai
     try dsimp only at h ai
     have hle:=hfr.le
     have bf:=aY ai
     refine aF ai ?_
     obtain rfl:=aE h
     exact aO _ _ _ bC (bM hfr hcl (br bA (.bool true)) bB bt ⟨rfl,rfl⟩)
   · rintro kB rfl H hfr
     try dsimp only at h
     have hle:=hfr.le
     refine cj ?_
     obtain rfl:=aE h
     exact aO _ _ _ bC (bM hfr hcl (br bA (.bool kB)) bB bt ⟨rfl,rfl⟩)
abbrev ve:av:=(.seq (.seq (.rg [(au 14 4),(aj 15 (.bO (.t 1) 5)),(aj 16 (.ld (.t 15) none)),(aj 17 (.len (.t 16))),(aj 18 (.bin .lss (.t 14) (.t 17)))]) (.cond (.t 18) .skip (.exit 0))) (.seq (.blk 1 (.rg [(aj 21 (.bO (.t 3) 5)),(aj 22 (.ld (.t 21) none)),(aj 23 (.bO (.t 1) 5)),(aj 24 (.ld (.t 23) none)),(au 25 4),(aj 26 (.mK 7 (.t 24) (.t 25))),(aj 27 (.ld (.t 26) (some 7))),(aj 28 (.fS 7 [(.t 27)])),(aj 29 (.app 7 80 (.t 22) (.t 28))),(aj 30 (.bO (.t 3) 5)),(iN (.st (.t 30) (.t 29) 1))])) (.rg [(au 19 4),(aj 20 (.bin .add (.t 19) (.c (.int .i64 1)))),(aP 4 20)])))
abbrev K3:av:=(.seq (.rg [(aj 1 (.box (.t 0))),(aj 2 (.alloc [(.str []),(.str []),(.int .i64 0),(.int .i64 0),(.int .u32 0),(.sl .ex 7 [])]))]) (.seq (.rg [(aj 5 (.bO (.t 1) 0)),(aj 6 (.ld (.t 5) (some 2))),(aj 7 (.bO (.t 1) 2)),(aj 8 (.ld (.t 7) none)),(aj 9 (.bO (.t 1) 3)),(aj 10 (.ld (.t 9) none)),(aj 11 (.bO (.t 1) 4)),(aj 12 (.ld (.t 11) none)),(aj 13 (.build [(.str []),(.str []),(.int .i64 0),(.int .i64 0),(.int .u32 0),(.sl .ex 7 [])] [(0,(2,(.t 6))),(2,(1,(.t 8))),(3,(1,(.t 10))),(4,(1,(.t 12)))])),(aj 3 (.alloc [(.str []),(.str []),(.int .i64 0),(.int .i64 0),(.int .u32 0),(.sl .ex 7 [])])),(iN (.st (.t 3) (.t 13) 6))]) (.seq (.seq (.rg [(aj 4 (.aS (.c (.int .i64 0))))]) (.blk 0 (.loop (erase ve)))) (.seq (.rg [(aj 31 (.ld (.t 3) (some 6))),(iN (.st (.t 2) (.t 31) 6))]) .ret))))
theorem K4:bu Tryz.prog 15 32 [(.cell 2 48)] (erase K3):=⟨Tryz.f15,_,rfl,by decide,rfl,by kernel_rfl,rfl,rfl⟩
abbrev Co:List Nat:=[0,1,2,3,4,18]
def jv (e1:aL):(Int×aL)→Option (St aL aL (Int×aL))
 |(i5,s6)=>
  (if (decide (i5<(e1.bh.length:Int))) then
   (idx e1.bh i5).bind fun x7=>
   (cF 80 s6.bh ([x7]:List cJ)).bind fun x8=>
   some (.dz ((IntKind.wrap .i64 (i5+1)),(aL.mk s6.aQ s6.born s6.size s6.sum x8)))
  else
   some (.eZ s6))
def tJ (F:Nat) (e1:aL):Option (aL):=
 ((iter (jv e1) F (0,(aL.mk e1.aQ e1.born e1.size e1.sum ([]:List cJ)))).bind fun o11=>
 match o11 with
 | .inr AD=>
   some AD
 | .inl _=>none)
theorem Db {F:Nat} {i5:Int} {e1:aL} {s6:aL} {q2:Nat} {q3:Nat} {q4:Nat} {H0 H:AH} (hfr:Fr H0 H0.length [] H) (ai:H[q2]? =some [(.str e1.aQ.ax),(.str e1.aQ.domain),(.int .i64 e1.born),(.int .i64 e1.size),(.int .u32 e1.sum),(.sl .n 7 (ml aR e1.bh))]) (aI:H[q3]? =some [(.str ([]:List UInt8)),(.str ([]:List UInt8)),(.int .i64 0),(.int .i64 0),(.int .u32 0),(.sl .own 7 [])]) (dS:H[q4]? =some [(.str s6.aQ.ax),(.str s6.aQ.domain),(.int .i64 s6.born),(.int .i64 s6.size),(.int .u32 s6.sum),(.sl .own 7 (ml aR s6.bh))]) (hi0:H0.length≤q2) (hi1:H0.length≤q3) (hi2:q2≠q3) (CU:H0.length≤q4) (hi4:q2≠q4) (hi5:q3≠q4) {K:Exit→Env→AH→Prop} {o:(aL)⊕(aL)}
 (h:iter (jv e1) F (i5,s6)=some o)
 (dN:∀o':aL,o= .inr o'→∀H':AH,Fr H0 H0.length [] H'→H'[q2]? =some [(.str e1.aQ.ax),(.str e1.aQ.domain),(.int .i64 e1.born),(.int .i64 e1.size),(.int .u32 e1.sum),(.sl .n 7 (ml aR e1.bh))]→H'[q3]? =some [(.str ([]:List UInt8)),(.str ([]:List UInt8)),(.int .i64 0),(.int .i64 0),(.int .u32 0),(.sl .own 7 [])]→H'[q4]? =some [(.str o'.aQ.ax),(.str o'.aQ.domain),(.int .i64 o'.born),(.int .i64 o'.size),(.int .u32 o'.sum),(.sl .own 7 (ml aR o'.bh))]→K (.exit 0) [(2,(.ptr q3 0)),(3,(.ptr q4 0))] H'):
 AX Tryz.prog Co 32 H0.length (.loop (erase ve)) K [(1,(.ptr q2 0)),(2,(.ptr q3 0)),(3,(.ptr q4 0)),(4,(.int .i64 i5))] H:=by
 refine jl (fun s e H1=>match s with|(i5,s6)=>e=[(1,(.ptr q2 0)),(2,(.ptr q3 0)),(3,(.ptr q4 0)),(4,(.int .i64 i5))]∧Fr H0 H0.length [] H1∧H1[q2]? =some [(.str e1.aQ.ax),(.str e1.aQ.domain),(.int .i64 e1.born),(.int .i64 e1.size),(.int .u32 e1.sum),(.sl .n 7 (ml aR e1.bh))]∧H1[q3]? =some [(.str ([]:List UInt8)),(.str ([]:List UInt8)),(.int .i64 0),(.int .i64 0),(.int .u32 0),(.sl .own 7 [])]∧H1[q4]? =some [(.str s6.aQ.ax),(.str s6.aQ.domain),(.int .i64 s6.born),(.int .i64 s6.size),(.int .u32 s6.sum),(.sl .own 7 (ml aR s6.bh))]) h ⟨rfl,hfr,ai,aI,dS⟩ ?_
 rintro K' ⟨i5,s6⟩ st e H ⟨rfl,hfr,ai,aI,dS⟩ h hN hB hR hX
 have hle:=hfr.le
 have bf:=aY ai
 have kD:=aY aI
 have NN:=aY dS
 rw [jv.eq_1] at h
 refine aF (aH ai (aH aI dS)) ?_
 refine b7 h (fun hy1 h=> ?_) fun hy1 h=> ?_
 · obtain ⟨x7,aU,h⟩:=ak h
   obtain ⟨x8,bp,h⟩:=ak h
   have bn:cF 80 (ml aR s6.bh) [(.agg [(.str x7.gh.ax),(.str x7.gh.domain),(.int .i64 x7.state),(.int .i64 x7.tries),(.int .i64 x7.next),(.int .i64 x7.code),(.str x7.why)])]=some (ml aR x8):=eS (f:=aR) bp
   refine aF (aH aU (aH bn (aH ai (aH aI dS)))) ?_
   obtain rfl:=aE h
   exact hN _ rfl _ _ _ _ aN aq ⟨rfl,(cM _ (cM _ hfr)),(iM (iM (ai.trans rfl))),(iM (iM (aI.trans rfl))),eB⟩
 · refine aF (aH ai (aH aI dS)) ?_
   obtain rfl:=aE h
   exact hX _ _ _ _ _ eK aN aq (dN _ (hB _ rfl) _ hfr (ai.trans rfl) (aI.trans rfl) (dS.trans rfl))
theorem I0 {F:Nat} {e1:aL} {H0:AH} {aJ:aL} (h:tJ F e1=some aJ):
 ay Tryz.prog 15 [(.agg [(.str e1.aQ.ax),(.str e1.aQ.domain),(.int .i64 e1.born),(.int .i64 e1.size),(.int .u32 e1.sum),(.sl .n 7 (ml aR e1.bh))])] H0 fun v H'=>v=(.agg [(.str aJ.aQ.ax),(.str aJ.aQ.domain),(.int .i64 aJ.born),(.int .i64 aJ.size),(.int .u32 aJ.sum),(.sl .n 7 (ml aR aJ.bh))])∧H'=H0:=by
 refine kO K4 Co [] fun hcl K0 aO H hH hfr=> ?_
 clear hH
 have hle:=hfr.le
 rw [tJ.eq_1] at h
 refine cj ?_
 obtain ⟨q3,Eb⟩:∃q:Nat,(H.length+1)=q:=⟨_,rfl⟩
 try rw [Eb]
 obtain ⟨q4,NR⟩:∃q:Nat,(H.length+2)=q:=⟨_,rfl⟩
 try rw [NR]
 obtain ⟨q2,kA⟩:∃q:Nat,H.length=q:=⟨_,rfl⟩
 try rw [kA]
 try rw [show q2+1=q3 from by omega]
 try rw [show q3+1=q4 from by omega]
 obtain ⟨o11,bG,h⟩:=ak h
 refine bS (fT.U3 (q:=q4) (cs':=[(.str e1.aQ.ax),(.str e1.aQ.domain),(.int .i64 e1.born),(.int .i64 e1.size),(.int .u32 e1.sum),(.sl .own 7 [])]) (fT.set (q:=q3) (cs':=[(.str ([]:List UInt8)),(.str ([]:List UInt8)),(.int .i64 0),(.int .i64 0),(.int .u32 0),(.sl .own 7 [])]) (iM (Fo vj)) A9) eB A9) (Db (q2:=q2) (q3:=q3) (q4:=q4) (cM _ (cM _ (cM _ (Fr.app (Fr.app (Fr.app hfr)))))) (iM (iM (iM (Fo (Fo vj))))) (iM eB) eB dD dD dD dD dD dD bG ?_)
 · rintro AD rfl H hfr ai aI dS
   try dsimp only at h ai aI dS
   have hle:=hfr.le
   have bf:=aY ai
   have kD:=aY aI
   have NN:=aY dS
   refine aF (aH ai (aH aI dS)) ?_
   obtain rfl:=aE h
   exact aO _ _ _ bC (bM (cM _ hfr) hcl (mj (cs:=[(.str AD.aQ.ax),(.str AD.aQ.domain),(.int .i64 AD.born),(.int .i64 AD.size),(.int .u32 AD.sum),(.sl .n 7 (ml aR AD.bh))]) (v:=(.agg [(.str AD.aQ.ax),(.str AD.aQ.domain),(.int .i64 AD.born),(.int .i64 AD.size),(.int .u32 AD.sum),(.sl .n 7 (ml aR AD.bh))])) (by kernel_rfl) (n:=(some 6)) (by kernel_rfl) rfl eB (by simp [oO,oN,mM,cc,AV.flat,wX,vV,AV.bP,Tg.sh]) bA) bB bt ⟨rfl,rfl⟩)
end Go.Proofs.cD
end
section
set_option maxRecDepth 100000
namespace Go.Proofs.cD
open Go Go.Am Go.Proofs
open Nat renaming reduceEqDiff→nA,reduceLT→nB,reduceLeDiff→nC,reduceAdd→nD,reduceSub→nE,reduceMul→nF,reduceBEq→nG
set_option maxHeartbeats 2000000
abbrev rF:av:=(.rg [(au 7 0),(au 8 1),(aj 9 (.bin .geq (.t 7) (.t 8))),(au 10 9),(az 11 (.mv (.t 0)) 10 true),(az 12 (.mv (.t 2)) 10 true),(az 13 (.bin .leq (.t 11) (.t 12)) 10 true),(aj 14 (.pick (.t 10) (.t 13) (.c (.bool false)))),(aP 6 14)])
abbrev EO:av:=(.seq (.rg [(aj 6 (.aS (.c (.bool false))))]) (.seq (.sem (erase rF)) .ret))
theorem EP:bu Tryz.prog 45 15 [(.tmp 6)] (erase EO):=⟨Tryz.f45,_,rfl,by decide,rfl,by kernel_rfl,rfl,rfl⟩
abbrev wK:List Nat:=[0,1,2,6]
def eU (v1:Int) (F4:Int) (CU:Int):Option (Bool):=
 some ((decide (F4≤v1))&&(decide (v1≤CU)))
theorem zj {v1:Int} {F4:Int} {CU:Int} {H:AH} {K:Exit→Env→AH→Prop}
 (kn:K .normal [(6,(.bool ((decide (F4≤v1))&&(decide (v1≤CU)))))] H):
 AX Tryz.prog wK 15 H.length (erase rF) K [(0,(.int .i64 v1)),(1,(.int .i64 F4)),(2,(.int .i64 CU)),(6,(.bool false))] H:=by
 refine cU fun K' hK=> ?_
 refine aG ?_
 refine ob (fun hy1=> ?_) fun hy1=> ?_
 · refine aW hy1 ?_
   exact hK _ _ _ _ _ (fq hy1) aq kn
 · refine aW hy1 ?_
   exact hK _ _ _ _ _ (fq hy1) aq kn
theorem fj {v1:Int} {F4:Int} {CU:Int} {H0:AH} {aJ:Bool} (h:eU v1 F4 CU=some aJ):
 ay Tryz.prog 45 [(.int .i64 v1),(.int .i64 F4),(.int .i64 CU)] H0 fun v H'=>v=(.bool aJ)∧H'=H0:=by
 refine eC EP wK fun hcl K0 aO=> ?_
 rw [eU.eq_1] at h
 refine aG ?_
 refine bS aq (zj (v1:=v1) (F4:=F4) (CU:=CU) ?_)
 refine aG ?_
 obtain rfl:=aE h
 exact aO _ _ _ bC (aK hcl (br bA (.bool ((decide (F4≤v1))&&(decide (v1≤CU))))) bB bt ⟨rfl,rfl⟩)
abbrev vf:av:=(.rg [(aj 4 (.bO (.t 1) 5)),(aj 5 (.ld (.t 4) none)),(aj 6 (.bin .eql (.t 5) (.c (.int .i64 0)))),(au 7 6),(az 8 (.bO (.t 1) 5) 7 false),(az 9 (.ld (.t 8) none) 7 false),(az 10 (.call (.c (.fn 45 [])) [(.t 9),(.c (.int .i64 200)),(.c (.int .i64 599))]) 7 false),(aj 11 (.pick (.t 7) (.c (.bool true)) (.t 10))),(aP 3 11)])
abbrev vg:av:=(.rg ((au 12 3)::(au 13 12)::(az 14 (.bO (.t 1) 0) 13 true)::(az 15 (.ld (.t 14) (some 2)) 13 true)::(az 16 (.call (.c (.fn 44 [])) [(.t 15)]) 13 true)::(aj 17 (.pick (.t 13) (.t 16) (.c (.bool false))))::(au 18 17)::(az 19 (.bO (.t 1) 0) 18 true)::(az 20 (.ld (.t 19) (some 2)) 18 true)::(az 21 (.build [(.str []),(.str [])] []) 18 true)::(az 22 (.seq [.s, .s] true (.t 20) (.t 21)) 18 true)::(aj 23 (.pick (.t 18) (.t 22) (.c (.bool false))))::(au 24 23)::(az 25 (.bO (.t 1) 2) 24 true)::(az 26 (.ld (.t 25) none) 24 true)::(az 27 (.call (.c (.fn 45 [])) [(.t 26),(.c (.int .i64 1)),(.c (.int .i64 5))]) 24 true)::(aj 28 (.pick (.t 24) (.t 27) (.c (.bool false))))::(au 29 28)::(az 30 (.bO (.t 1) 3) 29 true)::(az 31 (.ld (.t 30) none) 29 true)::(az 32 (.call (.c (.fn 45 [])) [(.t 31),(.c (.int .i64 0)),(.c (.int .i64 255))]) 29 true)::(aj 33 (.pick (.t 29) (.t 32) (.c (.bool false))))::(au 34 33)::(az 35 (.bO (.t 1) 4) 34 true)::(az 36 (.ld (.t 35) none) 34 true)::(az 37 (.call (.c (.fn 45 [])) [(.t 36),(.c (.int .i64 0)),(.c (.int .i64 2147483647))]) 34 true)::(aj 38 (.pick (.t 34) (.t 37) (.c (.bool false))))::(au 39 38)::(az 40 (.bO (.t 1) 6) 39 true)::(az 41 (.ld (.t 40) none) 39 true)::(az 42 (.lens (.t 41)) 39 true)::(az 43 (.bin .leq (.t 42) (.c (.int .i64 100))) 39 true)::(aj 44 (.pick (.t 39) (.t 43) (.c (.bool false))))::(aP 2 44)::[]))
abbrev I1:av:=(.seq (.rg [(aj 1 (.box (.t 0))),(aj 2 (.aS (.c (.bool false))))]) (.seq (.sem (erase vf)) (.seq (.sem (erase vg)) .ret)))
theorem I2:bu Tryz.prog 48 45 [(.tmp 2)] (erase I1):=⟨Tryz.f48,_,rfl,by decide,rfl,by kernel_rfl,rfl,rfl⟩
abbrev uC:List Nat:=[0,1,2,3]
def mG (r1:cJ):Option (Bool):=
 (if (decide (r1.code=0)) then
  some true
 else
  (eU r1.code 200 599).bind fun r3=>some r3)
def mH (F:Nat) (zk:Bool) (r1:cJ):Option (Bool):=
 (if zk then
  (gM F r1.gh).bind fun r7=>
  (if r7 then
   (if (!(decide (r1.gh.ax=([]:List UInt8))&&decide (r1.gh.domain=([]:List UInt8)))) then
    (eU r1.state 1 5).bind fun r8=>
    (if r8 then
     (eU r1.tries 0 255).bind fun r9=>
     (if r9 then
      (eU r1.next 0 2147483647).bind fun gH=>
      (if gH then
       some (decide ((r1.why.length:Int)≤100))
      else
       some false)
     else
      some false)
    else
     some false)
   else
    some false)
  else
   some false)
 else
  some false)
def qj (F:Nat) (r1:cJ):Option (Bool):=
 (mG r1).bind fun zk=>
 (mH F zk r1).bind fun t12=>
 some t12
theorem B3 {r1:cJ} {q2:Nat} {H0 H:AH} (hfr:Fr H0 H0.length [] H) (ai:H[q2]? =some [(.str r1.gh.ax),(.str r1.gh.domain),(.int .i64 r1.state),(.int .i64 r1.tries),(.int .i64 r1.next),(.int .i64 r1.code),(.str r1.why)]) (hi0:H0.length≤q2) {K:Exit→Env→AH→Prop} {Vy:Bool}
 (h:mG r1=some Vy)
 (kn:∀H':AH,Fr H0 H0.length [] H'→H'[q2]? =some [(.str r1.gh.ax),(.str r1.gh.domain),(.int .i64 r1.state),(.int .i64 r1.tries),(.int .i64 r1.next),(.int .i64 r1.code),(.str r1.why)]→K .normal [(1,(.ptr q2 0)),(3,(.bool Vy))] H'):
 AX Tryz.prog uC 45 H0.length (erase vf) K [(1,(.ptr q2 0))] H:=by
 refine cU fun K' hK=> ?_
 have hle:=hfr.le
 have bf:=aY ai
 rw [mG.eq_1] at h
 refine aF ai ?_
 refine b6 h (fun hy1 h=> ?_) fun hy1 h=> ?_
 · refine aF (aH hy1 ai) ?_
   obtain rfl:=aE h
   exact hK _ _ _ _ _ aN aq (kn _ hfr (ai.trans rfl))
 · refine aF (aH hy1 ai) ?_
   obtain ⟨r3,aU,h⟩:=ak h
   refine aX aq (fj aU) ?_
   refine aF ai ?_
   obtain rfl:=aE h
   exact hK _ _ _ _ _ aN aq (kn _ hfr (ai.trans rfl))
theorem B4 {F:Nat} {zk:Bool} {r1:cJ} {q6:Nat} {H0 H:AH} (hfr:Fr H0 H0.length [] H) (ai:H[q6]? =some [(.str r1.gh.ax),(.str r1.gh.domain),(.int .i64 r1.state),(.int .i64 r1.tries),(.int .i64 r1.next),(.int .i64 r1.code),(.str r1.why)]) (hi0:H0.length≤q6) {K:Exit→Env→AH→Prop} {t11:Bool}
 (h:mH F zk r1=some t11)
 (kn:∀H':AH,Fr H0 H0.length [] H'→H'[q6]? =some [(.str r1.gh.ax),(.str r1.gh.domain),(.int .i64 r1.state),(.int .i64 r1.tries),(.int .i64 r1.next),(.int .i64 r1.code),(.str r1.why)]→K .normal [(2,(.bool t11))] H'):
 AX Tryz.prog uC 45 H0.length (erase vg) K [(1,(.ptr q6 0)),(3,(.bool zk))] H:=by
 refine cU fun K' hK=> ?_
 have hle:=hfr.le
 have bf:=aY ai
 rw [mH.eq_1] at h
 refine aF ai ?_
 refine b6 h (fun bn h=> ?_) fun bn h=> ?_
 · refine aF (aH bn ai) ?_
   obtain ⟨r7,bG,h⟩:=ak h
   refine aX aq (k9 bG) ?_
   refine aF ai ?_
   refine b6 h (fun bY h=> ?_) fun bY h=> ?_
   · refine aF (aH bY ai) ?_
     refine b6 h (fun cK h=> ?_) fun cK h=> ?_
     · refine aF (aH cK ai) ?_
       obtain ⟨r8,cE,h⟩:=ak h
       refine aX aq (fj cE) ?_
       refine aF ai ?_
       refine b6 h (fun dO h=> ?_) fun dO h=> ?_
       · refine aF (aH dO ai) ?_
         obtain ⟨r9,cT,h⟩:=ak h
         refine aX aq (fj cT) ?_
         refine aF ai ?_
         refine b6 h (fun cP h=> ?_) fun cP h=> ?_
         · refine aF (aH cP ai) ?_
           obtain ⟨gH,dI,h⟩:=ak h
           refine aX aq (fj dI) ?_
           refine aF ai ?_
           refine b6 h (fun dx h=> ?_) fun dx h=> ?_
           · refine aF (aH dx ai) ?_
             obtain rfl:=aE h
             exact hK _ _ _ _ _ aN aq (kn _ hfr (ai.trans rfl))
           · refine aF (aH dx ai) ?_
             obtain rfl:=aE h
             exact hK _ _ _ _ _ aN aq (kn _ hfr (ai.trans rfl))
         · refine aF (aH cP ai) ?_
           obtain rfl:=aE h
           exact hK _ _ _ _ _ aN aq (kn _ hfr (ai.trans rfl))
       · refine aF (aH dO ai) ?_
         obtain rfl:=aE h
         exact hK _ _ _ _ _ aN aq (kn _ hfr (ai.trans rfl))
     · refine aF (aH cK ai) ?_
       obtain rfl:=aE h
       exact hK _ _ _ _ _ aN aq (kn _ hfr (ai.trans rfl))
   · refine aF (aH bY ai) ?_
     obtain rfl:=aE h
     exact hK _ _ _ _ _ aN aq (kn _ hfr (ai.trans rfl))
 · refine aF (aH bn ai) ?_
   obtain rfl:=aE h
   exact hK _ _ _ _ _ aN aq (kn _ hfr (ai.trans rfl))
theorem F5 {F:Nat} {r1:cJ} {H0:AH} {aJ:Bool} (h:qj F r1=some aJ):
 ay Tryz.prog 48 [(.agg [(.str r1.gh.ax),(.str r1.gh.domain),(.int .i64 r1.state),(.int .i64 r1.tries),(.int .i64 r1.next),(.int .i64 r1.code),(.str r1.why)])] H0 fun v H'=>v=(.bool aJ)∧H'=H0:=by
 refine kO I2 uC [] fun hcl K0 aO H hH hfr=> ?_
 clear hH
 have hle:=hfr.le
 rw [qj.eq_1] at h
 refine cj ?_
 obtain ⟨q2,kA⟩:∃q:Nat,H.length=q:=⟨_,rfl⟩
 try rw [kA]
 obtain ⟨zk,bp,h⟩:=ak h
 refine bS aq (B3 (q2:=q2) (Fr.app hfr) vj dD bp ?_)
 intro H hfr ai
 have hle:=hfr.le
 have bf:=aY ai
 refine aF ai ?_
 obtain ⟨t12,gz,h⟩:=ak h
 refine bS aq (B4 (q6:=q2) hfr (ai.trans rfl) dD gz ?_)
 intro H hfr ai
 have hle:=hfr.le
 have bf:=aY ai
 refine aF ai ?_
 obtain rfl:=aE h
 exact aO _ _ _ bC (bM hfr hcl (br bA (.bool t12)) bB bt ⟨rfl,rfl⟩)
abbrev ER:av:=(.seq (.rg [(aj 1 (.box (.t 0))),(aj 2 (.aS (.c (.bool false))))]) (.seq (.rg [(aj 3 (.ld (.t 1) (some 7))),(aj 4 (.call (.c (.fn 48 [])) [(.t 3)])),(aj 5 (.un .not (.t 4))),(aP 2 5)]) .ret))
theorem ES:bu Tryz.prog 47 6 [(.tmp 2)] (erase ER):=⟨Tryz.f47,_,rfl,by decide,rfl,by kernel_rfl,rfl,rfl⟩
abbrev ET:List Nat:=[0,1,2]
def lO (F:Nat) (r1:cJ):Option (Bool):=
 (qj F r1).bind fun r2=>some (!r2)
theorem Dc {F:Nat} {r1:cJ} {H0:AH} {aJ:Bool} (h:lO F r1=some aJ):
 ay Tryz.prog 47 [(.agg [(.str r1.gh.ax),(.str r1.gh.domain),(.int .i64 r1.state),(.int .i64 r1.tries),(.int .i64 r1.next),(.int .i64 r1.code),(.str r1.why)])] H0 fun v H'=>v=(.bool aJ)∧H'=H0:=by
 refine kO ES ET [] fun hcl K0 aO H hH hfr=> ?_
 clear hH
 have hle:=hfr.le
 rw [lO.eq_1] at h
 refine cj ?_
 obtain ⟨r2,hy1,h⟩:=ak h
 refine aX aq (F5 hy1) ?_
 refine cj ?_
 obtain rfl:=aE h
 exact aO _ _ _ bC (bM (Fr.app hfr) hcl (br bA (.bool (!r2))) bB bt ⟨rfl,rfl⟩)
abbrev gP:av:=(.seq (.rg [(aj 9 (.bin .lss (.t 8) (.t 7)))]) (.seq (.cond (.t 9) .skip (.exit 0)) (.seq (.blk 1 (.seq (.rg [(au 10 8),(aP 5 10)]) (.seq (.rg [(au 11 1),(au 12 0),(au 13 5),(aj 14 (.mK 7 (.t 12) (.t 13))),(aj 15 (.ld (.t 14) (some 7))),(aj 16 (.call (.t 11) [(.t 15)]))]) (.cond (.t 16) (.seq (.rg [(au 17 5),(aP 4 17)]) .ret) .skip)))) (.rg [(aj 18 (.bin .add (.t 8) (.c (.int .i64 1)))),(au 8 18)]))))
abbrev qH:av:=(.seq (.rg [(aj 4 (.aS (.c (.int .i64 0))))]) (.seq (.seq (.rg [(au 6 0),(aj 7 (.len (.t 6))),(aj 8 (.mv (.c (.int .i64 0))))]) (.blk 0 (.loop (erase gP)))) (.seq (.rg [(aj 4 (.aS (.c (.int .i64 (-1)))))]) .ret)))
theorem qI:bu Tryz.prog 85 19 [(.tmp 4)] (erase qH):=⟨Tryz.f85,_,rfl,by decide,rfl,by kernel_rfl,rfl,rfl⟩
abbrev jJ:List Nat:=[0,1,4,5,7,8,9,16]
def cg (F:Nat) (s1:List cJ):(Int×Int)→Option (St Int Unit (Int×Int))
 |(t2,t3)=>
  (if (decide (t3<(s1.length:Int))) then
   (idx s1 t3).bind fun x4=>
   (lO F x4).bind fun r5=>
   (if r5 then
    some (.ret t3)
   else
    some (.dz (t2,(IntKind.wrap .i64 (t3+1)))))
  else
   some (.eZ ()))
def e5 (F:Nat) (s1:List cJ):Option (Int):=
 ((iter (cg F s1) F (0,0)).bind fun o8=>
 match o8 with
 | .inr ()=>
   some (-1)
 | .inl r7=>
   some r7)
theorem nc {F:Nat} {t3:Int} {s1:List cJ} {t2:Int} {H:AH} {K:Exit→Env→AH→Prop} {o:(Int)⊕(Unit)}
 (h:iter (cg F s1) F (t2,t3)=some o)
 (dN:∀o':Unit,o= .inr o'→K (.exit 0) [] H)
 (kr:∀o':Int,o= .inl o'→K .ret [(4,(.int .i64 o'))] H):
 AX Tryz.prog jJ 19 H.length (.loop (erase gP)) K [(0,(.sl .n 7 (ml aR s1))),(1,(.fn 47 [])),(4,(.int .i64 t2)),(7,(.int .i64 (s1.length:Int))),(8,(.int .i64 t3))] H:=by
 refine jl (fun s e H1=>match s with|(t2,t3)=>e=[(0,(.sl .n 7 (ml aR s1))),(1,(.fn 47 [])),(4,(.int .i64 t2)),(7,(.int .i64 (s1.length:Int))),(8,(.int .i64 t3))]∧H1=H) h ⟨rfl,rfl⟩ ?_
 rintro K' ⟨t2,t3⟩ st e H ⟨rfl,rfl⟩ h hN hB hR hX
 rw [cg.eq_1] at h
 refine aG ?_
 refine b7 h (fun hy1 h=> ?_) fun hy1 h=> ?_
 · obtain ⟨x4,aU,h⟩:=ak h
   refine aW aU ?_
   obtain ⟨r5,bp,h⟩:=ak h
   refine aX aq (Dc bp) ?_
   refine aG ?_
   refine b7 h (fun bn h=> ?_) fun bn h=> ?_
   · refine aG ?_
     obtain rfl:=aE h
     exact hX _ _ _ _ _ eK aN aq (kr _ (hR _ rfl))
   · refine aG ?_
     obtain rfl:=aE h
     exact hN _ rfl _ _ _ _ aN aq ⟨rfl,rfl⟩
 · refine aG ?_
   obtain rfl:=aE h
   exact hX _ _ _ _ _ eK WE.nil aq (dN _ (hB _ rfl))
theorem qk {F:Nat} {s1:List cJ} {H0:AH} {aJ:Int} (h:e5 F s1=some aJ):
 ay Tryz.prog 85 [(.sl .n 7 (ml aR s1)),(.fn 47 [])] H0 fun v H'=>v=(.int .i64 aJ)∧H'=H0:=by
 refine eC qI jJ fun hcl K0 aO=> ?_
 rw [e5.eq_1] at h
 refine aG ?_
 obtain ⟨o8,bG,h⟩:=ak h
 refine bS aq (nc bG ?_ ?_)
 · rintro ⟨⟩ rfl
   try dsimp only at h
   refine aG ?_
   obtain rfl:=aE h
   exact aO _ _ _ bC (aK hcl (br bA (.int .i64 (-1))) bB bt ⟨rfl,rfl⟩)
 · rintro r7 rfl
   try dsimp only at h
   refine aG ?_
   obtain rfl:=aE h
   exact aO _ _ _ bC (aK hcl (br bA (.int .i64 r7)) bB bt ⟨rfl,rfl⟩)
abbrev nO:av:=(.seq (.rg [(aj 4 (.aS (.c (.bool false))))]) (.seq (.rg [(au 5 0),(au 6 1),(aj 7 (.call (.c (.fn 85 [])) [(.t 5),(.t 6)])),(aj 8 (.bin .geq (.t 7) (.c (.int .i64 0)))),(aP 4 8)]) .ret))
theorem nP:bu Tryz.prog 46 9 [(.tmp 4)] (erase nO):=⟨Tryz.f46,_,rfl,by decide,rfl,by kernel_rfl,rfl,rfl⟩
abbrev nQ:List Nat:=[0,1,4]
def dw (F:Nat) (s1:List cJ):Option (Bool):=
 (e5 F s1).bind fun r2=>some (decide (0≤r2))
theorem ng {F:Nat} {s1:List cJ} {H0:AH} {aJ:Bool} (h:dw F s1=some aJ):
 ay Tryz.prog 46 [(.sl .n 7 (ml aR s1)),(.fn 47 [])] H0 fun v H'=>v=(.bool aJ)∧H'=H0:=by
 refine eC nP nQ fun hcl K0 aO=> ?_
 rw [dw.eq_1] at h
 refine aG ?_
 obtain ⟨r2,hy1,h⟩:=ak h
 refine aX aq (qk hy1) ?_
 refine aG ?_
 obtain rfl:=aE h
 exact aO _ _ _ bC (aK hcl (br bA (.bool (decide (0≤r2)))) bB bt ⟨rfl,rfl⟩)
abbrev vh:av:=(.rg [(aj 3 (.bO (.t 1) 0)),(aj 4 (.ld (.t 3) (some 2))),(aj 5 (.call (.c (.fn 44 [])) [(.t 4)])),(au 6 5),(az 7 (.bO (.t 1) 2) 6 true),(az 8 (.ld (.t 7) none) 6 true),(az 9 (.call (.c (.fn 45 [])) [(.t 8),(.c (.int .i64 0)),(.c (.int .i64 2147483647))]) 6 true),(aj 10 (.pick (.t 6) (.t 9) (.c (.bool false)))),(au 11 10),(az 12 (.bO (.t 1) 3) 11 true),(az 13 (.ld (.t 12) none) 11 true),(az 14 (.call (.c (.fn 45 [])) [(.t 13),(.c (.int .i64 0)),(.c (.int .i64 2147483647))]) 11 true),(aj 15 (.pick (.t 11) (.t 14) (.c (.bool false)))),(au 16 15),(az 17 (.bO (.t 1) 5) 16 true),(az 18 (.ld (.t 17) none) 16 true),(az 19 (.len (.t 18)) 16 true),(az 20 (.call (.c (.fn 45 [])) [(.t 19),(.c (.int .i64 1)),(.c (.int .i64 100))]) 16 true),(aj 21 (.pick (.t 16) (.t 20) (.c (.bool false)))),(au 22 21),(az 23 (.bO (.t 1) 5) 22 true),(az 24 (.ld (.t 23) none) 22 true),(az 25 (.call (.c (.fn 46 [])) [(.t 24),(.c (.fn 47 []))]) 22 true),(az 26 (.un .not (.t 25)) 22 true),(aj 27 (.pick (.t 22) (.t 26) (.c (.bool false)))),(aP 2 27)])
abbrev I3:av:=(.seq (.rg [(aj 1 (.box (.t 0))),(aj 2 (.aS (.c (.bool false))))]) (.seq (.sem (erase vh)) .ret))
theorem I4:bu Tryz.prog 14 28 [(.tmp 2)] (erase I3):=⟨Tryz.f14,_,rfl,by decide,rfl,by kernel_rfl,rfl,rfl⟩
abbrev AE:List Nat:=[0,1,2]
def mI (F:Nat) (e1:aL):Option (Bool):=
 (gM F e1.aQ).bind fun r3=>
 (if r3 then
  (eU e1.born 0 2147483647).bind fun r4=>
  (if r4 then
   (eU e1.size 0 2147483647).bind fun r5=>
   (if r5 then
    (eU (e1.bh.length:Int) 1 100).bind fun r6=>
    (if r6 then
     (dw F e1.bh).bind fun r7=>some (!r7)
    else
     some false)
   else
    some false)
  else
   some false)
 else
  some false)
def ql (F:Nat) (e1:aL):Option (Bool):=
 (mI F e1).bind fun t9=>
 some t9
theorem B5 {F:Nat} {e1:aL} {q2:Nat} {H0 H:AH} (hfr:Fr H0 H0.length [] H) (ai:H[q2]? =some [(.str e1.aQ.ax),(.str e1.aQ.domain),(.int .i64 e1.born),(.int .i64 e1.size),(.int .u32 e1.sum),(.sl .n 7 (ml aR e1.bh))]) (hi0:H0.length≤q2) {K:Exit→Env→AH→Prop} {t8:Bool}
 (h:mI F e1=some t8)
 (kn:∀H':AH,Fr H0 H0.length [] H'→H'[q2]? =some [(.str e1.aQ.ax),(.str e1.aQ.domain),(.int .i64 e1.born),(.int .i64 e1.size),(.int .u32 e1.sum),(.sl .n 7 (ml aR e1.bh))]→K .normal [(2,(.bool t8))] H'):
 AX Tryz.prog AE 28 H0.length (erase vh) K [(1,(.ptr q2 0)),(2,(.bool false))] H:=by
 refine cU fun K' hK=> ?_
 have hle:=hfr.le
 have bf:=aY ai
 rw [mI.eq_1] at h
 refine aF ai ?_
 obtain ⟨r3,hy1,h⟩:=ak h
 refine aX aq (k9 hy1) ?_
 refine aF ai ?_
 refine b6 h (fun aU h=> ?_) fun aU h=> ?_
 · refine aF (aH aU ai) ?_
   obtain ⟨r4,bp,h⟩:=ak h
   refine aX aq (fj bp) ?_
   refine aF ai ?_
   refine b6 h (fun bn h=> ?_) fun bn h=> ?_
   · refine aF (aH bn ai) ?_
     obtain ⟨r5,bG,h⟩:=ak h
     refine aX aq (fj bG) ?_
     refine aF ai ?_
     refine b6 h (fun bY h=> ?_) fun bY h=> ?_
     · refine aF (aH bY ai) ?_
       obtain ⟨r6,cK,h⟩:=ak h
       refine aX aq (fj cK) ?_
       refine aF ai ?_
       refine b6 h (fun cE h=> ?_) fun cE h=> ?_
       · refine aF (aH cE ai) ?_
         obtain ⟨r7,dO,h⟩:=ak h
         refine aX aq (ng dO) ?_
         refine aF ai ?_
         obtain rfl:=aE h
         exact hK _ _ _ _ _ aN aq (kn _ hfr (ai.trans rfl))
       · refine aF (aH cE ai) ?_
         obtain rfl:=aE h
         exact hK _ _ _ _ _ aN aq (kn _ hfr (ai.trans rfl))
     · refine aF (aH bY ai) ?_
       obtain rfl:=aE h
       exact hK _ _ _ _ _ aN aq (kn _ hfr (ai.trans rfl))
   · refine aF (aH bn ai) ?_
     obtain rfl:=aE h
     exact hK _ _ _ _ _ aN aq (kn _ hfr (ai.trans rfl))
 · refine aF (aH aU ai) ?_
   obtain rfl:=aE h
   exact hK _ _ _ _ _ aN aq (kn _ hfr (ai.trans rfl))
theorem F6 {F:Nat} {e1:aL} {H0:AH} {aJ:Bool} (h:ql F e1=some aJ):
 ay Tryz.prog 14 [(.agg [(.str e1.aQ.ax),(.str e1.aQ.domain),(.int .i64 e1.born),(.int .i64 e1.size),(.int .u32 e1.sum),(.sl .n 7 (ml aR e1.bh))])] H0 fun v H'=>v=(.bool aJ)∧H'=H0:=by
 refine kO I4 AE [] fun hcl K0 aO H hH hfr=> ?_
 clear hH
 have hle:=hfr.le
 rw [ql.eq_1] at h
 refine cj ?_
 obtain ⟨q2,kA⟩:∃q:Nat,H.length=q:=⟨_,rfl⟩
 try rw [kA]
 obtain ⟨t9,cT,h⟩:=ak h
 refine bS aq (B5 (q2:=q2) (Fr.app hfr) vj dD cT ?_)
 intro H hfr ai
 have hle:=hfr.le
 have bf:=aY ai
 refine aF ai ?_
 obtain rfl:=aE h
 exact aO _ _ _ bC (bM hfr hcl (br bA (.bool t9)) bB bt ⟨rfl,rfl⟩)
abbrev lP:av:=(.rg [(aj 16 (.ld (.t 2) (some 6))),(aj 17 (.call (.c (.fn 13 [])) [(.t 16)])),(aj 18 (.un .not (.t 17))),(au 19 18),(az 20 (.ld (.t 2) (some 6)) 19 false),(az 21 (.call (.c (.fn 14 [])) [(.t 20)]) 19 false),(az 22 (.un .not (.t 21)) 19 false),(aj 23 (.pick (.t 19) (.c (.bool true)) (.t 22))),(au 24 23),(az 25 (.ld (.t 2) (some 6)) 24 false),(az 26 (.call (.c (.fn 15 [])) [(.t 25)]) 24 false),(az 27 (.Cb (.t 26) 0 (some 2)) 24 false),(az 28 (.Cb (.t 27) 0 none) 24 false),(az 29 (.bin .eql (.t 28) (.c (.str []))) 24 false),(aj 30 (.pick (.t 24) (.c (.bool true)) (.t 29))),(au 31 30),(az 32 (.mv (.t 1)) 31 false),(az 33 (.len (.t 32)) 31 false),(az 34 (.bin .gtr (.t 33) (.c (.int .i64 4096))) 31 false),(aj 35 (.pick (.t 31) (.c (.bool true)) (.t 34)))])
abbrev lQ:av:=(.rg ((au 71 7)::(aj 72 (.un .not (.t 71)))::(au 73 72)::(az 74 (.mv (.t 9)) 73 true)::(az 75 (.un .not (.t 74)) 73 true)::(aj 76 (.pick (.t 73) (.t 75) (.c (.bool false))))::(au 77 76)::(az 78 (.mv (.t 11)) 77 true)::(az 79 (.un .not (.t 78)) 77 true)::(aj 80 (.pick (.t 77) (.t 79) (.c (.bool false))))::(au 81 80)::(az 82 (.mv (.t 13)) 81 true)::(az 83 (.un .not (.t 82)) 81 true)::(aj 84 (.pick (.t 81) (.t 83) (.c (.bool false))))::(au 85 84)::(az 86 (.mv (.t 6)) 85 true)::(az 87 (.len (.t 86)) 85 true)::(az 88 (.mv (.t 8)) 85 true)::(az 89 (.len (.t 88)) 85 true)::(az 90 (.bin .add (.t 87) (.t 89)) 85 true)::(az 91 (.mv (.t 10)) 85 true)::(az 92 (.len (.t 91)) 85 true)::(az 93 (.bin .add (.t 90) (.t 92)) 85 true)::(az 94 (.mv (.t 12)) 85 true)::(az 95 (.len (.t 94)) 85 true)::(az 96 (.bin .add (.t 93) (.t 95)) 85 true)::(az 97 (.bin .eql (.t 96) (.c (.int .i64 0))) 85 true)::(aj 98 (.pick (.t 85) (.t 97) (.c (.bool false))))::(au 99 98)::(az 100 (.ld (.t 5) (some 6)) 99 true)::(az 101 (.call (.c (.fn 16 [])) [(.t 100)]) 99 true)::(aj 102 (.pick (.t 99) (.t 101) (.c (.bool false))))::(aP 4 102)::[]))
abbrev xM:av:=(.seq (.rg [(aj 2 (.box (.t 0))),(aj 4 (.aS (.c (.bool false))))]) (.seq (.seq (.rg [(aj 14 (.call (.c (.fn 8 [])) [])),(aj 15 (.un .not (.t 14)))]) (.cond (.t 15) (.seq (.rg [(aj 4 (.aS (.c (.bool false))))]) .ret) .skip)) (.seq (.seq (.sem (erase lP)) (.cond (.t 35) (.seq (.rg [(aj 4 (.aS (.c (.bool true))))]) .ret) .skip)) (.seq (.rg [(aj 36 (.ld (.t 2) (some 6))),(aj 5 (.alloc [(.str []),(.str []),(.int .i64 0),(.int .i64 0),(.int .u32 0),(.sl .ex 7 [])])),(iN (.st (.t 5) (.t 36) 6))]) (.seq (.rg [(aj 37 (.bO (.t 5) 0)),(aj 38 (.bO (.t 37) 0)),(iN (.st (.t 38) (.c (.str [])) 1))]) (.seq (.rg [(aj 39 (.bO (.t 5) 0)),(aj 40 (.bO (.t 39) 1)),(iN (.st (.t 40) (.c (.str [])) 1))]) (.seq (.rg [(aj 42 (.ld (.t 5) (some 6))),(aj 43 (.fS 1 [(.c (.int .i64 0))])),(au 44 1),(aj 45 (.call (.c (.fn 11 [])) [(.c (.str [104,101,114,101,46,101,120,97,109,112,108,101])),(.t 42),(.t 43),(.t 44),(.c (.int .i64 5))])),(au 41 45),(aj 46 (.ext (.t 41) 0)),(aj 47 (.ext (.t 41) 1)),(aP 6 46),(aP 7 47)]) (.seq (.rg [(aj 49 (.ld (.t 2) (some 6))),(au 50 1),(aj 51 (.call (.c (.fn 11 [])) [(.c (.str [104,101,114,101,46,101,120,97,109,112,108,101])),(.t 49),(.c (.sl .ex 1 [])),(.t 50),(.c (.int .i64 5))])),(au 48 51),(aj 52 (.ext (.t 48) 0)),(aj 53 (.ext (.t 48) 1)),(aP 8 52),(aP 9 53)]) (.seq (.rg [(aj 55 (.ld (.t 2) (some 6))),(aj 56 (.bO (.t 2) 5)),(aj 57 (.ld (.t 56) none)),(aj 58 (.len (.t 57))),(aj 59 (.fS 1 [(.c (.int .i64 0)),(.t 58)])),(au 60 1),(aj 61 (.call (.c (.fn 11 [])) [(.c (.str [104,101,114,101,46,101,120,97,109,112,108,101])),(.t 55),(.t 59),(.t 60),(.c (.int .i64 5))])),(au 54 61),(aj 62 (.ext (.t 54) 0)),(aj 63 (.ext (.t 54) 1)),(aP 10 62),(aP 11 63)]) (.seq (.rg [(aj 65 (.ld (.t 2) (some 6))),(aj 66 (.fS 1 [(.c (.int .i64 (-1)))])),(au 67 1),(aj 68 (.call (.c (.fn 11 [])) [(.c (.str [104,101,114,101,46,101,120,97,109,112,108,101])),(.t 65),(.t 66),(.t 67),(.c (.int .i64 5))])),(au 64 68),(aj 69 (.ext (.t 64) 0)),(aj 70 (.ext (.t 64) 1)),(aP 12 69),(aP 13 70)]) (.seq (.sem (erase lQ)) .ret)))))))))))
theorem xN:bu Tryz.prog 5 103 [(.tmp 4)] (erase xM):=⟨Tryz.f5,_,rfl,by decide,rfl,by kernel_rfl,rfl,rfl⟩
abbrev jO:List Nat:=[0,1,2,4,5,6,7,8,9,10,11,12,13,15,35]
def gm (F:Nat) (e1:aL) (lR:List UInt8):Option (Bool):=
 (qi F e1).bind fun r5=>
 (if (!r5) then
  some true
 else
  (ql F e1).bind fun r6=>
  (if (!r6) then
   some true
  else
   (tJ F e1).bind fun r7=>
   (if (decide (r7.aQ.ax=([]:List UInt8))) then
    some true
   else
    some (decide (4096<(lR.length:Int))))))
def jf (eM:Bool) (gK:Bool) (FQ:Bool) (F0:Bool) (gH:List UInt8) (gj:List UInt8) (kB:List UInt8) (r16:List UInt8) (e1:aL):Option (Bool):=
 (if (!eM) then
  (if (!gK) then
   (if (!FQ) then
    (if (!F0) then
     (if (decide ((IntKind.wrap .i64 ((IntKind.wrap .i64 ((IntKind.wrap .i64 ((gH.length:Int)+(gj.length:Int)))+(kB.length:Int)))+(r16.length:Int)))=0)) then
      (iV (aL.mk (aD.mk ([]:List UInt8) ([]:List UInt8)) e1.born e1.size e1.sum e1.bh)).bind fun Ec=>some Ec
     else
      some false)
    else
     some false)
   else
    some false)
  else
   some false)
 else
  some false)
def gp (F:Nat) (e1:aL) (lR:List UInt8):Option (Bool):=
 (lD F).bind fun r3=>
 (if (!r3) then
  some false
 else
  (gm F e1 lR).bind fun t9=>
  (if t9 then
   some true
  else
   (cq F ([104,101,114,101,46,101,120,97,109,112,108,101]:List UInt8) (aL.mk (aD.mk ([]:List UInt8) ([]:List UInt8)) e1.born e1.size e1.sum e1.bh) ([0]:List Int) lR 5).bind fun (gH,eM)=>
   (cq F ([104,101,114,101,46,101,120,97,109,112,108,101]:List UInt8) e1 ([]:List Int) lR 5).bind fun (gj,gK)=>
   (cq F ([104,101,114,101,46,101,120,97,109,112,108,101]:List UInt8) e1 ([0,(e1.bh.length:Int)]:List Int) lR 5).bind fun (kB,FQ)=>
   (cq F ([104,101,114,101,46,101,120,97,109,112,108,101]:List UInt8) e1 ([(-1)]:List Int) lR 5).bind fun (r16,F0)=>
   (jf eM gK FQ F0 gH gj kB r16 e1).bind fun t21=>
   some t21))
theorem tK {F:Nat} {e1:aL} {lR:List UInt8} {q4:Nat} {H0 H:AH} (hfr:Fr H0 H0.length [] H) (ai:H[q4]? =some [(.str e1.aQ.ax),(.str e1.aQ.domain),(.int .i64 e1.born),(.int .i64 e1.size),(.int .u32 e1.sum),(.sl .n 7 (ml aR e1.bh))]) (hi0:H0.length≤q4) {K:Exit→Env→AH→Prop} {t8:Bool}
 (h:gm F e1 lR=some t8)
 (kn:∀H':AH,Fr H0 H0.length [] H'→H'[q4]? =some [(.str e1.aQ.ax),(.str e1.aQ.domain),(.int .i64 e1.born),(.int .i64 e1.size),(.int .u32 e1.sum),(.sl .n 7 (ml aR e1.bh))]→K .normal [(1,(.sl .n 1 (ml b8 lR))),(2,(.ptr q4 0)),(35,(.bool t8))] H'):
 AX Tryz.prog jO 103 H0.length (erase lP) K [(1,(.sl .n 1 (ml b8 lR))),(2,(.ptr q4 0))] H:=by
 refine cU fun K' hK=> ?_
 have hle:=hfr.le
 have bf:=aY ai
 rw [gm.eq_1] at h
 refine aF ai ?_
 obtain ⟨r5,bp,h⟩:=ak h
 refine aX aq (F3 bp) ?_
 refine aF ai ?_
 refine b6 h (fun bn h=> ?_) fun bn h=> ?_
 · refine aF (aH bn ai) ?_
   obtain rfl:=aE h
   exact hK _ _ _ _ _ aN aq (kn _ hfr (ai.trans rfl))
 · refine aF (aH bn ai) ?_
   obtain ⟨r6,bG,h⟩:=ak h
   refine aX aq (F6 bG) ?_
   refine aF ai ?_
   refine b6 h (fun bY h=> ?_) fun bY h=> ?_
   · refine aF (aH bY ai) ?_
     obtain rfl:=aE h
     exact hK _ _ _ _ _ aN aq (kn _ hfr (ai.trans rfl))
   · refine aF (aH bY ai) ?_
     obtain ⟨r7,cK,h⟩:=ak h
     refine aX aq (I0 cK) ?_
     refine aF ai ?_
     refine b6 h (fun cE h=> ?_) fun cE h=> ?_
     · refine aF (aH cE ai) ?_
       obtain rfl:=aE h
       exact hK _ _ _ _ _ aN aq (kn _ hfr (ai.trans rfl))
     · refine aF (aH cE ai) ?_
       obtain rfl:=aE h
       exact hK _ _ _ _ _ aN aq (kn _ hfr (ai.trans rfl))
theorem tL {eM:Bool} {gK:Bool} {FQ:Bool} {F0:Bool} {gH:List UInt8} {gj:List UInt8} {kB:List UInt8} {r16:List UInt8} {e1:aL} {NS:Nat} {H0 H:AH} (hfr:Fr H0 H0.length [] H) (aI:H[NS]? =some [(.str ([]:List UInt8)),(.str ([]:List UInt8)),(.int .i64 e1.born),(.int .i64 e1.size),(.int .u32 e1.sum),(.sl .n 7 (ml aR e1.bh))]) (hi0:H0.length≤NS) {K:Exit→Env→AH→Prop} {t20:Bool}
 (h:jf eM gK FQ F0 gH gj kB r16 e1=some t20)
 (kn:∀H':AH,Fr H0 H0.length [] H'→H'[NS]? =some [(.str ([]:List UInt8)),(.str ([]:List UInt8)),(.int .i64 e1.born),(.int .i64 e1.size),(.int .u32 e1.sum),(.sl .n 7 (ml aR e1.bh))]→K .normal [(4,(.bool t20))] H'):
 AX Tryz.prog jO 103 H0.length (erase lQ) K [(5,(.ptr NS 0)),(6,(.sl .n 1 (ml b8 gH))),(7,(.bool eM)),(8,(.sl .n 1 (ml b8 gj))),(9,(.bool gK)),(10,(.sl .n 1 (ml b8 kB))),(11,(.bool FQ)),(12,(.sl .n 1 (ml b8 r16))),(13,(.bool F0))] H:=by
 refine cU fun K' hK=> ?_
 have hle:=hfr.le
 have kD:=aY aI
 rw [jf.eq_1] at h
 refine aF aI ?_
 refine b6 h (fun jb h=> ?_) fun jb h=> ?_
 · refine aF (aH jb aI) ?_
   refine b6 h (fun iR h=> ?_) fun iR h=> ?_
   · refine aF (aH iR aI) ?_
     refine b6 h (fun mS h=> ?_) fun mS h=> ?_
     · refine aF (aH mS aI) ?_
       refine b6 h (fun l9 h=> ?_) fun l9 h=> ?_
       · refine aF (aH l9 aI) ?_
         refine b6 h (fun kZ h=> ?_) fun kZ h=> ?_
         · refine aF (aH kZ aI) ?_
           obtain ⟨Ec,sX,h⟩:=ak h
           refine aX aq (rP sX) ?_
           refine aF aI ?_
           obtain rfl:=aE h
           exact hK _ _ _ _ _ aN aq (kn _ hfr (aI.trans rfl))
         · refine aF (aH kZ aI) ?_
           obtain rfl:=aE h
           exact hK _ _ _ _ _ aN aq (kn _ hfr (aI.trans rfl))
       · refine aF (aH l9 aI) ?_
         obtain rfl:=aE h
         exact hK _ _ _ _ _ aN aq (kn _ hfr (aI.trans rfl))
     · refine aF (aH mS aI) ?_
       obtain rfl:=aE h
       exact hK _ _ _ _ _ aN aq (kn _ hfr (aI.trans rfl))
   · refine aF (aH iR aI) ?_
     obtain rfl:=aE h
     exact hK _ _ _ _ _ aN aq (kn _ hfr (aI.trans rfl))
 · refine aF (aH jb aI) ?_
   obtain rfl:=aE h
   exact hK _ _ _ _ _ aN aq (kn _ hfr (aI.trans rfl))
theorem wL {F:Nat} {e1:aL} {lR:List UInt8} {H0:AH} {aJ:Bool} (h:gp F e1 lR=some aJ):
 ay Tryz.prog 5 [(.agg [(.str e1.aQ.ax),(.str e1.aQ.domain),(.int .i64 e1.born),(.int .i64 e1.size),(.int .u32 e1.sum),(.sl .n 7 (ml aR e1.bh))]),(.sl .n 1 (ml b8 lR))] H0 fun v H'=>v=(.bool aJ)∧H'=H0:=by
 refine kO xN jO [] fun hcl K0 aO H hH hfr=> ?_
 clear hH
 have hle:=hfr.le
 rw [gp.eq_1] at h
 refine cj ?_
 obtain ⟨r3,hy1,h⟩:=ak h
 refine aX aq (CX hy1) ?_
 refine cj ?_
 refine b7 h (fun aU h=> ?_) fun aU h=> ?_
 · refine cj ?_
   obtain rfl:=aE h
   exact aO _ _ _ bC (bM (Fr.app hfr) hcl (br bA (.bool false)) bB bt ⟨rfl,rfl⟩)
 · refine cj ?_
   obtain ⟨q4,NR⟩:∃q:Nat,H.length=q:=⟨_,rfl⟩
   try rw [NR]
   obtain ⟨t9,dO,h⟩:=ak h
   refine bS aq (tK (q4:=q4) (Fr.app hfr) vj dD dO ?_)
   intro H hfr ai
   have hle:=hfr.le
   have bf:=aY ai
   refine aF ai ?_
   refine b7 h (fun cT h=> ?_) fun cT h=> ?_
   · refine aF ai ?_
     obtain rfl:=aE h
     exact aO _ _ _ bC (bM hfr hcl (br bA (.bool true)) bB bt ⟨rfl,rfl⟩)
   · refine aF ai ?_
     obtain ⟨⟨gH,eM⟩,cP,h⟩:=ak h
     dsimp only at h
     refine aX aq (fK cP) ?_
     refine aF ai ?_
     obtain ⟨⟨gj,gK⟩,dI,h⟩:=ak h
     dsimp only at h
     refine aX aq (fK dI) ?_
     refine aF ai ?_
     obtain ⟨⟨kB,FQ⟩,dx,h⟩:=ak h
     dsimp only at h
     refine aX aq (fK dx) ?_
     refine aF ai ?_
     obtain ⟨⟨r16,F0⟩,gz,h⟩:=ak h
     dsimp only at h
     refine aX aq (fK gz) ?_
     refine aF ai ?_
     obtain ⟨NS,Yl⟩:∃q:Nat,H.length=q:=⟨_,rfl⟩
     try rw [Yl]
     obtain ⟨t21,mT,h⟩:=ak h
     refine bS aq (tL (NS:=NS) (cM _ (cM _ (cM _ (Fr.app hfr)))) eB dD mT ?_)
     intro H hfr aI
     have hle:=hfr.le
     have kD:=aY aI
     refine aF aI ?_
     obtain rfl:=aE h
     exact aO _ _ _ bC (bM hfr hcl (br bA (.bool t21)) bB bt ⟨rfl,rfl⟩)
end Go.Proofs.cD
end
section
namespace Go.Am
open Go
theorem wr {n:Int} (h1: -9223372036854775808≤n) (h2:n≤9223372036854775807):IntKind.wrap .i64 n=n:=by
 simp only [IntKind.wrap,IntKind.bits,IntKind.signed,Bool.true_and,decide_eq_true_eq,Int.reducePow,Nat.reduceSub,ge_iff_le]
 split<;>omega
theorem EU {α:Type} (l:List α) (n:Nat):idx l (n:Int)=l[n]? :=by simp [idx]
theorem bX {α:Type} {l:List α} {n:Nat} {x:α} (h:l[n]? =some x):idx l (n:Int)=some x:=by rw [EU,h]
theorem Ym {α:Type} {l:List α} {n:Nat} (h:n<l.length):idx l (n:Int)=some l[n]:=by rw [EU,List.getElem?_eq_getElem h]
theorem adQ {α:Type} {l:List α} {i:Int} (h0:0≤i) (h1:i<l.length):∃x,idx l i=some x∧l[i.toNat]? =some x:=by
 obtain ⟨n,rfl⟩:=Int.eq_ofNat_of_zero_le h0
 have hn:n<l.length:=by omega
 exact ⟨l[n],Ym hn,by simp [List.getElem?_eq_getElem hn]⟩
theorem rG {α:Type} {l:List α} {i j:Nat} (h:i≤j) (h2:j≤l.length):sub l (i:Int) (j:Int)=some ((l.take j).drop i):=by
 unfold sub;rw [if_pos (by omega)];simp
theorem AF {α:Type} {l:List α} {i:Nat} (h:i≤l.length):sub l (i:Int) (l.length:Int)=some (l.drop i):=by
 rw [rG h (Nat.le_refl _),List.take_length]
theorem adR {α:Type} {l:List α} {j:Nat} (h:j≤l.length):sub l 0 (j:Int)=some (l.take j):=by
 have:=rG (l:=l) (i:=0) (Nat.zero_le j) h
 simpa using this
theorem adn {α:Type} {l:List α} {i:Int} (h0:0≤i) (h:i≤l.length):sub l i (l.length:Int)=some (l.drop i.toNat):=by
 obtain ⟨n,rfl⟩:=Int.eq_ofNat_of_zero_le h0
 rw [AF (by omega)];simp
theorem sub_one {α:Type} {l:List α} {c:α} {r:List α} (h:l=c::r):sub l 1 (l.length:Int)=some r:=by
 have:=AF (l:=l) (i:=1) (by rw [h];simp)
 rw [h] at this ⊢;simpa using this
theorem fB {α:Type} {b:Nat} {xs ys:List α} (h:xs.length+ys.length≤1000000000) (hb:b≤1000):cF b xs ys=some (xs++ys):=by
 unfold cF
 rw [if_pos]
 refine ⟨?_,by omega⟩
 calc (xs.length+ys.length)*b≤1000000000*1000:=Nat.mul_le_mul h hb
  _≤_:=by omega
theorem cZ {l m:List UInt8} (h:l.length+m.length≤1000000000):cat l m=some (l++m):=by
 unfold cat;rw [if_pos (by omega)]
theorem cC {ρ τ σ:Type} {body:σ→Option (St ρ τ σ)} {F:Nat} {s s':σ} (h:body s=some (.dz s')):iter body (F+1) s=iter body F s':=by simp only [iter,h]
theorem dh {ρ τ σ:Type} {body:σ→Option (St ρ τ σ)} {F:Nat} {s:σ} {t:τ} (h:body s=some (.eZ t)):iter body (F+1) s=some (.inr t):=by simp only [iter,h]
theorem e6 {ρ τ σ:Type} {body:σ→Option (St ρ τ σ)} {F:Nat} {s:σ} {r:ρ} (h:body s=some (.ret r)):iter body (F+1) s=some (.inl r):=by simp only [iter,h]
theorem abw {ρ τ σ:Type} {body:σ→Option (St ρ τ σ)} (I:σ→Prop) (m:σ→Nat) (post:ρ⊕τ→Prop)
 (step:∀s,I s→(∃r,body s=some (.ret r)∧post (.inl r))∨(∃t,body s=some (.eZ t)∧post (.inr t))∨∃s',body s=some (.dz s')∧I s'∧m s'<m s):
 ∀(F:Nat) (s:σ),I s→m s<F→∃o,iter body F s=some o∧post o:=by
 intro F
 induction F with
 |zero=>intro s _ h;omega
 |succ F ih=>
  intro s hI hm
  rcases step s hI with ⟨r,h,hp⟩|⟨t,h,hp⟩|⟨s',h,hI',hlt⟩
  · exact ⟨_,e6 h,hp⟩
  · exact ⟨_,dh h,hp⟩
  · obtain ⟨o,ho,hp⟩:=ih s' hI' (by omega)
    exact ⟨o,by rw [cC h];exact ho,hp⟩
theorem drop_cons {α:Type} {l r:List α} {i:Nat} {c:α} (h:l.drop i=c::r):i<l.length∧l[i]? =some c∧l.drop (i+1)=r:=by
 have hlt:i<l.length:=by
  rcases Nat.lt_or_ge i l.length with h1|h1
  · exact h1
  · rw [List.drop_eq_nil_of_le h1] at h;cases h
 rw [List.drop_eq_getElem_cons hlt] at h
 injection h with h1 h2
 exact ⟨hlt,by rw [List.getElem?_eq_getElem hlt,h1],h2⟩
theorem Yn {α:Type} {l:List α} {i:Nat} (h:l.drop i=[]):l.length≤i:=List.drop_eq_nil_iff.1 h
theorem dP {n F:Nat} (h:n<F):∃G,F=G+1:=⟨F - 1,by omega⟩
end Go.Am
end
section
set_option maxRecDepth 100000
namespace Go.Proofs.cD
open Go Go.Am Go.Proofs
theorem ko {p:UInt8→Bool} (h:(List.range 256).all (fun n=>p (UInt8.ofNat n))=true) (c:UInt8):p c=true:=by
 have:=List.all_eq_true.1 h c.toNat (by simpa using c.toNat_lt)
 simpa using this
theorem scan {α ρ τ σ:Type} {s:List α} {body:σ→Option (St ρ τ σ)} {mk:Nat→σ} {p:α→Bool} {rr:Nat→ρ} {tt:τ}
 (h1:∀i x,s[i]? =some x→p x=true→body (mk i)=some (.dz (mk (i+1)))) (h2:∀i x,s[i]? =some x→p x=false→body (mk i)=some (.ret (rr i)))
 (h3:body (mk s.length)=some (.eZ tt)) {F:Nat} (hF:s.length<F):
 (s.all p=true→iter body F (mk 0)=some (.inr tt))∧(s.all p=false→∃j,iter body F (mk 0)=some (.inl (rr j))):=by
 suffices h:∀(r:List α) (i F:Nat),s.drop i=r→i+r.length=s.length→r.length<F→
  (r.all p=true→iter body F (mk i)=some (.inr tt))∧(r.all p=false→∃j,iter body F (mk i)=some (.inl (rr j))) from h s 0 F rfl (by simp) hF
 intro r
 induction r with
 |nil=>
  intro i F hd hl hF
  obtain ⟨G,rfl⟩:=dP hF
  have:i=s.length:=by simpa using hl
  subst this
  exact ⟨fun _=>dh h3,fun h=>by simp at h⟩
 |cons x r ih=>
  intro i F hd hl hF
  obtain ⟨G,rfl⟩:=dP hF
  obtain ⟨hi,hx,hr⟩:=drop_cons hd
  simp only [List.length_cons] at hl hF
  cases hp:p x with
  |true=>
   rw [cC (h1 i x hx hp)]
   simp only [List.all_cons,hp,Bool.true_and]
   exact ih (i+1) G hr (by omega) (by omega)
  |false=>
   rw [e6 (h2 i x hx hp)]
   simp only [List.all_cons,hp,Bool.false_and]
   exact ⟨fun h=>by simp at h,fun _=>⟨i,rfl⟩⟩
theorem wi {n:Nat} (h:n≤1000000000):IntKind.wrap .i64 ((n:Int)+1)=((n+1:Nat):Int):=by rw [wr (by omega) (by omega)];simp
def I5 (c:UInt8):Bool:=(decide (65≤c)&&decide (c≤90))||(decide (97≤c)&&decide (c≤122))
def uD (c:UInt8):Bool:=decide (48≤c)&&decide (c≤57)
def B6 (c:UInt8):Bool:=I5 c||uD c||c==45
theorem abx (c:UInt8):gX c=some (I5 c||uD c):=by
 have:=ko (p:=fun c=>decide (gX c=some (I5 c||uD c))) (by kernel_rfl) c
 simpa using this
theorem K5 (c:UInt8):jS c=some (B6 c):=by
 have:=ko (p:=fun c=>decide (jS c=some (B6 c))) (by kernel_rfl) c
 simpa using this
theorem Gv (c:UInt8):iG c=some (I5 c):=by
 have:=ko (p:=fun c=>decide (iG c=some (I5 c))) (by kernel_rfl) c
 simpa using this
theorem EV (c:UInt8):ia c=some (uD c):=by
 have:=ko (p:=fun c=>decide (ia c=some (uD c))) (by kernel_rfl) c
 simpa using this
def aT:List UInt8→List (List UInt8)
 |[]=>[[]]
 |c::r=>if c=46 then []::aT r else match aT r with|[]=>[[c]]|h::t=>(c::h)::t
theorem gw:∀s,aT s≠[]
 |[]=>by simp [aT]
 |c::r=>by
  unfold aT
  split
  · simp
  · split<;>simp
theorem NT (r:List UInt8):Lib.split (46::r) [46]=[]::Lib.split r [46]:=by
 have hi:Lib.index (46::r) [46]=((0:Nat):Int):=by unfold Lib.index;rw [if_pos (by simp [List.isPrefixOf])];rfl
 have hc:=Lib.count_hit (by simp) hi
 unfold Lib.split
 rw [hc,Nat.add_comm]
 simp only [Lib.splitK,hi]
 rfl
theorem K6 {c:UInt8} (hc:c≠46) (r:List UInt8):Lib.split (c::r) [46]=match Lib.split r [46] with|[]=>[[c]]|h::t=>(c::h)::t:=by
 have hp:([46]:List UInt8).isPrefixOf (c::r)=false:=by simp [List.isPrefixOf];exact fun h=>hc h.symm
 have hi:Lib.index (c::r) [46]=if Lib.index r [46]== -1 then -1 else Lib.index r [46]+1:=by
  conv=>lhs;unfold Lib.index
  rw [if_neg (by rw [hp];simp)]
 rcases Lib.index_spec r [46] with ⟨h, -⟩|⟨i,h, -, -, -⟩
 · rw [h] at hi
   unfold Lib.split
   rw [Lib.count_miss h,Lib.count_miss hi]
   rfl
 · have hne:(((i:Nat):Int)== -1)=false:=by rw [beq_eq_false_iff_ne];omega
   rw [h,hne] at hi
   have hi':Lib.index (c::r) [46]=((i+1:Nat):Int):=by rw [hi];simp
   unfold Lib.split
   rw [Lib.count_hit (by simp) h,Lib.count_hit (by simp) hi',Nat.add_comm 1,Nat.add_comm 1]
   have l6:(((i+1:Nat):Int)== -1)=false:=by rw [beq_eq_false_iff_ne];omega
   simp only [Lib.splitK,h,hi',hne,l6,Bool.false_eq_true,if_false,Int.toNat_natCast,Nat.add_zero,List.take_succ_cons,List.length_cons,List.length_nil,Nat.zero_add,List.drop_succ_cons]
theorem B7:∀s:List UInt8,Lib.split s [46]=aT s
 |[]=>by rfl
 |c::r=>by
  by_cases hc:c=46
  · subst hc;rw [NT,B7 r];simp [aT]
  · rw [K6 hc,B7 r];simp only [aT,if_neg hc]
theorem nh (s:List UInt8):∀p∈aT s,p.length≤s.length:=by
 induction s with
 |nil=>simp [aT]
 |cons c r ih=>
  unfold aT
  split
  · intro p hp
    rcases List.mem_cons.1 hp with rfl|hp
    · simp
    · have:=ih p hp;simp;omega
  · cases hs:aT r with
    |nil=>exact absurd hs (gw r)
    |cons h t=>
     simp only
     intro p hp
     rcases List.mem_cons.1 hp with rfl|hp
     · have:=ih h (by rw [hs];simp);simp;omega
     · have:=ih p (by rw [hs];simp [hp]);simp;omega
theorem w6 (s:List UInt8):(aT s).length≤s.length+1:=by
 induction s with
 |nil=>simp [aT]
 |cons c r ih=>
  unfold aT
  split
  · simp;omega
  · cases hs:aT r with
    |nil=>exact absurd hs (gw r)
    |cons h t=>rw [hs] at ih;simp at ih ⊢;omega
theorem K7 {p:List UInt8} (hp:∀c∈p,c≠46) (r:List UInt8):aT (p++46::r)=p::aT r:=by
 induction p with
 |nil=>simp [aT]
 |cons c p ih=>
  simp only [List.cons_append,aT,if_neg (hp c (by simp)),ih fun x hx=>hp x (by simp [hx])]
theorem K8 {p:List UInt8} (hp:∀c∈p,c≠46):aT p=[p]:=by
 induction p with
 |nil=>simp [aT]
 |cons c p ih=>
  simp only [aT,if_neg (hp c (by simp)),ih fun x hx=>hp x (by simp [hx])]
def Vz:List (List UInt8):=(List.range 256).map fun n:Nat=>Lib.itoa (n:Int)
def jg (s:List UInt8):Bool:=Vz.contains s
theorem K9:(List.range 256).all (fun n:Nat=>decide (jm (Lib.itoa (n:Int))=some true))=true:=by kernel_rfl
theorem RU:Vz.all (fun s=>decide (s.length≤3∧s.all uD=true∧s≠[]∧(s.head?=some 48→s.length≤1)))=true:=by kernel_rfl
theorem w7 {s:List UInt8}:jg s=true↔∃n:Nat,n<256∧Lib.itoa (n:Int)=s:=by
 simp [jg,Vz]
theorem uE {s:List UInt8} (h:jg s=true):s.length≤3∧s.all uD=true∧s≠[]∧(s.head?=some 48→s.length≤1):=by
 have:=List.all_eq_true.1 RU s (by simpa [jg] using h)
 exact of_decide_eq_true this
def La (s:List UInt8):Nat:=s.foldl (fun a c=>10*a+(c.toNat - 48)) 0
theorem RV:(List.range 256).all (fun n:Nat=>decide (La (Lib.itoa (n:Int))=n))=true:=by kernel_rfl
def Cp (s:List UInt8):Bool:=decide (La s<256)&&decide (Lib.itoa (La s:Int)=s)
theorem Yo (s:List UInt8):jg s=Cp s:=by
 cases h:jg s with
 |true=>
  obtain ⟨n,hn,rfl⟩:=w7.1 h
  have hv:La (Lib.itoa (n:Int))=n:=of_decide_eq_true (List.all_eq_true.1 RV n (by simpa using hn))
  unfold Cp
  rw [hv]
  simp [hn]
 |false=>
  cases h':Cp s with
  |false=>rfl
  |true=>
   simp only [Cp,Bool.and_eq_true,decide_eq_true_eq] at h'
   rw [w7.2 ⟨La s,h'.1,h'.2⟩] at h;cases h
theorem NU {s:List UInt8} (hs:s.length≤100000):jm s=some (jg s):=by
 cases hn:jg s with
 |true=>
  obtain ⟨n,hlt,rfl⟩:=w7.1 hn
  have:=List.all_eq_true.1 K9 n (by simpa using hlt)
  simpa using this
 |false=>
  unfold jm strconv_Atoi
  rw [if_pos (by omega)]
  rcases A4:Lib.atoiAll s with v|_|_
  · simp only [Option.bind_some,ga,Bool.not_false,if_true,decide_eq_true_eq]
    by_cases h0:0≤v
    · by_cases h1:v≤255
      · rw [if_pos h0,if_pos h1]
        unfold strconv_Itoa
        rw [if_pos (by omega)]
        simp only [Option.bind_some,Option.some.injEq,decide_eq_false_iff_not]
        intro he
        have:jg s=true:=w7.2 ⟨v.toNat,by omega,by rw [←he];congr 1;omega⟩
        rw [hn] at this;cases this
      · rw [if_pos h0,if_neg h1];rfl
    · rw [if_neg h0];rfl
  · simp [ga]
  · simp [ga]
end Go.Proofs.cD
end
section
set_option maxRecDepth 100000
namespace Go.Proofs.cD
open Go Go.Am Go.Proofs
def lS (s:List UInt8):Bool:=s !=[]&&s.head? !=some 45&&s.getLast? !=some 45&&s.all B6
def sE (s:List UInt8):Bool:=decide (1<s.length)&&s.head?==some 91&&s.getLast?==some 93
def inner (s:List UInt8):List UInt8:=(s.drop 1).dropLast
def jx (s:List UInt8):Bool:=if sE s then decide ((aT (inner s)).length=4)&&(aT (inner s)).all jg else (aT s).all lS
def jK (s:List UInt8):Bool:=decide (s.length≤255)&&jx s&&(aT s).all fun p=>decide (p.length≤63)
theorem AG (c:UInt8) (r:List UInt8):∃x,(c::r).getLast?=some x:=by
 cases h:(c::r).getLast? with
 |none=>simp at h
 |some x=>exact ⟨x,rfl⟩
theorem w9 {s:List UInt8} {x:UInt8} (h:s.getLast?=some x) (hl:s.length≤1000000):idx s (IntKind.wrap .i64 ((s.length:Int) - 1))=some x:=by
 have hp:0<s.length:=by cases s with|nil=>simp at h|cons=>simp
 rw [wr (by omega) (by omega),show (s.length:Int) - 1=((s.length - 1:Nat):Int) by omega,EU, ←List.getLast?_eq_getElem?,h]
theorem VA {s:List UInt8} {F:Nat} (hl:s.length≤1000000) (hF:s.length<F):jT F s=some (s.all B6):=by
 unfold jT
 have hh:=scan (s:=s) (body:=eL s) (mk:=fun i=>(false,(i:Int))) (p:=B6) (rr:=fun _=>false) (tt:=()) ?_ ?_ ?_ hF
 · cases ha:s.all B6 with
   |true=>have:=hh.1 ha;rw [show ((0:Nat):Int)=0 from rfl] at this;rw [this];rfl
   |false=>obtain ⟨j,hj⟩:=hh.2 ha;rw [show ((0:Nat):Int)=0 from rfl] at hj;rw [hj];rfl
 · intro i x hx hp
   have hi:=(List.getElem?_eq_some_iff.1 hx).1
   simp only [eL]
   rw [if_pos (by simpa using hi),bX hx,Option.bind_some,K5,Option.bind_some,hp,wi (by omega)];rfl
 · intro i x hx hp
   have hi:=(List.getElem?_eq_some_iff.1 hx).1
   simp only [eL]
   rw [if_pos (by simpa using hi),bX hx,Option.bind_some,K5,Option.bind_some,hp];rfl
 · simp [eL]
theorem VB {s:List UInt8} {F:Nat} (hl:s.length≤1000000) (hF:s.length<F):mP F s=some (lS s):=by
 unfold mP kV lS
 cases s with
 |nil=>simp
 |cons c r=>
  obtain ⟨x,hx⟩:∃x,(c::r).getLast?=some x:=AG c r
  rw [w9 hx hl,VA hl hF,hx]
  have h0:idx (c::r) 0=some c:=by simp [idx]
  rw [h0]
  by_cases h1:c=45
  · simp [h1]
  · by_cases h2:x=45
    · simp [h1,h2]
    · simp [h1,h2]
theorem Gw {x:List UInt8} (hx:x.length≤100000):iW x=some (!jg x):=by simp [iW,NU hx]
theorem Gx {F:Nat} {x:List UInt8} (hx:x.length≤100000) (hF:x.length<F):iX F x=some (!lS x):=by simp [iX,VB (by omega:x.length≤1000000) hF]
theorem Lb {l:List (List UInt8)} {F:Nat} (hl:l.length≤1000000) (hF:l.length<F) (hx:∀x∈l,x.length≤100000):ei F l=some (!l.all jg):=by
 unfold ei gA
 have hh:=scan (s:=l) (body:=cO l) (mk:=fun i=>(0,(i:Int))) (p:=jg) (rr:=fun i=>(i:Int)) (tt:=()) ?_ ?_ ?_ hF
 · cases ha:l.all jg with
   |true=>have:=hh.1 ha;rw [show ((0:Nat):Int)=0 from rfl] at this;rw [this];rfl
   |false=>obtain ⟨j,hj⟩:=hh.2 ha;rw [show ((0:Nat):Int)=0 from rfl] at hj;rw [hj];simp
 · intro i x hx' hp
   have hi:=(List.getElem?_eq_some_iff.1 hx').1
   simp only [cO]
   rw [if_pos (by simpa using hi),bX hx',Option.bind_some,Gw (hx x (List.mem_of_getElem? hx')),Option.bind_some,hp,wi (by omega)];rfl
 · intro i x hx' hp
   have hi:=(List.getElem?_eq_some_iff.1 hx').1
   simp only [cO]
   rw [if_pos (by simpa using hi),bX hx',Option.bind_some,Gw (hx x (List.mem_of_getElem? hx')),Option.bind_some,hp];rfl
 · simp [cO]
theorem Lc {l:List (List UInt8)} {F:Nat} (hl:l.length≤1000000) (hF:l.length<F) (hx:∀x∈l,x.length≤100000∧x.length<F):dU F l=some (!l.all lS):=by
 unfold dU gi
 have hh:=scan (s:=l) (body:=cG F l) (mk:=fun i=>(0,(i:Int))) (p:=lS) (rr:=fun i=>(i:Int)) (tt:=()) ?_ ?_ ?_ hF
 · cases ha:l.all lS with
   |true=>have:=hh.1 ha;rw [show ((0:Nat):Int)=0 from rfl] at this;rw [this];rfl
   |false=>obtain ⟨j,hj⟩:=hh.2 ha;rw [show ((0:Nat):Int)=0 from rfl] at hj;rw [hj];simp
 · intro i x hx' hp
   have hi:=(List.getElem?_eq_some_iff.1 hx').1
   obtain ⟨ha,hb⟩:=hx x (List.mem_of_getElem? hx')
   simp only [cG]
   rw [if_pos (by simpa using hi),bX hx',Option.bind_some,Gx ha hb,Option.bind_some,hp,wi (by omega)];rfl
 · intro i x hx' hp
   have hi:=(List.getElem?_eq_some_iff.1 hx').1
   obtain ⟨ha,hb⟩:=hx x (List.mem_of_getElem? hx')
   simp only [cG]
   rw [if_pos (by simpa using hi),bX hx',Option.bind_some,Gx ha hb,Option.bind_some,hp];rfl
 · simp [cG]
theorem Ld {l:List (List UInt8)} {F:Nat} (hl:l.length≤1000000) (hF:l.length<F):dL F l=some (!l.all fun p=>decide (p.length≤63)):=by
 unfold dL fQ
 have hh:=scan (s:=l) (body:=cA l) (mk:=fun i=>(0,(i:Int))) (p:=fun p=>decide (p.length≤63)) (rr:=fun i=>(i:Int)) (tt:=()) ?_ ?_ ?_ hF
 · cases ha:l.all fun p=>decide (p.length≤63) with
   |true=>have:=hh.1 ha;rw [show ((0:Nat):Int)=0 from rfl] at this;rw [this];rfl
   |false=>obtain ⟨j,hj⟩:=hh.2 ha;rw [show ((0:Nat):Int)=0 from rfl] at hj;rw [hj];simp
 · intro i x hx' hp
   have hi:=(List.getElem?_eq_some_iff.1 hx').1
   simp only [cA]
   rw [if_pos (by simpa using hi),bX hx',Option.bind_some,iZ,Option.bind_some,if_neg (by simp at hp ⊢;omega),wi (by omega)]
 · intro i x hx' hp
   have hi:=(List.getElem?_eq_some_iff.1 hx').1
   simp only [cA]
   rw [if_pos (by simpa using hi),bX hx',Option.bind_some,iZ,Option.bind_some,if_pos (by simp at hp ⊢;omega)]
 · simp [cA]
theorem rH {s:List UInt8} (h:s.length≤1000000):strings_Split s [46]=some (aT s):=by
 unfold strings_Split;rw [if_pos (by simp;omega),B7]
theorem EW {s:List UInt8} {F:Nat} (hl:s.length≤99000) (hF:s.length+1<F):jo F s=some (jx s):=by
 have NV:iu s=some (sE s):=by
  unfold iu sE
  by_cases h1:1<s.length
  · cases s with
    |nil=>simp at h1
    |cons c r=>
     obtain ⟨x,hx⟩:∃x,(c::r).getLast?=some x:=AG c r
     rw [if_pos (by simp at h1 ⊢;omega),w9 hx (by omega),hx,show idx (c::r) 0=some c by simp [idx]]
     rw [decide_eq_true h1]
     by_cases h2:c=91
     · simp [h2];rfl
     · simp [h2]
  · rw [if_neg (by simp;omega)];simp [h1]
 unfold jo jx
 rw [NV,Option.bind_some]
 cases hi:sE s with
 |true=>
  have h1:1<s.length:=by simp [sE] at hi;omega
  simp only [if_true]
  rw [wr (by omega) (by omega)]
  have hsub:sub s 1 ((s.length:Int) - 1)=some (inner s):=by
   rw [show (1:Int)=((1:Nat):Int) from rfl,show (s.length:Int) - ((1:Nat):Int)=((s.length - 1:Nat):Int) by omega,rG (by omega) (by omega)]
   congr 1
   unfold inner
   rw [List.dropLast_eq_take,List.length_drop,List.drop_take]
  have hil:(inner s).length+2=s.length:=by simp [inner];omega
  rw [hsub,Option.bind_some,rH (by omega),Option.bind_some]
  unfold j6
  have hn:=w6 (inner s)
  by_cases h4:(aT (inner s)).length=4
  · rw [if_pos (by simpa using by omega),Lb (by omega) (by omega) fun x hx=>by have:=nh _ x hx;omega]
    simp [h4]
  · rw [if_neg (by simpa using by omega)]
    simp [h4]
 |false=>
  have hn:=w6 s
  simp only [Bool.false_eq_true,if_false]
  rw [rH (by omega),Option.bind_some,Lc (by omega) (by omega) fun x hx=>by have:=nh _ x hx;omega]
  simp
theorem VC {s:List UInt8} {F:Nat} (hl:s.length≤99000) (hF:s.length+1<F):gY F s=some (jK s):=by
 unfold gY j8 jK
 by_cases h:s.length≤255
 · rw [if_pos (by simpa using by omega),EW hl hF]
   have hn:=w6 s
   cases jx s with
   |true=>simp only [Option.bind_some,if_true];rw [rH (by omega),Option.bind_some,Ld (by omega) (by omega)];simp [h]
   |false=>simp
 · rw [if_neg (by simpa using by omega)];simp [h]
end Go.Proofs.cD
end
section
set_option maxRecDepth 100000
namespace Go.Proofs.cD
open Go Go.Am Go.Proofs
def Cq:List UInt8:=(List.range 10).map fun n=>UInt8.ofNat (48+n)
theorem aa1 (n:Nat):Cq.all (fun a=>decide (eT (n+10) [a]=some (Cp [a])))=true:=by kernel_rfl
theorem aa2 (n:Nat):Cq.all (fun a=>Cq.all fun b=>decide (eT (n+10) [a,b]=some (Cp [a,b])))=true:=by kernel_rfl
theorem aa3 (n:Nat):Cq.all (fun a=>Cq.all fun b=>Cq.all fun c=>decide (eT (n+10) [a,b,c]=some (Cp [a,b,c])))=true:=by kernel_rfl
theorem oA {c:UInt8} (h:uD c=true):c∈Cq:=by
 have:=ko (p:=fun c=> !uD c||Cq.contains c) (by kernel_rfl) c
 simpa [h] using this
theorem RW {s:List UInt8} {F:Nat} (hF:10≤F) (hl:s.length≤100000):eT F s=some (jg s):=by
 by_cases h3:3<s.length
 · have hn:jg s=false:=by
    cases h:jg s with
    |false=>rfl
    |true=>have:=(uE h).1;omega
   have hne:s≠[]:=by intro h;subst h;simp at h3
   unfold eT fc
   simp only [hne,decide_false,Bool.false_eq_true,if_false]
   rw [if_pos (by simp;omega),hn];rfl
 · by_cases hd:s.all uD=true
   · obtain ⟨G,rfl⟩:∃G,F=G+10:=⟨F - 10,by omega⟩
     rw [List.all_eq_true] at hd
     rw [Yo]
     match s,h3,hd with
     |[],_,_=>rw [show Cp []=false by kernel_rfl];simp [eT,fc]
     |[a],_,hd=>exact of_decide_eq_true (List.all_eq_true.1 (aa1 G) a (oA (hd a (by simp))))
     |[a,b],_,hd=>exact of_decide_eq_true (List.all_eq_true.1 (List.all_eq_true.1 (aa2 G) a (oA (hd a (by simp)))) b (oA (hd b (by simp))))
     |[a,b,c],_,hd=>exact of_decide_eq_true (List.all_eq_true.1 (List.all_eq_true.1 (List.all_eq_true.1 (aa3 G) a (oA (hd a (by simp)))) b (oA (hd b (by simp)))) c (oA (hd c (by simp))))
     |a::b::c::d::r,h3,_=>simp at h3
   · have hn:jg s=false:=by
      cases h:jg s with
      |false=>rfl
      |true=>exact absurd (uE h).2.1 hd
     rw [hn]
     have hp:∃b,fc s=some b:=by
      unfold fc
      cases s with
      |nil=>simp
      |cons c r=>
       rw [show idx (c::r) 0=some c by simp [idx]]
       simp only [Option.bind_some]
       repeat' split
       all_goals exact ⟨_,rfl⟩
     obtain ⟨b,hb⟩:=hp
     unfold eT
     rw [hb,Option.bind_some]
     cases b with
     |true=>rfl
     |false=>
      simp only [Bool.false_eq_true,if_false]
      have aa4:∀(r:List UInt8) (i F:Nat) (n:Int),s.drop i=r→i+r.length=s.length→r.length<F→r.all uD=false→iter (gb s) F (n,(i:Int))=some (.inl false):=by
       intro r
       induction r with
       |nil=>intro i F n _ _ _ h;simp at h
       |cons x r ih=>
        intro i F n hdr hlr hF ha
        obtain ⟨G,rfl⟩:=dP hF
        obtain ⟨hi,hx,hr⟩:=drop_cons hdr
        simp only [List.length_cons] at hlr hF
        have hstep:gb s (n,(i:Int))=if (!uD x)=true then some (.ret false) else some (.dz ((IntKind.wrap .i64 ((IntKind.wrap .i64 (10*n))+(IntKind.wrap .i64 ((x - 48).toNat:Int)))),((i+1:Nat):Int))):=by
         simp only [gb]
         rw [if_pos (by simpa using hi),bX hx,Option.bind_some,EV,Option.bind_some,wi (by omega)]
        cases hx':uD x with
        |false=>rw [hx'] at hstep;exact e6 (by rw [hstep];rfl)
        |true=>
         rw [hx'] at hstep
         rw [cC (by rw [hstep];rfl)]
         exact ih (i+1) G _ hr (by omega) (by omega) (by simpa [hx'] using ha)
      rw [show (0,(0:Int))=((0:Int),((0:Nat):Int)) from rfl,aa4 s 0 F 0 rfl (by simp) (by omega) (by simpa using hd)]
      rfl
def Gy (s:List UInt8):Bool:=lS s&&decide (s.length≤63)
theorem VD {s:List UInt8} {F:Nat} (hl:s.length≤100000) (hF:s.length<F):lF F s=some (Gy s):=by
 unfold lF kf Gy lS
 cases s with
 |nil=>simp
 |cons c r=>
  obtain ⟨x,hx⟩:=AG c r
  rw [w9 hx (by omega),hx,show idx (c::r) 0=some c by simp [idx]]
  by_cases h0:63<(c::r).length
  · rw [if_neg (by simp),if_pos (by simp at h0 ⊢;omega)]
    have:decide ((c::r).length≤63)=false:=by simp at h0 ⊢;omega
    rw [this];simp
  · have h0':decide ((c::r).length≤63)=true:=by simp at h0 ⊢;omega
    rw [if_neg (by simp),if_neg (by simp at h0 ⊢;omega),h0']
    by_cases h1:c=45
    · simp [h1]
    · by_cases h2:x=45
      · simp [h1,h2]
      · have hh:=scan (s:=c::r) (body:=fe (c::r)) (mk:=fun i=>(i:Int)) (p:=B6) (rr:=fun _=>false) (tt:=()) ?_ ?_ ?_ hF
        · simp only [Option.bind_some,h1,h2,decide_false,Bool.false_eq_true,if_false]
          cases ha:(c::r).all B6 with
          |true=>have:=hh.1 ha;rw [show ((0:Nat):Int)=0 from rfl] at this;rw [this];simp [h1,h2]
          |false=>obtain ⟨j,hj⟩:=hh.2 ha;rw [show ((0:Nat):Int)=0 from rfl] at hj;rw [hj];simp [h1,h2]
        · intro i y hy hp
          have hi:=(List.getElem?_eq_some_iff.1 hy).1
          simp only [fe,iA]
          rw [if_pos (by simp at hi ⊢;omega),bX hy,Option.bind_some,Gv,Option.bind_some,EV,Option.bind_some,wi (by omega)]
          simp only [B6] at hp
          cases h1:I5 y<;>cases h2:uD y<;>simp [h1,h2] at hp ⊢
          exact hp
        · intro i y hy hp
          have hi:=(List.getElem?_eq_some_iff.1 hy).1
          simp only [fe,iA]
          rw [if_pos (by simp at hi ⊢;omega),bX hy,Option.bind_some,Gv,Option.bind_some,EV,Option.bind_some]
          simp only [B6] at hp
          cases h1:I5 y<;>cases h2:uD y<;>simp [h1,h2] at hp ⊢
          exact hp
        · simp [fe]
end Go.Proofs.cD
end
section
set_option maxRecDepth 100000
namespace Go.Proofs.cD
open Go Go.Am Go.Proofs
def I6 (num:Bool) (s:List UInt8):Bool:=if num then jg s else Gy s
theorem VE {F:Nat} {x:UInt8} {s:List UInt8} {a i:Nat} (h:a≤i) (hi:i≤s.length) (hl:s.length≤99000) (hF:s.length+10<F):
 gJ F x s (a:Int) (i:Int)=some (!I6 (x==91) ((s.take i).drop a)):=by
 have hlen:((s.take i).drop a).length≤s.length:=by simp;omega
 unfold gJ I6
 rw [rG h hi]
 by_cases hx:x=91
 · rw [if_pos (by simpa using hx)]
   simp only [Option.bind_some]
   rw [RW (by omega) (by omega)]
   simp only [Option.bind_some,hx,beq_self_eq_true,if_true]
   cases jg ((s.take i).drop a)<;>rfl
 · rw [if_neg (by simpa using hx)]
   simp only [Option.bind_some]
   rw [VD (by omega) (by omega)]
   have:(x==91)=false:=by simpa using hx
   simp [this]
theorem Gz {F:Nat} {x:UInt8} {s:List UInt8} (hl:s.length≤99000) (RX:s.length+10<F):∀(r cur:List UInt8) (a k i G:Nat),(∀c∈cur,c≠46)→s.drop a=cur++r→a+cur.length=i→i+r.length=s.length→r.length+1<G→k≤i→
 iter (cu F s x) G ((a:Int),(k:Int),(i:Int))=some (if (aT (cur++r)).all (I6 (x==91)) then .inr ((k+(aT (cur++r)).length:Nat):Int) else .inl false):=by
 have xg:∀(cur r:List UInt8) (a i:Nat),s.drop a=cur++r→a+cur.length=i→(s.take i).drop a=cur:=by
  intro cur r a i h hi
  rw [List.drop_take,h, ←hi,Nat.add_sub_cancel_left,List.take_left' rfl]
 intro r
 induction r with
 |nil=>
  intro cur a k i G hc hd ha hi hG hk
  obtain ⟨G,rfl⟩:=dP (show 0<G by omega)
  obtain ⟨G,rfl⟩:=dP (show 0<G by simp at hG;omega)
  have hie:i=s.length:=by simpa using hi
  have hstep:cu F s x ((a:Int),(k:Int),(i:Int))=if (!I6 (x==91) cur)=true then some (.ret false) else some (.dz (((i+1:Nat):Int),((k+1:Nat):Int),((i+1:Nat):Int))):=by
   simp only [cu]
   rw [if_pos (by simp;omega)]
   have:eO (i:Int) s=some false:=by unfold eO;rw [if_neg (by simp;omega)]
   rw [this,Option.bind_some]
   simp only [Bool.false_eq_true,if_false]
   rw [VE (by omega) (by omega) hl RX,Option.bind_some,xg cur [] a i hd ha,wi (by omega),wi (by omega)]
  rw [List.append_nil,K8 hc]
  cases hx:I6 (x==91) cur with
  |false=>rw [hx] at hstep;rw [e6 (by rw [hstep];rfl)];simp [hx]
  |true=>
   rw [hx] at hstep
   rw [cC (by rw [hstep];rfl)]
   have:cu F s x (((i+1:Nat):Int),((k+1:Nat):Int),((i+1:Nat):Int))=some (.eZ ((k+1:Nat):Int)):=by
    simp only [cu]
    rw [if_neg (by simp;omega)]
   rw [dh this]
   simp [hx]
 |cons c r ih=>
  intro cur a k i G hc hd ha hi hG hk
  obtain ⟨G,rfl⟩:=dP (show 0<G by omega)
  simp only [List.length_cons] at hi hG
  have hci:s[i]? =some c:=by
   have:(s.drop a)[cur.length]? =some c:=by rw [hd];simp
   rw [List.getElem?_drop,ha] at this;exact this
  have hp4:eO (i:Int) s=some (!decide (c=46)):=by unfold eO;rw [if_pos (by simp;omega),bX hci];rfl
  by_cases VF:c=46
  · subst VF
    have hstep:cu F s x ((a:Int),(k:Int),(i:Int))=if (!I6 (x==91) cur)=true then some (.ret false) else some (.dz (((i+1:Nat):Int),((k+1:Nat):Int),((i+1:Nat):Int))):=by
     simp only [cu]
     rw [if_pos (by simp;omega),hp4,Option.bind_some]
     simp only [decide_true,Bool.not_true,Bool.false_eq_true,if_false]
     rw [VE (by omega) (by omega) hl RX,Option.bind_some,xg cur _ a i hd ha,wi (by omega),wi (by omega)]
    rw [K7 hc]
    cases hx:I6 (x==91) cur with
    |false=>rw [hx] at hstep;rw [e6 (by rw [hstep];rfl)];simp [hx]
    |true=>
     rw [hx] at hstep
     rw [cC (by rw [hstep];rfl)]
     have hd':s.drop (i+1)=r:=by
      have:(s.drop a).drop (cur.length+1)=r:=by rw [hd,List.drop_append];simp
      rw [List.drop_drop] at this
      rw [←this];congr 1;omega
     have:=ih [] (i+1) (k+1) (i+1) G (by simp) (by simpa using hd') (by simp) (by omega) (by omega) (by omega)
     rw [List.nil_append] at this
     rw [this]
     simp only [List.all_cons,hx,Bool.true_and,List.length_cons]
     congr 3
     omega
  · have hstep:cu F s x ((a:Int),(k:Int),(i:Int))=some (.dz ((a:Int),(k:Int),((i+1:Nat):Int))):=by
     simp only [cu]
     rw [if_pos (by simp;omega),hp4,Option.bind_some]
     simp only [VF,decide_false,Bool.not_false,if_true]
     rw [wi (by omega)]
    rw [cC hstep]
    have:=ih (cur++[c]) a k (i+1) G (by intro y hy;rcases List.mem_append.1 hy with h|h;exact hc y h;simp at h;subst h;exact VF) (by rw [hd];simp) (by simp;omega) (by omega) (by omega) (by omega)
    rw [this]
    simp
theorem RY (l:List (List UInt8)):l.all Gy=(l.all lS&&l.all fun p=>decide (p.length≤63)):=by
 induction l with
 |nil=>rfl
 |cons a l ih=>simp only [List.all_cons,ih,Gy];cases lS a<;>cases decide (a.length≤63)<;>simp
theorem Le (s:List UInt8):((aT s).map List.length).sum+(aT s).length=s.length+1:=by
 induction s with
 |nil=>simp [aT]
 |cons c r ih=>
  unfold aT
  split
  · simp;omega
  · cases h:aT r with
    |nil=>exact absurd h (gw r)
    |cons a t=>rw [h] at ih;simp at ih ⊢;omega
theorem four {l:List (List UInt8)} (h4:l.length=4) (h:∀p∈l,p.length≤3):(l.map List.length).sum≤12:=by
 match l,h4 with
 |[a,b,c,d],_=>
  have ha:=h a (by simp);have hb:=h b (by simp);have hc:=h c (by simp);have hd:=h d (by simp)
  simp;omega
theorem NW (r:List UInt8):(aT (91::r)).all lS=false:=by
 have h1:∀t:List UInt8,lS (91::t)=false:=by
  intro t
  have:B6 91=false:=by decide
  simp [lS,this]
 simp only [aT]
 rw [if_neg (by decide)]
 split
 · simp [h1]
 · simp [h1]
theorem aa5 {s:List UInt8} {F:Nat} (hl:s.length≤99000) (hF:s.length+10<F):fH F s=some (jK s):=by
 cases s with
 |nil=>simp [fH,jK,jx,sE,aT,lS]
 |cons c r=>
  unfold fH
  by_cases OZ:255<(c::r).length
  · rw [if_pos (by simp at OZ ⊢;omega)]
    have:decide ((c::r).length≤255)=false:=by simp at OZ ⊢;omega
    unfold jK;rw [this];rfl
  · have VG:decide ((c::r).length≤255)=true:=by simp at OZ ⊢;omega
    rw [if_neg (by simp at OZ ⊢;omega),show idx (c::r) 0=some c by simp [idx],Option.bind_some]
    obtain ⟨x,hx⟩:=AG c r
    by_cases hc:c=91
    · subst hc
      unfold gI jt
      rw [if_pos (by rfl),w9 hx (by omega),Option.bind_some]
      by_cases hin:sE (91::r)=true
      · have SD:x=93:=by rw [sE,hx] at hin;simpa using (by simp at hin;exact hin.2)
        have h1:1<(91::r).length:=by rw [sE] at hin;simp at hin ⊢;exact hin.1
        subst SD
        rw [if_neg (by simp)]
        have:decide ((((91::r).length:Nat):Int)<2)=false:=by simp at h1 ⊢;omega
        rw [this]
        simp only [Option.bind_some,Bool.false_eq_true,if_false]
        have hsub:sub (91::r) 1 (IntKind.wrap .i64 ((((91::r).length:Nat):Int) - 1))=some (inner (91::r)):=by
         rw [wr (by omega) (by omega),show (1:Int)=((1:Nat):Int) from rfl,show (((91::r).length:Nat):Int) - ((1:Nat):Int)=(((91::r).length - 1:Nat):Int) by omega,rG (by omega) (by omega)]
         congr 1
         unfold inner
         rw [List.dropLast_eq_take,List.length_drop,List.drop_take]
        rw [hsub]
        simp only [Option.bind_some]
        have hil:(inner (91::r)).length≤(91::r).length:=by simp [inner];omega
        have VH:=Gz (F:=F) (x:=91) (s:=inner (91::r)) (by omega) (by omega) (inner (91::r)) [] 0 0 0 F (by simp) (by simp) (by simp) (by simp) (by omega) (Nat.le_refl _)
        simp only [List.nil_append,Int.natCast_zero,Nat.zero_add] at VH
        rw [show ((0:Int),(0:Int),(0:Int))=(((0:Nat):Int),((0:Nat):Int),((0:Nat):Int)) from rfl]
        rw [show (((0:Nat):Int),((0:Nat):Int),((0:Nat):Int))=((0:Int),(0:Int),(0:Int)) from rfl,VH]
        have VI:(aT (inner (91::r))).all (I6 ((91:UInt8)==91))=(aT (inner (91::r))).all jg:=by congr 1
        rw [VI]
        unfold jK jx
        rw [VG,hin]
        simp only [if_true,Bool.true_and]
        cases hall:(aT (inner (91::r))).all jg with
        |false=>simp
        |true=>
         by_cases h4:(aT (inner (91::r))).length=4
         · have hsum:=four h4 fun p hp=>(uE (List.all_eq_true.1 hall p hp)).1
           have htot:=Le (inner (91::r))
           have hlen:(91::r).length=(inner (91::r)).length+2:=by simp [inner];simp at h1;omega
           have:(aT (91::r)).all (fun p=>decide (p.length≤63))=true:=by
            rw [List.all_eq_true]
            intro p hp
            have:=nh _ p hp
            simp only [decide_eq_true_eq]
            omega
           rw [this]
           simp [h4]
         · simp [h4];omega
      · have ado:sE (91::r)=false:=by simpa using hin
        have hdf:jK (91::r)=false:=by unfold jK jx;rw [ado];simp only [Bool.false_eq_true,if_false,NW];simp
        rw [hdf]
        by_cases Y0:x=93
        · subst Y0
          have h1:¬1<(91::r).length:=by intro h;rw [sE,hx,decide_eq_true h] at hin;simp at hin
          rw [if_neg (by simp),decide_eq_true (by omega)]
          rfl
        · rw [if_pos (by simpa using Y0)];rfl
    · unfold gI
      rw [if_neg (by simpa using hc)]
      simp only [Option.bind_some]
      have VH:=Gz (F:=F) (x:=c) (s:=c::r) hl hF (c::r) [] 0 0 0 F (by simp) (by simp) (by simp) (by simp) (by omega) (Nat.le_refl _)
      simp only [List.nil_append,Int.natCast_zero,Nat.zero_add] at VH
      rw [VH]
      have NA:(c==91)=false:=by simpa using hc
      have VI:(aT (c::r)).all (I6 (c==91))=(aT (c::r)).all Gy:=by rw [NA];congr 1
      rw [VI,RY]
      have hin:sE (c::r)=false:=by unfold sE;simp [hc]
      unfold jK jx
      rw [VG,hin]
      simp only [Bool.false_eq_true,if_false,Bool.true_and]
      cases (aT (c::r)).all lS<;>cases (aT (c::r)).all (fun p=>decide (p.length≤63))<;>simp [hc]
end Go.Proofs.cD
end
section
set_option maxRecDepth 100000
namespace Go.Proofs.cD
open Go Go.Am Go.Proofs
theorem Y1 (a b:List UInt8):aT (a++46::b)=aT a++aT b:=by
 induction a with
 |nil=>simp [aT]
 |cons c a ih=>
  simp only [List.cons_append,aT,ih]
  by_cases hc:c=46
  · simp [hc]
  · simp only [if_neg hc]
    cases h:aT a with
    |nil=>exact absurd h (gw a)
    |cons x t=>simp
theorem zm (s:List UInt8):∀c∈s,c=46∨∃p∈aT s,c∈p:=by
 induction s with
 |nil=>simp
 |cons a r ih=>
  intro c hc
  simp only [aT]
  rcases List.mem_cons.1 hc with rfl|hc
  · by_cases h:c=46
    · exact .inl h
    · right
      rw [if_neg h]
      cases hs:aT r with
      |nil=>exact absurd hs (gw r)
      |cons x t=>exact ⟨c::x,by simp,by simp⟩
  · rcases ih c hc with h|⟨p,hp,jj⟩
    · exact .inl h
    · right
      by_cases ha:a=46
      · rw [if_pos ha];exact ⟨p,by simp [hp],jj⟩
      · rw [if_neg ha]
        cases hs:aT r with
        |nil=>exact absurd hs (gw r)
        |cons x t=>
         rw [hs] at hp
         rcases List.mem_cons.1 hp with rfl|hp
         · exact ⟨a::p,by simp,by simp [jj]⟩
         · exact ⟨p,by simp [hp],jj⟩
theorem adS {s:List UInt8} (h:s.head?≠some 91):sE s=false:=by
 unfold sE
 have:(s.head?==some 91)=false:=by simpa using h
 rw [this];simp
theorem adp {s:List UInt8} (h:s.getLast?≠some 93):sE s=false:=by
 unfold sE
 have:(s.getLast?==some 93)=false:=by simpa using h
 rw [this];simp
theorem adq {s:List UInt8} (hi:sE s=false) {p:List UInt8} (hp:p∈aT s) (hl:lS p=false):jK s=false:=by
 unfold jK jx
 rw [hi]
 have:(aT s).all lS=false:=by
  rw [List.all_eq_false]
  exact ⟨p,hp,by simp [hl]⟩
 simp [this]
end Go.Proofs.cD
end
section
set_option maxRecDepth 100000
namespace Go.Proofs.cD
open Go Go.Am Go.Proofs
def iP (c:UInt8):Bool:=I5 c||uD c||c==45||c==46||c==91||c==93
def fk (c:UInt8):Bool:=decide (32≤c)&&decide (c≤126)
def eE (c:UInt8):Bool:=I5 c||uD c||([33,35,36,37,38,39,42,43,45,47,61,63,94,95,96,123,124,125,126]:List UInt8).contains c
def mD (c:UInt8):Bool:=c==46||eE c
theorem O0 (c:UInt8):mw c=some (eE c):=by
 have:=ko (p:=fun c=>decide (mw c=some (eE c))) (by kernel_rfl) c
 simpa using this
theorem O1 (c:UInt8):dW c=some (iP c):=by
 have:=ko (p:=fun c=>decide (dW c=some (iP c))) (by kernel_rfl) c
 simpa using this
theorem O2 (c:UInt8):eu c=some (mD c):=by
 have:=ko (p:=fun c=>decide (eu c=some (mD c))) (by kernel_rfl) c
 simpa using this
structure At (s:List UInt8) (n:Nat) (r:List UInt8):Prop where
 le:n≤s.length
 dr:s.drop n=r
 sm:s.length≤90000
def nx:List UInt8→UInt8
 |[]=>0
 |c::_=>c
theorem At.len {s r:List UInt8} {n:Nat} (h:At s n r):n+r.length=s.length:=by
 rw [←h.dr,List.length_drop];have:=h.le;omega
theorem At.next {s r:List UInt8} {n:Nat} {c:UInt8} (h:At s n (c::r)):At s (n+1) r:=by
 obtain ⟨h1,h2,h3⟩:=drop_cons h.dr
 exact ⟨h1,h3,h.sm⟩
theorem lT {s r:List UInt8} {n:Nat} (h:At s n r):bw ⟨s,(n:Int),false⟩=some (nx r):=by
 unfold bw
 cases r with
 |nil=>
  have:=h.len
  rw [if_pos (by simp at this ⊢;omega)];rfl
 |cons c r=>
  obtain ⟨h1,h2,h3⟩:=drop_cons h.dr
  rw [if_neg (by simp;omega),bX h2];rfl
theorem tM {s:List UInt8} {n:Int}:bw ⟨s,n,true⟩=some 0:=by simp [bw]
theorem wM {s r:List UInt8} {n:Nat} {c:UInt8} (h:At s n (c::r)):bJ ⟨s,(n:Int),false⟩ c=some (true,⟨s,((n+1:Nat):Int),false⟩):=by
 have:=h.len;have:=h.sm
 unfold bJ
 rw [lT h,Option.bind_some]
 simp only [nx]
 rw [if_neg (by simp),wi (by omega)]
theorem tN {s r:List UInt8} {n:Nat} {c:UInt8} (h:At s n r) (hc:nx r≠c):bJ ⟨s,(n:Int),false⟩ c=some (false,⟨s,(n:Int),false⟩):=by
 unfold bJ
 rw [lT h,Option.bind_some,if_pos (by simpa using hc)]
theorem uF {s:List UInt8} {n:Int} {c:UInt8} (hc:c≠0):bJ ⟨s,n,true⟩ c=some (false,⟨s,n,true⟩):=by
 unfold bJ
 rw [tM,Option.bind_some,if_pos (by simpa using fun h=>hc h.symm)]
theorem xb {s r:List UInt8} {n:Nat} {c:UInt8} (h:At s n (c::r)):bg ⟨s,(n:Int),false⟩ c=some ⟨s,((n+1:Nat):Int),false⟩:=by
 unfold bg;simp [wM h]
theorem AI {s r:List UInt8} {n:Nat} {c:UInt8} (h:At s n r) (hc:nx r≠c):bg ⟨s,(n:Int),false⟩ c=some ⟨s,(n:Int),true⟩:=by
 unfold bg;simp [tN h hc]
theorem iH {s:List UInt8} {n:Int} {c:UInt8}:bg ⟨s,n,true⟩ c=some ⟨s,n,true⟩:=by
 unfold bg;simp
theorem GA {q:UInt8→Bool} {ρ:Type} {body:(UInt8×aA)→Option (St ρ aA (UInt8×aA))} {s:List UInt8} (h0:q 0=false)
 (hb:∀(c:UInt8) (n:Int) (b:Bool),body (c,⟨s,n,b⟩)=if q c=true then (bw ⟨s,IntKind.wrap .i64 (n+1),b⟩).bind fun r9=>some (.dz (r9,⟨s,IntKind.wrap .i64 (n+1),b⟩)) else some (.eZ ⟨s,n,b⟩)):
 ∀(r:List UInt8) (n F:Nat),At s n r→r.length<F→iter body F (nx r,⟨s,(n:Int),false⟩)=some (.inr ⟨s,((n+(r.takeWhile q).length:Nat):Int),false⟩):=by
 intro r
 induction r with
 |nil=>
  intro n F h hF
  obtain ⟨G,rfl⟩:=dP hF
  rw [dh (t:=⟨s,(n:Int),false⟩) (by rw [hb,if_neg (by simp [nx,h0])])]
  simp
 |cons c r ih=>
  intro n F h hF
  obtain ⟨G,rfl⟩:=dP hF
  have:=h.len;have:=h.sm
  by_cases hq:q c=true
  · have hst:body (nx (c::r),⟨s,(n:Int),false⟩)=some (.dz (nx r,⟨s,((n+1:Nat):Int),false⟩)):=by
     rw [hb,if_pos (by simpa [nx] using hq),wi (by omega),lT h.next];rfl
    rw [cC hst,ih (n+1) G h.next (by simp at hF;omega),List.takeWhile_cons,if_pos hq]
    simp only [List.length_cons]
    congr 4
    omega
  · rw [dh (t:=⟨s,(n:Int),false⟩) (by rw [hb,if_neg (by simpa [nx] using hq)]),List.takeWhile_cons,if_neg hq]
    simp
theorem AJ (q:UInt8→Bool) (r:List UInt8):(r.takeWhile q).length≤r.length:=(List.takeWhile_prefix q).length_le
theorem At.skip {s r:List UInt8} {n:Nat} (h:At s n r) (q:UInt8→Bool):At s (n+(r.takeWhile q).length) (r.dropWhile q):=by
 have h1:(r.takeWhile q).length≤r.length:=AJ _ _
 have h2:=h.len
 refine ⟨by omega, ?_,h.sm⟩
 rw [←List.drop_drop,h.dr]
 conv=>lhs;rw [←List.takeWhile_append_dropWhile (p:=q) (l:=r)]
 rw [List.takeWhile_append_dropWhile]
 conv=>lhs;arg 2;rw [←List.takeWhile_append_dropWhile (p:=q) (l:=r)]
 exact List.drop_left ..
theorem EX {s r:List UInt8} {n:Nat} (h:At s n r) (q:UInt8→Bool):sub s (n:Int) ((n+(r.takeWhile q).length:Nat):Int)=some (r.takeWhile q):=by
 have h1:=(h.skip q).le
 rw [rG (by omega) h1,List.drop_take,h.dr,Nat.add_sub_cancel_left]
 congr 1
 conv=>lhs;arg 2;rw [←List.takeWhile_append_dropWhile (p:=q) (l:=r)]
 exact List.take_left ..
theorem NY {s r:List UInt8} {n F:Nat} (h:At s n r) (hF:s.length+1<F):
 bU F ⟨s,(n:Int),false⟩=some (r.takeWhile iP,⟨s,((n+(r.takeWhile iP).length:Nat):Int), !jx (r.takeWhile iP)⟩):=by
 have h1:=h.len;have h2:=h.sm
 have h3:(r.takeWhile iP).length≤r.length:=AJ _ _
 unfold bU
 rw [lT h,Option.bind_some,GA (q:=iP) (s:=s) (by decide) (fun c n b=>by simp only [dX,O1,Option.bind_some]) r n F h (by omega)]
 simp only [Option.bind_some]
 rw [EX h,Option.bind_some]
 unfold dY
 simp only [Bool.false_eq_true,if_false]
 rw [EW (by omega) (by omega)]
 rfl
theorem ni {s:List UInt8} {n F:Nat} (hn:n≤s.length) (hF:0<F):bU F ⟨s,(n:Int),true⟩=some ([],⟨s,(n:Int),true⟩):=by
 obtain ⟨G,rfl⟩:=dP hF
 unfold bU
 rw [tM,Option.bind_some,dh (t:=⟨s,(n:Int),true⟩) (by simp only [dX,O1,Option.bind_some];rfl)]
 simp only [Option.bind_some]
 rw [rG (Nat.le_refl _) hn,Option.bind_some]
 unfold dY
 simp only [if_true,Option.bind_some]
 congr 2
 simp
def ic (s:List UInt8):Bool:=(aT s).all fun p=>p !=[]&&p.all eE
theorem RZ {s:List UInt8} {F:Nat} (hl:s.length≤1000000) (hF:s.length<F):iw F s=some (s.all eE):=by
 unfold iw
 have hh:=scan (s:=s) (body:=dR s) (mk:=fun i=>(false,(i:Int))) (p:=eE) (rr:=fun _=>false) (tt:=()) ?_ ?_ ?_ hF
 · cases ha:s.all eE with
   |true=>have:=hh.1 ha;rw [show ((0:Nat):Int)=0 from rfl] at this;rw [this];rfl
   |false=>obtain ⟨j,hj⟩:=hh.2 ha;rw [show ((0:Nat):Int)=0 from rfl] at hj;rw [hj];rfl
 · intro i x hx hp
   have hi:=(List.getElem?_eq_some_iff.1 hx).1
   simp only [dR]
   rw [if_pos (by simpa using hi),bX hx,Option.bind_some,O0,Option.bind_some,hp,wi (by omega)];rfl
 · intro i x hx hp
   have hi:=(List.getElem?_eq_some_iff.1 hx).1
   simp only [dR]
   rw [if_pos (by simpa using hi),bX hx,Option.bind_some,O0,Option.bind_some,hp];rfl
 · simp [dR]
theorem Lf {x:List UInt8} {F:Nat} (hl:x.length≤1000000) (hF:x.length<F):jV F x=some (!(x !=[]&&x.all eE)):=by
 unfold jV jq
 by_cases hx:x=[]
 · subst hx;rfl
 · rw [if_neg (by simpa using hx),RZ hl hF]
   simp [hx]
theorem GB {s:List UInt8} {F:Nat} (hl:s.length≤90000) (hF:s.length+1<F):kI F s=some (ic s):=by
 have hn:=w6 s
 unfold kI
 rw [rH (by omega),Option.bind_some]
 unfold eG fC
 have hh:=scan (s:=aT s) (F:=F) (body:=ct F (aT s)) (mk:=fun i=>(0,(i:Int))) (p:=fun p=>p !=[]&&p.all eE) (rr:=fun i=>(i:Int)) (tt:=()) ?_ ?_ ?_ (by omega)
 · unfold ic
   cases ha:(aT s).all fun p=>p !=[]&&p.all eE with
   |true=>have:=hh.1 ha;rw [show ((0:Nat):Int)=0 from rfl] at this;rw [this];rfl
   |false=>obtain ⟨j,hj⟩:=hh.2 ha;rw [show ((0:Nat):Int)=0 from rfl] at hj;rw [hj];simp
 · intro i x hx' hp
   have hi:=(List.getElem?_eq_some_iff.1 hx').1
   have hxl:=nh s x (List.mem_of_getElem? hx')
   simp only [ct]
   rw [if_pos (by simpa using hi),bX hx',Option.bind_some,Lf (by omega) (by omega),Option.bind_some,hp,wi (by omega)];rfl
 · intro i x hx' hp
   have hi:=(List.getElem?_eq_some_iff.1 hx').1
   have hxl:=nh s x (List.mem_of_getElem? hx')
   simp only [ct]
   rw [if_pos (by simpa using hi),bX hx',Option.bind_some,Lf (by omega) (by omega),Option.bind_some,hp];rfl
 · simp [ct]
def qL:List UInt8→Option (List UInt8×List UInt8)
 |[]=>none
 |c::r=>if c=34 then some ([],r)
  else if c=92 then (match r with
   |[]=>none
   |d::r'=>if fk d then (qL r').map fun x=>(d::x.1,x.2) else none)
  else if fk c then (qL r).map fun x=>(c::x.1,x.2) else none
theorem wN (c:UInt8) (r:List UInt8):qL (c::r)=if c=34 then some ([],r)
 else if c=92 then (match r with
  |[]=>none
  |d::r'=>if fk d then (qL r').map fun x=>(d::x.1,x.2) else none)
 else if fk c then (qL r).map fun x=>(c::x.1,x.2) else none:=by
 cases r<;>rfl
theorem I7 (c:UInt8):jU c=some (fk c):=rfl
theorem aeD:fk 0=false:=by decide
theorem aa6 {s r acc:List UInt8} {n:Nat} (h:At s n (34::r)):bK (acc,⟨s,(n:Int),false⟩)=some (.eZ (acc,⟨s,((n+1:Nat):Int),false⟩)):=by
 simp only [bK,de,Bool.not_false,if_true]
 rw [wM h]
 simp
theorem NZ {s r acc:List UInt8} {n:Nat} (h:At s n r) (h1:nx r≠34) (h2:nx r≠92) (ha:acc.length≤90000):bK (acc,⟨s,(n:Int),false⟩)=
 if fk (nx r)=true then some (.dz (acc++[nx r],⟨s,((n+1:Nat):Int),false⟩)) else some (.eZ (acc,⟨s,(n:Int),true⟩)):=by
 have:=h.le;have:=h.sm
 simp only [bK,de,Bool.not_false,if_true]
 rw [tN h h1]
 simp only [Option.bind_some,Bool.not_false,if_true]
 rw [tN h h2]
 simp only [Option.bind_some]
 rw [lT h]
 simp only [Option.bind_some,I7]
 cases fk (nx r) with
 |false=>simp
 |true=>
  simp only [Bool.not_true,Bool.false_eq_true,if_false,if_true]
  rw [fB (by simp;omega) (by omega),Option.bind_some,wi (by omega)]
theorem aa7 {s r acc:List UInt8} {n:Nat} (h:At s n (92::r)) (ha:acc.length≤90000):bK (acc,⟨s,(n:Int),false⟩)=
 if fk (nx r)=true then some (.dz (acc++[nx r],⟨s,((n+2:Nat):Int),false⟩)) else some (.eZ (acc,⟨s,((n+1:Nat):Int),true⟩)):=by
 have:=h.next.le;have:=h.sm
 simp only [bK,de,Bool.not_false,if_true]
 rw [tN h (by simp [nx])]
 simp only [Option.bind_some,Bool.not_false,if_true]
 rw [wM h]
 simp only [Option.bind_some]
 rw [lT h.next]
 simp only [Option.bind_some,I7]
 cases fk (nx r) with
 |false=>simp
 |true=>
  simp only [Bool.not_true,Bool.false_eq_true,if_false,if_true]
  rw [fB (by simp;omega) (by omega),Option.bind_some,wi (by omega)]
theorem I8 {s:List UInt8}:∀(k:Nat) (r acc:List UInt8) (n F:Nat),r.length≤k→At s n r→acc.length≤n→r.length<F→
 match qL r with
 |some (b,rest)=>∃n':Nat,iter bK F (acc,⟨s,(n:Int),false⟩)=some (.inr (acc++b,⟨s,(n':Int),false⟩))∧At s n' rest
 |none=>∃acc',∃n':Nat,iter bK F (acc,⟨s,(n:Int),false⟩)=some (.inr (acc',⟨s,((n':Nat):Int),true⟩))∧n'≤s.length:=by
 intro k
 induction k with
 |zero=>
  intro r acc n F hk h ha hF
  have hr:r=[]:=List.length_eq_zero_iff.1 (by omega)
  subst hr
  obtain ⟨G,rfl⟩:=dP hF
  have:=h.le;have:=h.sm
  refine ⟨acc,n,dh ?_,h.le⟩
  rw [NZ h (by decide) (by decide) (by omega),if_neg (by decide)]
 |succ k ih=>
  intro r acc n F hk h ha hF
  obtain ⟨G,rfl⟩:=dP (show 0<F by omega)
  have h1:=h.le;have h2:=h.sm
  match r,hk,h,hF with
  |[],hk,h,hF=>exact ⟨acc,n,dh (by rw [NZ h (by decide) (by decide) (by omega),if_neg (by decide)]),h.le⟩
  |c::r,hk,h,hF=>
   rw [wN]
   by_cases hc:c=34
   · subst hc
     rw [if_pos rfl]
     exact ⟨n+1,by rw [dh (aa6 h)];simp,h.next⟩
   · rw [if_neg hc]
     by_cases hc2:c=92
     · subst hc2
       rw [if_pos rfl]
       have hst:=aa7 (acc:=acc) h (by omega)
       match r,hk,h,hF,hst with
       |[],hk,h,hF,hst=>exact ⟨acc,n+1,dh (by rw [hst,if_neg (by decide)]),h.next.le⟩
       |d::r',hk,h,hF,hst=>
        cases hv:fk d with
        |false=>simp only [hv,Bool.false_eq_true,if_false];exact ⟨acc,n+1,dh (hst.trans (if_neg (by show ¬fk d=true;rw [hv];decide))),h.next.le⟩
        |true=>
         simp only [if_true]
         have EY:=hst.trans (if_pos (show fk (nx (d::r'))=true from hv))
         have:=ih r' (acc++[d]) (n+2) G (by simp at hk;omega) h.next.next (by simp;omega) (by simp at hF;omega)
         rw [cC EY]
         cases hq:qL r' with
         |none=>rw [hq] at this;simp only [nx,hv,if_true,Option.map_none];exact this
         |some x=>
          obtain ⟨b,rest⟩:=x
          rw [hq] at this
          obtain ⟨n',h3,h4⟩:=this
          simp only [nx,hv,if_true,Option.map_some];exact ⟨n',by rw [h3];simp,h4⟩
     · rw [if_neg hc2]
       have hst:=NZ (acc:=acc) h (by simpa [nx] using hc) (by simpa [nx] using hc2) (by omega)
       cases hv:fk c with
       |false=>simp only [hv,Bool.false_eq_true,if_false];exact ⟨acc,n,dh (hst.trans (if_neg (by show ¬fk c=true;rw [hv];decide))),h.le⟩
       |true=>
        simp only [if_true]
        have EY:=hst.trans (if_pos (show fk (nx (c::r))=true from hv))
        have:=ih r (acc++[c]) (n+1) G (by simp at hk;omega) h.next (by simp;omega) (by simp at hF;omega)
        rw [cC EY]
        cases hq:qL r with
        |none=>rw [hq] at this;simp only [nx,hv,if_true,Option.map_none];exact this
        |some x=>
         obtain ⟨b,rest⟩:=x
         rw [hq] at this
         obtain ⟨n',h3,h4⟩:=this
         simp only [nx,hv,if_true,Option.map_some];exact ⟨n',by rw [h3];simp,h4⟩
def Out (s:List UInt8) (o:Option (List UInt8×aA)):Option (List UInt8×List UInt8)→Prop
 |some (b,rest)=>∃n',o=some (b,⟨s,((n':Nat):Int),false⟩)∧At s n' rest
 |none=>∃b n',o=some (b,⟨s,((n':Nat):Int),true⟩)∧n'≤s.length
def mJ (r:List UInt8):Option (List UInt8×List UInt8):=
 if nx r=34 then (match qL (r.drop 1) with|some (b,rest)=>if b=[] then none else some (b,rest)|none=>none)
 else if ic (r.takeWhile mD) then some (r.takeWhile mD,r.dropWhile mD) else none
def iD (r:List UInt8):Option (List UInt8×List UInt8):=if jx (r.takeWhile iP) then some (r.takeWhile iP,r.dropWhile iP) else none
theorem Cr {s r:List UInt8} {n F:Nat} (h:At s n r) (hF:s.length+1<F):Out s (bU F ⟨s,(n:Int),false⟩) (iD r):=by
 rw [NY h hF]
 unfold iD
 cases hs:jx (r.takeWhile iP) with
 |true=>exact ⟨_,rfl,h.skip _⟩
 |false=>exact ⟨_,_,rfl,(h.skip iP).le⟩
theorem N0 {s r:List UInt8} {n F:Nat} (h:At s n r) (hF:s.length+1<F):Out s (dG F ⟨s,(n:Int),false⟩) (mJ r):=by
 have h1:=h.len;have h2:=h.sm
 unfold dG mJ
 rw [lT h,Option.bind_some]
 by_cases hq:nx r=34
 · rw [if_pos (by simpa using hq),if_pos hq]
   cases r with
   |nil=>simp [nx] at hq
   |cons c r=>
    simp only [nx] at hq
    subst hq
    simp only [List.drop_succ_cons,List.drop_zero]
    unfold gl
    rw [xb h]
    simp only [Option.bind_some]
    have:=I8 (s:=s) r.length r [] (n+1) F (Nat.le_refl _) h.next (by simp) (by simp at h1;omega)
    cases hqr:qL r with
    |none=>
     rw [hqr] at this
     obtain ⟨acc,n',h3,h4⟩:=this
     rw [h3]
     simp only [Option.bind_some,dZ,if_true]
     exact ⟨_,_,rfl,h4⟩
    |some x=>
     obtain ⟨b,rest⟩:=x
     rw [hqr] at this
     obtain ⟨n',h3,h4⟩:=this
     rw [h3]
     simp only [Option.bind_some,dZ,Bool.false_eq_true,if_false,List.nil_append]
     by_cases hb:b=[]
     · subst hb
       exact ⟨_,n',rfl,h4.le⟩
     · rw [if_neg hb]
       refine ⟨n', ?_,h4⟩
       have:decide ((b.length:Int)=0)=false:=by simpa using hb
       rw [this]
 · rw [if_neg (by simpa using hq),if_neg hq,Option.bind_some]
   have h3:=AJ mD r
   rw [GA (q:=mD) (s:=s) (by decide) (fun c n b=>by simp only [ey,O2,Option.bind_some]) r n F h (by omega)]
   simp only [Option.bind_some]
   rw [EX h,Option.bind_some]
   unfold ez
   simp only [Bool.false_eq_true,if_false]
   rw [GB (by omega) (by omega)]
   simp only [Option.bind_some]
   cases hs:ic (r.takeWhile mD) with
   |true=>exact ⟨_,rfl,h.skip _⟩
   |false=>exact ⟨_,_,rfl,(h.skip mD).le⟩
theorem EZ {s:List UInt8} {n F:Nat} (hn:n≤s.length) (hF:0<F):∃b,dG F ⟨s,(n:Int),true⟩=some (b,⟨s,(n:Int),true⟩):=by
 obtain ⟨G,rfl⟩:=dP hF
 unfold dG
 rw [tM,Option.bind_some,if_neg (by decide),Option.bind_some,dh (t:=⟨s,(n:Int),true⟩) (by simp only [ey,O2,Option.bind_some];rfl)]
 simp only [Option.bind_some]
 rw [rG (Nat.le_refl _) hn,Option.bind_some]
 unfold ez
 exact ⟨_,rfl⟩
end Go.Proofs.cD
end
section
set_option maxRecDepth 100000
namespace Go.Proofs.cD
open Go Go.Am Go.Proofs
def GC:Nat→List UInt8→Option (List UInt8)
 |0,_=>none
 |k+1,r=>if nx r=64 then (match iD (r.drop 1) with
   |none=>none
   |some (_,r2)=>if nx r2=44 then GC k (r2.drop 1) else if nx r2=58 then some (r2.drop 1) else none) else none
def rI (r:List UInt8):Option (List UInt8):=if nx r=64 then GC (r.length+1) r else some r
def VJ (s:List UInt8) (o:Option aA):Option (List UInt8)→Prop
 |some rest=>∃n':Nat,o=some ⟨s,(n':Int),false⟩∧At s n' rest
 |none=>∃n':Nat,o=some ⟨s,(n':Int),true⟩∧n'≤s.length
theorem qm {r:List UInt8} {c:UInt8} (h:nx r=c) (hc:c≠0):∃t,r=c::t:=by
 cases r with
 |nil=>exact absurd h.symm hc
 |cons a t=>exact ⟨t,by rw [←h];rfl⟩
theorem R0 {s r:List UInt8} {n:Nat} {c:UInt8} (h:At s n r) (hc:c≠0):VJ s (bg ⟨s,(n:Int),false⟩ c) (if nx r=c then some (r.drop 1) else none):=by
 by_cases hn:nx r=c
 · obtain ⟨t,rfl⟩:=qm hn hc
   rw [if_pos hn]
   exact ⟨n+1,xb h,h.next⟩
 · rw [if_neg hn]
   exact ⟨n,AI h hn,h.le⟩
theorem AK {r b t:List UInt8} (h:iD r=some (b,t)):t.length≤r.length:=by
 unfold iD at h
 split at h
 · injection h with h;injection h with _ h;subst h;exact (List.dropWhile_suffix _).length_le
 · cases h
theorem aa8 {s:List UInt8} {n F:Nat} (hn:n≤s.length) (hF:s.length+1<F):bE F (false,⟨s,(n:Int),true⟩)=some (.ret ⟨s,(n:Int),true⟩):=by
 simp only [bE,cv]
 rw [tM]
 simp only [Option.bind_some]
 rw [if_neg (by decide)]
 simp only [Option.bind_some,Bool.not_false,if_true]
 rw [iH]
 simp only [Option.bind_some]
 rw [ni hn (by omega)]
 simp only [Option.bind_some]
 rw [uF (by decide)]
 simp only [Option.bind_some,Bool.not_false,if_true]
 rw [iH]
 rfl
theorem Lg {s:List UInt8} {FF:Nat} (RX:s.length+1<FF):∀(k:Nat) (first:Bool) (r:List UInt8) (n F:Nat),At s n r→r.length<k→k≤F→(first=true→nx r=64)→
 ∃o:aA⊕aA,iter (bE FF) F (first,⟨s,(n:Int),false⟩)=some o∧VJ s (some (match o with| .inl x=>x| .inr x=>x)) (GC k r):=by
 intro k
 induction k with
 |zero=>intro first r n F h hk;omega
 |succ k ih=>
  intro first r n F h hk hF Yp
  obtain ⟨G,rfl⟩:=dP (show 0<F by omega)
  have NV:cv ⟨s,(n:Int),false⟩ first=some true:=by
   unfold cv
   rw [lT h,Option.bind_some]
   by_cases hx:nx r=64
   · rw [if_pos (by simpa using hx)]
   · rw [if_neg (by simpa using hx)]
     cases first with
     |false=>rfl
     |true=>exact absurd (Yp rfl) hx
  have hb:bE FF (first,⟨s,(n:Int),false⟩)=(bg ⟨s,(n:Int),false⟩ 64).bind fun r8=>(bU FF r8).bind fun x=>(bJ x.2 44).bind fun y=>if (!y.1)=true then (bg y.2 58).bind fun gK=>some (.ret gK) else some (.dz (false,y.2)):=by
   simp only [bE]
   rw [NV]
   rfl
  simp only [GC]
  by_cases hx:nx r=64
  · rw [if_pos hx]
    obtain ⟨t,rfl⟩:=qm hx (by decide)
    simp only [List.drop_succ_cons,List.drop_zero]
    rw [xb h] at hb
    simp only [Option.bind_some] at hb
    have hd:=Cr (F:=FF) h.next RX
    cases R1:iD t with
    |none=>
     rw [R1] at hd
     obtain ⟨b,n',h1,h2⟩:=hd
     rw [h1] at hb
     simp only [Option.bind_some] at hb
     rw [uF (by decide)] at hb
     simp only [Option.bind_some,Bool.not_false,if_true] at hb
     rw [iH] at hb
     exact ⟨_,e6 hb,n',rfl,h2⟩
    |some x=>
     obtain ⟨b,r2⟩:=x
     rw [R1] at hd
     obtain ⟨n',h1,h2⟩:=hd
     rw [h1] at hb
     simp only [Option.bind_some] at hb
     have hlen:=AK R1
     by_cases Yq:nx r2=44
     · obtain ⟨r3,rfl⟩:=qm Yq (by decide)
       simp only [if_pos Yq,List.drop_succ_cons,List.drop_zero]
       rw [wM h2] at hb
       simp only [Option.bind_some,Bool.not_true,Bool.false_eq_true,if_false] at hb
       rw [cC hb]
       simp only [List.length_cons] at hk hlen
       exact ih false r3 (n'+1) G h2.next (by omega) (by omega) (fun h=>by cases h)
     · simp only [if_neg Yq]
       rw [tN h2 Yq] at hb
       simp only [Option.bind_some,Bool.not_false,if_true] at hb
       have hw:=R0 (c:=58) h2 (by decide)
       generalize hg:(if nx r2=58 then some (r2.drop 1) else none)=g at hw
       cases g with
       |none=>obtain ⟨m,h3,h4⟩:=hw;rw [h3] at hb;exact ⟨_,e6 hb,m,rfl,h4⟩
       |some rest=>obtain ⟨m,h3,h4⟩:=hw;rw [h3] at hb;exact ⟨_,e6 hb,m,rfl,h4⟩
  · rw [if_neg hx]
    rw [AI h hx] at hb
    simp only [Option.bind_some] at hb
    rw [ni h.le (by omega)] at hb
    simp only [Option.bind_some] at hb
    rw [uF (by decide)] at hb
    simp only [Option.bind_some,Bool.not_false,if_true] at hb
    rw [iH] at hb
    exact ⟨_,e6 hb,n,rfl,h.le⟩
theorem N1 {s r:List UInt8} {n F:Nat} (h:At s n r) (hF:s.length+1<F):VJ s (dF F ⟨s,(n:Int),false⟩) (rI r):=by
 have:=h.len
 unfold dF rI
 by_cases hx:nx r=64
 · rw [if_pos hx]
   obtain ⟨o,h1,h2⟩:=Lg hF (r.length+1) true r n F h (by omega) (by omega) fun _=>hx
   rw [h1]
   cases o with
   |inl x=>exact h2
   |inr x=>exact h2
 · rw [if_neg hx]
   obtain ⟨G,rfl⟩:=dP (show 0<F by omega)
   have hb:bE (G+1) (true,⟨s,(n:Int),false⟩)=some (.eZ ⟨s,(n:Int),false⟩):=by
    simp only [bE,cv]
    rw [lT h,Option.bind_some,if_neg (by simpa using hx)]
    rfl
   rw [dh hb]
   exact ⟨n,rfl,h⟩
theorem Lh {s:List UInt8} {n F:Nat} (hF:0<F):dF F ⟨s,(n:Int),true⟩=some ⟨s,(n:Int),true⟩:=by
 obtain ⟨G,rfl⟩:=dP hF
 unfold dF
 have hb:bE (G+1) (true,⟨s,(n:Int),true⟩)=some (.eZ ⟨s,(n:Int),true⟩):=by
  simp only [bE,cv]
  rw [tM,Option.bind_some,if_neg (by decide)]
  rfl
 rw [dh hb]
 rfl
def AL (r:List UInt8):Option (aD×List UInt8):=
 match rI r with
 |none=>none
 |some r1=>match mJ r1 with
  |none=>none
  |some (l,r2)=>if nx r2=64 then (match iD (r2.drop 1) with
   |none=>none
   |some (d,r3)=>if nx r3=62 then some (⟨l,d⟩,r3.drop 1) else none) else none
def N2 (s:List UInt8):Option (aD×List UInt8):=
 if nx s=60 then (if nx (s.drop 1)=62 then some (⟨[],[]⟩,s.drop 2) else AL (s.drop 1)) else none
theorem aa9 {s r:List UInt8} {n F:Nat} (h:At s n r) (hF:s.length+1<F):
 match AL r with
 |some (a,rest)=>∃n':Nat,fG F false ⟨s,(n:Int),false⟩=some (⟨s,(n':Int),false⟩,a)∧At s n' rest
 |none=>∃a,∃n':Nat,fG F false ⟨s,(n:Int),false⟩=some (⟨s,(n':Int),true⟩,a)∧n'≤s.length:=by
 unfold fG
 simp only [Bool.not_false,if_true]
 have bad:∀(m:Nat) (l:List UInt8),m≤s.length→∃a,((bg ⟨s,(m:Int),true⟩ 64).bind fun eM=>(bU F eM).bind fun x=>(bg x.2 62).bind fun kB=>some (kB,aD.mk l x.1))=some ((⟨s,(m:Int),true⟩:aA),a):=by
  intro m l hm
  rw [iH,Option.bind_some,ni hm (by omega),Option.bind_some]
  simp only
  rw [iH]
  exact ⟨_,rfl⟩
 unfold AL
 have hr:=N1 h hF
 cases hrl:rI r with
 |none=>
  rw [hrl] at hr
  obtain ⟨n1,h1,h2⟩:=hr
  rw [h1,Option.bind_some]
  obtain ⟨b,h3⟩:=EZ (F:=F) h2 (by omega)
  rw [h3,Option.bind_some]
  obtain ⟨a,h4⟩:=bad n1 b h2
  exact ⟨a,n1,h4,h2⟩
 |some r1=>
  rw [hrl] at hr
  obtain ⟨n1,h1,h2⟩:=hr
  rw [h1,Option.bind_some]
  have hl:=N0 h2 hF
  cases LK:mJ r1 with
  |none=>
   rw [LK] at hl
   obtain ⟨b,n2,h3,h4⟩:=hl
   rw [h3,Option.bind_some]
   obtain ⟨a,h5⟩:=bad n2 b h4
   simp only [LK]
   exact ⟨a,n2,h5,h4⟩
  |some x=>
   obtain ⟨l,r2⟩:=x
   rw [LK] at hl
   obtain ⟨n2,h3,h4⟩:=hl
   rw [h3,Option.bind_some]
   simp only [LK]
   by_cases Li:nx r2=64
   · obtain ⟨t,rfl⟩:=qm Li (by decide)
     rw [xb h4,Option.bind_some]
     simp only [if_pos Li,List.drop_succ_cons,List.drop_zero]
     have hd:=Cr h4.next hF
     cases R1:iD t with
     |none=>
      rw [R1] at hd
      obtain ⟨b,n3,h5,h6⟩:=hd
      rw [h5,Option.bind_some]
      simp only
      rw [iH]
      exact ⟨_,n3,rfl,h6⟩
     |some y=>
      obtain ⟨d,r3⟩:=y
      rw [R1] at hd
      obtain ⟨n3,h5,h6⟩:=hd
      rw [h5,Option.bind_some]
      simp only
      by_cases B8:nx r3=62
      · obtain ⟨u,rfl⟩:=qm B8 (by decide)
        rw [xb h6]
        simp only [if_pos B8,List.drop_succ_cons,List.drop_zero]
        exact ⟨_,rfl,h6.next⟩
      · rw [AI h6 B8]
        simp only [if_neg B8]
        exact ⟨_,n3,rfl,h6.le⟩
   · rw [AI h4 Li,Option.bind_some]
     simp only [if_neg Li]
     rw [ni h4.le (by omega),Option.bind_some]
     simp only
     rw [iH]
     exact ⟨_,n2,rfl,h4.le⟩
def esc (l:List UInt8):List UInt8:=l.flatMap fun c=>if c=34∨c=92 then [92,c] else [c]
def sF (a:aD):List UInt8:=if ic a.ax then 60::(a.ax++64::(a.domain++[62])) else 60::34::(esc a.ax++34::64::(a.domain++[62]))
def yh (s:List UInt8):Bool:=s !=[]&&decide (s.length≤64)&&s.all fk
def fZ (a:aD):Bool:=decide (a.ax=[])&&decide (a.domain=[])
def dQ (a:aD):Bool:=fZ a||(yh a.ax&&jK a.domain&&decide ((sF a).length≤256))
theorem Lj (l:List UInt8):(esc l).length≤2*l.length:=by
 induction l with
 |nil=>simp [esc]
 |cons c l ih=>
  simp only [esc,List.flatMap_cons,List.length_append,List.length_cons] at ih ⊢
  split<;>simp only [List.length_cons,List.length_nil]<;>omega
theorem N3 {s:List UInt8} {F:Nat} (hl:s.length≤1000000) (hF:s.length<F):ja F s=some (s.all fk):=by
 unfold ja
 have hh:=scan (s:=s) (body:=ek s) (mk:=fun i=>(false,(i:Int))) (p:=fk) (rr:=fun _=>false) (tt:=()) ?_ ?_ ?_ hF
 · cases ha:s.all fk with
   |true=>have:=hh.1 ha;rw [show ((0:Nat):Int)=0 from rfl] at this;rw [this];rfl
   |false=>obtain ⟨j,hj⟩:=hh.2 ha;rw [show ((0:Nat):Int)=0 from rfl] at hj;rw [hj];rfl
 · intro i x hx hp
   have hi:=(List.getElem?_eq_some_iff.1 hx).1
   simp only [ek]
   rw [if_pos (by simpa using hi),bX hx,Option.bind_some,I7,Option.bind_some,hp,wi (by omega)];rfl
 · intro i x hx hp
   have hi:=(List.getElem?_eq_some_iff.1 hx).1
   simp only [ek]
   rw [if_pos (by simpa using hi),bX hx,Option.bind_some,I7,Option.bind_some,hp];rfl
 · simp [ek]
theorem VK {s:List UInt8} {F:Nat} (hF:s.length<F):mR F s=some (yh s):=by
 unfold mR kY yh
 by_cases h:s=[]
 · subst h;rfl
 · by_cases h2:s.length≤64
   · rw [if_pos (by simpa using h),if_pos (by simp;omega),N3 (by omega) hF]
     simp [h,h2]
   · rw [if_pos (by simpa using h),if_neg (by simp;omega)]
     simp [h2]
theorem N4 {a:aD} (hl:a.ax.length≤80000):∀(r:List UInt8) (i F:Nat) (b:List UInt8),a.ax.drop i=r→i+r.length=a.ax.length→b.length≤2*i+1→r.length<F→
 iter (gq a) F (b,(i:Int))=some (.inr (b++esc r)):=by
 intro r
 induction r with
 |nil=>
  intro i F b hd hi hb hF
  obtain ⟨G,rfl⟩:=dP hF
  rw [dh (t:=b) (by simp only [gq];rw [if_neg (by simp at hi ⊢;omega)])]
  simp [esc]
 |cons c r ih=>
  intro i F b hd hi hb hF
  obtain ⟨G,rfl⟩:=dP (show 0<F by omega)
  obtain ⟨h1,h2,h3⟩:=drop_cons hd
  simp only [List.length_cons] at hi hF
  have hst:gq a (b,(i:Int))=some (.dz (b++(if c=34∨c=92 then [92,c] else [c]),((i+1:Nat):Int))):=by
   simp only [gq,mE]
   rw [if_pos (by simpa using h1),bX h2]
   simp only [Option.bind_some]
   by_cases I9:c=34
   · subst I9
     simp only [decide_true,if_true,Option.bind_some,true_or]
     rw [fB (by simp;omega) (by omega),Option.bind_some,fB (by simp;omega) (by omega),Option.bind_some,wi (by omega)]
     simp
   · by_cases N5:c=92
     · subst N5
       rw [if_neg (by decide)]
       simp only [decide_true,Option.bind_some,if_true,or_true]
       rw [fB (by simp;omega) (by omega),Option.bind_some,fB (by simp;omega) (by omega),Option.bind_some,wi (by omega)]
       simp
     · rw [if_neg (by simpa using I9)]
       simp only [Option.bind_some]
       rw [if_neg (by simpa using N5),fB (by simp;omega) (by omega),Option.bind_some,wi (by omega),if_neg (by simp [I9,N5])]
  rw [cC hst,ih (i+1) G _ h3 (by omega) (by split<;>simp<;>omega) (by omega)]
  simp [esc]
theorem E0 {a:aD} {F:Nat} (hl:a.ax.length≤80000) (hd:a.domain.length≤80000) (hF:a.ax.length+1<F):mz F a=some (sF a):=by
 have he:=Lj a.ax
 unfold mz sF
 rw [GB (by omega) hF,Option.bind_some]
 cases ic a.ax with
 |true=>
  simp only [Bool.not_true,Bool.false_eq_true,if_false,if_true]
  rw [cZ (by simp;omega),Option.bind_some,cZ (by simp;omega),Option.bind_some,cZ (by simp;omega),Option.bind_some,cZ (by simp;omega),Option.bind_some]
  simp
 |false=>
  simp only [Bool.not_false,if_true,Bool.false_eq_true,if_false]
  rw [show (([34]:List UInt8),(0:Int))=(([34]:List UInt8),((0:Nat):Int)) from rfl,N4 hl a.ax 0 F [34] (by simp) (by simp) (by simp) (by omega)]
  simp only [Option.bind_some]
  rw [fB (by simp;omega) (by omega),Option.bind_some,cZ (by simp;omega),Option.bind_some,cZ (by simp;omega),Option.bind_some,cZ (by simp;omega),Option.bind_some,cZ (by simp;omega),Option.bind_some]
  simp
theorem oB {a:aD} {F:Nat} (hl:a.ax.length≤80000) (hd:a.domain.length≤80000) (hF:a.ax.length+a.domain.length+1<F):gM F a=some (dQ a):=by
 unfold gM k8 mu dQ
 simp only [Option.bind_some]
 cases hn:fZ a with
 |true=>rw [fZ] at hn;rw [hn];rfl
 |false=>
  rw [fZ] at hn
  rw [hn]
  simp only [Bool.false_eq_true,if_false,Bool.false_or]
  rw [VK (by omega),Option.bind_some]
  cases hlb:yh a.ax with
  |false=>rfl
  |true=>
   simp only [if_true,Bool.true_and]
   rw [VC (by omega) (by omega),Option.bind_some]
   cases hdb:jK a.domain with
   |false=>rfl
   |true=>
    simp only [if_true,Bool.true_and]
    rw [E0 hl hd (by omega)]
    simp
    omega
theorem O3 (a:aD):mu a=some (fZ a):=rfl
def sG (s:List UInt8):aD×List UInt8×Int:=
 match N2 s with
 |none=>(⟨[],[]⟩,[],3)
 |some (a,rest)=>if dQ a then (a,rest,0) else (⟨[],[]⟩,[],5)
theorem At.zero {s:List UInt8} (h:s.length≤90000):At s 0 s:=⟨Nat.zero_le _,rfl,h⟩
theorem aba {s:List UInt8} {a:aD} {rest:List UInt8} {n:Nat} {t:List UInt8}:True:=trivial
end Go.Proofs.cD
end
