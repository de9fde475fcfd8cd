/- The law EnvDue returns true at every input whose tables read as laid; each argument reads behind the call as it did; the tied card. -/
import Derived.Test.YtdigbcafimghdaaGreatDoorM4
import Derived.Below
import Derived.Deep.Slices
import Derived.Carry
import Derived.Test.YtdigbcafimghdaaGreatDoorRows
import Derived.ProofKit
import Derived.LaidMore
import Derived.Lib.LaidTab
import Derived.Shelf.Vars
import Derived.HandedShaped
import Derived.Test.YtdigbcafimghdaaGreatDoorCards
import Derived.Test.YtdigbcafimghdaaGreatDoorTie
import Derived.SevenTiedAt
set_option linter.unusedSimpArgs false
set_option linter.unusedVariables false
set_option linter.unusedSectionVars false
set_option linter.defProp false
section
set_option maxRecDepth 100000
namespace Go.Proofs.cF
open Go Go.Am Go.Proofs
theorem uO (n k:Nat):(nb n k).toNat=n / 2 ^ (8*k) % 256:=by simp [nb]
theorem L7 {n:Nat} (h:n<256):val (gi n)=n:=by
 simp only [val,gi,uO,Nat.reduceMul,Nat.reducePow];omega
theorem L8 {n:Nat} (h:n<65536):val (FJ n)=n:=by
 simp only [val,FJ,uO,Nat.reduceMul,Nat.reducePow];omega
theorem FO {n:Nat} (h:n<4294967296):val (cW n)=n:=by
 simp only [val,cW,uO,Nat.reduceMul,Nat.reducePow];omega
theorem L9 {l:List UInt8} (h:l.length=4):cW (val l)=l:=by
 match l,h with
 |[a,b,c,d],_=>
  have ha:=a.toNat_lt;have hb:=b.toNat_lt;have hc:=c.toNat_lt;have hd:=d.toNat_lt
  simp only [cW,val]
  have e0:nb (a.toNat+256*(b.toNat+256*(c.toNat+256*(d.toNat+256*0)))) 0=a:=by
   apply UInt8.toNat_inj.1;rw [uO];simp only [Nat.reduceMul,Nat.reducePow];omega
  have e1:nb (a.toNat+256*(b.toNat+256*(c.toNat+256*(d.toNat+256*0)))) 1=b:=by
   apply UInt8.toNat_inj.1;rw [uO];simp only [Nat.reduceMul,Nat.reducePow];omega
  have e2:nb (a.toNat+256*(b.toNat+256*(c.toNat+256*(d.toNat+256*0)))) 2=c:=by
   apply UInt8.toNat_inj.1;rw [uO];simp only [Nat.reduceMul,Nat.reducePow];omega
  have e3:nb (a.toNat+256*(b.toNat+256*(c.toNat+256*(d.toNat+256*0)))) 3=d:=by
   apply UInt8.toNat_inj.1;rw [uO];simp only [Nat.reduceMul,Nat.reducePow];omega
  rw [e0,e1,e2,e3]
def mV (r:aN):Prop:=r.b.length≤70000
def kS (r:aN) (l:List UInt8):Prop:=r.err=0∧r.b=l
theorem uP {r:aN} (hr:mV r) (k:Nat):mV (oP r (k:Int)).2∧(oP r (k:Int)).1.length≤k∧(oP r (k:Int)).1.length≤70000∧
 ∀x rest:List UInt8,x.length=k→kS r (x++rest)→(oP r (k:Int)).1=x∧kS (oP r (k:Int)).2 rest:=by
 unfold mV at hr
 unfold oP
 by_cases h1:r.err=0
 · rw [if_neg (by simpa using h1),if_neg (by omega)]
   by_cases h3:(r.b.length:Int)<k
   · rw [if_pos h3]
     refine ⟨hr,by simp,by simp,fun x rest hx hR=> ?_⟩
     exfalso
     rw [hR.2] at h3
     simp [hx] at h3
     omega
   · rw [if_neg h3]
     refine ⟨by unfold mV;simp;omega,by simp;omega,by simp;omega,fun x rest hx hR=> ?_⟩
     rw [hR.2]
     subst hx
     exact ⟨by simp,⟨h1,by simp⟩⟩
 · rw [if_pos h1]
   exact ⟨hr,by simp,by simp,fun x rest hx hR=>absurd hR.1 h1⟩
theorem O0 {r:aN} {F k:Nat} (hr:mV r) (hk:k≤4) (hF:10<F):∃(v:Nat) (r':aN),de F r (k:Int)=some ((v:Int),r')∧mV r'∧v<256 ^ k∧
 ∀x rest:List UInt8,x.length=k→kS r (x++rest)→v=val x∧kS r' rest:=by
 obtain ⟨t1,t2,t3,t4⟩:=uP hr k
 refine ⟨val (oP r (k:Int)).1,(oP r (k:Int)).2, ?_,t1, ?_,fun x rest hx hR=> ?_⟩
 · unfold de
   unfold mV at hr
   rw [Xi (by omega)]
   simp only [Option.bind_some]
   have:=aci (l:=(oP r (k:Int)).1) (by omega) (oP r (k:Int)).1 [] F rfl (by omega)
   simp only [val,List.length_nil] at this
   rw [show ((0:Int),(0:Int))=(((0:Nat):Int),((0:Nat):Int)) from rfl,this]
   rfl
 · exact Nat.lt_of_lt_of_le (By _) (Nat.pow_le_pow_right (by decide) t2)
 · obtain ⟨h1,h2⟩:=t4 x rest hx hR
   exact ⟨by rw [h1],h2⟩
theorem P6 {r:aN} {F:Nat} (hr:mV r) (hF:10<F):∃(v:Nat) (r':aN),dR F r=some ((v:Int),r')∧mV r'∧v<256∧
 ∀(n:Nat) (rest:List UInt8),n<256→kS r (gi n++rest)→v=n∧kS r' rest:=by
 obtain ⟨v,r',h,h1,h2,h3⟩:=O0 (k:=1) hr (by omega) hF
 refine ⟨v,r', ?_,h1,h2,fun n rest hn hR=> ?_⟩
 · unfold dR;rw [show (1:Int)=((1:Nat):Int) from rfl,h];rfl
 · obtain ⟨e1,e2⟩:=h3 _ _ rfl hR
   exact ⟨by rw [e1,L7 hn],e2⟩
theorem acj {r:aN} {F:Nat} (hr:mV r) (hF:10<F):∃(v:Nat) (r':aN),gx F r=some ((v:Int),r')∧mV r'∧v<65536∧
 ∀(n:Nat) (rest:List UInt8),n<65536→kS r (FJ n++rest)→v=n∧kS r' rest:=by
 obtain ⟨v,r',h,h1,h2,h3⟩:=O0 (k:=2) hr (by omega) hF
 refine ⟨v,r', ?_,h1,h2,fun n rest hn hR=> ?_⟩
 · unfold gx;rw [show (2:Int)=((2:Nat):Int) from rfl,h];rfl
 · obtain ⟨e1,e2⟩:=h3 _ _ rfl hR
   exact ⟨by rw [e1,L8 hn],e2⟩
theorem CE {r:aN} {F:Nat} (hr:mV r) (hF:10<F):∃(v:Nat) (r':aN),cM F r=some ((v:Int),r')∧mV r'∧v<4294967296∧
 ∀(n:Nat) (rest:List UInt8),n<4294967296→kS r (cW n++rest)→v=n∧kS r' rest:=by
 obtain ⟨v,r',h,h1,h2,h3⟩:=O0 (k:=4) hr (by omega) hF
 refine ⟨v,r', ?_,h1,h2,fun n rest hn hR=> ?_⟩
 · unfold cM;rw [show (4:Int)=((4:Nat):Int) from rfl,h];rfl
 · obtain ⟨e1,e2⟩:=h3 _ _ rfl hR
   exact ⟨by rw [e1,FO hn],e2⟩
theorem Xj {r:aN} {k:Nat} (hr:mV r):fC r (k:Int)=some (oP r (k:Int)):=by
 have h:=(uP hr k).2.2.1
 unfold fC
 unfold mV at hr
 rw [Xi (by omega)]
 simp only [Option.bind_some]
 rw [tY (by omega)]
 rfl
theorem aeu {r:aN} {F:Nat} (hr:mV r) (hF:10<F):∃(s:List UInt8) (r':aN),eu F r 256=some (s,r')∧mV r'∧s.length≤70000∧
 ∀t rest:List UInt8,t.length≤256→kS r (gJ t++rest)→s=t∧kS r' rest:=by
 obtain ⟨v,r1,h,h1,h2,h3⟩:=CE hr hF
 unfold eu
 rw [h]
 simp only [Option.bind_some]
 unfold fI
 cases hc:(decide (r1.err=0)&&decide ((256:Int)<(v:Int))) with
 |true=>
  simp only [if_true,Option.bind_some]
  have ho:mV (aN.mk r1.b 5):=h1
  rw [Xj ho]
  refine ⟨_,_,rfl,(uP ho v).1,(uP ho v).2.2.1,fun t rest ht hR=> ?_⟩
  obtain ⟨e1,e2⟩:=h3 t.length (t++rest) (by omega) (by rw [gJ,List.append_assoc] at hR;exact hR)
  simp only [Bool.and_eq_true,decide_eq_true_eq] at hc
  omega
 |false=>
  simp only [Bool.false_eq_true,if_false,Option.bind_some]
  rw [Xj h1]
  refine ⟨_,_,rfl,(uP h1 v).1,(uP h1 v).2.2.1,fun t rest ht hR=> ?_⟩
  obtain ⟨e1,e2⟩:=h3 t.length (t++rest) (by omega) (by rw [gJ,List.append_assoc] at hR;exact hR)
  subst e1
  exact (uP h1 t.length).2.2.2 t rest rfl e2
theorem Xk {r:aN} {F:Nat} (hr:mV r) (hF:10<F):∃(s:List UInt8) (r':aN),fh F r=some (s,r')∧mV r'∧s.length≤70000∧
 ∀t rest:List UInt8,t.length≤256→kS r (gJ t++rest)→s=t∧kS r' rest:=by
 obtain ⟨s,r',h,h1⟩:=aeu hr hF
 exact ⟨s,r',by unfold fh;rw [h];rfl,h1⟩
theorem aak {r:aN} {F:Nat} (hr:mV r) (hF:10<F):∃(a:aH) (r':aN),gp F r=some (a,r')∧mV r'∧sH a∧
 ∀(a':aH) (rest:List UInt8),dB a'=true→kS r (gJ a'.au++(gJ a'.domain++rest))→a=a'∧kS r' rest:=by
 obtain ⟨l,r1,h,h1,h2,h3⟩:=Xk hr hF
 obtain ⟨d,r2,k,k1,k2,k3⟩:=Xk h1 hF
 refine ⟨⟨l,d⟩,r2, ?_,k1,⟨h2,k2⟩,fun a' rest hB hR=> ?_⟩
 · unfold gp;rw [h];simp only [Option.bind_some];rw [k];rfl
 · have hb:=tight hB
   obtain ⟨e1,e2⟩:=h3 _ _ (by omega) hR
   obtain ⟨e3,e4⟩:=k3 _ _ (by omega) e2
   subst e1 e3
   exact ⟨rfl,e4⟩
theorem sx1:fR=fh:=rfl
theorem sx2:jN=gp:=rfl
theorem aew {r:aN} {e:ak} {F i n:Nat} (hr:mV r) (hF:10<F) (hi:i<n) (hn:n≤255) (hl:e.az.length≤1000):
 ∃(c:aW) (r':aN),fX F (n:Int) ((i:Int),r,e)=some (.cK (((i+1:Nat):Int),r',⟨e.av,e.born,e.size,e.sum,e.az++[c]⟩))∧mV r'∧sH c.cv∧
 ∀(c':aW) (rest:List UInt8),kq c'=true→kS r (z8 c'++rest)→c=c'∧kS r' rest:=by
 obtain ⟨a,r1,f1,o1,g1,c1⟩:=aak hr hF
 obtain ⟨v2,r2,f2,o2,g2,c2⟩:=P6 o1 hF
 obtain ⟨v3,r3,f3,o3,g3,c3⟩:=P6 o2 hF
 obtain ⟨v4,r4,f4,o4,g4,c4⟩:=CE o3 hF
 obtain ⟨v5,r5,f5,o5,g5,c5⟩:=acj o4 hF
 obtain ⟨w,r6,f6,o6,g6,c6⟩:=Xk o5 hF
 refine ⟨⟨a,v2,v3,v4,v5,w⟩,r6, ?_,o6,g1,fun c' rest hB hR=> ?_⟩
 · simp only [fX]
   rw [if_pos (by simpa using hi),sx2,sx1,f1]
   simp only [Option.bind_some]
   rw [f2];simp only [Option.bind_some]
   rw [f3];simp only [Option.bind_some]
   rw [f4];simp only [Option.bind_some]
   rw [f5];simp only [Option.bind_some]
   rw [f6];simp only [Option.bind_some]
   rw [cA (by simp;omega) (by omega)]
   simp only [Option.bind_some]
   rw [qO (by omega)]
 · simp only [kq,gX,Bool.and_eq_true,Bool.or_eq_true,decide_eq_true_eq] at hB
   obtain ⟨hc,hB, -,hs,ht,hn,hw⟩:=hB
   simp only [z8,List.append_assoc] at hR
   obtain ⟨e1,k1⟩:=c1 _ _ hB hR
   obtain ⟨e2,k2⟩:=c2 _ _ (by omega) k1
   obtain ⟨e3,k3⟩:=c3 _ _ (by omega) k2
   obtain ⟨e4,k4⟩:=c4 _ _ (by omega) k3
   obtain ⟨e5,k5⟩:=c5 _ _ (by omega) k4
   obtain ⟨e6,k6⟩:=c6 _ _ (by omega) k5
   refine ⟨?_,k6⟩
   rcases c' with ⟨a',s',t',n',q',w'⟩
   simp only at e1 e2 e3 e4 e5 e6 hs ht hn hc
   subst e1 e6
   congr 1<;>omega
theorem ack {n F:Nat} (hn:n≤255) (hF:10<F):∀(k i G:Nat) (r:aN) (e:ak),i+k=n→k<G→mV r→e.az.length=i→(∀c∈e.az,sH c.cv)→
 ∃(r':aN) (e':ak),iter (fX F (n:Int)) G ((i:Int),r,e)=some (.inr (r',e'))∧mV r'∧(e'.av=e.av∧e'.born=e.born∧e'.size=e.size∧e'.sum=e.sum)∧e'.az.length≤255∧(∀c∈e'.az,sH c.cv)∧
 ∀(l:List aW) (rest:List UInt8),l.length=k→l.all kq=true→kS r (gK l++rest)→e'.az=e.az++l∧kS r' rest:=by
 intro k
 induction k with
 |zero=>
  intro i G r e hi hG hr hl hf
  obtain ⟨G,rfl⟩:=cN hG
  refine ⟨r,e,dF ?_,hr,⟨rfl,rfl,rfl,rfl⟩,by omega,hf,fun l rest h0 _ hR=> ?_⟩
  · simp only [fX]
    rw [if_neg (by simp;omega)]
  · obtain rfl:=List.eq_nil_of_length_eq_zero h0
    exact ⟨by simp,hR⟩
 |succ k ih=>
  intro i G r e hi hG hr hl hf
  obtain ⟨G,rfl⟩:=cN hG
  obtain ⟨c,r1,f1,o1,g1,c1⟩:=aew (i:=i) (n:=n) (e:=e) hr hF (by omega) hn (by omega)
  obtain ⟨r2,e2,f2,o2,g2,l2,w2,c2⟩:=ih (i+1) G r1 ⟨e.av,e.born,e.size,e.sum,e.az++[c]⟩ (by omega) (by omega) o1 (by simp;omega) (by
   intro x hx
   rcases List.mem_append.1 hx with h|h
   · exact hf x h
   · rw [List.mem_singleton.1 h];exact g1)
  refine ⟨r2,e2,by rw [cP f1,f2],o2,g2,l2,w2,fun l rest h0 hB hR=> ?_⟩
  match l,h0 with
  |c'::l,h0=>
   simp only [List.all_cons,Bool.and_eq_true] at hB
   simp only [gK,List.append_assoc] at hR
   obtain ⟨e1,k1⟩:=c1 _ _ hB.1 hR
   obtain ⟨e3,k3⟩:=c2 l rest (by simpa using h0) hB.2 k1
   subst e1
   exact ⟨by rw [e3];simp,k3⟩
end Go.Proofs.cF
end
section
set_option maxRecDepth 100000
namespace Go.Proofs.cF
open Go Go.Am Go.Proofs
open Nat renaming reduceEqDiff→nA,reduceLT→nB,reduceLeDiff→nC,reduceAdd→nD,reduceSub→nE,reduceMul→nF,reduceBEq→nG
set_option maxHeartbeats 2000000
abbrev JE:aD:=(.seq (.rg [(aj 2 (.bf (.c (.sl .ex 1 [])))),(aj 3 (.bf (.c (.int .i64 0))))]) (.seq (.rg [(aC 5 0),(aj 6 (.len (.t 5))),(aj 7 (.bin .sub (.t 6) (.c (.int .i64 4)))),(bk 4 7)]) (.seq (.seq (.rg [(aC 8 4),(aj 9 (.bin .lss (.t 8) (.c (.int .i64 0))))]) (.cond (.t 9) (.seq (.rg [(aj 2 (.bf (.c (.sl .ex 1 [])))),(aj 3 (.bf (.c (.int .i64 2))))]) .ret) .skip)) (.seq (.seq (.rg [(aC 10 0),(aC 11 4),(aj 12 (.slc 1 (.t 10) none (some (.t 11)) none)),(aC 15 0),(aj 16 (.vU (.t 15))),(aj 13 (.call (.c (.fn 43 [])) [(.t 12)])),(aj 14 (.vU (.t 13))),(aj 17 (.bin .neq (.t 14) (.t 16)))]) (.cond (.t 17) (.seq (.rg [(aj 2 (.bf (.c (.sl .ex 1 [])))),(aj 3 (.bf (.c (.int .i64 4))))]) .ret) .skip)) (.seq (.rg [(aj 18 (.jE 1 [])),(aC 19 0),(aC 20 4),(aj 21 (.slc 1 (.t 19) none (some (.t 20)) none)),(aj 22 (.app 1 1 (.t 18) (.t 21))),(bk 2 22),(aj 3 (.bf (.c (.int .i64 0))))]) .ret)))))
theorem JF:bz Tryz.prog 55 23 [(.tmp 2),(.tmp 3)] (erase JE):=⟨Tryz.f55,_,rfl,by decide,rfl,by kernel_rfl,rfl,rfl⟩
abbrev JG:List Nat:=[0,2,3,4,9,17]
def qQ (F:Nat) (b1:List UInt8):Option ((List UInt8)×Int):=
 (if (decide ((IntKind.wrap .i64 ((b1.length:Int) - 4))<0)) then
  some (([]:List UInt8),2)
 else
  (sub b1 0 (IntKind.wrap .i64 ((b1.length:Int) - 4))).bind fun x2=>
  (nJ F x2).bind fun r3=>
  (if (!decide (r3=b1)) then
   some (([]:List UInt8),4)
  else
   (ct 1 ([]:List UInt8) x2).bind fun x4=>some (x4,0)))
theorem GV {F:Nat} {b1:List UInt8} {H0:AH} {aM:List UInt8} {cD:Int} (h:qQ F b1=some (aM,cD)):
 aG Tryz.prog 55 [(.sl .n 1 (ml b8 b1))] H0 fun v H'=>v=(.bM [(.sl .n 1 (ml b8 aM)),(.int .i64 cD)])∧H'=H0:=by
 refine gD JF JG fun hcl K0 aO=> ?_
 rw [qQ.eq_1] at h
 refine aS ?_
 refine bX h (fun hy1 h=> ?_) fun hy1 h=> ?_
 · refine aS ?_
   obtain ⟨rfl,rfl⟩:=dm h
   exact aO _ _ _ bE (aZ hcl (bC (bC bx (.int .i64 2)) (.sl .ex 1 [])) bA bt ⟨rfl,rfl⟩)
 · obtain ⟨x2,bh,h⟩:=ay h
   have bw:=yU (f:=b8) bh
   refine bO bh ?_
   obtain ⟨r3,bu,h⟩:=ay h
   refine bg ax (yK bu) ?_
   refine aS ?_
   refine bX h (fun bV h=> ?_) fun bV h=> ?_
   · refine aS ?_
     obtain ⟨rfl,rfl⟩:=dm h
     exact aO _ _ _ bE (aZ hcl (bC (bC bx (.int .i64 4)) (.sl .ex 1 [])) bA bt ⟨rfl,rfl⟩)
   · have cu:=yU (f:=b8) bh
     obtain ⟨x4,dw,h⟩:=ay h
     have dD:ct 1 [] (ml b8 x2)=some (ml b8 x4):=dI (f:=b8) dw
     refine bO (aB bh dD) ?_
     obtain ⟨rfl,rfl⟩:=dm h
     exact aO _ _ _ bE (aZ hcl (bC (bC bx (.int .i64 0)) (.sl .own 1 (ml b8 x4))) bA bt ⟨rfl,rfl⟩)
abbrev j7:aD:=(.seq (.seq (.rg [(aC 29 6),(aj 30 (.bin .geq (.t 29) (.c (.int .i64 0))))]) (.cond (.t 30) .skip (.exit 0))) (.seq (.blk 1 (.rg [(aC 33 5),(aj 34 (.bin .shl (.t 33) (.c (.int .u64 8)))),(aC 35 0),(aj 36 (.ew (.t 35))),(aj 37 (.aV (.t 36) 0)),(aj 38 (.ld (.t 37) none)),(aC 39 0),(aj 40 (.ew (.t 39))),(aj 41 (.aV (.t 40) 1)),(aj 42 (.ld (.t 41) none)),(aC 43 6),(aj 44 (.bin .add (.t 42) (.t 43))),(aj 45 (.ku 1 (.t 38) (.t 44))),(aj 46 (.ld (.t 45) none)),(aj 47 (.dX (.int .i64) (.t 46))),(aj 48 (.bin .or (.t 34) (.t 47))),(bk 5 48)])) (.rg [(aC 31 6),(aj 32 (.bin .sub (.t 31) (.c (.int .i64 1)))),(bk 6 32)])))
abbrev vP:aD:=(.seq (.rg [(aj 4 (.bf (.c (.int .i64 0))))]) (.seq (.seq (.rg [(aC 7 0),(aj 8 (.ew (.t 7))),(aj 9 (.aV (.t 8) 2)),(aj 10 (.ld (.t 9) none)),(aj 11 (.bin .neq (.t 10) (.c (.int .i64 0))))]) (.cond (.t 11) (.seq (.rg [(aj 4 (.bf (.c (.int .i64 0))))]) .ret) .skip)) (.seq (.seq (.rg [(aC 12 1),(aC 13 0),(aj 14 (.ew (.t 13))),(aj 15 (.aV (.t 14) 0)),(aj 16 (.ld (.t 15) none)),(aj 17 (.len (.t 16))),(aC 18 0),(aj 19 (.ew (.t 18))),(aj 20 (.aV (.t 19) 1)),(aj 21 (.ld (.t 20) none)),(aj 22 (.bin .sub (.t 17) (.t 21))),(aj 23 (.bin .gtr (.t 12) (.t 22)))]) (.cond (.t 23) (.seq (.rg [(aC 24 0),(aj 25 (.ew (.t 24))),(aj 26 (.aV (.t 25) 2)),(cU (.st (.t 26) (.c (.int .i64 2)) 1))]) (.seq (.rg [(aj 4 (.bf (.c (.int .i64 0))))]) .ret)) .skip)) (.seq (.rg [(aj 5 (.bf (.c (.int .i64 0))))]) (.seq (.seq (.rg [(aC 27 1),(aj 28 (.bin .sub (.t 27) (.c (.int .i64 1)))),(bk 6 28)]) (.blk 0 (.loop (erase j7)))) (.seq (.rg [(aC 49 0),(aC 50 0),(aj 51 (.ew (.t 50))),(aj 52 (.aV (.t 51) 1)),(aj 53 (.ld (.t 52) none)),(aC 54 1),(aj 55 (.bin .add (.t 53) (.t 54))),(aj 56 (.ew (.t 49))),(aj 57 (.aV (.t 56) 1)),(cU (.st (.t 57) (.t 55) 1))]) (.seq (.rg [(aC 58 5),(bk 4 58)]) .ret)))))))
theorem vQ:bz Tryz.prog 56 59 [(.tmp 4)] (erase vP):=⟨Tryz.f56,_,rfl,by decide,rfl,by kernel_rfl,rfl,rfl⟩
abbrev nh:List Nat:=[0,1,4,5,6,11,23,30]
def cS (r2:aP):(Int×Int)→Option (St (Int×aP) Int (Int×Int))
 |(Ma,i5)=>
  (if (decide (0≤i5)) then
   (idx r2.b (IntKind.wrap .i64 (r2.eA+i5))).bind fun x6=>
   some (.cK ((Kn .i64 (shl .i64 Ma 8) (IntKind.wrap .i64 (x6.toNat:Int))),(IntKind.wrap .i64 (i5 - 1))))
  else
   some (.fF Ma))
def bG (F:Nat) (r2:aP) (k9:Int):Option (Int×aP):=
 (if (!decide (r2.err=0)) then
  some (0,r2)
 else
  (if (decide ((IntKind.wrap .i64 ((r2.b.length:Int) - r2.eA))<k9)) then
   some (0,(aP.mk r2.b r2.eA 2))
  else
   ((iter (cS r2) F (0,(IntKind.wrap .i64 (k9 - 1)))).bind fun o9=>
   match o9 with
   | .inr nn8=>
     some (nn8,(aP.mk r2.b (IntKind.wrap .i64 (r2.eA+k9)) r2.err))
   | .inl _=>none)))
theorem rK {F:Nat} {i5:Int} {r2:aP} {Ma:Int} {q1:Nat} {k9:Int} {H0 H:AH} (hfr:Fr H0 H0.length [q1] H) (ai:H[q1]? =some [(.sl .n 1 (ml b8 r2.b)),(.int .i64 r2.eA),(.int .i64 r2.err)]) (eK:q1<H0.length) {K:Exit→Env→AH→Prop} {o:(Int×aP)⊕(Int)}
 (h:iter (cS r2) F (Ma,i5)=some o)
 (di:∀o':Int,o= .inr o'→∀H':AH,Fr H0 H0.length [q1] H'→H'[q1]? =some [(.sl .n 1 (ml b8 r2.b)),(.int .i64 r2.eA),(.int .i64 r2.err)]→K (.exit 0) [(0,(.ptr q1 0)),(1,(.int .i64 k9)),(5,(.int .i64 o'))] H'):
 AX Tryz.prog nh 59 H0.length (.loop (erase j7)) K [(0,(.ptr q1 0)),(1,(.int .i64 k9)),(5,(.int .i64 Ma)),(6,(.int .i64 i5))] H:=by
 refine ja (fun s e H1=>match s with|(Ma,i5)=>e=[(0,(.ptr q1 0)),(1,(.int .i64 k9)),(5,(.int .i64 Ma)),(6,(.int .i64 i5))]∧Fr H0 H0.length [q1] H1∧H1[q1]? =some [(.sl .n 1 (ml b8 r2.b)),(.int .i64 r2.eA),(.int .i64 r2.err)]) h ⟨rfl,hfr,ai⟩ ?_
 rintro K' ⟨Ma,i5⟩ st e H ⟨rfl,hfr,ai⟩ h hN hB hR hX
 have hle:=hfr.le
 have aU:=aL ai
 rw [cS.eq_1] at h
 refine aE ai ?_
 refine bX h (fun bw h=> ?_) fun bw h=> ?_
 · obtain ⟨x6,bu,h⟩:=ay h
   refine aE (aB bu ai) ?_
   obtain rfl:=aJ h
   exact hN _ rfl _ _ _ _ aX ax ⟨rfl,hfr,(ai.trans rfl)⟩
 · refine aE ai ?_
   obtain rfl:=aJ h
   exact hX _ _ _ _ _ eI aX ax (di _ (hB _ rfl) _ hfr (ai.trans rfl))
theorem bZ {F:Nat} {r2:aP} {k9:Int} {q1:Nat} {H0:AH} (ai:H0[q1]? =some [(.sl .n 1 (ml b8 r2.b)),(.int .i64 r2.eA),(.int .i64 r2.err)]) {aM:Int} {cD:aP} (h:bG F r2 k9=some (aM,cD)):
 aG Tryz.prog 56 [(.ptr q1 0),(.int .i64 k9)] H0 fun v H'=>v=(.int .i64 aM)∧H'=(H0.set q1 [(.sl .n 1 (ml b8 cD.b)),(.int .i64 cD.eA),(.int .i64 cD.err)]):=by
 have aU:=aL ai
 refine ec vQ nh [q1] fun hcl K0 aO H hH hfr=> ?_
 rw [←hH] at ai
 clear hH
 have hle:=hfr.le
 have fc:=aL ai
 rw [bG.eq_1] at h
 refine aE ai ?_
 refine bX h (fun hy1 h=> ?_) fun hy1 h=> ?_
 · refine aE ai ?_
   obtain ⟨rfl,rfl⟩:=dm h
   exact aO _ _ _ bE (cc hfr hcl (bC bx (.int .i64 0)) bA bt (ai.trans rfl) br jJ gC ⟨rfl,rfl⟩)
 · refine aE ai ?_
   refine bX h (fun bh h=> ?_) fun bh h=> ?_
   · refine aE ai ?_
     obtain ⟨rfl,rfl⟩:=dm h
     exact aO _ _ _ bE (cc (bn _ hfr) hcl (bC bx (.int .i64 0)) bA bt bL br jJ gC ⟨rfl,rfl⟩)
   · refine aE ai ?_
     obtain ⟨o9,bV,h⟩:=ay h
     refine cg ax (rK (q1:=q1) (k9:=k9) hfr (ai.trans rfl) br bV ?_)
     · rintro nn8 rfl H hfr ai
       try dsimp only at h ai
       have hle:=hfr.le
       have aU:=aL ai
       refine aE ai ?_
       obtain ⟨rfl,rfl⟩:=dm h
       exact aO _ _ _ bE (cc (bn _ hfr) hcl (bC bx (.int .i64 nn8)) bA bt bL br jJ gC ⟨rfl,rfl⟩)
abbrev xh:aD:=(.seq (.rg [(aj 4 (.bf (.c (.sl .ex 1 []))))]) (.seq (.seq (.rg [(aC 5 0),(aj 6 (.ew (.t 5))),(aj 7 (.aV (.t 6) 2)),(aj 8 (.ld (.t 7) none)),(aj 9 (.bin .neq (.t 8) (.c (.int .i64 0))))]) (.cond (.t 9) (.seq (.rg [(aj 4 (.bf (.c (.sl .ex 1 []))))]) .ret) .skip)) (.seq (.seq (.rg [(aC 10 1),(aj 11 (.bin .lss (.t 10) (.c (.int .i64 0))))]) (.cond (.t 11) (.seq (.rg [(aC 12 0),(aj 13 (.ew (.t 12))),(aj 14 (.aV (.t 13) 2)),(cU (.st (.t 14) (.c (.int .i64 1)) 1))]) (.seq (.rg [(aj 4 (.bf (.c (.sl .ex 1 []))))]) .ret)) .skip)) (.seq (.seq (.rg [(aC 15 1),(aC 16 0),(aj 17 (.ew (.t 16))),(aj 18 (.aV (.t 17) 0)),(aj 19 (.ld (.t 18) none)),(aj 20 (.len (.t 19))),(aC 21 0),(aj 22 (.ew (.t 21))),(aj 23 (.aV (.t 22) 1)),(aj 24 (.ld (.t 23) none)),(aj 25 (.bin .sub (.t 20) (.t 24))),(aj 26 (.bin .gtr (.t 15) (.t 25)))]) (.cond (.t 26) (.seq (.rg [(aC 27 0),(aj 28 (.ew (.t 27))),(aj 29 (.aV (.t 28) 2)),(cU (.st (.t 29) (.c (.int .i64 2)) 1))]) (.seq (.rg [(aj 4 (.bf (.c (.sl .ex 1 []))))]) .ret)) .skip)) (.seq (.rg [(aC 30 0),(aC 31 0),(aj 32 (.ew (.t 31))),(aj 33 (.aV (.t 32) 1)),(aj 34 (.ld (.t 33) none)),(aC 35 1),(aj 36 (.bin .add (.t 34) (.t 35))),(aj 37 (.ew (.t 30))),(aj 38 (.aV (.t 37) 1)),(cU (.st (.t 38) (.t 36) 1))]) (.seq (.rg [(aC 40 0),(aj 41 (.ew (.t 40))),(aj 42 (.aV (.t 41) 0)),(aj 43 (.ld (.t 42) none)),(aC 44 0),(aj 45 (.ew (.t 44))),(aj 46 (.aV (.t 45) 1)),(aj 47 (.ld (.t 46) none)),(aC 48 1),(aj 49 (.bin .sub (.t 47) (.t 48))),(aC 50 0),(aj 51 (.ew (.t 50))),(aj 52 (.aV (.t 51) 1)),(aj 53 (.ld (.t 52) none)),(aj 54 (.slc 1 (.t 43) (some (.t 49)) (some (.t 53)) none)),(aj 39 (.jE 1 [])),(aj 55 (.app 1 1 (.t 39) (.t 54))),(bk 4 55)]) .ret))))))
theorem xj:bz Tryz.prog 74 56 [(.tmp 4)] (erase xh):=⟨Tryz.f74,_,rfl,by decide,rfl,by kernel_rfl,rfl,rfl⟩
abbrev xk:List Nat:=[0,1,4,9,11,26]
def fZ (r2:aP) (iz:Int):Option ((List UInt8)×aP):=
 (if (!decide (r2.err=0)) then
  some (([]:List UInt8),r2)
 else
  (if (decide (iz<0)) then
   some (([]:List UInt8),(aP.mk r2.b r2.eA 1))
  else
   (if (decide ((IntKind.wrap .i64 ((r2.b.length:Int) - r2.eA))<iz)) then
    some (([]:List UInt8),(aP.mk r2.b r2.eA 2))
   else
    (sub r2.b (IntKind.wrap .i64 ((IntKind.wrap .i64 (r2.eA+iz)) - iz)) (IntKind.wrap .i64 (r2.eA+iz))).bind fun x4=>
    (ct 1 ([]:List UInt8) x4).bind fun x5=>
    some (x5,(aP.mk r2.b (IntKind.wrap .i64 (r2.eA+iz)) r2.err)))))
theorem vR {r2:aP} {iz:Int} {q1:Nat} {H0:AH} (ai:H0[q1]? =some [(.sl .n 1 (ml b8 r2.b)),(.int .i64 r2.eA),(.int .i64 r2.err)]) {aM:List UInt8} {cD:aP} (h:fZ r2 iz=some (aM,cD)):
 aG Tryz.prog 74 [(.ptr q1 0),(.int .i64 iz)] H0 fun v H'=>v=(.sl .own 1 (ml b8 aM))∧H'=(H0.set q1 [(.sl .n 1 (ml b8 cD.b)),(.int .i64 cD.eA),(.int .i64 cD.err)]):=by
 have aU:=aL ai
 refine ec xj xk [q1] fun hcl K0 aO H hH hfr=> ?_
 rw [←hH] at ai
 clear hH
 have hle:=hfr.le
 have fc:=aL ai
 rw [fZ.eq_1] at h
 refine aE ai ?_
 refine bX h (fun hy1 h=> ?_) fun hy1 h=> ?_
 · refine aE ai ?_
   obtain ⟨rfl,rfl⟩:=dm h
   exact aO _ _ _ bE (cc hfr hcl (bC bx (.sl .ex 1 [])) bA bt (ai.trans rfl) br jJ gC ⟨rfl,rfl⟩)
 · refine aE ai ?_
   refine bX h (fun bh h=> ?_) fun bh h=> ?_
   · refine aE ai ?_
     obtain ⟨rfl,rfl⟩:=dm h
     exact aO _ _ _ bE (cc (bn _ hfr) hcl (bC bx (.sl .ex 1 [])) bA bt bL br jJ gC ⟨rfl,rfl⟩)
   · refine aE ai ?_
     refine bX h (fun bw h=> ?_) fun bw h=> ?_
     · refine aE ai ?_
       obtain ⟨rfl,rfl⟩:=dm h
       exact aO _ _ _ bE (cc (bn _ hfr) hcl (bC bx (.sl .ex 1 [])) bA bt bL br jJ gC ⟨rfl,rfl⟩)
     · obtain ⟨x4,bu,h⟩:=ay h
       have bV:=yU (f:=b8) bu
       obtain ⟨x5,cu,h⟩:=ay h
       have dw:ct 1 [] (ml b8 x4)=some (ml b8 x5):=dI (f:=b8) cu
       refine aE (aB bu (aB dw ai)) ?_
       obtain ⟨rfl,rfl⟩:=dm h
       exact aO _ _ _ bE (cc (bn _ hfr) hcl (bC bx (.sl .own 1 (ml b8 x5))) bA bt bL br jJ gC ⟨rfl,rfl⟩)
abbrev lQ:aD:=(.rg [(aC 8 0),(aj 9 (.ew (.t 8))),(aj 10 (.aV (.t 9) 2)),(aj 11 (.ld (.t 10) none)),(aj 12 (.bin .eql (.t 11) (.c (.int .i64 0)))),(aC 13 12),(aF 14 (.mv (.t 5)) 13 true),(aF 15 (.mv (.t 1)) 13 true),(aF 16 (.bin .gtr (.t 14) (.t 15)) 13 true),(aj 17 (.pick (.t 13) (.t 16) (.c (.bool false))))])
abbrev lR:aD:=(.cond (.t 17) (.rg [(aC 18 0),(aj 19 (.ew (.t 18))),(aj 20 (.aV (.t 19) 2)),(cU (.st (.t 20) (.c (.int .i64 5)) 1))]) .skip)
abbrev xl:aD:=(.seq (.rg [(aj 4 (.bf (.c (.sl .ex 1 []))))]) (.seq (.rg [(aC 6 0),(aj 7 (.call (.c (.fn 56 [])) [(.t 6),(.c (.int .i64 4))])),(bk 5 7)]) (.seq (.seq (.sem (erase lQ)) (.sem (erase lR))) (.seq (.rg [(aC 21 0),(aC 22 5),(aj 23 (.call (.c (.fn 74 [])) [(.t 21),(.t 22)])),(bk 4 23)]) .ret))))
theorem xm:bz Tryz.prog 58 24 [(.tmp 4)] (erase xl):=⟨Tryz.f58,_,rfl,by decide,rfl,by kernel_rfl,rfl,rfl⟩
abbrev jC:List Nat:=[0,1,4,5,17]
def gh (r5:aP) (ek:Int) (r4:Int):Option (aP):=
 (if ((decide (r5.err=0))&&(decide (ek<r4))) then
  some (aP.mk r5.b r5.eA 5)
 else
  some r5)
def dN (F:Nat) (r2:aP) (ek:Int):Option ((List UInt8)×aP):=
 (bG F r2 4).bind fun (r4,r5)=>
 (gh r5 ek r4).bind fun s7=>
 (fZ s7 r4).bind fun (r8,r9)=>some (r8,r9)
theorem td {q1:Nat} {ek:Int} {r4:Int} {r5:aP} {H0 H:AH} (hfr:Fr H0 H0.length [q1] H) (ai:H[q1]? =some [(.sl .n 1 (ml b8 r5.b)),(.int .i64 r5.eA),(.int .i64 r5.err)]) (eK:q1<H0.length) {K:Exit→Env→AH→Prop}
 (kn:∀H':AH,Fr H0 H0.length [q1] H'→H'[q1]? =some [(.sl .n 1 (ml b8 r5.b)),(.int .i64 r5.eA),(.int .i64 r5.err)]→K .normal [(0,(.ptr q1 0)),(5,(.int .i64 r4)),(17,(.bool ((decide (r5.err=0))&&(decide (ek<r4)))))] H'):
 AX Tryz.prog jC 24 H0.length (erase lQ) K [(0,(.ptr q1 0)),(1,(.int .i64 ek)),(5,(.int .i64 r4))] H:=by
 refine dn fun K' hK=> ?_
 have hle:=hfr.le
 have aU:=aL ai
 refine aE ai ?_
 refine kj (fun bh=> ?_) fun bh=> ?_
 · refine aE (aB bh ai) ?_
   exact hK _ _ _ _ _ (dy bh) ax (kn _ hfr (ai.trans rfl))
 · refine aE (aB bh ai) ?_
   exact hK _ _ _ _ _ (dy bh) ax (kn _ hfr (ai.trans rfl))
theorem tf {r5:aP} {ek:Int} {r4:Int} {q1:Nat} {H0 H:AH} (hfr:Fr H0 H0.length [q1] H) (ai:H[q1]? =some [(.sl .n 1 (ml b8 r5.b)),(.int .i64 r5.eA),(.int .i64 r5.err)]) (eK:q1<H0.length) {K:Exit→Env→AH→Prop} {s6:aP}
 (h:gh r5 ek r4=some s6)
 (kn:∀H':AH,Fr H0 H0.length [q1] H'→H'[q1]? =some [(.sl .n 1 (ml b8 s6.b)),(.int .i64 s6.eA),(.int .i64 s6.err)]→K .normal [(0,(.ptr q1 0)),(5,(.int .i64 r4))] H'):
 AX Tryz.prog jC 24 H0.length (erase lR) K [(0,(.ptr q1 0)),(5,(.int .i64 r4)),(17,(.bool ((decide (r5.err=0))&&(decide (ek<r4)))))] H:=by
 refine dn fun K' hK=> ?_
 have hle:=hfr.le
 have aU:=aL ai
 rw [gh.eq_1] at h
 refine aE ai ?_
 refine bX h (fun bw h=> ?_) fun bw h=> ?_
 · refine aE ai ?_
   obtain rfl:=aJ h
   exact hK _ _ _ _ _ aX ax (kn _ (bn _ hfr) bL)
 · refine aE ai ?_
   obtain rfl:=aJ h
   exact hK _ _ _ _ _ aX ax (kn _ hfr (ai.trans rfl))
theorem jd {F:Nat} {r2:aP} {ek:Int} {q1:Nat} {H0:AH} (ai:H0[q1]? =some [(.sl .n 1 (ml b8 r2.b)),(.int .i64 r2.eA),(.int .i64 r2.err)]) {aM:List UInt8} {cD:aP} (h:dN F r2 ek=some (aM,cD)):
 aG Tryz.prog 58 [(.ptr q1 0),(.int .i64 ek)] H0 fun v H'=>v=(.sl .own 1 (ml b8 aM))∧H'=(H0.set q1 [(.sl .n 1 (ml b8 cD.b)),(.int .i64 cD.eA),(.int .i64 cD.err)]):=by
 have aU:=aL ai
 refine ec xm jC [q1] fun hcl K0 aO H hH hfr=> ?_
 rw [←hH] at ai
 clear hH
 have hle:=hfr.le
 have fc:=aL ai
 rw [dN.eq_1] at h
 refine aE ai ?_
 obtain ⟨⟨r4,r5⟩,hy1,h⟩:=ay h
 dsimp only at h
 refine bg ax (bZ (ai.trans rfl) hy1) ?_
 refine aE ai ?_
 refine cg ax (td (q1:=q1) (ek:=ek) (r4:=r4) (r5:=r5) (bn _ hfr) bL br ?_)
 intro H hfr ai
 have hle:=hfr.le
 have aU:=aL ai
 refine aE ai ?_
 obtain ⟨s7,bu,h⟩:=ay h
 refine cg ax (tf (q1:=q1) hfr (ai.trans rfl) br bu ?_)
 intro H hfr ai
 have hle:=hfr.le
 have aU:=aL ai
 refine aE ai ?_
 obtain ⟨⟨r8,r9⟩,bV,h⟩:=ay h
 dsimp only at h
 refine bg ax (vR (ai.trans rfl) bV) ?_
 refine aE ai ?_
 obtain ⟨rfl,rfl⟩:=dm h
 exact aO _ _ _ bE (cc (bn _ hfr) hcl (bC bx (.sl .own 1 (ml b8 r8))) bA bt bL br jJ gC ⟨rfl,rfl⟩)
abbrev DQ:aD:=(.seq (.rg [(aj 2 (.alloc [(.str []),(.str [])]))]) (.seq (.rg [(aC 5 0),(aj 6 (.call (.c (.fn 58 [])) [(.t 5),(.c (.int .i64 65536))])),(bk 3 6)]) (.seq (.rg [(aC 7 0),(aj 8 (.call (.c (.fn 58 [])) [(.t 7),(.c (.int .i64 65536))])),(bk 4 8)]) (.seq (.rg [(aC 9 3),(aj 10 (.dX .bs (.t 9))),(aC 11 4),(aj 12 (.dX .bs (.t 11))),(aj 13 (.build [(.str []),(.str [])] [(0,(1,(.t 10))),(1,(1,(.t 12)))])),(cU (.st (.t 2) (.t 13) 2))]) .ret))))
theorem DR:bz Tryz.prog 57 14 [(.cell 2 23)] (erase DQ):=⟨Tryz.f57,_,rfl,by decide,rfl,by kernel_rfl,rfl,rfl⟩
abbrev DS:List Nat:=[0,2,3,4]
def iY (F:Nat) (r2:aP):Option (aH×aP):=
 (dN F r2 65536).bind fun (r3,r4)=>
 (dN F r4 65536).bind fun (r5,r6)=>some ((aH.mk r3 r5),r6)
theorem tZ {F:Nat} {r2:aP} {q1:Nat} {H0:AH} (ai:H0[q1]? =some [(.sl .n 1 (ml b8 r2.b)),(.int .i64 r2.eA),(.int .i64 r2.err)]) {aM:aH} {cD:aP} (h:iY F r2=some (aM,cD)):
 aG Tryz.prog 57 [(.ptr q1 0)] H0 fun v H'=>v=(.agg [(.str aM.au),(.str aM.domain)])∧H'=(H0.set q1 [(.sl .n 1 (ml b8 cD.b)),(.int .i64 cD.eA),(.int .i64 cD.err)]):=by
 have aU:=aL ai
 refine ec DR DS [q1] fun hcl K0 aO H hH hfr=> ?_
 rw [←hH] at ai
 clear hH
 have hle:=hfr.le
 have fc:=aL ai
 rw [iY.eq_1] at h
 refine aE ai ?_
 obtain ⟨⟨r3,r4⟩,hy1,h⟩:=ay h
 dsimp only at h
 refine bg ax (jd (q1:=q1) (ez (ai.trans rfl)) hy1) ?_
 refine aE ai ?_
 obtain ⟨⟨r5,r6⟩,bh,h⟩:=ay h
 dsimp only at h
 refine bg ax (jd (q1:=q1) bL bh) ?_
 refine aE ai ?_
 obtain ⟨rfl,rfl⟩:=dm h
 exact aO _ _ _ bE (cc (bn _ (bn _ (bn _ (Fr.app hfr)))) hcl (gB (cs:=[(.str r3),(.str r5)]) (v:=(.agg [(.str r3),(.str r5)])) (by kernel_rfl) (n:=(some 2)) (by kernel_rfl) rfl bL (by simp [jm,jl,lV,b5,AV.flat,nM,ox,AV.bT,Tg.sh]) bx) bA bt (aY bL) br jJ gC ⟨rfl,rfl⟩)
abbrev ni:aD:=(.rg [(aC 3 0),(aj 4 (.ew (.t 3))),(aj 5 (.aV (.t 4) 2)),(aj 6 (.ld (.t 5) none)),(aj 7 (.bin .eql (.t 6) (.c (.int .i64 0)))),(aC 8 7),(aF 9 (.mv (.t 0)) 8 true),(aF 10 (.ew (.t 9)) 8 true),(aF 11 (.aV (.t 10) 1) 8 true),(aF 12 (.ld (.t 11) none) 8 true),(aF 13 (.mv (.t 0)) 8 true),(aF 14 (.ew (.t 13)) 8 true),(aF 15 (.aV (.t 14) 0) 8 true),(aF 16 (.ld (.t 15) none) 8 true),(aF 17 (.len (.t 16)) 8 true),(aF 18 (.bin .lss (.t 12) (.t 17)) 8 true),(aj 19 (.pick (.t 8) (.t 18) (.c (.bool false))))])
abbrev Aa:aD:=(.seq (.rg [(aj 2 (.bf (.c (.int .i64 0))))]) (.seq (.seq (.sem (erase ni)) (.cond (.t 19) (.rg [(aC 20 0),(aj 21 (.ew (.t 20))),(aj 22 (.aV (.t 21) 2)),(cU (.st (.t 22) (.c (.int .i64 3)) 1))]) .skip)) (.seq (.rg [(aC 23 0),(aj 24 (.ew (.t 23))),(aj 25 (.aV (.t 24) 2)),(aj 26 (.ld (.t 25) none)),(bk 2 26)]) .ret)))
theorem Ab:bz Tryz.prog 59 27 [(.tmp 2)] (erase Aa):=⟨Tryz.f59,_,rfl,by decide,rfl,by kernel_rfl,rfl,rfl⟩
abbrev qR:List Nat:=[0,2,19]
def gY (r2:aP):Option (Int×aP):=
 (if ((decide (r2.err=0))&&(decide (r2.eA<(r2.b.length:Int)))) then
  some (3,(aP.mk r2.b r2.eA 3))
 else
  some (r2.err,r2))
theorem uQ {q1:Nat} {r2:aP} {H0 H:AH} (hfr:Fr H0 H0.length [q1] H) (ai:H[q1]? =some [(.sl .n 1 (ml b8 r2.b)),(.int .i64 r2.eA),(.int .i64 r2.err)]) (eK:q1<H0.length) {K:Exit→Env→AH→Prop}
 (kn:∀H':AH,Fr H0 H0.length [q1] H'→H'[q1]? =some [(.sl .n 1 (ml b8 r2.b)),(.int .i64 r2.eA),(.int .i64 r2.err)]→K .normal [(0,(.ptr q1 0)),(19,(.bool ((decide (r2.err=0))&&(decide (r2.eA<(r2.b.length:Int))))))] H'):
 AX Tryz.prog qR 27 H0.length (erase ni) K [(0,(.ptr q1 0))] H:=by
 refine dn fun K' hK=> ?_
 have hle:=hfr.le
 have aU:=aL ai
 refine aE ai ?_
 refine kj (fun hy1=> ?_) fun hy1=> ?_
 · refine aE (aB hy1 ai) ?_
   exact hK _ _ _ _ _ (dy hy1) ax (kn _ hfr (ai.trans rfl))
 · refine aE (aB hy1 ai) ?_
   exact hK _ _ _ _ _ (dy hy1) ax (kn _ hfr (ai.trans rfl))
theorem yl {r2:aP} {q1:Nat} {H0:AH} (ai:H0[q1]? =some [(.sl .n 1 (ml b8 r2.b)),(.int .i64 r2.eA),(.int .i64 r2.err)]) {aM:Int} {cD:aP} (h:gY r2=some (aM,cD)):
 aG Tryz.prog 59 [(.ptr q1 0)] H0 fun v H'=>v=(.int .i64 aM)∧H'=(H0.set q1 [(.sl .n 1 (ml b8 cD.b)),(.int .i64 cD.eA),(.int .i64 cD.err)]):=by
 have aU:=aL ai
 refine ec Ab qR [q1] fun hcl K0 aO H hH hfr=> ?_
 rw [←hH] at ai
 clear hH
 have hle:=hfr.le
 have fc:=aL ai
 rw [gY.eq_1] at h
 refine aE ai ?_
 refine cg ax (uQ (q1:=q1) (r2:=r2) hfr (ai.trans rfl) br ?_)
 intro H hfr ai
 have hle:=hfr.le
 have aU:=aL ai
 refine aE ai ?_
 refine bX h (fun bh h=> ?_) fun bh h=> ?_
 · refine aE ai ?_
   obtain ⟨rfl,rfl⟩:=dm h
   exact aO _ _ _ bE (cc (bn _ hfr) hcl (bC bx (.int .i64 3)) bA bt bL br jJ gC ⟨rfl,rfl⟩)
 · refine aE ai ?_
   obtain ⟨rfl,rfl⟩:=dm h
   exact aO _ _ _ bE (cc hfr hcl (bC bx (.int .i64 r2.err)) bA bt (ai.trans rfl) br jJ gC ⟨rfl,rfl⟩)
abbrev qS:aD:=(.rg [(aC 41 10),(aC 42 9),(aj 43 (.bin .lss (.t 41) (.t 42))),(aC 44 43),(aF 45 (.mv (.t 6)) 44 true),(aF 46 (.ew (.t 45)) 44 true),(aF 47 (.aV (.t 46) 2) 44 true),(aF 48 (.ld (.t 47) none) 44 true),(aF 49 (.bin .eql (.t 48) (.c (.int .i64 0))) 44 true),(aj 50 (.pick (.t 44) (.t 49) (.c (.bool false))))])
abbrev oQ:aD:=(.seq (.seq (.sem (erase qS)) (.cond (.t 50) .skip (.exit 0))) (.seq (.blk 1 (.seq (.rg [(aj 11 (.alloc [(.str []),(.str []),(.int .i64 0),(.int .i64 0),(.int .i64 0),(.int .i64 0),(.str [])]))]) (.seq (.rg [(aC 53 6),(aj 54 (.call (.c (.fn 57 [])) [(.t 53)])),(aj 55 (.aV (.t 11) 0)),(cU (.st (.t 55) (.t 54) 2))]) (.seq (.rg [(aC 56 6),(aj 57 (.call (.c (.fn 56 [])) [(.t 56),(.c (.int .i64 1))])),(aj 58 (.aV (.t 11) 2)),(cU (.st (.t 58) (.t 57) 1))]) (.seq (.rg [(aC 59 6),(aj 60 (.call (.c (.fn 56 [])) [(.t 59),(.c (.int .i64 1))])),(aj 61 (.aV (.t 11) 3)),(cU (.st (.t 61) (.t 60) 1))]) (.seq (.rg [(aC 62 6),(aj 63 (.call (.c (.fn 56 [])) [(.t 62),(.c (.int .i64 4))])),(aj 64 (.aV (.t 11) 4)),(cU (.st (.t 64) (.t 63) 1))]) (.seq (.rg [(aC 65 6),(aj 66 (.call (.c (.fn 56 [])) [(.t 65),(.c (.int .i64 2))])),(aj 67 (.aV (.t 11) 5)),(cU (.st (.t 67) (.t 66) 1))]) (.seq (.rg [(aC 68 6),(aj 69 (.call (.c (.fn 58 [])) [(.t 68),(.c (.int .i64 65536))])),(aj 70 (.dX .bs (.t 69))),(aj 71 (.aV (.t 11) 6)),(cU (.st (.t 71) (.t 70) 1))]) (.rg [(aj 72 (.aV (.t 7) 5)),(aj 73 (.ld (.t 72) none)),(aj 74 (.ld (.t 11) (some 7))),(aj 75 (.jE 7 [(.t 74)])),(aj 76 (.app 7 80 (.t 73) (.t 75))),(aj 77 (.aV (.t 7) 5)),(cU (.st (.t 77) (.t 76) 1))]))))))))) (.rg [(aC 51 10),(aj 52 (.bin .add (.t 51) (.c (.int .i64 1)))),(bk 10 52)])))
abbrev qT:aD:=(.rg [(aC 78 8),(aj 79 (.bin .neq (.t 78) (.c (.int .i64 1)))),(aC 80 79),(aF 81 (.mv (.t 6)) 80 false),(aF 82 (.call (.c (.fn 59 [])) [(.t 81)]) 80 false),(aF 83 (.bin .neq (.t 82) (.c (.int .i64 0))) 80 false),(aj 84 (.pick (.t 80) (.c (.bool true)) (.t 83))),(aC 85 84),(aF 86 (.lZ (.t 7) (some 6)) 85 false),(aF 87 (.call (.c (.fn 14 [])) [(.t 86)]) 85 false),(aF 88 (.un .not (.t 87)) 85 false),(aj 89 (.pick (.t 85) (.c (.bool true)) (.t 88))),(aC 90 89),(aF 91 (.lZ (.t 7) (some 6)) 90 false),(aF 94 (.mv (.t 0)) 90 false),(aF 95 (.vU (.t 94)) 90 false),(aF 92 (.call (.c (.fn 15 [])) [(.t 91)]) 90 false),(aF 93 (.vU (.t 92)) 90 false),(aF 96 (.bin .neq (.t 93) (.t 95)) 90 false),(aj 97 (.pick (.t 90) (.c (.bool true)) (.t 96)))])
abbrev DT:aD:=(.seq (.rg [(aj 2 (.alloc [(.str []),(.str []),(.int .i64 0),(.int .i64 0),(.int .u32 0),(.sl .ex 7 [])])),(aj 3 (.bf (.c (.int .i64 0))))]) (.seq (.rg [(aC 13 0),(aj 14 (.call (.c (.fn 55 [])) [(.t 13)])),(aC 12 14),(aj 15 (.ext (.t 12) 0)),(aj 16 (.ext (.t 12) 1)),(bk 4 15),(bk 5 16)]) (.seq (.seq (.rg [(aC 17 5),(aj 18 (.bin .neq (.t 17) (.c (.int .i64 0))))]) (.cond (.t 18) (.seq (.rg [(aj 19 (.build [(.str []),(.str []),(.int .i64 0),(.int .i64 0),(.int .u32 0),(.sl .ex 7 [])] [])),(aC 20 5),(cU (.st (.t 2) (.t 19) 6)),(bk 3 20)]) .ret) .skip)) (.seq (.rg [(aC 21 4),(aj 22 (.build [(.sl .ex 1 []),(.int .i64 0),(.int .i64 0)] [(0,(1,(.t 21)))])),(aj 23 (.box (.t 22))),(bk 6 23)]) (.seq (.rg [(aj 7 (.alloc [(.str []),(.str []),(.int .i64 0),(.int .i64 0),(.int .u32 0),(.sl .ex 7 [])]))]) (.seq (.rg [(aC 24 6),(aj 25 (.call (.c (.fn 56 [])) [(.t 24),(.c (.int .i64 1))])),(bk 8 25)]) (.seq (.rg [(aC 26 6),(aj 27 (.call (.c (.fn 57 [])) [(.t 26)])),(aj 28 (.aV (.t 7) 0)),(cU (.st (.t 28) (.t 27) 2))]) (.seq (.rg [(aC 29 6),(aj 30 (.call (.c (.fn 56 [])) [(.t 29),(.c (.int .i64 4))])),(aj 31 (.aV (.t 7) 2)),(cU (.st (.t 31) (.t 30) 1))]) (.seq (.rg [(aC 32 6),(aj 33 (.call (.c (.fn 56 [])) [(.t 32),(.c (.int .i64 4))])),(aj 34 (.aV (.t 7) 3)),(cU (.st (.t 34) (.t 33) 1))]) (.seq (.rg [(aC 35 6),(aj 36 (.call (.c (.fn 56 [])) [(.t 35),(.c (.int .i64 4))])),(aj 37 (.dX (.int .u32) (.t 36))),(aj 38 (.aV (.t 7) 4)),(cU (.st (.t 38) (.t 37) 1))]) (.seq (.rg [(aC 39 6),(aj 40 (.call (.c (.fn 56 [])) [(.t 39),(.c (.int .i64 1))])),(bk 9 40)]) (.seq (.seq (.rg [(aj 10 (.bf (.c (.int .i64 0))))]) (.blk 0 (.loop (erase oQ)))) (.seq (.seq (.sem (erase qT)) (.cond (.t 97) (.seq (.rg [(aj 98 (.build [(.str []),(.str []),(.int .i64 0),(.int .i64 0),(.int .u32 0),(.sl .ex 7 [])] [])),(cU (.st (.t 2) (.t 98) 6)),(aj 3 (.bf (.c (.int .i64 3))))]) .ret) .skip)) (.seq (.rg [(aj 99 (.ld (.t 7) (some 6))),(cU (.st (.t 2) (.t 99) 6)),(aj 3 (.bf (.c (.int .i64 0))))]) .ret))))))))))))))
theorem DU:bz Tryz.prog 20 100 [(.cell 2 32),(.tmp 3)] (erase DT):=⟨Tryz.f20,_,rfl,by decide,rfl,by kernel_rfl,rfl,rfl⟩
abbrev lf:List Nat:=[0,2,3,4,5,6,7,8,9,10,11,18,50,97]
def dU (F:Nat) (kP:Int):(Int×aP×ak)→Option (St (ak×Int) (aP×ak) (Int×aP×ak))
 |(i19,qU,gW)=>
  (if ((decide (i19<kP))&&(decide (qU.err=0))) then
   (iY F qU).bind fun (uH,A5)=>
   (bG F A5 1).bind fun (xR,Ln)=>
   (bG F Ln 1).bind fun (SW,Wh)=>
   (bG F Wh 4).bind fun (SX,r32)=>
   (bG F r32 2).bind fun (r33,Wi)=>
   (dN F Wi 65536).bind fun (Du,Wl)=>
   (ct 80 gW.az ([(aW.mk uH xR SW SX r33 Du)]:List aW)).bind fun x37=>
   some (.cK ((IntKind.wrap .i64 (i19+1)),Wl,(ak.mk gW.av gW.born gW.size gW.sum x37)))
  else
   some (.fF (qU,gW)))
def gZ (F:Nat) (r4:Int) (GW:aP) (iP:ak) (b1:List UInt8):Option (Bool×aP):=
 (if (!decide (r4=1)) then
  some (true,GW)
 else
  (gY GW).bind fun (Wm,Lp)=>
  (if (!decide (Wm=0)) then
   some (true,Lp)
  else
   (gy F iP).bind fun Wn=>
   (if (!Wn) then
    some (true,Lp)
   else
    (iW F iP).bind fun r47=>some ((!decide (r47=b1)),Lp))))
def kT (F:Nat) (b1:List UInt8):Option (ak×Int):=
 (qQ F b1).bind fun (r2,r3)=>
 (if (!decide (r3=0)) then
  some ((ak.mk (aH.mk ([]:List UInt8) ([]:List UInt8)) 0 0 0 ([]:List aW)),r3)
 else
  (bG F (aP.mk r2 0 0) 1).bind fun (r4,r5)=>
  (iY F r5).bind fun (r6,r7)=>
  (bG F r7 4).bind fun (r8,r9)=>
  (bG F r9 4).bind fun (lW,gE)=>
  (bG F gE 4).bind fun (n6,kQ)=>
  (bG F kQ 1).bind fun (kP,LH)=>
  ((iter (dU F kP) F (0,LH,(ak.mk r6 r8 lW (IntKind.wrap .u32 n6) ([]:List aW)))).bind fun o52=>
  match o52 with
  | .inr (GW,iP)=>
    (gZ F r4 GW iP b1).bind fun (t50,jO)=>
    (if t50 then
     some ((ak.mk (aH.mk ([]:List UInt8) ([]:List UInt8)) 0 0 0 ([]:List aW)),3)
    else
     some (iP,0))
  | .inl _=>none))
theorem ym {b1:List UInt8} {sZ:Nat} {Mb:Nat} {Mc:Nat} {r4:Int} {kP:Int} {i19:Int} {qU:aP} {gW:ak} {H0 H:AH} (hfr:Fr H0 H0.length [] H) (ai:H[sZ]? =some [(.str ([]:List UInt8)),(.str ([]:List UInt8)),(.int .i64 0),(.int .i64 0),(.int .u32 0),(.sl .own 7 [])]) (aq:H[Mb]? =some [(.sl .n 1 (ml b8 qU.b)),(.int .i64 qU.eA),(.int .i64 qU.err)]) (aR:H[Mc]? =some [(.str gW.av.au),(.str gW.av.domain),(.int .i64 gW.born),(.int .i64 gW.size),(.int .u32 gW.sum),(.sl .own 7 (ml aA gW.az))]) (eK:H0.length≤sZ) (hi1:H0.length≤Mb) (hi2:sZ≠Mb) (vB:H0.length≤Mc) (hi4:sZ≠Mc) (OA:Mb≠Mc) {K:Exit→Env→AH→Prop}
 (kn:∀H':AH,Fr H0 H0.length [] H'→H'[sZ]? =some [(.str ([]:List UInt8)),(.str ([]:List UInt8)),(.int .i64 0),(.int .i64 0),(.int .u32 0),(.sl .own 7 [])]→H'[Mb]? =some [(.sl .n 1 (ml b8 qU.b)),(.int .i64 qU.eA),(.int .i64 qU.err)]→H'[Mc]? =some [(.str gW.av.au),(.str gW.av.domain),(.int .i64 gW.born),(.int .i64 gW.size),(.int .u32 gW.sum),(.sl .own 7 (ml aA gW.az))]→K .normal [(0,(.sl .n 1 (ml b8 b1))),(2,(.ptr sZ 0)),(6,(.ptr Mb 0)),(7,(.ptr Mc 0)),(8,(.int .i64 r4)),(9,(.int .i64 kP)),(10,(.int .i64 i19)),(50,(.bool ((decide (i19<kP))&&(decide (qU.err=0)))))] H'):
 AX Tryz.prog lf 100 H0.length (erase qS) K [(0,(.sl .n 1 (ml b8 b1))),(2,(.ptr sZ 0)),(6,(.ptr Mb 0)),(7,(.ptr Mc 0)),(8,(.int .i64 r4)),(9,(.int .i64 kP)),(10,(.int .i64 i19))] H:=by
 refine dn fun K' hK=> ?_
 have hle:=hfr.le
 have aU:=aL ai
 have cE:=aL aq
 have lA:=aL aR
 refine aE (aB ai (aB aq aR)) ?_
 refine kj (fun eB=> ?_) fun eB=> ?_
 · refine aE (aB eB (aB ai (aB aq aR))) ?_
   exact hK _ _ _ _ _ (dy eB) ax (kn _ hfr (ai.trans rfl) (aq.trans rfl) (aR.trans rfl))
 · refine aE (aB eB (aB ai (aB aq aR))) ?_
   exact hK _ _ _ _ _ (dy eB) ax (kn _ hfr (ai.trans rfl) (aq.trans rfl) (aR.trans rfl))
theorem yo {F:Nat} {i19:Int} {kP:Int} {qU:aP} {gW:ak} {b1:List UInt8} {yp:Nat} {rL:Nat} {yq:Nat} {r4:Int} {H0 H:AH} (hfr:Fr H0 H0.length [] H) (ai:H[yp]? =some [(.str ([]:List UInt8)),(.str ([]:List UInt8)),(.int .i64 0),(.int .i64 0),(.int .u32 0),(.sl .own 7 [])]) (aq:H[rL]? =some [(.sl .n 1 (ml b8 qU.b)),(.int .i64 qU.eA),(.int .i64 qU.err)]) (aR:H[yq]? =some [(.str gW.av.au),(.str gW.av.domain),(.int .i64 gW.born),(.int .i64 gW.size),(.int .u32 gW.sum),(.sl .own 7 (ml aA gW.az))]) (eK:H0.length≤yp) (hi1:H0.length≤rL) (hi2:yp≠rL) (vB:H0.length≤yq) (hi4:yp≠yq) (OA:rL≠yq) {K:Exit→Env→AH→Prop} {o:(ak×Int)⊕(aP×ak)}
 (h:iter (dU F kP) F (i19,qU,gW)=some o)
 (di:∀o':aP×ak,o= .inr o'→∀H':AH,Fr H0 H0.length [] H'→H'[yp]? =some [(.str ([]:List UInt8)),(.str ([]:List UInt8)),(.int .i64 0),(.int .i64 0),(.int .u32 0),(.sl .own 7 [])]→H'[rL]? =some [(.sl .n 1 (ml b8 o'.1.b)),(.int .i64 o'.1.eA),(.int .i64 o'.1.err)]→H'[yq]? =some [(.str o'.2.av.au),(.str o'.2.av.domain),(.int .i64 o'.2.born),(.int .i64 o'.2.size),(.int .u32 o'.2.sum),(.sl .own 7 (ml aA o'.2.az))]→K (.exit 0) [(0,(.sl .n 1 (ml b8 b1))),(2,(.ptr yp 0)),(6,(.ptr rL 0)),(7,(.ptr yq 0)),(8,(.int .i64 r4))] H'):
 AX Tryz.prog lf 100 H0.length (.loop (erase oQ)) K [(0,(.sl .n 1 (ml b8 b1))),(2,(.ptr yp 0)),(6,(.ptr rL 0)),(7,(.ptr yq 0)),(8,(.int .i64 r4)),(9,(.int .i64 kP)),(10,(.int .i64 i19))] H:=by
 refine ja (fun s e H1=>match s with|(i19,qU,gW)=>e=[(0,(.sl .n 1 (ml b8 b1))),(2,(.ptr yp 0)),(6,(.ptr rL 0)),(7,(.ptr yq 0)),(8,(.int .i64 r4)),(9,(.int .i64 kP)),(10,(.int .i64 i19))]∧Fr H0 H0.length [] H1∧H1[yp]? =some [(.str ([]:List UInt8)),(.str ([]:List UInt8)),(.int .i64 0),(.int .i64 0),(.int .u32 0),(.sl .own 7 [])]∧H1[rL]? =some [(.sl .n 1 (ml b8 qU.b)),(.int .i64 qU.eA),(.int .i64 qU.err)]∧H1[yq]? =some [(.str gW.av.au),(.str gW.av.domain),(.int .i64 gW.born),(.int .i64 gW.size),(.int .u32 gW.sum),(.sl .own 7 (ml aA gW.az))]) h ⟨rfl,hfr,ai,aq,aR⟩ ?_
 rintro K' ⟨i19,qU,gW⟩ st e H ⟨rfl,hfr,ai,aq,aR⟩ h hN hB hR hX
 have hle:=hfr.le
 have aU:=aL ai
 have cE:=aL aq
 have lA:=aL aR
 rw [dU.eq_1] at h
 refine aE (aB ai (aB aq aR)) ?_
 refine cg ax (ym (b1:=b1) (sZ:=yp) (Mb:=rL) (Mc:=yq) (r4:=r4) (kP:=kP) (i19:=i19) (qU:=qU) (gW:=gW) hfr (ai.trans rfl) (aq.trans rfl) (aR.trans rfl) br br br br br br ?_)
 intro H hfr ai aq aR
 have hle:=hfr.le
 have aU:=aL ai
 have cE:=aL aq
 have lA:=aL aR
 refine aE (aB ai (aB aq aR)) ?_
 refine bX h (fun cY h=> ?_) fun cY h=> ?_
 · refine aE (aB ai (aB aq aR)) ?_
   obtain ⟨⟨uH,A5⟩,cG,h⟩:=ay h
   dsimp only at h
   refine bg ax (tZ (q1:=rL) (ez (aq.trans rfl)) cG) ?_
   refine aE (aB ai (aB aq aR)) ?_
   obtain ⟨⟨xR,Ln⟩,ei,h⟩:=ay h
   dsimp only at h
   refine bg ax (bZ (q1:=rL) (aY bL) ei) ?_
   refine aE (aB ai (aB aq aR)) ?_
   obtain ⟨⟨SW,Wh⟩,cZ,h⟩:=ay h
   dsimp only at h
   refine bg ax (bZ (q1:=rL) (aY bL) cZ) ?_
   refine aE (aB ai (aB aq aR)) ?_
   obtain ⟨⟨SX,r32⟩,fV,h⟩:=ay h
   dsimp only at h
   refine bg ax (bZ (q1:=rL) (aY bL) fV) ?_
   refine aE (aB ai (aB aq aR)) ?_
   obtain ⟨⟨r33,Wi⟩,kH,h⟩:=ay h
   dsimp only at h
   refine bg ax (bZ (q1:=rL) (aY bL) kH) ?_
   refine aE (aB ai (aB aq aR)) ?_
   obtain ⟨⟨Du,Wl⟩,fW,h⟩:=ay h
   dsimp only at h
   refine bg ax (jd (q1:=rL) (aY bL) fW) ?_
   refine aE (aB ai (aB aq aR)) ?_
   obtain ⟨x37,jt,h⟩:=ay h
   have mo:ct 80 (ml aA gW.az) [(.agg [(.str uH.au),(.str uH.domain),(.int .i64 xR),(.int .i64 SW),(.int .i64 SX),(.int .i64 r33),(.str Du)])]=some (ml aA x37):=dI (f:=aA) jt
   refine aE (aB mo (aB ai (aB aq aR))) ?_
   obtain rfl:=aJ h
   exact hN _ rfl _ _ _ _ aX ax ⟨rfl,(bn _ (bn _ (bn _ (bn _ (bn _ (bn _ (bn _ (bn _ (bn _ (bn _ (bn _ (bn _ (bn _ (bn _ (Fr.app hfr))))))))))))))),(aY (aY (aY (aY (aY (aY (aY (aY (aY (aY (aY (aY (aY (aY (ez (ai.trans rfl)))))))))))))))),(aY (aY (aY bL))),bL⟩
 · refine aE (aB ai (aB aq aR)) ?_
   obtain rfl:=aJ h
   exact hX _ _ _ _ _ eI aX ax (di _ (hB _ rfl) _ hfr (ai.trans rfl) (aq.trans rfl) (aR.trans rfl))
theorem yt {F:Nat} {r4:Int} {GW:aP} {iP:ak} {b1:List UInt8} {O1:Nat} {Tc:Nat} {H0 H:AH} (hfr:Fr H0 H0.length [] H) (ai:H[O1]? =some [(.str ([]:List UInt8)),(.str ([]:List UInt8)),(.int .i64 0),(.int .i64 0),(.int .u32 0),(.sl .own 7 [])]) (aq:H[Tc]? =some [(.sl .n 1 (ml b8 GW.b)),(.int .i64 GW.eA),(.int .i64 GW.err)]) (eK:H0.length≤O1) (hi1:H0.length≤Tc) (hi2:O1≠Tc) {K:Exit→Env→AH→Prop} {t48:Bool} {ZG:aP}
 (h:gZ F r4 GW iP b1=some (t48,ZG))
 (kn:∀H':AH,Fr H0 H0.length [] H'→H'[O1]? =some [(.str ([]:List UInt8)),(.str ([]:List UInt8)),(.int .i64 0),(.int .i64 0),(.int .u32 0),(.sl .own 7 [])]→H'[Tc]? =some [(.sl .n 1 (ml b8 ZG.b)),(.int .i64 ZG.eA),(.int .i64 ZG.err)]→K .normal [(2,(.ptr O1 0)),(7,(.ep (.agg [(.str iP.av.au),(.str iP.av.domain),(.int .i64 iP.born),(.int .i64 iP.size),(.int .u32 iP.sum),(.sl .n 7 (ml aA iP.az))]) 0)),(97,(.bool t48))] H'):
 AX Tryz.prog lf 100 H0.length (erase qT) K [(0,(.sl .n 1 (ml b8 b1))),(2,(.ptr O1 0)),(6,(.ptr Tc 0)),(7,(.ep (.agg [(.str iP.av.au),(.str iP.av.domain),(.int .i64 iP.born),(.int .i64 iP.size),(.int .u32 iP.sum),(.sl .n 7 (ml aA iP.az))]) 0)),(8,(.int .i64 r4))] H:=by
 refine dn fun K' hK=> ?_
 have hle:=hfr.le
 have aU:=aL ai
 have cE:=aL aq
 rw [gZ.eq_1] at h
 refine aE (aB ai aq) ?_
 refine ck h (fun jv h=> ?_) fun jv h=> ?_
 · refine aE (aB jv (aB ai aq)) ?_
   obtain ⟨rfl,rfl⟩:=dm h
   exact hK _ _ _ _ _ (dy jv) ax (kn _ hfr (ai.trans rfl) (aq.trans rfl))
 · refine aE (aB jv (aB ai aq)) ?_
   obtain ⟨⟨Wm,Lp⟩,mq,h⟩:=ay h
   dsimp only at h
   refine bg ax (yl (aq.trans rfl) mq) ?_
   refine aE (aB ai aq) ?_
   refine ck h (fun j0 h=> ?_) fun j0 h=> ?_
   · refine aE (aB j0 (aB ai aq)) ?_
     obtain ⟨rfl,rfl⟩:=dm h
     exact hK _ _ _ _ _ (dy (aB jv j0)) ax (kn _ (bn _ hfr) (aY (ai.trans rfl)) bL)
   · refine aE (aB j0 (aB ai aq)) ?_
     obtain ⟨Wn,n9,h⟩:=ay h
     refine bg ax (k8 n9) ?_
     refine aE (aB ai aq) ?_
     refine ck h (fun kI h=> ?_) fun kI h=> ?_
     · refine aE (aB kI (aB ai aq)) ?_
       obtain ⟨rfl,rfl⟩:=dm h
       exact hK _ _ _ _ _ (dy (aB jv (aB j0 kI))) ax (kn _ (bn _ hfr) (aY (ai.trans rfl)) bL)
     · refine aE (aB kI (aB ai aq)) ?_
       obtain ⟨r47,mu,h⟩:=ay h
       refine bg ax (tX mu) ?_
       refine aE (aB ai aq) ?_
       obtain ⟨rfl,rfl⟩:=dm h
       exact hK _ _ _ _ _ (dy (aB jv (aB j0 kI))) ax (kn _ (bn _ hfr) (aY (ai.trans rfl)) bL)
theorem CF {F:Nat} {b1:List UInt8} {H0:AH} {aM:ak} {cD:Int} (h:kT F b1=some (aM,cD)):
 aG Tryz.prog 20 [(.sl .n 1 (ml b8 b1))] H0 fun v H'=>v=(.bM [(.agg [(.str aM.av.au),(.str aM.av.domain),(.int .i64 aM.born),(.int .i64 aM.size),(.int .u32 aM.sum),(.sl .n 7 (ml aA aM.az))]),(.int .i64 cD)])∧H'=H0:=by
 refine ec DU lf [] fun hcl K0 aO H hH hfr=> ?_
 clear hH
 have hle:=hfr.le
 rw [kT.eq_1] at h
 refine bR ?_
 obtain ⟨⟨r2,r3⟩,hy1,h⟩:=ay h
 dsimp only at h
 refine bg ax (GV hy1) ?_
 refine bR ?_
 refine bX h (fun bh h=> ?_) fun bh h=> ?_
 · refine bR ?_
   obtain ⟨rfl,rfl⟩:=dm h
   exact aO _ _ _ bE (bp (bn _ (Fr.app hfr)) hcl (gB (cs:=[(.str ([]:List UInt8)),(.str ([]:List UInt8)),(.int .i64 0),(.int .i64 0),(.int .u32 0),(.sl .ex 7 [])]) (v:=(.agg [(.str ([]:List UInt8)),(.str ([]:List UInt8)),(.int .i64 0),(.int .i64 0),(.int .u32 0),(.sl .ex 7 [])])) (by kernel_rfl) (n:=(some 6)) (by kernel_rfl) rfl bL (by simp [jm,jl,lV,b5,AV.flat,nM,ox,AV.bT,Tg.sh]) (bC bx (.int .i64 r3))) bA bt ⟨rfl,rfl⟩)
 · refine bR ?_
   obtain ⟨⟨r4,r5⟩,bw,h⟩:=ay h
   dsimp only at h
   refine bg ax (bZ (q1:=(H.length+1)) (ez kg) bw) ?_
   refine bR ?_
   obtain ⟨⟨r6,r7⟩,bu,h⟩:=ay h
   dsimp only at h
   refine bg ax (tZ (q1:=(H.length+1)) bL bu) ?_
   refine bR ?_
   obtain ⟨⟨r8,r9⟩,bV,h⟩:=ay h
   dsimp only at h
   refine bg ax (bZ (q1:=(H.length+1)) (aY bL) bV) ?_
   refine bR ?_
   obtain ⟨⟨lW,gE⟩,cu,h⟩:=ay h
   dsimp only at h
   refine bg ax (bZ (q1:=(H.length+1)) (aY bL) cu) ?_
   refine bR ?_
   obtain ⟨⟨n6,kQ⟩,dw,h⟩:=ay h
   dsimp only at h
   refine bg ax (bZ (q1:=(H.length+1)) (aY bL) dw) ?_
   refine bR ?_
   obtain ⟨⟨kP,LH⟩,dD,h⟩:=ay h
   dsimp only at h
   refine bg ax (bZ (q1:=(H.length+1)) (aY bL) dD) ?_
   refine bR ?_
   obtain ⟨rL,ZH⟩:∃q:Nat,(H.length+1)=q:=⟨_,rfl⟩
   try rw [ZH]
   obtain ⟨yq,ZI⟩:∃q:Nat,(H.length+2)=q:=⟨_,rfl⟩
   try rw [ZI]
   obtain ⟨yp,ZJ⟩:∃q:Nat,H.length=q:=⟨_,rfl⟩
   try rw [ZJ]
   try rw [show yp+1=rL from by omega]
   try rw [show rL+1=yq from by omega]
   obtain ⟨o52,ju,h⟩:=ay h
   refine cg (eV.PN (q:=yq) (cs':=[(.str r6.au),(.str r6.domain),(.int .i64 r8),(.int .i64 lW),(.int .u32 (IntKind.wrap .u32 n6)),(.sl .own 7 [])]) (eV.set (q:=yp) (cs':=[(.str ([]:List UInt8)),(.str ([]:List UInt8)),(.int .i64 0),(.int .i64 0),(.int .u32 0),(.sl .own 7 [])]) (aY (aY (aY (aY (aY (aY (aY (aY (aY (aY (ez (ez kg)))))))))))) gC) (aY bL) gC) (yo (b1:=b1) (r4:=r4) (yp:=yp) (rL:=rL) (yq:=yq) (bn _ (bn _ (bn _ (bn _ (bn _ (bn _ (bn _ (bn _ (bn _ (bn _ (bn _ (bn _ (Fr.app (Fr.app (Fr.app hfr))))))))))))))) (aY bL) (aY (aY bL)) bL br br br br br br ju ?_)
   · rintro ⟨GW,iP⟩ rfl H hfr ai aq aR
     try dsimp only at h ai aq aR
     have hle:=hfr.le
     have aU:=aL ai
     have cE:=aL aq
     have lA:=aL aR
     refine aE (aB ai (aB aq aR)) ?_
     refine Ov ?_
     apply AX.freeze (s:=yq) (cs:=[(.str iP.av.au),(.str iP.av.domain),(.int .i64 iP.born),(.int .i64 iP.size),(.int .u32 iP.sum),(.sl .own 7 (ml aA iP.az))]) (by exact (aR.trans rfl)) (cx.same (cx.same (cx.same (cx.same (cx.same (cx.n (cx.nil))))))) (by simp)
     · repeat (first|exact FZ.nil|apply FZ.ep|apply FZ.same)
     refine V7 ?_
     obtain ⟨⟨t50,jO⟩,wI,h⟩:=ay h
     dsimp only at h
     refine cg ax (yt (O1:=yp) (Tc:=rL) (bn _ hfr) (aY (ai.trans rfl)) (aY (aq.trans rfl)) br br br wI ?_)
     intro H hfr ai aq
     have hle:=hfr.le
     have aU:=aL ai
     have cE:=aL aq
     refine aE (aB ai aq) ?_
     refine bX h (fun Bi h=> ?_) fun Bi h=> ?_
     · refine aE (aB ai aq) ?_
       obtain ⟨rfl,rfl⟩:=dm h
       exact aO _ _ _ bE (bp (bn _ hfr) hcl (gB (cs:=[(.str ([]:List UInt8)),(.str ([]:List UInt8)),(.int .i64 0),(.int .i64 0),(.int .u32 0),(.sl .ex 7 [])]) (v:=(.agg [(.str ([]:List UInt8)),(.str ([]:List UInt8)),(.int .i64 0),(.int .i64 0),(.int .u32 0),(.sl .ex 7 [])])) (by kernel_rfl) (n:=(some 6)) (by kernel_rfl) rfl bL (by simp [jm,jl,lV,b5,AV.flat,nM,ox,AV.bT,Tg.sh]) (bC bx (.int .i64 3))) bA bt ⟨rfl,rfl⟩)
     · refine aE (aB ai aq) ?_
       obtain ⟨rfl,rfl⟩:=dm h
       exact aO _ _ _ bE (bp (bn _ hfr) hcl (gB (cs:=[(.str iP.av.au),(.str iP.av.domain),(.int .i64 iP.born),(.int .i64 iP.size),(.int .u32 iP.sum),(.sl .n 7 (ml aA iP.az))]) (v:=(.agg [(.str iP.av.au),(.str iP.av.domain),(.int .i64 iP.born),(.int .i64 iP.size),(.int .u32 iP.sum),(.sl .n 7 (ml aA iP.az))])) (by kernel_rfl) (n:=(some 6)) (by kernel_rfl) rfl bL (by simp [jm,jl,lV,b5,AV.flat,nM,ox,AV.bT,Tg.sh]) (bC bx (.int .i64 0))) bA bt ⟨rfl,rfl⟩)
abbrev ua:aD:=(.rg ((aj 6 (.aV (.t 2) 0))::(aj 7 (.ld (.t 6) (some 2)))::(aj 8 (.aV (.t 3) 0))::(aj 9 (.ld (.t 8) (some 2)))::(aj 10 (.seq [.s, .s] true (.t 7) (.t 9)))::(aC 11 10)::(aF 12 (.aV (.t 2) 2) 11 false)::(aF 13 (.ld (.t 12) none) 11 false)::(aF 14 (.aV (.t 3) 2) 11 false)::(aF 15 (.ld (.t 14) none) 11 false)::(aF 16 (.bin .neq (.t 13) (.t 15)) 11 false)::(aj 17 (.pick (.t 11) (.c (.bool true)) (.t 16)))::(aC 18 17)::(aF 19 (.aV (.t 2) 3) 18 false)::(aF 20 (.ld (.t 19) none) 18 false)::(aF 21 (.aV (.t 3) 3) 18 false)::(aF 22 (.ld (.t 21) none) 18 false)::(aF 23 (.bin .neq (.t 20) (.t 22)) 18 false)::(aj 24 (.pick (.t 18) (.c (.bool true)) (.t 23)))::(aC 25 24)::(aF 26 (.aV (.t 2) 4) 25 false)::(aF 27 (.ld (.t 26) none) 25 false)::(aF 28 (.aV (.t 3) 4) 25 false)::(aF 29 (.ld (.t 28) none) 25 false)::(aF 30 (.bin .neq (.t 27) (.t 29)) 25 false)::(aj 31 (.pick (.t 25) (.c (.bool true)) (.t 30)))::(aC 32 31)::(aF 33 (.aV (.t 2) 5) 32 false)::(aF 34 (.ld (.t 33) none) 32 false)::(aF 35 (.len (.t 34)) 32 false)::(aF 36 (.aV (.t 3) 5) 32 false)::(aF 37 (.ld (.t 36) none) 32 false)::(aF 38 (.len (.t 37)) 32 false)::(aF 39 (.bin .neq (.t 35) (.t 38)) 32 false)::(aj 40 (.pick (.t 32) (.c (.bool true)) (.t 39)))::[]))
abbrev sI:aD:=(.seq (.seq (.rg [(aC 41 5),(aj 42 (.aV (.t 2) 5)),(aj 43 (.ld (.t 42) none)),(aj 44 (.len (.t 43))),(aj 45 (.bin .lss (.t 41) (.t 44)))]) (.cond (.t 45) .skip (.exit 0))) (.seq (.blk 1 (.seq (.rg [(aj 48 (.aV (.t 2) 5)),(aj 49 (.ld (.t 48) none)),(aC 50 5),(aj 51 (.ku 7 (.t 49) (.t 50))),(aj 52 (.ld (.t 51) (some 7))),(aj 53 (.aV (.t 3) 5)),(aj 54 (.ld (.t 53) none)),(aC 55 5),(aj 56 (.ku 7 (.t 54) (.t 55))),(aj 57 (.ld (.t 56) (some 7))),(aj 58 (.seq [.s, .s, .i, .i, .i, .i, .s] true (.t 52) (.t 57)))]) (.cond (.t 58) (.seq (.rg [(aj 4 (.bf (.c (.bool false))))]) .ret) .skip))) (.rg [(aC 46 5),(aj 47 (.bin .add (.t 46) (.c (.int .i64 1)))),(bk 5 47)])))
abbrev GX:aD:=(.seq (.rg [(aj 2 (.box (.t 0))),(aj 3 (.box (.t 1))),(aj 4 (.bf (.c (.bool false))))]) (.seq (.seq (.sem (erase ua)) (.cond (.t 40) (.seq (.rg [(aj 4 (.bf (.c (.bool false))))]) .ret) .skip)) (.seq (.seq (.rg [(aj 5 (.bf (.c (.int .i64 0))))]) (.blk 0 (.loop (erase sI)))) (.seq (.rg [(aj 4 (.bf (.c (.bool true))))]) .ret))))
theorem GY:bz Tryz.prog 21 59 [(.tmp 4)] (erase GX):=⟨Tryz.f21,_,rfl,by decide,rfl,by kernel_rfl,rfl,rfl⟩
abbrev th:List Nat:=[0,1,2,3,4,5,40,45,58]
def ga (a1:ak) (b2:ak):Int→Option (St Bool Unit Int)
 |i7=>
  (if (decide (i7<(a1.az.length:Int))) then
   (idx a1.az i7).bind fun x8=>
   (idx b2.az i7).bind fun x9=>
   (if (!(decide (x8.cv.au=x9.cv.au)&&(decide (x8.cv.domain=x9.cv.domain)&&(decide (x8.state=x9.state)&&(decide (x8.tries=x9.tries)&&(decide (x8.next=x9.next)&&(decide (x8.code=x9.code)&&decide (x8.why=x9.why)))))))) then
    some (.ret false)
   else
    some (.cK (IntKind.wrap .i64 (i7+1))))
  else
   some (.fF ()))
def lS (F:Nat) (a1:ak) (b2:ak):Option (Bool):=
 (if (((((!(decide (a1.av.au=b2.av.au)&&decide (a1.av.domain=b2.av.domain)))||(!decide (a1.born=b2.born)))||(!decide (a1.size=b2.size)))||(!decide (a1.sum=b2.sum)))||(!decide ((a1.az.length:Int)=(b2.az.length:Int)))) then
  some false
 else
  ((iter (ga a1 b2) F 0).bind fun EZ=>
  match EZ with
  | .inr ()=>
    some true
  | .inl gE=>
    some gE))
theorem Bz {q3:Nat} {q4:Nat} {a1:ak} {b2:ak} {H0 H:AH} (hfr:Fr H0 H0.length [] H) (ai:H[q3]? =some [(.str a1.av.au),(.str a1.av.domain),(.int .i64 a1.born),(.int .i64 a1.size),(.int .u32 a1.sum),(.sl .n 7 (ml aA a1.az))]) (aq:H[q4]? =some [(.str b2.av.au),(.str b2.av.domain),(.int .i64 b2.born),(.int .i64 b2.size),(.int .u32 b2.sum),(.sl .n 7 (ml aA b2.az))]) (eK:H0.length≤q3) (hi1:H0.length≤q4) (hi2:q3≠q4) {K:Exit→Env→AH→Prop}
 (kn:∀H':AH,Fr H0 H0.length [] H'→H'[q3]? =some [(.str a1.av.au),(.str a1.av.domain),(.int .i64 a1.born),(.int .i64 a1.size),(.int .u32 a1.sum),(.sl .n 7 (ml aA a1.az))]→H'[q4]? =some [(.str b2.av.au),(.str b2.av.domain),(.int .i64 b2.born),(.int .i64 b2.size),(.int .u32 b2.sum),(.sl .n 7 (ml aA b2.az))]→K .normal [(2,(.ptr q3 0)),(3,(.ptr q4 0)),(40,(.bool (((((!(decide (a1.av.au=b2.av.au)&&decide (a1.av.domain=b2.av.domain)))||(!decide (a1.born=b2.born)))||(!decide (a1.size=b2.size)))||(!decide (a1.sum=b2.sum)))||(!decide ((a1.az.length:Int)=(b2.az.length:Int))))))] H'):
 AX Tryz.prog th 59 H0.length (erase ua) K [(2,(.ptr q3 0)),(3,(.ptr q4 0))] H:=by
 refine dn fun K' hK=> ?_
 have hle:=hfr.le
 have aU:=aL ai
 have cE:=aL aq
 refine aE (aB ai aq) ?_
 refine kj (fun hy1=> ?_) fun hy1=> ?_
 · refine aE (aB hy1 (aB ai aq)) ?_
   exact hK _ _ _ _ _ (dy hy1) ax (kn _ hfr (ai.trans rfl) (aq.trans rfl))
 · refine aE (aB hy1 (aB ai aq)) ?_
   refine kj (fun bh=> ?_) fun bh=> ?_
   · refine aE (aB bh (aB ai aq)) ?_
     exact hK _ _ _ _ _ (dy (aB hy1 bh)) ax (kn _ hfr (ai.trans rfl) (aq.trans rfl))
   · refine aE (aB bh (aB ai aq)) ?_
     refine kj (fun bw=> ?_) fun bw=> ?_
     · refine aE (aB bw (aB ai aq)) ?_
       exact hK _ _ _ _ _ (dy (aB hy1 (aB bh bw))) ax (kn _ hfr (ai.trans rfl) (aq.trans rfl))
     · refine aE (aB bw (aB ai aq)) ?_
       refine kj (fun bu=> ?_) fun bu=> ?_
       · refine aE (aB bu (aB ai aq)) ?_
         exact hK _ _ _ _ _ (dy (aB hy1 (aB bh (aB bw bu)))) ax (kn _ hfr (ai.trans rfl) (aq.trans rfl))
       · refine aE (aB bu (aB ai aq)) ?_
         exact hK _ _ _ _ _ (dy (aB hy1 (aB bh (aB bw bu)))) ax (kn _ hfr (ai.trans rfl) (aq.trans rfl))
theorem BA {F:Nat} {i7:Int} {a1:ak} {b2:ak} {q5:Nat} {q6:Nat} {H0 H:AH} (hfr:Fr H0 H0.length [] H) (ai:H[q5]? =some [(.str a1.av.au),(.str a1.av.domain),(.int .i64 a1.born),(.int .i64 a1.size),(.int .u32 a1.sum),(.sl .n 7 (ml aA a1.az))]) (aq:H[q6]? =some [(.str b2.av.au),(.str b2.av.domain),(.int .i64 b2.born),(.int .i64 b2.size),(.int .u32 b2.sum),(.sl .n 7 (ml aA b2.az))]) (eK:H0.length≤q5) (hi1:H0.length≤q6) (hi2:q5≠q6) {K:Exit→Env→AH→Prop} {o:(Bool)⊕(Unit)}
 (h:iter (ga a1 b2) F i7=some o)
 (di:∀o':Unit,o= .inr o'→∀H':AH,Fr H0 H0.length [] H'→H'[q5]? =some [(.str a1.av.au),(.str a1.av.domain),(.int .i64 a1.born),(.int .i64 a1.size),(.int .u32 a1.sum),(.sl .n 7 (ml aA a1.az))]→H'[q6]? =some [(.str b2.av.au),(.str b2.av.domain),(.int .i64 b2.born),(.int .i64 b2.size),(.int .u32 b2.sum),(.sl .n 7 (ml aA b2.az))]→K (.exit 0) [] H')
 (kr:∀o':Bool,o= .inl o'→∀H':AH,Fr H0 H0.length [] H'→K .ret [(4,(.bool o'))] H'):
 AX Tryz.prog th 59 H0.length (.loop (erase sI)) K [(2,(.ptr q5 0)),(3,(.ptr q6 0)),(5,(.int .i64 i7))] H:=by
 refine ja (fun s e H1=>match s with|i7=>e=[(2,(.ptr q5 0)),(3,(.ptr q6 0)),(5,(.int .i64 i7))]∧Fr H0 H0.length [] H1∧H1[q5]? =some [(.str a1.av.au),(.str a1.av.domain),(.int .i64 a1.born),(.int .i64 a1.size),(.int .u32 a1.sum),(.sl .n 7 (ml aA a1.az))]∧H1[q6]? =some [(.str b2.av.au),(.str b2.av.domain),(.int .i64 b2.born),(.int .i64 b2.size),(.int .u32 b2.sum),(.sl .n 7 (ml aA b2.az))]) h ⟨rfl,hfr,ai,aq⟩ ?_
 rintro K' i7 st e H ⟨rfl,hfr,ai,aq⟩ h hN hB hR hX
 have hle:=hfr.le
 have aU:=aL ai
 have cE:=aL aq
 rw [ga.eq_1] at h
 refine aE (aB ai aq) ?_
 refine bX h (fun cu h=> ?_) fun cu h=> ?_
 · obtain ⟨x8,dw,h⟩:=ay h
   obtain ⟨x9,dD,h⟩:=ay h
   refine aE (aB dw (aB dD (aB ai aq))) ?_
   refine bX h (fun eB h=> ?_) fun eB h=> ?_
   · refine aE (aB ai aq) ?_
     obtain rfl:=aJ h
     exact hX _ _ _ _ _ eI aX ax (kr _ (hR _ rfl) _ hfr)
   · refine aE (aB ai aq) ?_
     obtain rfl:=aJ h
     exact hN _ rfl _ _ _ _ aX ax ⟨rfl,hfr,(ai.trans rfl),(aq.trans rfl)⟩
 · refine aE (aB ai aq) ?_
   obtain rfl:=aJ h
   exact hX _ _ _ _ _ eI WE.nil ax (di _ (hB _ rfl) _ hfr (ai.trans rfl) (aq.trans rfl))
theorem xo {F:Nat} {a1:ak} {b2:ak} {H0:AH} {aM:Bool} (h:lS F a1 b2=some aM):
 aG Tryz.prog 21 [(.agg [(.str a1.av.au),(.str a1.av.domain),(.int .i64 a1.born),(.int .i64 a1.size),(.int .u32 a1.sum),(.sl .n 7 (ml aA a1.az))]),(.agg [(.str b2.av.au),(.str b2.av.domain),(.int .i64 b2.born),(.int .i64 b2.size),(.int .u32 b2.sum),(.sl .n 7 (ml aA b2.az))])] H0 fun v H'=>v=(.bool aM)∧H'=H0:=by
 refine ec GY th [] fun hcl K0 aO H hH hfr=> ?_
 clear hH
 have hle:=hfr.le
 rw [lS.eq_1] at h
 refine bR ?_
 obtain ⟨q4,uB⟩:∃q:Nat,(H.length+1)=q:=⟨_,rfl⟩
 try rw [uB]
 obtain ⟨q3,y9⟩:∃q:Nat,H.length=q:=⟨_,rfl⟩
 try rw [y9]
 try rw [show q3+1=q4 from by omega]
 refine cg ax (Bz (q3:=q3) (q4:=q4) (a1:=a1) (b2:=b2) (Fr.app (Fr.app hfr)) (ez kg) kg br br br ?_)
 intro H hfr ai aq
 have hle:=hfr.le
 have aU:=aL ai
 have cE:=aL aq
 refine aE (aB ai aq) ?_
 refine bX h (fun bV h=> ?_) fun bV h=> ?_
 · refine aE (aB ai aq) ?_
   obtain rfl:=aJ h
   exact aO _ _ _ bE (bp hfr hcl (bC bx (.bool false)) bA bt ⟨rfl,rfl⟩)
 · refine aE (aB ai aq) ?_
   obtain ⟨EZ,cY,h⟩:=ay h
   refine cg ax (BA (q5:=q3) (q6:=q4) hfr (ai.trans rfl) (aq.trans rfl) br br br cY ?_ ?_)
   · rintro ⟨⟩ rfl H hfr ai aq
     try dsimp only at h ai aq
     have hle:=hfr.le
     have aU:=aL ai
     have cE:=aL aq
     refine aE (aB ai aq) ?_
     obtain rfl:=aJ h
     exact aO _ _ _ bE (bp hfr hcl (bC bx (.bool true)) bA bt ⟨rfl,rfl⟩)
   · rintro gE rfl H hfr
     try dsimp only at h
     have hle:=hfr.le
     refine bR ?_
     obtain rfl:=aJ h
     exact aO _ _ _ bE (bp hfr hcl (bC bx (.bool gE)) bA bt ⟨rfl,rfl⟩)
abbrev ou:aD:=(.rg [(aC 13 0),(aj 14 (.len (.t 13))),(aj 15 (.bin .gtr (.t 14) (.c (.int .i64 16384)))),(aC 16 15),(aF 17 (.ld (.t 4) (some 6)) 16 false),(aF 18 (.call (.c (.fn 8 [])) [(.t 17)]) 16 false),(aF 19 (.un .not (.t 18)) 16 false),(aj 20 (.pick (.t 16) (.c (.bool true)) (.t 19))),(aC 21 20),(aF 22 (.ld (.t 5) (some 6)) 21 false),(aF 23 (.call (.c (.fn 8 [])) [(.t 22)]) 21 false),(aF 24 (.un .not (.t 23)) 21 false),(aj 25 (.pick (.t 21) (.c (.bool true)) (.t 24)))])
abbrev ov:aD:=(.rg [(aj 36 (.lZ (.t 7) (some 6))),(aj 38 (.lZ (.t 9) (some 6))),(aj 37 (.call (.c (.fn 9 [])) [(.t 36)])),(aj 39 (.call (.c (.fn 21 [])) [(.t 37),(.t 38)])),(aC 40 39),(aF 41 (.mv (.t 8)) 40 true),(aF 42 (.mv (.t 10)) 40 true),(aF 43 (.bin .eql (.t 41) (.t 42)) 40 true),(aj 44 (.pick (.t 40) (.t 43) (.c (.bool false)))),(aC 45 44),(aF 46 (.lZ (.t 4) (some 6)) 45 true),(aF 47 (.lZ (.t 5) (some 6)) 45 true),(aF 49 (.lZ (.t 4) (some 6)) 45 true),(aF 51 (.lZ (.t 5) (some 6)) 45 true),(aF 48 (.call (.c (.fn 19 [])) [(.t 46),(.t 47)]) 45 true),(aF 50 (.call (.c (.fn 9 [])) [(.t 49)]) 45 true),(aF 52 (.call (.c (.fn 9 [])) [(.t 51)]) 45 true),(aF 53 (.call (.c (.fn 21 [])) [(.t 50),(.t 52)]) 45 true),(aF 54 (.bq false (.t 48) (.t 53)) 45 true),(aj 55 (.pick (.t 45) (.t 54) (.c (.bool false)))),(aC 56 55),(aF 57 (.lZ (.t 4) (some 6)) 56 true),(aF 58 (.lZ (.t 4) (some 6)) 56 true),(aF 59 (.call (.c (.fn 19 [])) [(.t 57),(.t 58)]) 56 true),(aj 60 (.pick (.t 56) (.t 59) (.c (.bool false)))),(bk 6 60)])
abbrev BB:aD:=(.seq (.rg [(aj 4 (.box (.t 1))),(aj 5 (.box (.t 2))),(aj 6 (.bf (.c (.bool false))))]) (.seq (.seq (.rg [(aj 11 (.call (.c (.fn 7 [])) [])),(aj 12 (.un .not (.t 11)))]) (.cond (.t 12) (.seq (.rg [(aj 6 (.bf (.c (.bool false))))]) .ret) .skip)) (.seq (.seq (.sem (erase ou)) (.cond (.t 25) (.seq (.rg [(aj 6 (.bf (.c (.bool true))))]) .ret) .skip)) (.seq (.rg [(aC 27 0),(aj 28 (.call (.c (.fn 18 [])) [(.t 27)])),(aC 26 28),(aj 29 (.ext (.t 26) 0)),(aj 30 (.ext (.t 26) 1)),(aj 7 (.alloc [(.str []),(.str []),(.int .i64 0),(.int .i64 0),(.int .u32 0),(.sl .ex 7 [])])),(cU (.st (.t 7) (.t 29) 6)),(bk 8 30)]) (.seq (.rg [(aC 32 0),(aj 33 (.call (.c (.fn 20 [])) [(.t 32)])),(aC 31 33),(aj 34 (.ext (.t 31) 0)),(aj 35 (.ext (.t 31) 1)),(aj 9 (.alloc [(.str []),(.str []),(.int .i64 0),(.int .i64 0),(.int .u32 0),(.sl .ex 7 [])])),(cU (.st (.t 9) (.t 34) 6)),(bk 10 35)]) (.seq (.sem (erase ov)) .ret))))))
theorem BC:bz Tryz.prog 4 61 [(.tmp 6)] (erase BB):=⟨Tryz.f4,_,rfl,by decide,rfl,by kernel_rfl,rfl,rfl⟩
abbrev mP:List Nat:=[0,1,2,4,5,6,7,8,9,10,12,25]
def iD (F:Nat) (b1:List UInt8) (x2:ak) (y3:ak):Option (Bool):=
 (if (decide (16384<(b1.length:Int))) then
  some true
 else
  (lC F x2).bind fun r7=>
  (if (!r7) then
   some true
  else
   (lC F y3).bind fun r8=>some (!r8)))
def iE (F:Nat) (gE:ak) (kQ:ak) (n6:Int) (kP:Int) (x2:ak) (y3:ak):Option (Bool):=
 (lN F gE).bind fun LH=>
 (lS F LH kQ).bind fun r16=>
 (if r16 then
  (if (decide (n6=kP)) then
   (lM F x2 y3).bind fun Be=>
   (lN F x2).bind fun ny=>
   (lN F y3).bind fun rF=>
   (lS F ny rF).bind fun Wj=>
   (if (Be==Wj) then
    (lM F x2 x2).bind fun Lo=>some Lo
   else
    some false)
  else
   some false)
 else
  some false)
def iQ (F:Nat) (b1:List UInt8) (x2:ak) (y3:ak):Option (Bool):=
 (iA F).bind fun r4=>
 (if (!r4) then
  some false
 else
  (iD F b1 x2 y3).bind fun t10=>
  (if t10 then
   some true
  else
   (ic F b1).bind fun (gE,n6)=>
   (kT F b1).bind fun (kQ,kP)=>
   (iE F gE kQ n6 kP x2 y3).bind fun t23=>
   some t23))
theorem vS {F:Nat} {b1:List UInt8} {x2:ak} {y3:ak} {q5:Nat} {q6:Nat} {H0 H:AH} (hfr:Fr H0 H0.length [] H) (ai:H[q5]? =some [(.str x2.av.au),(.str x2.av.domain),(.int .i64 x2.born),(.int .i64 x2.size),(.int .u32 x2.sum),(.sl .n 7 (ml aA x2.az))]) (aq:H[q6]? =some [(.str y3.av.au),(.str y3.av.domain),(.int .i64 y3.born),(.int .i64 y3.size),(.int .u32 y3.sum),(.sl .n 7 (ml aA y3.az))]) (eK:H0.length≤q5) (hi1:H0.length≤q6) (hi2:q5≠q6) {K:Exit→Env→AH→Prop} {t9:Bool}
 (h:iD F b1 x2 y3=some t9)
 (kn:∀H':AH,Fr H0 H0.length [] H'→H'[q5]? =some [(.str x2.av.au),(.str x2.av.domain),(.int .i64 x2.born),(.int .i64 x2.size),(.int .u32 x2.sum),(.sl .n 7 (ml aA x2.az))]→H'[q6]? =some [(.str y3.av.au),(.str y3.av.domain),(.int .i64 y3.born),(.int .i64 y3.size),(.int .u32 y3.sum),(.sl .n 7 (ml aA y3.az))]→K .normal [(0,(.sl .n 1 (ml b8 b1))),(4,(.ptr q5 0)),(5,(.ptr q6 0)),(25,(.bool t9))] H'):
 AX Tryz.prog mP 61 H0.length (erase ou) K [(0,(.sl .n 1 (ml b8 b1))),(4,(.ptr q5 0)),(5,(.ptr q6 0))] H:=by
 refine dn fun K' hK=> ?_
 have hle:=hfr.le
 have aU:=aL ai
 have cE:=aL aq
 rw [iD.eq_1] at h
 refine aE (aB ai aq) ?_
 refine ck h (fun bw h=> ?_) fun bw h=> ?_
 · refine aE (aB bw (aB ai aq)) ?_
   obtain rfl:=aJ h
   exact hK _ _ _ _ _ aX ax (kn _ hfr (ai.trans rfl) (aq.trans rfl))
 · refine aE (aB bw (aB ai aq)) ?_
   obtain ⟨r7,bu,h⟩:=ay h
   refine bg ax (s3 bu) ?_
   refine aE (aB ai aq) ?_
   refine ck h (fun bV h=> ?_) fun bV h=> ?_
   · refine aE (aB bV (aB ai aq)) ?_
     obtain rfl:=aJ h
     exact hK _ _ _ _ _ aX ax (kn _ hfr (ai.trans rfl) (aq.trans rfl))
   · refine aE (aB bV (aB ai aq)) ?_
     obtain ⟨r8,cu,h⟩:=ay h
     refine bg ax (s3 cu) ?_
     refine aE (aB ai aq) ?_
     obtain rfl:=aJ h
     exact hK _ _ _ _ _ aX ax (kn _ hfr (ai.trans rfl) (aq.trans rfl))
theorem vT {F:Nat} {gE:ak} {kQ:ak} {n6:Int} {kP:Int} {x2:ak} {y3:ak} {H0 H:AH} (hfr:Fr H0 H0.length [] H) {K:Exit→Env→AH→Prop} {t22:Bool}
 (h:iE F gE kQ n6 kP x2 y3=some t22)
 (kn:∀H':AH,Fr H0 H0.length [] H'→K .normal [(6,(.bool t22))] H'):
 AX Tryz.prog mP 61 H0.length (erase ov) K [(4,(.ep (.agg [(.str x2.av.au),(.str x2.av.domain),(.int .i64 x2.born),(.int .i64 x2.size),(.int .u32 x2.sum),(.sl .n 7 (ml aA x2.az))]) 0)),(5,(.ep (.agg [(.str y3.av.au),(.str y3.av.domain),(.int .i64 y3.born),(.int .i64 y3.size),(.int .u32 y3.sum),(.sl .n 7 (ml aA y3.az))]) 0)),(7,(.ep (.agg [(.str gE.av.au),(.str gE.av.domain),(.int .i64 gE.born),(.int .i64 gE.size),(.int .u32 gE.sum),(.sl .n 7 (ml aA gE.az))]) 0)),(8,(.int .i64 n6)),(9,(.ep (.agg [(.str kQ.av.au),(.str kQ.av.domain),(.int .i64 kQ.born),(.int .i64 kQ.size),(.int .u32 kQ.sum),(.sl .n 7 (ml aA kQ.az))]) 0)),(10,(.int .i64 kP))] H:=by
 refine dn fun K' hK=> ?_
 have hle:=hfr.le
 rw [iE.eq_1] at h
 refine bR ?_
 obtain ⟨LH,cG,h⟩:=ay h
 refine bg ax (pJ cG) ?_
 refine bR ?_
 obtain ⟨r16,ei,h⟩:=ay h
 refine bg ax (xo ei) ?_
 refine bR ?_
 refine ck h (fun cZ h=> ?_) fun cZ h=> ?_
 · refine aE cZ ?_
   refine ck h (fun fV h=> ?_) fun fV h=> ?_
   · refine aE fV ?_
     obtain ⟨Be,kH,h⟩:=ay h
     refine bg ax (pH kH) ?_
     refine bR ?_
     obtain ⟨ny,fW,h⟩:=ay h
     refine bg ax (pJ fW) ?_
     refine bR ?_
     obtain ⟨rF,jt,h⟩:=ay h
     refine bg ax (pJ jt) ?_
     refine bR ?_
     obtain ⟨Wj,mo,h⟩:=ay h
     refine bg ax (xo mo) ?_
     refine bR ?_
     refine ck h (fun ju h=> ?_) fun ju h=> ?_
     · refine aE ju ?_
       obtain ⟨Lo,jv,h⟩:=ay h
       refine bg ax (pH jv) ?_
       refine bR ?_
       obtain rfl:=aJ h
       exact hK _ _ _ _ _ aX ax (kn _ hfr)
     · refine aE ju ?_
       obtain rfl:=aJ h
       exact hK _ _ _ _ _ aX ax (kn _ hfr)
   · refine aE fV ?_
     obtain rfl:=aJ h
     exact hK _ _ _ _ _ aX ax (kn _ hfr)
 · refine aE cZ ?_
   obtain rfl:=aJ h
   exact hK _ _ _ _ _ aX ax (kn _ hfr)
theorem O2 {F:Nat} {b1:List UInt8} {x2:ak} {y3:ak} {H0:AH} {aM:Bool} (h:iQ F b1 x2 y3=some aM):
 aG Tryz.prog 4 [(.sl .n 1 (ml b8 b1)),(.agg [(.str x2.av.au),(.str x2.av.domain),(.int .i64 x2.born),(.int .i64 x2.size),(.int .u32 x2.sum),(.sl .n 7 (ml aA x2.az))]),(.agg [(.str y3.av.au),(.str y3.av.domain),(.int .i64 y3.born),(.int .i64 y3.size),(.int .u32 y3.sum),(.sl .n 7 (ml aA y3.az))])] H0 fun v H'=>v=(.bool aM)∧H'=H0:=by
 refine ec BC mP [] fun hcl K0 aO H hH hfr=> ?_
 clear hH
 have hle:=hfr.le
 rw [iQ.eq_1] at h
 refine bR ?_
 obtain ⟨r4,hy1,h⟩:=ay h
 refine bg ax (oD hy1) ?_
 refine bR ?_
 refine bX h (fun bh h=> ?_) fun bh h=> ?_
 · refine bR ?_
   obtain rfl:=aJ h
   exact aO _ _ _ bE (bp (Fr.app (Fr.app hfr)) hcl (bC bx (.bool false)) bA bt ⟨rfl,rfl⟩)
 · refine bR ?_
   obtain ⟨q6,Ff⟩:∃q:Nat,(H.length+1)=q:=⟨_,rfl⟩
   try rw [Ff]
   obtain ⟨q5,OD⟩:∃q:Nat,H.length=q:=⟨_,rfl⟩
   try rw [OD]
   try rw [show q5+1=q6 from by omega]
   obtain ⟨t10,dw,h⟩:=ay h
   refine cg ax (vS (q5:=q5) (q6:=q6) (Fr.app (Fr.app hfr)) (ez kg) kg br br br dw ?_)
   intro H hfr ai aq
   have hle:=hfr.le
   have aU:=aL ai
   have cE:=aL aq
   refine aE (aB ai aq) ?_
   refine bX h (fun dD h=> ?_) fun dD h=> ?_
   · refine aE (aB ai aq) ?_
     obtain rfl:=aJ h
     exact aO _ _ _ bE (bp hfr hcl (bC bx (.bool true)) bA bt ⟨rfl,rfl⟩)
   · refine aE (aB ai aq) ?_
     obtain ⟨⟨gE,n6⟩,eB,h⟩:=ay h
     dsimp only at h
     refine bg ax (qt eB) ?_
     refine aE (aB ai aq) ?_
     obtain ⟨⟨kQ,kP⟩,cY,h⟩:=ay h
     dsimp only at h
     refine bg ax (CF cY) ?_
     refine aE (aB ai aq) ?_
     refine Ov ?_
     apply AX.freeze (s:=H.length) (cs:=[(.str gE.av.au),(.str gE.av.domain),(.int .i64 gE.born),(.int .i64 gE.size),(.int .u32 gE.sum),(.sl .n 7 (ml aA gE.az))]) (by exact (aY (ez bL))) (cx.same (cx.same (cx.same (cx.same (cx.same (cx.same (cx.nil))))))) (by simp)
     · repeat (first|exact FZ.nil|apply FZ.ep|apply FZ.same)
     apply AX.freeze (s:=(H.length+1)) (cs:=[(.str kQ.av.au),(.str kQ.av.domain),(.int .i64 kQ.born),(.int .i64 kQ.size),(.int .u32 kQ.sum),(.sl .n 7 (ml aA kQ.az))]) (by exact (aY bL)) (cx.same (cx.same (cx.same (cx.same (cx.same (cx.same (cx.nil))))))) (by simp)
     · repeat (first|exact FZ.nil|apply FZ.ep|apply FZ.same)
     apply AX.freeze (s:=q5) (cs:=[(.str x2.av.au),(.str x2.av.domain),(.int .i64 x2.born),(.int .i64 x2.size),(.int .u32 x2.sum),(.sl .n 7 (ml aA x2.az))]) (by exact (aY (aY (aY (ez (aY (ez (ai.trans rfl)))))))) (cx.same (cx.same (cx.same (cx.same (cx.same (cx.same (cx.nil))))))) (by simp)
     · repeat (first|exact FZ.nil|apply FZ.ep|apply FZ.same)
     apply AX.freeze (s:=q6) (cs:=[(.str y3.av.au),(.str y3.av.domain),(.int .i64 y3.born),(.int .i64 y3.size),(.int .u32 y3.sum),(.sl .n 7 (ml aA y3.az))]) (by exact (aY (aY (aY (aY (ez (aY (ez (aq.trans rfl))))))))) (cx.same (cx.same (cx.same (cx.same (cx.same (cx.same (cx.nil))))))) (by simp)
     · repeat (first|exact FZ.nil|apply FZ.ep|apply FZ.same)
     refine V7 ?_
     obtain ⟨t23,mq,h⟩:=ay h
     refine cg ax (vT (bn _ (bn _ (bn _ (bn _ (bn _ (Fr.app (bn _ (Fr.app hfr)))))))) mq ?_)
     intro H hfr
     have hle:=hfr.le
     refine bR ?_
     obtain rfl:=aJ h
     exact aO _ _ _ bE (bp hfr hcl (bC bx (.bool t23)) bA bt ⟨rfl,rfl⟩)
end Go.Proofs.cF
end
section
set_option maxRecDepth 100000
namespace Go.Proofs.cF
open Go Go.Am Go.Proofs
def lF (b:List UInt8):List UInt8×Int:=
 if b.length<4 then ([],2) else if b.drop (b.length - 4)=cW (C6 (b.take (b.length - 4))) then (b.take (b.length - 4),0) else ([],4)
theorem CG {b:List UInt8}:b.drop (b.length - 4)=cW (C6 (b.take (b.length - 4)))↔eP (b.take (b.length - 4))=b:=by
 unfold eP
 have h2:=List.take_append_drop (b.length - 4) b
 constructor
 · intro e
   rw [←e,h2]
 · intro e
   have:b.take (b.length - 4)++cW (C6 (b.take (b.length - 4)))=b.take (b.length - 4)++b.drop (b.length - 4):=by rw [h2];exact e
   exact (List.append_cancel_left this).symm
theorem ZK {b:List UInt8} {F:Nat} (hb:b.length≤70000) (hF:100000<F):od F b=some (lF b):=by
 unfold od lF
 by_cases h:b.length<4
 · rw [if_pos (by rw [wr (by omega) (by omega)];simp;omega),if_pos h]
 · rw [if_neg (by rw [wr (by omega) (by omega)];simp;omega),if_neg h]
   have hw:IntKind.wrap .i64 ((b.length:Int) - 4)=((b.length - 4:Nat):Int):=by rw [wr (by omega) (by omega)];omega
   rw [hw,Br (by omega),Option.bind_some,Jw (by omega),Option.bind_some]
   unfold fQ
   rw [tY (by simp;omega)]
   simp only [Option.bind_some]
   obtain ⟨v,r',f,o,g,c⟩:=CE (r:=⟨b.drop (b.length - 4),0⟩) (F:=F) (by unfold mV;simp;omega) (by omega)
   rw [f];simp only [Option.bind_some]
   rw [Xa (by simp;omega) (by simp;omega)];simp only [Option.bind_some]
   obtain ⟨s1,s2⟩:=sum_nat (b.take (b.length - 4))
   rw [s1,wr (by omega) (by omega)]
   have hd:(b.drop (b.length - 4)).length=4:=by simp;omega
   have hlt:=By (b.drop (b.length - 4))
   rw [hd] at hlt
   have hv:=(c (val (b.drop (b.length - 4))) [] hlt ⟨rfl,by rw [L9 hd];simp⟩).1
   by_cases e:v=C6 (b.take (b.length - 4))
   · rw [if_neg (by simp [e]),if_pos (by rw [←e,hv,L9 hd]),tY (by simp;omega)]
     rfl
   · rw [if_pos (by simp;omega),if_neg]
     intro h2
     apply e
     rw [hv,h2,FO s2]
theorem ZL {b:List UInt8} {F:Nat} (hb:b.length≤70000) (hF:100000<F):qQ F b=some (lF b):=by
 unfold qQ lF
 by_cases h:b.length<4
 · rw [if_pos (by rw [wr (by omega) (by omega)];simp;omega),if_pos h]
 · rw [if_neg (by rw [wr (by omega) (by omega)];simp;omega),if_neg h]
   have hw:IntKind.wrap .i64 ((b.length:Int) - 4)=((b.length - 4:Nat):Int):=by rw [wr (by omega) (by omega)];omega
   rw [hw,Jw (by omega),Option.bind_some,P4 (by simp;omega) (by simp;omega),Option.bind_some]
   by_cases e:eP (b.take (b.length - 4))=b
   · rw [if_neg (by simp [e]),if_pos (CG.2 e),cA (by simp;omega) (by omega)]
     rfl
   · rw [if_pos (by simp [e]),if_neg (fun h2=>e (CG.1 h2))]
theorem C7 (x:List UInt8):lF (eP x)=(x,0):=by
 have hl:(eP x).length=x.length+4:=by simp [eP,cW]
 have ht:(eP x).take ((eP x).length - 4)=x:=by rw [hl];simp [eP]
 unfold lF
 rw [if_neg (by omega),if_pos (CG.2 (by rw [ht])),ht]
theorem FP (b:List UInt8):(lF b).1.length≤b.length:=by
 unfold lF
 split
 · simp
 · split
   · simp
   · simp
def Xl:ak:=⟨⟨[],[]⟩,0,0,0,[]⟩
def nK (e:ak):Prop:=0≤e.sum∧e.sum≤4294967295
def D (b:List UInt8) (e:ak) (v:Int):Prop:=
 ((lF b).2≠0→e=Xl∧v=(lF b).2)∧((lF b).2=0→((v=3∧e=Xl)∨(v=0∧fM e=true∧nK e∧b=eP (lP e))))∧
 ∀e',fM e'=true→nK e'→b=eP (lP e')→v=0∧e=e'
theorem acm {b:List UInt8} {e e':ak} {v v':Int} (h:D b e v) (h':D b e' v'):e=e'∧v=v':=by
 by_cases h0:(lF b).2=0
 · rcases h.2.1 h0 with ⟨a1,a2⟩|⟨a1,a2,a3,a4⟩
   · rcases h'.2.1 h0 with ⟨c1,c2⟩|⟨c1,c2,c3,c4⟩
     · rw [a1,a2,c1,c2];exact ⟨rfl,rfl⟩
     · obtain ⟨d1,d2⟩:=h.2.2 _ c2 c3 c4
       rw [d1,d2,c1];exact ⟨rfl,rfl⟩
   · obtain ⟨d1,d2⟩:=h'.2.2 _ a2 a3 a4
     rw [d1,d2,a1];exact ⟨rfl,rfl⟩
 · obtain ⟨a1,a2⟩:=h.1 h0
   obtain ⟨c1,c2⟩:=h'.1 h0
   rw [a1,a2,c1,c2];exact ⟨rfl,rfl⟩
theorem BD {e e':ak} (h1:e.av=e'.av) (h2:e.born=e'.born) (h3:e.size=e'.size) (h4:e.sum=e'.sum) (h5:e.az=e'.az):e=e':=by
 cases e;cases e';simp only at h1 h2 h3 h4 h5;subst h1 h2 h3 h4 h5;rfl
def FQ (r:aN):Bool:=decide (r.err=0)&&decide (r.b=[])
theorem acn (r:aN):∃v:Int,fD r=some v∧decide (v=0)=FQ r:=by
 unfold fD FQ
 by_cases h:r.err=0
 · by_cases h2:r.b=[]
   · exact ⟨r.err,by simp [h2],by simp [h,h2]⟩
   · have:0<r.b.length:=List.length_pos_iff.2 h2
     exact ⟨3,by rw [if_pos (by simp;omega)],by simp [h,h2]⟩
 · exact ⟨r.err,by simp [h],by simp [h]⟩
theorem aco {r:aN} {e:ak} {b:List UInt8} {F:Nat} (h:Bx e) (hs:nK e) (hF:200000<F):
 jA F r e b=some (!(FQ r&&(fM e&&decide (eP (lP e)=b)))):=by
 obtain ⟨v,hv,hd⟩:=acn r
 unfold jA
 rw [hv]
 simp only [Option.bind_some]
 rw [hd,xg h (by omega),OX h hs hF]
 cases FQ r with
 |false=>rfl
 |true=>
  cases hb:fM e with
  |false=>rfl
  |true=>simp only [Bool.not_true,Bool.false_eq_true,if_false,if_true,Option.bind_some,bytes_Equal,Bool.true_and]
theorem Xm {b:List UInt8} {F:Nat} (hb:b.length≤60000) (hF:200000<F):∃(e:ak) (v:Int),ic F b=some (e,v)∧D b e v:=by
 unfold ic
 rw [ZK (by omega) (by omega)]
 have hlen:=FP b
 have BK:=C7
 rcases hx:lF b with ⟨x,w⟩
 rw [hx] at hlen
 simp only [Option.bind_some]
 simp only at hlen
 by_cases hw:w=0
 · rw [if_neg (by simp [hw])]
   unfold fQ
   rw [tY (by omega)]
   simp only [Option.bind_some]
   obtain ⟨v1,r1,f1,o1,g1,c1⟩:=P6 (r:=⟨x,0⟩) (F:=F) (by unfold mV;simp;omega) (by omega)
   obtain ⟨a,r2,f2,o2,g2,c2⟩:=aak o1 (F:=F) (by omega)
   obtain ⟨v3,r3,f3,o3,g3,c3⟩:=CE o2 (F:=F) (by omega)
   obtain ⟨v4,r4,f4,o4,g4,c4⟩:=CE o3 (F:=F) (by omega)
   obtain ⟨v5,r5,f5,o5,g5,c5⟩:=CE o4 (F:=F) (by omega)
   obtain ⟨v6,r6,f6,o6,g6,c6⟩:=P6 o5 (F:=F) (by omega)
   obtain ⟨r7,e7,f7,o7,⟨t1,t2,t3,t4⟩,l7,w7,c7⟩:=ack (n:=v6) (F:=F) (by omega) (by omega) v6 0 F r6 ⟨a,v3,v4,IntKind.wrap .u32 v5,[]⟩ (by omega) (by omega) o6 rfl (by simp)
   rw [f1];simp only [Option.bind_some]
   rw [f2];simp only [Option.bind_some]
   unfold mC
   rw [f3];simp only [Option.bind_some]
   rw [f4];simp only [Option.bind_some]
   rw [f5];simp only [Option.bind_some]
   rw [f6];simp only [Option.bind_some]
   rw [show (0:Int)=((0:Nat):Int) from rfl,f7]
   simp only [Option.bind_some]
   rw [Hy g5] at t4
   simp only at t1 t2 t3 t4
   have Xn:nK e7:=by unfold nK;rw [t4];omega
   rw [aco ⟨by omega,by rw [t1];exact g2,w7⟩ Xn hF]
   simp only [Option.bind_some]
   have key:∀e',fM e'=true→nK e'→b=eP (lP e')→e7=e'∧FQ r7=true:=by
    intro e' hB hS hE
    rw [hE,BK] at hx
    injection hx with hx1 hx2
    have FN:=hB
    simp only [fM,gX,Bool.and_eq_true,decide_eq_true_eq] at FN
    obtain ⟨k0,ri,hsi,k1,k2,k3⟩:=FN
    have hS1:=hS.1;have hS2:=hS.2
    have R0:kS (aN.mk x 0) (gi 1++(gJ e'.av.au++(gJ e'.av.domain++(cW e'.born.toNat++(cW e'.size.toNat++(cW e'.sum.toNat++(gi e'.az.length++(gK e'.az++[])))))))):=⟨rfl,by rw [←hx1];simp [lP]⟩
    obtain ⟨q1,R1⟩:=c1 _ _ (by omega) R0
    obtain ⟨q2,R2⟩:=c2 _ _ k0 R1
    obtain ⟨q3,R3⟩:=c3 _ _ (by omega) R2
    obtain ⟨q4,R4⟩:=c4 _ _ (by omega) R3
    obtain ⟨q5,R5⟩:=c5 _ _ (by omega) R4
    obtain ⟨q6,R6⟩:=c6 _ _ (by omega) R5
    obtain ⟨q7,R7⟩:=c7 _ _ q6.symm k3 R6
    refine ⟨BD (by rw [t1,q2]) (by rw [t2];omega) (by rw [t3];omega) (by rw [t4];omega) (by rw [q7];simp), ?_⟩
    unfold FQ
    rw [R7.1,R7.2];rfl
   cases lH:(FQ r7&&(fM e7&&decide (eP (lP e7)=b))) with
   |true=>
    simp only [Bool.not_true,Bool.false_eq_true,if_false]
    simp only [Bool.and_eq_true,decide_eq_true_eq] at lH
    refine ⟨_,_,rfl,fun h=>absurd hw (by simpa [hx] using h),fun _=> .inr ⟨rfl,lH.2.1,Xn,lH.2.2.symm⟩,fun e' h1 h2 h3=>⟨rfl,(key e' h1 h2 h3).1⟩⟩
   |false=>
    simp only [Bool.not_false,if_true]
    refine ⟨_,_,rfl,fun h=>absurd hw (by simpa [hx] using h),fun _=> .inl ⟨rfl,rfl⟩,fun e' h1 h2 h3=> ?_⟩
    exfalso
    obtain ⟨m1,m2⟩:=key e' h1 h2 h3
    subst m1
    rw [m2,h1, ←h3] at lH
    simp at lH
 · rw [if_pos (by simpa using hw)]
   refine ⟨_,_,rfl,fun _=>⟨rfl,by rw [hx]⟩,fun h=>absurd (by simpa [hx] using h) hw,fun e' h1 h2 h3=> ?_⟩
   exfalso
   rw [h3,BK] at hx
   injection hx with hx1 hx2
   exact hw hx2.symm
end Go.Proofs.cF
end
section
set_option maxRecDepth 100000
namespace Go.Proofs.cF
open Go Go.Am Go.Proofs
def tj (r:aP):Prop:=r.b.length≤70000∧0≤r.eA∧r.eA≤r.b.length
def mQ (r:aP) (l:List UInt8):Prop:=r.err=0∧r.b.drop r.eA.toNat=l
theorem ZM {c:UInt8} {n:Nat} (h:n<4294967296):Kn .i64 (shl .i64 (n:Int) 8) (IntKind.wrap .i64 (c.toNat:Int))=((c.toNat+256*n:Nat):Int):=by
 have hc:=c.toNat_lt
 have hs:shl .i64 (n:Int) 8=((n*2 ^ 8:Nat):Int):=by
  unfold shl
  rw [show min (8:Int).toNat (IntKind.i64).bits=8 by decide,show ((n:Int)*2 ^ 8)=((n*2 ^ 8:Nat):Int) by simp,wr (by omega) (by omega)]
 rw [hs,wr (by omega) (by omega),L5 (by omega) (by omega),Nat.or_comm,P5 (by omega)]
 congr 1
 omega
theorem ZN {b:List UInt8} {a k:Nat} {r:aP} (hb:r.b=b) (ha:r.eA=(a:Int)) (hk:k≤4) (hl:a+k≤b.length) (Au:b.length≤70000):∀(j G:Nat),j≤k→j<G→
 iter (cS r) G (((val ((b.drop (a+j)).take (k - j)):Nat):Int),(j:Int) - 1)=some (.inr ((val ((b.drop a).take k):Nat):Int)):=by
 intro j
 induction j with
 |zero=>
  intro G hj hG
  obtain ⟨G,rfl⟩:=cN hG
  refine dF ?_
  simp only [cS]
  rw [if_neg (by simp)]
  simp
 |succ j ih=>
  intro G hj hG
  obtain ⟨G,rfl⟩:=cN hG
  have hlt:a+j<b.length:=by omega
  have hc:b[a+j]? =some b[a+j]:=List.getElem?_eq_getElem hlt
  have hv:val ((b.drop (a+j)).take (k - j))=b[a+j].toNat+256*val ((b.drop (a+(j+1))).take (k - (j+1))):=by
   rw [List.drop_eq_getElem_cons hlt,show k - j=(k - (j+1))+1 by omega,List.take_succ_cons,val]
   rfl
  have Ei:val ((b.drop (a+(j+1))).take (k - (j+1)))<4294967296:=by
   refine Nat.lt_of_lt_of_le (By _) ?_
   refine Nat.le_trans (Nat.pow_le_pow_right (by decide) (show _≤4 by simp;omega)) (by decide)
  have Db:cS r (((val ((b.drop (a+(j+1))).take (k - (j+1))):Nat):Int),((j+1:Nat):Int) - 1)=some (.cK (((val ((b.drop (a+j)).take (k - j)):Nat):Int),(j:Int) - 1)):=by
   simp only [cS]
   rw [if_pos (by simp),hb,ha,wr (by omega) (by omega),show (a:Int)+(((j+1:Nat):Int) - 1)=((a+j:Nat):Int) by omega,bJ hc]
   simp only [Option.bind_some]
   rw [ZM Ei, ←hv,wr (by omega) (by omega)]
   first
    |done
    |(congr 3;omega)
  rw [cP Db]
  exact ih G (by omega) (by omega)
theorem Xo {r:aP} {F k:Nat} (hr:tj r) (hk:k≤4) (hF:10<F):∃(v:Nat) (r':aP),bG F r (k:Int)=some ((v:Int),r')∧tj r'∧v<256 ^ k∧
 ∀x rest:List UInt8,x.length=k→mQ r (x++rest)→v=val x∧mQ r' rest:=by
 obtain ⟨h1,h2,h3⟩:=hr
 obtain ⟨a,ha⟩:∃a:Nat,r.eA=(a:Int):=⟨r.eA.toNat,by omega⟩
 unfold bG
 by_cases he:r.err=0
 · rw [if_neg (by simpa using he),wr (by omega) (by omega)]
   by_cases hs:(r.b.length:Int) - r.eA<k
   · rw [if_pos (by simpa using hs)]
     refine ⟨0,_,rfl,⟨h1,h2,h3⟩,Nat.pow_pos (by decide),fun x rest hx hR=> ?_⟩
     exfalso
     have:=congrArg List.length hR.2
     simp [hx] at this
     omega
   · rw [if_neg (by simpa using hs),wr (by omega) (by omega)]
     have:=ZN (r:=r) (b:=r.b) (a:=a) (k:=k) rfl ha hk (by omega) h1 k F (by omega) (by omega)
     rw [Nat.sub_self,List.take_zero] at this
     rw [show ((0:Int),(k:Int) - 1)=(((val []:Nat):Int),(k:Int) - 1) from rfl,this]
     simp only [Option.bind_some]
     rw [wr (by omega) (by omega)]
     refine ⟨_,_,rfl,⟨h1,by simp only;omega,by simp only;omega⟩, ?_,fun x rest hx hR=> ?_⟩
     · exact Nat.lt_of_lt_of_le (By _) (Nat.pow_le_pow_right (by decide) (by simp;omega))
     · have hd:=hR.2
       rw [ha] at hd
       simp only [Int.toNat_natCast] at hd
       subst hx
       refine ⟨by rw [hd];simp,hR.1, ?_⟩
       simp only
       rw [ha,show ((a:Int)+(x.length:Int)).toNat=a+x.length by omega, ←List.drop_drop,hd]
       simp
 · rw [if_pos (by simpa using he)]
   exact ⟨0,_,rfl,⟨h1,h2,h3⟩,Nat.pow_pos (by decide),fun x rest hx hR=>absurd hR.1 he⟩
theorem P7 {r:aP} {F:Nat} (hr:tj r) (hF:10<F):∃(v:Nat) (r':aP),bG F r 1=some ((v:Int),r')∧tj r'∧v<256∧
 ∀(n:Nat) (rest:List UInt8),n<256→mQ r (gi n++rest)→v=n∧mQ r' rest:=by
 obtain ⟨v,r',h,h1,h2,h3⟩:=Xo (k:=1) hr (by omega) hF
 refine ⟨v,r',h,h1,h2,fun n rest hn hR=> ?_⟩
 obtain ⟨e1,e2⟩:=h3 _ _ rfl hR
 exact ⟨by rw [e1,L7 hn],e2⟩
theorem acp {r:aP} {F:Nat} (hr:tj r) (hF:10<F):∃(v:Nat) (r':aP),bG F r 2=some ((v:Int),r')∧tj r'∧v<65536∧
 ∀(n:Nat) (rest:List UInt8),n<65536→mQ r (FJ n++rest)→v=n∧mQ r' rest:=by
 obtain ⟨v,r',h,h1,h2,h3⟩:=Xo (k:=2) hr (by omega) hF
 refine ⟨v,r',h,h1,h2,fun n rest hn hR=> ?_⟩
 obtain ⟨e1,e2⟩:=h3 _ _ rfl hR
 exact ⟨by rw [e1,L8 hn],e2⟩
theorem FR {r:aP} {F:Nat} (hr:tj r) (hF:10<F):∃(v:Nat) (r':aP),bG F r 4=some ((v:Int),r')∧tj r'∧v<4294967296∧
 ∀(n:Nat) (rest:List UInt8),n<4294967296→mQ r (cW n++rest)→v=n∧mQ r' rest:=by
 obtain ⟨v,r',h,h1,h2,h3⟩:=Xo (k:=4) hr (by omega) hF
 refine ⟨v,r',h,h1,h2,fun n rest hn hR=> ?_⟩
 obtain ⟨e1,e2⟩:=h3 _ _ rfl hR
 exact ⟨by rw [e1,FO hn],e2⟩
theorem aal {r:aP} {k:Nat} (hr:tj r) (hk:k<4294967296):∃(s:List UInt8) (r':aP),fZ r (k:Int)=some (s,r')∧tj r'∧s.length≤70000∧
 ∀x rest:List UInt8,x.length=k→mQ r (x++rest)→s=x∧mQ r' rest:=by
 obtain ⟨h1,h2,h3⟩:=hr
 obtain ⟨a,ha⟩:∃a:Nat,r.eA=(a:Int):=⟨r.eA.toNat,by omega⟩
 unfold fZ
 by_cases he:r.err=0
 · rw [if_neg (by simpa using he),if_neg (by simp),wr (by omega) (by omega)]
   by_cases hs:(r.b.length:Int) - r.eA<k
   · rw [if_pos (by simpa using hs)]
     refine ⟨_,_,rfl,⟨h1,h2,h3⟩,by simp,fun x rest hx hR=> ?_⟩
     exfalso
     have:=congrArg List.length hR.2
     simp [hx] at this
     omega
   · rw [if_neg (by simpa using hs),wr (n:=r.eA+(k:Int)) (by omega) (by omega),wr (by omega) (by omega),show r.eA+(k:Int) - (k:Int)=((a:Nat):Int) by omega,show r.eA+(k:Int)=((a+k:Nat):Int) by omega,uI (by omega) (by omega),Option.bind_some,cA (by simp;omega) (by omega)]
     simp only [Option.bind_some,List.nil_append]
     refine ⟨_,_,rfl,⟨h1,by simp only;omega,by simp only;omega⟩,by simp only [List.length_drop,List.length_take];omega,fun x rest hx hR=> ?_⟩
     have hd:=hR.2
     rw [ha] at hd
     simp only [Int.toNat_natCast] at hd
     subst hx
     refine ⟨?_,hR.1, ?_⟩
     · rw [←List.take_drop,hd];simp
     · simp only
       rw [show ((a+x.length:Nat):Int).toNat=a+x.length by omega, ←List.drop_drop,hd]
       simp
 · rw [if_pos (by simpa using he)]
   exact ⟨_,_,rfl,⟨h1,h2,h3⟩,by simp,fun x rest hx hR=>absurd hR.1 he⟩
theorem Xp {r:aP} {F:Nat} (hr:tj r) (hF:10<F):∃(s:List UInt8) (r':aP),dN F r 65536=some (s,r')∧tj r'∧s.length≤70000∧
 ∀t rest:List UInt8,t.length≤256→mQ r (gJ t++rest)→s=t∧mQ r' rest:=by
 obtain ⟨v,r1,h,h1,h2,h3⟩:=FR hr hF
 unfold dN
 rw [h]
 simp only [Option.bind_some]
 unfold gh
 cases hc:(decide (r1.err=0)&&decide ((65536:Int)<(v:Int))) with
 |true=>
  simp only [if_true,Option.bind_some]
  have ho:tj (aP.mk r1.b r1.eA 5):=h1
  obtain ⟨s,r2,k,k1,k2,k3⟩:=aal ho h2
  rw [k]
  refine ⟨_,_,rfl,k1,k2,fun t rest ht hR=> ?_⟩
  obtain ⟨e1,e2⟩:=h3 t.length (t++rest) (by omega) (by rw [gJ,List.append_assoc] at hR;exact hR)
  simp only [Bool.and_eq_true,decide_eq_true_eq] at hc
  omega
 |false=>
  simp only [Bool.false_eq_true,if_false,Option.bind_some]
  obtain ⟨s,r2,k,k1,k2,k3⟩:=aal h1 h2
  rw [k]
  refine ⟨_,_,rfl,k1,k2,fun t rest ht hR=> ?_⟩
  obtain ⟨e1,e2⟩:=h3 t.length (t++rest) (by omega) (by rw [gJ,List.append_assoc] at hR;exact hR)
  exact k3 t rest e1.symm e2
theorem aam {r:aP} {F:Nat} (hr:tj r) (hF:10<F):∃(a:aH) (r':aP),iY F r=some (a,r')∧tj r'∧sH a∧
 ∀(a':aH) (rest:List UInt8),dB a'=true→mQ r (gJ a'.au++(gJ a'.domain++rest))→a=a'∧mQ r' rest:=by
 obtain ⟨l,r1,h,h1,h2,h3⟩:=Xp hr hF
 obtain ⟨d,r2,k,k1,k2,k3⟩:=Xp h1 hF
 refine ⟨⟨l,d⟩,r2, ?_,k1,⟨h2,k2⟩,fun a' rest hB hR=> ?_⟩
 · unfold iY;rw [h];simp only [Option.bind_some];rw [k];rfl
 · have hb:=tight hB
   obtain ⟨e1,e2⟩:=h3 _ _ (by omega) hR
   obtain ⟨e3,e4⟩:=k3 _ _ (by omega) e2
   subst e1 e3
   exact ⟨rfl,e4⟩
theorem aex {r:aP} {e:ak} {F i n:Nat} (hr:tj r) (hF:10<F) (hi:i<n) (he:r.err=0) (hn:n≤255) (hl:e.az.length≤1000):
 ∃(c:aW) (r':aP),dU F (n:Int) ((i:Int),r,e)=some (.cK (((i+1:Nat):Int),r',⟨e.av,e.born,e.size,e.sum,e.az++[c]⟩))∧tj r'∧sH c.cv∧
 ∀(c':aW) (rest:List UInt8),kq c'=true→mQ r (z8 c'++rest)→c=c'∧mQ r' rest:=by
 obtain ⟨a,r1,f1,o1,g1,c1⟩:=aam hr hF
 obtain ⟨v2,r2,f2,o2,g2,c2⟩:=P7 o1 hF
 obtain ⟨v3,r3,f3,o3,g3,c3⟩:=P7 o2 hF
 obtain ⟨v4,r4,f4,o4,g4,c4⟩:=FR o3 hF
 obtain ⟨v5,r5,f5,o5,g5,c5⟩:=acp o4 hF
 obtain ⟨w,r6,f6,o6,g6,c6⟩:=Xp o5 hF
 refine ⟨⟨a,v2,v3,v4,v5,w⟩,r6, ?_,o6,g1,fun c' rest hB hR=> ?_⟩
 · simp only [dU]
   rw [if_pos (by simp [hi,he]),f1]
   simp only [Option.bind_some]
   rw [f2];simp only [Option.bind_some]
   rw [f3];simp only [Option.bind_some]
   rw [f4];simp only [Option.bind_some]
   rw [f5];simp only [Option.bind_some]
   rw [f6];simp only [Option.bind_some]
   rw [cA (by simp;omega) (by omega)]
   simp only [Option.bind_some]
   rw [qO (by omega)]
 · simp only [kq,gX,Bool.and_eq_true,Bool.or_eq_true,decide_eq_true_eq] at hB
   obtain ⟨hc,hB, -,hs,ht,hn,hw⟩:=hB
   simp only [z8,List.append_assoc] at hR
   obtain ⟨e1,k1⟩:=c1 _ _ hB hR
   obtain ⟨e2,k2⟩:=c2 _ _ (by omega) k1
   obtain ⟨e3,k3⟩:=c3 _ _ (by omega) k2
   obtain ⟨e4,k4⟩:=c4 _ _ (by omega) k3
   obtain ⟨e5,k5⟩:=c5 _ _ (by omega) k4
   obtain ⟨e6,k6⟩:=c6 _ _ (by omega) k5
   refine ⟨?_,k6⟩
   rcases c' with ⟨a',s',t',n',q',w'⟩
   simp only at e1 e2 e3 e4 e5 e6 hs ht hn hc
   subst e1 e6
   congr 1<;>omega
theorem acq {n F:Nat} (hn:n≤255) (hF:10<F):∀(k i G:Nat) (r:aP) (e:ak),i+k=n→k<G→tj r→e.az.length=i→(∀c∈e.az,sH c.cv)→
 ∃(r':aP) (e':ak),iter (dU F (n:Int)) G ((i:Int),r,e)=some (.inr (r',e'))∧tj r'∧(e'.av=e.av∧e'.born=e.born∧e'.size=e.size∧e'.sum=e.sum)∧e'.az.length≤255∧(∀c∈e'.az,sH c.cv)∧
 ∀(l:List aW) (rest:List UInt8),l.length=k→l.all kq=true→mQ r (gK l++rest)→e'.az=e.az++l∧mQ r' rest:=by
 intro k
 induction k with
 |zero=>
  intro i G r e hi hG hr hl hf
  obtain ⟨G,rfl⟩:=cN hG
  refine ⟨r,e,dF ?_,hr,⟨rfl,rfl,rfl,rfl⟩,by omega,hf,fun l rest h0 _ hR=> ?_⟩
  · simp only [dU]
    rw [if_neg (by simp;omega)]
  · obtain rfl:=List.eq_nil_of_length_eq_zero h0
    exact ⟨by simp,hR⟩
 |succ k ih=>
  intro i G r e hi hG hr hl hf
  obtain ⟨G,rfl⟩:=cN hG
  by_cases he:r.err=0
  · obtain ⟨c,r1,f1,o1,g1,c1⟩:=aex (i:=i) (n:=n) (e:=e) hr hF (by omega) he hn (by omega)
    obtain ⟨r2,e2,f2,o2,g2,l2,w2,c2⟩:=ih (i+1) G r1 ⟨e.av,e.born,e.size,e.sum,e.az++[c]⟩ (by omega) (by omega) o1 (by simp;omega) (by
     intro x hx
     rcases List.mem_append.1 hx with h|h
     · exact hf x h
     · rw [List.mem_singleton.1 h];exact g1)
    refine ⟨r2,e2,by rw [cP f1,f2],o2,g2,l2,w2,fun l rest h0 hB hR=> ?_⟩
    match l,h0 with
    |c'::l,h0=>
     simp only [List.all_cons,Bool.and_eq_true] at hB
     simp only [gK,List.append_assoc] at hR
     obtain ⟨e1,k1⟩:=c1 _ _ hB.1 hR
     obtain ⟨e3,k3⟩:=c2 l rest (by simpa using h0) hB.2 k1
     subst e1
     exact ⟨by rw [e3];simp,k3⟩
  · refine ⟨r,e,dF ?_,hr,⟨rfl,rfl,rfl,rfl⟩,by omega,hf,fun l rest h0 _ hR=>absurd hR.1 he⟩
    simp only [dU]
    rw [if_neg (by simp [he])]
def FT (r:aP):Bool:=decide (r.err=0)&&decide (r.b.drop r.eA.toNat=[])
theorem acr {r:aP} (hr:tj r):∃(v:Int) (r':aP),gY r=some (v,r')∧decide (v=0)=FT r:=by
 obtain ⟨h1,h2,h3⟩:=hr
 unfold gY FT
 by_cases h:r.err=0
 · by_cases h4:r.b.drop r.eA.toNat=[]
   · have:=List.drop_eq_nil_iff.1 h4
     exact ⟨r.err,r,by rw [if_neg (by simp;omega)],by simp [h,h4]⟩
   · have:¬r.b.length≤r.eA.toNat:=fun hh=>h4 (List.drop_eq_nil_iff.2 hh)
     exact ⟨3,_,by rw [if_pos (by simp;omega)],by simp [h,h4]⟩
 · exact ⟨r.err,r,by simp [h],by simp [h]⟩
theorem acs {r:aP} {e:ak} {b:List UInt8} {F v:Nat} (hr:tj r) (h:Bx e) (hs:nK e) (hF:200000<F):
 ∃r':aP,gZ F (v:Int) r e b=some (!(decide (v=1)&&(FT r&&(fM e&&decide (eP (lP e)=b)))),r'):=by
 obtain ⟨w,r',hv,hd⟩:=acr hr
 unfold gZ
 rw [hv]
 by_cases hv1:v=1
 · rw [if_neg (by simp [hv1])]
   simp only [Option.bind_some]
   rw [hd,CC h (by omega),Xh h hs hF]
   refine ⟨r', ?_⟩
   cases FT r with
   |false=>simp [hv1]
   |true=>
    cases hb:fM e with
    |false=>simp [hv1]
    |true=>simp [hv1]
 · rw [if_pos (by simp;omega)]
   exact ⟨r,by simp [hv1]⟩
theorem acu {b:List UInt8} {F:Nat} (hb:b.length≤60000) (hF:200000<F):∃(e:ak) (v:Int),kT F b=some (e,v)∧D b e v:=by
 unfold kT
 rw [ZL (by omega) (by omega)]
 have hlen:=FP b
 have BK:=C7
 rcases hx:lF b with ⟨x,w⟩
 rw [hx] at hlen
 simp only [Option.bind_some]
 simp only at hlen
 by_cases hw:w=0
 · rw [if_neg (by simp [hw])]
   obtain ⟨v1,r1,f1,o1,g1,c1⟩:=P7 (r:=⟨x,0,0⟩) (F:=F) ⟨by simp only;omega,by simp,by simp⟩ (by omega)
   obtain ⟨a,r2,f2,o2,g2,c2⟩:=aam o1 (F:=F) (by omega)
   obtain ⟨v3,r3,f3,o3,g3,c3⟩:=FR o2 (F:=F) (by omega)
   obtain ⟨v4,r4,f4,o4,g4,c4⟩:=FR o3 (F:=F) (by omega)
   obtain ⟨v5,r5,f5,o5,g5,c5⟩:=FR o4 (F:=F) (by omega)
   obtain ⟨v6,r6,f6,o6,g6,c6⟩:=P7 o5 (F:=F) (by omega)
   obtain ⟨r7,e7,f7,o7,⟨t1,t2,t3,t4⟩,l7,w7,c7⟩:=acq (n:=v6) (F:=F) (by omega) (by omega) v6 0 F r6 ⟨a,v3,v4,IntKind.wrap .u32 v5,[]⟩ (by omega) (by omega) o6 rfl (by simp)
   rw [f1];simp only [Option.bind_some]
   rw [f2];simp only [Option.bind_some]
   rw [f3];simp only [Option.bind_some]
   rw [f4];simp only [Option.bind_some]
   rw [f5];simp only [Option.bind_some]
   rw [f6];simp only [Option.bind_some]
   rw [show (0:Int)=((0:Nat):Int) from rfl,f7]
   simp only [Option.bind_some]
   rw [Hy g5] at t4
   simp only at t1 t2 t3 t4
   have Xn:nK e7:=by unfold nK;rw [t4];omega
   obtain ⟨r8,hr8⟩:=acs (r:=r7) (e:=e7) (b:=b) (v:=v1) o7 ⟨by omega,by rw [t1];exact g2,w7⟩ Xn hF
   rw [hr8]
   simp only [Option.bind_some]
   have key:∀e',fM e'=true→nK e'→b=eP (lP e')→v1=1∧e7=e'∧FT r7=true:=by
    intro e' hB hS hE
    rw [hE,BK] at hx
    injection hx with hx1 hx2
    have FN:=hB
    simp only [fM,gX,Bool.and_eq_true,decide_eq_true_eq] at FN
    obtain ⟨k0,ri,hsi,k1,k2,k3⟩:=FN
    have hS1:=hS.1;have hS2:=hS.2
    have R0:mQ (aP.mk x 0 0) (gi 1++(gJ e'.av.au++(gJ e'.av.domain++(cW e'.born.toNat++(cW e'.size.toNat++(cW e'.sum.toNat++(gi e'.az.length++(gK e'.az++[])))))))):=⟨rfl,by rw [←hx1];simp [lP]⟩
    obtain ⟨q1,R1⟩:=c1 _ _ (by omega) R0
    obtain ⟨q2,R2⟩:=c2 _ _ k0 R1
    obtain ⟨q3,R3⟩:=c3 _ _ (by omega) R2
    obtain ⟨q4,R4⟩:=c4 _ _ (by omega) R3
    obtain ⟨q5,R5⟩:=c5 _ _ (by omega) R4
    obtain ⟨q6,R6⟩:=c6 _ _ (by omega) R5
    obtain ⟨q7,R7⟩:=c7 _ _ q6.symm k3 R6
    refine ⟨q1,BD (by rw [t1,q2]) (by rw [t2];omega) (by rw [t3];omega) (by rw [t4];omega) (by rw [q7];simp), ?_⟩
    unfold FT
    rw [R7.1,R7.2];rfl
   cases lH:(decide (v1=1)&&(FT r7&&(fM e7&&decide (eP (lP e7)=b)))) with
   |true=>
    simp only [Bool.not_true,Bool.false_eq_true,if_false]
    simp only [Bool.and_eq_true,decide_eq_true_eq] at lH
    refine ⟨_,_,rfl,fun h=>absurd hw (by simpa [hx] using h),fun _=> .inr ⟨rfl,lH.2.2.1,Xn,lH.2.2.2.symm⟩,fun e' h1 h2 h3=>⟨rfl,(key e' h1 h2 h3).2.1⟩⟩
   |false=>
    simp only [Bool.not_false,if_true]
    refine ⟨_,_,rfl,fun h=>absurd hw (by simpa [hx] using h),fun _=> .inl ⟨rfl,rfl⟩,fun e' h1 h2 h3=> ?_⟩
    exfalso
    obtain ⟨m0,m1,m2⟩:=key e' h1 h2 h3
    subst m1
    rw [m0,m2,h1, ←h3] at lH
    simp at lH
 · rw [if_pos (by simpa using hw)]
   refine ⟨_,_,rfl,fun _=>⟨rfl,by rw [hx]⟩,fun h=>absurd (by simpa [hx] using h) hw,fun e' h1 h2 h3=> ?_⟩
   exfalso
   rw [h3,BK] at hx
   injection hx with hx1 hx2
   exact hw hx2.symm
end Go.Proofs.cF
end
section
set_option maxRecDepth 100000
namespace Go.Proofs.cF
open Go Go.Am Go.Proofs
open Nat renaming reduceEqDiff→nA,reduceLT→nB,reduceLeDiff→nC,reduceAdd→nD,reduceSub→nE,reduceMul→nF,reduceBEq→nG
set_option maxHeartbeats 2000000
abbrev vp:aD:=(.rg [(aj 20 (.aV (.t 7) 2)),(aj 21 (.ld (.t 20) none)),(aj 22 (.bin .eql (.t 21) (.c (.int .i64 1)))),(aC 23 22),(aF 24 (.mv (.t 5)) 23 true),(aF 25 (.un .not (.t 24)) 23 true),(aF 26 (.mv (.t 25)) 23 true),(aF 27 (.aV (.t 7) 4) 26 false),(aF 28 (.ld (.t 27) none) 26 false),(aF 29 (.mv (.t 4)) 26 false),(aF 30 (.bin .lss (.t 28) (.t 29)) 26 false),(aF 31 (.pick (.t 26) (.c (.bool true)) (.t 30)) 23 true),(aj 32 (.pick (.t 23) (.t 31) (.c (.bool false))))])
abbrev uc:aD:=(.seq (.seq (.rg [(aC 8 6),(aj 9 (.aV (.t 1) 5)),(aj 10 (.ld (.t 9) none)),(aj 11 (.len (.t 10))),(aj 12 (.bin .lss (.t 8) (.t 11)))]) (.cond (.t 12) .skip (.exit 0))) (.seq (.blk 1 (.seq (.rg [(aj 15 (.aV (.t 1) 5)),(aj 16 (.ld (.t 15) none)),(aC 17 6),(aj 18 (.ku 7 (.t 16) (.t 17))),(aj 19 (.ld (.t 18) (some 7))),(aj 7 (.alloc [(.str []),(.str []),(.int .i64 0),(.int .i64 0),(.int .i64 0),(.int .i64 0),(.str [])])),(cU (.st (.t 7) (.t 19) 7))]) (.seq (.sem (erase vp)) (.cond (.t 32) (.seq (.rg [(aj 33 (.aV (.t 7) 4)),(aj 34 (.ld (.t 33) none)),(bk 4 34)]) (.rg [(aj 5 (.bf (.c (.bool true))))])) .skip)))) (.rg [(aC 13 6),(aj 14 (.bin .add (.t 13) (.c (.int .i64 1)))),(bk 6 14)])))
abbrev JH:aD:=(.seq (.rg [(aj 1 (.box (.t 0))),(aj 2 (.bf (.c (.int .i64 0)))),(aj 3 (.bf (.c (.bool false))))]) (.seq (.rg [(aj 4 (.bf (.c (.int .i64 0))))]) (.seq (.rg [(aj 5 (.bf (.c (.bool false))))]) (.seq (.seq (.rg [(aj 6 (.bf (.c (.int .i64 0))))]) (.blk 0 (.loop (erase uc)))) (.seq (.rg [(aC 35 4),(aC 36 5),(bk 2 35),(bk 3 36)]) .ret)))))
theorem JI:bz Tryz.prog 12 37 [(.tmp 2),(.tmp 3)] (erase JH):=⟨Tryz.f12,_,rfl,by decide,rfl,by kernel_rfl,rfl,rfl⟩
abbrev uR:List Nat:=[0,1,2,3,4,5,6,7,12,32]
def tq (e1:ak):(Int×Bool×Int)→Option (St (Int×Bool) (Int×Bool) (Int×Bool×Int))
 |(t3,Ac,i5)=>
  (if (decide (i5<(e1.az.length:Int))) then
   (idx e1.az i5).bind fun x6=>
   (if ((decide (x6.state=1))&&((!Ac)||(decide (x6.next<t3)))) then
    some (.cK (x6.next,true,(IntKind.wrap .i64 (i5+1))))
   else
    some (.cK (t3,Ac,(IntKind.wrap .i64 (i5+1)))))
  else
   some (.fF (t3,Ac)))
def uS (F:Nat) (e1:ak):Option (Int×Bool):=
 ((iter (tq e1) F (0,false,0)).bind fun Lz=>
 match Lz with
 | .inr (t11,Xq)=>
   some (t11,Xq)
 | .inl _=>none)
theorem CH {q7:Nat} {t3:Int} {Ac:Bool} {i5:Int} {q8:Nat} {e1:ak} {x6:aW} {H0 H:AH} (hfr:Fr H0 H0.length [] H) (ai:H[q7]? =some [(.str e1.av.au),(.str e1.av.domain),(.int .i64 e1.born),(.int .i64 e1.size),(.int .u32 e1.sum),(.sl .n 7 (ml aA e1.az))]) (aq:H[q8]? =some [(.str x6.cv.au),(.str x6.cv.domain),(.int .i64 x6.state),(.int .i64 x6.tries),(.int .i64 x6.next),(.int .i64 x6.code),(.str x6.why)]) (eK:H0.length≤q7) (hi1:H0.length≤q8) (hi2:q7≠q8) {K:Exit→Env→AH→Prop}
 (kn:∀H':AH,Fr H0 H0.length [] H'→H'[q7]? =some [(.str e1.av.au),(.str e1.av.domain),(.int .i64 e1.born),(.int .i64 e1.size),(.int .u32 e1.sum),(.sl .n 7 (ml aA e1.az))]→H'[q8]? =some [(.str x6.cv.au),(.str x6.cv.domain),(.int .i64 x6.state),(.int .i64 x6.tries),(.int .i64 x6.next),(.int .i64 x6.code),(.str x6.why)]→K .normal [(1,(.ptr q7 0)),(4,(.int .i64 t3)),(5,(.bool Ac)),(6,(.int .i64 i5)),(7,(.ptr q8 0)),(32,(.bool ((decide (x6.state=1))&&((!Ac)||(decide (x6.next<t3))))))] H'):
 AX Tryz.prog uR 37 H0.length (erase vp) K [(1,(.ptr q7 0)),(4,(.int .i64 t3)),(5,(.bool Ac)),(6,(.int .i64 i5)),(7,(.ptr q8 0))] H:=by
 refine dn fun K' hK=> ?_
 have hle:=hfr.le
 have aU:=aL ai
 have cE:=aL aq
 refine aE (aB ai aq) ?_
 refine kj (fun bw=> ?_) fun bw=> ?_
 · refine aE (aB bw (aB ai aq)) ?_
   refine kj (fun bu=> ?_) fun bu=> ?_
   · refine aE (aB bu (aB ai aq)) ?_
     exact hK _ _ _ _ _ (dy (aB bw bu)) ax (kn _ hfr (ai.trans rfl) (aq.trans rfl))
   · refine aE (aB bu (aB ai aq)) ?_
     exact hK _ _ _ _ _ (dy (aB bw bu)) ax (kn _ hfr (ai.trans rfl) (aq.trans rfl))
 · refine aE (aB bw (aB ai aq)) ?_
   exact hK _ _ _ _ _ (dy bw) ax (kn _ hfr (ai.trans rfl) (aq.trans rfl))
theorem CI {F:Nat} {i5:Int} {e1:ak} {Ac:Bool} {t3:Int} {q2:Nat} {H0 H:AH} (hfr:Fr H0 H0.length [] H) (ai:H[q2]? =some [(.str e1.av.au),(.str e1.av.domain),(.int .i64 e1.born),(.int .i64 e1.size),(.int .u32 e1.sum),(.sl .n 7 (ml aA e1.az))]) (eK:H0.length≤q2) {K:Exit→Env→AH→Prop} {o:(Int×Bool)⊕(Int×Bool)}
 (h:iter (tq e1) F (t3,Ac,i5)=some o)
 (di:∀o':Int×Bool,o= .inr o'→∀H':AH,Fr H0 H0.length [] H'→H'[q2]? =some [(.str e1.av.au),(.str e1.av.domain),(.int .i64 e1.born),(.int .i64 e1.size),(.int .u32 e1.sum),(.sl .n 7 (ml aA e1.az))]→K (.exit 0) [(4,(.int .i64 o'.1)),(5,(.bool o'.2))] H'):
 AX Tryz.prog uR 37 H0.length (.loop (erase uc)) K [(1,(.ptr q2 0)),(4,(.int .i64 t3)),(5,(.bool Ac)),(6,(.int .i64 i5))] H:=by
 refine ja (fun s e H1=>match s with|(t3,Ac,i5)=>e=[(1,(.ptr q2 0)),(4,(.int .i64 t3)),(5,(.bool Ac)),(6,(.int .i64 i5))]∧Fr H0 H0.length [] H1∧H1[q2]? =some [(.str e1.av.au),(.str e1.av.domain),(.int .i64 e1.born),(.int .i64 e1.size),(.int .u32 e1.sum),(.sl .n 7 (ml aA e1.az))]) h ⟨rfl,hfr,ai⟩ ?_
 rintro K' ⟨t3,Ac,i5⟩ st e H ⟨rfl,hfr,ai⟩ h hN hB hR hX
 have hle:=hfr.le
 have aU:=aL ai
 rw [tq.eq_1] at h
 refine aE ai ?_
 refine bX h (fun hy1 h=> ?_) fun hy1 h=> ?_
 · obtain ⟨x6,bh,h⟩:=ay h
   refine aE (aB bh ai) ?_
   obtain ⟨q8,acv⟩:∃q:Nat,H.length=q:=⟨_,rfl⟩
   try rw [acv]
   refine cg ax (CH (q7:=q2) (t3:=t3) (Ac:=Ac) (i5:=i5) (q8:=q8) (e1:=e1) (x6:=x6) (bn _ (Fr.app hfr)) (aY (ez (ai.trans rfl))) bL br br br ?_)
   intro H hfr ai aq
   have hle:=hfr.le
   have aU:=aL ai
   have cE:=aL aq
   refine aE (aB ai aq) ?_
   refine bX h (fun bV h=> ?_) fun bV h=> ?_
   · refine aE (aB ai aq) ?_
     obtain rfl:=aJ h
     exact hN _ rfl _ _ _ _ aX ax ⟨rfl,hfr,(ai.trans rfl)⟩
   · refine aE (aB ai aq) ?_
     obtain rfl:=aJ h
     exact hN _ rfl _ _ _ _ aX ax ⟨rfl,hfr,(ai.trans rfl)⟩
 · refine aE ai ?_
   obtain rfl:=aJ h
   exact hX _ _ _ _ _ eI aX ax (di _ (hB _ rfl) _ hfr (ai.trans rfl))
theorem G0 {F:Nat} {e1:ak} {H0:AH} {aM:Int} {cD:Bool} (h:uS F e1=some (aM,cD)):
 aG Tryz.prog 12 [(.agg [(.str e1.av.au),(.str e1.av.domain),(.int .i64 e1.born),(.int .i64 e1.size),(.int .u32 e1.sum),(.sl .n 7 (ml aA e1.az))])] H0 fun v H'=>v=(.bM [(.int .i64 aM),(.bool cD)])∧H'=H0:=by
 refine ec JI uR [] fun hcl K0 aO H hH hfr=> ?_
 clear hH
 have hle:=hfr.le
 rw [uS.eq_1] at h
 refine bR ?_
 obtain ⟨q2,eL⟩:∃q:Nat,H.length=q:=⟨_,rfl⟩
 try rw [eL]
 obtain ⟨Lz,cu,h⟩:=ay h
 refine cg ax (CI (q2:=q2) (Fr.app hfr) kg br cu ?_)
 · rintro ⟨t11,Xq⟩ rfl H hfr ai
   try dsimp only at h ai
   have hle:=hfr.le
   have aU:=aL ai
   refine aE ai ?_
   obtain ⟨rfl,rfl⟩:=dm h
   exact aO _ _ _ bE (bp hfr hcl (bC (bC bx (.bool Xq)) (.int .i64 t11)) bA bt ⟨rfl,rfl⟩)
abbrev sJ:aD:=(.seq (.seq (.rg [(aC 5 4),(aj 6 (.aV (.t 1) 5)),(aj 7 (.ld (.t 6) none)),(aj 8 (.len (.t 7))),(aj 9 (.bin .lss (.t 5) (.t 8)))]) (.cond (.t 9) .skip (.exit 0))) (.seq (.blk 1 (.seq (.rg [(aj 12 (.aV (.t 1) 5)),(aj 13 (.ld (.t 12) none)),(aC 14 4),(aj 15 (.ku 7 (.t 13) (.t 14))),(aj 16 (.aV (.t 15) 2)),(aj 17 (.ld (.t 16) none)),(aj 18 (.bin .eql (.t 17) (.c (.int .i64 1))))]) (.cond (.t 18) (.rg [(aC 19 3),(aj 20 (.bin .add (.t 19) (.c (.int .i64 1)))),(bk 3 20)]) .skip))) (.rg [(aC 10 4),(aj 11 (.bin .add (.t 10) (.c (.int .i64 1)))),(bk 4 11)])))
abbrev G1:aD:=(.seq (.rg [(aj 1 (.box (.t 0))),(aj 2 (.bf (.c (.int .i64 0))))]) (.seq (.rg [(aj 3 (.bf (.c (.int .i64 0))))]) (.seq (.seq (.rg [(aj 4 (.bf (.c (.int .i64 0))))]) (.blk 0 (.loop (erase sJ)))) (.seq (.rg [(aC 21 3),(bk 2 21)]) .ret))))
theorem G2:bz Tryz.prog 17 22 [(.tmp 2)] (erase G1):=⟨Tryz.f17,_,rfl,by decide,rfl,by kernel_rfl,rfl,rfl⟩
abbrev yM:List Nat:=[0,1,2,3,4,9,18]
def qV (e1:ak):(Int×Int)→Option (St Int Int (Int×Int))
 |(fH,i4)=>
  (if (decide (i4<(e1.az.length:Int))) then
   (idx e1.az i4).bind fun x5=>
   (if (decide (x5.state=1)) then
    some (.cK ((IntKind.wrap .i64 (fH+1)),(IntKind.wrap .i64 (i4+1))))
   else
    some (.cK (fH,(IntKind.wrap .i64 (i4+1)))))
  else
   some (.fF fH))
def sK (F:Nat) (e1:ak):Option (Int):=
 ((iter (qV e1) F (0,0)).bind fun o8=>
 match o8 with
 | .inr nn7=>
   some nn7
 | .inl _=>none)
theorem BF {F:Nat} {i4:Int} {e1:ak} {fH:Int} {q2:Nat} {H0 H:AH} (hfr:Fr H0 H0.length [] H) (ai:H[q2]? =some [(.str e1.av.au),(.str e1.av.domain),(.int .i64 e1.born),(.int .i64 e1.size),(.int .u32 e1.sum),(.sl .n 7 (ml aA e1.az))]) (eK:H0.length≤q2) {K:Exit→Env→AH→Prop} {o:(Int)⊕(Int)}
 (h:iter (qV e1) F (fH,i4)=some o)
 (di:∀o':Int,o= .inr o'→∀H':AH,Fr H0 H0.length [] H'→H'[q2]? =some [(.str e1.av.au),(.str e1.av.domain),(.int .i64 e1.born),(.int .i64 e1.size),(.int .u32 e1.sum),(.sl .n 7 (ml aA e1.az))]→K (.exit 0) [(3,(.int .i64 o'))] H'):
 AX Tryz.prog yM 22 H0.length (.loop (erase sJ)) K [(1,(.ptr q2 0)),(3,(.int .i64 fH)),(4,(.int .i64 i4))] H:=by
 refine ja (fun s e H1=>match s with|(fH,i4)=>e=[(1,(.ptr q2 0)),(3,(.int .i64 fH)),(4,(.int .i64 i4))]∧Fr H0 H0.length [] H1∧H1[q2]? =some [(.str e1.av.au),(.str e1.av.domain),(.int .i64 e1.born),(.int .i64 e1.size),(.int .u32 e1.sum),(.sl .n 7 (ml aA e1.az))]) h ⟨rfl,hfr,ai⟩ ?_
 rintro K' ⟨fH,i4⟩ st e H ⟨rfl,hfr,ai⟩ h hN hB hR hX
 have hle:=hfr.le
 have aU:=aL ai
 rw [qV.eq_1] at h
 refine aE ai ?_
 refine bX h (fun hy1 h=> ?_) fun hy1 h=> ?_
 · obtain ⟨x5,bh,h⟩:=ay h
   refine aE (aB bh ai) ?_
   refine bX h (fun bw h=> ?_) fun bw h=> ?_
   · refine aE ai ?_
     obtain rfl:=aJ h
     exact hN _ rfl _ _ _ _ aX ax ⟨rfl,hfr,(ai.trans rfl)⟩
   · refine aE ai ?_
     obtain rfl:=aJ h
     exact hN _ rfl _ _ _ _ aX ax ⟨rfl,hfr,(ai.trans rfl)⟩
 · refine aE ai ?_
   obtain rfl:=aJ h
   exact hX _ _ _ _ _ eI aX ax (di _ (hB _ rfl) _ hfr (ai.trans rfl))
theorem FU {F:Nat} {e1:ak} {H0:AH} {aM:Int} (h:sK F e1=some aM):
 aG Tryz.prog 17 [(.agg [(.str e1.av.au),(.str e1.av.domain),(.int .i64 e1.born),(.int .i64 e1.size),(.int .u32 e1.sum),(.sl .n 7 (ml aA e1.az))])] H0 fun v H'=>v=(.int .i64 aM)∧H'=H0:=by
 refine ec G2 yM [] fun hcl K0 aO H hH hfr=> ?_
 clear hH
 have hle:=hfr.le
 rw [sK.eq_1] at h
 refine bR ?_
 obtain ⟨q2,eL⟩:∃q:Nat,H.length=q:=⟨_,rfl⟩
 try rw [eL]
 obtain ⟨o8,bu,h⟩:=ay h
 refine cg ax (BF (q2:=q2) (Fr.app hfr) kg br bu ?_)
 · rintro nn7 rfl H hfr ai
   try dsimp only at h ai
   have hle:=hfr.le
   have aU:=aL ai
   refine aE ai ?_
   obtain rfl:=aJ h
   exact aO _ _ _ bE (bp hfr hcl (bC bx (.int .i64 nn7)) bA bt ⟨rfl,rfl⟩)
abbrev oR:aD:=(.rg ((aj 30 (.lZ (.t 1) (some 6)))::(aj 32 (.lZ (.t 3) (some 6)))::(aj 31 (.call (.c (.fn 13 [])) [(.t 30)]))::(aj 33 (.call (.c (.fn 14 [])) [(.t 32)]))::(aj 34 (.bq true (.t 31) (.t 33)))::(aC 35 34)::(aF 36 (.mv (.t 4)) 35 false)::(aF 37 (.vU (.t 36)) 35 false)::(aF 38 (.lZ (.t 3) (some 6)) 35 false)::(aF 39 (.call (.c (.fn 15 [])) [(.t 38)]) 35 false)::(aF 40 (.vU (.t 39)) 35 false)::(aF 41 (.bin .neq (.t 37) (.t 40)) 35 false)::(aj 42 (.pick (.t 35) (.c (.bool true)) (.t 41)))::(aC 43 42)::(aF 44 (.lZ (.t 1) (some 6)) 43 false)::(aF 46 (.lZ (.t 3) (some 6)) 43 false)::(aF 45 (.call (.c (.fn 16 [])) [(.t 44)]) 43 false)::(aF 47 (.call (.c (.fn 17 [])) [(.t 46)]) 43 false)::(aF 48 (.bin .neq (.t 45) (.t 47)) 43 false)::(aj 49 (.pick (.t 43) (.c (.bool true)) (.t 48)))::(aC 50 49)::(aF 51 (.mv (.t 5)) 50 false)::(aF 52 (.mv (.t 7)) 50 false)::(aF 53 (.bin .neq (.t 51) (.t 52)) 50 false)::(aj 54 (.pick (.t 50) (.c (.bool true)) (.t 53)))::(aC 55 54)::(aF 56 (.mv (.t 6)) 55 false)::(aF 57 (.mv (.t 8)) 55 false)::(aF 58 (.bq true (.t 56) (.t 57)) 55 false)::(aj 59 (.pick (.t 55) (.c (.bool true)) (.t 58)))::[]))
abbrev oS:aD:=(.rg [(aC 71 10),(aj 72 (.bin .eql (.t 71) (.c (.int .i64 0)))),(aC 73 72),(aF 74 (.ld (.t 9) (some 6)) 73 true),(aF 75 (.ld (.t 1) (some 6)) 73 true),(aF 76 (.call (.c (.fn 19 [])) [(.t 74),(.t 75)]) 73 true),(aj 77 (.pick (.t 73) (.t 76) (.c (.bool false)))),(bk 2 77)])
abbrev CJ:aD:=(.seq (.rg [(aj 1 (.box (.t 0))),(aj 2 (.bf (.c (.bool false))))]) (.seq (.seq (.rg [(aj 11 (.call (.c (.fn 7 [])) [])),(aj 12 (.un .not (.t 11)))]) (.cond (.t 12) (.seq (.rg [(aj 2 (.bf (.c (.bool false))))]) .ret) .skip)) (.seq (.seq (.rg [(aj 13 (.ld (.t 1) (some 6))),(aj 14 (.call (.c (.fn 8 [])) [(.t 13)])),(aj 15 (.un .not (.t 14)))]) (.cond (.t 15) (.seq (.rg [(aj 2 (.bf (.c (.bool true))))]) .ret) .skip)) (.seq (.rg [(aj 16 (.ld (.t 1) (some 6))),(aj 17 (.call (.c (.fn 9 [])) [(.t 16)])),(aj 3 (.alloc [(.str []),(.str []),(.int .i64 0),(.int .i64 0),(.int .u32 0),(.sl .ex 7 [])])),(cU (.st (.t 3) (.t 17) 6))]) (.seq (.rg [(aj 18 (.ld (.t 1) (some 6))),(aj 19 (.call (.c (.fn 10 [])) [(.t 18)])),(bk 4 19)]) (.seq (.rg [(aj 21 (.ld (.t 1) (some 6))),(aj 22 (.call (.c (.fn 11 [])) [(.t 21)])),(aC 20 22),(aj 23 (.ext (.t 20) 0)),(aj 24 (.ext (.t 20) 1)),(bk 5 23),(bk 6 24)]) (.seq (.rg [(aj 26 (.ld (.t 3) (some 6))),(aj 27 (.call (.c (.fn 12 [])) [(.t 26)])),(aC 25 27),(aj 28 (.ext (.t 25) 0)),(aj 29 (.ext (.t 25) 1)),(bk 7 28),(bk 8 29)]) (.seq (.seq (.sem (erase oR)) (.cond (.t 59) (.seq (.rg [(aj 2 (.bf (.c (.bool false))))]) .ret) .skip)) (.seq (.seq (.rg [(aj 60 (.ld (.t 3) (some 6))),(aj 61 (.call (.c (.fn 14 [])) [(.t 60)])),(aj 62 (.un .not (.t 61)))]) (.cond (.t 62) (.seq (.rg [(aC 63 4),(aj 64 (.len (.t 63))),(aj 65 (.bin .eql (.t 64) (.c (.int .i64 0)))),(bk 2 65)]) .ret) .skip)) (.seq (.rg [(aC 67 4),(aj 68 (.call (.c (.fn 18 [])) [(.t 67)])),(aC 66 68),(aj 69 (.ext (.t 66) 0)),(aj 70 (.ext (.t 66) 1)),(aj 9 (.alloc [(.str []),(.str []),(.int .i64 0),(.int .i64 0),(.int .u32 0),(.sl .ex 7 [])])),(cU (.st (.t 9) (.t 69) 6)),(bk 10 70)]) (.seq (.sem (erase oS)) .ret)))))))))))
theorem CK:bz Tryz.prog 3 78 [(.tmp 2)] (erase CJ):=⟨Tryz.f3,_,rfl,by decide,rfl,by kernel_rfl,rfl,rfl⟩
abbrev nL:List Nat:=[0,1,2,3,4,5,6,7,8,9,10,12,15,59,62]
def jh (F:Nat) (e1:ak) (r4:ak) (r5:List UInt8) (r6:Int) (r8:Int) (r7:Bool) (r9:Bool):Option (Bool):=
 (iw F e1).bind fun lW=>
 (gy F r4).bind fun gE=>
 (if (!(lW==gE)) then
  some true
 else
  (iW F r4).bind fun n6=>
  (if (!decide (r5=n6)) then
   some true
  else
   (nH F e1).bind fun kQ=>
   (sK F r4).bind fun kP=>
   (if (!decide (kQ=kP)) then
    some true
   else
    (if (!decide (r6=r8)) then
     some true
    else
     some (!(r7==r9))))))
def ji (F:Nat) (rF:Int) (ny:ak) (e1:ak):Option (Bool):=
 (if (decide (rF=0)) then
  (lM F ny e1).bind fun Lo=>some Lo
 else
  some false)
def jD (F:Nat) (e1:ak):Option (Bool):=
 (iA F).bind fun r2=>
 (if (!r2) then
  some false
 else
  (lC F e1).bind fun r3=>
  (if (!r3) then
   some true
  else
   (lN F e1).bind fun r4=>
   (jx F e1).bind fun r5=>
   (qv F e1).bind fun (r6,r7)=>
   (uS F r4).bind fun (r8,r9)=>
   (jh F e1 r4 r5 r6 r8 r7 r9).bind fun t16=>
   (if t16 then
    some false
   else
    (gy F r4).bind fun Be=>
    (if (!Be) then
     some (decide ((r5.length:Int)=0))
    else
     (ic F r5).bind fun (ny,rF)=>(ji F rF ny e1).bind fun t23=>
     some t23))))
theorem xp {F:Nat} {e1:ak} {r4:ak} {r5:List UInt8} {r6:Int} {r8:Int} {r7:Bool} {r9:Bool} {H0 H:AH} (hfr:Fr H0 H0.length [] H) {K:Exit→Env→AH→Prop} {t15:Bool}
 (h:jh F e1 r4 r5 r6 r8 r7 r9=some t15)
 (kn:∀H':AH,Fr H0 H0.length [] H'→K .normal [(1,(.ep (.agg [(.str e1.av.au),(.str e1.av.domain),(.int .i64 e1.born),(.int .i64 e1.size),(.int .u32 e1.sum),(.sl .n 7 (ml aA e1.az))]) 0)),(3,(.ep (.agg [(.str r4.av.au),(.str r4.av.domain),(.int .i64 r4.born),(.int .i64 r4.size),(.int .u32 r4.sum),(.sl .n 7 (ml aA r4.az))]) 0)),(4,(.sl .n 1 (ml b8 r5))),(59,(.bool t15))] H'):
 AX Tryz.prog nL 78 H0.length (erase oR) K [(1,(.ep (.agg [(.str e1.av.au),(.str e1.av.domain),(.int .i64 e1.born),(.int .i64 e1.size),(.int .u32 e1.sum),(.sl .n 7 (ml aA e1.az))]) 0)),(3,(.ep (.agg [(.str r4.av.au),(.str r4.av.domain),(.int .i64 r4.born),(.int .i64 r4.size),(.int .u32 r4.sum),(.sl .n 7 (ml aA r4.az))]) 0)),(4,(.sl .n 1 (ml b8 r5))),(5,(.int .i64 r6)),(6,(.bool r7)),(7,(.int .i64 r8)),(8,(.bool r9))] H:=by
 refine dn fun K' hK=> ?_
 have hle:=hfr.le
 rw [jh.eq_1] at h
 refine bR ?_
 obtain ⟨lW,eB,h⟩:=ay h
 refine bg ax (kJ eB) ?_
 refine bR ?_
 obtain ⟨gE,cY,h⟩:=ay h
 refine bg ax (k8 cY) ?_
 refine bR ?_
 refine ck h (fun cG h=> ?_) fun cG h=> ?_
 · refine aE cG ?_
   obtain rfl:=aJ h
   exact hK _ _ _ _ _ (dy cG) ax (kn _ hfr)
 · refine aE cG ?_
   obtain ⟨n6,ei,h⟩:=ay h
   refine bg ax (tX ei) ?_
   refine bR ?_
   refine ck h (fun cZ h=> ?_) fun cZ h=> ?_
   · refine aE cZ ?_
     obtain rfl:=aJ h
     exact hK _ _ _ _ _ (dy (aB cG cZ)) ax (kn _ hfr)
   · refine aE cZ ?_
     obtain ⟨kQ,fV,h⟩:=ay h
     refine bg ax (uG fV) ?_
     refine bR ?_
     obtain ⟨kP,kH,h⟩:=ay h
     refine bg ax (FU kH) ?_
     refine bR ?_
     refine ck h (fun fW h=> ?_) fun fW h=> ?_
     · refine aE fW ?_
       obtain rfl:=aJ h
       exact hK _ _ _ _ _ (dy (aB cG (aB cZ fW))) ax (kn _ hfr)
     · refine aE fW ?_
       refine ck h (fun jt h=> ?_) fun jt h=> ?_
       · refine aE jt ?_
         obtain rfl:=aJ h
         exact hK _ _ _ _ _ (dy (aB cG (aB cZ (aB fW jt)))) ax (kn _ hfr)
       · refine aE jt ?_
         obtain rfl:=aJ h
         exact hK _ _ _ _ _ (dy (aB cG (aB cZ (aB fW jt)))) ax (kn _ hfr)
theorem xq {F:Nat} {rF:Int} {ny:ak} {e1:ak} {pF:Nat} {H0 H:AH} (hfr:Fr H0 H0.length [] H) (aR:H[pF]? =some [(.str ny.av.au),(.str ny.av.domain),(.int .i64 ny.born),(.int .i64 ny.size),(.int .u32 ny.sum),(.sl .n 7 (ml aA ny.az))]) (eK:H0.length≤pF) {K:Exit→Env→AH→Prop} {t22:Bool}
 (h:ji F rF ny e1=some t22)
 (kn:∀H':AH,Fr H0 H0.length [] H'→H'[pF]? =some [(.str ny.av.au),(.str ny.av.domain),(.int .i64 ny.born),(.int .i64 ny.size),(.int .u32 ny.sum),(.sl .n 7 (ml aA ny.az))]→K .normal [(2,(.bool t22))] H'):
 AX Tryz.prog nL 78 H0.length (erase oS) K [(1,(.ep (.agg [(.str e1.av.au),(.str e1.av.domain),(.int .i64 e1.born),(.int .i64 e1.size),(.int .u32 e1.sum),(.sl .n 7 (ml aA e1.az))]) 0)),(9,(.ptr pF 0)),(10,(.int .i64 rF))] H:=by
 refine dn fun K' hK=> ?_
 have hle:=hfr.le
 have lA:=aL aR
 rw [ji.eq_1] at h
 refine aE aR ?_
 refine ck h (fun n9 h=> ?_) fun n9 h=> ?_
 · refine aE (aB n9 aR) ?_
   obtain ⟨Lo,kI,h⟩:=ay h
   refine bg ax (pH kI) ?_
   refine aE aR ?_
   obtain rfl:=aJ h
   exact hK _ _ _ _ _ aX ax (kn _ hfr (aR.trans rfl))
 · refine aE (aB n9 aR) ?_
   obtain rfl:=aJ h
   exact hK _ _ _ _ _ aX ax (kn _ hfr (aR.trans rfl))
theorem P8 {F:Nat} {e1:ak} {H0:AH} {aM:Bool} (h:jD F e1=some aM):
 aG Tryz.prog 3 [(.agg [(.str e1.av.au),(.str e1.av.domain),(.int .i64 e1.born),(.int .i64 e1.size),(.int .u32 e1.sum),(.sl .n 7 (ml aA e1.az))])] H0 fun v H'=>v=(.bool aM)∧H'=H0:=by
 refine ec CK nL [] fun hcl K0 aO H hH hfr=> ?_
 clear hH
 have hle:=hfr.le
 rw [jD.eq_1] at h
 refine bR ?_
 obtain ⟨r2,hy1,h⟩:=ay h
 refine bg ax (oD hy1) ?_
 refine bR ?_
 refine bX h (fun bh h=> ?_) fun bh h=> ?_
 · refine bR ?_
   obtain rfl:=aJ h
   exact aO _ _ _ bE (bp (Fr.app hfr) hcl (bC bx (.bool false)) bA bt ⟨rfl,rfl⟩)
 · refine bR ?_
   obtain ⟨r3,bw,h⟩:=ay h
   refine bg ax (s3 bw) ?_
   refine bR ?_
   refine bX h (fun bu h=> ?_) fun bu h=> ?_
   · refine bR ?_
     obtain rfl:=aJ h
     exact aO _ _ _ bE (bp (Fr.app hfr) hcl (bC bx (.bool true)) bA bt ⟨rfl,rfl⟩)
   · refine bR ?_
     obtain ⟨r4,bV,h⟩:=ay h
     refine bg ax (pJ bV) ?_
     refine bR ?_
     obtain ⟨r5,cu,h⟩:=ay h
     refine bg ax (qn cu) ?_
     refine bR ?_
     obtain ⟨⟨r6,r7⟩,dw,h⟩:=ay h
     dsimp only at h
     refine bg ax (wU dw) ?_
     refine bR ?_
     obtain ⟨⟨r8,r9⟩,dD,h⟩:=ay h
     dsimp only at h
     refine bg ax (G0 dD) ?_
     refine bR ?_
     refine Ov ?_
     apply AX.freeze (s:=H.length) (cs:=[(.str e1.av.au),(.str e1.av.domain),(.int .i64 e1.born),(.int .i64 e1.size),(.int .u32 e1.sum),(.sl .n 7 (ml aA e1.az))]) (by exact (aY (ez kg))) (cx.same (cx.same (cx.same (cx.same (cx.same (cx.same (cx.nil))))))) (by simp)
     · repeat (first|exact FZ.nil|apply FZ.ep|apply FZ.same)
     apply AX.freeze (s:=(H.length+1)) (cs:=[(.str r4.av.au),(.str r4.av.domain),(.int .i64 r4.born),(.int .i64 r4.size),(.int .u32 r4.sum),(.sl .n 7 (ml aA r4.az))]) (by exact (aY bL)) (cx.same (cx.same (cx.same (cx.same (cx.same (cx.same (cx.nil))))))) (by simp)
     · repeat (first|exact FZ.nil|apply FZ.ep|apply FZ.same)
     refine V7 ?_
     obtain ⟨t16,mo,h⟩:=ay h
     refine cg ax (xp (bn _ (bn _ (bn _ (Fr.app (Fr.app hfr))))) mo ?_)
     intro H hfr
     have hle:=hfr.le
     refine bR ?_
     refine bX h (fun ju h=> ?_) fun ju h=> ?_
     · refine bR ?_
       obtain rfl:=aJ h
       exact aO _ _ _ bE (bp hfr hcl (bC bx (.bool false)) bA bt ⟨rfl,rfl⟩)
     · refine bR ?_
       obtain ⟨Be,jv,h⟩:=ay h
       refine bg ax (k8 jv) ?_
       refine bR ?_
       refine bX h (fun mq h=> ?_) fun mq h=> ?_
       · refine bR ?_
         obtain rfl:=aJ h
         exact aO _ _ _ bE (bp hfr hcl (bC bx (.bool (decide ((r5.length:Int)=0)))) bA bt ⟨rfl,rfl⟩)
       · refine bR ?_
         obtain ⟨⟨ny,rF⟩,j0,h⟩:=ay h
         dsimp only at h
         refine bg ax (qt j0) ?_
         refine bR ?_
         obtain ⟨pF,ZO⟩:∃q:Nat,H.length=q:=⟨_,rfl⟩
         try rw [ZO]
         obtain ⟨t23,mu,h⟩:=ay h
         refine cg ax (xq (pF:=pF) (bn _ (Fr.app hfr)) bL br mu ?_)
         intro H hfr aR
         have hle:=hfr.le
         have lA:=aL aR
         refine aE aR ?_
         obtain rfl:=aJ h
         exact aO _ _ _ bE (bp hfr hcl (bC bx (.bool t23)) bA bt ⟨rfl,rfl⟩)
end Go.Proofs.cF
end
section
set_option maxRecDepth 100000
namespace Go.Proofs.cF
open Go Go.Am Go.Proofs
theorem rcE (x y:aW):(decide (x.cv.au=y.cv.au)&&(decide (x.cv.domain=y.cv.domain)&&(decide (x.state=y.state)&&(decide (x.tries=y.tries)&&(decide (x.next=y.next)&&(decide (x.code=y.code)&&decide (x.why=y.why)))))))=decide (x=y):=by
 rw [Bool.eq_iff_iff]
 simp only [Bool.and_eq_true,decide_eq_true_eq]
 constructor
 · rintro ⟨h1,h2,h3,h4,h5,h6,h7⟩
   rcases x with ⟨⟨a,b⟩,c,d,e,f,g⟩
   rcases y with ⟨⟨a',b'⟩,c',d',e',f',g'⟩
   simp only at h1 h2 h3 h4 h5 h6 h7
   subst h1 h2 h3 h4 h5 h6 h7
   rfl
 · rintro rfl
   exact ⟨rfl,rfl,rfl,rfl,rfl,rfl,rfl⟩
theorem Xr {s1 s2:List aW} (h1:s1.length≤1000):∀(r1 r2:List aW) (i G:Nat),s1.drop i=r1→s2.drop i=r2→i≤s1.length→r1.length=r2.length→r1.length<G→
 iter (eN s1 s2) G (false,(i:Int))=some (if r1=r2 then .inr () else .inl false):=by
 intro r1
 induction r1 with
 |nil=>
  intro r2 i G hd1 Dd hi hl hG
  obtain ⟨G,rfl⟩:=cN hG
  obtain rfl:r2=[]:=List.eq_nil_of_length_eq_zero hl.symm
  have:=Bs hd1
  exact dF (by simp only [eN];rw [if_neg (by simp;omega)])
 |cons c r1 ih=>
  intro r2 i G hd1 Dd hi hl hG
  obtain ⟨G,rfl⟩:=cN hG
  match r2,hl with
  |d::r2,hl=>
   obtain ⟨k1,k2,k3⟩:=drop_cons hd1
   obtain ⟨m1,m2,m3⟩:=drop_cons Dd
   have hb:eN s1 s2 (false,(i:Int))=if c=d then some (.cK (false,((i+1:Nat):Int))) else some (.ret false):=by
    simp only [eN]
    rw [if_pos (by simpa using k1),bJ k2,Option.bind_some,bJ m2,Option.bind_some,rcE,qO (by omega)]
    by_cases h:c=d
    · simp [h]
    · simp [h]
   by_cases h:c=d
   · rw [if_pos h] at hb
     rw [cP hb,ih r2 (i+1) G k3 m3 (by omega) (by simpa using hl) (by simpa using hG)]
     simp [h]
   · rw [if_neg h] at hb
     rw [iX hb]
     simp [h]
theorem aey {s1 s2:List aW} {F:Nat} (h1:s1.length≤1000) (hF:2000<F):kN F s1 s2=some (decide (s1=s2)):=by
 unfold kN
 by_cases h:s1.length=s2.length
 · rw [if_neg (by simp [h]),show ((false,(0:Int)):Bool×Int)=(false,((0:Nat):Int)) from rfl,Xr h1 s1 s2 0 F (by simp) (by simp) (by omega) h (by omega)]
   by_cases e:s1=s2
   · simp [e]
   · simp [e]
 · rw [if_pos (by simp;omega)]
   simp only [Option.some.injEq,Bool.false_eq,decide_eq_false_iff_not]
   intro e
   exact h (by rw [e])
theorem adE (x y:aH):(decide (x.au=y.au)&&decide (x.domain=y.domain))=decide (x=y):=by
 rw [Bool.eq_iff_iff]
 simp only [Bool.and_eq_true,decide_eq_true_eq]
 constructor
 · rintro ⟨h1,h2⟩
   rcases x with ⟨a,b⟩
   rcases y with ⟨a',b'⟩
   simp only at h1 h2
   subst h1 h2
   rfl
 · rintro rfl
   exact ⟨rfl,rfl⟩
theorem D5 {a b:ak} {F:Nat} (h1:a.az.length≤1000) (hF:2000<F):lM F a b=some (decide (a=b)):=by
 unfold lM pG
 rw [adE,aey h1 hF]
 by_cases h:a=b
 · subst h;simp
 · rw [show decide (a=b)=false by simpa using h]
   by_cases e1:a.av=b.av
   · by_cases e2:a.born=b.born
     · by_cases e3:a.size=b.size
       · by_cases e4:a.sum=b.sum
         · have e5:¬a.az=b.az:=fun e5=>h (BD e1 e2 e3 e4 e5)
           simp [e1,e2,e3,e4,e5]
         · simp [e1,e2,e3,e4]
       · simp [e1,e2,e3]
     · simp [e1,e2]
   · simp [e1]
theorem Td {a b:ak} (h1:a.az.length≤1000):∀(r1 r2:List aW) (i G:Nat),a.az.drop i=r1→b.az.drop i=r2→i≤a.az.length→r1.length=r2.length→r1.length<G→
 iter (ga a b) G (i:Int)=some (if r1=r2 then .inr () else .inl false):=by
 intro r1
 induction r1 with
 |nil=>
  intro r2 i G hd1 Dd hi hl hG
  obtain ⟨G,rfl⟩:=cN hG
  obtain rfl:r2=[]:=List.eq_nil_of_length_eq_zero hl.symm
  have:=Bs hd1
  exact dF (by simp only [ga];rw [if_neg (by simp;omega)])
 |cons c r1 ih=>
  intro r2 i G hd1 Dd hi hl hG
  obtain ⟨G,rfl⟩:=cN hG
  match r2,hl with
  |d::r2,hl=>
   obtain ⟨k1,k2,k3⟩:=drop_cons hd1
   obtain ⟨m1,m2,m3⟩:=drop_cons Dd
   have hb:ga a b (i:Int)=if c=d then some (.cK ((i+1:Nat):Int)) else some (.ret false):=by
    simp only [ga]
    rw [if_pos (by simpa using k1),bJ k2,Option.bind_some,bJ m2,Option.bind_some,rcE,qO (by omega)]
    by_cases h:c=d
    · simp [h]
    · simp [h]
   by_cases h:c=d
   · rw [if_pos h] at hb
     rw [cP hb,ih r2 (i+1) G k3 m3 (by omega) (by simpa using hl) (by simpa using hG)]
     simp [h]
   · rw [if_neg h] at hb
     rw [iX hb]
     simp [h]
theorem P9 {a b:ak} {F:Nat} (h1:a.az.length≤1000) (hF:2000<F):lS F a b=some (decide (a=b)):=by
 unfold lS
 rw [adE]
 by_cases hl:a.az.length=b.az.length
 · have hh:=Td (a:=a) (b:=b) h1 a.az b.az 0 F (by simp) (by simp) (by omega) hl (by omega)
   by_cases h:a=b
   · subst h
     rw [if_neg (by simp),show (0:Int)=((0:Nat):Int) from rfl,hh];simp
   · rw [show decide (a=b)=false by simpa using h]
     by_cases e1:a.av=b.av
     · by_cases e2:a.born=b.born
       · by_cases e3:a.size=b.size
         · by_cases e4:a.sum=b.sum
           · have e5:¬a.az=b.az:=fun e5=>h (BD e1 e2 e3 e4 e5)
             rw [if_neg (by simp [e1,e2,e3,e4,hl]),show (0:Int)=((0:Nat):Int) from rfl,hh]
             simp [e5]
           · rw [if_pos (by simp [e4])]
         · rw [if_pos (by simp [e3])]
       · rw [if_pos (by simp [e2])]
     · rw [if_pos (by simp [e1])]
 · rw [if_pos (by simp;omega)]
   simp only [Option.some.injEq,Bool.false_eq,decide_eq_false_iff_not]
   intro e
   exact hl (by rw [e])
theorem Md {α:Type}:∀(l m:List α),l.foldl (fun v r=>v++[r]) m=m++l:=by
 intro l
 induction l with
 |nil=>intro m;simp
 |cons c l ih=>intro m;simp only [List.foldl_cons];rw [ih];simp
theorem Qa {e:ak} {F:Nat} (h1:e.az.length≤1000) (hF:2000<F):lN F e=some e:=by
 unfold lN
 have hh:=lpo (ρ:=ak) (s:=e.az) (body:=jQ e) (mk:=fun (v:List aW) i=>((i:Int),(⟨e.av,e.born,e.size,e.sum,v⟩:ak))) (tt:=fun v=>(⟨e.av,e.born,e.size,e.sum,v⟩:ak)) (step:=fun v r=>v++[r]) (fun v i=>v.length≤i) ?_ ?_ (F:=F) (a:=[]) (by omega) (by simp)
 · rw [show (0:Int)=((0:Nat):Int) from rfl,hh.1,Md];rfl
 · intro v i c hc hI
   have hi:=(List.getElem?_eq_some_iff.1 hc).1
   refine ⟨?_,by simp;omega⟩
   simp only [jQ]
   rw [if_pos (by simpa using hi),bJ hc,Option.bind_some,cA (by simp;omega) (by omega),Option.bind_some,qO (by omega)]
 · intro v hI
   simp only [jQ]
   rw [if_neg (by simp)]
def C8 (a:Int×Bool) (r:aW):Int×Bool:=if decide (r.state=1)&&(!a.2||decide (r.next<a.1)) then (r.next,true) else a
def FV (l:List aW):Int×Bool:=l.foldl C8 (0,false)
theorem JJ {e:ak} {F:Nat} (h1:e.az.length≤1000) (hF:2000<F):qv F e=some (FV e.az):=by
 unfold qv
 have hh:=lpo (ρ:=Int×Bool) (s:=e.az) (body:=lK e) (mk:=fun (v:Int×Bool) i=>(v.1,v.2,(i:Int))) (tt:=fun v=>v) (step:=C8) (fun v i=>True) ?_ ?_ (F:=F) (a:=(0,false)) (by omega) trivial
 · rw [show ((0:Int),false,(0:Int))=(0,false,((0:Nat):Int)) from rfl,hh.1];rfl
 · intro v i c hc hI
   have hi:=(List.getElem?_eq_some_iff.1 hc).1
   refine ⟨?_,trivial⟩
   simp only [lK]
   rw [if_pos (by simpa using hi),bJ hc,Option.bind_some,qO (by omega)]
   unfold C8
   split<;>rfl
 · intro v hI
   simp only [lK]
   rw [if_neg (by simp)]
theorem acw {e:ak} {F:Nat} (h1:e.az.length≤1000) (hF:2000<F):uS F e=some (FV e.az):=JJ h1 hF
def O3 (n:Nat) (r:aW):Nat:=if r.state=1 then n+1 else n
def Ad (l:List aW):Nat:=l.foldl O3 0
theorem JK {e:ak} {F:Nat} (h1:e.az.length≤1000) (hF:2000<F):nH F e=some (Ad e.az:Int):=by
 unfold nH
 have hh:=lpo (ρ:=Int) (s:=e.az) (body:=jP e) (mk:=fun (v:Nat) i=>((v:Int),(i:Int))) (tt:=fun v=>(v:Int)) (step:=O3) (fun v i=>v≤i) ?_ ?_ (F:=F) (a:=0) (by omega) (by simp)
 · rw [show ((0:Int),(0:Int))=(((0:Nat):Int),((0:Nat):Int)) from rfl,hh.1];rfl
 · intro v i c hc hI
   have hi:=(List.getElem?_eq_some_iff.1 hc).1
   refine ⟨?_,by unfold O3;split<;>omega⟩
   simp only [jP]
   rw [if_pos (by simpa using hi),bJ hc,Option.bind_some,qO (by omega),qO (by omega)]
   unfold O3
   by_cases h:c.state=1
   · simp [h]
   · simp [h]
 · intro v hI
   simp only [jP]
   rw [if_neg (by simp)]
theorem acy {e:ak} {F:Nat} (h1:e.az.length≤1000) (hF:2000<F):sK F e=some (Ad e.az:Int):=JK h1 hF
def BG (a:aH):Bool:=decide ((a.au.length:Int)≤400)&&decide ((a.domain.length:Int)≤600)
theorem Me {a:aH} (h:BG a=true):qP a:=by
 simp only [BG,Bool.and_eq_true,decide_eq_true_eq] at h
 exact ⟨by omega,by omega⟩
theorem O4 {e:ak} {F:Nat} (hF:2000<F):∃b:Bool,lC F e=some b∧(b=true→e.az.length≤120∧Bx e):=by
 unfold lC nT
 by_cases h:(120:Int)<(e.az.length:Int)
 · rw [if_pos (by simpa using h)]
   exact ⟨false,rfl,by simp⟩
 · rw [if_neg (by simpa using h)]
   have hf:lB e.av=some (BG e.av):=rfl
   rw [hf]
   simp only [Option.bind_some]
   cases hb:BG e.av with
   |false=>exact ⟨false,rfl,by simp⟩
   |true=>
    simp only [Bool.not_true,Bool.false_eq_true,if_false]
    have hh:=OV (s:=e.az) (body:=gG e) (mk:=fun i=>(i:Int)) (p:=fun c=>BG c.cv&& !decide ((300:Int)<(c.why.length:Int))) (rr:=fun _=>false) (tt:=()) (F:=F) ?_ ?_ ?_ (by omega)
    · cases ha:e.az.all (fun c=>BG c.cv&& !decide ((300:Int)<(c.why.length:Int))) with
      |true=>
       rw [show (0:Int)=((0:Nat):Int) from rfl,hh.1 ha]
       refine ⟨true,rfl,fun _=>⟨by omega,by omega, ?_,fun r hr=> ?_⟩⟩
       · have:=Me hb
         exact ⟨by have:=this.1;omega,by have:=this.2;omega⟩
       · have:=List.all_eq_true.1 ha r hr
         simp only [Bool.and_eq_true] at this
         have:=Me this.1
         exact ⟨by have:=this.1;omega,by have:=this.2;omega⟩
      |false=>
       obtain ⟨j,hj⟩:=hh.2 ha
       rw [show (0:Int)=((0:Nat):Int) from rfl,hj]
       exact ⟨false,rfl,by simp⟩
    · intro i x hx hp
      have hi:=(List.getElem?_eq_some_iff.1 hx).1
      simp only [Bool.and_eq_true,Bool.not_eq_true'] at hp
      simp only [gG,kO]
      rw [if_pos (by simpa using hi),bJ hx]
      simp only [Option.bind_some]
      rw [show lB x.cv=some (BG x.cv) from rfl,hp.1]
      simp only [Option.bind_some,Bool.not_true,Bool.false_eq_true,if_false,hp.2]
      rw [qO (by omega)]
    · intro i x hx hp
      have hi:=(List.getElem?_eq_some_iff.1 hx).1
      simp only [gG,kO]
      rw [if_pos (by simpa using hi),bJ hx]
      simp only [Option.bind_some]
      rw [show lB x.cv=some (BG x.cv) from rfl]
      cases hq:BG x.cv with
      |false=>rfl
      |true=>
       rw [hq] at hp
       simp only [Bool.true_and,Bool.not_eq_false'] at hp
       simp only [Option.bind_some,Bool.not_true,Bool.false_eq_true,if_false,hp,if_true]
    · simp only [gG]
      rw [if_neg (by simp)]
theorem O5 {r:aW} (h:kq r=true):(z8 r).length≤440:=by
 simp only [kq,Bool.and_eq_true,decide_eq_true_eq] at h
 have h1:=tight h.2.1
 have h2:=h.2.2.2.2.2.2
 simp [z8,cO,gi,FJ,cW];omega
theorem Mf:∀ {l:List aW},l.all kq=true→(gK l).length≤440*l.length:=by
 intro l
 induction l with
 |nil=>intro _;simp [gK]
 |cons r l ih=>
  intro h
  simp only [List.all_cons,Bool.and_eq_true] at h
  have h1:=O5 h.1
  have h2:=ih h.2
  simp [gK];omega
theorem Te (x:List UInt8):(eP x).length=x.length+4:=by simp [eP,cW]
theorem Xs {e:ak} (h:fM e=true):(eP (lP e)).length≤60000:=by
 simp only [fM,Bool.and_eq_true,decide_eq_true_eq] at h
 obtain ⟨k0, -, -,k1,k2,k3⟩:=h
 have h1:=tight k0
 have h2:=Mf k3
 rw [Te]
 simp [lP,cO,gi,cW];omega
theorem Qb {e:ak} {F:Nat} (h:fM e=true) (hs:nK e) (hF:200000<F):ic F (eP (lP e))=some (e,0):=by
 obtain ⟨e',v,h1,h2⟩:=Xm (b:=eP (lP e)) (Xs h) hF
 obtain ⟨h3,h4⟩:=h2.2.2 e h hs rfl
 rw [h1,h3,h4]
def e0:ak:=ak.mk (aH.mk ([]:List UInt8) ([]:List UInt8)) 5 9 7 ([(aW.mk (aH.mk ([97]:List UInt8) ([98]:List UInt8)) 1 0 12 0 ([]:List UInt8))]:List aW)
theorem O6:fM e0=true:=by decide
theorem CL {F:Nat} (hF:200000<F):iA F=some true:=by
 have hs:nK e0:=⟨by decide,by decide⟩
 have hf:Bx e0:=⟨by decide,⟨by decide,by decide⟩,by intro r hr;simp [e0] at hr;subst hr;exact ⟨by decide,by decide⟩⟩
 unfold iA
 have h1:=OX hf hs hF
 rw [O6,if_pos rfl] at h1
 have h2:=Qb O6 hs hF
 have h3:=JJ (e:=e0) (F:=F) (by decide) (by omega)
 have h4:=JK (e:=e0) (F:=F) (by decide) (by omega)
 have h5:=xg hf (F:=F) (by omega)
 have h6:=D5 (a:=e0) (b:=e0) (F:=F) (by decide) (by omega)
 rw [O6] at h5
 rw [show decide (e0=e0)=true by simp] at h6
 rw [show FV e0.az=(12,true) by decide] at h3
 rw [show Ad e0.az=1 by decide] at h4
 unfold e0 at h1 h2 h3 h4 h5 h6
 rw [h1];simp only [Option.bind_some]
 rw [h2];simp only [Option.bind_some]
 rw [h3];simp only [Option.bind_some]
 unfold kX
 rw [h5];simp only [Option.bind_some,if_true,decide_true]
 rw [h6];simp only [Option.bind_some,if_true,decide_true]
 rw [h4];rfl
theorem Mg {b:List UInt8} {x y:ak} {F:Nat} (hF:200000<F):iQ F b x y=some true:=by
 unfold iQ
 rw [CL hF]
 simp only [Option.bind_some,Bool.not_true,Bool.false_eq_true,if_false]
 unfold iD
 by_cases hb:(16384:Int)<(b.length:Int)
 · rw [if_pos (by simpa using hb)];rfl
 · rw [if_neg (by simpa using hb)]
   obtain ⟨fx,T4,kx⟩:=O4 (e:=x) (F:=F) (by omega)
   obtain ⟨fy,hfy,ky⟩:=O4 (e:=y) (F:=F) (by omega)
   rw [T4]
   simp only [Option.bind_some]
   cases fx with
   |false=>rfl
   |true=>
    simp only [Bool.not_true,Bool.false_eq_true,if_false]
    rw [hfy]
    simp only [Option.bind_some]
    cases fy with
    |false=>rfl
    |true=>
     simp only [Bool.not_true,Bool.false_eq_true,if_false]
     obtain ⟨lx, -⟩:=kx rfl
     obtain ⟨ly, -⟩:=ky rfl
     obtain ⟨e,v,h1,d1⟩:=Xm (b:=b) (F:=F) (by omega) hF
     obtain ⟨e',v',h2,d2⟩:=acu (b:=b) (F:=F) (by omega) hF
     obtain ⟨rfl,rfl⟩:=acm d1 d2
     have hl:e.az.length≤1000:=by
      by_cases h0:(lF b).2=0
      · rcases d1.2.1 h0 with ⟨-,a2⟩|⟨-,a2, -⟩
        · rw [a2];decide
        · simp only [fM,Bool.and_eq_true,decide_eq_true_eq] at a2
          omega
      · rw [(d1.1 h0).1];decide
     rw [h1];simp only [Option.bind_some]
     rw [h2];simp only [Option.bind_some]
     unfold iE
     rw [Qa hl (by omega)];simp only [Option.bind_some]
     rw [P9 hl (by omega),Qa (e:=x) (by omega) (by omega),Qa (e:=y) (by omega) (by omega),D5 (a:=x) (b:=y) (by omega) (by omega),D5 (a:=x) (b:=x) (by omega) (by omega)]
     simp only [Option.bind_some,decide_true,if_true]
     rw [P9 (a:=x) (by omega) (by omega)]
     simp
theorem O7 {e:ak} {F:Nat} (hs:nK e) (hF:200000<F):jD F e=some true:=by
 unfold jD
 rw [CL hF]
 simp only [Option.bind_some,Bool.not_true,Bool.false_eq_true,if_false]
 obtain ⟨fe,hfe,ke⟩:=O4 (e:=e) (F:=F) (by omega)
 rw [hfe]
 simp only [Option.bind_some]
 cases fe with
 |false=>rfl
 |true=>
  obtain ⟨le,he⟩:=ke rfl
  simp only [Bool.not_true,Bool.false_eq_true,if_false]
  rw [Qa (by omega) (by omega)];simp only [Option.bind_some]
  rw [OX he hs hF];simp only [Option.bind_some]
  rw [JJ (by omega) (by omega)];simp only [Option.bind_some]
  rw [acw (by omega) (by omega)];simp only [Option.bind_some]
  unfold jh
  rw [xg he (by omega),CC he (by omega),Xh he hs hF,JK (by omega) (by omega),acy (by omega) (by omega)]
  simp only [Option.bind_some,BEq.rfl,Bool.not_true,Bool.false_eq_true,if_false,decide_true]
  cases hB:fM e with
  |false=>simp
  |true=>
   simp only [Bool.not_true,Bool.false_eq_true,if_false,if_true]
   rw [Qb hB hs hF]
   simp only [Option.bind_some]
   unfold ji
   rw [D5 (by omega) (by omega)]
   simp
theorem Xx (b:List UInt8) (x y:ak):∃F,iQ F b x y=some true:=⟨200001,Mg (by omega)⟩
theorem ZP (e:ak) (h:0≤e.sum∧e.sum≤4294967295):∃F,jD F e=some true:=⟨200001,O7 h (by omega)⟩
end Go.Proofs.cF
end
section
set_option maxRecDepth 100000
namespace Go.Proofs.cF
open Go Go.Am Go.Proofs
open Nat renaming reduceEqDiff→nA,reduceLT→nB,reduceLeDiff→nC,reduceAdd→nD,reduceSub→nE,reduceMul→nF,reduceBEq→nG
set_option maxHeartbeats 2000000
abbrev qW:aD:=(.rg [(aC 14 0),(aj 15 (.len (.t 14))),(aj 16 (.bin .eql (.t 15) (.c (.int .i64 0)))),(aC 17 16),(aF 18 (.mv (.t 0)) 17 false),(aF 19 (.len (.t 18)) 17 false),(aF 20 (.bin .gtr (.t 19) (.c (.int .i64 100))) 17 false),(aj 21 (.pick (.t 17) (.c (.bool true)) (.t 20)))])
abbrev qX:aD:=(.rg [(aC 38 8),(aC 39 1),(aj 40 (.len (.t 39))),(aj 41 (.bin .lss (.t 38) (.t 40))),(aC 42 41),(aF 43 (.mv (.t 1)) 42 true),(aF 44 (.mv (.t 8)) 42 true),(aF 45 (.ku 1 (.t 43) (.t 44)) 42 true),(aF 46 (.ld (.t 45) none) 42 true),(aj 47 (.pick (.t 42) (.t 46) (.c (.bool false))))])
abbrev oT:aD:=(.seq (.seq (.rg [(aC 22 8),(aC 23 0),(aj 24 (.len (.t 23))),(aj 25 (.bin .lss (.t 22) (.t 24)))]) (.cond (.t 25) .skip (.exit 0))) (.seq (.blk 1 (.seq (.rg [(aC 28 0),(aC 29 8),(aj 30 (.ku 1 (.t 28) (.t 29))),(aj 31 (.ld (.t 30) none)),(aj 32 (.dX (.int .i64) (.t 31))),(aj 33 (.build [(.str []),(.str []),(.int .i64 0),(.int .i64 0),(.int .i64 0),(.int .i64 0),(.str [])] [(2,(1,(.c (.int .i64 3)))),(4,(1,(.t 32)))])),(aj 9 (.alloc [(.str []),(.str []),(.int .i64 0),(.int .i64 0),(.int .i64 0),(.int .i64 0),(.str [])])),(cU (.st (.t 9) (.t 33) 7))]) (.seq (.rg [(aj 34 (.aV (.t 9) 0)),(aj 35 (.aV (.t 34) 0)),(cU (.st (.t 35) (.c (.str [97])) 1))]) (.seq (.rg [(aj 36 (.aV (.t 9) 0)),(aj 37 (.aV (.t 36) 1)),(cU (.st (.t 37) (.c (.str [98])) 1))]) (.seq (.seq (.sem (erase qX)) (.cond (.t 47) (.seq (.rg [(aj 48 (.aV (.t 9) 2)),(cU (.st (.t 48) (.c (.int .i64 1)) 1))]) (.seq (.rg [(aC 49 6),(aj 50 (.bin .add (.t 49) (.c (.int .i64 1)))),(bk 6 50)]) (.seq (.rg [(aj 51 (.aV (.t 9) 4)),(aj 52 (.ld (.t 51) none)),(aC 53 7),(aj 54 (.bin .lss (.t 52) (.t 53)))]) (.cond (.t 54) (.rg [(aj 55 (.aV (.t 9) 4)),(aj 56 (.ld (.t 55) none)),(bk 7 56)]) .skip)))) .skip)) (.rg [(aj 57 (.aV (.t 5) 5)),(aj 58 (.ld (.t 57) none)),(aj 59 (.ld (.t 9) (some 7))),(aj 60 (.jE 7 [(.t 59)])),(aj 61 (.app 7 80 (.t 58) (.t 60))),(aj 62 (.aV (.t 5) 5)),(cU (.st (.t 62) (.t 61) 1))])))))) (.rg [(aC 26 8),(aj 27 (.bin .add (.t 26) (.c (.int .i64 1)))),(bk 8 27)])))
abbrev qY:aD:=(.rg ((aj 68 (.ld (.t 5) (some 6)))::(aj 69 (.call (.c (.fn 13 [])) [(.t 68)]))::(aC 70 69)::(aF 71 (.ld (.t 5) (some 6)) 70 true)::(aF 72 (.call (.c (.fn 16 [])) [(.t 71)]) 70 true)::(aF 73 (.mv (.t 6)) 70 true)::(aF 74 (.bin .eql (.t 72) (.t 73)) 70 true)::(aj 75 (.pick (.t 70) (.t 74) (.c (.bool false))))::(aC 76 75)::(aF 77 (.mv (.t 11)) 76 true)::(aF 78 (.mv (.t 6)) 76 true)::(aF 79 (.bin .gtr (.t 78) (.c (.int .i64 0))) 76 true)::(aF 80 (.bq false (.t 77) (.t 79)) 76 true)::(aj 81 (.pick (.t 76) (.t 80) (.c (.bool false))))::(aC 82 81)::(aF 83 (.mv (.t 11)) 82 true)::(aF 84 (.un .not (.t 83)) 82 true)::(aF 85 (.mv (.t 84)) 82 true)::(aF 86 (.mv (.t 10)) 85 true)::(aF 87 (.bin .eql (.t 86) (.c (.int .i64 0))) 85 true)::(aF 88 (.pick (.t 85) (.t 87) (.c (.bool false))) 82 true)::(aF 89 (.mv (.t 88)) 82 true)::(aF 90 (.mv (.t 11)) 89 false)::(aF 91 (.mv (.t 90)) 89 false)::(aF 92 (.mv (.t 10)) 91 true)::(aF 93 (.mv (.t 7)) 91 true)::(aF 94 (.bin .eql (.t 92) (.t 93)) 91 true)::(aF 95 (.pick (.t 91) (.t 94) (.c (.bool false))) 89 false)::(aF 96 (.pick (.t 89) (.c (.bool true)) (.t 95)) 82 true)::(aj 97 (.pick (.t 82) (.t 96) (.c (.bool false))))::(bk 4 97)::[]))
abbrev DV:aD:=(.seq (.rg [(aj 4 (.bf (.c (.bool false))))]) (.seq (.seq (.rg [(aj 12 (.call (.c (.fn 7 [])) [])),(aj 13 (.un .not (.t 12)))]) (.cond (.t 13) (.seq (.rg [(aj 4 (.bf (.c (.bool false))))]) .ret) .skip)) (.seq (.seq (.sem (erase qW)) (.cond (.t 21) (.seq (.rg [(aj 4 (.bf (.c (.bool true))))]) .ret) .skip)) (.seq (.rg [(aj 5 (.alloc [(.str []),(.str []),(.int .i64 0),(.int .i64 0),(.int .u32 0),(.sl .ex 7 [])]))]) (.seq (.rg [(aj 6 (.bf (.c (.int .i64 0))))]) (.seq (.rg [(aj 7 (.bf (.c (.int .i64 1048576))))]) (.seq (.seq (.rg [(aj 8 (.bf (.c (.int .i64 0))))]) (.blk 0 (.loop (erase oT)))) (.seq (.rg [(aj 64 (.ld (.t 5) (some 6))),(aj 65 (.call (.c (.fn 11 [])) [(.t 64)])),(aC 63 65),(aj 66 (.ext (.t 63) 0)),(aj 67 (.ext (.t 63) 1)),(bk 10 66),(bk 11 67)]) (.seq (.sem (erase qY)) .ret)))))))))
theorem DW:bz Tryz.prog 6 98 [(.tmp 4)] (erase DV):=⟨Tryz.f6,_,rfl,by decide,rfl,by kernel_rfl,rfl,rfl⟩
abbrev iR:List Nat:=[0,1,4,5,6,7,8,9,10,11,13,21,25,47,54]
def fS (i7:Int) (dx:List Bool):Option (Bool):=
 (if (decide (i7<(dx.length:Int))) then
  (idx dx i7).bind fun Gq=>some Gq
 else
  some false)
def dj (dJ:List Int) (dx:List Bool):(Int×Int×Int×ak)→Option (St Bool (Int×Int×ak) (Int×Int×Int×ak))
 |(pK,iF,i7,s8)=>
  (if (decide (i7<(dJ.length:Int))) then
   (idx dJ i7).bind fun x9=>
   (fS i7 dx).bind fun t14=>
   (if t14 then
    (if (decide ((IntKind.wrap .i64 x9)<iF)) then
     (ct 80 s8.az ([(aW.mk (aH.mk ([97]:List UInt8) ([98]:List UInt8)) 1 0 (IntKind.wrap .i64 x9) 0 ([]:List UInt8))]:List aW)).bind fun Dt=>
     some (.cK ((IntKind.wrap .i64 (pK+1)),(IntKind.wrap .i64 x9),(IntKind.wrap .i64 (i7+1)),(ak.mk s8.av s8.born s8.size s8.sum Dt)))
    else
     (ct 80 s8.az ([(aW.mk (aH.mk ([97]:List UInt8) ([98]:List UInt8)) 1 0 (IntKind.wrap .i64 x9) 0 ([]:List UInt8))]:List aW)).bind fun GJ=>
     some (.cK ((IntKind.wrap .i64 (pK+1)),iF,(IntKind.wrap .i64 (i7+1)),(ak.mk s8.av s8.born s8.size s8.sum GJ))))
   else
    (ct 80 s8.az ([(aW.mk (aH.mk ([97]:List UInt8) ([98]:List UInt8)) 3 0 (IntKind.wrap .i64 x9) 0 ([]:List UInt8))]:List aW)).bind fun ET=>
    some (.cK (pK,iF,(IntKind.wrap .i64 (i7+1)),(ak.mk s8.av s8.born s8.size s8.sum ET))))
  else
   some (.fF (pK,iF,s8)))
def jV (F:Nat) (mU:ak) (C9:Int) (uH:Bool) (JL:Int) (ow:Int):Option (Bool):=
 (iw F mU).bind fun xR=>
 (if xR then
  (nH F mU).bind fun Ln=>
  (if (decide (Ln=C9)) then
   (if (uH==(decide (0<C9))) then
    (if (!uH) then
     (if (decide (JL=0)) then
      some true
     else
      (if uH then
       some (decide (JL=ow))
      else
       some false))
    else
     (if uH then
      some (decide (JL=ow))
     else
      some false))
   else
    some false)
  else
   some false)
 else
  some false)
def kU (F:Nat) (dJ:List Int) (dx:List Bool):Option (Bool):=
 (iA F).bind fun r3=>
 (if (!r3) then
  some false
 else
  (if ((decide ((dJ.length:Int)=0))||(decide (100<(dJ.length:Int)))) then
   some true
  else
   ((iter (dj dJ dx) F (0,1048576,0,(ak.mk (aH.mk ([]:List UInt8) ([]:List UInt8)) 0 0 0 ([]:List aW)))).bind fun o31=>
   match o31 with
   | .inr (C9,ow,mU)=>
     (qv F mU).bind fun (JL,uH)=>
     (jV F mU C9 uH JL ow).bind fun t30=>
     some t30
   | .inl _=>none)))
theorem yu {dJ:List Int} {dx:List Bool} {H0 H:AH} (hfr:Fr H0 H0.length [] H) {K:Exit→Env→AH→Prop}
 (kn:∀H':AH,Fr H0 H0.length [] H'→K .normal [(0,(.sl .n 1 (ml (jY .u16) dJ))),(1,(.sl .n 1 (ml AV.bool dx))),(21,(.bool ((decide ((dJ.length:Int)=0))||(decide (100<(dJ.length:Int))))))] H'):
 AX Tryz.prog iR 98 H0.length (erase qW) K [(0,(.sl .n 1 (ml (jY .u16) dJ))),(1,(.sl .n 1 (ml AV.bool dx)))] H:=by
 refine dn fun K' hK=> ?_
 have hle:=hfr.le
 refine bR ?_
 refine kj (fun bw=> ?_) fun bw=> ?_
 · refine aE bw ?_
   exact hK _ _ _ _ _ (dy bw) ax (kn _ hfr)
 · refine aE bw ?_
   exact hK _ _ _ _ _ (dy bw) ax (kn _ hfr)
theorem yw {i7:Int} {dx:List Bool} {dJ:List Int} {iK:Nat} {pK:Int} {iF:Int} {jy:Nat} {s8:ak} {x9:Int} {H0 H:AH} (hfr:Fr H0 H0.length [] H) (ai:H[iK]? =some [(.str s8.av.au),(.str s8.av.domain),(.int .i64 s8.born),(.int .i64 s8.size),(.int .u32 s8.sum),(.sl .own 7 (ml aA s8.az))]) (aq:H[jy]? =some [(.str ([97]:List UInt8)),(.str ([98]:List UInt8)),(.int .i64 3),(.int .i64 0),(.int .i64 (IntKind.wrap .i64 x9)),(.int .i64 0),(.str ([]:List UInt8))]) (eK:H0.length≤iK) (hi1:H0.length≤jy) (hi2:iK≠jy) {K:Exit→Env→AH→Prop} {t13:Bool}
 (h:fS i7 dx=some t13)
 (kn:∀H':AH,Fr H0 H0.length [] H'→H'[iK]? =some [(.str s8.av.au),(.str s8.av.domain),(.int .i64 s8.born),(.int .i64 s8.size),(.int .u32 s8.sum),(.sl .own 7 (ml aA s8.az))]→H'[jy]? =some [(.str ([97]:List UInt8)),(.str ([98]:List UInt8)),(.int .i64 3),(.int .i64 0),(.int .i64 (IntKind.wrap .i64 x9)),(.int .i64 0),(.str ([]:List UInt8))]→K .normal [(0,(.sl .n 1 (ml (jY .u16) dJ))),(1,(.sl .n 1 (ml AV.bool dx))),(5,(.ptr iK 0)),(6,(.int .i64 pK)),(7,(.int .i64 iF)),(8,(.int .i64 i7)),(9,(.ptr jy 0)),(47,(.bool t13))] H'):
 AX Tryz.prog iR 98 H0.length (erase qX) K [(0,(.sl .n 1 (ml (jY .u16) dJ))),(1,(.sl .n 1 (ml AV.bool dx))),(5,(.ptr iK 0)),(6,(.int .i64 pK)),(7,(.int .i64 iF)),(8,(.int .i64 i7)),(9,(.ptr jy 0))] H:=by
 refine dn fun K' hK=> ?_
 have hle:=hfr.le
 have aU:=aL ai
 have cE:=aL aq
 rw [fS.eq_1] at h
 refine aE (aB ai aq) ?_
 refine ck h (fun dw h=> ?_) fun dw h=> ?_
 · obtain ⟨Gq,dD,h⟩:=ay h
   refine aE (aB dw (aB dD (aB ai aq))) ?_
   obtain rfl:=aJ h
   exact hK _ _ _ _ _ aX ax (kn _ hfr (ai.trans rfl) (aq.trans rfl))
 · refine aE (aB dw (aB ai aq)) ?_
   obtain rfl:=aJ h
   exact hK _ _ _ _ _ aX ax (kn _ hfr (ai.trans rfl) (aq.trans rfl))
theorem yx {F:Nat} {i7:Int} {dJ:List Int} {dx:List Bool} {iF:Int} {s8:ak} {pK:Int} {q4:Nat} {H0 H:AH} (hfr:Fr H0 H0.length [] H) (ai:H[q4]? =some [(.str s8.av.au),(.str s8.av.domain),(.int .i64 s8.born),(.int .i64 s8.size),(.int .u32 s8.sum),(.sl .own 7 (ml aA s8.az))]) (eK:H0.length≤q4) {K:Exit→Env→AH→Prop} {o:(Bool)⊕(Int×Int×ak)}
 (h:iter (dj dJ dx) F (pK,iF,i7,s8)=some o)
 (di:∀o':Int×Int×ak,o= .inr o'→∀H':AH,Fr H0 H0.length [] H'→H'[q4]? =some [(.str o'.2.2.av.au),(.str o'.2.2.av.domain),(.int .i64 o'.2.2.born),(.int .i64 o'.2.2.size),(.int .u32 o'.2.2.sum),(.sl .own 7 (ml aA o'.2.2.az))]→K (.exit 0) [(5,(.ptr q4 0)),(6,(.int .i64 o'.1)),(7,(.int .i64 o'.2.1))] H'):
 AX Tryz.prog iR 98 H0.length (.loop (erase oT)) K [(0,(.sl .n 1 (ml (jY .u16) dJ))),(1,(.sl .n 1 (ml AV.bool dx))),(5,(.ptr q4 0)),(6,(.int .i64 pK)),(7,(.int .i64 iF)),(8,(.int .i64 i7))] H:=by
 refine ja (fun s e H1=>match s with|(pK,iF,i7,s8)=>e=[(0,(.sl .n 1 (ml (jY .u16) dJ))),(1,(.sl .n 1 (ml AV.bool dx))),(5,(.ptr q4 0)),(6,(.int .i64 pK)),(7,(.int .i64 iF)),(8,(.int .i64 i7))]∧Fr H0 H0.length [] H1∧H1[q4]? =some [(.str s8.av.au),(.str s8.av.domain),(.int .i64 s8.born),(.int .i64 s8.size),(.int .u32 s8.sum),(.sl .own 7 (ml aA s8.az))]) h ⟨rfl,hfr,ai⟩ ?_
 rintro K' ⟨pK,iF,i7,s8⟩ st e H ⟨rfl,hfr,ai⟩ h hN hB hR hX
 have hle:=hfr.le
 have aU:=aL ai
 rw [dj.eq_1] at h
 refine aE ai ?_
 refine bX h (fun bV h=> ?_) fun bV h=> ?_
 · obtain ⟨x9,cu,h⟩:=ay h
   refine aE (aB cu ai) ?_
   obtain ⟨jy,Jl⟩:∃q:Nat,H.length=q:=⟨_,rfl⟩
   try rw [Jl]
   obtain ⟨t14,eB,h⟩:=ay h
   refine cg ax (yw (dJ:=dJ) (pK:=pK) (iF:=iF) (s8:=s8) (x9:=x9) (iK:=q4) (jy:=jy) (bn _ (bn _ (bn _ (Fr.app hfr)))) (aY (aY (aY (ez (ai.trans rfl))))) bL br br br eB ?_)
   intro H hfr ai aq
   have hle:=hfr.le
   have aU:=aL ai
   have cE:=aL aq
   refine aE (aB ai aq) ?_
   refine bX h (fun cY h=> ?_) fun cY h=> ?_
   · refine aE (aB ai aq) ?_
     refine bX h (fun cG h=> ?_) fun cG h=> ?_
     · obtain ⟨Dt,ei,h⟩:=ay h
       have cZ:ct 80 (ml aA s8.az) [(.agg [(.str ([97]:List UInt8)),(.str ([98]:List UInt8)),(.int .i64 1),(.int .i64 0),(.int .i64 (IntKind.wrap .i64 x9)),(.int .i64 0),(.str ([]:List UInt8))])]=some (ml aA Dt):=dI (f:=aA) ei
       refine aE (aB cZ (aB ai aq)) ?_
       obtain rfl:=aJ h
       exact hN _ rfl _ _ _ _ aX ax ⟨rfl,(bn _ (bn _ (bn _ hfr))),bL⟩
     · obtain ⟨GJ,fV,h⟩:=ay h
       have kH:ct 80 (ml aA s8.az) [(.agg [(.str ([97]:List UInt8)),(.str ([98]:List UInt8)),(.int .i64 1),(.int .i64 0),(.int .i64 (IntKind.wrap .i64 x9)),(.int .i64 0),(.str ([]:List UInt8))])]=some (ml aA GJ):=dI (f:=aA) fV
       refine aE (aB kH (aB ai aq)) ?_
       obtain rfl:=aJ h
       exact hN _ rfl _ _ _ _ aX ax ⟨rfl,(bn _ (bn _ (bn _ hfr))),bL⟩
   · obtain ⟨ET,fW,h⟩:=ay h
     have jt:ct 80 (ml aA s8.az) [(.agg [(.str ([97]:List UInt8)),(.str ([98]:List UInt8)),(.int .i64 3),(.int .i64 0),(.int .i64 (IntKind.wrap .i64 x9)),(.int .i64 0),(.str ([]:List UInt8))])]=some (ml aA ET):=dI (f:=aA) fW
     refine aE (aB jt (aB ai aq)) ?_
     obtain rfl:=aJ h
     exact hN _ rfl _ _ _ _ aX ax ⟨rfl,(bn _ (bn _ hfr)),bL⟩
 · refine aE ai ?_
   obtain rfl:=aJ h
   exact hX _ _ _ _ _ eI aX ax (di _ (hB _ rfl) _ hfr (ai.trans rfl))
theorem yy {F:Nat} {mU:ak} {C9:Int} {uH:Bool} {JL:Int} {ow:Int} {Xt:Nat} {H0 H:AH} (hfr:Fr H0 H0.length [] H) (ai:H[Xt]? =some [(.str mU.av.au),(.str mU.av.domain),(.int .i64 mU.born),(.int .i64 mU.size),(.int .u32 mU.sum),(.sl .own 7 (ml aA mU.az))]) (eK:H0.length≤Xt) {K:Exit→Env→AH→Prop} {t29:Bool}
 (h:jV F mU C9 uH JL ow=some t29)
 (kn:∀H':AH,Fr H0 H0.length [] H'→H'[Xt]? =some [(.str mU.av.au),(.str mU.av.domain),(.int .i64 mU.born),(.int .i64 mU.size),(.int .u32 mU.sum),(.sl .own 7 (ml aA mU.az))]→K .normal [(4,(.bool t29))] H'):
 AX Tryz.prog iR 98 H0.length (erase qY) K [(5,(.ptr Xt 0)),(6,(.int .i64 C9)),(7,(.int .i64 ow)),(10,(.int .i64 JL)),(11,(.bool uH))] H:=by
 refine dn fun K' hK=> ?_
 have hle:=hfr.le
 have aU:=aL ai
 rw [jV.eq_1] at h
 refine aE ai ?_
 obtain ⟨xR,jv,h⟩:=ay h
 refine bg ax (kJ jv) ?_
 refine aE ai ?_
 refine ck h (fun mq h=> ?_) fun mq h=> ?_
 · refine aE (aB mq ai) ?_
   obtain ⟨Ln,j0,h⟩:=ay h
   refine bg ax (uG j0) ?_
   refine aE ai ?_
   refine ck h (fun n9 h=> ?_) fun n9 h=> ?_
   · refine aE (aB n9 ai) ?_
     refine ck h (fun kI h=> ?_) fun kI h=> ?_
     · refine aE (aB kI ai) ?_
       refine ck h (fun mu h=> ?_) fun mu h=> ?_
       · refine aE (aB mu ai) ?_
         refine ck h (fun wI h=> ?_) fun wI h=> ?_
         · refine aE (aB wI ai) ?_
           obtain rfl:=aJ h
           exact hK _ _ _ _ _ aX ax (kn _ hfr (ai.trans rfl))
         · refine aE (aB wI ai) ?_
           refine ck h (fun Bi h=> ?_) fun Bi h=> ?_
           · refine aE (aB Bi ai) ?_
             obtain rfl:=aJ h
             exact hK _ _ _ _ _ aX ax (kn _ hfr (ai.trans rfl))
           · refine aE (aB Bi ai) ?_
             obtain rfl:=aJ h
             exact hK _ _ _ _ _ aX ax (kn _ hfr (ai.trans rfl))
       · refine aE (aB mu ai) ?_
         refine ck h (fun Fa h=> ?_) fun Fa h=> ?_
         · refine aE (aB Fa ai) ?_
           obtain rfl:=aJ h
           exact hK _ _ _ _ _ aX ax (kn _ hfr (ai.trans rfl))
         · refine aE (aB Fa ai) ?_
           obtain rfl:=aJ h
           exact hK _ _ _ _ _ aX ax (kn _ hfr (ai.trans rfl))
     · refine aE (aB kI ai) ?_
       obtain rfl:=aJ h
       exact hK _ _ _ _ _ aX ax (kn _ hfr (ai.trans rfl))
   · refine aE (aB n9 ai) ?_
     obtain rfl:=aJ h
     exact hK _ _ _ _ _ aX ax (kn _ hfr (ai.trans rfl))
 · refine aE (aB mq ai) ?_
   obtain rfl:=aJ h
   exact hK _ _ _ _ _ aX ax (kn _ hfr (ai.trans rfl))
theorem CM {F:Nat} {dJ:List Int} {dx:List Bool} {H0:AH} {aM:Bool} (h:kU F dJ dx=some aM):
 aG Tryz.prog 6 [(.sl .n 1 (ml (jY .u16) dJ)),(.sl .n 1 (ml AV.bool dx))] H0 fun v H'=>v=(.bool aM)∧H'=H0:=by
 refine ec DW iR [] fun hcl K0 aO H hH hfr=> ?_
 clear hH
 have hle:=hfr.le
 rw [kU.eq_1] at h
 refine bR ?_
 obtain ⟨r3,hy1,h⟩:=ay h
 refine bg ax (oD hy1) ?_
 refine bR ?_
 refine bX h (fun bh h=> ?_) fun bh h=> ?_
 · refine bR ?_
   obtain rfl:=aJ h
   exact aO _ _ _ bE (bp hfr hcl (bC bx (.bool false)) bA bt ⟨rfl,rfl⟩)
 · refine bR ?_
   refine cg ax (yu (dJ:=dJ) (dx:=dx) hfr ?_)
   intro H hfr
   have hle:=hfr.le
   refine bR ?_
   refine bX h (fun bu h=> ?_) fun bu h=> ?_
   · refine bR ?_
     obtain rfl:=aJ h
     exact aO _ _ _ bE (bp hfr hcl (bC bx (.bool true)) bA bt ⟨rfl,rfl⟩)
   · refine bR ?_
     obtain ⟨q4,uB⟩:∃q:Nat,H.length=q:=⟨_,rfl⟩
     try rw [uB]
     obtain ⟨o31,mo,h⟩:=ay h
     refine cg (eV.set (q:=q4) (cs':=[(.str ([]:List UInt8)),(.str ([]:List UInt8)),(.int .i64 0),(.int .i64 0),(.int .u32 0),(.sl .own 7 [])]) kg gC) (yx (q4:=q4) (bn _ (Fr.app hfr)) bL br mo ?_)
     · rintro ⟨C9,ow,mU⟩ rfl H hfr ai
       try dsimp only at h ai
       have hle:=hfr.le
       have aU:=aL ai
       refine aE ai ?_
       obtain ⟨⟨JL,uH⟩,ju,h⟩:=ay h
       dsimp only at h
       refine bg ax (wU ju) ?_
       refine aE ai ?_
       obtain ⟨t30,aez,h⟩:=ay h
       refine cg ax (yy (Xt:=q4) hfr (ai.trans rfl) br aez ?_)
       intro H hfr ai
       have hle:=hfr.le
       have aU:=aL ai
       refine aE ai ?_
       obtain rfl:=aJ h
       exact aO _ _ _ bE (bp hfr hcl (bC bx (.bool t30)) bA bt ⟨rfl,rfl⟩)
end Go.Proofs.cF
end
section
set_option maxRecDepth 100000
namespace Go.Proofs.cF
open Go Go.Am Go.Proofs
def yN (q:Bool) (x:Int):aW:=aW.mk (aH.mk ([97]:List UInt8) ([98]:List UInt8)) (if q then 1 else 3) 0 x 0 ([]:List UInt8)
theorem Mh (q:Bool) {x:Int} (h0:0≤x) (h1:x≤65535):kq (yN q x)=true:=by
 have hr:dB (aH.mk ([97]:List UInt8) ([98]:List UInt8))=true:=by decide
 have hn:gI (aH.mk ([97]:List UInt8) ([98]:List UInt8))=false:=by decide
 unfold kq yN
 rw [hr,hn]
 have h2:gX x 0 2147483647=true:=by
  unfold gX
  simp only [Bool.and_eq_true,decide_eq_true_eq]
  omega
 simp only [h2]
 cases q<;>first|decide|(simp only [Bool.and_eq_true];exact ⟨by decide,by decide,by decide,by decide,by decide,trivial,by decide⟩)|rfl
structure DI (i:Nat) (v:List aW) (n least:Nat):Prop where
 len:v.length=i
 ok:v.all kq=true
 opn:Ad v=n
 le:n≤i
 due:FV v=if 0<n then ((least:Int),true) else (0,false)
 top:n=0→least=1048576
theorem Mi (v:List aW) (r:aW):FV (v++[r])=C8 (FV v) r:=by simp [FV,List.foldl_append]
theorem Mj (v:List aW) (r:aW):Ad (v++[r])=O3 (Ad v) r:=by simp [Ad,List.foldl_append]
theorem acz {i n least:Nat} {v:List aW} {x:Nat} (h:DI i v n least) (hx:x≤65535):DI (i+1) (v++[yN false x]) n least:=by
 refine ⟨by simp [h.len],by simp only [List.all_append,h.ok,List.all_cons,Mh false (x:=(x:Int)) (by omega) (by omega)];rfl, ?_,by have:=h.le;omega, ?_,h.top⟩
 · rw [Mj,h.opn];simp [O3,yN]
 · rw [Mi,h.due];simp [C8,yN]
theorem Qc {i n least:Nat} {v:List aW} {x:Nat} (h:DI i v n least) (hx:x≤65535):DI (i+1) (v++[yN true x]) (n+1) (if x<least then x else least):=by
 refine ⟨by simp [h.len],by simp only [List.all_append,h.ok,List.all_cons,Mh true (x:=(x:Int)) (by omega) (by omega)];rfl, ?_,by have:=h.le;omega, ?_,fun h0=>by omega⟩
 · rw [Mj,h.opn];simp [O3,yN]
 · rw [Mi,h.due]
   by_cases h0:0<n
   · rw [if_pos h0,if_pos (by omega)]
     by_cases hl:x<least
     · simp [C8,yN,hl]
     · simp [C8,yN,hl]
   · have ht:=h.top (by omega)
     rw [if_neg h0,if_pos (by omega),if_pos (by omega)]
     simp [C8,yN]
theorem Tf {dV:List Int} {qs:List Bool} {i n least:Nat} {v:List aW} (hn:dV.length≤100) (hx:∀x∈dV,0≤x∧x≤65535) (hi:i<dV.length) (h:DI i v n least):
 ∃(n' uT:Nat) (v':List aW),dj dV qs ((n:Int),(least:Int),(i:Int),ak.mk (aH.mk [] []) 0 0 0 v)=some (.cK ((n':Int),(uT:Int),((i+1:Nat):Int),ak.mk (aH.mk [] []) 0 0 0 v'))∧DI (i+1) v' n' uT:=by
 have hg:dV[i]? =some dV[i]:=List.getElem?_eq_getElem hi
 obtain ⟨h0,h1⟩:=hx _ (List.getElem_mem hi)
 obtain ⟨x,My⟩:∃x:Nat,dV[i]=(x:Int):=⟨dV[i].toNat,by omega⟩
 rw [My] at hg h0 h1
 have hl:=h.len
 have hle:=h.le
 have key:∀q:Bool,fS (i:Int) qs=some q→∃(n' uT:Nat) (v':List aW),dj dV qs ((n:Int),(least:Int),(i:Int),ak.mk (aH.mk [] []) 0 0 0 v)=some (.cK ((n':Int),(uT:Int),((i+1:Nat):Int),ak.mk (aH.mk [] []) 0 0 0 v'))∧DI (i+1) v' n' uT:=by
  intro q hq
  simp only [dj]
  rw [if_pos (by simpa using hi),bJ hg,Option.bind_some,hq,Option.bind_some,wr (n:=(x:Int)) (by omega) (by omega)]
  cases q with
  |true=>
   rw [if_pos rfl]
   by_cases hc:x<least
   · rw [if_pos (by simpa using hc),cA (by simp;omega) (by omega),Option.bind_some,qO (by omega),qO (by omega)]
     exact ⟨n+1,x,_,rfl,by have:=Qc h (x:=x) (by omega);rw [if_pos hc] at this;exact this⟩
   · rw [if_neg (by simpa using hc),cA (by simp;omega) (by omega),Option.bind_some,qO (by omega),qO (by omega)]
     exact ⟨n+1,least,_,rfl,by have:=Qc h (x:=x) (by omega);rw [if_neg hc] at this;exact this⟩
  |false=>
   rw [if_neg (by simp),cA (by simp;omega) (by omega),Option.bind_some,qO (by omega)]
   exact ⟨n,least,_,rfl,acz h (x:=x) (by omega)⟩
 by_cases hq:i<qs.length
 · exact key qs[i] (by unfold fS;rw [if_pos (by simpa using hq),bJ (List.getElem?_eq_getElem hq)];rfl)
 · exact key false (by unfold fS;rw [if_neg (by simpa using hq)])
theorem Th {dV:List Int} {qs:List Bool} {F:Nat} (hn:dV.length≤100) (hx:∀x∈dV,0≤x∧x≤65535) (hF:1000<F):
 ∃(n least:Nat) (v:List aW),iter (dj dV qs) F (0,1048576,0,ak.mk (aH.mk [] []) 0 0 0 [])=some (.inr ((n:Int),(least:Int),ak.mk (aH.mk [] []) 0 0 0 v))∧DI dV.length v n least:=by
 obtain ⟨o,ho,hp⟩:=SY (body:=dj dV qs)
  (fun s=>∃(i n least:Nat) (v:List aW),s=((n:Int),(least:Int),(i:Int),ak.mk (aH.mk [] []) 0 0 0 v)∧i≤dV.length∧DI i v n least)
  (fun s=>dV.length - s.2.2.1.toNat)
  (fun o=>∃(n least:Nat) (v:List aW),o= .inr ((n:Int),(least:Int),ak.mk (aH.mk [] []) 0 0 0 v)∧DI dV.length v n least)
  (by
   rintro s ⟨i,n,least,v,rfl,hi,h⟩
   by_cases hlt:i<dV.length
   · obtain ⟨n',uT,v',e,h'⟩:=Tf (qs:=qs) hn hx hlt h
     exact .inr (.inr ⟨_,e,⟨i+1,n',uT,v',rfl,by omega,h'⟩,by simp;omega⟩)
   · obtain rfl:i=dV.length:=by omega
     exact .inr (.inl ⟨_,by simp only [dj];rw [if_neg (by simp)],n,least,v,rfl,h⟩))
  F (0,1048576,0,ak.mk (aH.mk [] []) 0 0 0 []) ⟨0,0,1048576,[],rfl,by omega,⟨rfl,rfl,rfl,by omega,rfl,fun _=>rfl⟩⟩ (by simp;omega)
 obtain ⟨n,least,v,rfl,h⟩:=hp
 exact ⟨n,least,v,ho,h⟩
theorem Ti {dV:List Int} {qs:List Bool} {F:Nat} (hx:∀x∈dV,0≤x∧x≤65535) (hF:200000<F):kU F dV qs=some true:=by
 unfold kU
 rw [CL hF]
 simp only [Option.bind_some,Bool.not_true,Bool.false_eq_true,if_false]
 by_cases hl:dV.length=0∨100<dV.length
 · rw [if_pos]
   simp only [Bool.or_eq_true,decide_eq_true_eq]
   omega
 · rw [if_neg (by simp only [Bool.or_eq_true,decide_eq_true_eq];omega)]
   obtain ⟨n,least,v,e,h⟩:=Th (qs:=qs) (F:=F) (by omega) hx (by omega)
   rw [e]
   simp only [Option.bind_some]
   have hlen:=h.len
   rw [JJ (by simp only;omega) (by omega)]
   simp only [Option.bind_some]
   have hv:fM (ak.mk (aH.mk [] []) 0 0 0 v)=true:=by
    unfold fM
    have hr:dB (aH.mk ([]:List UInt8) ([]:List UInt8))=true:=by decide
    simp only [hr,h.ok,hlen]
    have a1:decide (1≤dV.length)=true:=by simp;omega
    have a2:decide (dV.length≤100)=true:=by simp;omega
    rw [a1,a2];rfl
   have hf:Bx (ak.mk (aH.mk [] []) 0 0 0 v):=by
    refine ⟨by simp only;omega,by simp [sH],fun r hr=> ?_⟩
    have:=(JD hv).2 r hr
    exact ⟨by have:=this.1;omega,by have:=this.2;omega⟩
   unfold jV
   rw [xg hf (by omega),hv,JK (by simp only;omega) (by omega)]
   simp only [Option.bind_some,if_true]
   rw [h.opn,h.due]
   by_cases h0:0<n
   · simp [h0]
   · obtain rfl:n=0:=by omega
     simp
theorem Mk (dV:List Int) (qs:List Bool) (hx:∀x∈dV,0≤x∧x≤65535):∃F,kU F dV qs=some true:=⟨200001,Ti hx (by omega)⟩
end Go.Proofs.cF
end
section
namespace Go.Am
open Go Go.RowKit
variable [Tabs]
def C0 (W:World) (b:Nat):List Value:=match W.heap[b]? with
 |some (.cells cs _ _)=>cs.toList
 |_=>[]
theorem aG.row {P:Program} {f:Nat} {args:List AV} {R:AV→AH→Prop} (h:aG P f args [] R) {W:World} {vs:Array Value} (htab:∀e∈Tabs.l,∃cs ty fr,W.heap[e.1]? =some (.cells cs ty fr)∧e.2 cs) (hl:vs.size=args.length)
 (hv:∀(i:Nat) (a:AV),args[i]? =some a→VR (C0 W) [] a (vs.getD i undef)∧TC W (C0 W) a (vs.getD i undef)∧a.plain=true):
 Calls P f vs W fun e w'=>∃r v aI γ' C',e= .returned v∧R r aI∧VR C' γ' r v∧Below W.heap.size W w':=by
 have hg:∀t,get (fA 0 args) t=(args[t]?).getD .un:=fun t=>by rw [eH];simp
 have hno:∀p b,¬blk [] (fA 0 args) [] vs W p b:=by
  intro p b hp
  cases p with
  |obj s=>simp [blk] at hp
  |cell s i=>obtain ⟨cs,a,b0,h1, -⟩:=hp;simp at h1
  |tmp t=>
   simp only [blk,hg] at hp
   cases ht:args[t]? with
   |none=>rw [ht] at hp;simp [bS] at hp
   |some a=>rw [ht] at hp;simp only [Option.getD_some] at hp;rw [iS _ (ir (hv t a ht).2.2)] at hp;cases hp
 have hs:SR [] args.length (fun b=>b<W.heap.size) [] (C0 W) (fA 0 args) [] vs W:=by
  refine ⟨⟨rfl,fun s b cs hs=>by simp at hs,fun b hne=> ?_,fun s b cs hs=>by simp at hs,fun s b cs us ty fr hs=>by simp at hs⟩,hl,fun t=> ?_,fun p q b hp=>absurd hp (hno p b),fun p b hp=>absurd hp (hno p b),⟨fun b hb=>hb,fun e he=> ?_⟩,fun t l k xs ht=> ?_⟩
  · unfold C0 at hne ⊢
    split at hne
    · rename_i cs ty fr hb
      rw [hb]
      exact ⟨cs,ty,fr,rfl,List.prefix_refl _⟩
    · exact absurd rfl hne
  · rw [hg]
    cases ht:args[t]? with
    |none=>exact ⟨.un ..,by cases vs.getD t undef<;>trivial⟩
    |some a=>exact ⟨(hv t a ht).1,(hv t a ht).2.1⟩
  · obtain ⟨cs0,ty,fr,h2,h5⟩:=htab e he
    have h4:e.1<W.heap.size:=by
     rcases Nat.lt_or_ge e.1 W.heap.size with h3|h3
     · exact h3
     · rw [Array.getElem?_eq_none h3] at h2;cases h2
    exact ⟨h4,cs0,ty,fr,h2,h5⟩
  · rw [hg] at ht
    cases hq:args[t]? with
    |none=>rw [hq] at ht;simp at ht
    |some a=>rw [hq] at ht;exact absurd ht (xy (hv t a hq).2.2 l k xs)
 refine (h.2 _ [] (C0 W) W vs hs).mono ?_
 rintro e w' ⟨r,v,aI,γ',C',rfl,hR, -,hs',hx⟩
 refine ⟨r,v,aI,γ',C',rfl,hR, ?_,hx.out.1,hx.out.2.1,hx.out.2.2,hx.size,fun k hk=>(hx.keep k hk).1⟩
 have:=(hs'.env 0).1
 simpa [get] using this
end Go.Am
end
section
namespace Go.Am
open Go Go.RowKit Go.Deep
variable [Tabs]
theorem Ml {W:World} {b o:Nat} {v:Value} (h:W.cell? ⟨b,o,none⟩=some v):o<(C0 W b).length∧(C0 W b).getD o undef=v:=by
 unfold C0
 unfold World.cell? at h
 simp only at h
 split at h
 · rename_i cs ty fr hb
   rw [hb]
   simp only at h ⊢
   have hlt:o<cs.size:=by
    rcases Nat.lt_or_ge o cs.size with h'|h'
    · exact h'
    · rw [Array.getElem?_eq_none h'] at h;cases h
   rw [Array.getElem?_eq_getElem hlt] at h
   injection h with h
   refine ⟨by simpa using hlt, ?_⟩
   rw [List.getD_eq_getElem?_getD,List.getElem?_eq_getElem (by simpa using hlt)]
   simpa using h
 · cases h
section
variable {H:Type} {enc:TypeId×Value→H} {P:Program} {W:World} {sp:Nat→Bool} {held:Bool}
theorem afe {t e:TypeId} {A:Type} (g:A→AV) {v:Value} {d:DataW H} {ps:List MemPlace} {base:Nat} {r:Reach} (ht:P.underlying t=some (.slice e)) (hc:P.cellsOf e=1) (hval:Value.okWide P W r base t v)
 (h:DataW.Trod enc P W 0 sp held t v d ps)
 (hg:∀x,(g x).cells=[g x]) (he:∀n V y,DataW.trod enc P W 0 sp held n e [V]=some y→V.oneCell'=true∧∃x,VR (C0 W) [] (g x) V):∃xs:List A,VR (C0 W) [] (.sl .n 1 (xs.map g)) v:=by
 have hv:(v= .slice none 0 0)∨∃a len cap,v= .slice (some a) len cap∧a.spot=none:=by
  unfold Value.okWide at hval
  rw [ht] at hval
  simp only [Cell.okWide,ht,Cell.ok] at hval
  cases v with
  |slice a len cap=>
   cases a with
   |none=>cases len<;>cases cap<;>first|exact .inl rfl|exact hval.elim
   |some a=>exact .inr ⟨a,len,cap,rfl,hval.2.2.2.1⟩
  |_=>exact hval.elim
 obtain ⟨fuel,h⟩:=h
 rcases hv with rfl|⟨a,len,cap,rfl,hsp⟩
 · exact ⟨[], .sM ..⟩
 · rcases open_slice1 ht hc h with ⟨h0, -⟩|⟨a',len',cap',m,n,V,D,Pl,h1,hb,hl,hm,F1,hx,hall⟩
   · simp [Value.cells] at h0
   · have h1:a'=a∧len'=len∧cap'=cap:=by simpa [Value.cells,eq_comm] using h1
     obtain ⟨rfl,rfl,rfl⟩:=h1
     have hlm:len'≤m:=by rw [F1];split<;>omega
     have key:∀i,i<len'→∃x,VR (C0 W) [] (g x) (V i):=fun i hi=>(he n (V i) _ (hall i (by omega)).2).2
     obtain ⟨b,o,s⟩:=a'
     simp only at hsp
     subst hsp
     have hcell:∀i,i<len'→o+i<(C0 W b).length∧(C0 W b).getD (o+i) undef=V i:=fun i hi=>by
      have:=(hall i (by omega)).1
      rw [add_eq] at this
      exact Ml this
     by_cases h0:len'=0
     · subst h0;exact ⟨[], .sM ..⟩
     let f:Nat→A:=fun i=>if hi:i<len' then Classical.choose (key i hi) else Classical.choose (key 0 (by omega))
     have hf:∀i,i<len'→VR (C0 W) [] (g (f i)) (V i):=fun i hi=>by
      show VR (C0 W) [] (g (if hi:i<len' then Classical.choose (key i hi) else Classical.choose (key 0 (by omega)))) (V i)
      rw [dif_pos hi]
      exact Classical.choose_spec (key i hi)
     refine ⟨(List.range len').map f, .sl _ _ _ _ _ _ _ _ (by simp) hl (fun i a hi=> ?_) ?_ (fun q h1 h2=> ?_) fun i a hi j y hj=> ?_⟩
     · rw [List.getElem?_map,List.getElem?_map] at hi
       cases hr:(List.range len')[i]? with
       |none=>rw [hr] at hi;simp at hi
       |some q=>rw [hr] at hi;simp at hi;subst hi;rw [hg];rfl
     · have:=(hcell (len' - 1) (by omega)).1;omega
     · have:=hcell (q - o) (by omega)
       rw [show o+(q - o)=q by omega] at this
       rw [this.2]
       exact (he n (V (q - o)) _ (hall (q - o) (by omega)).2).1
     · rw [List.getElem?_map,List.getElem?_map] at hi
       cases hr:(List.range len')[i]? with
       |none=>rw [hr] at hi;simp at hi
       |some q=>
        rw [hr] at hi
        have hq:=(List.getElem?_eq_some_iff.1 hr)
        obtain ⟨hlt,hq⟩:=hq
        simp at hlt hq
        subst hq
        simp at hi
        subst hi
        rw [hg] at hj
        cases j with
        |zero=>
         simp at hj
         subst hj
         have:=hcell i hlt
         rw [Nat.mul_one,Nat.add_zero,this.2]
         exact hf i hlt
        |succ j=>simp at hj
end
end Go.Am
end
section
namespace Go.Am
open Go Go.RowKit Go.Deep
variable [Tabs]
def CR (W:World) (zq:List AV) (vs:List Value):Prop:=
 zq.length=vs.length∧(∀v∈vs,v.oneCell'=true)∧∀(j:Nat) (a:AV),zq[j]? =some a→VR (C0 W) [] a (vs.getD j undef)
theorem CR.nil {W:World}:CR W [] []:=⟨rfl,by simp,by simp⟩
theorem CR.one {W:World} {a:AV} {V:Value} (h:VR (C0 W) [] a V) (ho:V.oneCell'=true):CR W [a] [V]:=by
 refine ⟨rfl,by simpa using ho,fun j b hj=> ?_⟩
 rcases j with _|j
 · simp at hj;subst hj;simpa using h
 · simp at hj
theorem CR.append {W:World} {zq bs:List AV} {vs ws:List Value} (h:CR W zq vs) (h2:CR W bs ws):CR W (zq++bs) (vs++ws):=by
 refine ⟨by simp [h.1,h2.1],fun v hv=> ?_,fun j a hj=> ?_⟩
 · rcases List.mem_append.1 hv with hv|hv
   · exact h.2.1 v hv
   · exact h2.2.1 v hv
 · rw [List.getElem?_append] at hj
   split at hj
   · rename_i hlt
     have:=h.2.2 j a hj
     rw [List.getD_eq_getElem?_getD,List.getElem?_append_left (by rw [←h.1];exact hlt), ←List.getD_eq_getElem?_getD]
     exact this
   · rename_i hlt
     have:=h2.2.2 _ a hj
     rw [List.getD_eq_getElem?_getD,List.getElem?_append_right (by rw [←h.1];omega), ←List.getD_eq_getElem?_getD, ←h.1]
     exact this
def AV.Xu:AV→Bool
 | .sl .n _ _=>true
 | .sl _ _ _| .agg _| .bM _=>false
 |_=>true
def AV.acA:AV→Bool
 | .agg cs=>cs.all AV.Xu
 |a=>a.Xu
theorem TC.enc {w:World} {C:Nat→List Value} {a:AV} (h:a.acA=true) (v:Value):TC w C a v:=by
 have h1:∀(a:AV) (v:Value),a.Xu=true→lT a v:=by
  intro a v h
  cases a with
  |sl t k xs=>cases t<;>first|exact HM .. |cases h
  |_=>first|(cases h;done)|(cases v<;>trivial)
 cases a with
 |agg cs=>
  cases v with
  |agg vs=>
   intro i a hi
   exact h1 a _ (List.all_eq_true.1 h a (List.mem_of_getElem? hi))
  |_=>trivial
 |sl t k xs=>cases t<;>first|(cases h;done)|(cases v<;>trivial)
 |_=>first|(cases h;done)|(cases v<;>trivial)
section
variable {H:Type} (enc:TypeId×Value→H) (P:Program) (W:World) (sp:Nat→Bool) (held:Bool)
def Op (t:TypeId) {A:Type} (f:A→AV):Prop:=∀n cs y,DataW.trod enc P W 0 sp held n t cs=some y→∃x:A,CR W (f x).cells cs
end
section
variable {H:Type} {enc:TypeId×Value→H} {P:Program} {W:World} {sp:Nat→Bool} {held:Bool}
theorem aeS {t:TypeId} {k:IntKind} (ht:P.underlying t=some (.int k)):Op enc P W sp held t (jY k):=by
 intro n cs y h
 cases n with
 |zero=>simp [DataW.trod] at h
 |succ n=>
  rcases cs with _|⟨V,_|⟨V2,r⟩⟩
  · simp [DataW.trod,ht] at h
  · cases V<;>simp [DataW.trod,ht] at h
    rename_i k' z
    obtain ⟨⟨rfl,hw⟩, -⟩:=h
    exact ⟨z,CR.one (.int ..) rfl⟩
  · simp [DataW.trod,ht] at h
theorem aff {t:TypeId} (ht:P.underlying t=some (.int .u8)):Op enc P W sp held t b8:=by
 intro n cs y h
 cases n with
 |zero=>simp [DataW.trod] at h
 |succ n=>
  rcases cs with _|⟨V,_|⟨V2,r⟩⟩
  · simp [DataW.trod,ht] at h
  · cases V<;>simp [DataW.trod,ht] at h
    rename_i k' z
    obtain ⟨⟨rfl,hw⟩, -⟩:=h
    have hz:0≤z∧z≤255:=by
     simp [Lit.wf,IntKind.min,IntKind.max,IntKind.bits,IntKind.signed] at hw
     omega
    refine ⟨UInt8.ofNat z.toNat,CR.one ?_ rfl⟩
    have:((UInt8.ofNat z.toNat).toNat:Int)=z:=by simp [UInt8.toNat_ofNat];omega
    simp only [b8,this]
    exact .int ..
  · simp [DataW.trod,ht] at h
theorem Xv {t:TypeId} (ht:P.underlying t=some .bool):Op enc P W sp held t AV.bool:=by
 intro n cs y h
 cases n with
 |zero=>simp [DataW.trod] at h
 |succ n=>
  rcases cs with _|⟨V,_|⟨V2,r⟩⟩
  · simp [DataW.trod,ht] at h
  · cases V<;>simp [DataW.trod,ht] at h
    exact ⟨_,CR.one (.bool ..) rfl⟩
  · simp [DataW.trod,ht] at h
theorem aeT {t:TypeId} (ht:P.underlying t=some .string):Op enc P W sp held t AV.str:=by
 intro n cs y h
 cases n with
 |zero=>simp [DataW.trod] at h
 |succ n=>
  rcases cs with _|⟨V,_|⟨V2,r⟩⟩
  · simp [DataW.trod,ht] at h
  · cases V<;>simp [DataW.trod,ht] at h
    rename_i s
    refine ⟨s.data.toList,CR.one ?_ rfl⟩
    have:s=⟨s.data.toList.toArray⟩:=by cases s;simp
    have h2:=VR.str (C:=C0 W) [] s.data.toList
    rwa [←this] at h2
  · simp [DataW.trod,ht] at h
theorem Mm {A:Type} {p:Nat→A→Prop}:∀(n:Nat),(∀i,i<n→∃x,p i x)→∃xs:List A,xs.length=n∧∀(i:Nat) (x:A),xs[i]? =some x→p i x:=by
 intro n
 induction n with
 |zero=>intro _;exact ⟨[],rfl,by simp⟩
 |succ n ih=>
  intro h
  obtain ⟨xs,h1,h2⟩:=ih fun i hi=>h i (by omega)
  obtain ⟨x,hx⟩:=h n (by omega)
  refine ⟨xs++[x],by simp [h1],fun i y hy=> ?_⟩
  rw [List.getElem?_append] at hy
  split at hy
  · exact h2 i y hy
  · rename_i hlt
    have:i=n:=by
     have:=(List.getElem?_eq_some_iff.1 hy).1
     simp at this;omega
    subst this
    rw [h1] at hy;simp at hy;subst hy;exact hx
theorem Xw {t e:TypeId} {k:Nat} {A:Type} {f:A→AV} (ht:P.underlying t=some (.slice e)) (hk:P.cellsOf e=k) (An:0<k) (hop:Op enc P W sp held e f) (hf:∀x,(f x).cells.length=k):
 Op enc P W sp held t (fun xs:List A=>AV.sl .n k (ml f xs)):=by
 intro n cs y h
 rcases open_slice ht h with ⟨rfl, -⟩|⟨a,len,cap,m,fu,D,Pl,rfl,hb,hl,hm,F1, -,hx⟩
 · exact ⟨[],CR.one (.sM ..) rfl⟩
 have hlm:len≤m:=by rw [F1];split<;>omega
 by_cases h0:len=0
 · subst h0;exact ⟨[],CR.one (.sM ..) rfl⟩
 subst hk
 have hel:∀i,i<len→∃x:A,∃cs',W.cells? 0 (a.add (i*P.cellsOf e)) (P.cellsOf e)=some cs'∧CR W (f x).cells cs':=fun i hi=>by
  obtain ⟨cs',h1,h2⟩:=hx i (by omega)
  obtain ⟨x,hc⟩:=hop _ _ _ h2
  exact ⟨x,cs',h1,hc⟩
 have hsp:a.spot=none:=by
  obtain ⟨x,cs',h1,hc⟩:=hel 0 (by omega)
  obtain ⟨-,h2,h3⟩:=World.cells?_some h1
  have h4:=h3 0 An
  have h5:(a.add (0*P.cellsOf e)).add 0=a:=by simp [Addr.add]
  rw [h5,List.getElem?_eq_getElem (by omega)] at h4
  unfold World.cell? at h4
  split at h4
  · split at h4
    · cases h4
    · rename_i hq;cases hs:a.spot<;>simp_all
  · cases h4
 obtain ⟨b,o,s⟩:=a
 simp only at hsp
 subst hsp
 obtain ⟨xs,hlen,hxs⟩:=Mm len hel
 have hcell:∀(i:Nat) (x:A),xs[i]? =some x→∃cs',CR W (f x).cells cs'∧cs'.length=P.cellsOf e∧∀j,j<P.cellsOf e→o+i*P.cellsOf e+j<(C0 W b).length∧(C0 W b).getD (o+i*P.cellsOf e+j) undef=cs'.getD j undef:=fun i x hi=>by
  obtain ⟨cs',h1,hc⟩:=hxs i x hi
  obtain ⟨-,h2,h3⟩:=World.cells?_some h1
  refine ⟨cs',hc,h2,fun j hj=> ?_⟩
  have h4:=h3 j hj
  rw [add_add,add_eq,List.getElem?_eq_getElem (by omega)] at h4
  have:=Ml h4
  rw [Nat.add_assoc,List.getD_eq_getElem?_getD (l:=cs'),List.getElem?_eq_getElem (by omega)]
  exact this
 refine ⟨xs,CR.one (.sl _ _ _ _ _ _ _ _ (by rw [Ib,hlen]) hl (fun i a hi=> ?_) ?_ (fun q h1 h2=> ?_) fun i a hi j y hj=> ?_) rfl⟩
 · rw [ml,List.getElem?_map] at hi
   cases hr:xs[i]? with
   |none=>rw [hr] at hi;simp at hi
   |some x=>rw [hr] at hi;simp at hi;subst hi;exact hf x
 · have Mz:len - 1<xs.length:=by omega
   obtain ⟨cs', -, -,h3⟩:=hcell (len - 1) _ (List.getElem?_eq_getElem Mz)
   have:=(h3 (P.cellsOf e - 1) (by omega)).1
   have h5:len*P.cellsOf e=(len - 1)*P.cellsOf e+P.cellsOf e:=by
    conv=>lhs;rw [show len=(len - 1)+1 by omega,Nat.succ_mul]
   omega
 · have hq:q - o<len*P.cellsOf e:=by omega
   have hi:(q - o) / P.cellsOf e<len:=Nat.div_lt_of_lt_mul (by rw [Nat.mul_comm];exact hq)
   have hj:(q - o) % P.cellsOf e<P.cellsOf e:=Nat.mod_lt _ An
   obtain ⟨cs',hc,h2,h3⟩:=hcell ((q - o) / P.cellsOf e) _ (List.getElem?_eq_getElem (by omega))
   have h4:=(h3 _ hj).2
   have h5:o+(q - o) / P.cellsOf e*P.cellsOf e+(q - o) % P.cellsOf e=q:=by
    have:=Nat.div_add_mod (q - o) (P.cellsOf e)
    rw [Nat.mul_comm] at this
    omega
   rw [h5] at h4
   rw [h4,List.getD_eq_getElem?_getD,List.getElem?_eq_getElem (by omega)]
   exact hc.2.1 _ (List.getElem_mem ..)
 · rw [ml,List.getElem?_map] at hi
   cases hr:xs[i]? with
   |none=>rw [hr] at hi;simp at hi
   |some x=>
    rw [hr] at hi;simp at hi;subst hi
    obtain ⟨cs',hc,h2,h3⟩:=hcell i x hr
    have hjl:j<P.cellsOf e:=by rw [←hf x];exact (List.getElem?_eq_some_iff.1 hj).1
    rw [(h3 j hjl).2]
    exact hc.2.2 j y hj
theorem acB {t:TypeId} {fs:Array Field} {A:Type} {f:A→AV} (ht:P.underlying t=some (.struct fs))
 (hb:∀cs:List Value,cs.length=P.cellsOf t→(∀(i:Nat) (fl:Field),fs[i]? =some fl→∃n y,DataW.trod enc P W 0 sp held n fl.type ((cs.drop fl.offset).take (P.cellsOf fl.type))=some y)→∃x,CR W (f x).cells cs):
 Op enc P W sp held t f:=by
 intro n cs y h
 obtain ⟨xs,m, -, -,hl,hlen,hf⟩:=DataW.trod_struct ht h
 refine hb cs hl fun i fl hfl=> ?_
 have hlt:i<xs.length:=by rw [hlen];exact (Array.getElem?_eq_some_iff.1 hfl).1
 exact ⟨m,xs[i],by rw [hf i fl hfl,List.getElem?_eq_getElem hlt]⟩
theorem seg {cs:List Value} {o k:Nat}:(cs.drop o).take k++cs.drop (o+k)=cs.drop o:=by
 rw [←List.drop_drop,List.take_append_drop]
theorem Op.arg1 {t:TypeId} {A:Type} {f:A→AV} (hop:Op enc P W sp held t f) (hf:∀x,(f x).cells=[f x]) {v:Value} {d:DataW H} {ps:List MemPlace} {r:Reach} {base:Nat} (hs:∀cs,¬Value.okWide P W r base t (.agg cs))
 (hval:Value.okWide P W r base t v) (h:DataW.Trod enc P W 0 sp held t v d ps):∃x,VR (C0 W) [] (f x) v:=by
 obtain ⟨fuel,h⟩:=h
 obtain ⟨x,h1, -,h3⟩:=hop _ _ _ h
 rw [hf] at h1 h3
 have hc:v.cells.toList=[v]:=by
  cases v with
  |agg cs=>exact absurd hval (hs cs)
  |_=>rfl
 rw [hc] at h3
 exact ⟨x,by simpa using h3 0 (f x) rfl⟩
theorem Op.afy {t:TypeId} {A:Type} {f:A→AV} (hop:Op enc P W sp held t f) {fs:Array Field} (ht:P.underlying t=some (.struct fs)) (hf:∀x,f x= .agg (f x).cells) {v:Value} {d:DataW H} {ps:List MemPlace} {r:Reach} {base:Nat}
 (hval:Value.okWide P W r base t v) (h:DataW.Trod enc P W 0 sp held t v d ps):∃x,VR (C0 W) [] (f x) v:=by
 obtain ⟨fuel,h⟩:=h
 obtain ⟨x,h1, -,h3⟩:=hop _ _ _ h
 unfold Value.okWide at hval
 rw [ht] at hval
 obtain ⟨cs,rfl, -, -⟩:=hval
 refine ⟨x, ?_⟩
 rw [hf x]
 refine .agg _ _ _ (by simpa [Value.cells] using h1) fun i a hi=> ?_
 have:=h3 i a hi
 simpa [Value.cells,Array.getD_eq_getD_getElem?,List.getD_eq_getElem?_getD] using this
theorem acC {t:TypeId} {k:IntKind} {r:Reach} {base:Nat} (ht:P.underlying t=some (.int k)) (cs:Array Value):¬Value.okWide P W r base t (.agg cs):=by
 simp [Value.okWide,Cell.okWide,Cell.ok,ht]
theorem aan {t:TypeId} {r:Reach} {base:Nat} (ht:P.underlying t=some .bool) (cs:Array Value):¬Value.okWide P W r base t (.agg cs):=by
 simp [Value.okWide,Cell.okWide,Cell.ok,ht]
theorem acD {t:TypeId} {r:Reach} {base:Nat} (ht:P.underlying t=some .string) (cs:Array Value):¬Value.okWide P W r base t (.agg cs):=by
 simp [Value.okWide,Cell.okWide,Cell.ok,ht]
theorem HA {t e:TypeId} {r:Reach} {base:Nat} (ht:P.underlying t=some (.slice e)) (cs:Array Value):¬Value.okWide P W r base t (.agg cs):=by
 simp [Value.okWide,Cell.okWide,Cell.ok,ht]
theorem FW {ts:List TypeId} (hl:laidOutB P=true) {W W':World} (hb:Below W.heap.size W W'):∀ {vs:List Value} {ds:List (DataW H)} {ps:List MemPlace},(∀t∈ts,P.readableRec t=true∧t<P.types.size)→
 DataW.TrodAll enc P W 0 (fun _=>true) true ts vs ds ps→(∀x∈ps,x.block<W.heap.size)→DataW.TrodAll enc P W' 0 (fun b=>decide (b<W.heap.size)) true ts vs ds ps:=by
 induction ts with
 |nil=>
  intro vs ds ps _ h _
  cases vs<;>cases ds<;>simp [DataW.TrodAll] at h ⊢
  exact h
 |cons t ts ih=>
  intro vs ds ps ht h hlt
  cases vs<;>cases ds<;>simp only [DataW.TrodAll] at h ⊢
  obtain ⟨p,q,h1,h2,rfl⟩:=h
  exact ⟨p,q,Below.trod hl (ht t (by simp)).1 (ht t (by simp)).2 h1 hb (fun x hx=>hlt x (by simp [hx])),ih (fun t h=>ht t (by simp [h])) h2 (fun x hx=>hlt x (by simp [hx])),rfl⟩
end
end Go.Am
end
section
namespace Go.Proofs.YtdigbcafimghdaaGreatDoor
open Go.ChangeShapes Go.WideShapes Go.ChangeAt Go.RowKit Go.Am Go.Proofs.cF
theorem Own.own:ownKnob Tryz.prog.godebug=none:=by kernel_rfl
theorem Own.laidOut:laidOutB Tryz.prog=true:=by kernel_rfl
def ud:List (String×DataW Unit):=[("math/bits.deBruijn32tab",Rows.laid_math_bits_deBruijn32tab),("math/bits.deBruijn64tab",Rows.laid_math_bits_deBruijn64tab),("internal/strconv.uint64pow10",Rows.laid_internal_strconv_uint64pow10),("unicode/utf8.acceptRanges",Rows.laid_unicode_utf8_acceptRanges),("strconv.ErrRange",Rows.laid_strconv_ErrRange),("strconv.ErrSyntax",Rows.laid_strconv_ErrSyntax),("unicode/utf8.first",Rows.laid_unicode_utf8_first)]
noncomputable def Ae (os:Os):World:=
 {World.doorLaid Tryz.prog 4000 os with heap:=(World.doorLaid Tryz.prog 4000 os).heap.modify 3 fun
  | .cells _ t fr=> .cells (Go.Pinned.utf8FirstZ.map fun n:Nat=>Value.int .u8 (n:Int)).toArray t fr
  |o=>o}
set_option maxRecDepth 100000 in
theorem Tj (os:Os) (args:Array Value):laidMetH Tryz.prog ud ((Ae os).forCall (fun _ _=>0) ⟨#[],args,[]⟩).memory:=
 laidMetH_of_parts3 (fuel:=8) (laidMet_of_run' 8 (by kernel_rfl) (by kernel_rfl)) (by kernel_rfl) (by kernel_rfl)
set_option maxRecDepth 100000 in
theorem JM (os:Os) (args:Array Value):((Ae os).forCall (fun _ _=>0) ⟨#[],args,[]⟩).Shaped Tryz.prog:=World.shaped_of_RefB (by kernel_rfl) (by kernel_rfl)
end Go.Proofs.YtdigbcafimghdaaGreatDoor
end
section
namespace Go.Proofs.YtdigbcafimghdaaGreatDoor
open Go.ChangeShapes Go.WideShapes Go.ChangeAt Go.RowKit Go.Am Go.Proofs.cF
theorem HB {t:TypeId} {ms:Array (String×TypeId)} (ht:Tryz.prog.underlying t=some (.interface ms)) {H:Type} {enc:TypeId×Value→H} {W:World} {sp:Nat→Bool} {held:Bool} {fuel:Nat} {cs:List Value} {y:DataW H×List MemPlace}
 (h:DataW.trod enc Tryz.prog W 0 sp held fuel t cs=some y):∃ev,cs=[ev]∧(ev= .nilIface∨∃te pe,ev= .iface te pe):=by
 cases fuel with
 |zero=>simp [DataW.trod] at h
 |succ n=>
  rcases cs with _|⟨v,_|⟨v2,r⟩⟩
  · simp [DataW.trod,ht] at h
  · cases v<;>first|exact ⟨_,rfl, .inl rfl⟩|exact ⟨_,rfl, .inr ⟨_,_,rfl⟩⟩|(exfalso;simp [DataW.trod,ht] at h)
  · cases v<;>simp [DataW.trod,ht] at h
theorem Af {W:World} {name:String} {g:Nat} {cs:Array Value} (hg:Tryz.prog.globalNamed name=some g) (h:W.var? Tryz.prog name=some cs):∃t fr,W.heap[g]? =some (.cells cs t fr):=by
 simp only [World.var?,hg,Option.bind_some] at h
 split at h
 · rename_i c t fr hb
   injection h with h
   subst h
   exact ⟨t,fr,hb⟩
 · cases h
theorem O8 {W:World} (hs:W.ShapedOpen Tryz.prog) (h:laidMetH Tryz.prog ud W):∀e∈Tabs.l,∃cs ty fr,W.heap[e.1]? =some (.cells cs ty fr)∧e.2 cs:=by
 rw [MakeChecks.laidMetH_plain _ _ _ (by kernel_rfl)] at h
 obtain ⟨ps,⟨g0,t0,cs0,f0,p0,q0,XZ,ht0,hv0,hd0,⟨g1,t1,X3,f1,p1,q1,X9,ht1,hv1,hd1,⟨g2,t2,cs2,f2,p2,q2,Kd,ht2,F0,Dd,⟨g3,t3,cs3,f3,p3,q3,hg3,ht3,hv3,hd3,⟨g4,t4,cs4,f4,p4,q4,hg4,ht4,hv4,hd4,⟨g5,t5,cs5,f5,p5,q5,hg5,ht5,hv5,hd5,_,_⟩,_⟩,_⟩,_⟩,_⟩,_⟩,_⟩:=h
 intro e he
 simp only [Tabs.l,List.mem_cons,List.mem_nil_iff,or_false] at he
 rcases he with rfl|rfl|rfl|rfl
 · obtain ⟨cs,hh,hsz, -⟩:=hs.1 0 #[.int .i64 0] 3 (of_decide_eq_true (by kernel_rfl)) (by kernel_rfl)
   obtain ⟨m,hm⟩:=cell_of_shapedOpen_int (g:=0) (t:=3) (k:= .i64) (zero:= #[.int .i64 0]) hs (of_decide_eq_true (by kernel_rfl)) (by kernel_rfl) rfl (by kernel_rfl) (by kernel_rfl) (by kernel_rfl)
   refine ⟨cs,_,_,hh,m, ?_⟩
   have h1:cs.size=1:=hsz
   apply Array.ext
   · exact h1
   · intro i hi _
     have:i=0:=by omega
     subst this
     simpa [World.cell?,hh,h1] using hm
 · have hg:Tryz.prog.globalNamed "internal/strconv.uint64pow10" =some 5:=by kernel_rfl
   obtain rfl:=Option.some.inj (hg.symm.trans Kd)
   obtain rfl:=Option.some.inj ((show (Tryz.prog.globals[5]?).map (·.type)=some 157 by kernel_rfl).symm.trans ht2)
   have hc:cs2.toList=Lib.pow10Tab.map fun z=>Value.int .u64 z:=Lib.cells_of_tab (n:=20) (e:=104) (k:= .u64) Tryz.underlying157 (by kernel_rfl) (by kernel_rfl) (by kernel_rfl) Dd
   obtain ⟨t,fr,hb⟩:=Af hg F0
   refine ⟨cs2,t,fr,hb, ?_⟩
   simp only [←hc,Array.toArray_toList]
 · have hg:Tryz.prog.globalNamed "strconv.ErrSyntax" =some 1:=by kernel_rfl
   obtain rfl:=Option.some.inj (hg.symm.trans hg5)
   obtain rfl:=Option.some.inj ((show (Tryz.prog.globals[1]?).map (·.type)=some 116 by kernel_rfl).symm.trans ht5)
   obtain ⟨ev,he,hev⟩:=HB Tryz.underlying116 hd5
   obtain ⟨t,fr,hb⟩:=Af hg hv5
   exact ⟨cs5,t,fr,hb,ev,by rw [←Array.toArray_toList (xs:=cs5),he],hev⟩
 · have hg:Tryz.prog.globalNamed "strconv.ErrRange" =some 2:=by kernel_rfl
   obtain rfl:=Option.some.inj (hg.symm.trans hg4)
   obtain rfl:=Option.some.inj ((show (Tryz.prog.globals[2]?).map (·.type)=some 116 by kernel_rfl).symm.trans ht4)
   obtain ⟨ev,he,hev⟩:=HB Tryz.underlying116 hd4
   obtain ⟨t,fr,hb⟩:=Af hg hv4
   exact ⟨cs4,t,fr,hb,ev,by rw [←Array.toArray_toList (xs:=cs4),he],hev⟩
section
variable {H:Type} {enc:TypeId×Value→H}
theorem CN {a:Assume} {C:Checked} {os:Os} {f:FuncId} {fn:Func} {s:ChangeSpec} {conds:List PathCond} {apart fresh handsOn again:Bool} {X:World→Array Value→Prop}
 (hX:∀(w w':World) (args:Array Value),w.heap=w'.heap→X w args→X w' args)
 (own:ownKnob C.prog.godebug=none) (started:os.Started) (noInit:C.prog.inits.idxOf? f=none) (hfn:C.prog.funcs[f]? =some fn)
 (witness:∃(w:World) (tape:Tape) (i:Input),w.os=os∧(w.forCall tape i).Shaped C.prog∧i.vars=[]∧Input.okWide C.prog (w.forCall tape i) .any w.heap.size f i∧
  ((s.pre enc C.prog fn conds apart (w.forCall tape i).memory i.args∧X (w.forCall tape i).memory i.args)∧sizedMet enc C.prog fn (OpenSpec.ofChange s) apart (w.forCall tape i).memory i.args)∧a.holds C.prog (lone (Frame.enter C.prog f i.args .normal) [] (w.forCall tape i)))
 (contract:∀(W:World) (base:Nat) (args:Array Value) (ds gs:List (DataW H)) (before:List MemPlace),
  (∀(j:Nat) t v,fn.params[j]? =some t→args[j]? =some v→Value.okWide C.prog W .any base t v)→
  DataW.Whole enc C.prog fn.params.toList s.vars apart W args.toList ds gs before→W.ShapedOpen C.prog→X W args→
  Calls C.prog f args W fun e W'=>∃v,e= .returned v∧s.post enc C.prog fn apart fresh handsOn again W args v W'):
 ReturnsInHanded a C os f .any (fun w args=>(s.pre enc C.prog fn conds apart w args∧X w args)∧sizedMet enc C.prog fn (OpenSpec.ofChange s) apart w args) (s.post enc C.prog fn apart fresh handsOn again):=by
 refine returnsInHanded_of_calls own started noInit witness ?_
 rintro w tape i - ZQ - ⟨-, -, -,fn2,aeA, -, -, -, -,acE⟩ ⟨⟨⟨ds,gs,before,ZR, -⟩,hx⟩, -⟩ -
 obtain rfl:fn2=fn:=Option.some.inj (aeA.symm.trans hfn)
 refine (contract (w.forCall tape i) _ i.args ds gs before acE (DataW.Whole.of_heap (w':=w.forCall tape i) (by rfl) ZR) ZQ (hX _ _ _ (by rfl) hx)).mono ?_
 rintro e W' ⟨v,rfl,hp⟩
 exact ChangeSpec.post_blind hp
end
theorem aeB {P:Program} {W:World} {r:Reach} {base:Nat} {t:TypeId} {k:IntKind} (ht:P.underlying t=some (.int k)) {C:Nat→List Value} {γ:List Nat} {x:Int} {v:Value} (hv:VR C γ (.int k x) v) (h:Value.okWide P W r base t v):k.has x:=by
 obtain rfl:=hv.cV
 unfold Value.okWide at h
 rw [ht] at h
 unfold Cell.okWide Cell.ok at h
 rw [ht] at h
 exact h.2
end Go.Proofs.YtdigbcafimghdaaGreatDoor
end
section
namespace Go.Proofs.YtdigbcafimghdaaGreatDoor
open Go.ChangeShapes Go.WideShapes Go.ChangeAt Go.RowKit Go.Am Go.Proofs.cF
theorem ZS {H:Type} {enc:TypeId×Value→H} {P:Program} {W:World} {sp:Nat→Bool} {held:Bool} {t:TypeId} (ht:P.underlying t=some (.int .u16)):Am.Op enc P W sp held t (fun x: {i:Int // 0≤i∧i≤65535}=>jY .u16 x.val):=by
 intro n cs y h
 cases n with
 |zero=>simp [DataW.trod] at h
 |succ n=>
  rcases cs with _|⟨V,_|⟨V2,r⟩⟩
  · simp [DataW.trod,ht] at h
  · cases V<;>simp [DataW.trod,ht] at h
    rename_i k' z
    obtain ⟨⟨rfl,hw⟩, -⟩:=h
    have hz:0≤z∧z≤65535:=by
     simp [Lit.wf,IntKind.min,IntKind.max,IntKind.bits,IntKind.signed] at hw
     omega
    exact ⟨⟨z,hz⟩,CR.one (.int ..) rfl⟩
  · simp [DataW.trod,ht] at h
set_option maxRecDepth 100000 in
theorem FX (os:Os) (started:os.Started) (H:Type) (enc:TypeId×Value→H):
 ReturnsInHanded {} Tryz.checked os 6 .any (fun w args=>(Rows.envDueSpec.pre enc Tryz.prog Tryz.f6 [] false w args∧laidMetH Tryz.prog ud w)∧sizedMet enc Tryz.prog Tryz.f6 (OpenSpec.ofChange Rows.envDueSpec) false w args) (Rows.envDueSpec.post enc Tryz.prog Tryz.f6 false true false false):=by
 refine CN (C:=Tryz.checked) (X:=fun w _=>laidMetH Tryz.prog ud w) (fun _ _ _ hh h=>h.of_heap hh) Own.own started (by kernel_rfl) Tryz.func6
  (ChangeSpec.witness_shaped (enc:=enc) (C:=Tryz.checked) (os:=os) (X:=fun w _=>laidMetH Tryz.prog ud w) false (Ae os) #[.slice none 0 0, .slice none 0 0] 8 rfl (JM os _) (by kernel_rfl) (by kernel_rfl) (by kernel_rfl) (Tj os _)) ?_
 intro W base args ds gs before acF hW hS hL
 have hval:∀(j:Nat) t v,Tryz.f6.params[j]? =some t→args[j]? =some v→Value.okWide Tryz.prog W .any base t v:=acF
 have hW':=hW
 obtain ⟨p,q,hA0,hV,rfl,hfz,hnd⟩:=hW
 have hA:DataW.TrodAll enc Tryz.prog W 0 (fun _=>true) true Tryz.f6.params.toList args.toList ds p:=hA0
 have hA1:=hA
 rw [Tryz.params6] at hA hval
 obtain ⟨vs,hvs⟩:∃vs,vs=args.toList:=⟨_,rfl⟩
 rw [←hvs] at hA
 obtain ⟨v0,vs0,d0,ds0,p0,q0,e0,rfl,rfl,h0,hA⟩:=trodAll_cons hA
 obtain ⟨v1,vs1,d1,ds1,p1,q1,e1,rfl,rfl,h1,hA⟩:=trodAll_cons hA
 obtain ⟨e2,rfl,rfl⟩:=trodAll_nil hA
 have hargs:args= #[v0,v1]:=by
  apply Array.ext';rw [←hvs,e0,e1,e2]
 subst hargs
 obtain ⟨rfl,rfl⟩:=trodVars_none hV
 obtain ⟨y0,c0⟩:=Op.arg1 (f:=(fun xs=>AV.sl .n 1 (ml (fun x: {i:Int // 0≤i∧i≤65535}=>jY .u16 x.val) xs))) (Xw (e:=55) (k:=1) (f:=(fun x: {i:Int // 0≤i∧i≤65535}=>jY .u16 x.val)) (by kernel_rfl) (by kernel_rfl) (by decide) (ZS (by kernel_rfl)) (fun _=>rfl)) (fun _=>rfl) (fun cs=>HA (e:=55) (by kernel_rfl) cs) (hval 0 53 v0 rfl rfl) h0
 obtain ⟨x0,hx0⟩:∃x0,x0=y0.map Subtype.val:=⟨_,rfl⟩
 have a0:VR (C0 W) [] (AV.sl .n 1 (ml (jY .u16) x0)) v0:=by
  have e:ml (jY .u16) x0=ml (fun x: {i:Int // 0≤i∧i≤65535}=>jY .u16 x.val) y0:=by rw [hx0];simp [ml]
  rw [e];exact c0
 have b0:∀x∈x0,0≤x∧x≤65535:=by
  intro x hx
  rw [hx0,List.mem_map] at hx
  obtain ⟨y, -,rfl⟩:=hx
  exact y.property
 obtain ⟨x1,a1⟩:=Op.arg1 (f:=(fun xs=>AV.sl .n 1 (ml AV.bool xs))) (Xw (e:=4) (k:=1) (f:=AV.bool) (by kernel_rfl) (by kernel_rfl) (by decide) (Xv (by kernel_rfl)) (fun _=>rfl)) (fun _=>rfl) (fun cs=>HA (e:=4) (by kernel_rfl) cs) (hval 1 54 v1 rfl rfl) h1
 have hlt:∀x∈p0++(p1++([])),x.block<W.heap.size:=fun x hx=>hW'.lt x (by simpa using hx)
 obtain ⟨F,hF⟩:=Mk x0 x1 b0
 refine ((CM (H0:=[]) hF).row (vs:= #[v0,v1]) (O8 hS hL) rfl ?_).mono ?_
 · intro i x hi
   rcases i with _|_|i
   · simp at hi;subst hi;exact ⟨a0,TC.enc (by rfl) _,rfl⟩
   · simp at hi;subst hi;exact ⟨a1,TC.enc (by rfl) _,rfl⟩
   · simp at hi
 · rintro e W' ⟨r,v,aI,γ',C',rfl,⟨rfl,rfl⟩,hv,hb⟩
   have hv:=hv.gP
   subst hv
   refine ⟨_,rfl,_,_,_,[],p0++(p1++([])),[],hW', ?_, ?_, ?_,hb.frame _,fun h=>by cases h⟩
   · exact trodAll_mk1 (shut_bool (by kernel_rfl) true)
   · exact FW Own.laidOut hb (of_decide_eq_true (by kernel_rfl)) hA1 hlt
   · exact rfl
theorem G3:Rows.EnvDueSaid:=
 OpenClaim.holds_of_wide 6 Tryz.f6 rfl rfl rfl rfl rfl rfl rfl ⟨rfl,rfl,rfl,rfl,rfl⟩ rfl rfl rfl rfl rfl (by kernel_rfl) Tryz.func6 (by kernel_rfl)
  (of_decide_eq_true (by kernel_rfl)) (by unfold Func.isWrapper;first|(rw [if_pos (by decide+kernel)];kernel_rfl)|(rw [if_neg (by decide+kernel)];exact ⟨rfl,rfl⟩))
  (fun os started H enc _=>FX os started H enc)
theorem envDue_tied:Rows.EnvDueCardSaid:=
 Claim7.holds_tied_plain_at .later [] [.data, .data, .data, .data, .sentinel, .sentinel, .pinned] true Rows.envDueCard.stood.harness true
  G3 (fun _ h=>by cases h) (by kernel_rfl) (fun _ h=>by cases h) envDue_row_tie rfl ⟨rfl,rfl⟩ (by kernel_rfl) rfl
  (fun f fn hf hfn=>by
   obtain rfl:f=6:=Option.some.inj ((show Tryz.prog.funcNamed Rows.envDueRow.func=some 6 by kernel_rfl).symm.trans hf) |>.symm
   obtain rfl:fn=Tryz.f6:=(Option.some.inj (Tryz.func6.symm.trans hfn)).symm
   exact ⟨by kernel_rfl,fun j t ht=>by
    rw [Tryz.params6] at ht
    have hm:t∈[53,54]:=by have:=Array.mem_of_getElem? ht;simpa using this
    have hall:([53,54].all fun u=> !Tryz.prog.wantsStandIn u)=true:=by kernel_rfl
    exact (show Tryz.prog.wantsStandIn t=false by simpa using List.all_eq_true.1 hall t hm)⟩)
  (by kernel_rfl)
end Go.Proofs.YtdigbcafimghdaaGreatDoor
end
