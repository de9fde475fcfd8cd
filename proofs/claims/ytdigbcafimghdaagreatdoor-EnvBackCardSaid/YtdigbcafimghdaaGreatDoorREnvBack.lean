/- The law EnvBack returns true at every input whose tables read as laid; each argument reads behind the call as it did; the tied card. -/
import Derived.Test.YtdigbcafimghdaaGreatDoorM4
import Derived.Below
import Derived.Deep.Slices
import Derived.Carry
import Derived.Test.YtdigbcafimghdaaGreatDoorRows
import Derived.ProofKit
import Derived.LaidMore
import Derived.Lib.LaidTab
import Derived.Shelf.Vars
import Derived.HandedShaped
import Derived.Test.YtdigbcafimghdaaGreatDoorCards
import Derived.Test.YtdigbcafimghdaaGreatDoorTie
import Derived.SevenTiedAt
set_option linter.unusedSimpArgs false
set_option linter.unusedVariables false
set_option linter.unusedSectionVars false
set_option linter.defProp false
section
set_option maxRecDepth 100000
namespace Go.Proofs.cL
open Go Go.Am Go.Proofs
theorem uv (n k:Nat):(nb n k).toNat=n / 2 ^ (8*k) % 256:=by simp [nb]
theorem Ly {n:Nat} (h:n<256):val (fW n)=n:=by
 simp only [val,fW,uv,Nat.reduceMul,Nat.reducePow];omega
theorem Lz {n:Nat} (h:n<65536):val (Fb n)=n:=by
 simp only [val,Fb,uv,Nat.reduceMul,Nat.reducePow];omega
theorem Fh {n:Nat} (h:n<4294967296):val (cV n)=n:=by
 simp only [val,cV,uv,Nat.reduceMul,Nat.reducePow];omega
theorem LA {l:List UInt8} (h:l.length=4):cV (val l)=l:=by
 match l,h with
 |[a,b,c,d],_=>
  have ha:=a.toNat_lt;have hb:=b.toNat_lt;have hc:=c.toNat_lt;have hd:=d.toNat_lt
  simp only [cV,val]
  have e0:nb (a.toNat+256*(b.toNat+256*(c.toNat+256*(d.toNat+256*0)))) 0=a:=by
   apply UInt8.toNat_inj.1;rw [uv];simp only [Nat.reduceMul,Nat.reducePow];omega
  have e1:nb (a.toNat+256*(b.toNat+256*(c.toNat+256*(d.toNat+256*0)))) 1=b:=by
   apply UInt8.toNat_inj.1;rw [uv];simp only [Nat.reduceMul,Nat.reducePow];omega
  have e2:nb (a.toNat+256*(b.toNat+256*(c.toNat+256*(d.toNat+256*0)))) 2=c:=by
   apply UInt8.toNat_inj.1;rw [uv];simp only [Nat.reduceMul,Nat.reducePow];omega
  have e3:nb (a.toNat+256*(b.toNat+256*(c.toNat+256*(d.toNat+256*0)))) 3=d:=by
   apply UInt8.toNat_inj.1;rw [uv];simp only [Nat.reduceMul,Nat.reducePow];omega
  rw [e0,e1,e2,e3]
def mH (r:aN):Prop:=r.b.length≤70000
def kC (r:aN) (l:List UInt8):Prop:=r.err=0∧r.b=l
theorem uw {r:aN} (hr:mH r) (k:Nat):mH (oC r (k:Int)).2∧(oC r (k:Int)).1.length≤k∧(oC r (k:Int)).1.length≤70000∧
 ∀x rest:List UInt8,x.length=k→kC r (x++rest)→(oC r (k:Int)).1=x∧kC (oC r (k:Int)).2 rest:=by
 unfold mH at hr
 unfold oC
 by_cases h1:r.err=0
 · rw [if_neg (by simpa using h1),if_neg (by omega)]
   by_cases h3:(r.b.length:Int)<k
   · rw [if_pos h3]
     refine ⟨hr,by simp,by simp,fun x rest hx hR=> ?_⟩
     exfalso
     rw [hR.2] at h3
     simp [hx] at h3
     omega
   · rw [if_neg h3]
     refine ⟨by unfold mH;simp;omega,by simp;omega,by simp;omega,fun x rest hx hR=> ?_⟩
     rw [hR.2]
     subst hx
     exact ⟨by simp,⟨h1,by simp⟩⟩
 · rw [if_pos h1]
   exact ⟨hr,by simp,by simp,fun x rest hx hR=>absurd hR.1 h1⟩
theorem Ol {r:aN} {F k:Nat} (hr:mH r) (hk:k≤4) (hF:10<F):∃(v:Nat) (r':aN),cY F r (k:Int)=some ((v:Int),r')∧mH r'∧v<256 ^ k∧
 ∀x rest:List UInt8,x.length=k→kC r (x++rest)→v=val x∧kC r' rest:=by
 obtain ⟨t1,t2,t3,t4⟩:=uw hr k
 refine ⟨val (oC r (k:Int)).1,(oC r (k:Int)).2, ?_,t1, ?_,fun x rest hx hR=> ?_⟩
 · unfold cY
   unfold mH at hr
   rw [Wv (by omega)]
   simp only [Option.bind_some]
   have:=abT (l:=(oC r (k:Int)).1) (by omega) (oC r (k:Int)).1 [] F rfl (by omega)
   simp only [val,List.length_nil] at this
   rw [show ((0:Int),(0:Int))=(((0:Nat):Int),((0:Nat):Int)) from rfl,this]
   rfl
 · exact Nat.lt_of_lt_of_le (A9 _) (Nat.pow_le_pow_right (by decide) t2)
 · obtain ⟨h1,h2⟩:=t4 x rest hx hR
   exact ⟨by rw [h1],h2⟩
theorem Px {r:aN} {F:Nat} (hr:mH r) (hF:10<F):∃(v:Nat) (r':aN),dM F r=some ((v:Int),r')∧mH r'∧v<256∧
 ∀(n:Nat) (rest:List UInt8),n<256→kC r (fW n++rest)→v=n∧kC r' rest:=by
 obtain ⟨v,r',h,h1,h2,h3⟩:=Ol (k:=1) hr (by omega) hF
 refine ⟨v,r', ?_,h1,h2,fun n rest hn hR=> ?_⟩
 · unfold dM;rw [show (1:Int)=((1:Nat):Int) from rfl,h];rfl
 · obtain ⟨e1,e2⟩:=h3 _ _ rfl hR
   exact ⟨by rw [e1,Ly hn],e2⟩
theorem abU {r:aN} {F:Nat} (hr:mH r) (hF:10<F):∃(v:Nat) (r':aN),gq F r=some ((v:Int),r')∧mH r'∧v<65536∧
 ∀(n:Nat) (rest:List UInt8),n<65536→kC r (Fb n++rest)→v=n∧kC r' rest:=by
 obtain ⟨v,r',h,h1,h2,h3⟩:=Ol (k:=2) hr (by omega) hF
 refine ⟨v,r', ?_,h1,h2,fun n rest hn hR=> ?_⟩
 · unfold gq;rw [show (2:Int)=((2:Nat):Int) from rfl,h];rfl
 · obtain ⟨e1,e2⟩:=h3 _ _ rfl hR
   exact ⟨by rw [e1,Lz hn],e2⟩
theorem Ce {r:aN} {F:Nat} (hr:mH r) (hF:10<F):∃(v:Nat) (r':aN),cI F r=some ((v:Int),r')∧mH r'∧v<4294967296∧
 ∀(n:Nat) (rest:List UInt8),n<4294967296→kC r (cV n++rest)→v=n∧kC r' rest:=by
 obtain ⟨v,r',h,h1,h2,h3⟩:=Ol (k:=4) hr (by omega) hF
 refine ⟨v,r', ?_,h1,h2,fun n rest hn hR=> ?_⟩
 · unfold cI;rw [show (4:Int)=((4:Nat):Int) from rfl,h];rfl
 · obtain ⟨e1,e2⟩:=h3 _ _ rfl hR
   exact ⟨by rw [e1,Fh hn],e2⟩
theorem Ww {r:aN} {k:Nat} (hr:mH r):fq r (k:Int)=some (oC r (k:Int)):=by
 have h:=(uw hr k).2.2.1
 unfold fq
 unfold mH at hr
 rw [Wv (by omega)]
 simp only [Option.bind_some]
 rw [tI (by omega)]
 rfl
theorem aeb {r:aN} {F:Nat} (hr:mH r) (hF:10<F):∃(s:List UInt8) (r':aN),dY F r 256=some (s,r')∧mH r'∧s.length≤70000∧
 ∀t rest:List UInt8,t.length≤256→kC r (gC t++rest)→s=t∧kC r' rest:=by
 obtain ⟨v,r1,h,h1,h2,h3⟩:=Ce hr hF
 unfold dY
 rw [h]
 simp only [Option.bind_some]
 unfold fD
 cases hc:(decide (r1.err=0)&&decide ((256:Int)<(v:Int))) with
 |true=>
  simp only [if_true,Option.bind_some]
  have ho:mH (aN.mk r1.b 5):=h1
  rw [Ww ho]
  refine ⟨_,_,rfl,(uw ho v).1,(uw ho v).2.2.1,fun t rest ht hR=> ?_⟩
  obtain ⟨e1,e2⟩:=h3 t.length (t++rest) (by omega) (by rw [gC,List.append_assoc] at hR;exact hR)
  simp only [Bool.and_eq_true,decide_eq_true_eq] at hc
  omega
 |false=>
  simp only [Bool.false_eq_true,if_false,Option.bind_some]
  rw [Ww h1]
  refine ⟨_,_,rfl,(uw h1 v).1,(uw h1 v).2.2.1,fun t rest ht hR=> ?_⟩
  obtain ⟨e1,e2⟩:=h3 t.length (t++rest) (by omega) (by rw [gC,List.append_assoc] at hR;exact hR)
  subst e1
  exact (uw h1 t.length).2.2.2 t rest rfl e2
theorem Wy {r:aN} {F:Nat} (hr:mH r) (hF:10<F):∃(s:List UInt8) (r':aN),e8 F r=some (s,r')∧mH r'∧s.length≤70000∧
 ∀t rest:List UInt8,t.length≤256→kC r (gC t++rest)→s=t∧kC r' rest:=by
 obtain ⟨s,r',h,h1⟩:=aeb hr hF
 exact ⟨s,r',by unfold e8;rw [h];rfl,h1⟩
theorem ZN {r:aN} {F:Nat} (hr:mH r) (hF:10<F):∃(a:aJ) (r':aN),gb F r=some (a,r')∧mH r'∧tH a∧
 ∀(a':aJ) (rest:List UInt8),dP a'=true→kC r (gC a'.au++(gC a'.domain++rest))→a=a'∧kC r' rest:=by
 obtain ⟨l,r1,h,h1,h2,h3⟩:=Wy hr hF
 obtain ⟨d,r2,k,k1,k2,k3⟩:=Wy h1 hF
 refine ⟨⟨l,d⟩,r2, ?_,k1,⟨h2,k2⟩,fun a' rest hB hR=> ?_⟩
 · unfold gb;rw [h];simp only [Option.bind_some];rw [k];rfl
 · have hb:=tight hB
   obtain ⟨e1,e2⟩:=h3 _ _ (by omega) hR
   obtain ⟨e3,e4⟩:=k3 _ _ (by omega) e2
   subst e1 e3
   exact ⟨rfl,e4⟩
theorem sx1:fM=e8:=rfl
theorem sx2:jA=gb:=rfl
theorem aec {r:aN} {e:ak} {F i n:Nat} (hr:mH r) (hF:10<F) (hi:i<n) (hn:n≤255) (hl:e.az.length≤1000):
 ∃(c:bl) (r':aN),fP F (n:Int) ((i:Int),r,e)=some (.cT (((i+1:Nat):Int),r',⟨e.av,e.born,e.size,e.sum,e.az++[c]⟩))∧mH r'∧tH c.ct∧
 ∀(c':bl) (rest:List UInt8),lI c'=true→kC r (zE c'++rest)→c=c'∧kC r' rest:=by
 obtain ⟨a,r1,f1,o1,g1,c1⟩:=ZN hr hF
 obtain ⟨v2,r2,f2,o2,g2,c2⟩:=Px o1 hF
 obtain ⟨v3,r3,f3,o3,g3,c3⟩:=Px o2 hF
 obtain ⟨v4,r4,f4,o4,g4,c4⟩:=Ce o3 hF
 obtain ⟨v5,r5,f5,o5,g5,c5⟩:=abU o4 hF
 obtain ⟨w,r6,f6,o6,g6,c6⟩:=Wy o5 hF
 refine ⟨⟨a,v2,v3,v4,v5,w⟩,r6, ?_,o6,g1,fun c' rest hB hR=> ?_⟩
 · simp only [fP]
   rw [if_pos (by simpa using hi),sx2,sx1,f1]
   simp only [Option.bind_some]
   rw [f2];simp only [Option.bind_some]
   rw [f3];simp only [Option.bind_some]
   rw [f4];simp only [Option.bind_some]
   rw [f5];simp only [Option.bind_some]
   rw [f6];simp only [Option.bind_some]
   rw [cM (by simp;omega) (by omega)]
   simp only [Option.bind_some]
   rw [vv (by omega)]
 · simp only [lI,ir,Bool.and_eq_true,Bool.or_eq_true,decide_eq_true_eq] at hB
   obtain ⟨hc,hB, -,hs,ht,hn,hw⟩:=hB
   simp only [zE,List.append_assoc] at hR
   obtain ⟨e1,k1⟩:=c1 _ _ hB hR
   obtain ⟨e2,k2⟩:=c2 _ _ (by omega) k1
   obtain ⟨e3,k3⟩:=c3 _ _ (by omega) k2
   obtain ⟨e4,k4⟩:=c4 _ _ (by omega) k3
   obtain ⟨e5,k5⟩:=c5 _ _ (by omega) k4
   obtain ⟨e6,k6⟩:=c6 _ _ (by omega) k5
   refine ⟨?_,k6⟩
   rcases c' with ⟨a',s',t',n',q',w'⟩
   simp only at e1 e2 e3 e4 e5 e6 hs ht hn hc
   subst e1 e6
   congr 1<;>omega
theorem abV {n F:Nat} (hn:n≤255) (hF:10<F):∀(k i G:Nat) (r:aN) (e:ak),i+k=n→k<G→mH r→e.az.length=i→(∀c∈e.az,tH c.ct)→
 ∃(r':aN) (e':ak),iter (fP F (n:Int)) G ((i:Int),r,e)=some (.inr (r',e'))∧mH r'∧(e'.av=e.av∧e'.born=e.born∧e'.size=e.size∧e'.sum=e.sum)∧e'.az.length≤255∧(∀c∈e'.az,tH c.ct)∧
 ∀(l:List bl) (rest:List UInt8),l.length=k→l.all lI=true→kC r (gD l++rest)→e'.az=e.az++l∧kC r' rest:=by
 intro k
 induction k with
 |zero=>
  intro i G r e hi hG hr hl hf
  obtain ⟨G,rfl⟩:=cJ hG
  refine ⟨r,e,dw ?_,hr,⟨rfl,rfl,rfl,rfl⟩,by omega,hf,fun l rest h0 _ hR=> ?_⟩
  · simp only [fP]
    rw [if_neg (by simp;omega)]
  · obtain rfl:=List.eq_nil_of_length_eq_zero h0
    exact ⟨by simp,hR⟩
 |succ k ih=>
  intro i G r e hi hG hr hl hf
  obtain ⟨G,rfl⟩:=cJ hG
  obtain ⟨c,r1,f1,o1,g1,c1⟩:=aec (i:=i) (n:=n) (e:=e) hr hF (by omega) hn (by omega)
  obtain ⟨r2,e2,f2,o2,g2,l2,w2,c2⟩:=ih (i+1) G r1 ⟨e.av,e.born,e.size,e.sum,e.az++[c]⟩ (by omega) (by omega) o1 (by simp;omega) (by
   intro x hx
   rcases List.mem_append.1 hx with h|h
   · exact hf x h
   · rw [List.mem_singleton.1 h];exact g1)
  refine ⟨r2,e2,by rw [cO f1,f2],o2,g2,l2,w2,fun l rest h0 hB hR=> ?_⟩
  match l,h0 with
  |c'::l,h0=>
   simp only [List.all_cons,Bool.and_eq_true] at hB
   simp only [gD,List.append_assoc] at hR
   obtain ⟨e1,k1⟩:=c1 _ _ hB.1 hR
   obtain ⟨e3,k3⟩:=c2 l rest (by simpa using h0) hB.2 k1
   subst e1
   exact ⟨by rw [e3];simp,k3⟩
end Go.Proofs.cL
end
section
set_option maxRecDepth 100000
namespace Go.Proofs.cL
open Go Go.Am Go.Proofs
open Nat renaming reduceEqDiff→nA,reduceLT→nB,reduceLeDiff→nC,reduceAdd→nD,reduceSub→nE,reduceMul→nF,reduceBEq→nG
set_option maxHeartbeats 2000000
abbrev I5:aD:=(.seq (.rg [(aj 2 (.aY (.c (.sl .ex 1 [])))),(aj 3 (.aY (.c (.int .i64 0))))]) (.seq (.rg [(aA 5 0),(aj 6 (.len (.t 5))),(aj 7 (.bin .sub (.t 6) (.c (.int .i64 4)))),(bk 4 7)]) (.seq (.seq (.rg [(aA 8 4),(aj 9 (.bin .lss (.t 8) (.c (.int .i64 0))))]) (.cond (.t 9) (.seq (.rg [(aj 2 (.aY (.c (.sl .ex 1 [])))),(aj 3 (.aY (.c (.int .i64 2))))]) .ret) .skip)) (.seq (.seq (.rg [(aA 10 0),(aA 11 4),(aj 12 (.slc 1 (.t 10) none (some (.t 11)) none)),(aA 15 0),(aj 16 (.vD (.t 15))),(aj 13 (.call (.c (.fn 43 [])) [(.t 12)])),(aj 14 (.vD (.t 13))),(aj 17 (.bin .neq (.t 14) (.t 16)))]) (.cond (.t 17) (.seq (.rg [(aj 2 (.aY (.c (.sl .ex 1 [])))),(aj 3 (.aY (.c (.int .i64 4))))]) .ret) .skip)) (.seq (.rg [(aj 18 (.jQ 1 [])),(aA 19 0),(aA 20 4),(aj 21 (.slc 1 (.t 19) none (some (.t 20)) none)),(aj 22 (.app 1 1 (.t 18) (.t 21))),(bk 2 22),(aj 3 (.aY (.c (.int .i64 0))))]) .ret)))))
theorem I6:bw Tryz.prog 55 23 [(.tmp 2),(.tmp 3)] (erase I5):=⟨Tryz.f55,_,rfl,by decide,rfl,by kernel_rfl,rfl,rfl⟩
abbrev I7:List Nat:=[0,2,3,4,9,17]
def qA (F:Nat) (b1:List UInt8):Option ((List UInt8)×Int):=
 (if (decide ((IntKind.wrap .i64 ((b1.length:Int) - 4))<0)) then
  some (([]:List UInt8),2)
 else
  (sub b1 0 (IntKind.wrap .i64 ((b1.length:Int) - 4))).bind fun x2=>
  (mY F x2).bind fun r3=>
  (if (!decide (r3=b1)) then
   some (([]:List UInt8),4)
  else
   (cC 1 ([]:List UInt8) x2).bind fun x4=>some (x4,0)))
theorem Gl {F:Nat} {b1:List UInt8} {H0:AH} {aM:List UInt8} {cB:Int} (h:qA F b1=some (aM,cB)):
 aG Tryz.prog 55 [(.sl .n 1 (ml b8 b1))] H0 fun v H'=>v=(.bK [(.sl .n 1 (ml b8 aM)),(.int .i64 cB)])∧H'=H0:=by
 refine gx I6 I7 fun hcl K0 aP=> ?_
 rw [qA.eq_1] at h
 refine aS ?_
 refine b7 h (fun hy1 h=> ?_) fun hy1 h=> ?_
 · refine aS ?_
   obtain ⟨rfl,rfl⟩:=de h
   exact aP _ _ _ bG (aW hcl (bD (bD bx (.int .i64 2)) (.sl .ex 1 [])) bB bt ⟨rfl,rfl⟩)
 · obtain ⟨x2,bf,h⟩:=ay h
   have bz:=yt (f:=b8) bf
   refine bO bf ?_
   obtain ⟨r3,bu,h⟩:=ay h
   refine bg ax (yf bu) ?_
   refine aS ?_
   refine b7 h (fun bW h=> ?_) fun bW h=> ?_
   · refine aS ?_
     obtain ⟨rfl,rfl⟩:=de h
     exact aP _ _ _ bG (aW hcl (bD (bD bx (.int .i64 4)) (.sl .ex 1 [])) bB bt ⟨rfl,rfl⟩)
   · have cw:=yt (f:=b8) bf
     obtain ⟨x4,dB,h⟩:=ay h
     have dD:cC 1 [] (ml b8 x2)=some (ml b8 x4):=eo (f:=b8) dB
     refine bO (aB bf dD) ?_
     obtain ⟨rfl,rfl⟩:=de h
     exact aP _ _ _ bG (aW hcl (bD (bD bx (.int .i64 0)) (.sl .own 1 (ml b8 x4))) bB bt ⟨rfl,rfl⟩)
abbrev jP:aD:=(.seq (.seq (.rg [(aA 29 6),(aj 30 (.bin .geq (.t 29) (.c (.int .i64 0))))]) (.cond (.t 30) .skip (.exit 0))) (.seq (.blk 1 (.rg [(aA 33 5),(aj 34 (.bin .shl (.t 33) (.c (.int .u64 8)))),(aA 35 0),(aj 36 (.dZ (.t 35))),(aj 37 (.aV (.t 36) 0)),(aj 38 (.ld (.t 37) none)),(aA 39 0),(aj 40 (.dZ (.t 39))),(aj 41 (.aV (.t 40) 1)),(aj 42 (.ld (.t 41) none)),(aA 43 6),(aj 44 (.bin .add (.t 42) (.t 43))),(aj 45 (.lC 1 (.t 38) (.t 44))),(aj 46 (.ld (.t 45) none)),(aj 47 (.ec (.int .i64) (.t 46))),(aj 48 (.bin .or (.t 34) (.t 47))),(bk 5 48)])) (.rg [(aA 31 6),(aj 32 (.bin .sub (.t 31) (.c (.int .i64 1)))),(bk 6 32)])))
abbrev vw:aD:=(.seq (.rg [(aj 4 (.aY (.c (.int .i64 0))))]) (.seq (.seq (.rg [(aA 7 0),(aj 8 (.dZ (.t 7))),(aj 9 (.aV (.t 8) 2)),(aj 10 (.ld (.t 9) none)),(aj 11 (.bin .neq (.t 10) (.c (.int .i64 0))))]) (.cond (.t 11) (.seq (.rg [(aj 4 (.aY (.c (.int .i64 0))))]) .ret) .skip)) (.seq (.seq (.rg [(aA 12 1),(aA 13 0),(aj 14 (.dZ (.t 13))),(aj 15 (.aV (.t 14) 0)),(aj 16 (.ld (.t 15) none)),(aj 17 (.len (.t 16))),(aA 18 0),(aj 19 (.dZ (.t 18))),(aj 20 (.aV (.t 19) 1)),(aj 21 (.ld (.t 20) none)),(aj 22 (.bin .sub (.t 17) (.t 21))),(aj 23 (.bin .gtr (.t 12) (.t 22)))]) (.cond (.t 23) (.seq (.rg [(aA 24 0),(aj 25 (.dZ (.t 24))),(aj 26 (.aV (.t 25) 2)),(cZ (.st (.t 26) (.c (.int .i64 2)) 1))]) (.seq (.rg [(aj 4 (.aY (.c (.int .i64 0))))]) .ret)) .skip)) (.seq (.rg [(aj 5 (.aY (.c (.int .i64 0))))]) (.seq (.seq (.rg [(aA 27 1),(aj 28 (.bin .sub (.t 27) (.c (.int .i64 1)))),(bk 6 28)]) (.blk 0 (.loop (erase jP)))) (.seq (.rg [(aA 49 0),(aA 50 0),(aj 51 (.dZ (.t 50))),(aj 52 (.aV (.t 51) 1)),(aj 53 (.ld (.t 52) none)),(aA 54 1),(aj 55 (.bin .add (.t 53) (.t 54))),(aj 56 (.dZ (.t 49))),(aj 57 (.aV (.t 56) 1)),(cZ (.st (.t 57) (.t 55) 1))]) (.seq (.rg [(aA 58 5),(bk 4 58)]) .ret)))))))
theorem vz:bw Tryz.prog 56 59 [(.tmp 4)] (erase vw):=⟨Tryz.f56,_,rfl,by decide,rfl,by kernel_rfl,rfl,rfl⟩
abbrev mO:List Nat:=[0,1,4,5,6,11,23,30]
def cR (r2:aO):(Int×Int)→Option (St (Int×aO) Int (Int×Int))
 |(LB,i5)=>
  (if (decide (0≤i5)) then
   (idx r2.b (IntKind.wrap .i64 (r2.ei+i5))).bind fun x6=>
   some (.cT ((JN .i64 (shl .i64 LB 8) (IntKind.wrap .i64 (x6.toNat:Int))),(IntKind.wrap .i64 (i5 - 1))))
  else
   some (.fI LB))
def bF (F:Nat) (r2:aO) (kL:Int):Option (Int×aO):=
 (if (!decide (r2.err=0)) then
  some (0,r2)
 else
  (if (decide ((IntKind.wrap .i64 ((r2.b.length:Int) - r2.ei))<kL)) then
   some (0,(aO.mk r2.b r2.ei 2))
  else
   ((iter (cR r2) F (0,(IntKind.wrap .i64 (kL - 1)))).bind fun o9=>
   match o9 with
   | .inr nn8=>
     some (nn8,(aO.mk r2.b (IntKind.wrap .i64 (r2.ei+kL)) r2.err))
   | .inl _=>none)))
theorem qY {F:Nat} {i5:Int} {r2:aO} {LB:Int} {q1:Nat} {kL:Int} {H0 H:AH} (hfr:Fr H0 H0.length [q1] H) (ai:H[q1]? =some [(.sl .n 1 (ml b8 r2.b)),(.int .i64 r2.ei),(.int .i64 r2.err)]) (eS:q1<H0.length) {K:Exit→Env→AH→Prop} {o:(Int×aO)⊕(Int)}
 (h:iter (cR r2) F (LB,i5)=some o)
 (dj:∀o':Int,o= .inr o'→∀H':AH,Fr H0 H0.length [q1] H'→H'[q1]? =some [(.sl .n 1 (ml b8 r2.b)),(.int .i64 r2.ei),(.int .i64 r2.err)]→K (.exit 0) [(0,(.ptr q1 0)),(1,(.int .i64 kL)),(5,(.int .i64 o'))] H'):
 AX Tryz.prog mO 59 H0.length (.loop (erase jP)) K [(0,(.ptr q1 0)),(1,(.int .i64 kL)),(5,(.int .i64 LB)),(6,(.int .i64 i5))] H:=by
 refine iZ (fun s e H1=>match s with|(LB,i5)=>e=[(0,(.ptr q1 0)),(1,(.int .i64 kL)),(5,(.int .i64 LB)),(6,(.int .i64 i5))]∧Fr H0 H0.length [q1] H1∧H1[q1]? =some [(.sl .n 1 (ml b8 r2.b)),(.int .i64 r2.ei),(.int .i64 r2.err)]) h ⟨rfl,hfr,ai⟩ ?_
 rintro K' ⟨LB,i5⟩ st e H ⟨rfl,hfr,ai⟩ h hN hB hR hX
 have hle:=hfr.le
 have aU:=aL ai
 rw [cR.eq_1] at h
 refine aE ai ?_
 refine b7 h (fun bz h=> ?_) fun bz h=> ?_
 · obtain ⟨x6,bu,h⟩:=ay h
   refine aE (aB bu ai) ?_
   obtain rfl:=aK h
   exact hN _ rfl _ _ _ _ aZ ax ⟨rfl,hfr,(ai.trans rfl)⟩
 · refine aE ai ?_
   obtain rfl:=aK h
   exact hX _ _ _ _ _ eK aZ ax (dj _ (hB _ rfl) _ hfr (ai.trans rfl))
theorem bY {F:Nat} {r2:aO} {kL:Int} {q1:Nat} {H0:AH} (ai:H0[q1]? =some [(.sl .n 1 (ml b8 r2.b)),(.int .i64 r2.ei),(.int .i64 r2.err)]) {aM:Int} {cB:aO} (h:bF F r2 kL=some (aM,cB)):
 aG Tryz.prog 56 [(.ptr q1 0),(.int .i64 kL)] H0 fun v H'=>v=(.int .i64 aM)∧H'=(H0.set q1 [(.sl .n 1 (ml b8 cB.b)),(.int .i64 cB.ei),(.int .i64 cB.err)]):=by
 have aU:=aL ai
 refine ef vz mO [q1] fun hcl K0 aP H hH hfr=> ?_
 rw [←hH] at ai
 clear hH
 have hle:=hfr.le
 have eW:=aL ai
 rw [bF.eq_1] at h
 refine aE ai ?_
 refine b7 h (fun hy1 h=> ?_) fun hy1 h=> ?_
 · refine aE ai ?_
   obtain ⟨rfl,rfl⟩:=de h
   exact aP _ _ _ bG (cc hfr hcl (bD bx (.int .i64 0)) bB bt (ai.trans rfl) br jv gE ⟨rfl,rfl⟩)
 · refine aE ai ?_
   refine b7 h (fun bf h=> ?_) fun bf h=> ?_
   · refine aE ai ?_
     obtain ⟨rfl,rfl⟩:=de h
     exact aP _ _ _ bG (cc (bn _ hfr) hcl (bD bx (.int .i64 0)) bB bt bL br jv gE ⟨rfl,rfl⟩)
   · refine aE ai ?_
     obtain ⟨o9,bW,h⟩:=ay h
     refine cg ax (qY (q1:=q1) (kL:=kL) hfr (ai.trans rfl) br bW ?_)
     · rintro nn8 rfl H hfr ai
       try dsimp only at h ai
       have hle:=hfr.le
       have aU:=aL ai
       refine aE ai ?_
       obtain ⟨rfl,rfl⟩:=de h
       exact aP _ _ _ bG (cc (bn _ hfr) hcl (bD bx (.int .i64 nn8)) bB bt bL br jv gE ⟨rfl,rfl⟩)
abbrev wN:aD:=(.seq (.rg [(aj 4 (.aY (.c (.sl .ex 1 []))))]) (.seq (.seq (.rg [(aA 5 0),(aj 6 (.dZ (.t 5))),(aj 7 (.aV (.t 6) 2)),(aj 8 (.ld (.t 7) none)),(aj 9 (.bin .neq (.t 8) (.c (.int .i64 0))))]) (.cond (.t 9) (.seq (.rg [(aj 4 (.aY (.c (.sl .ex 1 []))))]) .ret) .skip)) (.seq (.seq (.rg [(aA 10 1),(aj 11 (.bin .lss (.t 10) (.c (.int .i64 0))))]) (.cond (.t 11) (.seq (.rg [(aA 12 0),(aj 13 (.dZ (.t 12))),(aj 14 (.aV (.t 13) 2)),(cZ (.st (.t 14) (.c (.int .i64 1)) 1))]) (.seq (.rg [(aj 4 (.aY (.c (.sl .ex 1 []))))]) .ret)) .skip)) (.seq (.seq (.rg [(aA 15 1),(aA 16 0),(aj 17 (.dZ (.t 16))),(aj 18 (.aV (.t 17) 0)),(aj 19 (.ld (.t 18) none)),(aj 20 (.len (.t 19))),(aA 21 0),(aj 22 (.dZ (.t 21))),(aj 23 (.aV (.t 22) 1)),(aj 24 (.ld (.t 23) none)),(aj 25 (.bin .sub (.t 20) (.t 24))),(aj 26 (.bin .gtr (.t 15) (.t 25)))]) (.cond (.t 26) (.seq (.rg [(aA 27 0),(aj 28 (.dZ (.t 27))),(aj 29 (.aV (.t 28) 2)),(cZ (.st (.t 29) (.c (.int .i64 2)) 1))]) (.seq (.rg [(aj 4 (.aY (.c (.sl .ex 1 []))))]) .ret)) .skip)) (.seq (.rg [(aA 30 0),(aA 31 0),(aj 32 (.dZ (.t 31))),(aj 33 (.aV (.t 32) 1)),(aj 34 (.ld (.t 33) none)),(aA 35 1),(aj 36 (.bin .add (.t 34) (.t 35))),(aj 37 (.dZ (.t 30))),(aj 38 (.aV (.t 37) 1)),(cZ (.st (.t 38) (.t 36) 1))]) (.seq (.rg [(aA 40 0),(aj 41 (.dZ (.t 40))),(aj 42 (.aV (.t 41) 0)),(aj 43 (.ld (.t 42) none)),(aA 44 0),(aj 45 (.dZ (.t 44))),(aj 46 (.aV (.t 45) 1)),(aj 47 (.ld (.t 46) none)),(aA 48 1),(aj 49 (.bin .sub (.t 47) (.t 48))),(aA 50 0),(aj 51 (.dZ (.t 50))),(aj 52 (.aV (.t 51) 1)),(aj 53 (.ld (.t 52) none)),(aj 54 (.slc 1 (.t 43) (some (.t 49)) (some (.t 53)) none)),(aj 39 (.jQ 1 [])),(aj 55 (.app 1 1 (.t 39) (.t 54))),(bk 4 55)]) .ret))))))
theorem wO:bw Tryz.prog 74 56 [(.tmp 4)] (erase wN):=⟨Tryz.f74,_,rfl,by decide,rfl,by kernel_rfl,rfl,rfl⟩
abbrev wP:List Nat:=[0,1,4,9,11,26]
def fR (r2:aO) (ie:Int):Option ((List UInt8)×aO):=
 (if (!decide (r2.err=0)) then
  some (([]:List UInt8),r2)
 else
  (if (decide (ie<0)) then
   some (([]:List UInt8),(aO.mk r2.b r2.ei 1))
  else
   (if (decide ((IntKind.wrap .i64 ((r2.b.length:Int) - r2.ei))<ie)) then
    some (([]:List UInt8),(aO.mk r2.b r2.ei 2))
   else
    (sub r2.b (IntKind.wrap .i64 ((IntKind.wrap .i64 (r2.ei+ie)) - ie)) (IntKind.wrap .i64 (r2.ei+ie))).bind fun x4=>
    (cC 1 ([]:List UInt8) x4).bind fun x5=>
    some (x5,(aO.mk r2.b (IntKind.wrap .i64 (r2.ei+ie)) r2.err)))))
theorem vA {r2:aO} {ie:Int} {q1:Nat} {H0:AH} (ai:H0[q1]? =some [(.sl .n 1 (ml b8 r2.b)),(.int .i64 r2.ei),(.int .i64 r2.err)]) {aM:List UInt8} {cB:aO} (h:fR r2 ie=some (aM,cB)):
 aG Tryz.prog 74 [(.ptr q1 0),(.int .i64 ie)] H0 fun v H'=>v=(.sl .own 1 (ml b8 aM))∧H'=(H0.set q1 [(.sl .n 1 (ml b8 cB.b)),(.int .i64 cB.ei),(.int .i64 cB.err)]):=by
 have aU:=aL ai
 refine ef wO wP [q1] fun hcl K0 aP H hH hfr=> ?_
 rw [←hH] at ai
 clear hH
 have hle:=hfr.le
 have eW:=aL ai
 rw [fR.eq_1] at h
 refine aE ai ?_
 refine b7 h (fun hy1 h=> ?_) fun hy1 h=> ?_
 · refine aE ai ?_
   obtain ⟨rfl,rfl⟩:=de h
   exact aP _ _ _ bG (cc hfr hcl (bD bx (.sl .ex 1 [])) bB bt (ai.trans rfl) br jv gE ⟨rfl,rfl⟩)
 · refine aE ai ?_
   refine b7 h (fun bf h=> ?_) fun bf h=> ?_
   · refine aE ai ?_
     obtain ⟨rfl,rfl⟩:=de h
     exact aP _ _ _ bG (cc (bn _ hfr) hcl (bD bx (.sl .ex 1 [])) bB bt bL br jv gE ⟨rfl,rfl⟩)
   · refine aE ai ?_
     refine b7 h (fun bz h=> ?_) fun bz h=> ?_
     · refine aE ai ?_
       obtain ⟨rfl,rfl⟩:=de h
       exact aP _ _ _ bG (cc (bn _ hfr) hcl (bD bx (.sl .ex 1 [])) bB bt bL br jv gE ⟨rfl,rfl⟩)
     · obtain ⟨x4,bu,h⟩:=ay h
       have bW:=yt (f:=b8) bu
       obtain ⟨x5,cw,h⟩:=ay h
       have dB:cC 1 [] (ml b8 x4)=some (ml b8 x5):=eo (f:=b8) cw
       refine aE (aB bu (aB dB ai)) ?_
       obtain ⟨rfl,rfl⟩:=de h
       exact aP _ _ _ bG (cc (bn _ hfr) hcl (bD bx (.sl .own 1 (ml b8 x5))) bB bt bL br jv gE ⟨rfl,rfl⟩)
abbrev lz:aD:=(.rg [(aA 8 0),(aj 9 (.dZ (.t 8))),(aj 10 (.aV (.t 9) 2)),(aj 11 (.ld (.t 10) none)),(aj 12 (.bin .eql (.t 11) (.c (.int .i64 0)))),(aA 13 12),(aF 14 (.mv (.t 5)) 13 true),(aF 15 (.mv (.t 1)) 13 true),(aF 16 (.bin .gtr (.t 14) (.t 15)) 13 true),(aj 17 (.pick (.t 13) (.t 16) (.c (.bool false))))])
abbrev lA:aD:=(.cond (.t 17) (.rg [(aA 18 0),(aj 19 (.dZ (.t 18))),(aj 20 (.aV (.t 19) 2)),(cZ (.st (.t 20) (.c (.int .i64 5)) 1))]) .skip)
abbrev wQ:aD:=(.seq (.rg [(aj 4 (.aY (.c (.sl .ex 1 []))))]) (.seq (.rg [(aA 6 0),(aj 7 (.call (.c (.fn 56 [])) [(.t 6),(.c (.int .i64 4))])),(bk 5 7)]) (.seq (.seq (.sem (erase lz)) (.sem (erase lA))) (.seq (.rg [(aA 21 0),(aA 22 5),(aj 23 (.call (.c (.fn 74 [])) [(.t 21),(.t 22)])),(bk 4 23)]) .ret))))
theorem wR:bw Tryz.prog 58 24 [(.tmp 4)] (erase wQ):=⟨Tryz.f58,_,rfl,by decide,rfl,by kernel_rfl,rfl,rfl⟩
abbrev jo:List Nat:=[0,1,4,5,17]
def fV (r5:aO) (dW:Int) (r4:Int):Option (aO):=
 (if ((decide (r5.err=0))&&(decide (dW<r4))) then
  some (aO.mk r5.b r5.ei 5)
 else
  some r5)
def dI (F:Nat) (r2:aO) (dW:Int):Option ((List UInt8)×aO):=
 (bF F r2 4).bind fun (r4,r5)=>
 (fV r5 dW r4).bind fun s7=>
 (fR s7 r4).bind fun (r8,r9)=>some (r8,r9)
theorem sJ {q1:Nat} {dW:Int} {r4:Int} {r5:aO} {H0 H:AH} (hfr:Fr H0 H0.length [q1] H) (ai:H[q1]? =some [(.sl .n 1 (ml b8 r5.b)),(.int .i64 r5.ei),(.int .i64 r5.err)]) (eS:q1<H0.length) {K:Exit→Env→AH→Prop}
 (kn:∀H':AH,Fr H0 H0.length [q1] H'→H'[q1]? =some [(.sl .n 1 (ml b8 r5.b)),(.int .i64 r5.ei),(.int .i64 r5.err)]→K .normal [(0,(.ptr q1 0)),(5,(.int .i64 r4)),(17,(.bool ((decide (r5.err=0))&&(decide (dW<r4)))))] H'):
 AX Tryz.prog jo 24 H0.length (erase lz) K [(0,(.ptr q1 0)),(1,(.int .i64 dW)),(5,(.int .i64 r4))] H:=by
 refine dz fun K' hK=> ?_
 have hle:=hfr.le
 have aU:=aL ai
 refine aE ai ?_
 refine jZ (fun bf=> ?_) fun bf=> ?_
 · refine aE (aB bf ai) ?_
   exact hK _ _ _ _ _ (dy bf) ax (kn _ hfr (ai.trans rfl))
 · refine aE (aB bf ai) ?_
   exact hK _ _ _ _ _ (dy bf) ax (kn _ hfr (ai.trans rfl))
theorem sK {r5:aO} {dW:Int} {r4:Int} {q1:Nat} {H0 H:AH} (hfr:Fr H0 H0.length [q1] H) (ai:H[q1]? =some [(.sl .n 1 (ml b8 r5.b)),(.int .i64 r5.ei),(.int .i64 r5.err)]) (eS:q1<H0.length) {K:Exit→Env→AH→Prop} {s6:aO}
 (h:fV r5 dW r4=some s6)
 (kn:∀H':AH,Fr H0 H0.length [q1] H'→H'[q1]? =some [(.sl .n 1 (ml b8 s6.b)),(.int .i64 s6.ei),(.int .i64 s6.err)]→K .normal [(0,(.ptr q1 0)),(5,(.int .i64 r4))] H'):
 AX Tryz.prog jo 24 H0.length (erase lA) K [(0,(.ptr q1 0)),(5,(.int .i64 r4)),(17,(.bool ((decide (r5.err=0))&&(decide (dW<r4)))))] H:=by
 refine dz fun K' hK=> ?_
 have hle:=hfr.le
 have aU:=aL ai
 rw [fV.eq_1] at h
 refine aE ai ?_
 refine b7 h (fun bz h=> ?_) fun bz h=> ?_
 · refine aE ai ?_
   obtain rfl:=aK h
   exact hK _ _ _ _ _ aZ ax (kn _ (bn _ hfr) bL)
 · refine aE ai ?_
   obtain rfl:=aK h
   exact hK _ _ _ _ _ aZ ax (kn _ hfr (ai.trans rfl))
theorem iS {F:Nat} {r2:aO} {dW:Int} {q1:Nat} {H0:AH} (ai:H0[q1]? =some [(.sl .n 1 (ml b8 r2.b)),(.int .i64 r2.ei),(.int .i64 r2.err)]) {aM:List UInt8} {cB:aO} (h:dI F r2 dW=some (aM,cB)):
 aG Tryz.prog 58 [(.ptr q1 0),(.int .i64 dW)] H0 fun v H'=>v=(.sl .own 1 (ml b8 aM))∧H'=(H0.set q1 [(.sl .n 1 (ml b8 cB.b)),(.int .i64 cB.ei),(.int .i64 cB.err)]):=by
 have aU:=aL ai
 refine ef wR jo [q1] fun hcl K0 aP H hH hfr=> ?_
 rw [←hH] at ai
 clear hH
 have hle:=hfr.le
 have eW:=aL ai
 rw [dI.eq_1] at h
 refine aE ai ?_
 obtain ⟨⟨r4,r5⟩,hy1,h⟩:=ay h
 dsimp only at h
 refine bg ax (bY (ai.trans rfl) hy1) ?_
 refine aE ai ?_
 refine cg ax (sJ (q1:=q1) (dW:=dW) (r4:=r4) (r5:=r5) (bn _ hfr) bL br ?_)
 intro H hfr ai
 have hle:=hfr.le
 have aU:=aL ai
 refine aE ai ?_
 obtain ⟨s7,bu,h⟩:=ay h
 refine cg ax (sK (q1:=q1) hfr (ai.trans rfl) br bu ?_)
 intro H hfr ai
 have hle:=hfr.le
 have aU:=aL ai
 refine aE ai ?_
 obtain ⟨⟨r8,r9⟩,bW,h⟩:=ay h
 dsimp only at h
 refine bg ax (vA (ai.trans rfl) bW) ?_
 refine aE ai ?_
 obtain ⟨rfl,rfl⟩:=de h
 exact aP _ _ _ bG (cc (bn _ hfr) hcl (bD bx (.sl .own 1 (ml b8 r8))) bB bt bL br jv gE ⟨rfl,rfl⟩)
abbrev Dp:aD:=(.seq (.rg [(aj 2 (.alloc [(.str []),(.str [])]))]) (.seq (.rg [(aA 5 0),(aj 6 (.call (.c (.fn 58 [])) [(.t 5),(.c (.int .i64 65536))])),(bk 3 6)]) (.seq (.rg [(aA 7 0),(aj 8 (.call (.c (.fn 58 [])) [(.t 7),(.c (.int .i64 65536))])),(bk 4 8)]) (.seq (.rg [(aA 9 3),(aj 10 (.ec .bs (.t 9))),(aA 11 4),(aj 12 (.ec .bs (.t 11))),(aj 13 (.build [(.str []),(.str [])] [(0,(1,(.t 10))),(1,(1,(.t 12)))])),(cZ (.st (.t 2) (.t 13) 2))]) .ret))))
theorem Dq:bw Tryz.prog 57 14 [(.cell 2 23)] (erase Dp):=⟨Tryz.f57,_,rfl,by decide,rfl,by kernel_rfl,rfl,rfl⟩
abbrev Dr:List Nat:=[0,2,3,4]
def iO (F:Nat) (r2:aO):Option (aJ×aO):=
 (dI F r2 65536).bind fun (r3,r4)=>
 (dI F r4 65536).bind fun (r5,r6)=>some ((aJ.mk r3 r5),r6)
theorem tJ {F:Nat} {r2:aO} {q1:Nat} {H0:AH} (ai:H0[q1]? =some [(.sl .n 1 (ml b8 r2.b)),(.int .i64 r2.ei),(.int .i64 r2.err)]) {aM:aJ} {cB:aO} (h:iO F r2=some (aM,cB)):
 aG Tryz.prog 57 [(.ptr q1 0)] H0 fun v H'=>v=(.agg [(.str aM.au),(.str aM.domain)])∧H'=(H0.set q1 [(.sl .n 1 (ml b8 cB.b)),(.int .i64 cB.ei),(.int .i64 cB.err)]):=by
 have aU:=aL ai
 refine ef Dq Dr [q1] fun hcl K0 aP H hH hfr=> ?_
 rw [←hH] at ai
 clear hH
 have hle:=hfr.le
 have eW:=aL ai
 rw [iO.eq_1] at h
 refine aE ai ?_
 obtain ⟨⟨r3,r4⟩,hy1,h⟩:=ay h
 dsimp only at h
 refine bg ax (iS (q1:=q1) (ez (ai.trans rfl)) hy1) ?_
 refine aE ai ?_
 obtain ⟨⟨r5,r6⟩,bf,h⟩:=ay h
 dsimp only at h
 refine bg ax (iS (q1:=q1) bL bf) ?_
 refine aE ai ?_
 obtain ⟨rfl,rfl⟩:=de h
 exact aP _ _ _ bG (cc (bn _ (bn _ (bn _ (Fr.app hfr)))) hcl (gw (cs:=[(.str r3),(.str r5)]) (v:=(.agg [(.str r3),(.str r5)])) (by kernel_rfl) (n:=(some 2)) (by kernel_rfl) rfl bL (by simp [jc,jb,lF,bZ,AV.flat,ng,oa,AV.bS,Tg.sh]) bx) bB bt (aX bL) br jv gE ⟨rfl,rfl⟩)
abbrev mP:aD:=(.rg [(aA 3 0),(aj 4 (.dZ (.t 3))),(aj 5 (.aV (.t 4) 2)),(aj 6 (.ld (.t 5) none)),(aj 7 (.bin .eql (.t 6) (.c (.int .i64 0)))),(aA 8 7),(aF 9 (.mv (.t 0)) 8 true),(aF 10 (.dZ (.t 9)) 8 true),(aF 11 (.aV (.t 10) 1) 8 true),(aF 12 (.ld (.t 11) none) 8 true),(aF 13 (.mv (.t 0)) 8 true),(aF 14 (.dZ (.t 13)) 8 true),(aF 15 (.aV (.t 14) 0) 8 true),(aF 16 (.ld (.t 15) none) 8 true),(aF 17 (.len (.t 16)) 8 true),(aF 18 (.bin .lss (.t 12) (.t 17)) 8 true),(aj 19 (.pick (.t 8) (.t 18) (.c (.bool false))))])
abbrev zF:aD:=(.seq (.rg [(aj 2 (.aY (.c (.int .i64 0))))]) (.seq (.seq (.sem (erase mP)) (.cond (.t 19) (.rg [(aA 20 0),(aj 21 (.dZ (.t 20))),(aj 22 (.aV (.t 21) 2)),(cZ (.st (.t 22) (.c (.int .i64 3)) 1))]) .skip)) (.seq (.rg [(aA 23 0),(aj 24 (.dZ (.t 23))),(aj 25 (.aV (.t 24) 2)),(aj 26 (.ld (.t 25) none)),(bk 2 26)]) .ret)))
theorem zG:bw Tryz.prog 59 27 [(.tmp 2)] (erase zF):=⟨Tryz.f59,_,rfl,by decide,rfl,by kernel_rfl,rfl,rfl⟩
abbrev qB:List Nat:=[0,2,19]
def gS (r2:aO):Option (Int×aO):=
 (if ((decide (r2.err=0))&&(decide (r2.ei<(r2.b.length:Int)))) then
  some (3,(aO.mk r2.b r2.ei 3))
 else
  some (r2.err,r2))
theorem ux {q1:Nat} {r2:aO} {H0 H:AH} (hfr:Fr H0 H0.length [q1] H) (ai:H[q1]? =some [(.sl .n 1 (ml b8 r2.b)),(.int .i64 r2.ei),(.int .i64 r2.err)]) (eS:q1<H0.length) {K:Exit→Env→AH→Prop}
 (kn:∀H':AH,Fr H0 H0.length [q1] H'→H'[q1]? =some [(.sl .n 1 (ml b8 r2.b)),(.int .i64 r2.ei),(.int .i64 r2.err)]→K .normal [(0,(.ptr q1 0)),(19,(.bool ((decide (r2.err=0))&&(decide (r2.ei<(r2.b.length:Int))))))] H'):
 AX Tryz.prog qB 27 H0.length (erase mP) K [(0,(.ptr q1 0))] H:=by
 refine dz fun K' hK=> ?_
 have hle:=hfr.le
 have aU:=aL ai
 refine aE ai ?_
 refine jZ (fun hy1=> ?_) fun hy1=> ?_
 · refine aE (aB hy1 ai) ?_
   exact hK _ _ _ _ _ (dy hy1) ax (kn _ hfr (ai.trans rfl))
 · refine aE (aB hy1 ai) ?_
   exact hK _ _ _ _ _ (dy hy1) ax (kn _ hfr (ai.trans rfl))
theorem xO {r2:aO} {q1:Nat} {H0:AH} (ai:H0[q1]? =some [(.sl .n 1 (ml b8 r2.b)),(.int .i64 r2.ei),(.int .i64 r2.err)]) {aM:Int} {cB:aO} (h:gS r2=some (aM,cB)):
 aG Tryz.prog 59 [(.ptr q1 0)] H0 fun v H'=>v=(.int .i64 aM)∧H'=(H0.set q1 [(.sl .n 1 (ml b8 cB.b)),(.int .i64 cB.ei),(.int .i64 cB.err)]):=by
 have aU:=aL ai
 refine ef zG qB [q1] fun hcl K0 aP H hH hfr=> ?_
 rw [←hH] at ai
 clear hH
 have hle:=hfr.le
 have eW:=aL ai
 rw [gS.eq_1] at h
 refine aE ai ?_
 refine cg ax (ux (q1:=q1) (r2:=r2) hfr (ai.trans rfl) br ?_)
 intro H hfr ai
 have hle:=hfr.le
 have aU:=aL ai
 refine aE ai ?_
 refine b7 h (fun bf h=> ?_) fun bf h=> ?_
 · refine aE ai ?_
   obtain ⟨rfl,rfl⟩:=de h
   exact aP _ _ _ bG (cc (bn _ hfr) hcl (bD bx (.int .i64 3)) bB bt bL br jv gE ⟨rfl,rfl⟩)
 · refine aE ai ?_
   obtain ⟨rfl,rfl⟩:=de h
   exact aP _ _ _ bG (cc hfr hcl (bD bx (.int .i64 r2.err)) bB bt (ai.trans rfl) br jv gE ⟨rfl,rfl⟩)
abbrev qC:aD:=(.rg [(aA 41 10),(aA 42 9),(aj 43 (.bin .lss (.t 41) (.t 42))),(aA 44 43),(aF 45 (.mv (.t 6)) 44 true),(aF 46 (.dZ (.t 45)) 44 true),(aF 47 (.aV (.t 46) 2) 44 true),(aF 48 (.ld (.t 47) none) 44 true),(aF 49 (.bin .eql (.t 48) (.c (.int .i64 0))) 44 true),(aj 50 (.pick (.t 44) (.t 49) (.c (.bool false))))])
abbrev oD:aD:=(.seq (.seq (.sem (erase qC)) (.cond (.t 50) .skip (.exit 0))) (.seq (.blk 1 (.seq (.rg [(aj 11 (.alloc [(.str []),(.str []),(.int .i64 0),(.int .i64 0),(.int .i64 0),(.int .i64 0),(.str [])]))]) (.seq (.rg [(aA 53 6),(aj 54 (.call (.c (.fn 57 [])) [(.t 53)])),(aj 55 (.aV (.t 11) 0)),(cZ (.st (.t 55) (.t 54) 2))]) (.seq (.rg [(aA 56 6),(aj 57 (.call (.c (.fn 56 [])) [(.t 56),(.c (.int .i64 1))])),(aj 58 (.aV (.t 11) 2)),(cZ (.st (.t 58) (.t 57) 1))]) (.seq (.rg [(aA 59 6),(aj 60 (.call (.c (.fn 56 [])) [(.t 59),(.c (.int .i64 1))])),(aj 61 (.aV (.t 11) 3)),(cZ (.st (.t 61) (.t 60) 1))]) (.seq (.rg [(aA 62 6),(aj 63 (.call (.c (.fn 56 [])) [(.t 62),(.c (.int .i64 4))])),(aj 64 (.aV (.t 11) 4)),(cZ (.st (.t 64) (.t 63) 1))]) (.seq (.rg [(aA 65 6),(aj 66 (.call (.c (.fn 56 [])) [(.t 65),(.c (.int .i64 2))])),(aj 67 (.aV (.t 11) 5)),(cZ (.st (.t 67) (.t 66) 1))]) (.seq (.rg [(aA 68 6),(aj 69 (.call (.c (.fn 58 [])) [(.t 68),(.c (.int .i64 65536))])),(aj 70 (.ec .bs (.t 69))),(aj 71 (.aV (.t 11) 6)),(cZ (.st (.t 71) (.t 70) 1))]) (.rg [(aj 72 (.aV (.t 7) 5)),(aj 73 (.ld (.t 72) none)),(aj 74 (.ld (.t 11) (some 7))),(aj 75 (.jQ 7 [(.t 74)])),(aj 76 (.app 7 80 (.t 73) (.t 75))),(aj 77 (.aV (.t 7) 5)),(cZ (.st (.t 77) (.t 76) 1))]))))))))) (.rg [(aA 51 10),(aj 52 (.bin .add (.t 51) (.c (.int .i64 1)))),(bk 10 52)])))
abbrev qD:aD:=(.rg [(aA 78 8),(aj 79 (.bin .neq (.t 78) (.c (.int .i64 1)))),(aA 80 79),(aF 81 (.mv (.t 6)) 80 false),(aF 82 (.call (.c (.fn 59 [])) [(.t 81)]) 80 false),(aF 83 (.bin .neq (.t 82) (.c (.int .i64 0))) 80 false),(aj 84 (.pick (.t 80) (.c (.bool true)) (.t 83))),(aA 85 84),(aF 86 (.lJ (.t 7) (some 6)) 85 false),(aF 87 (.call (.c (.fn 14 [])) [(.t 86)]) 85 false),(aF 88 (.un .not (.t 87)) 85 false),(aj 89 (.pick (.t 85) (.c (.bool true)) (.t 88))),(aA 90 89),(aF 91 (.lJ (.t 7) (some 6)) 90 false),(aF 94 (.mv (.t 0)) 90 false),(aF 95 (.vD (.t 94)) 90 false),(aF 92 (.call (.c (.fn 15 [])) [(.t 91)]) 90 false),(aF 93 (.vD (.t 92)) 90 false),(aF 96 (.bin .neq (.t 93) (.t 95)) 90 false),(aj 97 (.pick (.t 90) (.c (.bool true)) (.t 96)))])
abbrev Ds:aD:=(.seq (.rg [(aj 2 (.alloc [(.str []),(.str []),(.int .i64 0),(.int .i64 0),(.int .u32 0),(.sl .ex 7 [])])),(aj 3 (.aY (.c (.int .i64 0))))]) (.seq (.rg [(aA 13 0),(aj 14 (.call (.c (.fn 55 [])) [(.t 13)])),(aA 12 14),(aj 15 (.ext (.t 12) 0)),(aj 16 (.ext (.t 12) 1)),(bk 4 15),(bk 5 16)]) (.seq (.seq (.rg [(aA 17 5),(aj 18 (.bin .neq (.t 17) (.c (.int .i64 0))))]) (.cond (.t 18) (.seq (.rg [(aj 19 (.build [(.str []),(.str []),(.int .i64 0),(.int .i64 0),(.int .u32 0),(.sl .ex 7 [])] [])),(aA 20 5),(cZ (.st (.t 2) (.t 19) 6)),(bk 3 20)]) .ret) .skip)) (.seq (.rg [(aA 21 4),(aj 22 (.build [(.sl .ex 1 []),(.int .i64 0),(.int .i64 0)] [(0,(1,(.t 21)))])),(aj 23 (.box (.t 22))),(bk 6 23)]) (.seq (.rg [(aj 7 (.alloc [(.str []),(.str []),(.int .i64 0),(.int .i64 0),(.int .u32 0),(.sl .ex 7 [])]))]) (.seq (.rg [(aA 24 6),(aj 25 (.call (.c (.fn 56 [])) [(.t 24),(.c (.int .i64 1))])),(bk 8 25)]) (.seq (.rg [(aA 26 6),(aj 27 (.call (.c (.fn 57 [])) [(.t 26)])),(aj 28 (.aV (.t 7) 0)),(cZ (.st (.t 28) (.t 27) 2))]) (.seq (.rg [(aA 29 6),(aj 30 (.call (.c (.fn 56 [])) [(.t 29),(.c (.int .i64 4))])),(aj 31 (.aV (.t 7) 2)),(cZ (.st (.t 31) (.t 30) 1))]) (.seq (.rg [(aA 32 6),(aj 33 (.call (.c (.fn 56 [])) [(.t 32),(.c (.int .i64 4))])),(aj 34 (.aV (.t 7) 3)),(cZ (.st (.t 34) (.t 33) 1))]) (.seq (.rg [(aA 35 6),(aj 36 (.call (.c (.fn 56 [])) [(.t 35),(.c (.int .i64 4))])),(aj 37 (.ec (.int .u32) (.t 36))),(aj 38 (.aV (.t 7) 4)),(cZ (.st (.t 38) (.t 37) 1))]) (.seq (.rg [(aA 39 6),(aj 40 (.call (.c (.fn 56 [])) [(.t 39),(.c (.int .i64 1))])),(bk 9 40)]) (.seq (.seq (.rg [(aj 10 (.aY (.c (.int .i64 0))))]) (.blk 0 (.loop (erase oD)))) (.seq (.seq (.sem (erase qD)) (.cond (.t 97) (.seq (.rg [(aj 98 (.build [(.str []),(.str []),(.int .i64 0),(.int .i64 0),(.int .u32 0),(.sl .ex 7 [])] [])),(cZ (.st (.t 2) (.t 98) 6)),(aj 3 (.aY (.c (.int .i64 3))))]) .ret) .skip)) (.seq (.rg [(aj 99 (.ld (.t 7) (some 6))),(cZ (.st (.t 2) (.t 99) 6)),(aj 3 (.aY (.c (.int .i64 0))))]) .ret))))))))))))))
theorem Dt:bw Tryz.prog 20 100 [(.cell 2 32),(.tmp 3)] (erase Ds):=⟨Tryz.f20,_,rfl,by decide,rfl,by kernel_rfl,rfl,rfl⟩
abbrev kM:List Nat:=[0,2,3,4,5,6,7,8,9,10,11,18,50,97]
def dO (F:Nat) (kz:Int):(Int×aO×ak)→Option (St (ak×Int) (aO×ak) (Int×aO×ak))
 |(i19,qE,gQ)=>
  (if ((decide (i19<kz))&&(decide (qE.err=0))) then
   (iO F qE).bind fun (K1,Az)=>
   (bF F Az 1).bind fun (BX,VF)=>
   (bF F VF 1).bind fun (Sl,VG)=>
   (bF F VG 4).bind fun (Sm,r32)=>
   (bF F r32 2).bind fun (r33,VH)=>
   (dI F VH 65536).bind fun (C3,VJ)=>
   (cC 80 gQ.az ([(bl.mk K1 BX Sl Sm r33 C3)]:List bl)).bind fun x37=>
   some (.cT ((IntKind.wrap .i64 (i19+1)),VJ,(ak.mk gQ.av gQ.born gQ.size gQ.sum x37)))
  else
   some (.fI (qE,gQ)))
def gT (F:Nat) (r4:Int) (Gm:aO) (iG:ak) (b1:List UInt8):Option (Bool×aO):=
 (if (!decide (r4=1)) then
  some (true,Gm)
 else
  (gS Gm).bind fun (VK,KN)=>
  (if (!decide (VK=0)) then
   some (true,KN)
  else
   (gr F iG).bind fun VL=>
   (if (!VL) then
    some (true,KN)
   else
    (iM F iG).bind fun r47=>some ((!decide (r47=b1)),KN))))
def kD (F:Nat) (b1:List UInt8):Option (ak×Int):=
 (qA F b1).bind fun (r2,r3)=>
 (if (!decide (r3=0)) then
  some ((ak.mk (aJ.mk ([]:List UInt8) ([]:List UInt8)) 0 0 0 ([]:List bl)),r3)
 else
  (bF F (aO.mk r2 0 0) 1).bind fun (r4,r5)=>
  (iO F r5).bind fun (r6,r7)=>
  (bF F r7 4).bind fun (r8,r9)=>
  (bF F r9 4).bind fun (lG,gy)=>
  (bF F gy 4).bind fun (nN,kA)=>
  (bF F kA 1).bind fun (kz,K8)=>
  ((iter (dO F kz) F (0,K8,(ak.mk r6 r8 lG (IntKind.wrap .u32 nN) ([]:List bl)))).bind fun o52=>
  match o52 with
  | .inr (Gm,iG)=>
    (gT F r4 Gm iG b1).bind fun (t50,jB)=>
    (if t50 then
     some ((ak.mk (aJ.mk ([]:List UInt8) ([]:List UInt8)) 0 0 0 ([]:List bl)),3)
    else
     some (iG,0))
  | .inl _=>none))
theorem xP {b1:List UInt8} {sF:Nat} {LC:Nat} {LD:Nat} {r4:Int} {kz:Int} {i19:Int} {qE:aO} {gQ:ak} {H0 H:AH} (hfr:Fr H0 H0.length [] H) (ai:H[sF]? =some [(.str ([]:List UInt8)),(.str ([]:List UInt8)),(.int .i64 0),(.int .i64 0),(.int .u32 0),(.sl .own 7 [])]) (aq:H[LC]? =some [(.sl .n 1 (ml b8 qE.b)),(.int .i64 qE.ei),(.int .i64 qE.err)]) (aR:H[LD]? =some [(.str gQ.av.au),(.str gQ.av.domain),(.int .i64 gQ.born),(.int .i64 gQ.size),(.int .u32 gQ.sum),(.sl .own 7 (ml aC gQ.az))]) (eS:H0.length≤sF) (hi1:H0.length≤LC) (hi2:sF≠LC) (vf:H0.length≤LD) (hi4:sF≠LD) (NX:LC≠LD) {K:Exit→Env→AH→Prop}
 (kn:∀H':AH,Fr H0 H0.length [] H'→H'[sF]? =some [(.str ([]:List UInt8)),(.str ([]:List UInt8)),(.int .i64 0),(.int .i64 0),(.int .u32 0),(.sl .own 7 [])]→H'[LC]? =some [(.sl .n 1 (ml b8 qE.b)),(.int .i64 qE.ei),(.int .i64 qE.err)]→H'[LD]? =some [(.str gQ.av.au),(.str gQ.av.domain),(.int .i64 gQ.born),(.int .i64 gQ.size),(.int .u32 gQ.sum),(.sl .own 7 (ml aC gQ.az))]→K .normal [(0,(.sl .n 1 (ml b8 b1))),(2,(.ptr sF 0)),(6,(.ptr LC 0)),(7,(.ptr LD 0)),(8,(.int .i64 r4)),(9,(.int .i64 kz)),(10,(.int .i64 i19)),(50,(.bool ((decide (i19<kz))&&(decide (qE.err=0)))))] H'):
 AX Tryz.prog kM 100 H0.length (erase qC) K [(0,(.sl .n 1 (ml b8 b1))),(2,(.ptr sF 0)),(6,(.ptr LC 0)),(7,(.ptr LD 0)),(8,(.int .i64 r4)),(9,(.int .i64 kz)),(10,(.int .i64 i19))] H:=by
 refine dz fun K' hK=> ?_
 have hle:=hfr.le
 have aU:=aL ai
 have cK:=aL aq
 have kR:=aL aR
 refine aE (aB ai (aB aq aR)) ?_
 refine jZ (fun eE=> ?_) fun eE=> ?_
 · refine aE (aB eE (aB ai (aB aq aR))) ?_
   exact hK _ _ _ _ _ (dy eE) ax (kn _ hfr (ai.trans rfl) (aq.trans rfl) (aR.trans rfl))
 · refine aE (aB eE (aB ai (aB aq aR))) ?_
   exact hK _ _ _ _ _ (dy eE) ax (kn _ hfr (ai.trans rfl) (aq.trans rfl) (aR.trans rfl))
theorem xQ {F:Nat} {i19:Int} {kz:Int} {qE:aO} {gQ:ak} {b1:List UInt8} {xR:Nat} {qZ:Nat} {xS:Nat} {r4:Int} {H0 H:AH} (hfr:Fr H0 H0.length [] H) (ai:H[xR]? =some [(.str ([]:List UInt8)),(.str ([]:List UInt8)),(.int .i64 0),(.int .i64 0),(.int .u32 0),(.sl .own 7 [])]) (aq:H[qZ]? =some [(.sl .n 1 (ml b8 qE.b)),(.int .i64 qE.ei),(.int .i64 qE.err)]) (aR:H[xS]? =some [(.str gQ.av.au),(.str gQ.av.domain),(.int .i64 gQ.born),(.int .i64 gQ.size),(.int .u32 gQ.sum),(.sl .own 7 (ml aC gQ.az))]) (eS:H0.length≤xR) (hi1:H0.length≤qZ) (hi2:xR≠qZ) (vf:H0.length≤xS) (hi4:xR≠xS) (NX:qZ≠xS) {K:Exit→Env→AH→Prop} {o:(ak×Int)⊕(aO×ak)}
 (h:iter (dO F kz) F (i19,qE,gQ)=some o)
 (dj:∀o':aO×ak,o= .inr o'→∀H':AH,Fr H0 H0.length [] H'→H'[xR]? =some [(.str ([]:List UInt8)),(.str ([]:List UInt8)),(.int .i64 0),(.int .i64 0),(.int .u32 0),(.sl .own 7 [])]→H'[qZ]? =some [(.sl .n 1 (ml b8 o'.1.b)),(.int .i64 o'.1.ei),(.int .i64 o'.1.err)]→H'[xS]? =some [(.str o'.2.av.au),(.str o'.2.av.domain),(.int .i64 o'.2.born),(.int .i64 o'.2.size),(.int .u32 o'.2.sum),(.sl .own 7 (ml aC o'.2.az))]→K (.exit 0) [(0,(.sl .n 1 (ml b8 b1))),(2,(.ptr xR 0)),(6,(.ptr qZ 0)),(7,(.ptr xS 0)),(8,(.int .i64 r4))] H'):
 AX Tryz.prog kM 100 H0.length (.loop (erase oD)) K [(0,(.sl .n 1 (ml b8 b1))),(2,(.ptr xR 0)),(6,(.ptr qZ 0)),(7,(.ptr xS 0)),(8,(.int .i64 r4)),(9,(.int .i64 kz)),(10,(.int .i64 i19))] H:=by
 refine iZ (fun s e H1=>match s with|(i19,qE,gQ)=>e=[(0,(.sl .n 1 (ml b8 b1))),(2,(.ptr xR 0)),(6,(.ptr qZ 0)),(7,(.ptr xS 0)),(8,(.int .i64 r4)),(9,(.int .i64 kz)),(10,(.int .i64 i19))]∧Fr H0 H0.length [] H1∧H1[xR]? =some [(.str ([]:List UInt8)),(.str ([]:List UInt8)),(.int .i64 0),(.int .i64 0),(.int .u32 0),(.sl .own 7 [])]∧H1[qZ]? =some [(.sl .n 1 (ml b8 qE.b)),(.int .i64 qE.ei),(.int .i64 qE.err)]∧H1[xS]? =some [(.str gQ.av.au),(.str gQ.av.domain),(.int .i64 gQ.born),(.int .i64 gQ.size),(.int .u32 gQ.sum),(.sl .own 7 (ml aC gQ.az))]) h ⟨rfl,hfr,ai,aq,aR⟩ ?_
 rintro K' ⟨i19,qE,gQ⟩ st e H ⟨rfl,hfr,ai,aq,aR⟩ h hN hB hR hX
 have hle:=hfr.le
 have aU:=aL ai
 have cK:=aL aq
 have kR:=aL aR
 rw [dO.eq_1] at h
 refine aE (aB ai (aB aq aR)) ?_
 refine cg ax (xP (b1:=b1) (sF:=xR) (LC:=qZ) (LD:=xS) (r4:=r4) (kz:=kz) (i19:=i19) (qE:=qE) (gQ:=gQ) hfr (ai.trans rfl) (aq.trans rfl) (aR.trans rfl) br br br br br br ?_)
 intro H hfr ai aq aR
 have hle:=hfr.le
 have aU:=aL ai
 have cK:=aL aq
 have kR:=aL aR
 refine aE (aB ai (aB aq aR)) ?_
 refine b7 h (fun dh h=> ?_) fun dh h=> ?_
 · refine aE (aB ai (aB aq aR)) ?_
   obtain ⟨⟨K1,Az⟩,cH,h⟩:=ay h
   dsimp only at h
   refine bg ax (tJ (q1:=qZ) (ez (aq.trans rfl)) cH) ?_
   refine aE (aB ai (aB aq aR)) ?_
   obtain ⟨⟨BX,VF⟩,eA,h⟩:=ay h
   dsimp only at h
   refine bg ax (bY (q1:=qZ) (aX bL) eA) ?_
   refine aE (aB ai (aB aq aR)) ?_
   obtain ⟨⟨Sl,VG⟩,di,h⟩:=ay h
   dsimp only at h
   refine bg ax (bY (q1:=qZ) (aX bL) di) ?_
   refine aE (aB ai (aB aq aR)) ?_
   obtain ⟨⟨Sm,r32⟩,gj,h⟩:=ay h
   dsimp only at h
   refine bg ax (bY (q1:=qZ) (aX bL) gj) ?_
   refine aE (aB ai (aB aq aR)) ?_
   obtain ⟨⟨r33,VH⟩,lW,h⟩:=ay h
   dsimp only at h
   refine bg ax (bY (q1:=qZ) (aX bL) lW) ?_
   refine aE (aB ai (aB aq aR)) ?_
   obtain ⟨⟨C3,VJ⟩,gl,h⟩:=ay h
   dsimp only at h
   refine bg ax (iS (q1:=qZ) (aX bL) gl) ?_
   refine aE (aB ai (aB aq aR)) ?_
   obtain ⟨x37,j7,h⟩:=ay h
   have nP:cC 80 (ml aC gQ.az) [(.agg [(.str K1.au),(.str K1.domain),(.int .i64 BX),(.int .i64 Sl),(.int .i64 Sm),(.int .i64 r33),(.str C3)])]=some (ml aC x37):=eo (f:=aC) j7
   refine aE (aB nP (aB ai (aB aq aR))) ?_
   obtain rfl:=aK h
   exact hN _ rfl _ _ _ _ aZ ax ⟨rfl,(bn _ (bn _ (bn _ (bn _ (bn _ (bn _ (bn _ (bn _ (bn _ (bn _ (bn _ (bn _ (bn _ (bn _ (Fr.app hfr))))))))))))))),(aX (aX (aX (aX (aX (aX (aX (aX (aX (aX (aX (aX (aX (aX (ez (ai.trans rfl)))))))))))))))),(aX (aX (aX bL))),bL⟩
 · refine aE (aB ai (aB aq aR)) ?_
   obtain rfl:=aK h
   exact hX _ _ _ _ _ eK aZ ax (dj _ (hB _ rfl) _ hfr (ai.trans rfl) (aq.trans rfl) (aR.trans rfl))
theorem xT {F:Nat} {r4:Int} {Gm:aO} {iG:ak} {b1:List UInt8} {Om:Nat} {SB:Nat} {H0 H:AH} (hfr:Fr H0 H0.length [] H) (ai:H[Om]? =some [(.str ([]:List UInt8)),(.str ([]:List UInt8)),(.int .i64 0),(.int .i64 0),(.int .u32 0),(.sl .own 7 [])]) (aq:H[SB]? =some [(.sl .n 1 (ml b8 Gm.b)),(.int .i64 Gm.ei),(.int .i64 Gm.err)]) (eS:H0.length≤Om) (hi1:H0.length≤SB) (hi2:Om≠SB) {K:Exit→Env→AH→Prop} {t48:Bool} {Za:aO}
 (h:gT F r4 Gm iG b1=some (t48,Za))
 (kn:∀H':AH,Fr H0 H0.length [] H'→H'[Om]? =some [(.str ([]:List UInt8)),(.str ([]:List UInt8)),(.int .i64 0),(.int .i64 0),(.int .u32 0),(.sl .own 7 [])]→H'[SB]? =some [(.sl .n 1 (ml b8 Za.b)),(.int .i64 Za.ei),(.int .i64 Za.err)]→K .normal [(2,(.ptr Om 0)),(7,(.ep (.agg [(.str iG.av.au),(.str iG.av.domain),(.int .i64 iG.born),(.int .i64 iG.size),(.int .u32 iG.sum),(.sl .n 7 (ml aC iG.az))]) 0)),(97,(.bool t48))] H'):
 AX Tryz.prog kM 100 H0.length (erase qD) K [(0,(.sl .n 1 (ml b8 b1))),(2,(.ptr Om 0)),(6,(.ptr SB 0)),(7,(.ep (.agg [(.str iG.av.au),(.str iG.av.domain),(.int .i64 iG.born),(.int .i64 iG.size),(.int .u32 iG.sum),(.sl .n 7 (ml aC iG.az))]) 0)),(8,(.int .i64 r4))] H:=by
 refine dz fun K' hK=> ?_
 have hle:=hfr.le
 have aU:=aL ai
 have cK:=aL aq
 rw [gT.eq_1] at h
 refine aE (aB ai aq) ?_
 refine cr h (fun kf h=> ?_) fun kf h=> ?_
 · refine aE (aB kf (aB ai aq)) ?_
   obtain ⟨rfl,rfl⟩:=de h
   exact hK _ _ _ _ _ (dy kf) ax (kn _ hfr (ai.trans rfl) (aq.trans rfl))
 · refine aE (aB kf (aB ai aq)) ?_
   obtain ⟨⟨VK,KN⟩,p6,h⟩:=ay h
   dsimp only at h
   refine bg ax (xO (aq.trans rfl) p6) ?_
   refine aE (aB ai aq) ?_
   refine cr h (fun k7 h=> ?_) fun k7 h=> ?_
   · refine aE (aB k7 (aB ai aq)) ?_
     obtain ⟨rfl,rfl⟩:=de h
     exact hK _ _ _ _ _ (dy (aB kf k7)) ax (kn _ (bn _ hfr) (aX (ai.trans rfl)) bL)
   · refine aE (aB k7 (aB ai aq)) ?_
     obtain ⟨VL,s5,h⟩:=ay h
     refine bg ax (kK s5) ?_
     refine aE (aB ai aq) ?_
     refine cr h (fun nQ h=> ?_) fun nQ h=> ?_
     · refine aE (aB nQ (aB ai aq)) ?_
       obtain ⟨rfl,rfl⟩:=de h
       exact hK _ _ _ _ _ (dy (aB kf (aB k7 nQ))) ax (kn _ (bn _ hfr) (aX (ai.trans rfl)) bL)
     · refine aE (aB nQ (aB ai aq)) ?_
       obtain ⟨r47,p7,h⟩:=ay h
       refine bg ax (tG p7) ?_
       refine aE (aB ai aq) ?_
       obtain ⟨rfl,rfl⟩:=de h
       exact hK _ _ _ _ _ (dy (aB kf (aB k7 nQ))) ax (kn _ (bn _ hfr) (aX (ai.trans rfl)) bL)
theorem Cf {F:Nat} {b1:List UInt8} {H0:AH} {aM:ak} {cB:Int} (h:kD F b1=some (aM,cB)):
 aG Tryz.prog 20 [(.sl .n 1 (ml b8 b1))] H0 fun v H'=>v=(.bK [(.agg [(.str aM.av.au),(.str aM.av.domain),(.int .i64 aM.born),(.int .i64 aM.size),(.int .u32 aM.sum),(.sl .n 7 (ml aC aM.az))]),(.int .i64 cB)])∧H'=H0:=by
 refine ef Dt kM [] fun hcl K0 aP H hH hfr=> ?_
 clear hH
 have hle:=hfr.le
 rw [kD.eq_1] at h
 refine bV ?_
 obtain ⟨⟨r2,r3⟩,hy1,h⟩:=ay h
 dsimp only at h
 refine bg ax (Gl hy1) ?_
 refine bV ?_
 refine b7 h (fun bf h=> ?_) fun bf h=> ?_
 · refine bV ?_
   obtain ⟨rfl,rfl⟩:=de h
   exact aP _ _ _ bG (bp (bn _ (Fr.app hfr)) hcl (gw (cs:=[(.str ([]:List UInt8)),(.str ([]:List UInt8)),(.int .i64 0),(.int .i64 0),(.int .u32 0),(.sl .ex 7 [])]) (v:=(.agg [(.str ([]:List UInt8)),(.str ([]:List UInt8)),(.int .i64 0),(.int .i64 0),(.int .u32 0),(.sl .ex 7 [])])) (by kernel_rfl) (n:=(some 6)) (by kernel_rfl) rfl bL (by simp [jc,jb,lF,bZ,AV.flat,ng,oa,AV.bS,Tg.sh]) (bD bx (.int .i64 r3))) bB bt ⟨rfl,rfl⟩)
 · refine bV ?_
   obtain ⟨⟨r4,r5⟩,bz,h⟩:=ay h
   dsimp only at h
   refine bg ax (bY (q1:=(H.length+1)) (ez jY) bz) ?_
   refine bV ?_
   obtain ⟨⟨r6,r7⟩,bu,h⟩:=ay h
   dsimp only at h
   refine bg ax (tJ (q1:=(H.length+1)) bL bu) ?_
   refine bV ?_
   obtain ⟨⟨r8,r9⟩,bW,h⟩:=ay h
   dsimp only at h
   refine bg ax (bY (q1:=(H.length+1)) (aX bL) bW) ?_
   refine bV ?_
   obtain ⟨⟨lG,gy⟩,cw,h⟩:=ay h
   dsimp only at h
   refine bg ax (bY (q1:=(H.length+1)) (aX bL) cw) ?_
   refine bV ?_
   obtain ⟨⟨nN,kA⟩,dB,h⟩:=ay h
   dsimp only at h
   refine bg ax (bY (q1:=(H.length+1)) (aX bL) dB) ?_
   refine bV ?_
   obtain ⟨⟨kz,K8⟩,dD,h⟩:=ay h
   dsimp only at h
   refine bg ax (bY (q1:=(H.length+1)) (aX bL) dD) ?_
   refine bV ?_
   obtain ⟨qZ,Zb⟩:∃q:Nat,(H.length+1)=q:=⟨_,rfl⟩
   try rw [Zb]
   obtain ⟨xS,Zc⟩:∃q:Nat,(H.length+2)=q:=⟨_,rfl⟩
   try rw [Zc]
   obtain ⟨xR,Zd⟩:∃q:Nat,H.length=q:=⟨_,rfl⟩
   try rw [Zd]
   try rw [show xR+1=qZ from by omega]
   try rw [show qZ+1=xS from by omega]
   obtain ⟨o52,j9,h⟩:=ay h
   refine cg (eR.Pb (q:=xS) (cs':=[(.str r6.au),(.str r6.domain),(.int .i64 r8),(.int .i64 lG),(.int .u32 (IntKind.wrap .u32 nN)),(.sl .own 7 [])]) (eR.set (q:=xR) (cs':=[(.str ([]:List UInt8)),(.str ([]:List UInt8)),(.int .i64 0),(.int .i64 0),(.int .u32 0),(.sl .own 7 [])]) (aX (aX (aX (aX (aX (aX (aX (aX (aX (aX (ez (ez jY)))))))))))) gE) (aX bL) gE) (xQ (b1:=b1) (r4:=r4) (xR:=xR) (qZ:=qZ) (xS:=xS) (bn _ (bn _ (bn _ (bn _ (bn _ (bn _ (bn _ (bn _ (bn _ (bn _ (bn _ (bn _ (Fr.app (Fr.app (Fr.app hfr))))))))))))))) (aX bL) (aX (aX bL)) bL br br br br br br j9 ?_)
   · rintro ⟨Gm,iG⟩ rfl H hfr ai aq aR
     try dsimp only at h ai aq aR
     have hle:=hfr.le
     have aU:=aL ai
     have cK:=aL aq
     have kR:=aL aR
     refine aE (aB ai (aB aq aR)) ?_
     refine NR ?_
     apply AX.freeze (s:=xS) (cs:=[(.str iG.av.au),(.str iG.av.domain),(.int .i64 iG.born),(.int .i64 iG.size),(.int .u32 iG.sum),(.sl .own 7 (ml aC iG.az))]) (by exact (aR.trans rfl)) (cv.same (cv.same (cv.same (cv.same (cv.same (cv.n (cv.nil))))))) (by simp)
     · repeat (first|exact FZ.nil|apply FZ.ep|apply FZ.same)
     refine Vv ?_
     obtain ⟨⟨t50,jB⟩,En,h⟩:=ay h
     dsimp only at h
     refine cg ax (xT (Om:=xR) (SB:=qZ) (bn _ hfr) (aX (ai.trans rfl)) (aX (aq.trans rfl)) br br br En ?_)
     intro H hfr ai aq
     have hle:=hfr.le
     have aU:=aL ai
     have cK:=aL aq
     refine aE (aB ai aq) ?_
     refine b7 h (fun KQ h=> ?_) fun KQ h=> ?_
     · refine aE (aB ai aq) ?_
       obtain ⟨rfl,rfl⟩:=de h
       exact aP _ _ _ bG (bp (bn _ hfr) hcl (gw (cs:=[(.str ([]:List UInt8)),(.str ([]:List UInt8)),(.int .i64 0),(.int .i64 0),(.int .u32 0),(.sl .ex 7 [])]) (v:=(.agg [(.str ([]:List UInt8)),(.str ([]:List UInt8)),(.int .i64 0),(.int .i64 0),(.int .u32 0),(.sl .ex 7 [])])) (by kernel_rfl) (n:=(some 6)) (by kernel_rfl) rfl bL (by simp [jc,jb,lF,bZ,AV.flat,ng,oa,AV.bS,Tg.sh]) (bD bx (.int .i64 3))) bB bt ⟨rfl,rfl⟩)
     · refine aE (aB ai aq) ?_
       obtain ⟨rfl,rfl⟩:=de h
       exact aP _ _ _ bG (bp (bn _ hfr) hcl (gw (cs:=[(.str iG.av.au),(.str iG.av.domain),(.int .i64 iG.born),(.int .i64 iG.size),(.int .u32 iG.sum),(.sl .n 7 (ml aC iG.az))]) (v:=(.agg [(.str iG.av.au),(.str iG.av.domain),(.int .i64 iG.born),(.int .i64 iG.size),(.int .u32 iG.sum),(.sl .n 7 (ml aC iG.az))])) (by kernel_rfl) (n:=(some 6)) (by kernel_rfl) rfl bL (by simp [jc,jb,lF,bZ,AV.flat,ng,oa,AV.bS,Tg.sh]) (bD bx (.int .i64 0))) bB bt ⟨rfl,rfl⟩)
abbrev tK:aD:=(.rg ((aj 6 (.aV (.t 2) 0))::(aj 7 (.ld (.t 6) (some 2)))::(aj 8 (.aV (.t 3) 0))::(aj 9 (.ld (.t 8) (some 2)))::(aj 10 (.seq [.s, .s] true (.t 7) (.t 9)))::(aA 11 10)::(aF 12 (.aV (.t 2) 2) 11 false)::(aF 13 (.ld (.t 12) none) 11 false)::(aF 14 (.aV (.t 3) 2) 11 false)::(aF 15 (.ld (.t 14) none) 11 false)::(aF 16 (.bin .neq (.t 13) (.t 15)) 11 false)::(aj 17 (.pick (.t 11) (.c (.bool true)) (.t 16)))::(aA 18 17)::(aF 19 (.aV (.t 2) 3) 18 false)::(aF 20 (.ld (.t 19) none) 18 false)::(aF 21 (.aV (.t 3) 3) 18 false)::(aF 22 (.ld (.t 21) none) 18 false)::(aF 23 (.bin .neq (.t 20) (.t 22)) 18 false)::(aj 24 (.pick (.t 18) (.c (.bool true)) (.t 23)))::(aA 25 24)::(aF 26 (.aV (.t 2) 4) 25 false)::(aF 27 (.ld (.t 26) none) 25 false)::(aF 28 (.aV (.t 3) 4) 25 false)::(aF 29 (.ld (.t 28) none) 25 false)::(aF 30 (.bin .neq (.t 27) (.t 29)) 25 false)::(aj 31 (.pick (.t 25) (.c (.bool true)) (.t 30)))::(aA 32 31)::(aF 33 (.aV (.t 2) 5) 32 false)::(aF 34 (.ld (.t 33) none) 32 false)::(aF 35 (.len (.t 34)) 32 false)::(aF 36 (.aV (.t 3) 5) 32 false)::(aF 37 (.ld (.t 36) none) 32 false)::(aF 38 (.len (.t 37)) 32 false)::(aF 39 (.bin .neq (.t 35) (.t 38)) 32 false)::(aj 40 (.pick (.t 32) (.c (.bool true)) (.t 39)))::[]))
abbrev rW:aD:=(.seq (.seq (.rg [(aA 41 5),(aj 42 (.aV (.t 2) 5)),(aj 43 (.ld (.t 42) none)),(aj 44 (.len (.t 43))),(aj 45 (.bin .lss (.t 41) (.t 44)))]) (.cond (.t 45) .skip (.exit 0))) (.seq (.blk 1 (.seq (.rg [(aj 48 (.aV (.t 2) 5)),(aj 49 (.ld (.t 48) none)),(aA 50 5),(aj 51 (.lC 7 (.t 49) (.t 50))),(aj 52 (.ld (.t 51) (some 7))),(aj 53 (.aV (.t 3) 5)),(aj 54 (.ld (.t 53) none)),(aA 55 5),(aj 56 (.lC 7 (.t 54) (.t 55))),(aj 57 (.ld (.t 56) (some 7))),(aj 58 (.seq [.s, .s, .i, .i, .i, .i, .s] true (.t 52) (.t 57)))]) (.cond (.t 58) (.seq (.rg [(aj 4 (.aY (.c (.bool false))))]) .ret) .skip))) (.rg [(aA 46 5),(aj 47 (.bin .add (.t 46) (.c (.int .i64 1)))),(bk 5 47)])))
abbrev Gn:aD:=(.seq (.rg [(aj 2 (.box (.t 0))),(aj 3 (.box (.t 1))),(aj 4 (.aY (.c (.bool false))))]) (.seq (.seq (.sem (erase tK)) (.cond (.t 40) (.seq (.rg [(aj 4 (.aY (.c (.bool false))))]) .ret) .skip)) (.seq (.seq (.rg [(aj 5 (.aY (.c (.int .i64 0))))]) (.blk 0 (.loop (erase rW)))) (.seq (.rg [(aj 4 (.aY (.c (.bool true))))]) .ret))))
theorem Gp:bw Tryz.prog 21 59 [(.tmp 4)] (erase Gn):=⟨Tryz.f21,_,rfl,by decide,rfl,by kernel_rfl,rfl,rfl⟩
abbrev sL:List Nat:=[0,1,2,3,4,5,40,45,58]
def fS (a1:ak) (b2:ak):Int→Option (St Bool Unit Int)
 |i7=>
  (if (decide (i7<(a1.az.length:Int))) then
   (idx a1.az i7).bind fun x8=>
   (idx b2.az i7).bind fun x9=>
   (if (!(decide (x8.ct.au=x9.ct.au)&&(decide (x8.ct.domain=x9.ct.domain)&&(decide (x8.state=x9.state)&&(decide (x8.tries=x9.tries)&&(decide (x8.next=x9.next)&&(decide (x8.code=x9.code)&&decide (x8.why=x9.why)))))))) then
    some (.ret false)
   else
    some (.cT (IntKind.wrap .i64 (i7+1))))
  else
   some (.fI ()))
def lB (F:Nat) (a1:ak) (b2:ak):Option (Bool):=
 (if (((((!(decide (a1.av.au=b2.av.au)&&decide (a1.av.domain=b2.av.domain)))||(!decide (a1.born=b2.born)))||(!decide (a1.size=b2.size)))||(!decide (a1.sum=b2.sum)))||(!decide ((a1.az.length:Int)=(b2.az.length:Int)))) then
  some false
 else
  ((iter (fS a1 b2) F 0).bind fun Eu=>
  match Eu with
  | .inr ()=>
    some true
  | .inl gy=>
    some gy))
theorem Ba {q3:Nat} {q4:Nat} {a1:ak} {b2:ak} {H0 H:AH} (hfr:Fr H0 H0.length [] H) (ai:H[q3]? =some [(.str a1.av.au),(.str a1.av.domain),(.int .i64 a1.born),(.int .i64 a1.size),(.int .u32 a1.sum),(.sl .n 7 (ml aC a1.az))]) (aq:H[q4]? =some [(.str b2.av.au),(.str b2.av.domain),(.int .i64 b2.born),(.int .i64 b2.size),(.int .u32 b2.sum),(.sl .n 7 (ml aC b2.az))]) (eS:H0.length≤q3) (hi1:H0.length≤q4) (hi2:q3≠q4) {K:Exit→Env→AH→Prop}
 (kn:∀H':AH,Fr H0 H0.length [] H'→H'[q3]? =some [(.str a1.av.au),(.str a1.av.domain),(.int .i64 a1.born),(.int .i64 a1.size),(.int .u32 a1.sum),(.sl .n 7 (ml aC a1.az))]→H'[q4]? =some [(.str b2.av.au),(.str b2.av.domain),(.int .i64 b2.born),(.int .i64 b2.size),(.int .u32 b2.sum),(.sl .n 7 (ml aC b2.az))]→K .normal [(2,(.ptr q3 0)),(3,(.ptr q4 0)),(40,(.bool (((((!(decide (a1.av.au=b2.av.au)&&decide (a1.av.domain=b2.av.domain)))||(!decide (a1.born=b2.born)))||(!decide (a1.size=b2.size)))||(!decide (a1.sum=b2.sum)))||(!decide ((a1.az.length:Int)=(b2.az.length:Int))))))] H'):
 AX Tryz.prog sL 59 H0.length (erase tK) K [(2,(.ptr q3 0)),(3,(.ptr q4 0))] H:=by
 refine dz fun K' hK=> ?_
 have hle:=hfr.le
 have aU:=aL ai
 have cK:=aL aq
 refine aE (aB ai aq) ?_
 refine jZ (fun hy1=> ?_) fun hy1=> ?_
 · refine aE (aB hy1 (aB ai aq)) ?_
   exact hK _ _ _ _ _ (dy hy1) ax (kn _ hfr (ai.trans rfl) (aq.trans rfl))
 · refine aE (aB hy1 (aB ai aq)) ?_
   refine jZ (fun bf=> ?_) fun bf=> ?_
   · refine aE (aB bf (aB ai aq)) ?_
     exact hK _ _ _ _ _ (dy (aB hy1 bf)) ax (kn _ hfr (ai.trans rfl) (aq.trans rfl))
   · refine aE (aB bf (aB ai aq)) ?_
     refine jZ (fun bz=> ?_) fun bz=> ?_
     · refine aE (aB bz (aB ai aq)) ?_
       exact hK _ _ _ _ _ (dy (aB hy1 (aB bf bz))) ax (kn _ hfr (ai.trans rfl) (aq.trans rfl))
     · refine aE (aB bz (aB ai aq)) ?_
       refine jZ (fun bu=> ?_) fun bu=> ?_
       · refine aE (aB bu (aB ai aq)) ?_
         exact hK _ _ _ _ _ (dy (aB hy1 (aB bf (aB bz bu)))) ax (kn _ hfr (ai.trans rfl) (aq.trans rfl))
       · refine aE (aB bu (aB ai aq)) ?_
         exact hK _ _ _ _ _ (dy (aB hy1 (aB bf (aB bz bu)))) ax (kn _ hfr (ai.trans rfl) (aq.trans rfl))
theorem Bb {F:Nat} {i7:Int} {a1:ak} {b2:ak} {q5:Nat} {q6:Nat} {H0 H:AH} (hfr:Fr H0 H0.length [] H) (ai:H[q5]? =some [(.str a1.av.au),(.str a1.av.domain),(.int .i64 a1.born),(.int .i64 a1.size),(.int .u32 a1.sum),(.sl .n 7 (ml aC a1.az))]) (aq:H[q6]? =some [(.str b2.av.au),(.str b2.av.domain),(.int .i64 b2.born),(.int .i64 b2.size),(.int .u32 b2.sum),(.sl .n 7 (ml aC b2.az))]) (eS:H0.length≤q5) (hi1:H0.length≤q6) (hi2:q5≠q6) {K:Exit→Env→AH→Prop} {o:(Bool)⊕(Unit)}
 (h:iter (fS a1 b2) F i7=some o)
 (dj:∀o':Unit,o= .inr o'→∀H':AH,Fr H0 H0.length [] H'→H'[q5]? =some [(.str a1.av.au),(.str a1.av.domain),(.int .i64 a1.born),(.int .i64 a1.size),(.int .u32 a1.sum),(.sl .n 7 (ml aC a1.az))]→H'[q6]? =some [(.str b2.av.au),(.str b2.av.domain),(.int .i64 b2.born),(.int .i64 b2.size),(.int .u32 b2.sum),(.sl .n 7 (ml aC b2.az))]→K (.exit 0) [] H')
 (kr:∀o':Bool,o= .inl o'→∀H':AH,Fr H0 H0.length [] H'→K .ret [(4,(.bool o'))] H'):
 AX Tryz.prog sL 59 H0.length (.loop (erase rW)) K [(2,(.ptr q5 0)),(3,(.ptr q6 0)),(5,(.int .i64 i7))] H:=by
 refine iZ (fun s e H1=>match s with|i7=>e=[(2,(.ptr q5 0)),(3,(.ptr q6 0)),(5,(.int .i64 i7))]∧Fr H0 H0.length [] H1∧H1[q5]? =some [(.str a1.av.au),(.str a1.av.domain),(.int .i64 a1.born),(.int .i64 a1.size),(.int .u32 a1.sum),(.sl .n 7 (ml aC a1.az))]∧H1[q6]? =some [(.str b2.av.au),(.str b2.av.domain),(.int .i64 b2.born),(.int .i64 b2.size),(.int .u32 b2.sum),(.sl .n 7 (ml aC b2.az))]) h ⟨rfl,hfr,ai,aq⟩ ?_
 rintro K' i7 st e H ⟨rfl,hfr,ai,aq⟩ h hN hB hR hX
 have hle:=hfr.le
 have aU:=aL ai
 have cK:=aL aq
 rw [fS.eq_1] at h
 refine aE (aB ai aq) ?_
 refine b7 h (fun cw h=> ?_) fun cw h=> ?_
 · obtain ⟨x8,dB,h⟩:=ay h
   obtain ⟨x9,dD,h⟩:=ay h
   refine aE (aB dB (aB dD (aB ai aq))) ?_
   refine b7 h (fun eE h=> ?_) fun eE h=> ?_
   · refine aE (aB ai aq) ?_
     obtain rfl:=aK h
     exact hX _ _ _ _ _ eK aZ ax (kr _ (hR _ rfl) _ hfr)
   · refine aE (aB ai aq) ?_
     obtain rfl:=aK h
     exact hN _ rfl _ _ _ _ aZ ax ⟨rfl,hfr,(ai.trans rfl),(aq.trans rfl)⟩
 · refine aE (aB ai aq) ?_
   obtain rfl:=aK h
   exact hX _ _ _ _ _ eK WE.nil ax (dj _ (hB _ rfl) _ hfr (ai.trans rfl) (aq.trans rfl))
theorem wS {F:Nat} {a1:ak} {b2:ak} {H0:AH} {aM:Bool} (h:lB F a1 b2=some aM):
 aG Tryz.prog 21 [(.agg [(.str a1.av.au),(.str a1.av.domain),(.int .i64 a1.born),(.int .i64 a1.size),(.int .u32 a1.sum),(.sl .n 7 (ml aC a1.az))]),(.agg [(.str b2.av.au),(.str b2.av.domain),(.int .i64 b2.born),(.int .i64 b2.size),(.int .u32 b2.sum),(.sl .n 7 (ml aC b2.az))])] H0 fun v H'=>v=(.bool aM)∧H'=H0:=by
 refine ef Gp sL [] fun hcl K0 aP H hH hfr=> ?_
 clear hH
 have hle:=hfr.le
 rw [lB.eq_1] at h
 refine bV ?_
 obtain ⟨q4,yN⟩:∃q:Nat,(H.length+1)=q:=⟨_,rfl⟩
 try rw [yN]
 obtain ⟨q3,yB⟩:∃q:Nat,H.length=q:=⟨_,rfl⟩
 try rw [yB]
 try rw [show q3+1=q4 from by omega]
 refine cg ax (Ba (q3:=q3) (q4:=q4) (a1:=a1) (b2:=b2) (Fr.app (Fr.app hfr)) (ez jY) jY br br br ?_)
 intro H hfr ai aq
 have hle:=hfr.le
 have aU:=aL ai
 have cK:=aL aq
 refine aE (aB ai aq) ?_
 refine b7 h (fun bW h=> ?_) fun bW h=> ?_
 · refine aE (aB ai aq) ?_
   obtain rfl:=aK h
   exact aP _ _ _ bG (bp hfr hcl (bD bx (.bool false)) bB bt ⟨rfl,rfl⟩)
 · refine aE (aB ai aq) ?_
   obtain ⟨Eu,dh,h⟩:=ay h
   refine cg ax (Bb (q5:=q3) (q6:=q4) hfr (ai.trans rfl) (aq.trans rfl) br br br dh ?_ ?_)
   · rintro ⟨⟩ rfl H hfr ai aq
     try dsimp only at h ai aq
     have hle:=hfr.le
     have aU:=aL ai
     have cK:=aL aq
     refine aE (aB ai aq) ?_
     obtain rfl:=aK h
     exact aP _ _ _ bG (bp hfr hcl (bD bx (.bool true)) bB bt ⟨rfl,rfl⟩)
   · rintro gy rfl H hfr
     try dsimp only at h
     have hle:=hfr.le
     refine bV ?_
     obtain rfl:=aK h
     exact aP _ _ _ bG (bp hfr hcl (bD bx (.bool gy)) bB bt ⟨rfl,rfl⟩)
abbrev n7:aD:=(.rg [(aA 13 0),(aj 14 (.len (.t 13))),(aj 15 (.bin .gtr (.t 14) (.c (.int .i64 16384)))),(aA 16 15),(aF 17 (.ld (.t 4) (some 6)) 16 false),(aF 18 (.call (.c (.fn 8 [])) [(.t 17)]) 16 false),(aF 19 (.un .not (.t 18)) 16 false),(aj 20 (.pick (.t 16) (.c (.bool true)) (.t 19))),(aA 21 20),(aF 22 (.ld (.t 5) (some 6)) 21 false),(aF 23 (.call (.c (.fn 8 [])) [(.t 22)]) 21 false),(aF 24 (.un .not (.t 23)) 21 false),(aj 25 (.pick (.t 21) (.c (.bool true)) (.t 24)))])
abbrev n9:aD:=(.rg [(aj 36 (.lJ (.t 7) (some 6))),(aj 38 (.lJ (.t 9) (some 6))),(aj 37 (.call (.c (.fn 9 [])) [(.t 36)])),(aj 39 (.call (.c (.fn 21 [])) [(.t 37),(.t 38)])),(aA 40 39),(aF 41 (.mv (.t 8)) 40 true),(aF 42 (.mv (.t 10)) 40 true),(aF 43 (.bin .eql (.t 41) (.t 42)) 40 true),(aj 44 (.pick (.t 40) (.t 43) (.c (.bool false)))),(aA 45 44),(aF 46 (.lJ (.t 4) (some 6)) 45 true),(aF 47 (.lJ (.t 5) (some 6)) 45 true),(aF 49 (.lJ (.t 4) (some 6)) 45 true),(aF 51 (.lJ (.t 5) (some 6)) 45 true),(aF 48 (.call (.c (.fn 19 [])) [(.t 46),(.t 47)]) 45 true),(aF 50 (.call (.c (.fn 9 [])) [(.t 49)]) 45 true),(aF 52 (.call (.c (.fn 9 [])) [(.t 51)]) 45 true),(aF 53 (.call (.c (.fn 21 [])) [(.t 50),(.t 52)]) 45 true),(aF 54 (.bq false (.t 48) (.t 53)) 45 true),(aj 55 (.pick (.t 45) (.t 54) (.c (.bool false)))),(aA 56 55),(aF 57 (.lJ (.t 4) (some 6)) 56 true),(aF 58 (.lJ (.t 4) (some 6)) 56 true),(aF 59 (.call (.c (.fn 19 [])) [(.t 57),(.t 58)]) 56 true),(aj 60 (.pick (.t 56) (.t 59) (.c (.bool false)))),(bk 6 60)])
abbrev Bc:aD:=(.seq (.rg [(aj 4 (.box (.t 1))),(aj 5 (.box (.t 2))),(aj 6 (.aY (.c (.bool false))))]) (.seq (.seq (.rg [(aj 11 (.call (.c (.fn 7 [])) [])),(aj 12 (.un .not (.t 11)))]) (.cond (.t 12) (.seq (.rg [(aj 6 (.aY (.c (.bool false))))]) .ret) .skip)) (.seq (.seq (.sem (erase n7)) (.cond (.t 25) (.seq (.rg [(aj 6 (.aY (.c (.bool true))))]) .ret) .skip)) (.seq (.rg [(aA 27 0),(aj 28 (.call (.c (.fn 18 [])) [(.t 27)])),(aA 26 28),(aj 29 (.ext (.t 26) 0)),(aj 30 (.ext (.t 26) 1)),(aj 7 (.alloc [(.str []),(.str []),(.int .i64 0),(.int .i64 0),(.int .u32 0),(.sl .ex 7 [])])),(cZ (.st (.t 7) (.t 29) 6)),(bk 8 30)]) (.seq (.rg [(aA 32 0),(aj 33 (.call (.c (.fn 20 [])) [(.t 32)])),(aA 31 33),(aj 34 (.ext (.t 31) 0)),(aj 35 (.ext (.t 31) 1)),(aj 9 (.alloc [(.str []),(.str []),(.int .i64 0),(.int .i64 0),(.int .u32 0),(.sl .ex 7 [])])),(cZ (.st (.t 9) (.t 34) 6)),(bk 10 35)]) (.seq (.sem (erase n9)) .ret))))))
theorem Bd:bw Tryz.prog 4 61 [(.tmp 6)] (erase Bc):=⟨Tryz.f4,_,rfl,by decide,rfl,by kernel_rfl,rfl,rfl⟩
abbrev mB:List Nat:=[0,1,2,4,5,6,7,8,9,10,12,25]
def iu (F:Nat) (b1:List UInt8) (x2:ak) (y3:ak):Option (Bool):=
 (if (decide (16384<(b1.length:Int))) then
  some true
 else
  (kT F x2).bind fun r7=>
  (if (!r7) then
   some true
  else
   (kT F y3).bind fun r8=>some (!r8)))
def iw (F:Nat) (gy:ak) (kA:ak) (nN:Int) (kz:Int) (x2:ak) (y3:ak):Option (Bool):=
 (lg F gy).bind fun K8=>
 (lB F K8 kA).bind fun r16=>
 (if r16 then
  (if (decide (nN=kz)) then
   (lf F x2 y3).bind fun AK=>
   (lg F x2).bind fun mW=>
   (lg F y3).bind fun qT=>
   (lB F mW qT).bind fun VI=>
   (if (AK==VI) then
    (lf F x2 x2).bind fun KM=>some KM
   else
    some false)
  else
   some false)
 else
  some false)
def iH (F:Nat) (b1:List UInt8) (x2:ak) (y3:ak):Option (Bool):=
 (jD F).bind fun r4=>
 (if (!r4) then
  some false
 else
  (iu F b1 x2 y3).bind fun t10=>
  (if t10 then
   some true
  else
   (gX F b1).bind fun (gy,nN)=>
   (kD F b1).bind fun (kA,kz)=>
   (iw F gy kA nN kz x2 y3).bind fun t23=>
   some t23))
theorem vB {F:Nat} {b1:List UInt8} {x2:ak} {y3:ak} {q5:Nat} {q6:Nat} {H0 H:AH} (hfr:Fr H0 H0.length [] H) (ai:H[q5]? =some [(.str x2.av.au),(.str x2.av.domain),(.int .i64 x2.born),(.int .i64 x2.size),(.int .u32 x2.sum),(.sl .n 7 (ml aC x2.az))]) (aq:H[q6]? =some [(.str y3.av.au),(.str y3.av.domain),(.int .i64 y3.born),(.int .i64 y3.size),(.int .u32 y3.sum),(.sl .n 7 (ml aC y3.az))]) (eS:H0.length≤q5) (hi1:H0.length≤q6) (hi2:q5≠q6) {K:Exit→Env→AH→Prop} {t9:Bool}
 (h:iu F b1 x2 y3=some t9)
 (kn:∀H':AH,Fr H0 H0.length [] H'→H'[q5]? =some [(.str x2.av.au),(.str x2.av.domain),(.int .i64 x2.born),(.int .i64 x2.size),(.int .u32 x2.sum),(.sl .n 7 (ml aC x2.az))]→H'[q6]? =some [(.str y3.av.au),(.str y3.av.domain),(.int .i64 y3.born),(.int .i64 y3.size),(.int .u32 y3.sum),(.sl .n 7 (ml aC y3.az))]→K .normal [(0,(.sl .n 1 (ml b8 b1))),(4,(.ptr q5 0)),(5,(.ptr q6 0)),(25,(.bool t9))] H'):
 AX Tryz.prog mB 61 H0.length (erase n7) K [(0,(.sl .n 1 (ml b8 b1))),(4,(.ptr q5 0)),(5,(.ptr q6 0))] H:=by
 refine dz fun K' hK=> ?_
 have hle:=hfr.le
 have aU:=aL ai
 have cK:=aL aq
 rw [iu.eq_1] at h
 refine aE (aB ai aq) ?_
 refine cr h (fun bz h=> ?_) fun bz h=> ?_
 · refine aE (aB bz (aB ai aq)) ?_
   obtain rfl:=aK h
   exact hK _ _ _ _ _ aZ ax (kn _ hfr (ai.trans rfl) (aq.trans rfl))
 · refine aE (aB bz (aB ai aq)) ?_
   obtain ⟨r7,bu,h⟩:=ay h
   refine bg ax (sG bu) ?_
   refine aE (aB ai aq) ?_
   refine cr h (fun bW h=> ?_) fun bW h=> ?_
   · refine aE (aB bW (aB ai aq)) ?_
     obtain rfl:=aK h
     exact hK _ _ _ _ _ aZ ax (kn _ hfr (ai.trans rfl) (aq.trans rfl))
   · refine aE (aB bW (aB ai aq)) ?_
     obtain ⟨r8,cw,h⟩:=ay h
     refine bg ax (sG cw) ?_
     refine aE (aB ai aq) ?_
     obtain rfl:=aK h
     exact hK _ _ _ _ _ aZ ax (kn _ hfr (ai.trans rfl) (aq.trans rfl))
theorem vC {F:Nat} {gy:ak} {kA:ak} {nN:Int} {kz:Int} {x2:ak} {y3:ak} {H0 H:AH} (hfr:Fr H0 H0.length [] H) {K:Exit→Env→AH→Prop} {t22:Bool}
 (h:iw F gy kA nN kz x2 y3=some t22)
 (kn:∀H':AH,Fr H0 H0.length [] H'→K .normal [(6,(.bool t22))] H'):
 AX Tryz.prog mB 61 H0.length (erase n9) K [(4,(.ep (.agg [(.str x2.av.au),(.str x2.av.domain),(.int .i64 x2.born),(.int .i64 x2.size),(.int .u32 x2.sum),(.sl .n 7 (ml aC x2.az))]) 0)),(5,(.ep (.agg [(.str y3.av.au),(.str y3.av.domain),(.int .i64 y3.born),(.int .i64 y3.size),(.int .u32 y3.sum),(.sl .n 7 (ml aC y3.az))]) 0)),(7,(.ep (.agg [(.str gy.av.au),(.str gy.av.domain),(.int .i64 gy.born),(.int .i64 gy.size),(.int .u32 gy.sum),(.sl .n 7 (ml aC gy.az))]) 0)),(8,(.int .i64 nN)),(9,(.ep (.agg [(.str kA.av.au),(.str kA.av.domain),(.int .i64 kA.born),(.int .i64 kA.size),(.int .u32 kA.sum),(.sl .n 7 (ml aC kA.az))]) 0)),(10,(.int .i64 kz))] H:=by
 refine dz fun K' hK=> ?_
 have hle:=hfr.le
 rw [iw.eq_1] at h
 refine bV ?_
 obtain ⟨K8,cH,h⟩:=ay h
 refine bg ax (oU cH) ?_
 refine bV ?_
 obtain ⟨r16,eA,h⟩:=ay h
 refine bg ax (wS eA) ?_
 refine bV ?_
 refine cr h (fun di h=> ?_) fun di h=> ?_
 · refine aE di ?_
   refine cr h (fun gj h=> ?_) fun gj h=> ?_
   · refine aE gj ?_
     obtain ⟨AK,lW,h⟩:=ay h
     refine bg ax (oS lW) ?_
     refine bV ?_
     obtain ⟨mW,gl,h⟩:=ay h
     refine bg ax (oU gl) ?_
     refine bV ?_
     obtain ⟨qT,j7,h⟩:=ay h
     refine bg ax (oU j7) ?_
     refine bV ?_
     obtain ⟨VI,nP,h⟩:=ay h
     refine bg ax (wS nP) ?_
     refine bV ?_
     refine cr h (fun j9 h=> ?_) fun j9 h=> ?_
     · refine aE j9 ?_
       obtain ⟨KM,kf,h⟩:=ay h
       refine bg ax (oS kf) ?_
       refine bV ?_
       obtain rfl:=aK h
       exact hK _ _ _ _ _ aZ ax (kn _ hfr)
     · refine aE j9 ?_
       obtain rfl:=aK h
       exact hK _ _ _ _ _ aZ ax (kn _ hfr)
   · refine aE gj ?_
     obtain rfl:=aK h
     exact hK _ _ _ _ _ aZ ax (kn _ hfr)
 · refine aE di ?_
   obtain rfl:=aK h
   exact hK _ _ _ _ _ aZ ax (kn _ hfr)
theorem On {F:Nat} {b1:List UInt8} {x2:ak} {y3:ak} {H0:AH} {aM:Bool} (h:iH F b1 x2 y3=some aM):
 aG Tryz.prog 4 [(.sl .n 1 (ml b8 b1)),(.agg [(.str x2.av.au),(.str x2.av.domain),(.int .i64 x2.born),(.int .i64 x2.size),(.int .u32 x2.sum),(.sl .n 7 (ml aC x2.az))]),(.agg [(.str y3.av.au),(.str y3.av.domain),(.int .i64 y3.born),(.int .i64 y3.size),(.int .u32 y3.sum),(.sl .n 7 (ml aC y3.az))])] H0 fun v H'=>v=(.bool aM)∧H'=H0:=by
 refine ef Bd mB [] fun hcl K0 aP H hH hfr=> ?_
 clear hH
 have hle:=hfr.le
 rw [iH.eq_1] at h
 refine bV ?_
 obtain ⟨r4,hy1,h⟩:=ay h
 refine bg ax (uP hy1) ?_
 refine bV ?_
 refine b7 h (fun bf h=> ?_) fun bf h=> ?_
 · refine bV ?_
   obtain rfl:=aK h
   exact aP _ _ _ bG (bp (Fr.app (Fr.app hfr)) hcl (bD bx (.bool false)) bB bt ⟨rfl,rfl⟩)
 · refine bV ?_
   obtain ⟨q6,EI⟩:∃q:Nat,(H.length+1)=q:=⟨_,rfl⟩
   try rw [EI]
   obtain ⟨q5,N1⟩:∃q:Nat,H.length=q:=⟨_,rfl⟩
   try rw [N1]
   try rw [show q5+1=q6 from by omega]
   obtain ⟨t10,dB,h⟩:=ay h
   refine cg ax (vB (q5:=q5) (q6:=q6) (Fr.app (Fr.app hfr)) (ez jY) jY br br br dB ?_)
   intro H hfr ai aq
   have hle:=hfr.le
   have aU:=aL ai
   have cK:=aL aq
   refine aE (aB ai aq) ?_
   refine b7 h (fun dD h=> ?_) fun dD h=> ?_
   · refine aE (aB ai aq) ?_
     obtain rfl:=aK h
     exact aP _ _ _ bG (bp hfr hcl (bD bx (.bool true)) bB bt ⟨rfl,rfl⟩)
   · refine aE (aB ai aq) ?_
     obtain ⟨⟨gy,nN⟩,eE,h⟩:=ay h
     dsimp only at h
     refine bg ax (qf eE) ?_
     refine aE (aB ai aq) ?_
     obtain ⟨⟨kA,kz⟩,dh,h⟩:=ay h
     dsimp only at h
     refine bg ax (Cf dh) ?_
     refine aE (aB ai aq) ?_
     refine NR ?_
     apply AX.freeze (s:=H.length) (cs:=[(.str gy.av.au),(.str gy.av.domain),(.int .i64 gy.born),(.int .i64 gy.size),(.int .u32 gy.sum),(.sl .n 7 (ml aC gy.az))]) (by exact (aX (ez bL))) (cv.same (cv.same (cv.same (cv.same (cv.same (cv.same (cv.nil))))))) (by simp)
     · repeat (first|exact FZ.nil|apply FZ.ep|apply FZ.same)
     apply AX.freeze (s:=(H.length+1)) (cs:=[(.str kA.av.au),(.str kA.av.domain),(.int .i64 kA.born),(.int .i64 kA.size),(.int .u32 kA.sum),(.sl .n 7 (ml aC kA.az))]) (by exact (aX bL)) (cv.same (cv.same (cv.same (cv.same (cv.same (cv.same (cv.nil))))))) (by simp)
     · repeat (first|exact FZ.nil|apply FZ.ep|apply FZ.same)
     apply AX.freeze (s:=q5) (cs:=[(.str x2.av.au),(.str x2.av.domain),(.int .i64 x2.born),(.int .i64 x2.size),(.int .u32 x2.sum),(.sl .n 7 (ml aC x2.az))]) (by exact (aX (aX (aX (ez (aX (ez (ai.trans rfl)))))))) (cv.same (cv.same (cv.same (cv.same (cv.same (cv.same (cv.nil))))))) (by simp)
     · repeat (first|exact FZ.nil|apply FZ.ep|apply FZ.same)
     apply AX.freeze (s:=q6) (cs:=[(.str y3.av.au),(.str y3.av.domain),(.int .i64 y3.born),(.int .i64 y3.size),(.int .u32 y3.sum),(.sl .n 7 (ml aC y3.az))]) (by exact (aX (aX (aX (aX (ez (aX (ez (aq.trans rfl))))))))) (cv.same (cv.same (cv.same (cv.same (cv.same (cv.same (cv.nil))))))) (by simp)
     · repeat (first|exact FZ.nil|apply FZ.ep|apply FZ.same)
     refine Vv ?_
     obtain ⟨t23,p6,h⟩:=ay h
     refine cg ax (vC (bn _ (bn _ (bn _ (bn _ (bn _ (Fr.app (bn _ (Fr.app hfr)))))))) p6 ?_)
     intro H hfr
     have hle:=hfr.le
     refine bV ?_
     obtain rfl:=aK h
     exact aP _ _ _ bG (bp hfr hcl (bD bx (.bool t23)) bB bt ⟨rfl,rfl⟩)
end Go.Proofs.cL
end
section
set_option maxRecDepth 100000
namespace Go.Proofs.cL
open Go Go.Am Go.Proofs
def kW (b:List UInt8):List UInt8×Int:=
 if b.length<4 then ([],2) else if b.drop (b.length - 4)=cV (CF (b.take (b.length - 4))) then (b.take (b.length - 4),0) else ([],4)
theorem Cg {b:List UInt8}:b.drop (b.length - 4)=cV (CF (b.take (b.length - 4)))↔eJ (b.take (b.length - 4))=b:=by
 unfold eJ
 have h2:=List.take_append_drop (b.length - 4) b
 constructor
 · intro e
   rw [←e,h2]
 · intro e
   have:b.take (b.length - 4)++cV (CF (b.take (b.length - 4)))=b.take (b.length - 4)++b.drop (b.length - 4):=by rw [h2];exact e
   exact (List.append_cancel_left this).symm
theorem Ze {b:List UInt8} {F:Nat} (hb:b.length≤70000) (hF:100000<F):nU F b=some (kW b):=by
 unfold nU kW
 by_cases h:b.length<4
 · rw [if_pos (by rw [wr (by omega) (by omega)];simp;omega),if_pos h]
 · rw [if_neg (by rw [wr (by omega) (by omega)];simp;omega),if_neg h]
   have hw:IntKind.wrap .i64 ((b.length:Int) - 4)=((b.length - 4:Nat):Int):=by rw [wr (by omega) (by omega)];omega
   rw [hw,A2 (by omega),Option.bind_some,IY (by omega),Option.bind_some]
   unfold fL
   rw [tI (by simp;omega)]
   simp only [Option.bind_some]
   obtain ⟨v,r',f,o,g,c⟩:=Ce (r:=⟨b.drop (b.length - 4),0⟩) (F:=F) (by unfold mH;simp;omega) (by omega)
   rw [f];simp only [Option.bind_some]
   rw [Wn (by simp;omega) (by simp;omega)];simp only [Option.bind_some]
   obtain ⟨s1,s2⟩:=sum_nat (b.take (b.length - 4))
   rw [s1,wr (by omega) (by omega)]
   have hd:(b.drop (b.length - 4)).length=4:=by simp;omega
   have hlt:=A9 (b.drop (b.length - 4))
   rw [hd] at hlt
   have hv:=(c (val (b.drop (b.length - 4))) [] hlt ⟨rfl,by rw [LA hd];simp⟩).1
   by_cases e:v=CF (b.take (b.length - 4))
   · rw [if_neg (by simp [e]),if_pos (by rw [←e,hv,LA hd]),tI (by simp;omega)]
     rfl
   · rw [if_pos (by simp;omega),if_neg]
     intro h2
     apply e
     rw [hv,h2,Fh s2]
theorem Zf {b:List UInt8} {F:Nat} (hb:b.length≤70000) (hF:100000<F):qA F b=some (kW b):=by
 unfold qA kW
 by_cases h:b.length<4
 · rw [if_pos (by rw [wr (by omega) (by omega)];simp;omega),if_pos h]
 · rw [if_neg (by rw [wr (by omega) (by omega)];simp;omega),if_neg h]
   have hw:IntKind.wrap .i64 ((b.length:Int) - 4)=((b.length - 4:Nat):Int):=by rw [wr (by omega) (by omega)];omega
   rw [hw,IY (by omega),Option.bind_some,Pv (by simp;omega) (by simp;omega),Option.bind_some]
   by_cases e:eJ (b.take (b.length - 4))=b
   · rw [if_neg (by simp [e]),if_pos (Cg.2 e),cM (by simp;omega) (by omega)]
     rfl
   · rw [if_pos (by simp [e]),if_neg (fun h2=>e (Cg.1 h2))]
theorem CG (x:List UInt8):kW (eJ x)=(x,0):=by
 have hl:(eJ x).length=x.length+4:=by simp [eJ,cV]
 have ht:(eJ x).take ((eJ x).length - 4)=x:=by rw [hl];simp [eJ]
 unfold kW
 rw [if_neg (by omega),if_pos (Cg.2 (by rw [ht])),ht]
theorem Fi (b:List UInt8):(kW b).1.length≤b.length:=by
 unfold kW
 split
 · simp
 · split
   · simp
   · simp
def Wz:ak:=⟨⟨[],[]⟩,0,0,0,[]⟩
def mZ (e:ak):Prop:=0≤e.sum∧e.sum≤4294967295
def D (b:List UInt8) (e:ak) (v:Int):Prop:=
 ((kW b).2≠0→e=Wz∧v=(kW b).2)∧((kW b).2=0→((v=3∧e=Wz)∨(v=0∧fX e=true∧mZ e∧b=eJ (lu e))))∧
 ∀e',fX e'=true→mZ e'→b=eJ (lu e')→v=0∧e=e'
theorem abW {b:List UInt8} {e e':ak} {v v':Int} (h:D b e v) (h':D b e' v'):e=e'∧v=v':=by
 by_cases h0:(kW b).2=0
 · rcases h.2.1 h0 with ⟨a1,a2⟩|⟨a1,a2,a3,a4⟩
   · rcases h'.2.1 h0 with ⟨c1,c2⟩|⟨c1,c2,c3,c4⟩
     · rw [a1,a2,c1,c2];exact ⟨rfl,rfl⟩
     · obtain ⟨d1,d2⟩:=h.2.2 _ c2 c3 c4
       rw [d1,d2,c1];exact ⟨rfl,rfl⟩
   · obtain ⟨d1,d2⟩:=h'.2.2 _ a2 a3 a4
     rw [d1,d2,a1];exact ⟨rfl,rfl⟩
 · obtain ⟨a1,a2⟩:=h.1 h0
   obtain ⟨c1,c2⟩:=h'.1 h0
   rw [a1,a2,c1,c2];exact ⟨rfl,rfl⟩
theorem Be {e e':ak} (h1:e.av=e'.av) (h2:e.born=e'.born) (h3:e.size=e'.size) (h4:e.sum=e'.sum) (h5:e.az=e'.az):e=e':=by
 cases e;cases e';simp only at h1 h2 h3 h4 h5;subst h1 h2 h3 h4 h5;rfl
def Fj (r:aN):Bool:=decide (r.err=0)&&decide (r.b=[])
theorem abX (r:aN):∃v:Int,fz r=some v∧decide (v=0)=Fj r:=by
 unfold fz Fj
 by_cases h:r.err=0
 · by_cases h2:r.b=[]
   · exact ⟨r.err,by simp [h2],by simp [h,h2]⟩
   · have:0<r.b.length:=List.length_pos_iff.2 h2
     exact ⟨3,by rw [if_pos (by simp;omega)],by simp [h,h2]⟩
 · exact ⟨r.err,by simp [h],by simp [h]⟩
theorem abY {r:aN} {e:ak} {b:List UInt8} {F:Nat} (h:CE e) (hs:mZ e) (hF:200000<F):
 jm F r e b=some (!(Fj r&&(fX e&&decide (eJ (lu e)=b)))):=by
 obtain ⟨v,hv,hd⟩:=abX r
 unfold jm
 rw [hv]
 simp only [Option.bind_some]
 rw [hd,A8 h (by omega),Oi h hs hF]
 cases Fj r with
 |false=>rfl
 |true=>
  cases hb:fX e with
  |false=>rfl
  |true=>simp only [Bool.not_true,Bool.false_eq_true,if_false,if_true,Option.bind_some,bytes_Equal,Bool.true_and]
theorem WA {b:List UInt8} {F:Nat} (hb:b.length≤60000) (hF:200000<F):∃(e:ak) (v:Int),gX F b=some (e,v)∧D b e v:=by
 unfold gX
 rw [Ze (by omega) (by omega)]
 have hlen:=Fi b
 have Bl:=CG
 rcases hx:kW b with ⟨x,w⟩
 rw [hx] at hlen
 simp only [Option.bind_some]
 simp only at hlen
 by_cases hw:w=0
 · rw [if_neg (by simp [hw])]
   unfold fL
   rw [tI (by omega)]
   simp only [Option.bind_some]
   obtain ⟨v1,r1,f1,o1,g1,c1⟩:=Px (r:=⟨x,0⟩) (F:=F) (by unfold mH;simp;omega) (by omega)
   obtain ⟨a,r2,f2,o2,g2,c2⟩:=ZN o1 (F:=F) (by omega)
   obtain ⟨v3,r3,f3,o3,g3,c3⟩:=Ce o2 (F:=F) (by omega)
   obtain ⟨v4,r4,f4,o4,g4,c4⟩:=Ce o3 (F:=F) (by omega)
   obtain ⟨v5,r5,f5,o5,g5,c5⟩:=Ce o4 (F:=F) (by omega)
   obtain ⟨v6,r6,f6,o6,g6,c6⟩:=Px o5 (F:=F) (by omega)
   obtain ⟨r7,e7,f7,o7,⟨t1,t2,t3,t4⟩,l7,w7,c7⟩:=abV (n:=v6) (F:=F) (by omega) (by omega) v6 0 F r6 ⟨a,v3,v4,IntKind.wrap .u32 v5,[]⟩ (by omega) (by omega) o6 rfl (by simp)
   rw [f1];simp only [Option.bind_some]
   rw [f2];simp only [Option.bind_some]
   unfold l9
   rw [f3];simp only [Option.bind_some]
   rw [f4];simp only [Option.bind_some]
   rw [f5];simp only [Option.bind_some]
   rw [f6];simp only [Option.bind_some]
   rw [show (0:Int)=((0:Nat):Int) from rfl,f7]
   simp only [Option.bind_some]
   rw [GS g5] at t4
   simp only at t1 t2 t3 t4
   have WC:mZ e7:=by unfold mZ;rw [t4];omega
   rw [abY ⟨by omega,by rw [t1];exact g2,w7⟩ WC hF]
   simp only [Option.bind_some]
   have key:∀e',fX e'=true→mZ e'→b=eJ (lu e')→e7=e'∧Fj r7=true:=by
    intro e' hB hS hE
    rw [hE,Bl] at hx
    injection hx with hx1 hx2
    have Fg:=hB
    simp only [fX,ir,Bool.and_eq_true,decide_eq_true_eq] at Fg
    obtain ⟨k0,qH,hsi,k1,k2,k3⟩:=Fg
    have hS1:=hS.1;have hS2:=hS.2
    have R0:kC (aN.mk x 0) (fW 1++(gC e'.av.au++(gC e'.av.domain++(cV e'.born.toNat++(cV e'.size.toNat++(cV e'.sum.toNat++(fW e'.az.length++(gD e'.az++[])))))))):=⟨rfl,by rw [←hx1];simp [lu]⟩
    obtain ⟨q1,R1⟩:=c1 _ _ (by omega) R0
    obtain ⟨q2,R2⟩:=c2 _ _ k0 R1
    obtain ⟨q3,R3⟩:=c3 _ _ (by omega) R2
    obtain ⟨q4,R4⟩:=c4 _ _ (by omega) R3
    obtain ⟨q5,R5⟩:=c5 _ _ (by omega) R4
    obtain ⟨q6,R6⟩:=c6 _ _ (by omega) R5
    obtain ⟨q7,R7⟩:=c7 _ _ q6.symm k3 R6
    refine ⟨Be (by rw [t1,q2]) (by rw [t2];omega) (by rw [t3];omega) (by rw [t4];omega) (by rw [q7];simp), ?_⟩
    unfold Fj
    rw [R7.1,R7.2];rfl
   cases kY:(Fj r7&&(fX e7&&decide (eJ (lu e7)=b))) with
   |true=>
    simp only [Bool.not_true,Bool.false_eq_true,if_false]
    simp only [Bool.and_eq_true,decide_eq_true_eq] at kY
    refine ⟨_,_,rfl,fun h=>absurd hw (by simpa [hx] using h),fun _=> .inr ⟨rfl,kY.2.1,WC,kY.2.2.symm⟩,fun e' h1 h2 h3=>⟨rfl,(key e' h1 h2 h3).1⟩⟩
   |false=>
    simp only [Bool.not_false,if_true]
    refine ⟨_,_,rfl,fun h=>absurd hw (by simpa [hx] using h),fun _=> .inl ⟨rfl,rfl⟩,fun e' h1 h2 h3=> ?_⟩
    exfalso
    obtain ⟨m1,m2⟩:=key e' h1 h2 h3
    subst m1
    rw [m2,h1, ←h3] at kY
    simp at kY
 · rw [if_pos (by simpa using hw)]
   refine ⟨_,_,rfl,fun _=>⟨rfl,by rw [hx]⟩,fun h=>absurd (by simpa [hx] using h) hw,fun e' h1 h2 h3=> ?_⟩
   exfalso
   rw [h3,Bl] at hx
   injection hx with hx1 hx2
   exact hw hx2.symm
end Go.Proofs.cL
end
section
set_option maxRecDepth 100000
namespace Go.Proofs.cL
open Go Go.Am Go.Proofs
def sM (r:aO):Prop:=r.b.length≤70000∧0≤r.ei∧r.ei≤r.b.length
def mC (r:aO) (l:List UInt8):Prop:=r.err=0∧r.b.drop r.ei.toNat=l
theorem Zg {c:UInt8} {n:Nat} (h:n<4294967296):JN .i64 (shl .i64 (n:Int) 8) (IntKind.wrap .i64 (c.toNat:Int))=((c.toNat+256*n:Nat):Int):=by
 have hc:=c.toNat_lt
 have hs:shl .i64 (n:Int) 8=((n*2 ^ 8:Nat):Int):=by
  unfold shl
  rw [show min (8:Int).toNat (IntKind.i64).bits=8 by decide,show ((n:Int)*2 ^ 8)=((n*2 ^ 8:Nat):Int) by simp,wr (by omega) (by omega)]
 rw [hs,wr (by omega) (by omega),Lw (by omega) (by omega),Nat.or_comm,Pw (by omega)]
 congr 1
 omega
theorem Zh {b:List UInt8} {a k:Nat} {r:aO} (hb:r.b=b) (ha:r.ei=(a:Int)) (hk:k≤4) (hl:a+k≤b.length) (zW:b.length≤70000):∀(j G:Nat),j≤k→j<G→
 iter (cR r) G (((val ((b.drop (a+j)).take (k - j)):Nat):Int),(j:Int) - 1)=some (.inr ((val ((b.drop a).take k):Nat):Int)):=by
 intro j
 induction j with
 |zero=>
  intro G hj hG
  obtain ⟨G,rfl⟩:=cJ hG
  refine dw ?_
  simp only [cR]
  rw [if_neg (by simp)]
  simp
 |succ j ih=>
  intro G hj hG
  obtain ⟨G,rfl⟩:=cJ hG
  have hlt:a+j<b.length:=by omega
  have hc:b[a+j]? =some b[a+j]:=List.getElem?_eq_getElem hlt
  have hv:val ((b.drop (a+j)).take (k - j))=b[a+j].toNat+256*val ((b.drop (a+(j+1))).take (k - (j+1))):=by
   rw [List.drop_eq_getElem_cons hlt,show k - j=(k - (j+1))+1 by omega,List.take_succ_cons,val]
   rfl
  have DQ:val ((b.drop (a+(j+1))).take (k - (j+1)))<4294967296:=by
   refine Nat.lt_of_lt_of_le (A9 _) ?_
   refine Nat.le_trans (Nat.pow_le_pow_right (by decide) (show _≤4 by simp;omega)) (by decide)
  have CI:cR r (((val ((b.drop (a+(j+1))).take (k - (j+1))):Nat):Int),((j+1:Nat):Int) - 1)=some (.cT (((val ((b.drop (a+j)).take (k - j)):Nat):Int),(j:Int) - 1)):=by
   simp only [cR]
   rw [if_pos (by simp),hb,ha,wr (by omega) (by omega),show (a:Int)+(((j+1:Nat):Int) - 1)=((a+j:Nat):Int) by omega,bM hc]
   simp only [Option.bind_some]
   rw [Zg DQ, ←hv,wr (by omega) (by omega)]
   first
    |done
    |(congr 3;omega)
  rw [cO CI]
  exact ih G (by omega) (by omega)
theorem WD {r:aO} {F k:Nat} (hr:sM r) (hk:k≤4) (hF:10<F):∃(v:Nat) (r':aO),bF F r (k:Int)=some ((v:Int),r')∧sM r'∧v<256 ^ k∧
 ∀x rest:List UInt8,x.length=k→mC r (x++rest)→v=val x∧mC r' rest:=by
 obtain ⟨h1,h2,h3⟩:=hr
 obtain ⟨a,ha⟩:∃a:Nat,r.ei=(a:Int):=⟨r.ei.toNat,by omega⟩
 unfold bF
 by_cases he:r.err=0
 · rw [if_neg (by simpa using he),wr (by omega) (by omega)]
   by_cases hs:(r.b.length:Int) - r.ei<k
   · rw [if_pos (by simpa using hs)]
     refine ⟨0,_,rfl,⟨h1,h2,h3⟩,Nat.pow_pos (by decide),fun x rest hx hR=> ?_⟩
     exfalso
     have:=congrArg List.length hR.2
     simp [hx] at this
     omega
   · rw [if_neg (by simpa using hs),wr (by omega) (by omega)]
     have:=Zh (r:=r) (b:=r.b) (a:=a) (k:=k) rfl ha hk (by omega) h1 k F (by omega) (by omega)
     rw [Nat.sub_self,List.take_zero] at this
     rw [show ((0:Int),(k:Int) - 1)=(((val []:Nat):Int),(k:Int) - 1) from rfl,this]
     simp only [Option.bind_some]
     rw [wr (by omega) (by omega)]
     refine ⟨_,_,rfl,⟨h1,by simp only;omega,by simp only;omega⟩, ?_,fun x rest hx hR=> ?_⟩
     · exact Nat.lt_of_lt_of_le (A9 _) (Nat.pow_le_pow_right (by decide) (by simp;omega))
     · have hd:=hR.2
       rw [ha] at hd
       simp only [Int.toNat_natCast] at hd
       subst hx
       refine ⟨by rw [hd];simp,hR.1, ?_⟩
       simp only
       rw [ha,show ((a:Int)+(x.length:Int)).toNat=a+x.length by omega, ←List.drop_drop,hd]
       simp
 · rw [if_pos (by simpa using he)]
   exact ⟨0,_,rfl,⟨h1,h2,h3⟩,Nat.pow_pos (by decide),fun x rest hx hR=>absurd hR.1 he⟩
theorem Py {r:aO} {F:Nat} (hr:sM r) (hF:10<F):∃(v:Nat) (r':aO),bF F r 1=some ((v:Int),r')∧sM r'∧v<256∧
 ∀(n:Nat) (rest:List UInt8),n<256→mC r (fW n++rest)→v=n∧mC r' rest:=by
 obtain ⟨v,r',h,h1,h2,h3⟩:=WD (k:=1) hr (by omega) hF
 refine ⟨v,r',h,h1,h2,fun n rest hn hR=> ?_⟩
 obtain ⟨e1,e2⟩:=h3 _ _ rfl hR
 exact ⟨by rw [e1,Ly hn],e2⟩
theorem abZ {r:aO} {F:Nat} (hr:sM r) (hF:10<F):∃(v:Nat) (r':aO),bF F r 2=some ((v:Int),r')∧sM r'∧v<65536∧
 ∀(n:Nat) (rest:List UInt8),n<65536→mC r (Fb n++rest)→v=n∧mC r' rest:=by
 obtain ⟨v,r',h,h1,h2,h3⟩:=WD (k:=2) hr (by omega) hF
 refine ⟨v,r',h,h1,h2,fun n rest hn hR=> ?_⟩
 obtain ⟨e1,e2⟩:=h3 _ _ rfl hR
 exact ⟨by rw [e1,Lz hn],e2⟩
theorem Fk {r:aO} {F:Nat} (hr:sM r) (hF:10<F):∃(v:Nat) (r':aO),bF F r 4=some ((v:Int),r')∧sM r'∧v<4294967296∧
 ∀(n:Nat) (rest:List UInt8),n<4294967296→mC r (cV n++rest)→v=n∧mC r' rest:=by
 obtain ⟨v,r',h,h1,h2,h3⟩:=WD (k:=4) hr (by omega) hF
 refine ⟨v,r',h,h1,h2,fun n rest hn hR=> ?_⟩
 obtain ⟨e1,e2⟩:=h3 _ _ rfl hR
 exact ⟨by rw [e1,Fh hn],e2⟩
theorem ZO {r:aO} {k:Nat} (hr:sM r) (hk:k<4294967296):∃(s:List UInt8) (r':aO),fR r (k:Int)=some (s,r')∧sM r'∧s.length≤70000∧
 ∀x rest:List UInt8,x.length=k→mC r (x++rest)→s=x∧mC r' rest:=by
 obtain ⟨h1,h2,h3⟩:=hr
 obtain ⟨a,ha⟩:∃a:Nat,r.ei=(a:Int):=⟨r.ei.toNat,by omega⟩
 unfold fR
 by_cases he:r.err=0
 · rw [if_neg (by simpa using he),if_neg (by simp),wr (by omega) (by omega)]
   by_cases hs:(r.b.length:Int) - r.ei<k
   · rw [if_pos (by simpa using hs)]
     refine ⟨_,_,rfl,⟨h1,h2,h3⟩,by simp,fun x rest hx hR=> ?_⟩
     exfalso
     have:=congrArg List.length hR.2
     simp [hx] at this
     omega
   · rw [if_neg (by simpa using hs),wr (n:=r.ei+(k:Int)) (by omega) (by omega),wr (by omega) (by omega),show r.ei+(k:Int) - (k:Int)=((a:Nat):Int) by omega,show r.ei+(k:Int)=((a+k:Nat):Int) by omega,uk (by omega) (by omega),Option.bind_some,cM (by simp;omega) (by omega)]
     simp only [Option.bind_some,List.nil_append]
     refine ⟨_,_,rfl,⟨h1,by simp only;omega,by simp only;omega⟩,by simp only [List.length_drop,List.length_take];omega,fun x rest hx hR=> ?_⟩
     have hd:=hR.2
     rw [ha] at hd
     simp only [Int.toNat_natCast] at hd
     subst hx
     refine ⟨?_,hR.1, ?_⟩
     · rw [←List.take_drop,hd];simp
     · simp only
       rw [show ((a+x.length:Nat):Int).toNat=a+x.length by omega, ←List.drop_drop,hd]
       simp
 · rw [if_pos (by simpa using he)]
   exact ⟨_,_,rfl,⟨h1,h2,h3⟩,by simp,fun x rest hx hR=>absurd hR.1 he⟩
theorem WI {r:aO} {F:Nat} (hr:sM r) (hF:10<F):∃(s:List UInt8) (r':aO),dI F r 65536=some (s,r')∧sM r'∧s.length≤70000∧
 ∀t rest:List UInt8,t.length≤256→mC r (gC t++rest)→s=t∧mC r' rest:=by
 obtain ⟨v,r1,h,h1,h2,h3⟩:=Fk hr hF
 unfold dI
 rw [h]
 simp only [Option.bind_some]
 unfold fV
 cases hc:(decide (r1.err=0)&&decide ((65536:Int)<(v:Int))) with
 |true=>
  simp only [if_true,Option.bind_some]
  have ho:sM (aO.mk r1.b r1.ei 5):=h1
  obtain ⟨s,r2,k,k1,k2,k3⟩:=ZO ho h2
  rw [k]
  refine ⟨_,_,rfl,k1,k2,fun t rest ht hR=> ?_⟩
  obtain ⟨e1,e2⟩:=h3 t.length (t++rest) (by omega) (by rw [gC,List.append_assoc] at hR;exact hR)
  simp only [Bool.and_eq_true,decide_eq_true_eq] at hc
  omega
 |false=>
  simp only [Bool.false_eq_true,if_false,Option.bind_some]
  obtain ⟨s,r2,k,k1,k2,k3⟩:=ZO h1 h2
  rw [k]
  refine ⟨_,_,rfl,k1,k2,fun t rest ht hR=> ?_⟩
  obtain ⟨e1,e2⟩:=h3 t.length (t++rest) (by omega) (by rw [gC,List.append_assoc] at hR;exact hR)
  exact k3 t rest e1.symm e2
theorem ZP {r:aO} {F:Nat} (hr:sM r) (hF:10<F):∃(a:aJ) (r':aO),iO F r=some (a,r')∧sM r'∧tH a∧
 ∀(a':aJ) (rest:List UInt8),dP a'=true→mC r (gC a'.au++(gC a'.domain++rest))→a=a'∧mC r' rest:=by
 obtain ⟨l,r1,h,h1,h2,h3⟩:=WI hr hF
 obtain ⟨d,r2,k,k1,k2,k3⟩:=WI h1 hF
 refine ⟨⟨l,d⟩,r2, ?_,k1,⟨h2,k2⟩,fun a' rest hB hR=> ?_⟩
 · unfold iO;rw [h];simp only [Option.bind_some];rw [k];rfl
 · have hb:=tight hB
   obtain ⟨e1,e2⟩:=h3 _ _ (by omega) hR
   obtain ⟨e3,e4⟩:=k3 _ _ (by omega) e2
   subst e1 e3
   exact ⟨rfl,e4⟩
theorem aed {r:aO} {e:ak} {F i n:Nat} (hr:sM r) (hF:10<F) (hi:i<n) (he:r.err=0) (hn:n≤255) (hl:e.az.length≤1000):
 ∃(c:bl) (r':aO),dO F (n:Int) ((i:Int),r,e)=some (.cT (((i+1:Nat):Int),r',⟨e.av,e.born,e.size,e.sum,e.az++[c]⟩))∧sM r'∧tH c.ct∧
 ∀(c':bl) (rest:List UInt8),lI c'=true→mC r (zE c'++rest)→c=c'∧mC r' rest:=by
 obtain ⟨a,r1,f1,o1,g1,c1⟩:=ZP hr hF
 obtain ⟨v2,r2,f2,o2,g2,c2⟩:=Py o1 hF
 obtain ⟨v3,r3,f3,o3,g3,c3⟩:=Py o2 hF
 obtain ⟨v4,r4,f4,o4,g4,c4⟩:=Fk o3 hF
 obtain ⟨v5,r5,f5,o5,g5,c5⟩:=abZ o4 hF
 obtain ⟨w,r6,f6,o6,g6,c6⟩:=WI o5 hF
 refine ⟨⟨a,v2,v3,v4,v5,w⟩,r6, ?_,o6,g1,fun c' rest hB hR=> ?_⟩
 · simp only [dO]
   rw [if_pos (by simp [hi,he]),f1]
   simp only [Option.bind_some]
   rw [f2];simp only [Option.bind_some]
   rw [f3];simp only [Option.bind_some]
   rw [f4];simp only [Option.bind_some]
   rw [f5];simp only [Option.bind_some]
   rw [f6];simp only [Option.bind_some]
   rw [cM (by simp;omega) (by omega)]
   simp only [Option.bind_some]
   rw [vv (by omega)]
 · simp only [lI,ir,Bool.and_eq_true,Bool.or_eq_true,decide_eq_true_eq] at hB
   obtain ⟨hc,hB, -,hs,ht,hn,hw⟩:=hB
   simp only [zE,List.append_assoc] at hR
   obtain ⟨e1,k1⟩:=c1 _ _ hB hR
   obtain ⟨e2,k2⟩:=c2 _ _ (by omega) k1
   obtain ⟨e3,k3⟩:=c3 _ _ (by omega) k2
   obtain ⟨e4,k4⟩:=c4 _ _ (by omega) k3
   obtain ⟨e5,k5⟩:=c5 _ _ (by omega) k4
   obtain ⟨e6,k6⟩:=c6 _ _ (by omega) k5
   refine ⟨?_,k6⟩
   rcases c' with ⟨a',s',t',n',q',w'⟩
   simp only at e1 e2 e3 e4 e5 e6 hs ht hn hc
   subst e1 e6
   congr 1<;>omega
theorem ab0 {n F:Nat} (hn:n≤255) (hF:10<F):∀(k i G:Nat) (r:aO) (e:ak),i+k=n→k<G→sM r→e.az.length=i→(∀c∈e.az,tH c.ct)→
 ∃(r':aO) (e':ak),iter (dO F (n:Int)) G ((i:Int),r,e)=some (.inr (r',e'))∧sM r'∧(e'.av=e.av∧e'.born=e.born∧e'.size=e.size∧e'.sum=e.sum)∧e'.az.length≤255∧(∀c∈e'.az,tH c.ct)∧
 ∀(l:List bl) (rest:List UInt8),l.length=k→l.all lI=true→mC r (gD l++rest)→e'.az=e.az++l∧mC r' rest:=by
 intro k
 induction k with
 |zero=>
  intro i G r e hi hG hr hl hf
  obtain ⟨G,rfl⟩:=cJ hG
  refine ⟨r,e,dw ?_,hr,⟨rfl,rfl,rfl,rfl⟩,by omega,hf,fun l rest h0 _ hR=> ?_⟩
  · simp only [dO]
    rw [if_neg (by simp;omega)]
  · obtain rfl:=List.eq_nil_of_length_eq_zero h0
    exact ⟨by simp,hR⟩
 |succ k ih=>
  intro i G r e hi hG hr hl hf
  obtain ⟨G,rfl⟩:=cJ hG
  by_cases he:r.err=0
  · obtain ⟨c,r1,f1,o1,g1,c1⟩:=aed (i:=i) (n:=n) (e:=e) hr hF (by omega) he hn (by omega)
    obtain ⟨r2,e2,f2,o2,g2,l2,w2,c2⟩:=ih (i+1) G r1 ⟨e.av,e.born,e.size,e.sum,e.az++[c]⟩ (by omega) (by omega) o1 (by simp;omega) (by
     intro x hx
     rcases List.mem_append.1 hx with h|h
     · exact hf x h
     · rw [List.mem_singleton.1 h];exact g1)
    refine ⟨r2,e2,by rw [cO f1,f2],o2,g2,l2,w2,fun l rest h0 hB hR=> ?_⟩
    match l,h0 with
    |c'::l,h0=>
     simp only [List.all_cons,Bool.and_eq_true] at hB
     simp only [gD,List.append_assoc] at hR
     obtain ⟨e1,k1⟩:=c1 _ _ hB.1 hR
     obtain ⟨e3,k3⟩:=c2 l rest (by simpa using h0) hB.2 k1
     subst e1
     exact ⟨by rw [e3];simp,k3⟩
  · refine ⟨r,e,dw ?_,hr,⟨rfl,rfl,rfl,rfl⟩,by omega,hf,fun l rest h0 _ hR=>absurd hR.1 he⟩
    simp only [dO]
    rw [if_neg (by simp [he])]
def Fl (r:aO):Bool:=decide (r.err=0)&&decide (r.b.drop r.ei.toNat=[])
theorem ab1 {r:aO} (hr:sM r):∃(v:Int) (r':aO),gS r=some (v,r')∧decide (v=0)=Fl r:=by
 obtain ⟨h1,h2,h3⟩:=hr
 unfold gS Fl
 by_cases h:r.err=0
 · by_cases h4:r.b.drop r.ei.toNat=[]
   · have:=List.drop_eq_nil_iff.1 h4
     exact ⟨r.err,r,by rw [if_neg (by simp;omega)],by simp [h,h4]⟩
   · have:¬r.b.length≤r.ei.toNat:=fun hh=>h4 (List.drop_eq_nil_iff.2 hh)
     exact ⟨3,_,by rw [if_pos (by simp;omega)],by simp [h,h4]⟩
 · exact ⟨r.err,r,by simp [h],by simp [h]⟩
theorem ab2 {r:aO} {e:ak} {b:List UInt8} {F v:Nat} (hr:sM r) (h:CE e) (hs:mZ e) (hF:200000<F):
 ∃r':aO,gT F (v:Int) r e b=some (!(decide (v=1)&&(Fl r&&(fX e&&decide (eJ (lu e)=b)))),r'):=by
 obtain ⟨w,r',hv,hd⟩:=ab1 hr
 unfold gT
 rw [hv]
 by_cases hv1:v=1
 · rw [if_neg (by simp [hv1])]
   simp only [Option.bind_some]
   rw [hd,Cc h (by omega),Wu h hs hF]
   refine ⟨r', ?_⟩
   cases Fl r with
   |false=>simp [hv1]
   |true=>
    cases hb:fX e with
    |false=>simp [hv1]
    |true=>simp [hv1]
 · rw [if_pos (by simp;omega)]
   exact ⟨r,by simp [hv1]⟩
theorem ab3 {b:List UInt8} {F:Nat} (hb:b.length≤60000) (hF:200000<F):∃(e:ak) (v:Int),kD F b=some (e,v)∧D b e v:=by
 unfold kD
 rw [Zf (by omega) (by omega)]
 have hlen:=Fi b
 have Bl:=CG
 rcases hx:kW b with ⟨x,w⟩
 rw [hx] at hlen
 simp only [Option.bind_some]
 simp only at hlen
 by_cases hw:w=0
 · rw [if_neg (by simp [hw])]
   obtain ⟨v1,r1,f1,o1,g1,c1⟩:=Py (r:=⟨x,0,0⟩) (F:=F) ⟨by simp only;omega,by simp,by simp⟩ (by omega)
   obtain ⟨a,r2,f2,o2,g2,c2⟩:=ZP o1 (F:=F) (by omega)
   obtain ⟨v3,r3,f3,o3,g3,c3⟩:=Fk o2 (F:=F) (by omega)
   obtain ⟨v4,r4,f4,o4,g4,c4⟩:=Fk o3 (F:=F) (by omega)
   obtain ⟨v5,r5,f5,o5,g5,c5⟩:=Fk o4 (F:=F) (by omega)
   obtain ⟨v6,r6,f6,o6,g6,c6⟩:=Py o5 (F:=F) (by omega)
   obtain ⟨r7,e7,f7,o7,⟨t1,t2,t3,t4⟩,l7,w7,c7⟩:=ab0 (n:=v6) (F:=F) (by omega) (by omega) v6 0 F r6 ⟨a,v3,v4,IntKind.wrap .u32 v5,[]⟩ (by omega) (by omega) o6 rfl (by simp)
   rw [f1];simp only [Option.bind_some]
   rw [f2];simp only [Option.bind_some]
   rw [f3];simp only [Option.bind_some]
   rw [f4];simp only [Option.bind_some]
   rw [f5];simp only [Option.bind_some]
   rw [f6];simp only [Option.bind_some]
   rw [show (0:Int)=((0:Nat):Int) from rfl,f7]
   simp only [Option.bind_some]
   rw [GS g5] at t4
   simp only at t1 t2 t3 t4
   have WC:mZ e7:=by unfold mZ;rw [t4];omega
   obtain ⟨r8,hr8⟩:=ab2 (r:=r7) (e:=e7) (b:=b) (v:=v1) o7 ⟨by omega,by rw [t1];exact g2,w7⟩ WC hF
   rw [hr8]
   simp only [Option.bind_some]
   have key:∀e',fX e'=true→mZ e'→b=eJ (lu e')→v1=1∧e7=e'∧Fl r7=true:=by
    intro e' hB hS hE
    rw [hE,Bl] at hx
    injection hx with hx1 hx2
    have Fg:=hB
    simp only [fX,ir,Bool.and_eq_true,decide_eq_true_eq] at Fg
    obtain ⟨k0,qH,hsi,k1,k2,k3⟩:=Fg
    have hS1:=hS.1;have hS2:=hS.2
    have R0:mC (aO.mk x 0 0) (fW 1++(gC e'.av.au++(gC e'.av.domain++(cV e'.born.toNat++(cV e'.size.toNat++(cV e'.sum.toNat++(fW e'.az.length++(gD e'.az++[])))))))):=⟨rfl,by rw [←hx1];simp [lu]⟩
    obtain ⟨q1,R1⟩:=c1 _ _ (by omega) R0
    obtain ⟨q2,R2⟩:=c2 _ _ k0 R1
    obtain ⟨q3,R3⟩:=c3 _ _ (by omega) R2
    obtain ⟨q4,R4⟩:=c4 _ _ (by omega) R3
    obtain ⟨q5,R5⟩:=c5 _ _ (by omega) R4
    obtain ⟨q6,R6⟩:=c6 _ _ (by omega) R5
    obtain ⟨q7,R7⟩:=c7 _ _ q6.symm k3 R6
    refine ⟨q1,Be (by rw [t1,q2]) (by rw [t2];omega) (by rw [t3];omega) (by rw [t4];omega) (by rw [q7];simp), ?_⟩
    unfold Fl
    rw [R7.1,R7.2];rfl
   cases kY:(decide (v1=1)&&(Fl r7&&(fX e7&&decide (eJ (lu e7)=b)))) with
   |true=>
    simp only [Bool.not_true,Bool.false_eq_true,if_false]
    simp only [Bool.and_eq_true,decide_eq_true_eq] at kY
    refine ⟨_,_,rfl,fun h=>absurd hw (by simpa [hx] using h),fun _=> .inr ⟨rfl,kY.2.2.1,WC,kY.2.2.2.symm⟩,fun e' h1 h2 h3=>⟨rfl,(key e' h1 h2 h3).2.1⟩⟩
   |false=>
    simp only [Bool.not_false,if_true]
    refine ⟨_,_,rfl,fun h=>absurd hw (by simpa [hx] using h),fun _=> .inl ⟨rfl,rfl⟩,fun e' h1 h2 h3=> ?_⟩
    exfalso
    obtain ⟨m0,m1,m2⟩:=key e' h1 h2 h3
    subst m1
    rw [m0,m2,h1, ←h3] at kY
    simp at kY
 · rw [if_pos (by simpa using hw)]
   refine ⟨_,_,rfl,fun _=>⟨rfl,by rw [hx]⟩,fun h=>absurd (by simpa [hx] using h) hw,fun e' h1 h2 h3=> ?_⟩
   exfalso
   rw [h3,Bl] at hx
   injection hx with hx1 hx2
   exact hw hx2.symm
end Go.Proofs.cL
end
section
set_option maxRecDepth 100000
namespace Go.Proofs.cL
open Go Go.Am Go.Proofs
open Nat renaming reduceEqDiff→nA,reduceLT→nB,reduceLeDiff→nC,reduceAdd→nD,reduceSub→nE,reduceMul→nF,reduceBEq→nG
set_option maxHeartbeats 2000000
abbrev uZ:aD:=(.rg [(aj 20 (.aV (.t 7) 2)),(aj 21 (.ld (.t 20) none)),(aj 22 (.bin .eql (.t 21) (.c (.int .i64 1)))),(aA 23 22),(aF 24 (.mv (.t 5)) 23 true),(aF 25 (.un .not (.t 24)) 23 true),(aF 26 (.mv (.t 25)) 23 true),(aF 27 (.aV (.t 7) 4) 26 false),(aF 28 (.ld (.t 27) none) 26 false),(aF 29 (.mv (.t 4)) 26 false),(aF 30 (.bin .lss (.t 28) (.t 29)) 26 false),(aF 31 (.pick (.t 26) (.c (.bool true)) (.t 30)) 23 true),(aj 32 (.pick (.t 23) (.t 31) (.c (.bool false))))])
abbrev tL:aD:=(.seq (.seq (.rg [(aA 8 6),(aj 9 (.aV (.t 1) 5)),(aj 10 (.ld (.t 9) none)),(aj 11 (.len (.t 10))),(aj 12 (.bin .lss (.t 8) (.t 11)))]) (.cond (.t 12) .skip (.exit 0))) (.seq (.blk 1 (.seq (.rg [(aj 15 (.aV (.t 1) 5)),(aj 16 (.ld (.t 15) none)),(aA 17 6),(aj 18 (.lC 7 (.t 16) (.t 17))),(aj 19 (.ld (.t 18) (some 7))),(aj 7 (.alloc [(.str []),(.str []),(.int .i64 0),(.int .i64 0),(.int .i64 0),(.int .i64 0),(.str [])])),(cZ (.st (.t 7) (.t 19) 7))]) (.seq (.sem (erase uZ)) (.cond (.t 32) (.seq (.rg [(aj 33 (.aV (.t 7) 4)),(aj 34 (.ld (.t 33) none)),(bk 4 34)]) (.rg [(aj 5 (.aY (.c (.bool true))))])) .skip)))) (.rg [(aA 13 6),(aj 14 (.bin .add (.t 13) (.c (.int .i64 1)))),(bk 6 14)])))
abbrev I8:aD:=(.seq (.rg [(aj 1 (.box (.t 0))),(aj 2 (.aY (.c (.int .i64 0)))),(aj 3 (.aY (.c (.bool false))))]) (.seq (.rg [(aj 4 (.aY (.c (.int .i64 0))))]) (.seq (.rg [(aj 5 (.aY (.c (.bool false))))]) (.seq (.seq (.rg [(aj 6 (.aY (.c (.int .i64 0))))]) (.blk 0 (.loop (erase tL)))) (.seq (.rg [(aA 35 4),(aA 36 5),(bk 2 35),(bk 3 36)]) .ret)))))
theorem I9:bw Tryz.prog 12 37 [(.tmp 2),(.tmp 3)] (erase I8):=⟨Tryz.f12,_,rfl,by decide,rfl,by kernel_rfl,rfl,rfl⟩
abbrev uy:List Nat:=[0,1,2,3,4,5,6,7,12,32]
def sN (e1:ak):(Int×Bool×Int)→Option (St (Int×Bool) (Int×Bool) (Int×Bool×Int))
 |(t3,zH,i5)=>
  (if (decide (i5<(e1.az.length:Int))) then
   (idx e1.az i5).bind fun x6=>
   (if ((decide (x6.state=1))&&((!zH)||(decide (x6.next<t3)))) then
    some (.cT (x6.next,true,(IntKind.wrap .i64 (i5+1))))
   else
    some (.cT (t3,zH,(IntKind.wrap .i64 (i5+1)))))
  else
   some (.fI (t3,zH)))
def uz (F:Nat) (e1:ak):Option (Int×Bool):=
 ((iter (sN e1) F (0,false,0)).bind fun KZ=>
 match KZ with
 | .inr (t11,WJ)=>
   some (t11,WJ)
 | .inl _=>none)
theorem Ch {q7:Nat} {t3:Int} {zH:Bool} {i5:Int} {q8:Nat} {e1:ak} {x6:bl} {H0 H:AH} (hfr:Fr H0 H0.length [] H) (ai:H[q7]? =some [(.str e1.av.au),(.str e1.av.domain),(.int .i64 e1.born),(.int .i64 e1.size),(.int .u32 e1.sum),(.sl .n 7 (ml aC e1.az))]) (aq:H[q8]? =some [(.str x6.ct.au),(.str x6.ct.domain),(.int .i64 x6.state),(.int .i64 x6.tries),(.int .i64 x6.next),(.int .i64 x6.code),(.str x6.why)]) (eS:H0.length≤q7) (hi1:H0.length≤q8) (hi2:q7≠q8) {K:Exit→Env→AH→Prop}
 (kn:∀H':AH,Fr H0 H0.length [] H'→H'[q7]? =some [(.str e1.av.au),(.str e1.av.domain),(.int .i64 e1.born),(.int .i64 e1.size),(.int .u32 e1.sum),(.sl .n 7 (ml aC e1.az))]→H'[q8]? =some [(.str x6.ct.au),(.str x6.ct.domain),(.int .i64 x6.state),(.int .i64 x6.tries),(.int .i64 x6.next),(.int .i64 x6.code),(.str x6.why)]→K .normal [(1,(.ptr q7 0)),(4,(.int .i64 t3)),(5,(.bool zH)),(6,(.int .i64 i5)),(7,(.ptr q8 0)),(32,(.bool ((decide (x6.state=1))&&((!zH)||(decide (x6.next<t3))))))] H'):
 AX Tryz.prog uy 37 H0.length (erase uZ) K [(1,(.ptr q7 0)),(4,(.int .i64 t3)),(5,(.bool zH)),(6,(.int .i64 i5)),(7,(.ptr q8 0))] H:=by
 refine dz fun K' hK=> ?_
 have hle:=hfr.le
 have aU:=aL ai
 have cK:=aL aq
 refine aE (aB ai aq) ?_
 refine jZ (fun bz=> ?_) fun bz=> ?_
 · refine aE (aB bz (aB ai aq)) ?_
   refine jZ (fun bu=> ?_) fun bu=> ?_
   · refine aE (aB bu (aB ai aq)) ?_
     exact hK _ _ _ _ _ (dy (aB bz bu)) ax (kn _ hfr (ai.trans rfl) (aq.trans rfl))
   · refine aE (aB bu (aB ai aq)) ?_
     exact hK _ _ _ _ _ (dy (aB bz bu)) ax (kn _ hfr (ai.trans rfl) (aq.trans rfl))
 · refine aE (aB bz (aB ai aq)) ?_
   exact hK _ _ _ _ _ (dy bz) ax (kn _ hfr (ai.trans rfl) (aq.trans rfl))
theorem Ci {F:Nat} {i5:Int} {e1:ak} {zH:Bool} {t3:Int} {q2:Nat} {H0 H:AH} (hfr:Fr H0 H0.length [] H) (ai:H[q2]? =some [(.str e1.av.au),(.str e1.av.domain),(.int .i64 e1.born),(.int .i64 e1.size),(.int .u32 e1.sum),(.sl .n 7 (ml aC e1.az))]) (eS:H0.length≤q2) {K:Exit→Env→AH→Prop} {o:(Int×Bool)⊕(Int×Bool)}
 (h:iter (sN e1) F (t3,zH,i5)=some o)
 (dj:∀o':Int×Bool,o= .inr o'→∀H':AH,Fr H0 H0.length [] H'→H'[q2]? =some [(.str e1.av.au),(.str e1.av.domain),(.int .i64 e1.born),(.int .i64 e1.size),(.int .u32 e1.sum),(.sl .n 7 (ml aC e1.az))]→K (.exit 0) [(4,(.int .i64 o'.1)),(5,(.bool o'.2))] H'):
 AX Tryz.prog uy 37 H0.length (.loop (erase tL)) K [(1,(.ptr q2 0)),(4,(.int .i64 t3)),(5,(.bool zH)),(6,(.int .i64 i5))] H:=by
 refine iZ (fun s e H1=>match s with|(t3,zH,i5)=>e=[(1,(.ptr q2 0)),(4,(.int .i64 t3)),(5,(.bool zH)),(6,(.int .i64 i5))]∧Fr H0 H0.length [] H1∧H1[q2]? =some [(.str e1.av.au),(.str e1.av.domain),(.int .i64 e1.born),(.int .i64 e1.size),(.int .u32 e1.sum),(.sl .n 7 (ml aC e1.az))]) h ⟨rfl,hfr,ai⟩ ?_
 rintro K' ⟨t3,zH,i5⟩ st e H ⟨rfl,hfr,ai⟩ h hN hB hR hX
 have hle:=hfr.le
 have aU:=aL ai
 rw [sN.eq_1] at h
 refine aE ai ?_
 refine b7 h (fun hy1 h=> ?_) fun hy1 h=> ?_
 · obtain ⟨x6,bf,h⟩:=ay h
   refine aE (aB bf ai) ?_
   obtain ⟨q8,ab4⟩:∃q:Nat,H.length=q:=⟨_,rfl⟩
   try rw [ab4]
   refine cg ax (Ch (q7:=q2) (t3:=t3) (zH:=zH) (i5:=i5) (q8:=q8) (e1:=e1) (x6:=x6) (bn _ (Fr.app hfr)) (aX (ez (ai.trans rfl))) bL br br br ?_)
   intro H hfr ai aq
   have hle:=hfr.le
   have aU:=aL ai
   have cK:=aL aq
   refine aE (aB ai aq) ?_
   refine b7 h (fun bW h=> ?_) fun bW h=> ?_
   · refine aE (aB ai aq) ?_
     obtain rfl:=aK h
     exact hN _ rfl _ _ _ _ aZ ax ⟨rfl,hfr,(ai.trans rfl)⟩
   · refine aE (aB ai aq) ?_
     obtain rfl:=aK h
     exact hN _ rfl _ _ _ _ aZ ax ⟨rfl,hfr,(ai.trans rfl)⟩
 · refine aE ai ?_
   obtain rfl:=aK h
   exact hX _ _ _ _ _ eK aZ ax (dj _ (hB _ rfl) _ hfr (ai.trans rfl))
theorem Gq {F:Nat} {e1:ak} {H0:AH} {aM:Int} {cB:Bool} (h:uz F e1=some (aM,cB)):
 aG Tryz.prog 12 [(.agg [(.str e1.av.au),(.str e1.av.domain),(.int .i64 e1.born),(.int .i64 e1.size),(.int .u32 e1.sum),(.sl .n 7 (ml aC e1.az))])] H0 fun v H'=>v=(.bK [(.int .i64 aM),(.bool cB)])∧H'=H0:=by
 refine ef I9 uy [] fun hcl K0 aP H hH hfr=> ?_
 clear hH
 have hle:=hfr.le
 rw [uz.eq_1] at h
 refine bV ?_
 obtain ⟨q2,eF⟩:∃q:Nat,H.length=q:=⟨_,rfl⟩
 try rw [eF]
 obtain ⟨KZ,cw,h⟩:=ay h
 refine cg ax (Ci (q2:=q2) (Fr.app hfr) jY br cw ?_)
 · rintro ⟨t11,WJ⟩ rfl H hfr ai
   try dsimp only at h ai
   have hle:=hfr.le
   have aU:=aL ai
   refine aE ai ?_
   obtain ⟨rfl,rfl⟩:=de h
   exact aP _ _ _ bG (bp hfr hcl (bD (bD bx (.bool WJ)) (.int .i64 t11)) bB bt ⟨rfl,rfl⟩)
abbrev rX:aD:=(.seq (.seq (.rg [(aA 5 4),(aj 6 (.aV (.t 1) 5)),(aj 7 (.ld (.t 6) none)),(aj 8 (.len (.t 7))),(aj 9 (.bin .lss (.t 5) (.t 8)))]) (.cond (.t 9) .skip (.exit 0))) (.seq (.blk 1 (.seq (.rg [(aj 12 (.aV (.t 1) 5)),(aj 13 (.ld (.t 12) none)),(aA 14 4),(aj 15 (.lC 7 (.t 13) (.t 14))),(aj 16 (.aV (.t 15) 2)),(aj 17 (.ld (.t 16) none)),(aj 18 (.bin .eql (.t 17) (.c (.int .i64 1))))]) (.cond (.t 18) (.rg [(aA 19 3),(aj 20 (.bin .add (.t 19) (.c (.int .i64 1)))),(bk 3 20)]) .skip))) (.rg [(aA 10 4),(aj 11 (.bin .add (.t 10) (.c (.int .i64 1)))),(bk 4 11)])))
abbrev Gr:aD:=(.seq (.rg [(aj 1 (.box (.t 0))),(aj 2 (.aY (.c (.int .i64 0))))]) (.seq (.rg [(aj 3 (.aY (.c (.int .i64 0))))]) (.seq (.seq (.rg [(aj 4 (.aY (.c (.int .i64 0))))]) (.blk 0 (.loop (erase rX)))) (.seq (.rg [(aA 21 3),(bk 2 21)]) .ret))))
theorem Gs:bw Tryz.prog 17 22 [(.tmp 2)] (erase Gr):=⟨Tryz.f17,_,rfl,by decide,rfl,by kernel_rfl,rfl,rfl⟩
abbrev yh:List Nat:=[0,1,2,3,4,9,18]
def qF (e1:ak):(Int×Int)→Option (St Int Int (Int×Int))
 |(fC,i4)=>
  (if (decide (i4<(e1.az.length:Int))) then
   (idx e1.az i4).bind fun x5=>
   (if (decide (x5.state=1)) then
    some (.cT ((IntKind.wrap .i64 (fC+1)),(IntKind.wrap .i64 (i4+1))))
   else
    some (.cT (fC,(IntKind.wrap .i64 (i4+1)))))
  else
   some (.fI fC))
def rY (F:Nat) (e1:ak):Option (Int):=
 ((iter (qF e1) F (0,0)).bind fun o8=>
 match o8 with
 | .inr nn7=>
   some nn7
 | .inl _=>none)
theorem Bf {F:Nat} {i4:Int} {e1:ak} {fC:Int} {q2:Nat} {H0 H:AH} (hfr:Fr H0 H0.length [] H) (ai:H[q2]? =some [(.str e1.av.au),(.str e1.av.domain),(.int .i64 e1.born),(.int .i64 e1.size),(.int .u32 e1.sum),(.sl .n 7 (ml aC e1.az))]) (eS:H0.length≤q2) {K:Exit→Env→AH→Prop} {o:(Int)⊕(Int)}
 (h:iter (qF e1) F (fC,i4)=some o)
 (dj:∀o':Int,o= .inr o'→∀H':AH,Fr H0 H0.length [] H'→H'[q2]? =some [(.str e1.av.au),(.str e1.av.domain),(.int .i64 e1.born),(.int .i64 e1.size),(.int .u32 e1.sum),(.sl .n 7 (ml aC e1.az))]→K (.exit 0) [(3,(.int .i64 o'))] H'):
 AX Tryz.prog yh 22 H0.length (.loop (erase rX)) K [(1,(.ptr q2 0)),(3,(.int .i64 fC)),(4,(.int .i64 i4))] H:=by
 refine iZ (fun s e H1=>match s with|(fC,i4)=>e=[(1,(.ptr q2 0)),(3,(.int .i64 fC)),(4,(.int .i64 i4))]∧Fr H0 H0.length [] H1∧H1[q2]? =some [(.str e1.av.au),(.str e1.av.domain),(.int .i64 e1.born),(.int .i64 e1.size),(.int .u32 e1.sum),(.sl .n 7 (ml aC e1.az))]) h ⟨rfl,hfr,ai⟩ ?_
 rintro K' ⟨fC,i4⟩ st e H ⟨rfl,hfr,ai⟩ h hN hB hR hX
 have hle:=hfr.le
 have aU:=aL ai
 rw [qF.eq_1] at h
 refine aE ai ?_
 refine b7 h (fun hy1 h=> ?_) fun hy1 h=> ?_
 · obtain ⟨x5,bf,h⟩:=ay h
   refine aE (aB bf ai) ?_
   refine b7 h (fun bz h=> ?_) fun bz h=> ?_
   · refine aE ai ?_
     obtain rfl:=aK h
     exact hN _ rfl _ _ _ _ aZ ax ⟨rfl,hfr,(ai.trans rfl)⟩
   · refine aE ai ?_
     obtain rfl:=aK h
     exact hN _ rfl _ _ _ _ aZ ax ⟨rfl,hfr,(ai.trans rfl)⟩
 · refine aE ai ?_
   obtain rfl:=aK h
   exact hX _ _ _ _ _ eK aZ ax (dj _ (hB _ rfl) _ hfr (ai.trans rfl))
theorem Fm {F:Nat} {e1:ak} {H0:AH} {aM:Int} (h:rY F e1=some aM):
 aG Tryz.prog 17 [(.agg [(.str e1.av.au),(.str e1.av.domain),(.int .i64 e1.born),(.int .i64 e1.size),(.int .u32 e1.sum),(.sl .n 7 (ml aC e1.az))])] H0 fun v H'=>v=(.int .i64 aM)∧H'=H0:=by
 refine ef Gs yh [] fun hcl K0 aP H hH hfr=> ?_
 clear hH
 have hle:=hfr.le
 rw [rY.eq_1] at h
 refine bV ?_
 obtain ⟨q2,eF⟩:∃q:Nat,H.length=q:=⟨_,rfl⟩
 try rw [eF]
 obtain ⟨o8,bu,h⟩:=ay h
 refine cg ax (Bf (q2:=q2) (Fr.app hfr) jY br bu ?_)
 · rintro nn7 rfl H hfr ai
   try dsimp only at h ai
   have hle:=hfr.le
   have aU:=aL ai
   refine aE ai ?_
   obtain rfl:=aK h
   exact aP _ _ _ bG (bp hfr hcl (bD bx (.int .i64 nn7)) bB bt ⟨rfl,rfl⟩)
abbrev oE:aD:=(.rg ((aj 30 (.lJ (.t 1) (some 6)))::(aj 32 (.lJ (.t 3) (some 6)))::(aj 31 (.call (.c (.fn 13 [])) [(.t 30)]))::(aj 33 (.call (.c (.fn 14 [])) [(.t 32)]))::(aj 34 (.bq true (.t 31) (.t 33)))::(aA 35 34)::(aF 36 (.mv (.t 4)) 35 false)::(aF 37 (.vD (.t 36)) 35 false)::(aF 38 (.lJ (.t 3) (some 6)) 35 false)::(aF 39 (.call (.c (.fn 15 [])) [(.t 38)]) 35 false)::(aF 40 (.vD (.t 39)) 35 false)::(aF 41 (.bin .neq (.t 37) (.t 40)) 35 false)::(aj 42 (.pick (.t 35) (.c (.bool true)) (.t 41)))::(aA 43 42)::(aF 44 (.lJ (.t 1) (some 6)) 43 false)::(aF 46 (.lJ (.t 3) (some 6)) 43 false)::(aF 45 (.call (.c (.fn 16 [])) [(.t 44)]) 43 false)::(aF 47 (.call (.c (.fn 17 [])) [(.t 46)]) 43 false)::(aF 48 (.bin .neq (.t 45) (.t 47)) 43 false)::(aj 49 (.pick (.t 43) (.c (.bool true)) (.t 48)))::(aA 50 49)::(aF 51 (.mv (.t 5)) 50 false)::(aF 52 (.mv (.t 7)) 50 false)::(aF 53 (.bin .neq (.t 51) (.t 52)) 50 false)::(aj 54 (.pick (.t 50) (.c (.bool true)) (.t 53)))::(aA 55 54)::(aF 56 (.mv (.t 6)) 55 false)::(aF 57 (.mv (.t 8)) 55 false)::(aF 58 (.bq true (.t 56) (.t 57)) 55 false)::(aj 59 (.pick (.t 55) (.c (.bool true)) (.t 58)))::[]))
abbrev oF:aD:=(.rg [(aA 71 10),(aj 72 (.bin .eql (.t 71) (.c (.int .i64 0)))),(aA 73 72),(aF 74 (.ld (.t 9) (some 6)) 73 true),(aF 75 (.ld (.t 1) (some 6)) 73 true),(aF 76 (.call (.c (.fn 19 [])) [(.t 74),(.t 75)]) 73 true),(aj 77 (.pick (.t 73) (.t 76) (.c (.bool false)))),(bk 2 77)])
abbrev Cj:aD:=(.seq (.rg [(aj 1 (.box (.t 0))),(aj 2 (.aY (.c (.bool false))))]) (.seq (.seq (.rg [(aj 11 (.call (.c (.fn 7 [])) [])),(aj 12 (.un .not (.t 11)))]) (.cond (.t 12) (.seq (.rg [(aj 2 (.aY (.c (.bool false))))]) .ret) .skip)) (.seq (.seq (.rg [(aj 13 (.ld (.t 1) (some 6))),(aj 14 (.call (.c (.fn 8 [])) [(.t 13)])),(aj 15 (.un .not (.t 14)))]) (.cond (.t 15) (.seq (.rg [(aj 2 (.aY (.c (.bool true))))]) .ret) .skip)) (.seq (.rg [(aj 16 (.ld (.t 1) (some 6))),(aj 17 (.call (.c (.fn 9 [])) [(.t 16)])),(aj 3 (.alloc [(.str []),(.str []),(.int .i64 0),(.int .i64 0),(.int .u32 0),(.sl .ex 7 [])])),(cZ (.st (.t 3) (.t 17) 6))]) (.seq (.rg [(aj 18 (.ld (.t 1) (some 6))),(aj 19 (.call (.c (.fn 10 [])) [(.t 18)])),(bk 4 19)]) (.seq (.rg [(aj 21 (.ld (.t 1) (some 6))),(aj 22 (.call (.c (.fn 11 [])) [(.t 21)])),(aA 20 22),(aj 23 (.ext (.t 20) 0)),(aj 24 (.ext (.t 20) 1)),(bk 5 23),(bk 6 24)]) (.seq (.rg [(aj 26 (.ld (.t 3) (some 6))),(aj 27 (.call (.c (.fn 12 [])) [(.t 26)])),(aA 25 27),(aj 28 (.ext (.t 25) 0)),(aj 29 (.ext (.t 25) 1)),(bk 7 28),(bk 8 29)]) (.seq (.seq (.sem (erase oE)) (.cond (.t 59) (.seq (.rg [(aj 2 (.aY (.c (.bool false))))]) .ret) .skip)) (.seq (.seq (.rg [(aj 60 (.ld (.t 3) (some 6))),(aj 61 (.call (.c (.fn 14 [])) [(.t 60)])),(aj 62 (.un .not (.t 61)))]) (.cond (.t 62) (.seq (.rg [(aA 63 4),(aj 64 (.len (.t 63))),(aj 65 (.bin .eql (.t 64) (.c (.int .i64 0)))),(bk 2 65)]) .ret) .skip)) (.seq (.rg [(aA 67 4),(aj 68 (.call (.c (.fn 18 [])) [(.t 67)])),(aA 66 68),(aj 69 (.ext (.t 66) 0)),(aj 70 (.ext (.t 66) 1)),(aj 9 (.alloc [(.str []),(.str []),(.int .i64 0),(.int .i64 0),(.int .u32 0),(.sl .ex 7 [])])),(cZ (.st (.t 9) (.t 69) 6)),(bk 10 70)]) (.seq (.sem (erase oF)) .ret)))))))))))
theorem Ck:bw Tryz.prog 3 78 [(.tmp 2)] (erase Cj):=⟨Tryz.f3,_,rfl,by decide,rfl,by kernel_rfl,rfl,rfl⟩
abbrev nc:List Nat:=[0,1,2,3,4,5,6,7,8,9,10,12,15,59,62]
def iW (F:Nat) (e1:ak) (r4:ak) (r5:List UInt8) (r6:Int) (r8:Int) (r7:Bool) (r9:Bool):Option (Bool):=
 (jj F e1).bind fun lG=>
 (gr F r4).bind fun gy=>
 (if (!(lG==gy)) then
  some true
 else
  (iM F r4).bind fun nN=>
  (if (!decide (r5=nN)) then
   some true
  else
   (oZ F e1).bind fun kA=>
   (rY F r4).bind fun kz=>
   (if (!decide (kA=kz)) then
    some true
   else
    (if (!decide (r6=r8)) then
     some true
    else
     some (!(r7==r9))))))
def iX (F:Nat) (qT:Int) (mW:ak) (e1:ak):Option (Bool):=
 (if (decide (qT=0)) then
  (lf F mW e1).bind fun KM=>some KM
 else
  some false)
def jq (F:Nat) (e1:ak):Option (Bool):=
 (jD F).bind fun r2=>
 (if (!r2) then
  some false
 else
  (kT F e1).bind fun r3=>
  (if (!r3) then
   some true
  else
   (lg F e1).bind fun r4=>
   (jk F e1).bind fun r5=>
   (tq F e1).bind fun (r6,r7)=>
   (uz F r4).bind fun (r8,r9)=>
   (iW F e1 r4 r5 r6 r8 r7 r9).bind fun t16=>
   (if t16 then
    some false
   else
    (gr F r4).bind fun AK=>
    (if (!AK) then
     some (decide ((r5.length:Int)=0))
    else
     (gX F r5).bind fun (mW,qT)=>(iX F qT mW e1).bind fun t23=>
     some t23))))
theorem wT {F:Nat} {e1:ak} {r4:ak} {r5:List UInt8} {r6:Int} {r8:Int} {r7:Bool} {r9:Bool} {H0 H:AH} (hfr:Fr H0 H0.length [] H) {K:Exit→Env→AH→Prop} {t15:Bool}
 (h:iW F e1 r4 r5 r6 r8 r7 r9=some t15)
 (kn:∀H':AH,Fr H0 H0.length [] H'→K .normal [(1,(.ep (.agg [(.str e1.av.au),(.str e1.av.domain),(.int .i64 e1.born),(.int .i64 e1.size),(.int .u32 e1.sum),(.sl .n 7 (ml aC e1.az))]) 0)),(3,(.ep (.agg [(.str r4.av.au),(.str r4.av.domain),(.int .i64 r4.born),(.int .i64 r4.size),(.int .u32 r4.sum),(.sl .n 7 (ml aC r4.az))]) 0)),(4,(.sl .n 1 (ml b8 r5))),(59,(.bool t15))] H'):
 AX Tryz.prog nc 78 H0.length (erase oE) K [(1,(.ep (.agg [(.str e1.av.au),(.str e1.av.domain),(.int .i64 e1.born),(.int .i64 e1.size),(.int .u32 e1.sum),(.sl .n 7 (ml aC e1.az))]) 0)),(3,(.ep (.agg [(.str r4.av.au),(.str r4.av.domain),(.int .i64 r4.born),(.int .i64 r4.size),(.int .u32 r4.sum),(.sl .n 7 (ml aC r4.az))]) 0)),(4,(.sl .n 1 (ml b8 r5))),(5,(.int .i64 r6)),(6,(.bool r7)),(7,(.int .i64 r8)),(8,(.bool r9))] H:=by
 refine dz fun K' hK=> ?_
 have hle:=hfr.le
 rw [iW.eq_1] at h
 refine bV ?_
 obtain ⟨lG,eE,h⟩:=ay h
 refine bg ax (nt eE) ?_
 refine bV ?_
 obtain ⟨gy,dh,h⟩:=ay h
 refine bg ax (kK dh) ?_
 refine bV ?_
 refine cr h (fun cH h=> ?_) fun cH h=> ?_
 · refine aE cH ?_
   obtain rfl:=aK h
   exact hK _ _ _ _ _ (dy cH) ax (kn _ hfr)
 · refine aE cH ?_
   obtain ⟨nN,eA,h⟩:=ay h
   refine bg ax (tG eA) ?_
   refine bV ?_
   refine cr h (fun di h=> ?_) fun di h=> ?_
   · refine aE di ?_
     obtain rfl:=aK h
     exact hK _ _ _ _ _ (dy (aB cH di)) ax (kn _ hfr)
   · refine aE di ?_
     obtain ⟨kA,gj,h⟩:=ay h
     refine bg ax (AO gj) ?_
     refine bV ?_
     obtain ⟨kz,lW,h⟩:=ay h
     refine bg ax (Fm lW) ?_
     refine bV ?_
     refine cr h (fun gl h=> ?_) fun gl h=> ?_
     · refine aE gl ?_
       obtain rfl:=aK h
       exact hK _ _ _ _ _ (dy (aB cH (aB di gl))) ax (kn _ hfr)
     · refine aE gl ?_
       refine cr h (fun j7 h=> ?_) fun j7 h=> ?_
       · refine aE j7 ?_
         obtain rfl:=aK h
         exact hK _ _ _ _ _ (dy (aB cH (aB di (aB gl j7)))) ax (kn _ hfr)
       · refine aE j7 ?_
         obtain rfl:=aK h
         exact hK _ _ _ _ _ (dy (aB cH (aB di (aB gl j7)))) ax (kn _ hfr)
theorem wU {F:Nat} {qT:Int} {mW:ak} {e1:ak} {oQ:Nat} {H0 H:AH} (hfr:Fr H0 H0.length [] H) (aR:H[oQ]? =some [(.str mW.av.au),(.str mW.av.domain),(.int .i64 mW.born),(.int .i64 mW.size),(.int .u32 mW.sum),(.sl .n 7 (ml aC mW.az))]) (eS:H0.length≤oQ) {K:Exit→Env→AH→Prop} {t22:Bool}
 (h:iX F qT mW e1=some t22)
 (kn:∀H':AH,Fr H0 H0.length [] H'→H'[oQ]? =some [(.str mW.av.au),(.str mW.av.domain),(.int .i64 mW.born),(.int .i64 mW.size),(.int .u32 mW.sum),(.sl .n 7 (ml aC mW.az))]→K .normal [(2,(.bool t22))] H'):
 AX Tryz.prog nc 78 H0.length (erase oF) K [(1,(.ep (.agg [(.str e1.av.au),(.str e1.av.domain),(.int .i64 e1.born),(.int .i64 e1.size),(.int .u32 e1.sum),(.sl .n 7 (ml aC e1.az))]) 0)),(9,(.ptr oQ 0)),(10,(.int .i64 qT))] H:=by
 refine dz fun K' hK=> ?_
 have hle:=hfr.le
 have kR:=aL aR
 rw [iX.eq_1] at h
 refine aE aR ?_
 refine cr h (fun s5 h=> ?_) fun s5 h=> ?_
 · refine aE (aB s5 aR) ?_
   obtain ⟨KM,nQ,h⟩:=ay h
   refine bg ax (oS nQ) ?_
   refine aE aR ?_
   obtain rfl:=aK h
   exact hK _ _ _ _ _ aZ ax (kn _ hfr (aR.trans rfl))
 · refine aE (aB s5 aR) ?_
   obtain rfl:=aK h
   exact hK _ _ _ _ _ aZ ax (kn _ hfr (aR.trans rfl))
theorem Bg {F:Nat} {e1:ak} {H0:AH} {aM:Bool} (h:jq F e1=some aM):
 aG Tryz.prog 3 [(.agg [(.str e1.av.au),(.str e1.av.domain),(.int .i64 e1.born),(.int .i64 e1.size),(.int .u32 e1.sum),(.sl .n 7 (ml aC e1.az))])] H0 fun v H'=>v=(.bool aM)∧H'=H0:=by
 refine ef Ck nc [] fun hcl K0 aP H hH hfr=> ?_
 clear hH
 have hle:=hfr.le
 rw [jq.eq_1] at h
 refine bV ?_
 obtain ⟨r2,hy1,h⟩:=ay h
 refine bg ax (uP hy1) ?_
 refine bV ?_
 refine b7 h (fun bf h=> ?_) fun bf h=> ?_
 · refine bV ?_
   obtain rfl:=aK h
   exact aP _ _ _ bG (bp (Fr.app hfr) hcl (bD bx (.bool false)) bB bt ⟨rfl,rfl⟩)
 · refine bV ?_
   obtain ⟨r3,bz,h⟩:=ay h
   refine bg ax (sG bz) ?_
   refine bV ?_
   refine b7 h (fun bu h=> ?_) fun bu h=> ?_
   · refine bV ?_
     obtain rfl:=aK h
     exact aP _ _ _ bG (bp (Fr.app hfr) hcl (bD bx (.bool true)) bB bt ⟨rfl,rfl⟩)
   · refine bV ?_
     obtain ⟨r4,bW,h⟩:=ay h
     refine bg ax (oU bW) ?_
     refine bV ?_
     obtain ⟨r5,cw,h⟩:=ay h
     refine bg ax (qb cw) ?_
     refine bV ?_
     obtain ⟨⟨r6,r7⟩,dB,h⟩:=ay h
     dsimp only at h
     refine bg ax (Cw dB) ?_
     refine bV ?_
     obtain ⟨⟨r8,r9⟩,dD,h⟩:=ay h
     dsimp only at h
     refine bg ax (Gq dD) ?_
     refine bV ?_
     refine NR ?_
     apply AX.freeze (s:=H.length) (cs:=[(.str e1.av.au),(.str e1.av.domain),(.int .i64 e1.born),(.int .i64 e1.size),(.int .u32 e1.sum),(.sl .n 7 (ml aC e1.az))]) (by exact (aX (ez jY))) (cv.same (cv.same (cv.same (cv.same (cv.same (cv.same (cv.nil))))))) (by simp)
     · repeat (first|exact FZ.nil|apply FZ.ep|apply FZ.same)
     apply AX.freeze (s:=(H.length+1)) (cs:=[(.str r4.av.au),(.str r4.av.domain),(.int .i64 r4.born),(.int .i64 r4.size),(.int .u32 r4.sum),(.sl .n 7 (ml aC r4.az))]) (by exact (aX bL)) (cv.same (cv.same (cv.same (cv.same (cv.same (cv.same (cv.nil))))))) (by simp)
     · repeat (first|exact FZ.nil|apply FZ.ep|apply FZ.same)
     refine Vv ?_
     obtain ⟨t16,nP,h⟩:=ay h
     refine cg ax (wT (bn _ (bn _ (bn _ (Fr.app (Fr.app hfr))))) nP ?_)
     intro H hfr
     have hle:=hfr.le
     refine bV ?_
     refine b7 h (fun j9 h=> ?_) fun j9 h=> ?_
     · refine bV ?_
       obtain rfl:=aK h
       exact aP _ _ _ bG (bp hfr hcl (bD bx (.bool false)) bB bt ⟨rfl,rfl⟩)
     · refine bV ?_
       obtain ⟨AK,kf,h⟩:=ay h
       refine bg ax (kK kf) ?_
       refine bV ?_
       refine b7 h (fun p6 h=> ?_) fun p6 h=> ?_
       · refine bV ?_
         obtain rfl:=aK h
         exact aP _ _ _ bG (bp hfr hcl (bD bx (.bool (decide ((r5.length:Int)=0)))) bB bt ⟨rfl,rfl⟩)
       · refine bV ?_
         obtain ⟨⟨mW,qT⟩,k7,h⟩:=ay h
         dsimp only at h
         refine bg ax (qf k7) ?_
         refine bV ?_
         obtain ⟨oQ,Zi⟩:∃q:Nat,H.length=q:=⟨_,rfl⟩
         try rw [Zi]
         obtain ⟨t23,p7,h⟩:=ay h
         refine cg ax (wU (oQ:=oQ) (bn _ (Fr.app hfr)) bL br p7 ?_)
         intro H hfr aR
         have hle:=hfr.le
         have kR:=aL aR
         refine aE aR ?_
         obtain rfl:=aK h
         exact aP _ _ _ bG (bp hfr hcl (bD bx (.bool t23)) bB bt ⟨rfl,rfl⟩)
end Go.Proofs.cL
end
section
set_option maxRecDepth 100000
namespace Go.Proofs.cL
open Go Go.Am Go.Proofs
theorem rcE (x y:bl):(decide (x.ct.au=y.ct.au)&&(decide (x.ct.domain=y.ct.domain)&&(decide (x.state=y.state)&&(decide (x.tries=y.tries)&&(decide (x.next=y.next)&&(decide (x.code=y.code)&&decide (x.why=y.why)))))))=decide (x=y):=by
 rw [Bool.eq_iff_iff]
 simp only [Bool.and_eq_true,decide_eq_true_eq]
 constructor
 · rintro ⟨h1,h2,h3,h4,h5,h6,h7⟩
   rcases x with ⟨⟨a,b⟩,c,d,e,f,g⟩
   rcases y with ⟨⟨a',b'⟩,c',d',e',f',g'⟩
   simp only at h1 h2 h3 h4 h5 h6 h7
   subst h1 h2 h3 h4 h5 h6 h7
   rfl
 · rintro rfl
   exact ⟨rfl,rfl,rfl,rfl,rfl,rfl,rfl⟩
theorem WK {s1 s2:List bl} (h1:s1.length≤1000):∀(r1 r2:List bl) (i G:Nat),s1.drop i=r1→s2.drop i=r2→i≤s1.length→r1.length=r2.length→r1.length<G→
 iter (eH s1 s2) G (false,(i:Int))=some (if r1=r2 then .inr () else .inl false):=by
 intro r1
 induction r1 with
 |nil=>
  intro r2 i G hd1 CK hi hl hG
  obtain ⟨G,rfl⟩:=cJ hG
  obtain rfl:r2=[]:=List.eq_nil_of_length_eq_zero hl.symm
  have:=A3 hd1
  exact dw (by simp only [eH];rw [if_neg (by simp;omega)])
 |cons c r1 ih=>
  intro r2 i G hd1 CK hi hl hG
  obtain ⟨G,rfl⟩:=cJ hG
  match r2,hl with
  |d::r2,hl=>
   obtain ⟨k1,k2,k3⟩:=drop_cons hd1
   obtain ⟨m1,m2,m3⟩:=drop_cons CK
   have hb:eH s1 s2 (false,(i:Int))=if c=d then some (.cT (false,((i+1:Nat):Int))) else some (.ret false):=by
    simp only [eH]
    rw [if_pos (by simpa using k1),bM k2,Option.bind_some,bM m2,Option.bind_some,rcE,vv (by omega)]
    by_cases h:c=d
    · simp [h]
    · simp [h]
   by_cases h:c=d
   · rw [if_pos h] at hb
     rw [cO hb,ih r2 (i+1) G k3 m3 (by omega) (by simpa using hl) (by simpa using hG)]
     simp [h]
   · rw [if_neg h] at hb
     rw [iN hb]
     simp [h]
theorem aee {s1 s2:List bl} {F:Nat} (h1:s1.length≤1000) (hF:2000<F):kq F s1 s2=some (decide (s1=s2)):=by
 unfold kq
 by_cases h:s1.length=s2.length
 · rw [if_neg (by simp [h]),show ((false,(0:Int)):Bool×Int)=(false,((0:Nat):Int)) from rfl,WK h1 s1 s2 0 F (by simp) (by simp) (by omega) h (by omega)]
   by_cases e:s1=s2
   · simp [e]
   · simp [e]
 · rw [if_pos (by simp;omega)]
   simp only [Option.some.injEq,Bool.false_eq,decide_eq_false_iff_not]
   intro e
   exact h (by rw [e])
theorem adE (x y:aJ):(decide (x.au=y.au)&&decide (x.domain=y.domain))=decide (x=y):=by
 rw [Bool.eq_iff_iff]
 simp only [Bool.and_eq_true,decide_eq_true_eq]
 constructor
 · rintro ⟨h1,h2⟩
   rcases x with ⟨a,b⟩
   rcases y with ⟨a',b'⟩
   simp only at h1 h2
   subst h1 h2
   rfl
 · rintro rfl
   exact ⟨rfl,rfl⟩
theorem DD {a b:ak} {F:Nat} (h1:a.az.length≤1000) (hF:2000<F):lf F a b=some (decide (a=b)):=by
 unfold lf oR
 rw [adE,aee h1 hF]
 by_cases h:a=b
 · subst h;simp
 · rw [show decide (a=b)=false by simpa using h]
   by_cases e1:a.av=b.av
   · by_cases e2:a.born=b.born
     · by_cases e3:a.size=b.size
       · by_cases e4:a.sum=b.sum
         · have e5:¬a.az=b.az:=fun e5=>h (Be e1 e2 e3 e4 e5)
           simp [e1,e2,e3,e4,e5]
         · simp [e1,e2,e3,e4]
       · simp [e1,e2,e3]
     · simp [e1,e2]
   · simp [e1]
theorem SC {a b:ak} (h1:a.az.length≤1000):∀(r1 r2:List bl) (i G:Nat),a.az.drop i=r1→b.az.drop i=r2→i≤a.az.length→r1.length=r2.length→r1.length<G→
 iter (fS a b) G (i:Int)=some (if r1=r2 then .inr () else .inl false):=by
 intro r1
 induction r1 with
 |nil=>
  intro r2 i G hd1 CK hi hl hG
  obtain ⟨G,rfl⟩:=cJ hG
  obtain rfl:r2=[]:=List.eq_nil_of_length_eq_zero hl.symm
  have:=A3 hd1
  exact dw (by simp only [fS];rw [if_neg (by simp;omega)])
 |cons c r1 ih=>
  intro r2 i G hd1 CK hi hl hG
  obtain ⟨G,rfl⟩:=cJ hG
  match r2,hl with
  |d::r2,hl=>
   obtain ⟨k1,k2,k3⟩:=drop_cons hd1
   obtain ⟨m1,m2,m3⟩:=drop_cons CK
   have hb:fS a b (i:Int)=if c=d then some (.cT ((i+1:Nat):Int)) else some (.ret false):=by
    simp only [fS]
    rw [if_pos (by simpa using k1),bM k2,Option.bind_some,bM m2,Option.bind_some,rcE,vv (by omega)]
    by_cases h:c=d
    · simp [h]
    · simp [h]
   by_cases h:c=d
   · rw [if_pos h] at hb
     rw [cO hb,ih r2 (i+1) G k3 m3 (by omega) (by simpa using hl) (by simpa using hG)]
     simp [h]
   · rw [if_neg h] at hb
     rw [iN hb]
     simp [h]
theorem Pz {a b:ak} {F:Nat} (h1:a.az.length≤1000) (hF:2000<F):lB F a b=some (decide (a=b)):=by
 unfold lB
 rw [adE]
 by_cases hl:a.az.length=b.az.length
 · have hh:=SC (a:=a) (b:=b) h1 a.az b.az 0 F (by simp) (by simp) (by omega) hl (by omega)
   by_cases h:a=b
   · subst h
     rw [if_neg (by simp),show (0:Int)=((0:Nat):Int) from rfl,hh];simp
   · rw [show decide (a=b)=false by simpa using h]
     by_cases e1:a.av=b.av
     · by_cases e2:a.born=b.born
       · by_cases e3:a.size=b.size
         · by_cases e4:a.sum=b.sum
           · have e5:¬a.az=b.az:=fun e5=>h (Be e1 e2 e3 e4 e5)
             rw [if_neg (by simp [e1,e2,e3,e4,hl]),show (0:Int)=((0:Nat):Int) from rfl,hh]
             simp [e5]
           · rw [if_pos (by simp [e4])]
         · rw [if_pos (by simp [e3])]
       · rw [if_pos (by simp [e2])]
     · rw [if_pos (by simp [e1])]
 · rw [if_pos (by simp;omega)]
   simp only [Option.some.injEq,Bool.false_eq,decide_eq_false_iff_not]
   intro e
   exact hl (by rw [e])
theorem LF {α:Type}:∀(l m:List α),l.foldl (fun v r=>v++[r]) m=m++l:=by
 intro l
 induction l with
 |nil=>intro m;simp
 |cons c l ih=>intro m;simp only [List.foldl_cons];rw [ih];simp
theorem PA {e:ak} {F:Nat} (h1:e.az.length≤1000) (hF:2000<F):lg F e=some e:=by
 unfold lg
 have hh:=lpo (ρ:=ak) (s:=e.az) (body:=jE e) (mk:=fun (v:List bl) i=>((i:Int),(⟨e.av,e.born,e.size,e.sum,v⟩:ak))) (tt:=fun v=>(⟨e.av,e.born,e.size,e.sum,v⟩:ak)) (step:=fun v r=>v++[r]) (fun v i=>v.length≤i) ?_ ?_ (F:=F) (a:=[]) (by omega) (by simp)
 · rw [show (0:Int)=((0:Nat):Int) from rfl,hh.1,LF];rfl
 · intro v i c hc hI
   have hi:=(List.getElem?_eq_some_iff.1 hc).1
   refine ⟨?_,by simp;omega⟩
   simp only [jE]
   rw [if_pos (by simpa using hi),bM hc,Option.bind_some,cM (by simp;omega) (by omega),Option.bind_some,vv (by omega)]
 · intro v hI
   simp only [jE]
   rw [if_neg (by simp)]
def WN (a:Int×Bool) (r:bl):Int×Bool:=if decide (r.state=1)&&(!a.2||decide (r.next<a.1)) then (r.next,true) else a
def WO (l:List bl):Int×Bool:=l.foldl WN (0,false)
theorem Oo {e:ak} {F:Nat} (h1:e.az.length≤1000) (hF:2000<F):tq F e=some (WO e.az):=by
 unfold tq
 have hh:=lpo (ρ:=Int×Bool) (s:=e.az) (body:=k9 e) (mk:=fun (v:Int×Bool) i=>(v.1,v.2,(i:Int))) (tt:=fun v=>v) (step:=WN) (fun v i=>True) ?_ ?_ (F:=F) (a:=(0,false)) (by omega) trivial
 · rw [show ((0:Int),false,(0:Int))=(0,false,((0:Nat):Int)) from rfl,hh.1];rfl
 · intro v i c hc hI
   have hi:=(List.getElem?_eq_some_iff.1 hc).1
   refine ⟨?_,trivial⟩
   simp only [k9]
   rw [if_pos (by simpa using hi),bM hc,Option.bind_some,vv (by omega)]
   unfold WN
   split<;>rfl
 · intro v hI
   simp only [k9]
   rw [if_neg (by simp)]
theorem ab5 {e:ak} {F:Nat} (h1:e.az.length≤1000) (hF:2000<F):uz F e=some (WO e.az):=Oo h1 hF
def Zj (n:Nat) (r:bl):Nat:=if r.state=1 then n+1 else n
def Oq (l:List bl):Nat:=l.foldl Zj 0
theorem Ot {e:ak} {F:Nat} (h1:e.az.length≤1000) (hF:2000<F):oZ F e=some (Oq e.az:Int):=by
 unfold oZ
 have hh:=lpo (ρ:=Int) (s:=e.az) (body:=jC e) (mk:=fun (v:Nat) i=>((v:Int),(i:Int))) (tt:=fun v=>(v:Int)) (step:=Zj) (fun v i=>v≤i) ?_ ?_ (F:=F) (a:=0) (by omega) (by simp)
 · rw [show ((0:Int),(0:Int))=(((0:Nat):Int),((0:Nat):Int)) from rfl,hh.1];rfl
 · intro v i c hc hI
   have hi:=(List.getElem?_eq_some_iff.1 hc).1
   refine ⟨?_,by unfold Zj;split<;>omega⟩
   simp only [jC]
   rw [if_pos (by simpa using hi),bM hc,Option.bind_some,vv (by omega),vv (by omega)]
   unfold Zj
   by_cases h:c.state=1
   · simp [h]
   · simp [h]
 · intro v hI
   simp only [jC]
   rw [if_neg (by simp)]
theorem ab6 {e:ak} {F:Nat} (h1:e.az.length≤1000) (hF:2000<F):rY F e=some (Oq e.az:Int):=Ot h1 hF
def Bh (a:aJ):Bool:=decide ((a.au.length:Int)≤400)&&decide ((a.domain.length:Int)≤600)
theorem LG {a:aJ} (h:Bh a=true):qz a:=by
 simp only [Bh,Bool.and_eq_true,decide_eq_true_eq] at h
 exact ⟨by omega,by omega⟩
theorem Ou {e:ak} {F:Nat} (hF:2000<F):∃b:Bool,kT F e=some b∧(b=true→e.az.length≤120∧CE e):=by
 unfold kT nv
 by_cases h:(120:Int)<(e.az.length:Int)
 · rw [if_pos (by simpa using h)]
   exact ⟨false,rfl,by simp⟩
 · rw [if_neg (by simpa using h)]
   have hf:kS e.av=some (Bh e.av):=rfl
   rw [hf]
   simp only [Option.bind_some]
   cases hb:Bh e.av with
   |false=>exact ⟨false,rfl,by simp⟩
   |true=>
    simp only [Bool.not_true,Bool.false_eq_true,if_false]
    have hh:=Og (s:=e.az) (body:=gA e) (mk:=fun i=>(i:Int)) (p:=fun c=>Bh c.ct&& !decide ((300:Int)<(c.why.length:Int))) (rr:=fun _=>false) (tt:=()) (F:=F) ?_ ?_ ?_ (by omega)
    · cases ha:e.az.all (fun c=>Bh c.ct&& !decide ((300:Int)<(c.why.length:Int))) with
      |true=>
       rw [show (0:Int)=((0:Nat):Int) from rfl,hh.1 ha]
       refine ⟨true,rfl,fun _=>⟨by omega,by omega, ?_,fun r hr=> ?_⟩⟩
       · have:=LG hb
         exact ⟨by have:=this.1;omega,by have:=this.2;omega⟩
       · have:=List.all_eq_true.1 ha r hr
         simp only [Bool.and_eq_true] at this
         have:=LG this.1
         exact ⟨by have:=this.1;omega,by have:=this.2;omega⟩
      |false=>
       obtain ⟨j,hj⟩:=hh.2 ha
       rw [show (0:Int)=((0:Nat):Int) from rfl,hj]
       exact ⟨false,rfl,by simp⟩
    · intro i x hx hp
      have hi:=(List.getElem?_eq_some_iff.1 hx).1
      simp only [Bool.and_eq_true,Bool.not_eq_true'] at hp
      simp only [gA,ku]
      rw [if_pos (by simpa using hi),bM hx]
      simp only [Option.bind_some]
      rw [show kS x.ct=some (Bh x.ct) from rfl,hp.1]
      simp only [Option.bind_some,Bool.not_true,Bool.false_eq_true,if_false,hp.2]
      rw [vv (by omega)]
    · intro i x hx hp
      have hi:=(List.getElem?_eq_some_iff.1 hx).1
      simp only [gA,ku]
      rw [if_pos (by simpa using hi),bM hx]
      simp only [Option.bind_some]
      rw [show kS x.ct=some (Bh x.ct) from rfl]
      cases hq:Bh x.ct with
      |false=>rfl
      |true=>
       rw [hq] at hp
       simp only [Bool.true_and,Bool.not_eq_false'] at hp
       simp only [Option.bind_some,Bool.not_true,Bool.false_eq_true,if_false,hp,if_true]
    · simp only [gA]
      rw [if_neg (by simp)]
theorem Ov {r:bl} (h:lI r=true):(zE r).length≤440:=by
 simp only [lI,Bool.and_eq_true,decide_eq_true_eq] at h
 have h1:=tight h.2.1
 have h2:=h.2.2.2.2.2.2
 simp [zE,cN,fW,Fb,cV];omega
theorem LH:∀ {l:List bl},l.all lI=true→(gD l).length≤440*l.length:=by
 intro l
 induction l with
 |nil=>intro _;simp [gD]
 |cons r l ih=>
  intro h
  simp only [List.all_cons,Bool.and_eq_true] at h
  have h1:=Ov h.1
  have h2:=ih h.2
  simp [gD];omega
theorem SD (x:List UInt8):(eJ x).length=x.length+4:=by simp [eJ,cV]
theorem WQ {e:ak} (h:fX e=true):(eJ (lu e)).length≤60000:=by
 simp only [fX,Bool.and_eq_true,decide_eq_true_eq] at h
 obtain ⟨k0, -, -,k1,k2,k3⟩:=h
 have h1:=tight k0
 have h2:=LH k3
 rw [SD]
 simp [lu,cN,fW,cV];omega
theorem PB {e:ak} {F:Nat} (h:fX e=true) (hs:mZ e) (hF:200000<F):gX F (eJ (lu e))=some (e,0):=by
 obtain ⟨e',v,h1,h2⟩:=WA (b:=eJ (lu e)) (WQ h) hF
 obtain ⟨h3,h4⟩:=h2.2.2 e h hs rfl
 rw [h1,h3,h4]
def e0:ak:=ak.mk (aJ.mk ([]:List UInt8) ([]:List UInt8)) 5 9 7 ([(bl.mk (aJ.mk ([97]:List UInt8) ([98]:List UInt8)) 1 0 12 0 ([]:List UInt8))]:List bl)
theorem Ox:fX e0=true:=by decide
theorem GV {F:Nat} (hF:200000<F):jD F=some true:=by
 have hs:mZ e0:=⟨by decide,by decide⟩
 have hf:CE e0:=⟨by decide,⟨by decide,by decide⟩,by intro r hr;simp [e0] at hr;subst hr;exact ⟨by decide,by decide⟩⟩
 unfold jD
 have h1:=Oi hf hs hF
 rw [Ox,if_pos rfl] at h1
 have h2:=PB Ox hs hF
 have h3:=Oo (e:=e0) (F:=F) (by decide) (by omega)
 have h4:=Ot (e:=e0) (F:=F) (by decide) (by omega)
 have h5:=A8 hf (F:=F) (by omega)
 have h6:=DD (a:=e0) (b:=e0) (F:=F) (by decide) (by omega)
 rw [Ox] at h5
 rw [show decide (e0=e0)=true by simp] at h6
 rw [show WO e0.az=(12,true) by decide] at h3
 rw [show Oq e0.az=1 by decide] at h4
 unfold e0 at h1 h2 h3 h4 h5 h6
 rw [h1];simp only [Option.bind_some]
 rw [h2];simp only [Option.bind_some]
 rw [h3];simp only [Option.bind_some]
 unfold kG
 rw [h5];simp only [Option.bind_some,if_true,decide_true]
 rw [h6];simp only [Option.bind_some,if_true,decide_true]
 rw [h4];rfl
theorem LI {b:List UInt8} {x y:ak} {F:Nat} (hF:200000<F):iH F b x y=some true:=by
 unfold iH
 rw [GV hF]
 simp only [Option.bind_some,Bool.not_true,Bool.false_eq_true,if_false]
 unfold iu
 by_cases hb:(16384:Int)<(b.length:Int)
 · rw [if_pos (by simpa using hb)];rfl
 · rw [if_neg (by simpa using hb)]
   obtain ⟨fx,Tq,kx⟩:=Ou (e:=x) (F:=F) (by omega)
   obtain ⟨fy,hfy,ky⟩:=Ou (e:=y) (F:=F) (by omega)
   rw [Tq]
   simp only [Option.bind_some]
   cases fx with
   |false=>rfl
   |true=>
    simp only [Bool.not_true,Bool.false_eq_true,if_false]
    rw [hfy]
    simp only [Option.bind_some]
    cases fy with
    |false=>rfl
    |true=>
     simp only [Bool.not_true,Bool.false_eq_true,if_false]
     obtain ⟨lx, -⟩:=kx rfl
     obtain ⟨ly, -⟩:=ky rfl
     obtain ⟨e,v,h1,d1⟩:=WA (b:=b) (F:=F) (by omega) hF
     obtain ⟨e',v',h2,d2⟩:=ab3 (b:=b) (F:=F) (by omega) hF
     obtain ⟨rfl,rfl⟩:=abW d1 d2
     have hl:e.az.length≤1000:=by
      by_cases h0:(kW b).2=0
      · rcases d1.2.1 h0 with ⟨-,a2⟩|⟨-,a2, -⟩
        · rw [a2];decide
        · simp only [fX,Bool.and_eq_true,decide_eq_true_eq] at a2
          omega
      · rw [(d1.1 h0).1];decide
     rw [h1];simp only [Option.bind_some]
     rw [h2];simp only [Option.bind_some]
     unfold iw
     rw [PA hl (by omega)];simp only [Option.bind_some]
     rw [Pz hl (by omega),PA (e:=x) (by omega) (by omega),PA (e:=y) (by omega) (by omega),DD (a:=x) (b:=y) (by omega) (by omega),DD (a:=x) (b:=x) (by omega) (by omega)]
     simp only [Option.bind_some,decide_true,if_true]
     rw [Pz (a:=x) (by omega) (by omega)]
     simp
theorem Oy {e:ak} {F:Nat} (hs:mZ e) (hF:200000<F):jq F e=some true:=by
 unfold jq
 rw [GV hF]
 simp only [Option.bind_some,Bool.not_true,Bool.false_eq_true,if_false]
 obtain ⟨fe,hfe,ke⟩:=Ou (e:=e) (F:=F) (by omega)
 rw [hfe]
 simp only [Option.bind_some]
 cases fe with
 |false=>rfl
 |true=>
  obtain ⟨le,he⟩:=ke rfl
  simp only [Bool.not_true,Bool.false_eq_true,if_false]
  rw [PA (by omega) (by omega)];simp only [Option.bind_some]
  rw [Oi he hs hF];simp only [Option.bind_some]
  rw [Oo (by omega) (by omega)];simp only [Option.bind_some]
  rw [ab5 (by omega) (by omega)];simp only [Option.bind_some]
  unfold iW
  rw [A8 he (by omega),Cc he (by omega),Wu he hs hF,Ot (by omega) (by omega),ab6 (by omega) (by omega)]
  simp only [Option.bind_some,BEq.rfl,Bool.not_true,Bool.false_eq_true,if_false,decide_true]
  cases hB:fX e with
  |false=>simp
  |true=>
   simp only [Bool.not_true,Bool.false_eq_true,if_false,if_true]
   rw [PB hB hs hF]
   simp only [Option.bind_some]
   unfold iX
   rw [DD (by omega) (by omega)]
   simp
theorem WY (b:List UInt8) (x y:ak):∃F,iH F b x y=some true:=⟨200001,LI (by omega)⟩
theorem Ja (e:ak) (h:0≤e.sum∧e.sum≤4294967295):∃F,jq F e=some true:=⟨200001,Oy h (by omega)⟩
end Go.Proofs.cL
end
section
namespace Go.Am
open Go Go.RowKit
variable [Tabs]
def C0 (W:World) (b:Nat):List Value:=match W.heap[b]? with
 |some (.cells cs _ _)=>cs.toList
 |_=>[]
theorem aG.row {P:Program} {f:Nat} {args:List AV} {R:AV→AH→Prop} (h:aG P f args [] R) {W:World} {vs:Array Value} (htab:∀e∈Tabs.l,∃cs ty fr,W.heap[e.1]? =some (.cells cs ty fr)∧e.2 cs) (hl:vs.size=args.length)
 (hv:∀(i:Nat) (a:AV),args[i]? =some a→VR (C0 W) [] a (vs.getD i undef)∧TC W (C0 W) a (vs.getD i undef)∧a.plain=true):
 Calls P f vs W fun e w'=>∃r v aH γ' C',e= .returned v∧R r aH∧VR C' γ' r v∧Below W.heap.size W w':=by
 have hg:∀t,get (fm 0 args) t=(args[t]?).getD .un:=fun t=>by rw [eC];simp
 have hno:∀p b,¬blk [] (fm 0 args) [] vs W p b:=by
  intro p b hp
  cases p with
  |obj s=>simp [blk] at hp
  |cell s i=>obtain ⟨cs,a,b0,h1, -⟩:=hp;simp at h1
  |tmp t=>
   simp only [blk,hg] at hp
   cases ht:args[t]? with
   |none=>rw [ht] at hp;simp [bR] at hp
   |some a=>rw [ht] at hp;simp only [Option.getD_some] at hp;rw [iI _ (hO (hv t a ht).2.2)] at hp;cases hp
 have hs:SR [] args.length (fun b=>b<W.heap.size) [] (C0 W) (fm 0 args) [] vs W:=by
  refine ⟨⟨rfl,fun s b cs hs=>by simp at hs,fun b hne=> ?_,fun s b cs hs=>by simp at hs,fun s b cs us ty fr hs=>by simp at hs⟩,hl,fun t=> ?_,fun p q b hp=>absurd hp (hno p b),fun p b hp=>absurd hp (hno p b),⟨fun b hb=>hb,fun e he=> ?_⟩,fun t l k xs ht=> ?_⟩
  · unfold C0 at hne ⊢
    split at hne
    · rename_i cs ty fr hb
      rw [hb]
      exact ⟨cs,ty,fr,rfl,List.prefix_refl _⟩
    · exact absurd rfl hne
  · rw [hg]
    cases ht:args[t]? with
    |none=>exact ⟨.un ..,by cases vs.getD t undef<;>trivial⟩
    |some a=>exact ⟨(hv t a ht).1,(hv t a ht).2.1⟩
  · obtain ⟨cs0,ty,fr,h2,h5⟩:=htab e he
    have h4:e.1<W.heap.size:=by
     rcases Nat.lt_or_ge e.1 W.heap.size with h3|h3
     · exact h3
     · rw [Array.getElem?_eq_none h3] at h2;cases h2
    exact ⟨h4,cs0,ty,fr,h2,h5⟩
  · rw [hg] at ht
    cases hq:args[t]? with
    |none=>rw [hq] at ht;simp at ht
    |some a=>rw [hq] at ht;exact absurd ht (wY (hv t a hq).2.2 l k xs)
 refine (h.2 _ [] (C0 W) W vs hs).mono ?_
 rintro e w' ⟨r,v,aH,γ',C',rfl,hR, -,hs',hx⟩
 refine ⟨r,v,aH,γ',C',rfl,hR, ?_,hx.out.1,hx.out.2.1,hx.out.2.2,hx.size,fun k hk=>(hx.keep k hk).1⟩
 have:=(hs'.env 0).1
 simpa [get] using this
end Go.Am
end
section
namespace Go.Am
open Go Go.RowKit Go.Deep
variable [Tabs]
theorem LJ {W:World} {b o:Nat} {v:Value} (h:W.cell? ⟨b,o,none⟩=some v):o<(C0 W b).length∧(C0 W b).getD o undef=v:=by
 unfold C0
 unfold World.cell? at h
 simp only at h
 split at h
 · rename_i cs ty fr hb
   rw [hb]
   simp only at h ⊢
   have hlt:o<cs.size:=by
    rcases Nat.lt_or_ge o cs.size with h'|h'
    · exact h'
    · rw [Array.getElem?_eq_none h'] at h;cases h
   rw [Array.getElem?_eq_getElem hlt] at h
   injection h with h
   refine ⟨by simpa using hlt, ?_⟩
   rw [List.getD_eq_getElem?_getD,List.getElem?_eq_getElem (by simpa using hlt)]
   simpa using h
 · cases h
section
variable {H:Type} {enc:TypeId×Value→H} {P:Program} {W:World} {sp:Nat→Bool} {held:Bool}
theorem aeV {t e:TypeId} {A:Type} (g:A→AV) {v:Value} {d:DataW H} {ps:List MemPlace} {base:Nat} {r:Reach} (ht:P.underlying t=some (.slice e)) (hc:P.cellsOf e=1) (hval:Value.okWide P W r base t v)
 (h:DataW.Trod enc P W 0 sp held t v d ps)
 (hg:∀x,(g x).cells=[g x]) (he:∀n V y,DataW.trod enc P W 0 sp held n e [V]=some y→V.oneCell'=true∧∃x,VR (C0 W) [] (g x) V):∃xs:List A,VR (C0 W) [] (.sl .n 1 (xs.map g)) v:=by
 have hv:(v= .slice none 0 0)∨∃a len cap,v= .slice (some a) len cap∧a.spot=none:=by
  unfold Value.okWide at hval
  rw [ht] at hval
  simp only [Cell.okWide,ht,Cell.ok] at hval
  cases v with
  |slice a len cap=>
   cases a with
   |none=>cases len<;>cases cap<;>first|exact .inl rfl|exact hval.elim
   |some a=>exact .inr ⟨a,len,cap,rfl,hval.2.2.2.1⟩
  |_=>exact hval.elim
 obtain ⟨fuel,h⟩:=h
 rcases hv with rfl|⟨a,len,cap,rfl,hsp⟩
 · exact ⟨[], .sg ..⟩
 · rcases open_slice1 ht hc h with ⟨h0, -⟩|⟨a',len',cap',m,n,V,D,Pl,h1,hb,hl,hm,Ft,hx,hall⟩
   · simp [Value.cells] at h0
   · have h1:a'=a∧len'=len∧cap'=cap:=by simpa [Value.cells,eq_comm] using h1
     obtain ⟨rfl,rfl,rfl⟩:=h1
     have hlm:len'≤m:=by rw [Ft];split<;>omega
     have key:∀i,i<len'→∃x,VR (C0 W) [] (g x) (V i):=fun i hi=>(he n (V i) _ (hall i (by omega)).2).2
     obtain ⟨b,o,s⟩:=a'
     simp only at hsp
     subst hsp
     have hcell:∀i,i<len'→o+i<(C0 W b).length∧(C0 W b).getD (o+i) undef=V i:=fun i hi=>by
      have:=(hall i (by omega)).1
      rw [add_eq] at this
      exact LJ this
     by_cases h0:len'=0
     · subst h0;exact ⟨[], .sg ..⟩
     let f:Nat→A:=fun i=>if hi:i<len' then Classical.choose (key i hi) else Classical.choose (key 0 (by omega))
     have hf:∀i,i<len'→VR (C0 W) [] (g (f i)) (V i):=fun i hi=>by
      show VR (C0 W) [] (g (if hi:i<len' then Classical.choose (key i hi) else Classical.choose (key 0 (by omega)))) (V i)
      rw [dif_pos hi]
      exact Classical.choose_spec (key i hi)
     refine ⟨(List.range len').map f, .sl _ _ _ _ _ _ _ _ (by simp) hl (fun i a hi=> ?_) ?_ (fun q h1 h2=> ?_) fun i a hi j y hj=> ?_⟩
     · rw [List.getElem?_map,List.getElem?_map] at hi
       cases hr:(List.range len')[i]? with
       |none=>rw [hr] at hi;simp at hi
       |some q=>rw [hr] at hi;simp at hi;subst hi;rw [hg];rfl
     · have:=(hcell (len' - 1) (by omega)).1;omega
     · have:=hcell (q - o) (by omega)
       rw [show o+(q - o)=q by omega] at this
       rw [this.2]
       exact (he n (V (q - o)) _ (hall (q - o) (by omega)).2).1
     · rw [List.getElem?_map,List.getElem?_map] at hi
       cases hr:(List.range len')[i]? with
       |none=>rw [hr] at hi;simp at hi
       |some q=>
        rw [hr] at hi
        have hq:=(List.getElem?_eq_some_iff.1 hr)
        obtain ⟨hlt,hq⟩:=hq
        simp at hlt hq
        subst hq
        simp at hi
        subst hi
        rw [hg] at hj
        cases j with
        |zero=>
         simp at hj
         subst hj
         have:=hcell i hlt
         rw [Nat.mul_one,Nat.add_zero,this.2]
         exact hf i hlt
        |succ j=>simp at hj
end
end Go.Am
end
section
namespace Go.Am
open Go Go.RowKit Go.Deep
variable [Tabs]
def CR (W:World) (zq:List AV) (vs:List Value):Prop:=
 zq.length=vs.length∧(∀v∈vs,v.oneCell'=true)∧∀(j:Nat) (a:AV),zq[j]? =some a→VR (C0 W) [] a (vs.getD j undef)
theorem CR.nil {W:World}:CR W [] []:=⟨rfl,by simp,by simp⟩
theorem CR.one {W:World} {a:AV} {V:Value} (h:VR (C0 W) [] a V) (ho:V.oneCell'=true):CR W [a] [V]:=by
 refine ⟨rfl,by simpa using ho,fun j b hj=> ?_⟩
 rcases j with _|j
 · simp at hj;subst hj;simpa using h
 · simp at hj
theorem CR.append {W:World} {zq bs:List AV} {vs ws:List Value} (h:CR W zq vs) (h2:CR W bs ws):CR W (zq++bs) (vs++ws):=by
 refine ⟨by simp [h.1,h2.1],fun v hv=> ?_,fun j a hj=> ?_⟩
 · rcases List.mem_append.1 hv with hv|hv
   · exact h.2.1 v hv
   · exact h2.2.1 v hv
 · rw [List.getElem?_append] at hj
   split at hj
   · rename_i hlt
     have:=h.2.2 j a hj
     rw [List.getD_eq_getElem?_getD,List.getElem?_append_left (by rw [←h.1];exact hlt), ←List.getD_eq_getElem?_getD]
     exact this
   · rename_i hlt
     have:=h2.2.2 _ a hj
     rw [List.getD_eq_getElem?_getD,List.getElem?_append_right (by rw [←h.1];omega), ←List.getD_eq_getElem?_getD, ←h.1]
     exact this
def AV.WR:AV→Bool
 | .sl .n _ _=>true
 | .sl _ _ _| .agg _| .bK _=>false
 |_=>true
def AV.ab7:AV→Bool
 | .agg cs=>cs.all AV.WR
 |a=>a.WR
theorem TC.enc {w:World} {C:Nat→List Value} {a:AV} (h:a.ab7=true) (v:Value):TC w C a v:=by
 have h1:∀(a:AV) (v:Value),a.WR=true→lD a v:=by
  intro a v h
  cases a with
  |sl t k xs=>cases t<;>first|exact G7 .. |cases h
  |_=>first|(cases h;done)|(cases v<;>trivial)
 cases a with
 |agg cs=>
  cases v with
  |agg vs=>
   intro i a hi
   exact h1 a _ (List.all_eq_true.1 h a (List.mem_of_getElem? hi))
  |_=>trivial
 |sl t k xs=>cases t<;>first|(cases h;done)|(cases v<;>trivial)
 |_=>first|(cases h;done)|(cases v<;>trivial)
section
variable {H:Type} (enc:TypeId×Value→H) (P:Program) (W:World) (sp:Nat→Bool) (held:Bool)
def Op (t:TypeId) {A:Type} (f:A→AV):Prop:=∀n cs y,DataW.trod enc P W 0 sp held n t cs=some y→∃x:A,CR W (f x).cells cs
end
section
variable {H:Type} {enc:TypeId×Value→H} {P:Program} {W:World} {sp:Nat→Bool} {held:Bool}
theorem uA {t:TypeId} {k:IntKind} (ht:P.underlying t=some (.int k)):Op enc P W sp held t (jd k):=by
 intro n cs y h
 cases n with
 |zero=>simp [DataW.trod] at h
 |succ n=>
  rcases cs with _|⟨V,_|⟨V2,r⟩⟩
  · simp [DataW.trod,ht] at h
  · cases V<;>simp [DataW.trod,ht] at h
    rename_i k' z
    obtain ⟨⟨rfl,hw⟩, -⟩:=h
    exact ⟨z,CR.one (.int ..) rfl⟩
  · simp [DataW.trod,ht] at h
theorem aeW {t:TypeId} (ht:P.underlying t=some (.int .u8)):Op enc P W sp held t b8:=by
 intro n cs y h
 cases n with
 |zero=>simp [DataW.trod] at h
 |succ n=>
  rcases cs with _|⟨V,_|⟨V2,r⟩⟩
  · simp [DataW.trod,ht] at h
  · cases V<;>simp [DataW.trod,ht] at h
    rename_i k' z
    obtain ⟨⟨rfl,hw⟩, -⟩:=h
    have hz:0≤z∧z≤255:=by
     simp [Lit.wf,IntKind.min,IntKind.max,IntKind.bits,IntKind.signed] at hw
     omega
    refine ⟨UInt8.ofNat z.toNat,CR.one ?_ rfl⟩
    have:((UInt8.ofNat z.toNat).toNat:Int)=z:=by simp [UInt8.toNat_ofNat];omega
    simp only [b8,this]
    exact .int ..
  · simp [DataW.trod,ht] at h
theorem aef {t:TypeId} (ht:P.underlying t=some .bool):Op enc P W sp held t AV.bool:=by
 intro n cs y h
 cases n with
 |zero=>simp [DataW.trod] at h
 |succ n=>
  rcases cs with _|⟨V,_|⟨V2,r⟩⟩
  · simp [DataW.trod,ht] at h
  · cases V<;>simp [DataW.trod,ht] at h
    exact ⟨_,CR.one (.bool ..) rfl⟩
  · simp [DataW.trod,ht] at h
theorem Jb {t:TypeId} (ht:P.underlying t=some .string):Op enc P W sp held t AV.str:=by
 intro n cs y h
 cases n with
 |zero=>simp [DataW.trod] at h
 |succ n=>
  rcases cs with _|⟨V,_|⟨V2,r⟩⟩
  · simp [DataW.trod,ht] at h
  · cases V<;>simp [DataW.trod,ht] at h
    rename_i s
    refine ⟨s.data.toList,CR.one ?_ rfl⟩
    have:s=⟨s.data.toList.toArray⟩:=by cases s;simp
    have h2:=VR.str (C:=C0 W) [] s.data.toList
    rwa [←this] at h2
  · simp [DataW.trod,ht] at h
theorem LK {A:Type} {p:Nat→A→Prop}:∀(n:Nat),(∀i,i<n→∃x,p i x)→∃xs:List A,xs.length=n∧∀(i:Nat) (x:A),xs[i]? =some x→p i x:=by
 intro n
 induction n with
 |zero=>intro _;exact ⟨[],rfl,by simp⟩
 |succ n ih=>
  intro h
  obtain ⟨xs,h1,h2⟩:=ih fun i hi=>h i (by omega)
  obtain ⟨x,hx⟩:=h n (by omega)
  refine ⟨xs++[x],by simp [h1],fun i y hy=> ?_⟩
  rw [List.getElem?_append] at hy
  split at hy
  · exact h2 i y hy
  · rename_i hlt
    have:i=n:=by
     have:=(List.getElem?_eq_some_iff.1 hy).1
     simp at this;omega
    subst this
    rw [h1] at hy;simp at hy;subst hy;exact hx
theorem ab8 {t e:TypeId} {k:Nat} {A:Type} {f:A→AV} (ht:P.underlying t=some (.slice e)) (hk:P.cellsOf e=k) (zR:0<k) (hop:Op enc P W sp held e f) (hf:∀x,(f x).cells.length=k):
 Op enc P W sp held t (fun xs:List A=>AV.sl .n k (ml f xs)):=by
 intro n cs y h
 rcases open_slice ht h with ⟨rfl, -⟩|⟨a,len,cap,m,fu,D,Pl,rfl,hb,hl,hm,Ft, -,hx⟩
 · exact ⟨[],CR.one (.sg ..) rfl⟩
 have hlm:len≤m:=by rw [Ft];split<;>omega
 by_cases h0:len=0
 · subst h0;exact ⟨[],CR.one (.sg ..) rfl⟩
 subst hk
 have hel:∀i,i<len→∃x:A,∃cs',W.cells? 0 (a.add (i*P.cellsOf e)) (P.cellsOf e)=some cs'∧CR W (f x).cells cs':=fun i hi=>by
  obtain ⟨cs',h1,h2⟩:=hx i (by omega)
  obtain ⟨x,hc⟩:=hop _ _ _ h2
  exact ⟨x,cs',h1,hc⟩
 have hsp:a.spot=none:=by
  obtain ⟨x,cs',h1,hc⟩:=hel 0 (by omega)
  obtain ⟨-,h2,h3⟩:=World.cells?_some h1
  have h4:=h3 0 zR
  have h5:(a.add (0*P.cellsOf e)).add 0=a:=by simp [Addr.add]
  rw [h5,List.getElem?_eq_getElem (by omega)] at h4
  unfold World.cell? at h4
  split at h4
  · split at h4
    · cases h4
    · rename_i hq;cases hs:a.spot<;>simp_all
  · cases h4
 obtain ⟨b,o,s⟩:=a
 simp only at hsp
 subst hsp
 obtain ⟨xs,hlen,hxs⟩:=LK len hel
 have hcell:∀(i:Nat) (x:A),xs[i]? =some x→∃cs',CR W (f x).cells cs'∧cs'.length=P.cellsOf e∧∀j,j<P.cellsOf e→o+i*P.cellsOf e+j<(C0 W b).length∧(C0 W b).getD (o+i*P.cellsOf e+j) undef=cs'.getD j undef:=fun i x hi=>by
  obtain ⟨cs',h1,hc⟩:=hxs i x hi
  obtain ⟨-,h2,h3⟩:=World.cells?_some h1
  refine ⟨cs',hc,h2,fun j hj=> ?_⟩
  have h4:=h3 j hj
  rw [add_add,add_eq,List.getElem?_eq_getElem (by omega)] at h4
  have:=LJ h4
  rw [Nat.add_assoc,List.getD_eq_getElem?_getD (l:=cs'),List.getElem?_eq_getElem (by omega)]
  exact this
 refine ⟨xs,CR.one (.sl _ _ _ _ _ _ _ _ (by rw [Hx,hlen]) hl (fun i a hi=> ?_) ?_ (fun q h1 h2=> ?_) fun i a hi j y hj=> ?_) rfl⟩
 · rw [ml,List.getElem?_map] at hi
   cases hr:xs[i]? with
   |none=>rw [hr] at hi;simp at hi
   |some x=>rw [hr] at hi;simp at hi;subst hi;exact hf x
 · have LX:len - 1<xs.length:=by omega
   obtain ⟨cs', -, -,h3⟩:=hcell (len - 1) _ (List.getElem?_eq_getElem LX)
   have:=(h3 (P.cellsOf e - 1) (by omega)).1
   have h5:len*P.cellsOf e=(len - 1)*P.cellsOf e+P.cellsOf e:=by
    conv=>lhs;rw [show len=(len - 1)+1 by omega,Nat.succ_mul]
   omega
 · have hq:q - o<len*P.cellsOf e:=by omega
   have hi:(q - o) / P.cellsOf e<len:=Nat.div_lt_of_lt_mul (by rw [Nat.mul_comm];exact hq)
   have hj:(q - o) % P.cellsOf e<P.cellsOf e:=Nat.mod_lt _ zR
   obtain ⟨cs',hc,h2,h3⟩:=hcell ((q - o) / P.cellsOf e) _ (List.getElem?_eq_getElem (by omega))
   have h4:=(h3 _ hj).2
   have h5:o+(q - o) / P.cellsOf e*P.cellsOf e+(q - o) % P.cellsOf e=q:=by
    have:=Nat.div_add_mod (q - o) (P.cellsOf e)
    rw [Nat.mul_comm] at this
    omega
   rw [h5] at h4
   rw [h4,List.getD_eq_getElem?_getD,List.getElem?_eq_getElem (by omega)]
   exact hc.2.1 _ (List.getElem_mem ..)
 · rw [ml,List.getElem?_map] at hi
   cases hr:xs[i]? with
   |none=>rw [hr] at hi;simp at hi
   |some x=>
    rw [hr] at hi;simp at hi;subst hi
    obtain ⟨cs',hc,h2,h3⟩:=hcell i x hr
    have hjl:j<P.cellsOf e:=by rw [←hf x];exact (List.getElem?_eq_some_iff.1 hj).1
    rw [(h3 j hjl).2]
    exact hc.2.2 j y hj
theorem zI {t:TypeId} {fs:Array Field} {A:Type} {f:A→AV} (ht:P.underlying t=some (.struct fs))
 (hb:∀cs:List Value,cs.length=P.cellsOf t→(∀(i:Nat) (fl:Field),fs[i]? =some fl→∃n y,DataW.trod enc P W 0 sp held n fl.type ((cs.drop fl.offset).take (P.cellsOf fl.type))=some y)→∃x,CR W (f x).cells cs):
 Op enc P W sp held t f:=by
 intro n cs y h
 obtain ⟨xs,m, -, -,hl,hlen,hf⟩:=DataW.trod_struct ht h
 refine hb cs hl fun i fl hfl=> ?_
 have hlt:i<xs.length:=by rw [hlen];exact (Array.getElem?_eq_some_iff.1 hfl).1
 exact ⟨m,xs[i],by rw [hf i fl hfl,List.getElem?_eq_getElem hlt]⟩
theorem seg {cs:List Value} {o k:Nat}:(cs.drop o).take k++cs.drop (o+k)=cs.drop o:=by
 rw [←List.drop_drop,List.take_append_drop]
theorem Op.arg1 {t:TypeId} {A:Type} {f:A→AV} (hop:Op enc P W sp held t f) (hf:∀x,(f x).cells=[f x]) {v:Value} {d:DataW H} {ps:List MemPlace} {r:Reach} {base:Nat} (hs:∀cs,¬Value.okWide P W r base t (.agg cs))
 (hval:Value.okWide P W r base t v) (h:DataW.Trod enc P W 0 sp held t v d ps):∃x,VR (C0 W) [] (f x) v:=by
 obtain ⟨fuel,h⟩:=h
 obtain ⟨x,h1, -,h3⟩:=hop _ _ _ h
 rw [hf] at h1 h3
 have hc:v.cells.toList=[v]:=by
  cases v with
  |agg cs=>exact absurd hval (hs cs)
  |_=>rfl
 rw [hc] at h3
 exact ⟨x,by simpa using h3 0 (f x) rfl⟩
theorem Op.aeg {t:TypeId} {A:Type} {f:A→AV} (hop:Op enc P W sp held t f) {fs:Array Field} (ht:P.underlying t=some (.struct fs)) (hf:∀x,f x= .agg (f x).cells) {v:Value} {d:DataW H} {ps:List MemPlace} {r:Reach} {base:Nat}
 (hval:Value.okWide P W r base t v) (h:DataW.Trod enc P W 0 sp held t v d ps):∃x,VR (C0 W) [] (f x) v:=by
 obtain ⟨fuel,h⟩:=h
 obtain ⟨x,h1, -,h3⟩:=hop _ _ _ h
 unfold Value.okWide at hval
 rw [ht] at hval
 obtain ⟨cs,rfl, -, -⟩:=hval
 refine ⟨x, ?_⟩
 rw [hf x]
 refine .agg _ _ _ (by simpa [Value.cells] using h1) fun i a hi=> ?_
 have:=h3 i a hi
 simpa [Value.cells,Array.getD_eq_getD_getElem?,List.getD_eq_getElem?_getD] using this
theorem ab9 {t:TypeId} {k:IntKind} {r:Reach} {base:Nat} (ht:P.underlying t=some (.int k)) (cs:Array Value):¬Value.okWide P W r base t (.agg cs):=by
 simp [Value.okWide,Cell.okWide,Cell.ok,ht]
theorem ZQ {t:TypeId} {r:Reach} {base:Nat} (ht:P.underlying t=some .bool) (cs:Array Value):¬Value.okWide P W r base t (.agg cs):=by
 simp [Value.okWide,Cell.okWide,Cell.ok,ht]
theorem acd {t:TypeId} {r:Reach} {base:Nat} (ht:P.underlying t=some .string) (cs:Array Value):¬Value.okWide P W r base t (.agg cs):=by
 simp [Value.okWide,Cell.okWide,Cell.ok,ht]
theorem acs {t e:TypeId} {r:Reach} {base:Nat} (ht:P.underlying t=some (.slice e)) (cs:Array Value):¬Value.okWide P W r base t (.agg cs):=by
 simp [Value.okWide,Cell.okWide,Cell.ok,ht]
theorem Fo {ts:List TypeId} (hl:laidOutB P=true) {W W':World} (hb:Below W.heap.size W W'):∀ {vs:List Value} {ds:List (DataW H)} {ps:List MemPlace},(∀t∈ts,P.readableRec t=true∧t<P.types.size)→
 DataW.TrodAll enc P W 0 (fun _=>true) true ts vs ds ps→(∀x∈ps,x.block<W.heap.size)→DataW.TrodAll enc P W' 0 (fun b=>decide (b<W.heap.size)) true ts vs ds ps:=by
 induction ts with
 |nil=>
  intro vs ds ps _ h _
  cases vs<;>cases ds<;>simp [DataW.TrodAll] at h ⊢
  exact h
 |cons t ts ih=>
  intro vs ds ps ht h hlt
  cases vs<;>cases ds<;>simp only [DataW.TrodAll] at h ⊢
  obtain ⟨p,q,h1,h2,rfl⟩:=h
  exact ⟨p,q,Below.trod hl (ht t (by simp)).1 (ht t (by simp)).2 h1 hb (fun x hx=>hlt x (by simp [hx])),ih (fun t h=>ht t (by simp [h])) h2 (fun x hx=>hlt x (by simp [hx])),rfl⟩
end
end Go.Am
end
section
namespace Go.Proofs.YtdigbcafimghdaaGreatDoor
open Go.ChangeShapes Go.WideShapes Go.ChangeAt Go.RowKit Go.Am Go.Proofs.cL
theorem Own.own:ownKnob Tryz.prog.godebug=none:=by kernel_rfl
theorem Own.laidOut:laidOutB Tryz.prog=true:=by kernel_rfl
def tM:List (String×DataW Unit):=[("math/bits.deBruijn32tab",Rows.laid_math_bits_deBruijn32tab),("math/bits.deBruijn64tab",Rows.laid_math_bits_deBruijn64tab),("internal/strconv.uint64pow10",Rows.laid_internal_strconv_uint64pow10),("unicode/utf8.acceptRanges",Rows.laid_unicode_utf8_acceptRanges),("strconv.ErrRange",Rows.laid_strconv_ErrRange),("strconv.ErrSyntax",Rows.laid_strconv_ErrSyntax),("unicode/utf8.first",Rows.laid_unicode_utf8_first)]
noncomputable def zJ (os:Os):World:=
 {World.doorLaid Tryz.prog 4000 os with heap:=(World.doorLaid Tryz.prog 4000 os).heap.modify 3 fun
  | .cells _ t fr=> .cells (Go.Pinned.utf8FirstZ.map fun n:Nat=>Value.int .u8 (n:Int)).toArray t fr
  |o=>o}
set_option maxRecDepth 100000 in
theorem SE (os:Os) (args:Array Value):laidMetH Tryz.prog tM ((zJ os).forCall (fun _ _=>0) ⟨#[],args,[]⟩).memory:=
 laidMetH_of_parts3 (fuel:=8) (laidMet_of_run' 8 (by kernel_rfl) (by kernel_rfl)) (by kernel_rfl) (by kernel_rfl)
set_option maxRecDepth 100000 in
theorem Jc (os:Os) (args:Array Value):((zJ os).forCall (fun _ _=>0) ⟨#[],args,[]⟩).Shaped Tryz.prog:=World.shaped_of_RefB (by kernel_rfl) (by kernel_rfl)
end Go.Proofs.YtdigbcafimghdaaGreatDoor
end
section
namespace Go.Proofs.YtdigbcafimghdaaGreatDoor
open Go.ChangeShapes Go.WideShapes Go.ChangeAt Go.RowKit Go.Am Go.Proofs.cL
theorem GW {t:TypeId} {ms:Array (String×TypeId)} (ht:Tryz.prog.underlying t=some (.interface ms)) {H:Type} {enc:TypeId×Value→H} {W:World} {sp:Nat→Bool} {held:Bool} {fuel:Nat} {cs:List Value} {y:DataW H×List MemPlace}
 (h:DataW.trod enc Tryz.prog W 0 sp held fuel t cs=some y):∃ev,cs=[ev]∧(ev= .nilIface∨∃te pe,ev= .iface te pe):=by
 cases fuel with
 |zero=>simp [DataW.trod] at h
 |succ n=>
  rcases cs with _|⟨v,_|⟨v2,r⟩⟩
  · simp [DataW.trod,ht] at h
  · cases v<;>first|exact ⟨_,rfl, .inl rfl⟩|exact ⟨_,rfl, .inr ⟨_,_,rfl⟩⟩|(exfalso;simp [DataW.trod,ht] at h)
  · cases v<;>simp [DataW.trod,ht] at h
theorem zK {W:World} {name:String} {g:Nat} {cs:Array Value} (hg:Tryz.prog.globalNamed name=some g) (h:W.var? Tryz.prog name=some cs):∃t fr,W.heap[g]? =some (.cells cs t fr):=by
 simp only [World.var?,hg,Option.bind_some] at h
 split at h
 · rename_i c t fr hb
   injection h with h
   subst h
   exact ⟨t,fr,hb⟩
 · cases h
theorem Oz {W:World} (hs:W.ShapedOpen Tryz.prog) (h:laidMetH Tryz.prog tM W):∀e∈Tabs.l,∃cs ty fr,W.heap[e.1]? =some (.cells cs ty fr)∧e.2 cs:=by
 rw [MakeChecks.laidMetH_plain _ _ _ (by kernel_rfl)] at h
 obtain ⟨ps,⟨g0,t0,cs0,f0,p0,q0,Xs,ht0,hv0,hd0,⟨g1,t1,Xw,f1,p1,q1,XC,ht1,hv1,hd1,⟨g2,t2,cs2,f2,p2,q2,JD,ht2,Fs,CK,⟨g3,t3,cs3,f3,p3,q3,hg3,ht3,hv3,hd3,⟨g4,t4,cs4,f4,p4,q4,hg4,ht4,hv4,hd4,⟨g5,t5,cs5,f5,p5,q5,hg5,ht5,hv5,hd5,_,_⟩,_⟩,_⟩,_⟩,_⟩,_⟩,_⟩:=h
 intro e he
 simp only [Tabs.l,List.mem_cons,List.mem_nil_iff,or_false] at he
 rcases he with rfl|rfl|rfl|rfl
 · obtain ⟨cs,hh,hsz, -⟩:=hs.1 0 #[.int .i64 0] 3 (of_decide_eq_true (by kernel_rfl)) (by kernel_rfl)
   obtain ⟨m,hm⟩:=cell_of_shapedOpen_int (g:=0) (t:=3) (k:= .i64) (zero:= #[.int .i64 0]) hs (of_decide_eq_true (by kernel_rfl)) (by kernel_rfl) rfl (by kernel_rfl) (by kernel_rfl) (by kernel_rfl)
   refine ⟨cs,_,_,hh,m, ?_⟩
   have h1:cs.size=1:=hsz
   apply Array.ext
   · exact h1
   · intro i hi _
     have:i=0:=by omega
     subst this
     simpa [World.cell?,hh,h1] using hm
 · have hg:Tryz.prog.globalNamed "internal/strconv.uint64pow10" =some 5:=by kernel_rfl
   obtain rfl:=Option.some.inj (hg.symm.trans JD)
   obtain rfl:=Option.some.inj ((show (Tryz.prog.globals[5]?).map (·.type)=some 157 by kernel_rfl).symm.trans ht2)
   have hc:cs2.toList=Lib.pow10Tab.map fun z=>Value.int .u64 z:=Lib.cells_of_tab (n:=20) (e:=104) (k:= .u64) Tryz.underlying157 (by kernel_rfl) (by kernel_rfl) (by kernel_rfl) CK
   obtain ⟨t,fr,hb⟩:=zK hg Fs
   refine ⟨cs2,t,fr,hb, ?_⟩
   simp only [←hc,Array.toArray_toList]
 · have hg:Tryz.prog.globalNamed "strconv.ErrSyntax" =some 1:=by kernel_rfl
   obtain rfl:=Option.some.inj (hg.symm.trans hg5)
   obtain rfl:=Option.some.inj ((show (Tryz.prog.globals[1]?).map (·.type)=some 116 by kernel_rfl).symm.trans ht5)
   obtain ⟨ev,he,hev⟩:=GW Tryz.underlying116 hd5
   obtain ⟨t,fr,hb⟩:=zK hg hv5
   exact ⟨cs5,t,fr,hb,ev,by rw [←Array.toArray_toList (xs:=cs5),he],hev⟩
 · have hg:Tryz.prog.globalNamed "strconv.ErrRange" =some 2:=by kernel_rfl
   obtain rfl:=Option.some.inj (hg.symm.trans hg4)
   obtain rfl:=Option.some.inj ((show (Tryz.prog.globals[2]?).map (·.type)=some 116 by kernel_rfl).symm.trans ht4)
   obtain ⟨ev,he,hev⟩:=GW Tryz.underlying116 hd4
   obtain ⟨t,fr,hb⟩:=zK hg hv4
   exact ⟨cs4,t,fr,hb,ev,by rw [←Array.toArray_toList (xs:=cs4),he],hev⟩
section
variable {H:Type} {enc:TypeId×Value→H}
theorem Cm {a:Assume} {C:Checked} {os:Os} {f:FuncId} {fn:Func} {s:ChangeSpec} {conds:List PathCond} {apart fresh handsOn again:Bool} {X:World→Array Value→Prop}
 (hX:∀(w w':World) (args:Array Value),w.heap=w'.heap→X w args→X w' args)
 (own:ownKnob C.prog.godebug=none) (started:os.Started) (noInit:C.prog.inits.idxOf? f=none) (hfn:C.prog.funcs[f]? =some fn)
 (witness:∃(w:World) (tape:Tape) (i:Input),w.os=os∧(w.forCall tape i).Shaped C.prog∧i.vars=[]∧Input.okWide C.prog (w.forCall tape i) .any w.heap.size f i∧
  ((s.pre enc C.prog fn conds apart (w.forCall tape i).memory i.args∧X (w.forCall tape i).memory i.args)∧sizedMet enc C.prog fn (OpenSpec.ofChange s) apart (w.forCall tape i).memory i.args)∧a.holds C.prog (lone (Frame.enter C.prog f i.args .normal) [] (w.forCall tape i)))
 (contract:∀(W:World) (base:Nat) (args:Array Value) (ds gs:List (DataW H)) (before:List MemPlace),
  (∀(j:Nat) t v,fn.params[j]? =some t→args[j]? =some v→Value.okWide C.prog W .any base t v)→
  DataW.Whole enc C.prog fn.params.toList s.vars apart W args.toList ds gs before→W.ShapedOpen C.prog→X W args→
  Calls C.prog f args W fun e W'=>∃v,e= .returned v∧s.post enc C.prog fn apart fresh handsOn again W args v W'):
 ReturnsInHanded a C os f .any (fun w args=>(s.pre enc C.prog fn conds apart w args∧X w args)∧sizedMet enc C.prog fn (OpenSpec.ofChange s) apart w args) (s.post enc C.prog fn apart fresh handsOn again):=by
 refine returnsInHanded_of_calls own started noInit witness ?_
 rintro w tape i - Zk - ⟨-, -, -,fn2,aeh, -, -, -, -,ace⟩ ⟨⟨⟨ds,gs,before,Zl, -⟩,hx⟩, -⟩ -
 obtain rfl:fn2=fn:=Option.some.inj (aeh.symm.trans hfn)
 refine (contract (w.forCall tape i) _ i.args ds gs before ace (DataW.Whole.of_heap (w':=w.forCall tape i) (by rfl) Zl) Zk (hX _ _ _ (by rfl) hx)).mono ?_
 rintro e W' ⟨v,rfl,hp⟩
 exact ChangeSpec.post_blind hp
end
theorem aei {P:Program} {W:World} {r:Reach} {base:Nat} {t:TypeId} {k:IntKind} (ht:P.underlying t=some (.int k)) {C:Nat→List Value} {γ:List Nat} {x:Int} {v:Value} (hv:VR C γ (.int k x) v) (h:Value.okWide P W r base t v):k.has x:=by
 obtain rfl:=hv.cS
 unfold Value.okWide at h
 rw [ht] at h
 unfold Cell.okWide Cell.ok at h
 rw [ht] at h
 exact h.2
end Go.Proofs.YtdigbcafimghdaaGreatDoor
end
section
namespace Go.Proofs.YtdigbcafimghdaaGreatDoor
open Go.Am Go.Proofs.cL
theorem WT {P:Program} {W:World} {r:Reach} {base:Nat} {t u:TypeId} {fs:Array Field} {k:IntKind} {ts:List TypeId} {i:Nat} (ht:P.underlying t=some (.struct fs))
 (hts:P.cellTypes P.depth t=some ts) (hu:ts[i]? =some u) (hk:P.underlying u=some (.int k)) {C:Nat→List Value} {γ:List Nat} {zs:List AV} {x:Int} {v:Value}
 (hv:VR C γ (.agg zs) v) (ha:zs[i]? =some (.int k x)) (h:Value.okWide P W r base t v):k.has x:=by
 obtain ⟨vs,rfl,hl,hv⟩:=hv.lN
 unfold Value.okWide at h
 rw [ht] at h
 obtain ⟨cs,e, -,LZ,aej, -,hr⟩:=h
 injection e with e
 subst e
 obtain rfl:=Option.some.inj (aej.symm.trans hts)
 have hi:i<LZ.length:=(List.getElem?_eq_some_iff.1 hu).1
 have hi2:i<vs.size:=by have:=(List.getElem?_eq_some_iff.1 ha).1;omega
 have h1:=hv i _ ha
 have hg:vs[i]? =some (vs.getD i undef):=by
  rw [Array.getElem?_eq_getElem hi2]
  simp [Array.getD,hi2]
 obtain ⟨u2,h2,h3⟩:=hr i _ hg
 rw [Nat.mod_eq_of_lt hi,hu] at h2
 obtain rfl:=Option.some.inj h2
 have e:=h1.cS
 rw [e] at h3
 unfold Cell.okWide Cell.ok at h3
 rw [hk] at h3
 exact h3.2
end Go.Proofs.YtdigbcafimghdaaGreatDoor
end
section
namespace Go.Proofs.YtdigbcafimghdaaGreatDoor
open Go.ChangeShapes Go.WideShapes Go.ChangeAt Go.RowKit Go.Am Go.Proofs.cL
abbrev sO (x:ak):AV:= .agg [(.str x.av.au),(.str x.av.domain),(.int .i64 x.born),(.int .i64 x.size),(.int .u32 x.sum),(.sl .n 7 (ml aC x.az))]
abbrev mD (x:aJ):AV:= .agg [(.str x.au),(.str x.domain)]
theorem WX {H:Type} {enc:TypeId×Value→H} {W:World} {sp:Nat→Bool} {held:Bool}:Am.Op enc Tryz.prog W sp held 23 mD:=by
 refine zI (fs:= #[⟨"Local",9,0,false, "", "",0⟩,⟨"Domain",9,1,false, "", "",16⟩]) (by kernel_rfl) fun cs hl hf=> ?_
 have hl:cs.length=2:=hl.trans (by kernel_rfl)
 obtain ⟨n0,y0,h0⟩:=hf 0 _ rfl
 obtain ⟨x0,c0⟩:=((Jb (by kernel_rfl)):Am.Op enc Tryz.prog W sp held 9 AV.str) _ _ _ h0
 have c0:CR W (AV.str x0).cells ((cs.drop 0).take (Tryz.prog.cellsOf 9)):=c0
 rw [show Tryz.prog.cellsOf 9=1 by kernel_rfl] at c0
 obtain ⟨n1,y1,h1⟩:=hf 1 _ rfl
 obtain ⟨x1,c1⟩:=((Jb (by kernel_rfl)):Am.Op enc Tryz.prog W sp held 9 AV.str) _ _ _ h1
 have c1:CR W (AV.str x1).cells ((cs.drop 1).take (Tryz.prog.cellsOf 9)):=c1
 rw [show Tryz.prog.cellsOf 9=1 by kernel_rfl] at c1
 refine ⟨aJ.mk x0 x1, ?_⟩
 have key:=(c0.append c1)
 have hcs:(cs.drop 0).take 1++((cs.drop 1).take 1)=cs:=by
  rw [List.take_of_length_le (i:=1) (l:=cs.drop 1) (by simp;omega)]
  rw [show cs.drop 1=cs.drop (0+1) from rfl,seg]
  rfl
 have key:CR W _ ((cs.drop 0).take 1++((cs.drop 1).take 1)):=key
 rw [hcs] at key
 exact key
theorem acf {H:Type} {enc:TypeId×Value→H} {W:World} {sp:Nat→Bool} {held:Bool}:Am.Op enc Tryz.prog W sp held 57 aC:=by
 refine zI (fs:= #[⟨"To",23,0,false, "", "",0⟩,⟨"State",3,2,false, "", "",32⟩,⟨"Tries",3,3,false, "", "",40⟩,⟨"Next",3,4,false, "", "",48⟩,⟨"Code",3,5,false, "", "",56⟩,⟨"Why",9,6,false, "", "",64⟩]) (by kernel_rfl) fun cs hl hf=> ?_
 have hl:cs.length=7:=hl.trans (by kernel_rfl)
 obtain ⟨n0,y0,h0⟩:=hf 0 _ rfl
 obtain ⟨x0,c0⟩:=(WX:Am.Op enc Tryz.prog W sp held 23 mD) _ _ _ h0
 have c0:CR W (mD x0).cells ((cs.drop 0).take (Tryz.prog.cellsOf 23)):=c0
 rw [show Tryz.prog.cellsOf 23=2 by kernel_rfl] at c0
 obtain ⟨n1,y1,h1⟩:=hf 1 _ rfl
 obtain ⟨x1,c1⟩:=((uA (by kernel_rfl)):Am.Op enc Tryz.prog W sp held 3 (jd .i64)) _ _ _ h1
 have c1:CR W ((jd .i64) x1).cells ((cs.drop 2).take (Tryz.prog.cellsOf 3)):=c1
 rw [show Tryz.prog.cellsOf 3=1 by kernel_rfl] at c1
 obtain ⟨n2,y2,h2⟩:=hf 2 _ rfl
 obtain ⟨x2,c2⟩:=((uA (by kernel_rfl)):Am.Op enc Tryz.prog W sp held 3 (jd .i64)) _ _ _ h2
 have c2:CR W ((jd .i64) x2).cells ((cs.drop 3).take (Tryz.prog.cellsOf 3)):=c2
 rw [show Tryz.prog.cellsOf 3=1 by kernel_rfl] at c2
 obtain ⟨n3,y3,h3⟩:=hf 3 _ rfl
 obtain ⟨x3,c3⟩:=((uA (by kernel_rfl)):Am.Op enc Tryz.prog W sp held 3 (jd .i64)) _ _ _ h3
 have c3:CR W ((jd .i64) x3).cells ((cs.drop 4).take (Tryz.prog.cellsOf 3)):=c3
 rw [show Tryz.prog.cellsOf 3=1 by kernel_rfl] at c3
 obtain ⟨n4,y4,h4⟩:=hf 4 _ rfl
 obtain ⟨x4,c4⟩:=((uA (by kernel_rfl)):Am.Op enc Tryz.prog W sp held 3 (jd .i64)) _ _ _ h4
 have c4:CR W ((jd .i64) x4).cells ((cs.drop 5).take (Tryz.prog.cellsOf 3)):=c4
 rw [show Tryz.prog.cellsOf 3=1 by kernel_rfl] at c4
 obtain ⟨n5,y5,h5⟩:=hf 5 _ rfl
 obtain ⟨x5,c5⟩:=((Jb (by kernel_rfl)):Am.Op enc Tryz.prog W sp held 9 AV.str) _ _ _ h5
 have c5:CR W (AV.str x5).cells ((cs.drop 6).take (Tryz.prog.cellsOf 9)):=c5
 rw [show Tryz.prog.cellsOf 9=1 by kernel_rfl] at c5
 refine ⟨bl.mk x0 x1 x2 x3 x4 x5, ?_⟩
 have key:=(c0.append (c1.append (c2.append (c3.append (c4.append c5)))))
 have hcs:(cs.drop 0).take 2++((cs.drop 2).take 1++((cs.drop 3).take 1++((cs.drop 4).take 1++((cs.drop 5).take 1++((cs.drop 6).take 1)))))=cs:=by
  rw [List.take_of_length_le (i:=1) (l:=cs.drop 6) (by simp;omega)]
  rw [show cs.drop 6=cs.drop (5+1) from rfl,seg]
  rw [show cs.drop 5=cs.drop (4+1) from rfl,seg]
  rw [show cs.drop 4=cs.drop (3+1) from rfl,seg]
  rw [show cs.drop 3=cs.drop (2+1) from rfl,seg]
  rw [show cs.drop 2=cs.drop (0+2) from rfl,seg]
  rfl
 have key:CR W _ ((cs.drop 0).take 2++((cs.drop 2).take 1++((cs.drop 3).take 1++((cs.drop 4).take 1++((cs.drop 5).take 1++((cs.drop 6).take 1)))))):=key
 rw [hcs] at key
 exact key
theorem acg {H:Type} {enc:TypeId×Value→H} {W:World} {sp:Nat→Bool} {held:Bool}:Am.Op enc Tryz.prog W sp held 27 sO:=by
 refine zI (fs:= #[⟨"From",23,0,false, "", "",0⟩,⟨"Born",3,2,false, "", "",32⟩,⟨"Size",3,3,false, "", "",40⟩,⟨"Sum",24,4,false, "", "",48⟩,⟨"Rcpts",25,5,false, "", "",56⟩]) (by kernel_rfl) fun cs hl hf=> ?_
 have hl:cs.length=6:=hl.trans (by kernel_rfl)
 obtain ⟨n0,y0,h0⟩:=hf 0 _ rfl
 obtain ⟨x0,c0⟩:=(WX:Am.Op enc Tryz.prog W sp held 23 mD) _ _ _ h0
 have c0:CR W (mD x0).cells ((cs.drop 0).take (Tryz.prog.cellsOf 23)):=c0
 rw [show Tryz.prog.cellsOf 23=2 by kernel_rfl] at c0
 obtain ⟨n1,y1,h1⟩:=hf 1 _ rfl
 obtain ⟨x1,c1⟩:=((uA (by kernel_rfl)):Am.Op enc Tryz.prog W sp held 3 (jd .i64)) _ _ _ h1
 have c1:CR W ((jd .i64) x1).cells ((cs.drop 2).take (Tryz.prog.cellsOf 3)):=c1
 rw [show Tryz.prog.cellsOf 3=1 by kernel_rfl] at c1
 obtain ⟨n2,y2,h2⟩:=hf 2 _ rfl
 obtain ⟨x2,c2⟩:=((uA (by kernel_rfl)):Am.Op enc Tryz.prog W sp held 3 (jd .i64)) _ _ _ h2
 have c2:CR W ((jd .i64) x2).cells ((cs.drop 3).take (Tryz.prog.cellsOf 3)):=c2
 rw [show Tryz.prog.cellsOf 3=1 by kernel_rfl] at c2
 obtain ⟨n3,y3,h3⟩:=hf 3 _ rfl
 obtain ⟨x3,c3⟩:=((uA (by kernel_rfl)):Am.Op enc Tryz.prog W sp held 24 (jd .u32)) _ _ _ h3
 have c3:CR W ((jd .u32) x3).cells ((cs.drop 4).take (Tryz.prog.cellsOf 24)):=c3
 rw [show Tryz.prog.cellsOf 24=1 by kernel_rfl] at c3
 obtain ⟨n4,y4,h4⟩:=hf 4 _ rfl
 obtain ⟨x4,c4⟩:=((ab8 (e:=57) (k:=7) (f:=aC) (by kernel_rfl) (by kernel_rfl) (by decide) acf (fun _=>rfl)):Am.Op enc Tryz.prog W sp held 25 (fun xs=>AV.sl .n 7 (ml aC xs))) _ _ _ h4
 have c4:CR W ((fun xs=>AV.sl .n 7 (ml aC xs)) x4).cells ((cs.drop 5).take (Tryz.prog.cellsOf 25)):=c4
 rw [show Tryz.prog.cellsOf 25=1 by kernel_rfl] at c4
 refine ⟨ak.mk x0 x1 x2 x3 x4, ?_⟩
 have key:=(c0.append (c1.append (c2.append (c3.append c4))))
 have hcs:(cs.drop 0).take 2++((cs.drop 2).take 1++((cs.drop 3).take 1++((cs.drop 4).take 1++((cs.drop 5).take 1))))=cs:=by
  rw [List.take_of_length_le (i:=1) (l:=cs.drop 5) (by simp;omega)]
  rw [show cs.drop 5=cs.drop (4+1) from rfl,seg]
  rw [show cs.drop 4=cs.drop (3+1) from rfl,seg]
  rw [show cs.drop 3=cs.drop (2+1) from rfl,seg]
  rw [show cs.drop 2=cs.drop (0+2) from rfl,seg]
  rfl
 have key:CR W _ ((cs.drop 0).take 2++((cs.drop 2).take 1++((cs.drop 3).take 1++((cs.drop 4).take 1++((cs.drop 5).take 1))))):=key
 rw [hcs] at key
 exact key
set_option maxRecDepth 100000 in
theorem Du (os:Os) (started:os.Started) (H:Type) (enc:TypeId×Value→H):
 ReturnsInHanded {} Tryz.checked os 3 .any (fun w args=>(Rows.envBackSpec.pre enc Tryz.prog Tryz.f3 [] false w args∧laidMetH Tryz.prog tM w)∧sizedMet enc Tryz.prog Tryz.f3 (OpenSpec.ofChange Rows.envBackSpec) false w args) (Rows.envBackSpec.post enc Tryz.prog Tryz.f3 false true false false):=by
 refine Cm (C:=Tryz.checked) (X:=fun w _=>laidMetH Tryz.prog tM w) (fun _ _ _ hh h=>h.of_heap hh) Own.own started (by kernel_rfl) Tryz.func3
  (ChangeSpec.witness_shaped (enc:=enc) (C:=Tryz.checked) (os:=os) (X:=fun w _=>laidMetH Tryz.prog tM w) false (zJ os) #[.agg #[.string ⟨#[]⟩, .string ⟨#[]⟩, .int .i64 0, .int .i64 0, .int .u32 0, .slice none 0 0]] 8 rfl (Jc os _) (by kernel_rfl) (by kernel_rfl) (by kernel_rfl) (SE os _)) ?_
 intro W base args ds gs before ach hW hS hL
 have hval:∀(j:Nat) t v,Tryz.f3.params[j]? =some t→args[j]? =some v→Value.okWide Tryz.prog W .any base t v:=ach
 have hW':=hW
 obtain ⟨p,q,hA0,hV,rfl,hfz,hnd⟩:=hW
 have hA:DataW.TrodAll enc Tryz.prog W 0 (fun _=>true) true Tryz.f3.params.toList args.toList ds p:=hA0
 have hA1:=hA
 rw [Tryz.params3] at hA hval
 obtain ⟨vs,hvs⟩:∃vs,vs=args.toList:=⟨_,rfl⟩
 rw [←hvs] at hA
 obtain ⟨v0,vs0,d0,ds0,p0,q0,e0,rfl,rfl,h0,hA⟩:=trodAll_cons hA
 obtain ⟨e1,rfl,rfl⟩:=trodAll_nil hA
 have hargs:args= #[v0]:=by
  apply Array.ext';rw [←hvs,e0,e1]
 subst hargs
 obtain ⟨rfl,rfl⟩:=trodVars_none hV
 obtain ⟨x0,a0⟩:=Op.aeg (f:=sO) (fs:= #[⟨"From",23,0,false, "", "",0⟩,⟨"Born",3,2,false, "", "",32⟩,⟨"Size",3,3,false, "", "",40⟩,⟨"Sum",24,4,false, "", "",48⟩,⟨"Rcpts",25,5,false, "", "",56⟩]) acg (by kernel_rfl) (fun _=>rfl) (hval 0 27 v0 rfl rfl) h0
 have hlt:∀x∈p0++([]),x.block<W.heap.size:=fun x hx=>hW'.lt x (by simpa using hx)
 have b0:IntKind.u32.has x0.sum:=WT (zs:=(sO x0).cells) (i:=4) (u:=24) (ts:=[9,9,3,3,24,25]) (fs:= #[⟨"From",23,0,false, "", "",0⟩,⟨"Born",3,2,false, "", "",32⟩,⟨"Size",3,3,false, "", "",40⟩,⟨"Sum",24,4,false, "", "",48⟩,⟨"Rcpts",25,5,false, "", "",56⟩]) (by kernel_rfl) (by kernel_rfl) rfl (by kernel_rfl) a0 rfl (hval 0 27 v0 rfl rfl)
 have b1:0≤x0.sum∧x0.sum≤4294967295:=by
  simpa [IntKind.has,IntKind.bits,IntKind.signed,IntKind.min,IntKind.max] using b0
 obtain ⟨F,hF⟩:=Ja x0 b1
 refine ((Bg (H0:=[]) hF).row (vs:= #[v0]) (Oz hS hL) rfl ?_).mono ?_
 · intro i x hi
   rcases i with _|i
   · simp at hi;subst hi;exact ⟨a0,TC.enc (by rfl) _,rfl⟩
   · simp at hi
 · rintro e W' ⟨r,v,aH,γ',C',rfl,⟨rfl,rfl⟩,hv,hb⟩
   have hv:=hv.gJ
   subst hv
   refine ⟨_,rfl,_,_,_,[],p0++([]),[],hW', ?_, ?_, ?_,hb.frame _,fun h=>by cases h⟩
   · exact trodAll_mk1 (shut_bool (by kernel_rfl) true)
   · exact Fo Own.laidOut hb (of_decide_eq_true (by kernel_rfl)) hA1 hlt
   · exact rfl
theorem Fp:Rows.EnvBackSaid:=
 OpenClaim.holds_of_wide 3 Tryz.f3 rfl rfl rfl rfl rfl rfl rfl ⟨rfl,rfl,rfl,rfl,rfl⟩ rfl rfl rfl rfl rfl (by kernel_rfl) Tryz.func3 (by kernel_rfl)
  (of_decide_eq_true (by kernel_rfl)) (by unfold Func.isWrapper;first|(rw [if_pos (by decide+kernel)];kernel_rfl)|(rw [if_neg (by decide+kernel)];exact ⟨rfl,rfl⟩))
  (fun os started H enc _=>Du os started H enc)
theorem envBack_tied:Rows.EnvBackCardSaid:=
 Claim7.holds_tied_plain_at .later [] [.data, .data, .data, .data, .sentinel, .sentinel, .pinned] true Rows.envBackCard.stood.harness true
  Fp (fun _ h=>by cases h) (by kernel_rfl) (fun _ h=>by cases h) envBack_row_tie rfl ⟨rfl,rfl⟩ (by kernel_rfl) rfl
  (fun f fn hf hfn=>by
   obtain rfl:f=3:=Option.some.inj ((show Tryz.prog.funcNamed Rows.envBackRow.func=some 3 by kernel_rfl).symm.trans hf) |>.symm
   obtain rfl:fn=Tryz.f3:=(Option.some.inj (Tryz.func3.symm.trans hfn)).symm
   exact ⟨by kernel_rfl,fun j t ht=>by
    rw [Tryz.params3] at ht
    have hm:t∈[27]:=by have:=Array.mem_of_getElem? ht;simpa using this
    have hall:([27].all fun u=> !Tryz.prog.wantsStandIn u)=true:=by kernel_rfl
    exact (show Tryz.prog.wantsStandIn t=false by simpa using List.all_eq_true.1 hall t hm)⟩)
  (by kernel_rfl)
end Go.Proofs.YtdigbcafimghdaaGreatDoor
end
