/- The law BounceNone returns true at every input whose tables read as laid; each argument reads behind the call as it did; the tied card. -/
import Derived.Test.YtomkmghgppgegaaGreatDoorM5
import Derived.Below
import Derived.Deep.Slices
import Derived.Carry
import Derived.Test.YtomkmghgppgegaaGreatDoorRows
import Derived.ProofKit
import Derived.LaidMore
import Derived.Lib.LaidTab
import Derived.Shelf.Vars
import Derived.HandedShaped
import Derived.Test.YtomkmghgppgegaaGreatDoorCards
import Derived.Test.YtomkmghgppgegaaGreatDoorTie
import Derived.SevenTiedAt
set_option linter.unusedSimpArgs false
set_option linter.unusedVariables false
set_option linter.unusedSectionVars false
set_option linter.defProp false
section
set_option maxRecDepth 100000
namespace Go.Proofs.cD
open Go Go.Am Go.Proofs
theorem Yr:∀(k:Nat) (r b rest:List UInt8),r.length≤k→qL r=some (b,rest)→b.length+rest.length≤r.length:=by
 intro k
 induction k with
 |zero=>
  intro r b rest hk h
  have hr:r=[]:=List.length_eq_zero_iff.1 (by omega)
  subst hr;cases h
 |succ k ih=>
  intro r b rest hk h
  match r,hk,h with
  |[],hk,h=>cases h
  |c::r,hk,h=>
   rw [wN] at h
   simp only [List.length_cons] at hk ⊢
   split at h
   · injection h with h;injection h with h1 h2;subst h1 h2;simp
   · split at h
     · match r,hk,h with
       |[],hk,h=>cases h
       |d::r',hk,h=>
        simp only at h
        split at h
        · simp only [Option.map_eq_some_iff] at h
          obtain ⟨⟨b',rest'⟩,h1,h2⟩:=h
          injection h2 with h2 h3
          subst h2 h3
          have:=ih r' b' rest' (by simp at hk;omega) h1
          simp;omega
        · cases h
     · split at h
       · simp only [Option.map_eq_some_iff] at h
         obtain ⟨⟨b',rest'⟩,h1,h2⟩:=h
         injection h2 with h2 h3
         subst h2 h3
         have:=ih r b' rest' (by omega) h1
         simp;omega
       · cases h
theorem Ys (q:UInt8→Bool) (r:List UInt8):(r.dropWhile q).length≤r.length:=(List.dropWhile_suffix q).length_le
theorem Ll {r b t:List UInt8} (h:mJ r=some (b,t)):b.length≤r.length∧t.length≤r.length:=by
 unfold mJ at h
 split at h
 · split at h
   · rename_i b' rest' hq
     have:=Yr _ _ _ _ (Nat.le_refl _) hq
     have hd:(r.drop 1).length≤r.length:=by simp
     split at h
     · cases h
     · injection h with h;injection h with h1 h2;subst h1 h2;omega
   · cases h
 · split at h
   · injection h with h;injection h with h1 h2;subst h1 h2
     exact ⟨AJ _ _,Ys _ _⟩
   · cases h
theorem F7 {r b t:List UInt8} (h:iD r=some (b,t)):b.length≤r.length:=by
 unfold iD at h
 split at h
 · injection h with h;injection h with h1 _;subst h1;exact AJ _ _
 · cases h
theorem R2:∀(k:Nat) (r r':List UInt8),GC k r=some r'→r'.length≤r.length:=by
 intro k
 induction k with
 |zero=>intro r r' h;cases h
 |succ k ih=>
  intro r r' h
  simp only [GC] at h
  split at h
  · split at h
    · cases h
    · rename_i b r2 hd
      have h1:=AK hd
      have h2:(r.drop 1).length≤r.length:=by simp
      have h3:(r2.drop 1).length≤r2.length:=by simp
      split at h
      · have:=ih _ _ h;omega
      · split at h
        · injection h with h;subst h;omega
        · cases h
  · cases h
theorem Lm {r r':List UInt8} (h:rI r=some r'):r'.length≤r.length:=by
 unfold rI at h
 split at h
 · exact R2 _ _ _ h
 · injection h with h;subst h;exact Nat.le_refl _
theorem R3 {r rest:List UInt8} {a:aD} (h:AL r=some (a,rest)):a.ax.length≤r.length∧a.domain.length≤r.length:=by
 unfold AL at h
 split at h
 · cases h
 · rename_i r1 hr
   have h1:=Lm hr
   split at h
   · cases h
   · rename_i l r2 hl
     have h2:=Ll hl
     split at h
     · split at h
       · cases h
       · rename_i d r3 hd
         have h3:=F7 hd
         have h4:(r2.drop 1).length≤r2.length:=by simp
         split at h
         · injection h with h;injection h with h5 _;subst h5;simp only;omega
         · cases h
     · cases h
theorem VL {s:List UInt8} {F:Nat} (hs:s.length≤40000) (hF:2*s.length+10<F):pS F s=some (sG s):=by
 have hz:=At.zero (s:=s) (by omega)
 have abb:dQ ⟨[],[]⟩=true:=by simp [dQ,fZ]
 unfold pS sG N2
 rw [show (aA.mk s 0 false)=⟨s,((0:Nat):Int),false⟩ from rfl]
 by_cases Yt:nx s=60
 · obtain ⟨r,rfl⟩:=qm Yt (by decide)
   rw [xb hz,Option.bind_some,if_pos Yt]
   simp only [List.drop_succ_cons,List.drop_zero]
   have h1:=hz.next
   by_cases B8:nx r=62
   · obtain ⟨t,rfl⟩:=qm B8 (by decide)
     rw [wM h1,if_pos B8]
     simp only [Option.bind_some,fG,Bool.not_true,Bool.false_eq_true,if_false]
     rw [oB (a:=⟨[],[]⟩) (by simp) (by simp) (by simp;omega),abb]
     simp only [Option.bind_some,Bool.not_true,Bool.false_eq_true,if_false,j3]
     rw [AF h1.next.le]
     simp
   · rw [tN h1 B8,if_neg B8]
     simp only [Option.bind_some]
     have hp:=aa9 (F:=F) h1 (by omega)
     cases hb:AL r with
     |none=>
      rw [hb] at hp
      obtain ⟨a,n',h2,h3⟩:=hp
      rw [h2]
      rfl
     |some x=>
      obtain ⟨a,rest⟩:=x
      rw [hb] at hp
      obtain ⟨n',h2,h3⟩:=hp
      obtain ⟨hl1,Cu⟩:=R3 hb
      simp only [List.length_cons] at hs hF
      rw [h2]
      simp only [Option.bind_some,Bool.false_eq_true,if_false]
      rw [oB (by omega) (by omega) (by omega),Option.bind_some]
      cases hr:dQ a with
      |false=>simp
      |true=>
       simp only [Bool.not_true,Bool.false_eq_true,if_false,j3,if_true]
       rw [AF h3.le,h3.dr]
       rfl
 · rw [AI hz Yt,Option.bind_some,if_neg Yt,uF (by decide)]
   simp only [Option.bind_some,fG,Bool.not_false,if_true]
   rw [Lh (by omega),Option.bind_some]
   obtain ⟨b,h3⟩:=EZ (s:=s) (n:=0) (F:=F) (Nat.zero_le _) (by omega)
   rw [h3]
   simp only [Option.bind_some]
   rw [iH,Option.bind_some,ni (Nat.zero_le _) (by omega)]
   simp only [Option.bind_some]
   rw [iH]
   simp
def O4 (s:List UInt8):aD×Int:=if (sG s).2.2=0∧(sG s).2.1≠[] then (⟨[],[]⟩,3) else ((sG s).1,(sG s).2.2)
theorem aby {s:List UInt8} {F:Nat} (hs:s.length≤40000) (hF:2*s.length+10<F):mX F s=some (O4 s):=by
 unfold mX O4
 rw [VL hs hF,Option.bind_some]
 simp only
 by_cases h:(sG s).2.2=0∧(sG s).2.1≠[]
 · rw [if_pos (by simpa using h),if_pos h]
 · rw [if_neg (by simpa using h),if_neg h]
theorem O5 {q:UInt8→Bool} {l:List UInt8} {x:UInt8} (hx:q x=false) (h:∀c∈l,q c=true) (t:List UInt8):(l++x::t).takeWhile q=l∧(l++x::t).dropWhile q=x::t:=by
 induction l with
 |nil=>simp [hx]
 |cons c l ih=>
  obtain ⟨h1,h2⟩:=ih fun y hy=>h y (by simp [hy])
  have:=h c (by simp)
  simp [this,h1,h2]
theorem E1 (c:UInt8):eE c=true→mD c=true∧c≠62∧c≠64∧c≠34:=by
 have:=ko (p:=fun c=> !eE c||(mD c&&c !=62&&c !=64&&c !=34)) (by kernel_rfl) c
 intro h
 rw [h] at this
 simp at this
 exact ⟨this.1.1.1,this.1.1.2,this.1.2,this.2⟩
theorem N6 {l:List UInt8} (h:ic l=true):∀c∈l,mD c=true:=by
 intro c hc
 rcases zm l c hc with rfl|⟨p,hp,jj⟩
 · decide
 · have:=List.all_eq_true.1 h p hp
   simp only [Bool.and_eq_true] at this
   exact (E1 c (List.all_eq_true.1 this.2 c jj)).1
theorem Ln {l:List UInt8} (h:ic l=true):∃c t,l=c::t∧eE c=true:=by
 cases l with
 |nil=>simp [ic,aT] at h
 |cons c t=>
  refine ⟨c,t,rfl, ?_⟩
  unfold ic at h
  simp only [aT] at h
  by_cases hc:c=46
  · rw [if_pos hc] at h;simp at h
  · rw [if_neg hc] at h
    cases hs:aT t with
    |nil=>exact absurd hs (gw t)
    |cons x y=>rw [hs] at h;simp at h;exact h.1.1
theorem VM (c:UInt8):(B6 c=true→iP c=true)∧(uD c=true→iP c=true):=by
 have:=ko (p:=fun c=>(!B6 c||iP c)&&(!uD c||iP c)) (by kernel_rfl) c
 simp at this
 exact ⟨fun h=>by simpa [h] using this.1,fun h=>by simpa [h] using this.2⟩
theorem N7 {l:List UInt8} {x:UInt8} (h:l.getLast?=some x):l.dropLast++[x]=l:=by
 have hne:l≠[]:=by intro h0;subst h0;cases h
 have h2:=List.dropLast_concat_getLast hne
 rw [List.getLast?_eq_some_getLast hne] at h
 injection h with h
 rw [←h];exact h2
theorem VN {d:List UInt8} (h:sE d=true):d=91::(inner d++[93]):=by
 simp only [sE,Bool.and_eq_true,decide_eq_true_eq,beq_iff_eq] at h
 cases d with
 |nil=>simp at h
 |cons c r=>
  obtain ⟨⟨h1,h2⟩,h3⟩:=h
  simp at h2
  subst h2
  cases r with
  |nil=>simp at h1
  |cons a t=>
   rw [List.getLast?_cons_cons] at h3
   simp only [inner,List.drop_succ_cons,List.drop_zero]
   rw [N7 h3]
theorem N8 {d:List UInt8} (h:jK d=true):∀c∈d,iP c=true:=by
 intro c hc
 simp only [jK,Bool.and_eq_true] at h
 have hs:=h.1.2
 unfold jx at hs
 by_cases hi:sE d=true
 · rw [if_pos hi] at hs
   simp only [Bool.and_eq_true] at hs
   rw [VN hi] at hc
   rcases List.mem_cons.1 hc with rfl|hc
   · decide
   · rcases List.mem_append.1 hc with hc|hc
     · rcases zm _ c hc with rfl|⟨p,hp,jj⟩
       · decide
       · exact (VM c).2 (List.all_eq_true.1 (uE (List.all_eq_true.1 hs.2 p hp)).2.1 c jj)
     · simp at hc;subst hc;decide
 · rw [if_neg hi] at hs
   rcases zm _ c hc with rfl|⟨p,hp,jj⟩
   · decide
   · have:=List.all_eq_true.1 hs p hp
     simp only [lS,Bool.and_eq_true] at this
     exact (VM c).1 (List.all_eq_true.1 this.2 c jj)
theorem AM {d:List UInt8} (h:jK d=true) {x:UInt8} (hx:iP x=false) (t:List UInt8):iD (d++x::t)=some (d,x::t):=by
 obtain ⟨h1,h2⟩:=O5 hx (N8 h) t
 unfold iD
 rw [h1,h2,if_pos]
 simp only [jK,Bool.and_eq_true] at h
 exact h.1.2
theorem Yu {l:List UInt8} (h:l.all fk=true) (rest:List UInt8):qL (esc l++34::rest)=some (l,rest):=by
 induction l with
 |nil=>simp [esc,wN]
 |cons c l ih=>
  simp only [List.all_cons,Bool.and_eq_true] at h
  have ih:=ih h.2
  simp only [esc,List.flatMap_cons,List.append_assoc] at ih ⊢
  by_cases hc:c=34∨c=92
  · rw [if_pos hc]
    simp only [List.cons_append,List.nil_append]
    rw [wN,if_neg (by decide),if_pos rfl]
    simp only [h.1,if_true,ih,Option.map_some]
  · rw [if_neg hc]
    simp only [List.cons_append,List.nil_append]
    rw [wN,if_neg fun h=>hc (.inl h),if_neg fun h=>hc (.inr h)]
    simp only [h.1,if_true,ih,Option.map_some]
theorem R4 {a:aD} (hn:fZ a=false) (h:dQ a=true) (more:List UInt8):∃r,sF a=60::r∧nx r≠62∧nx r≠64∧(∀r',rI r'=some (r++more)→AL r'=some (a,more)):=by
 simp only [dQ,hn,Bool.false_or,Bool.and_eq_true] at h
 obtain ⟨⟨hl,hd⟩, -⟩:=h
 simp only [yh,Bool.and_eq_true] at hl
 unfold sF
 cases hp:ic a.ax with
 |true=>
  obtain ⟨c,t,ht,hc⟩:=Ln hp
  obtain ⟨-,B8,Li,I9⟩:=E1 c hc
  refine ⟨a.ax++64::(a.domain++[62]),by simp, ?_, ?_, ?_⟩
  · rw [ht];simpa [nx] using B8
  · rw [ht];simpa [nx] using Li
  · intro r' hr'
    have e:(a.ax++64::(a.domain++[62]))++more=a.ax++64::(a.domain++62::more):=by simp
    obtain ⟨h1,h2⟩:=O5 (q:=mD) (x:=64) (by decide) (N6 hp) (a.domain++62::more)
    unfold AL
    rw [hr',e]
    have VO:mJ (a.ax++64::(a.domain++62::more))=some (a.ax,64::(a.domain++62::more)):=by
     unfold mJ
     rw [if_neg (by rw [ht];simpa [nx] using I9),h1,h2,if_pos hp]
    simp only [VO]
    rw [if_pos (show nx (64::(a.domain++62::more))=64 from rfl)]
    simp only [List.drop_succ_cons,List.drop_zero]
    rw [AM hd (by decide)]
    rfl
 |false=>
  refine ⟨34::(esc a.ax++34::64::(a.domain++[62])),by simp,by simp [nx],by simp [nx], ?_⟩
  intro r' hr'
  have e:(34::(esc a.ax++34::64::(a.domain++[62])))++more=34::(esc a.ax++34::64::(a.domain++62::more)):=by simp
  unfold AL
  rw [hr',e]
  have VO:mJ (34::(esc a.ax++34::64::(a.domain++62::more)))=some (a.ax,64::(a.domain++62::more)):=by
   unfold mJ
   rw [if_pos (show nx (34::(esc a.ax++34::64::(a.domain++62::more)))=34 from rfl)]
   simp only [List.drop_succ_cons,List.drop_zero]
   rw [Yu hl.2]
   simp only
   rw [if_neg (by simpa using hl.1.1)]
  simp only [VO]
  rw [if_pos (show nx (64::(a.domain++62::more))=64 from rfl)]
  simp only [List.drop_succ_cons,List.drop_zero]
  rw [AM hd (by decide)]
  rfl
theorem abc {a:aD} (hn:fZ a=false) (h:dQ a=true) (more:List UInt8):sG (sF a++more)=(a,more,0):=by
 obtain ⟨r,hr,B8,Li,hb⟩:=R4 hn h more
 have adr:r≠[]:=by
  intro hr0
  subst hr0
  unfold sF at hr
  split at hr
  · injection hr with _ hr;simp at hr
  · injection hr with _ hr;simp at hr
 have hnx:nx (r++more)=nx r:=by
  cases r with
  |nil=>exact absurd rfl adr
  |cons=>rfl
 unfold sG N2
 rw [hr,List.cons_append,if_pos (show nx (60::(r++more))=60 from rfl)]
 simp only [List.drop_succ_cons,List.drop_zero]
 rw [if_neg (by rw [hnx];exact B8),hb (r++more) (by unfold rI;rw [if_neg (by rw [hnx];exact Li)])]
 simp only
 rw [if_pos h]
theorem abz {a:aD} {F:Nat} (hl:a.ax.length≤40000) (hd:a.domain.length≤40000) (hF:a.ax.length+a.domain.length+1<F):gN F a=some (if fZ a then [60,62] else if dQ a then sF a else []):=by
 unfold gN
 rw [O3,Option.bind_some]
 cases fZ a with
 |true=>rfl
 |false=>
  simp only [Bool.false_eq_true,if_false]
  rw [oB (by omega) (by omega) hF,Option.bind_some]
  cases dQ a with
  |false=>rfl
  |true=>
   simp only [Bool.not_true,Bool.false_eq_true,if_false,if_true]
   rw [E0 (by omega) (by omega) (by omega)]
   rfl
end Go.Proofs.cD
end
section
set_option maxRecDepth 100000
namespace Go.Proofs.cD
open Go Go.Am Go.Proofs
theorem N9 (n:Nat):(List.range 256).all (fun m=>decide (ju (n+30) (UInt8.ofNat m)=some (eE (UInt8.ofNat m))))=true:=by kernel_rfl
theorem VP {F:Nat} (hF:30≤F) (c:UInt8):ju F c=some (eE c):=by
 obtain ⟨n,rfl⟩:∃n,F=n+30:=⟨F - 30,by omega⟩
 have:=ko (p:=fun c=>decide (ju (n+30) c=some (eE c))) (N9 n) c
 simpa using this
def pr:Bool→List UInt8→Bool
 |_,[]=>true
 |p,c::r=>(if c=46 then p&&decide (r≠[]) else eE c)&&pr (decide (c≠46)) r
theorem Lo {F:Nat} {s:List UInt8} (hs:s.length≤90000) (RX:30≤F):∀(r:List UInt8) (i G:Nat) (p:Bool),s.drop i=r→i+r.length=s.length→r.length<G→
 (if 0<i then ∃x,s[i - 1]? =some x∧p= !decide (x=46) else p=false)→iter (ff F s) G (i:Int)=some (if pr p r then .inr () else .inl false):=by
 intro r
 induction r with
 |nil=>
  intro i G p hd hi hG hp
  obtain ⟨G,rfl⟩:=dP hG
  rw [dh (t:=()) (by simp only [ff];rw [if_neg (by simp at hi ⊢;omega)])]
  rfl
 |cons c r ih=>
  intro i G p hd hi hG hp
  obtain ⟨G,rfl⟩:=dP (show 0<G by omega)
  obtain ⟨h1,h2,h3⟩:=drop_cons hd
  simp only [List.length_cons] at hi hG
  have NV:iB s (i:Int)=some (decide (c=46)&&p&&decide (r≠[])):=by
   unfold iB
   rw [bX h2,Option.bind_some]
   by_cases hc:c=46
   · rw [if_pos (by simpa using hc)]
     by_cases h0:0<i
     · rw [if_pos h0] at hp
       obtain ⟨x,hx,hpx⟩:=hp
       rw [if_pos (by simpa using h0),wi (by omega)]
       by_cases hr:r=[]
       · rw [if_neg (by subst hr;simp at hi ⊢;omega)];simp [hr]
       · rw [if_pos (by have:0<r.length:=List.length_pos_iff.2 hr
                        simp;omega),wr (by omega) (by omega),show (i:Int) - 1=((i - 1:Nat):Int) by omega,bX hx,Option.bind_some,hpx]
         simp [hc,hr]
     · rw [if_neg h0] at hp
       rw [if_neg (by simpa using h0),hp];simp
   · rw [if_neg (by simpa using hc)];simp [hc]
  have hst:ff F s (i:Int)=if (if c=46 then p&&decide (r≠[]) else eE c)=true then some (.dz ((i+1:Nat):Int)) else some (.ret false):=by
   simp only [ff]
   rw [if_pos (by simpa using h1),NV,Option.bind_some]
   unfold kg
   rw [bX h2]
   simp only [Option.bind_some,VP RX]
   by_cases hc:c=46
   · have h46:eE c=false:=by subst hc;decide
     simp only [hc,decide_true,Bool.true_and,if_true]
     subst hc
     cases hpp:(p&&decide (r≠[])) with
     |true=>simp only [Bool.not_true,Bool.false_eq_true,if_false,Option.bind_some,if_true];rw [wi (by omega)]
     |false=>simp only [Bool.not_false,if_true,Option.bind_some,h46,Bool.false_eq_true,if_false]
   · simp only [hc,decide_false,Bool.false_and,Bool.not_false,if_true,if_false,Option.bind_some]
     cases eE c with
     |true=>simp only [Bool.not_true,Bool.false_eq_true,if_false,if_true];rw [wi (by omega)]
     |false=>simp
  have hpr:pr p (c::r)=((if c=46 then p&&decide (r≠[]) else eE c)&&pr (decide (c≠46)) r):=rfl
  rw [hpr]
  obtain ⟨q,hq⟩:∃q,q=(if c=46 then p&&decide (r≠[]) else eE c):=⟨_,rfl⟩
  rw [←hq] at hst ⊢
  cases q with
  |false=>
   have EY:=hst.trans (if_neg (by decide))
   rw [e6 EY]
   simp
  |true=>
   have EY:=hst.trans (if_pos rfl)
   rw [cC EY,ih (i+1) G (decide (c≠46)) h3 (by omega) (by omega) (by rw [if_pos (by omega)];exact ⟨c,by simpa using h2,by simp⟩)]
   simp
theorem R5:∀(r:List UInt8) (p:Bool),r≠[]→pr p r=match aT r with|[]=>false|h::t=>h.all eE&&(p||h !=[])&&t.all fun q=>q !=[]&&q.all eE:=by
 intro r
 induction r with
 |nil=>intro p h;exact absurd rfl h
 |cons c r ih=>
  intro p _
  simp only [pr,aT]
  by_cases hc:c=46
  · simp only [if_pos hc]
    by_cases hr:r=[]
    · subst hr;simp [aT]
    · have h2:=ih false hr
      have hd:decide (c≠46)=false:=by simpa using hc
      rw [hd,h2]
      cases hs:aT r with
      |nil=>exact absurd hs (gw r)
      |cons h t=>
       simp only [hr,ne_eq,not_false_eq_true,decide_true,Bool.and_true,List.all_nil,Bool.true_and,List.all_cons,Bool.false_or]
       cases p<;>cases h.all eE<;>cases (h !=[])<;>simp
  · simp only [if_neg hc]
    have hd:decide (c≠46)=true:=by simpa using hc
    rw [hd]
    by_cases hr:r=[]
    · subst hr;simp [aT,pr]
    · rw [ih true hr]
      cases hs:aT r with
      |nil=>exact absurd hs (gw r)
      |cons h t=>
       simp only [List.all_cons,Bool.true_or,Bool.and_true]
       have:(c::h !=[])=true:=rfl
       rw [this]
       cases eE c<;>cases p<;>simp
theorem VQ {F:Nat} {s:List UInt8} (hs:s.length≤80000) (hF:s.length+30<F):lI F s=some (ic s):=by
 unfold lI
 rw [show (0:Int)=((0:Nat):Int) from rfl,Lo (by omega) (by omega) s 0 F false rfl (by simp) (by omega) (by simp)]
 simp only [Option.bind_some]
 by_cases h:s=[]
 · subst h;simp [pr,ic,aT]
 · rw [R5 s false h]
   unfold ic
   cases hsp:aT s with
   |nil=>exact absurd hsp (gw s)
   |cons a t=>
    simp only [Bool.false_or,List.all_cons]
    cases h1:a.all eE<;>cases h2:(a !=[])<;>cases h3:(t.all fun q=>q !=[]&&q.all eE)<;>simp [h]
theorem VS (x:UInt8):(if decide (x<32)=true then some true else some (decide (126<x)))=some (!fk x):=by
 have:=ko (p:=fun x=>decide ((if decide (x<32)=true then some true else some (decide (126<x)))=some (!fk x))) (by kernel_rfl) x
 exact of_decide_eq_true this
theorem VT {s:List UInt8} {F:Nat} (hF:65<F):lK F s=some (yh s):=by
 unfold lK yh
 by_cases h:s=[]
 · subst h;rfl
 · by_cases h2:64<s.length
   · rw [if_pos (by simp;omega),decide_eq_false (by omega)];simp
   · rw [if_neg (by simp [h];omega),decide_eq_true (by omega)]
     have hh:=scan (s:=s) (F:=F) (body:=fh s) (mk:=fun i=>(i:Int)) (p:=fk) (rr:=fun _=>false) (tt:=()) ?_ ?_ ?_ (by omega)
     · cases ha:s.all fk with
       |true=>have:=hh.1 ha;rw [show ((0:Nat):Int)=0 from rfl] at this;rw [this];simp [h]
       |false=>obtain ⟨j,hj⟩:=hh.2 ha;rw [show ((0:Nat):Int)=0 from rfl] at hj;rw [hj];simp
     · intro i x hx hp
       have hi:=(List.getElem?_eq_some_iff.1 hx).1
       simp only [fh,iC]
       rw [if_pos (by simpa using hi),bX hx,Option.bind_some,VS,Option.bind_some,hp,wi (by omega)];rfl
     · intro i x hx hp
       have hi:=(List.getElem?_eq_some_iff.1 hx).1
       simp only [fh,iC]
       rw [if_pos (by simpa using hi),bX hx,Option.bind_some,VS,Option.bind_some,hp];rfl
     · simp [fh]
theorem Yv {s:List UInt8} {F:Nat} (hF:99010<F):fH F s=some (jK s):=by
 by_cases h:s.length≤99000
 · exact aa5 h (by omega)
 · unfold fH jK
   rw [if_pos (by simp;omega),decide_eq_false (by omega)]
   rfl
theorem Oa {a:aD} (hl:a.ax.length≤80000):∀(r:List UInt8) (i F:Nat) (b:List UInt8),a.ax.drop i=r→i+r.length=a.ax.length→b.length≤2*i+2→r.length<F→
 iter (fO a) F (b,(i:Int))=some (.inr (b++esc r)):=by
 intro r
 induction r with
 |nil=>
  intro i F b hd hi hb hF
  obtain ⟨G,rfl⟩:=dP hF
  rw [dh (t:=b) (by simp only [fO];rw [if_neg (by simp at hi ⊢;omega)])]
  simp [esc]
 |cons c r ih=>
  intro i F b hd hi hb hF
  obtain ⟨G,rfl⟩:=dP (show 0<F by omega)
  obtain ⟨h1,h2,h3⟩:=drop_cons hd
  simp only [List.length_cons] at hi hF
  have hst:fO a (b,(i:Int))=some (.dz (b++(if c=34∨c=92 then [92,c] else [c]),((i+1:Nat):Int))):=by
   simp only [fO,lM]
   rw [if_pos (by simpa using h1),bX h2]
   simp only [Option.bind_some]
   by_cases I9:c=34
   · subst I9
     simp only [decide_true,if_true,Option.bind_some,true_or]
     rw [fB (by simp;omega) (by omega),Option.bind_some,fB (by simp;omega) (by omega),Option.bind_some,wi (by omega)]
     simp
   · by_cases N5:c=92
     · subst N5
       rw [if_neg (by decide)]
       simp only [decide_true,Option.bind_some,if_true,or_true]
       rw [fB (by simp;omega) (by omega),Option.bind_some,fB (by simp;omega) (by omega),Option.bind_some,wi (by omega)]
       simp
     · rw [if_neg (by simpa using I9)]
       simp only [Option.bind_some]
       rw [if_neg (by simpa using N5),fB (by simp;omega) (by omega),Option.bind_some,wi (by omega),if_neg (by simp [I9,N5])]
  rw [cC hst,ih (i+1) G _ h3 (by omega) (by split<;>simp<;>omega) (by omega)]
  simp [esc]
theorem Yw {a:aD} {F:Nat} (hn:fZ a=false) (hl:a.ax.length≤80000) (hd:a.domain.length≤80000) (hF:a.ax.length+30<F):mZ F a=some (sF a):=by
 have he:=Lj a.ax
 unfold mZ sF
 rw [fZ] at hn
 rw [hn,VQ hl hF]
 simp only [Bool.false_eq_true,if_false,Option.bind_some]
 cases ic a.ax with
 |true=>
  simp only [if_true]
  rw [cZ (by simp;omega),Option.bind_some,cZ (by simp;omega),Option.bind_some,cZ (by simp;omega),Option.bind_some,cZ (by simp;omega),Option.bind_some]
  simp
 |false=>
  simp only [Bool.false_eq_true,if_false]
  rw [show (([60,34]:List UInt8),(0:Int))=(([60,34]:List UInt8),((0:Nat):Int)) from rfl,Oa hl a.ax 0 F [60,34] (by simp) (by simp) (by simp) (by omega)]
  simp only [Option.bind_some]
  try unfold lN
  rw [fB (by simp;omega) (by omega),Option.bind_some,cZ (by simp;omega),Option.bind_some,cZ (by simp;omega),Option.bind_some,cZ (by simp;omega),Option.bind_some]
  simp
theorem ads {a:aD} {F:Nat} (hl:a.ax.length≤80000) (hd:a.domain.length≤80000) (hF:99010<F):ov F a=some (dQ a):=by
 unfold ov kj dQ
 cases hn:fZ a with
 |true=>rw [fZ] at hn;rw [hn];rfl
 |false=>
  have hn':=hn
  rw [fZ] at hn
  rw [hn]
  simp only [Bool.false_eq_true,if_false,Bool.false_or]
  rw [VT (by omega),Option.bind_some]
  cases hlb:yh a.ax with
  |false=>rfl
  |true=>
   simp only [if_true,Bool.true_and]
   rw [Yv hF,Option.bind_some]
   cases hdb:jK a.domain with
   |false=>rfl
   |true=>
    simp only [if_true,Bool.true_and]
    rw [Yw hn' hl hd (by omega)]
    simp
    omega
end Go.Proofs.cD
end
section
namespace Go.Am
open Go
def wO {α A ρ:Type} (step:A→α→Except ρ A):A→List α→Except ρ A
 |a,[]=> .ok a
 |a,x::r=>match step a x with
  | .ok a'=>wO step a' r
  | .error e=> .error e
theorem lp {α ρ τ σ A:Type} {s:List α} {body:σ→Option (St ρ τ σ)} {mk:A→Nat→σ} {step:A→α→Except ρ A} {tt:A→τ} (I:A→Nat→Prop)
 (h1:∀a i x,s[i]? =some x→I a i→match step a x with
  | .ok a'=>body (mk a i)=some (.dz (mk a' (i+1)))∧I a' (i+1)
  | .error r=>body (mk a i)=some (.ret r))
 (h3:∀a,I a s.length→body (mk a s.length)=some (.eZ (tt a))) {F:Nat} {a:A} (hF:s.length<F) (h0:I a 0):
 iter body F (mk a 0)=some (match wO step a s with| .ok a'=> .inr (tt a')| .error r=> .inl r)∧∀a',wO step a s= .ok a'→I a' s.length:=by
 suffices h:∀(r:List α) (i F:Nat) (a:A),s.drop i=r→i+r.length=s.length→r.length<F→I a i→
  iter body F (mk a i)=some (match wO step a r with| .ok a'=> .inr (tt a')| .error r=> .inl r)∧∀a',wO step a r= .ok a'→I a' s.length from h s 0 F a rfl (by simp) hF h0
 intro r
 induction r with
 |nil=>
  intro i F a hd hl hF h0
  obtain ⟨G,rfl⟩:=dP hF
  have:i=s.length:=by simpa using hl
  subst this
  exact ⟨dh (h3 a h0),fun a' h=>by cases h;exact h0⟩
 |cons x r ih=>
  intro i F a hd hl hF h0
  obtain ⟨G,rfl⟩:=dP hF
  obtain ⟨hi,hx,hr⟩:=drop_cons hd
  simp only [List.length_cons] at hl hF
  have:=h1 a i x hx h0
  simp only [wO]
  cases hs:step a x with
  |ok a'=>
   rw [hs] at this
   rw [cC this.1]
   exact ih (i+1) G a' hr (by omega) (by omega) this.2
  |error e=>
   rw [hs] at this
   rw [e6 this]
   exact ⟨rfl,fun a' h=>by cases h⟩
theorem lpo {α ρ τ σ A:Type} {s:List α} {body:σ→Option (St ρ τ σ)} {mk:A→Nat→σ} {step:A→α→A} {tt:A→τ} (I:A→Nat→Prop)
 (h1:∀a i x,s[i]? =some x→I a i→body (mk a i)=some (.dz (mk (step a x) (i+1)))∧I (step a x) (i+1))
 (h3:∀a,I a s.length→body (mk a s.length)=some (.eZ (tt a))) {F:Nat} {a:A} (hF:s.length<F) (h0:I a 0):
 iter body F (mk a 0)=some (.inr (tt (s.foldl step a)))∧I (s.foldl step a) s.length:=by
 have key:∀(r:List α) (a:A),wO (ρ:=ρ) (fun a x=> .ok (step a x)) a r= .ok (r.foldl step a):=by
  intro r
  induction r with
  |nil=>intro a;rfl
  |cons x r ih=>intro a;simp only [wO,List.foldl_cons];exact ih _
 have:=lp (s:=s) (body:=body) (mk:=mk) (step:=fun a x=> .ok (step a x)) (tt:=tt) I (fun a i x hx h=>h1 a i x hx h) h3 hF h0
 rw [key] at this
 exact ⟨this.1,this.2 _ rfl⟩
theorem aeE {a b:Int} (h0:0≤a) (h1:a≤4000000000000000000) (h2:0≤b) (h3:b≤4000000000000000000):IntKind.wrap .i64 (a+b)=a+b:=wr (by omega) (by omega)
theorem Yx {n:Nat} (h:n≤1000000000):IntKind.wrap .i64 ((n:Int)+1)=((n+1:Nat):Int):=by rw [wr (by omega) (by omega)];simp
theorem VU {α ρ τ σ:Type} {s:List α} {body:σ→Option (St ρ τ σ)} {mk:Nat→σ} {p:α→Bool} {rr:Nat→ρ} {tt:τ}
 (h1:∀i x,s[i]? =some x→p x=true→body (mk i)=some (.dz (mk (i+1)))) (h2:∀i x,s[i]? =some x→p x=false→body (mk i)=some (.ret (rr i)))
 (h3:body (mk s.length)=some (.eZ tt)) {F:Nat} (hF:s.length<F):
 (s.all p=true→iter body F (mk 0)=some (.inr tt))∧(s.all p=false→∃j,iter body F (mk 0)=some (.inl (rr j))):=by
 suffices h:∀(r:List α) (i F:Nat),s.drop i=r→i+r.length=s.length→r.length<F→
  (r.all p=true→iter body F (mk i)=some (.inr tt))∧(r.all p=false→∃j,iter body F (mk i)=some (.inl (rr j))) from h s 0 F rfl (by simp) hF
 intro r
 induction r with
 |nil=>
  intro i F hd hl hF
  obtain ⟨G,rfl⟩:=dP hF
  have:i=s.length:=by simpa using hl
  subst this
  exact ⟨fun _=>dh h3,fun h=>by simp at h⟩
 |cons x r ih=>
  intro i F hd hl hF
  obtain ⟨G,rfl⟩:=dP hF
  obtain ⟨hi,hx,hr⟩:=drop_cons hd
  simp only [List.length_cons] at hl hF
  cases hp:p x with
  |true=>
   rw [cC (h1 i x hx hp)]
   simp only [List.all_cons,hp,Bool.true_and]
   exact ih (i+1) G hr (by omega) (by omega)
  |false=>
   rw [e6 (h2 i x hx hp)]
   simp only [List.all_cons,hp,Bool.false_and]
   exact ⟨fun h=>by simp at h,fun _=>⟨i,rfl⟩⟩
end Go.Am
end
section
set_option maxRecDepth 100000
namespace Go.Proofs.cD
open Go Go.Am Go.Proofs
theorem R6 (n:Nat):lD (n+2000)=some true:=by kernel_rfl
end Go.Proofs.cD
end
section
set_option maxRecDepth 100000
namespace Go.Proofs.cD
open Go Go.Am Go.Proofs
def uG (v lo hi:Int):Bool:=decide (lo≤v)&&decide (v≤hi)
def Lp (r:cJ):Bool:=(decide (r.code=0)||uG r.code 200 599)&&(dQ r.gh&&(!fZ r.gh&&(uG r.state 1 5&&(uG r.tries 0 255&&(uG r.next 0 2147483647&&decide (r.why.length≤100))))))
def VV (a:aD):Prop:=a.ax.length≤400∧a.domain.length≤600
def O6 (a:aD):Prop:=a.ax.length≤70000∧a.domain.length≤70000
theorem adt {a:aD} (h:dQ a=true):VV a:=by
 simp only [dQ,fZ,yh,jK,Bool.or_eq_true,Bool.and_eq_true,decide_eq_true_eq] at h
 rcases h with ⟨h1,h2⟩|⟨⟨h1,h2⟩, -⟩
 · simp [VV,h1,h2]
 · exact ⟨by have:=h1.1.2;omega,by have:=h2.1.1;omega⟩
def E2 (e:aL):Bool:=dQ e.aQ&&(uG e.born 0 2147483647&&(uG e.size 0 2147483647&&(decide (1≤e.bh.length)&&(decide (e.bh.length≤100)&&e.bh.all Lp))))
theorem tight {a:aD} (h:dQ a=true):a.ax.length≤64∧a.domain.length≤255:=by
 simp only [dQ,fZ,yh,jK,Bool.or_eq_true,Bool.and_eq_true,decide_eq_true_eq] at h
 rcases h with ⟨h1,h2⟩|⟨⟨h1,h2⟩, -⟩
 · simp [h1,h2]
 · exact ⟨by have:=h1.1.2;omega,by have:=h2.1.1;omega⟩
theorem VW (v lo hi:Int):eU v lo hi=some (uG v lo hi):=rfl
theorem O7 {r:cJ} {F:Nat} (h:O6 r.gh) (hF:199010<F):qj F r=some (Lp r):=by
 unfold qj mG mH Lp
 rw [oB (by have:=h.1;omega) (by have:=h.2;omega) (by have:=h.1;have:=h.2;omega)]
 simp only [VW,Option.bind_some]
 have hn:(decide (r.gh.ax=([]:List UInt8))&&decide (r.gh.domain=([]:List UInt8)))=fZ r.gh:=rfl
 rw [hn]
 by_cases c:r.code=0
 · rw [if_pos (by simpa using c)]
   simp only [Option.bind_some,c,decide_true,Bool.true_or,Bool.true_and,if_true]
   cases dQ r.gh<;>cases fZ r.gh<;>cases uG r.state 1 5<;>cases uG r.tries 0 255<;>cases uG r.next 0 2147483647<;>simp<;>omega
 · rw [if_neg (by simpa using c)]
   simp only [Option.bind_some,c,decide_false,Bool.false_or]
   cases uG r.code 200 599<;>cases dQ r.gh<;>cases fZ r.gh<;>cases uG r.state 1 5<;>cases uG r.tries 0 255<;>cases uG r.next 0 2147483647<;>simp<;>omega
theorem Yy {l:List cJ} {F:Nat} (hl:l.length≤1000) (hr:∀r∈l,O6 r.gh) (hF:199010<F):dw F l=some (!l.all Lp):=by
 unfold dw e5
 have hh:=VU (s:=l) (body:=cg F l) (mk:=fun i=>((0:Int),(i:Int))) (p:=Lp) (rr:=fun i=>(i:Int)) (tt:=()) (F:=F) ?_ ?_ ?_ (by omega)
 · cases h:l.all Lp with
   |true=>
    have:=hh.1 h
    rw [show ((0:Int),(0:Int))=(0,((0:Nat):Int)) from rfl,this];rfl
   |false=>
    obtain ⟨j,this⟩:=hh.2 h
    rw [show ((0:Int),(0:Int))=(0,((0:Nat):Int)) from rfl,this]
    simp
 · intro i x hx hp
   have hi:=(List.getElem?_eq_some_iff.1 hx).1
   simp only [cg,lO]
   rw [if_pos (by simpa using hi),bX hx]
   simp only [Option.bind_some]
   rw [O7 (hr x (List.mem_of_getElem? hx)) hF,hp]
   simp only [Option.bind_some,Bool.not_true,Bool.false_eq_true,if_false]
   rw [Yx (by omega)]
 · intro i x hx hp
   have hi:=(List.getElem?_eq_some_iff.1 hx).1
   simp only [cg,lO]
   rw [if_pos (by simpa using hi),bX hx]
   simp only [Option.bind_some]
   rw [O7 (hr x (List.mem_of_getElem? hx)) hF,hp]
   rfl
 · simp only [cg]
   rw [if_neg (by simp)]
def Y2 (e:aL):Prop:=e.bh.length≤1000∧O6 e.aQ∧∀r∈e.bh,O6 r.gh
theorem VX {e:aL} {F:Nat} (h:Y2 e) (hF:199010<F):ql F e=some (E2 e):=by
 obtain ⟨h1,h2,h3⟩:=h
 unfold ql mI E2
 rw [oB (by have:=h2.1;omega) (by have:=h2.2;omega) (by have:=h2.1;have:=h2.2;omega),Yy h1 h3 hF]
 simp only [VW,Option.bind_some]
 have hb:uG (e.bh.length:Int) 1 100=(decide (1≤e.bh.length)&&decide (e.bh.length≤100)):=by
  unfold uG
  rw [Bool.eq_iff_iff];simp only [Bool.and_eq_true,decide_eq_true_eq];omega
 rw [hb]
 cases dQ e.aQ<;>cases uG e.born 0 2147483647<;>cases uG e.size 0 2147483647<;>cases decide (1≤e.bh.length)<;>cases decide (e.bh.length≤100)<;>simp
end Go.Proofs.cD
end
section
set_option maxRecDepth 100000
namespace Go.Proofs.cD
open Go Go.Am Go.Proofs
theorem Lq {α:Type}:∀(l m:List α),l.foldl (fun v r=>v++[r]) m=m++l:=by
 intro l
 induction l with
 |nil=>intro m;simp
 |cons c l ih=>intro m;simp only [List.foldl_cons];rw [ih];simp
theorem adu {e:aL} {F:Nat} (h1:e.bh.length≤1000) (hF:2000<F):tJ F e=some e:=by
 unfold tJ
 have hh:=lpo (ρ:=aL) (s:=e.bh) (body:=jv e) (mk:=fun (v:List cJ) i=>((i:Int),(⟨e.aQ,e.born,e.size,e.sum,v⟩:aL))) (tt:=fun v=>(⟨e.aQ,e.born,e.size,e.sum,v⟩:aL)) (step:=fun v r=>v++[r]) (fun v i=>v.length≤i) ?_ ?_ (F:=F) (a:=[]) (by omega) (by simp)
 · rw [show (0:Int)=((0:Nat):Int) from rfl,hh.1,Lq];rfl
 · intro v i c hc hI
   have hi:=(List.getElem?_eq_some_iff.1 hc).1
   refine ⟨?_,by simp;omega⟩
   simp only [jv]
   rw [if_pos (by simpa using hi),bX hc,Option.bind_some,fB (by simp;omega) (by omega),Option.bind_some,Yx (by omega)]
 · intro v hI
   simp only [jv]
   rw [if_neg (by simp)]
def AN (a:aD):Bool:=decide ((a.ax.length:Int)≤400)&&decide ((a.domain.length:Int)≤600)
theorem Lr {a:aD} (h:AN a=true):VV a:=by
 simp only [AN,Bool.and_eq_true,decide_eq_true_eq] at h
 exact ⟨by omega,by omega⟩
theorem abd {e:aL} {F:Nat} (hF:2000<F):∃b:Bool,qi F e=some b∧(b=true→e.bh.length≤120∧Y2 e):=by
 unfold qi mF
 by_cases h:(120:Int)<(e.bh.length:Int)
 · rw [if_pos (by simpa using h)]
   exact ⟨false,rfl,by simp⟩
 · rw [if_neg (by simpa using h)]
   have hf:kE e.aQ=some (AN e.aQ):=rfl
   rw [hf]
   simp only [Option.bind_some]
   cases hb:AN e.aQ with
   |false=>exact ⟨false,rfl,by simp⟩
   |true=>
    simp only [Bool.not_true,Bool.false_eq_true,if_false]
    have hh:=VU (s:=e.bh) (body:=gv e) (mk:=fun i=>(i:Int)) (p:=fun c=>AN c.gh&& !decide ((300:Int)<(c.why.length:Int))) (rr:=fun _=>false) (tt:=()) (F:=F) ?_ ?_ ?_ (by omega)
    · cases ha:e.bh.all (fun c=>AN c.gh&& !decide ((300:Int)<(c.why.length:Int))) with
      |true=>
       rw [show (0:Int)=((0:Nat):Int) from rfl,hh.1 ha]
       refine ⟨true,rfl,fun _=>⟨by omega,by omega, ?_,fun r hr=> ?_⟩⟩
       · have:=Lr hb
         exact ⟨by have:=this.1;omega,by have:=this.2;omega⟩
       · have:=List.all_eq_true.1 ha r hr
         simp only [Bool.and_eq_true] at this
         have:=Lr this.1
         exact ⟨by have:=this.1;omega,by have:=this.2;omega⟩
      |false=>
       obtain ⟨j,hj⟩:=hh.2 ha
       rw [show (0:Int)=((0:Nat):Int) from rfl,hj]
       exact ⟨false,rfl,by simp⟩
    · intro i x hx hp
      have hi:=(List.getElem?_eq_some_iff.1 hx).1
      simp only [Bool.and_eq_true,Bool.not_eq_true'] at hp
      simp only [gv,j5]
      rw [if_pos (by simpa using hi),bX hx]
      simp only [Option.bind_some]
      rw [show kE x.gh=some (AN x.gh) from rfl,hp.1]
      simp only [Option.bind_some,Bool.not_true,Bool.false_eq_true,if_false,hp.2]
      rw [Yx (by omega)]
    · intro i x hx hp
      have hi:=(List.getElem?_eq_some_iff.1 hx).1
      simp only [gv,j5]
      rw [if_pos (by simpa using hi),bX hx]
      simp only [Option.bind_some]
      rw [show kE x.gh=some (AN x.gh) from rfl]
      cases hq:AN x.gh with
      |false=>rfl
      |true=>
       rw [hq] at hp
       simp only [Bool.true_and,Bool.not_eq_false'] at hp
       simp only [Option.bind_some,Bool.not_true,Bool.false_eq_true,if_false,hp,if_true]
    · simp only [gv]
      rw [if_neg (by simp)]
end Go.Proofs.cD
end
section
set_option maxRecDepth 100000
namespace Go.Proofs.cD
open Go Go.Am Go.Proofs
def jn (l:List (List UInt8)):List UInt8:=Lib.join l [13,10]++[13,10]
theorem R7 (l:List (List UInt8)):(Lib.joinTail [13,10] l).length=(l.map fun x=>x.length+2).sum:=by
 unfold Lib.joinTail
 induction l with
 |nil=>rfl
 |cons c l ih=>simp only [List.map_cons,List.flatten_cons,List.length_append,List.sum_cons,ih];simp;omega
theorem R8 (c:List UInt8) (l:List (List UInt8)):(Lib.join (c::l) [13,10]).length=c.length+(l.map fun x=>x.length+2).sum:=by
 rw [Lib.join_cons,List.length_append,R7]
theorem qn {c:List UInt8} {l:List (List UInt8)} {v:List UInt8} {n:Nat} (hl:l.length≤100) (h:c.length+(l.map fun x=>x.length+2).sum≤n) (hn:v.length+n≤1000000):
 ∃r,bH (c::l) v=some r∧r.length≤v.length+n+2:=by
 have e:=R8 c l
 refine ⟨v++(Lib.join (c::l) [13,10]++[13,10]), ?_,by simp [e];omega⟩
 unfold bH lq strings_Join
 rw [if_pos ⟨by simp;omega,by omega⟩]
 simp only [Option.bind_some]
 rw [cZ (by simp;omega)]
 simp only [Option.bind_some]
 unfold cS
 rw [if_pos (by simp;omega)]
 rfl
theorem kL {sum:Int} {b:List UInt8} {n:Int} (h0:0≤n) (h1:n≤28) (hb:b.length≤100):∃c,fA sum (b,n)=some (.dz (b++[c],n - 4)):=by
 simp only [fA]
 rw [if_pos (by simpa using h0)]
 unfold OW
 rw [if_neg (by omega)]
 simp only [Option.bind_some]
 have hx:∃k:Nat,k<16∧Gn .u32 (sum.fdiv (2 ^ (min n.toNat (IntKind.u32).bits))) 15=(k:Int):=by
  unfold Gn
  refine ⟨(BitVec.ofInt (IntKind.u32).bits (sum.fdiv (2 ^ (min n.toNat (IntKind.u32).bits))) &&& BitVec.ofInt (IntKind.u32).bits 15).toNat, ?_, ?_⟩
  · rw [BitVec.toNat_and]
    exact Nat.lt_of_le_of_lt Nat.and_le_right (by decide)
  · have:(BitVec.ofInt (IntKind.u32).bits (sum.fdiv (2 ^ (min n.toNat (IntKind.u32).bits))) &&& BitVec.ofInt (IntKind.u32).bits 15).toNat<16:=by
     rw [BitVec.toNat_and]
     exact Nat.lt_of_le_of_lt Nat.and_le_right (by decide)
    simp only [IntKind.wrap,IntKind.bits,IntKind.signed,Bool.false_and,Bool.false_eq_true,if_false,Int.reducePow] at this ⊢
    omega
 obtain ⟨k,hk,e⟩:=hx
 rw [e]
 have hg:([48,49,50,51,52,53,54,55,56,57,97,98,99,100,101,102]:List UInt8)[k]? =some (([48,49,50,51,52,53,54,55,56,57,97,98,99,100,101,102]:List UInt8)[k]'(by simpa using hk)):=List.getElem?_eq_getElem _
 rw [bX hg]
 simp only [Option.bind_some]
 rw [fB (by simp;omega) (by omega)]
 simp only [Option.bind_some]
 have ew:IntKind.i64.wrap (n - 4)=n - 4:=by
  simp only [IntKind.wrap,IntKind.bits,IntKind.signed]
  simp;omega
 rw [ew]
 exact ⟨_,rfl⟩
theorem Ja {sum:Int} {F:Nat} (hF:20<F):∃b,gG F sum=some b∧b.length=9:=by
 obtain ⟨F,rfl⟩:∃k,F=k+9:=⟨F - 9,by omega⟩
 obtain ⟨c1,h1⟩:=kL (sum:=sum) (b:=[98]) (n:=28) (by omega) (by omega) (by simp)
 obtain ⟨c2,h2⟩:=kL (sum:=sum) (b:=[98]++[c1]) (n:=24) (by omega) (by omega) (by simp)
 obtain ⟨c3,h3⟩:=kL (sum:=sum) (b:=[98]++[c1]++[c2]) (n:=20) (by omega) (by omega) (by simp)
 obtain ⟨c4,h4⟩:=kL (sum:=sum) (b:=[98]++[c1]++[c2]++[c3]) (n:=16) (by omega) (by omega) (by simp)
 obtain ⟨c5,h5⟩:=kL (sum:=sum) (b:=[98]++[c1]++[c2]++[c3]++[c4]) (n:=12) (by omega) (by omega) (by simp)
 obtain ⟨c6,h6⟩:=kL (sum:=sum) (b:=[98]++[c1]++[c2]++[c3]++[c4]++[c5]) (n:=8) (by omega) (by omega) (by simp)
 obtain ⟨c7,h7⟩:=kL (sum:=sum) (b:=[98]++[c1]++[c2]++[c3]++[c4]++[c5]++[c6]) (n:=4) (by omega) (by omega) (by simp)
 obtain ⟨c8,h8⟩:=kL (sum:=sum) (b:=[98]++[c1]++[c2]++[c3]++[c4]++[c5]++[c6]++[c7]) (n:=0) (by omega) (by omega) (by simp)
 refine ⟨[98]++[c1]++[c2]++[c3]++[c4]++[c5]++[c6]++[c7]++[c8], ?_,by simp⟩
 unfold gG
 rw [cC h1,show (28:Int) - 4=24 from rfl,cC h2,show (24:Int) - 4=20 from rfl,cC h3,show (20:Int) - 4=16 from rfl,cC h4,show (16:Int) - 4=12 from rfl,cC h5,show (12:Int) - 4=8 from rfl,cC h6,show (8:Int) - 4=4 from rfl,cC h7,show (4:Int) - 4=0 from rfl,cC h8]
 rfl
def codeOk (n:Int):Bool:=decide ((Lib.itoa n).length≤3)&&match eW n with|some s=>decide (s.length≤6)|none=>false
theorem codes:(List.range 600).all (fun n=>codeOk (n:Int))=true:=by kernel_rfl
theorem VY {n:Int} (h0:0≤n) (h:n<600):(Lib.itoa n).length≤3∧∃s,eW n=some s∧s.length≤6:=by
 have:=List.all_eq_true.1 codes n.toNat (by simp;omega)
 have e:((n.toNat:Nat):Int)=n:=by omega
 simp only [e,codeOk,Bool.and_eq_true,decide_eq_true_eq] at this
 refine ⟨this.1, ?_⟩
 have h2:=this.2
 cases hs:eW n with
 |none=>rw [hs] at h2;cases h2
 |some s=>rw [hs] at h2;exact ⟨s,rfl,by simpa using h2⟩
theorem E3 {a:aD} {F:Nat} (h:dQ a=true) (hF:1000<F):∃r,gN F a=some r∧r.length≤600:=by
 have ht:=tight h
 unfold gN
 rw [O3]
 simp only [Option.bind_some]
 cases hn:fZ a with
 |true=>exact ⟨_,rfl,by decide⟩
 |false=>
  simp only [Bool.false_eq_true,if_false]
  rw [oB (by omega) (by omega) (by omega),h]
  simp only [Option.bind_some,Bool.not_true,Bool.false_eq_true,if_false]
  rw [E0 (by omega) (by omega) (by omega)]
  refine ⟨_,rfl, ?_⟩
  have h2:=h
  simp only [dQ,hn,Bool.false_or,Bool.and_eq_true,decide_eq_true_eq] at h2
  omega
theorem abe (n:Nat):pz (n+2000) 5=some [84,104,117,44,32,48,49,32,74,97,110,32,49,57,55,48,32,48,48,58,48,48,58,48,53,32,43,48,48,48,48]:=by kernel_rfl
end Go.Proofs.cD
end
section
set_option maxRecDepth 100000
namespace Go.Proofs.cD
open Go Go.Am Go.Proofs
abbrev zn:List UInt8:=[104,101,114,101,46,101,120,97,109,112,108,101]
theorem R9 {F:Nat} (hF:1000<F):gY F zn=some true:=by
 rw [VC (by decide) (by simp;omega)]
 rfl
theorem Ob {e:aL} {which:List Int} {s:List UInt8} {t k:Nat} {r:cJ} {F:Nat} (hw:which[t]? =some (k:Int)) (hr:e.bh[k]? =some r) (h:Lp r=true) (hs:s.length≤10000) (ht:t≤1000) (hF:1000<F):
 ∃s',dV F which e ((t:Int),s)=some (.dz (((t+1:Nat):Int),s'))∧s'.length≤20000:=by
 have hi:=(List.getElem?_eq_some_iff.1 hw).1
 have hk:=(List.getElem?_eq_some_iff.1 hr).1
 simp only [Lp,Bool.and_eq_true,Bool.or_eq_true,decide_eq_true_eq,uG] at h
 obtain ⟨hc,hto, -, -, -, -,aeF⟩:=h
 have bZ:0≤r.code∧r.code<600:=by omega
 obtain ⟨h1,st,h2,h3⟩:=VY bZ.1 bZ.2
 obtain ⟨pr,hp,hpl⟩:=E3 hto hF
 simp only [dV]
 rw [if_pos (by simpa using hi),bX hw]
 simp only [Option.bind_some]
 rw [if_neg (by simp;omega),bX hr]
 simp only [Option.bind_some]
 unfold js
 rw [hp]
 simp only [Option.bind_some]
 rw [cZ (by simp;omega),Option.bind_some,h2,Option.bind_some,cZ (by simp;omega),Option.bind_some]
 unfold strconv_Itoa
 rw [if_pos (by omega)]
 simp only [Option.bind_some]
 rw [cZ (by simp;omega),Option.bind_some,cZ (by simp;omega),Option.bind_some,cZ (by simp;omega),Option.bind_some]
 generalize hX:([([]:List UInt8),_,_,_,_]:List (List UInt8))=X
 obtain ⟨r4,e4,l4⟩:∃r,bH X s=some r∧r.length≤s.length+2000+2:=by
  subst hX
  exact qn (by simp) (by simp;omega) (by omega)
 rw [e4]
 simp only [Option.bind_some]
 rw [Yx (by omega)]
 exact ⟨r4,rfl,by omega⟩
theorem E4 {e:aL} {which:List Int} {text:List UInt8} {F:Nat} (hn:e.aQ.ax≠[]) (hf:dQ e.aQ=true) (hw:which≠[]) (hF:5000<F):
 ∃s:List UInt8,s.length≤9000∧∀res,iter (dV F which e) F (((0:Nat):Int),s)=some (.inl res)→cq F zn e which text 5=some res:=by
 obtain ⟨b,hb,hbl⟩:=Ja (sum:=e.sum) (F:=F) (by omega)
 obtain ⟨pr,hp,hpl⟩:=E3 hf (F:=F) (by omega)
 have hd:pz F 5=some [84,104,117,44,32,48,49,32,74,97,110,32,49,57,55,48,32,48,48,58,48,48,58,48,53,32,43,48,48,48,48]:=by
  have:=abe (F - 2000)
  rwa [show F - 2000+2000=F by omega] at this
 have NV:eN F e which zn=some false:=by
  unfold eN iV
  have:(decide (e.aQ.ax=([]:List UInt8))&&decide (e.aQ.domain=([]:List UInt8)))=false:=by simp [hn]
  rw [this]
  simp only [Option.bind_some,Bool.false_eq_true,if_false]
  rw [if_neg (by simpa using hw),R9 (by omega)]
  rfl
 unfold cq
 rw [NV]
 simp only [Option.bind_some,Bool.false_eq_true,if_false]
 rw [hb]
 simp only [Option.bind_some]
 rw [cZ (by simp),Option.bind_some,cZ (by simp),Option.bind_some,hp,Option.bind_some,cZ (by simp;omega),Option.bind_some,hd,Option.bind_some,cZ (by simp),Option.bind_some]
 generalize hX:([_,_,_,_,_]:List (List UInt8))=X
 obtain ⟨r1,e1,l1⟩:∃r,bH X []=some r∧r.length≤([]:List UInt8).length+1000+2:=by
  subst hX
  exact qn (by simp) (by simp;omega) (by simp)
 rw [e1,Option.bind_some,cZ (by simp;omega),Option.bind_some,cZ (by simp;omega),Option.bind_some]
 generalize hX2:([_,([]:List UInt8)]:List (List UInt8))=X2
 obtain ⟨r2,e2,l2⟩:∃r,bH X2 r1=some r∧r.length≤r1.length+1000+2:=by
  subst hX2
  exact qn (by simp) (by simp;omega) (by simp at l1;omega)
 rw [e2,Option.bind_some,cZ (by simp;omega),Option.bind_some]
 generalize hX3:([_,_,([]:List UInt8),_]:List (List UInt8))=X3
 obtain ⟨r3,e3,l3⟩:∃r,bH X3 r2=some r∧r.length≤r2.length+1000+2:=by
  subst hX3
  exact qn (by simp) (by simp;omega) (by simp at l1;omega)
 rw [e3,Option.bind_some,cZ (by simp),Option.bind_some]
 generalize hX4:([_,_,([]:List UInt8),_]:List (List UInt8))=X4
 obtain ⟨r4,e4,l4⟩:∃r,bH X4 r3=some r∧r.length≤r3.length+1000+2:=by
  subst hX4
  exact qn (by simp) (by simp;omega) (by simp at l1;omega)
 rw [e4,Option.bind_some]
 refine ⟨r4,by simp at l1;omega,fun res hres=> ?_⟩
 rw [show (0:Int)=((0:Nat):Int) from rfl,hres]
 rfl
end Go.Proofs.cD
end
section
set_option maxRecDepth 100000
namespace Go.Proofs.cD
open Go Go.Am Go.Proofs
theorem Oc {e:aL} {which:List Int} {text:List UInt8} {F:Nat} (h:e.aQ.ax=[]) (h2:e.aQ.domain=[]):cq F zn e which text 5=some ([],false):=by
 unfold cq eN iV
 rw [h,h2]
 rfl
theorem Od {e:aL} {text:List UInt8} {F:Nat} (h:e.aQ.ax≠[]):cq F zn e [] text 5=some ([],false):=by
 unfold cq eN iV
 have:(decide (e.aQ.ax=([]:List UInt8))&&decide (e.aQ.domain=([]:List UInt8)))=false:=by simp [h]
 rw [this]
 rfl
theorem Sa {e:aL} {text:List UInt8} {F:Nat} (h:e.aQ.ax≠[]) (he:E2 e=true) (hF:5000<F):cq F zn e [0,(e.bh.length:Int)] text 5=some ([],false):=by
 simp only [E2,Bool.and_eq_true,decide_eq_true_eq] at he
 obtain ⟨hf, -, -,h1,h2,h3⟩:=he
 obtain ⟨s,hs,hb⟩:=E4 (e:=e) (which:=[0,(e.bh.length:Int)]) (text:=text) h hf (by simp) hF
 apply hb
 obtain ⟨F,rfl⟩:∃k,F=k+2:=⟨F - 2,by omega⟩
 have hr:e.bh[0]? =some e.bh[0]:=List.getElem?_eq_getElem (by omega)
 obtain ⟨s',h4,h5⟩:=Ob (e:=e) (which:=[0,(e.bh.length:Int)]) (s:=s) (t:=0) (k:=0) (r:=e.bh[0]) (F:=F+2) rfl hr (List.all_eq_true.1 h3 _ (List.getElem_mem _)) (by omega) (by omega) (by omega)
 rw [cC h4]
 refine e6 ?_
 simp only [dV]
 rw [if_pos (by simp)]
 have hi:idx [0,(e.bh.length:Int)] (((0+1:Nat):Int))=some (e.bh.length:Int):=rfl
 rw [hi]
 simp
theorem Sb {e:aL} {text:List UInt8} {F:Nat} (h:e.aQ.ax≠[]) (he:E2 e=true) (hF:5000<F):cq F zn e [(-1)] text 5=some ([],false):=by
 simp only [E2,Bool.and_eq_true,decide_eq_true_eq] at he
 obtain ⟨hf, -, -,h1,h2,h3⟩:=he
 obtain ⟨s,hs,hb⟩:=E4 (e:=e) (which:=[(-1)]) (text:=text) h hf (by simp) hF
 apply hb
 obtain ⟨F,rfl⟩:∃k,F=k+1:=⟨F - 1,by omega⟩
 refine e6 ?_
 simp only [dV]
 rw [if_pos (by simp)]
 have hi:idx [(-1:Int)] (((0:Nat):Int))=some (-1):=rfl
 rw [hi]
 simp
theorem F8 {e:aL} {text:List UInt8} {F:Nat} (hF:200000<F):gp F e text=some true:=by
 unfold gp
 have hk:lD F=some true:=by
  have:=R6 (F - 2000)
  rwa [show F - 2000+2000=F by omega] at this
 rw [hk]
 simp only [Option.bind_some,Bool.not_true,Bool.false_eq_true,if_false]
 obtain ⟨b,hb,adv⟩:=abd (e:=e) (F:=F) (by omega)
 unfold gm
 rw [hb]
 simp only [Option.bind_some]
 cases b with
 |false=>rfl
 |true=>
  obtain ⟨f1,f2⟩:=adv rfl
  simp only [Bool.not_true,Bool.false_eq_true,if_false]
  rw [VX f2 (by omega)]
  simp only [Option.bind_some]
  cases he:E2 e with
  |false=>rfl
  |true=>
   simp only [Bool.not_true,Bool.false_eq_true,if_false]
   rw [adu (by omega) (by omega)]
   simp only [Option.bind_some]
   by_cases hl:e.aQ.ax=[]
   · rw [if_pos (by simpa using hl)];rfl
   · rw [if_neg (by simpa using hl)]
     simp only [Option.bind_some]
     by_cases ht:decide ((4096:Int)<(text.length:Int))=true
     · rw [if_pos ht]
     · rw [if_neg ht]
       rw [Oc rfl rfl,Od hl,Sa hl he (by omega),Sb hl he (by omega)]
       rfl
theorem Dd (e:aL) (text:List UInt8):∃F,gp F e text=some true:=⟨200001,F8 (by omega)⟩
end Go.Proofs.cD
end
section
namespace Go.Am
open Go Go.RowKit
variable [Tabs]
def C0 (W:World) (b:Nat):List Value:=match W.heap[b]? with
 |some (.cells cs _ _)=>cs.toList
 |_=>[]
theorem ay.row {P:Program} {f:Nat} {args:List AV} {R:AV→AH→Prop} (h:ay P f args [] R) {W:World} {vs:Array Value} (htab:∀e∈Tabs.l,∃cs ty fr,W.heap[e.1]? =some (.cells cs ty fr)∧e.2 cs) (hl:vs.size=args.length)
 (hv:∀(i:Nat) (a:AV),args[i]? =some a→VR (C0 W) [] a (vs.getD i undef)∧TC W (C0 W) a (vs.getD i undef)∧a.plain=true):
 Calls P f vs W fun e w'=>∃r v aB γ' C',e= .returned v∧R r aB∧VR C' γ' r v∧Below W.heap.size W w':=by
 have hg:∀t,get (fo 0 args) t=(args[t]?).getD .un:=fun t=>by rw [dy];simp
 have hno:∀p b,¬blk [] (fo 0 args) [] vs W p b:=by
  intro p b hp
  cases p with
  |obj s=>simp [blk] at hp
  |cell s i=>obtain ⟨cs,a,b0,h1, -⟩:=hp;simp at h1
  |tmp t=>
   simp only [blk,hg] at hp
   cases ht:args[t]? with
   |none=>rw [ht] at hp;simp [bD] at hp
   |some a=>rw [ht] at hp;simp only [Option.getD_some] at hp;rw [iE _ (gT (hv t a ht).2.2)] at hp;cases hp
 have hs:SR [] args.length (fun b=>b<W.heap.size) [] (C0 W) (fo 0 args) [] vs W:=by
  refine ⟨⟨rfl,fun s b cs hs=>by simp at hs,fun b hne=> ?_,fun s b cs hs=>by simp at hs,fun s b cs us ty fr hs=>by simp at hs,fun s b cs T hs=>by simp at hs⟩,hl,fun t=> ?_,fun p q b hp=>absurd hp (hno p b),fun p b hp=>absurd hp (hno p b),⟨fun b hb=>hb,fun e he=> ?_⟩,fun t l k xs ht=> ?_⟩
  · unfold C0 at hne ⊢
    split at hne
    · rename_i cs ty fr hb
      rw [hb]
      exact ⟨cs,ty,fr,rfl,List.prefix_refl _⟩
    · exact absurd rfl hne
  · rw [hg]
    cases ht:args[t]? with
    |none=>exact ⟨.un ..,by cases vs.getD t undef<;>trivial⟩
    |some a=>exact ⟨(hv t a ht).1,(hv t a ht).2.1⟩
  · obtain ⟨cs0,ty,fr,h2,h5⟩:=htab e he
    have h4:e.1<W.heap.size:=by
     rcases Nat.lt_or_ge e.1 W.heap.size with h3|h3
     · exact h3
     · rw [Array.getElem?_eq_none h3] at h2;cases h2
    exact ⟨h4,cs0,ty,fr,h2,h5⟩
  · rw [hg] at ht
    cases hq:args[t]? with
    |none=>rw [hq] at ht;simp at ht
    |some a=>rw [hq] at ht;exact absurd ht (wS (hv t a hq).2.2 l k xs)
 refine (h.2 _ [] (C0 W) W vs hs).mono ?_
 rintro e w' ⟨r,v,aB,γ',C',rfl,hR, -,hs',hx⟩
 refine ⟨r,v,aB,γ',C',rfl,hR, ?_,hx.out.1,hx.out.2.1,hx.out.2.2,hx.size,fun k hk=>(hx.keep k hk).1⟩
 have:=(hs'.env 0).1
 simpa [get] using this
end Go.Am
end
section
namespace Go.Am
open Go Go.RowKit Go.Deep
variable [Tabs]
theorem Ls {W:World} {b o:Nat} {v:Value} (h:W.cell? ⟨b,o,none⟩=some v):o<(C0 W b).length∧(C0 W b).getD o undef=v:=by
 unfold C0
 unfold World.cell? at h
 simp only at h
 split at h
 · rename_i cs ty fr hb
   rw [hb]
   simp only at h ⊢
   have hlt:o<cs.size:=by
    rcases Nat.lt_or_ge o cs.size with h'|h'
    · exact h'
    · rw [Array.getElem?_eq_none h'] at h;cases h
   rw [Array.getElem?_eq_getElem hlt] at h
   injection h with h
   refine ⟨by simpa using hlt, ?_⟩
   rw [List.getD_eq_getElem?_getD,List.getElem?_eq_getElem (by simpa using hlt)]
   simpa using h
 · cases h
section
variable {H:Type} {enc:TypeId×Value→H} {P:Program} {W:World} {sp:Nat→Bool} {held:Bool}
theorem aef {t e:TypeId} {A:Type} (g:A→AV) {v:Value} {d:DataW H} {ps:List MemPlace} {base:Nat} {r:Reach} (ht:P.underlying t=some (.slice e)) (hc:P.cellsOf e=1) (hval:Value.okWide P W r base t v)
 (h:DataW.Trod enc P W 0 sp held t v d ps)
 (hg:∀x,(g x).cells=[g x]) (he:∀n V y,DataW.trod enc P W 0 sp held n e [V]=some y→V.oneCell'=true∧∃x,VR (C0 W) [] (g x) V):∃xs:List A,VR (C0 W) [] (.sl .n 1 (xs.map g)) v:=by
 have hv:(v= .slice none 0 0)∨∃a len cap,v= .slice (some a) len cap∧a.spot=none:=by
  unfold Value.okWide at hval
  rw [ht] at hval
  simp only [Cell.okWide,ht,Cell.ok] at hval
  cases v with
  |slice a len cap=>
   cases a with
   |none=>cases len<;>cases cap<;>first|exact .inl rfl|exact hval.elim
   |some a=>exact .inr ⟨a,len,cap,rfl,hval.2.2.2.1⟩
  |_=>exact hval.elim
 obtain ⟨fuel,h⟩:=h
 rcases hv with rfl|⟨a,len,cap,rfl,hsp⟩
 · exact ⟨[], .rK ..⟩
 · rcases open_slice1 ht hc h with ⟨h0, -⟩|⟨a',len',cap',m,n,V,D,Pl,h1,hb,hl,hm,E9,hx,hall⟩
   · simp [Value.cells] at h0
   · have h1:a'=a∧len'=len∧cap'=cap:=by simpa [Value.cells,eq_comm] using h1
     obtain ⟨rfl,rfl,rfl⟩:=h1
     have hlm:len'≤m:=by rw [E9];split<;>omega
     have key:∀i,i<len'→∃x,VR (C0 W) [] (g x) (V i):=fun i hi=>(he n (V i) _ (hall i (by omega)).2).2
     obtain ⟨b,o,s⟩:=a'
     simp only at hsp
     subst hsp
     have hcell:∀i,i<len'→o+i<(C0 W b).length∧(C0 W b).getD (o+i) undef=V i:=fun i hi=>by
      have:=(hall i (by omega)).1
      rw [add_eq] at this
      exact Ls this
     by_cases h0:len'=0
     · subst h0;exact ⟨[], .rK ..⟩
     let f:Nat→A:=fun i=>if hi:i<len' then Classical.choose (key i hi) else Classical.choose (key 0 (by omega))
     have hf:∀i,i<len'→VR (C0 W) [] (g (f i)) (V i):=fun i hi=>by
      show VR (C0 W) [] (g (if hi:i<len' then Classical.choose (key i hi) else Classical.choose (key 0 (by omega)))) (V i)
      rw [dif_pos hi]
      exact Classical.choose_spec (key i hi)
     refine ⟨(List.range len').map f, .sl _ _ _ _ _ _ _ _ (by simp) hl (fun i a hi=> ?_) ?_ (fun q h1 h2=> ?_) fun i a hi j y hj=> ?_⟩
     · rw [List.getElem?_map,List.getElem?_map] at hi
       cases hr:(List.range len')[i]? with
       |none=>rw [hr] at hi;simp at hi
       |some q=>rw [hr] at hi;simp at hi;subst hi;rw [hg];rfl
     · have:=(hcell (len' - 1) (by omega)).1;omega
     · have:=hcell (q - o) (by omega)
       rw [show o+(q - o)=q by omega] at this
       rw [this.2]
       exact (he n (V (q - o)) _ (hall (q - o) (by omega)).2).1
     · rw [List.getElem?_map,List.getElem?_map] at hi
       cases hr:(List.range len')[i]? with
       |none=>rw [hr] at hi;simp at hi
       |some q=>
        rw [hr] at hi
        have hq:=(List.getElem?_eq_some_iff.1 hr)
        obtain ⟨hlt,hq⟩:=hq
        simp at hlt hq
        subst hq
        simp at hi
        subst hi
        rw [hg] at hj
        cases j with
        |zero=>
         simp at hj
         subst hj
         have:=hcell i hlt
         rw [Nat.mul_one,Nat.add_zero,this.2]
         exact hf i hlt
        |succ j=>simp at hj
end
end Go.Am
end
section
namespace Go.Am
open Go Go.RowKit Go.Deep
variable [Tabs]
def CR (W:World) (zq:List AV) (vs:List Value):Prop:=
 zq.length=vs.length∧(∀v∈vs,v.oneCell'=true)∧∀(j:Nat) (a:AV),zq[j]? =some a→VR (C0 W) [] a (vs.getD j undef)
theorem CR.nil {W:World}:CR W [] []:=⟨rfl,by simp,by simp⟩
theorem CR.one {W:World} {a:AV} {V:Value} (h:VR (C0 W) [] a V) (ho:V.oneCell'=true):CR W [a] [V]:=by
 refine ⟨rfl,by simpa using ho,fun j b hj=> ?_⟩
 rcases j with _|j
 · simp at hj;subst hj;simpa using h
 · simp at hj
theorem CR.append {W:World} {zq bs:List AV} {vs ws:List Value} (h:CR W zq vs) (h2:CR W bs ws):CR W (zq++bs) (vs++ws):=by
 refine ⟨by simp [h.1,h2.1],fun v hv=> ?_,fun j a hj=> ?_⟩
 · rcases List.mem_append.1 hv with hv|hv
   · exact h.2.1 v hv
   · exact h2.2.1 v hv
 · rw [List.getElem?_append] at hj
   split at hj
   · rename_i hlt
     have:=h.2.2 j a hj
     rw [List.getD_eq_getElem?_getD,List.getElem?_append_left (by rw [←h.1];exact hlt), ←List.getD_eq_getElem?_getD]
     exact this
   · rename_i hlt
     have:=h2.2.2 _ a hj
     rw [List.getD_eq_getElem?_getD,List.getElem?_append_right (by rw [←h.1];omega), ←List.getD_eq_getElem?_getD, ←h.1]
     exact this
def AV.VZ:AV→Bool
 | .sl .n _ _=>true
 | .sl _ _ _| .agg _| .bz _| .dc _| .cV _ _=>false
 |_=>true
def AV.abf:AV→Bool
 | .agg cs=>cs.all AV.VZ
 |a=>a.VZ
theorem TC.enc {w:World} {C:Nat→List Value} {a:AV} (h:a.abf=true) (v:Value):TC w C a v:=by
 have h1:∀(a:AV) (v:Value),a.VZ=true→kM a v:=by
  intro a v h
  cases a with
  |sl t k xs=>cases t<;>first|exact GQ .. |cases h
  |_=>first|(cases h;done)|(cases v<;>trivial)
 cases a with
 |agg cs=>
  cases v with
  |agg vs=>
   intro i a hi
   exact h1 a _ (List.all_eq_true.1 h a (List.mem_of_getElem? hi))
  |_=>trivial
 |sl t k xs=>cases t<;>first|(cases h;done)|(cases v<;>trivial)
 |_=>first|(cases h;done)|(cases v<;>trivial)
section
variable {H:Type} (enc:TypeId×Value→H) (P:Program) (W:World) (sp:Nat→Bool) (held:Bool)
def Op (t:TypeId) {A:Type} (f:A→AV):Prop:=∀n cs y,DataW.trod enc P W 0 sp held n t cs=some y→∃x:A,CR W (f x).cells cs
end
section
variable {H:Type} {enc:TypeId×Value→H} {P:Program} {W:World} {sp:Nat→Bool} {held:Bool}
theorem uH {t:TypeId} {k:IntKind} (ht:P.underlying t=some (.int k)):Op enc P W sp held t (gx k):=by
 intro n cs y h
 cases n with
 |zero=>simp [DataW.trod] at h
 |succ n=>
  rcases cs with _|⟨V,_|⟨V2,r⟩⟩
  · simp [DataW.trod,ht] at h
  · cases V<;>simp [DataW.trod,ht] at h
    rename_i k' z
    obtain ⟨⟨rfl,hw⟩, -⟩:=h
    exact ⟨z,CR.one (.int ..) rfl⟩
  · simp [DataW.trod,ht] at h
theorem abg {t:TypeId} (ht:P.underlying t=some (.int .u8)):Op enc P W sp held t b8:=by
 intro n cs y h
 cases n with
 |zero=>simp [DataW.trod] at h
 |succ n=>
  rcases cs with _|⟨V,_|⟨V2,r⟩⟩
  · simp [DataW.trod,ht] at h
  · cases V<;>simp [DataW.trod,ht] at h
    rename_i k' z
    obtain ⟨⟨rfl,hw⟩, -⟩:=h
    have hz:0≤z∧z≤255:=by
     simp [Lit.wf,IntKind.min,IntKind.max,IntKind.bits,IntKind.signed] at hw
     omega
    refine ⟨UInt8.ofNat z.toNat,CR.one ?_ rfl⟩
    have:((UInt8.ofNat z.toNat).toNat:Int)=z:=by simp [UInt8.toNat_ofNat];omega
    simp only [b8,this]
    exact .int ..
  · simp [DataW.trod,ht] at h
theorem adw {t:TypeId} (ht:P.underlying t=some .bool):Op enc P W sp held t AV.bool:=by
 intro n cs y h
 cases n with
 |zero=>simp [DataW.trod] at h
 |succ n=>
  rcases cs with _|⟨V,_|⟨V2,r⟩⟩
  · simp [DataW.trod,ht] at h
  · cases V<;>simp [DataW.trod,ht] at h
    exact ⟨_,CR.one (.bool ..) rfl⟩
  · simp [DataW.trod,ht] at h
theorem Jb {t:TypeId} (ht:P.underlying t=some .string):Op enc P W sp held t AV.str:=by
 intro n cs y h
 cases n with
 |zero=>simp [DataW.trod] at h
 |succ n=>
  rcases cs with _|⟨V,_|⟨V2,r⟩⟩
  · simp [DataW.trod,ht] at h
  · cases V<;>simp [DataW.trod,ht] at h
    rename_i s
    refine ⟨s.data.toList,CR.one ?_ rfl⟩
    have:s=⟨s.data.toList.toArray⟩:=by cases s;simp
    have h2:=VR.str (C:=C0 W) [] s.data.toList
    rwa [←this] at h2
  · simp [DataW.trod,ht] at h
theorem Lt {A:Type} {p:Nat→A→Prop}:∀(n:Nat),(∀i,i<n→∃x,p i x)→∃xs:List A,xs.length=n∧∀(i:Nat) (x:A),xs[i]? =some x→p i x:=by
 intro n
 induction n with
 |zero=>intro _;exact ⟨[],rfl,by simp⟩
 |succ n ih=>
  intro h
  obtain ⟨xs,h1,h2⟩:=ih fun i hi=>h i (by omega)
  obtain ⟨x,hx⟩:=h n (by omega)
  refine ⟨xs++[x],by simp [h1],fun i y hy=> ?_⟩
  rw [List.getElem?_append] at hy
  split at hy
  · exact h2 i y hy
  · rename_i hlt
    have:i=n:=by
     have:=(List.getElem?_eq_some_iff.1 hy).1
     simp at this;omega
    subst this
    rw [h1] at hy;simp at hy;subst hy;exact hx
theorem V0 {t e:TypeId} {k:Nat} {A:Type} {f:A→AV} (ht:P.underlying t=some (.slice e)) (hk:P.cellsOf e=k) (hk0:0<k) (hop:Op enc P W sp held e f) (hf:∀x,(f x).cells.length=k):
 Op enc P W sp held t (fun xs:List A=>AV.sl .n k (ml f xs)):=by
 intro n cs y h
 rcases open_slice ht h with ⟨rfl, -⟩|⟨a,len,cap,m,fu,D,Pl,rfl,hb,hl,hm,E9, -,hx⟩
 · exact ⟨[],CR.one (.rK ..) rfl⟩
 have hlm:len≤m:=by rw [E9];split<;>omega
 by_cases h0:len=0
 · subst h0;exact ⟨[],CR.one (.rK ..) rfl⟩
 subst hk
 have hel:∀i,i<len→∃x:A,∃cs',W.cells? 0 (a.add (i*P.cellsOf e)) (P.cellsOf e)=some cs'∧CR W (f x).cells cs':=fun i hi=>by
  obtain ⟨cs',h1,h2⟩:=hx i (by omega)
  obtain ⟨x,hc⟩:=hop _ _ _ h2
  exact ⟨x,cs',h1,hc⟩
 have hsp:a.spot=none:=by
  obtain ⟨x,cs',h1,hc⟩:=hel 0 (by omega)
  obtain ⟨-,h2,h3⟩:=World.cells?_some h1
  have h4:=h3 0 hk0
  have h5:(a.add (0*P.cellsOf e)).add 0=a:=by simp [Addr.add]
  rw [h5,List.getElem?_eq_getElem (by omega)] at h4
  unfold World.cell? at h4
  split at h4
  · split at h4
    · cases h4
    · rename_i hq;cases hs:a.spot<;>simp_all
  · cases h4
 obtain ⟨b,o,s⟩:=a
 simp only at hsp
 subst hsp
 obtain ⟨xs,hlen,hxs⟩:=Lt len hel
 have hcell:∀(i:Nat) (x:A),xs[i]? =some x→∃cs',CR W (f x).cells cs'∧cs'.length=P.cellsOf e∧∀j,j<P.cellsOf e→o+i*P.cellsOf e+j<(C0 W b).length∧(C0 W b).getD (o+i*P.cellsOf e+j) undef=cs'.getD j undef:=fun i x hi=>by
  obtain ⟨cs',h1,hc⟩:=hxs i x hi
  obtain ⟨-,h2,h3⟩:=World.cells?_some h1
  refine ⟨cs',hc,h2,fun j hj=> ?_⟩
  have h4:=h3 j hj
  rw [add_add,add_eq,List.getElem?_eq_getElem (by omega)] at h4
  have:=Ls h4
  rw [Nat.add_assoc,List.getD_eq_getElem?_getD (l:=cs'),List.getElem?_eq_getElem (by omega)]
  exact this
 refine ⟨xs,CR.one (.sl _ _ _ _ _ _ _ _ (by rw [wW,hlen]) hl (fun i a hi=> ?_) ?_ (fun q h1 h2=> ?_) fun i a hi j y hj=> ?_) rfl⟩
 · rw [ml,List.getElem?_map] at hi
   cases hr:xs[i]? with
   |none=>rw [hr] at hi;simp at hi
   |some x=>rw [hr] at hi;simp at hi;subst hi;exact hf x
 · have LJ:len - 1<xs.length:=by omega
   obtain ⟨cs', -, -,h3⟩:=hcell (len - 1) _ (List.getElem?_eq_getElem LJ)
   have:=(h3 (P.cellsOf e - 1) (by omega)).1
   have h5:len*P.cellsOf e=(len - 1)*P.cellsOf e+P.cellsOf e:=by
    conv=>lhs;rw [show len=(len - 1)+1 by omega,Nat.succ_mul]
   omega
 · have hq:q - o<len*P.cellsOf e:=by omega
   have hi:(q - o) / P.cellsOf e<len:=Nat.div_lt_of_lt_mul (by rw [Nat.mul_comm];exact hq)
   have hj:(q - o) % P.cellsOf e<P.cellsOf e:=Nat.mod_lt _ hk0
   obtain ⟨cs',hc,h2,h3⟩:=hcell ((q - o) / P.cellsOf e) _ (List.getElem?_eq_getElem (by omega))
   have h4:=(h3 _ hj).2
   have h5:o+(q - o) / P.cellsOf e*P.cellsOf e+(q - o) % P.cellsOf e=q:=by
    have:=Nat.div_add_mod (q - o) (P.cellsOf e)
    rw [Nat.mul_comm] at this
    omega
   rw [h5] at h4
   rw [h4,List.getD_eq_getElem?_getD,List.getElem?_eq_getElem (by omega)]
   exact hc.2.1 _ (List.getElem_mem ..)
 · rw [ml,List.getElem?_map] at hi
   cases hr:xs[i]? with
   |none=>rw [hr] at hi;simp at hi
   |some x=>
    rw [hr] at hi;simp at hi;subst hi
    obtain ⟨cs',hc,h2,h3⟩:=hcell i x hr
    have hjl:j<P.cellsOf e:=by rw [←hf x];exact (List.getElem?_eq_some_iff.1 hj).1
    rw [(h3 j hjl).2]
    exact hc.2.2 j y hj
theorem zo {t:TypeId} {fs:Array Field} {A:Type} {f:A→AV} (ht:P.underlying t=some (.struct fs))
 (hb:∀cs:List Value,cs.length=P.cellsOf t→(∀(i:Nat) (fl:Field),fs[i]? =some fl→∃n y,DataW.trod enc P W 0 sp held n fl.type ((cs.drop fl.offset).take (P.cellsOf fl.type))=some y)→∃x,CR W (f x).cells cs):
 Op enc P W sp held t f:=by
 intro n cs y h
 obtain ⟨xs,m, -, -,hl,hlen,hf⟩:=DataW.trod_struct ht h
 refine hb cs hl fun i fl hfl=> ?_
 have hlt:i<xs.length:=by rw [hlen];exact (Array.getElem?_eq_some_iff.1 hfl).1
 exact ⟨m,xs[i],by rw [hf i fl hfl,List.getElem?_eq_getElem hlt]⟩
theorem seg {cs:List Value} {o k:Nat}:(cs.drop o).take k++cs.drop (o+k)=cs.drop o:=by
 rw [←List.drop_drop,List.take_append_drop]
theorem Op.arg1 {t:TypeId} {A:Type} {f:A→AV} (hop:Op enc P W sp held t f) (hf:∀x,(f x).cells=[f x]) {v:Value} {d:DataW H} {ps:List MemPlace} {r:Reach} {base:Nat} (hs:∀cs,¬Value.okWide P W r base t (.agg cs))
 (hval:Value.okWide P W r base t v) (h:DataW.Trod enc P W 0 sp held t v d ps):∃x,VR (C0 W) [] (f x) v:=by
 obtain ⟨fuel,h⟩:=h
 obtain ⟨x,h1, -,h3⟩:=hop _ _ _ h
 rw [hf] at h1 h3
 have hc:v.cells.toList=[v]:=by
  cases v with
  |agg cs=>exact absurd hval (hs cs)
  |_=>rfl
 rw [hc] at h3
 exact ⟨x,by simpa using h3 0 (f x) rfl⟩
theorem Op.adx {t:TypeId} {A:Type} {f:A→AV} (hop:Op enc P W sp held t f) {fs:Array Field} (ht:P.underlying t=some (.struct fs)) (hf:∀x,f x= .agg (f x).cells) {v:Value} {d:DataW H} {ps:List MemPlace} {r:Reach} {base:Nat}
 (hval:Value.okWide P W r base t v) (h:DataW.Trod enc P W 0 sp held t v d ps):∃x,VR (C0 W) [] (f x) v:=by
 obtain ⟨fuel,h⟩:=h
 obtain ⟨x,h1, -,h3⟩:=hop _ _ _ h
 unfold Value.okWide at hval
 rw [ht] at hval
 obtain ⟨cs,rfl, -, -⟩:=hval
 refine ⟨x, ?_⟩
 rw [hf x]
 refine .agg _ _ _ (by simpa [Value.cells] using h1) fun i a hi=> ?_
 have:=h3 i a hi
 simpa [Value.cells,Array.getD_eq_getD_getElem?,List.getD_eq_getElem?_getD] using this
theorem abh {t:TypeId} {k:IntKind} {r:Reach} {base:Nat} (ht:P.underlying t=some (.int k)) (cs:Array Value):¬Value.okWide P W r base t (.agg cs):=by
 simp [Value.okWide,Cell.okWide,Cell.ok,ht]
theorem Y3 {t:TypeId} {r:Reach} {base:Nat} (ht:P.underlying t=some .bool) (cs:Array Value):¬Value.okWide P W r base t (.agg cs):=by
 simp [Value.okWide,Cell.okWide,Cell.ok,ht]
theorem abi {t:TypeId} {r:Reach} {base:Nat} (ht:P.underlying t=some .string) (cs:Array Value):¬Value.okWide P W r base t (.agg cs):=by
 simp [Value.okWide,Cell.okWide,Cell.ok,ht]
theorem Sc {t e:TypeId} {r:Reach} {base:Nat} (ht:P.underlying t=some (.slice e)) (cs:Array Value):¬Value.okWide P W r base t (.agg cs):=by
 simp [Value.okWide,Cell.okWide,Cell.ok,ht]
theorem E5 {ts:List TypeId} (hl:laidOutB P=true) {W W':World} (hb:Below W.heap.size W W'):∀ {vs:List Value} {ds:List (DataW H)} {ps:List MemPlace},(∀t∈ts,P.readableRec t=true∧t<P.types.size)→
 DataW.TrodAll enc P W 0 (fun _=>true) true ts vs ds ps→(∀x∈ps,x.block<W.heap.size)→DataW.TrodAll enc P W' 0 (fun b=>decide (b<W.heap.size)) true ts vs ds ps:=by
 induction ts with
 |nil=>
  intro vs ds ps _ h _
  cases vs<;>cases ds<;>simp [DataW.TrodAll] at h ⊢
  exact h
 |cons t ts ih=>
  intro vs ds ps ht h hlt
  cases vs<;>cases ds<;>simp only [DataW.TrodAll] at h ⊢
  obtain ⟨p,q,h1,h2,rfl⟩:=h
  exact ⟨p,q,Below.trod hl (ht t (by simp)).1 (ht t (by simp)).2 h1 hb (fun x hx=>hlt x (by simp [hx])),ih (fun t h=>ht t (by simp [h])) h2 (fun x hx=>hlt x (by simp [hx])),rfl⟩
end
end Go.Am
end
section
namespace Go.Proofs.YtomkmghgppgegaaGreatDoor
open Go.ChangeShapes Go.WideShapes Go.ChangeAt Go.RowKit Go.Am Go.Proofs.cD
theorem Own.own:ownKnob Tryz.prog.godebug=none:=by kernel_rfl
theorem Own.laidOut:laidOutB Tryz.prog=true:=by kernel_rfl
def tO:List (String×DataW Unit):=[("math/bits.deBruijn32tab",Rows.laid_math_bits_deBruijn32tab),("math/bits.deBruijn64tab",Rows.laid_math_bits_deBruijn64tab),("internal/strconv.uint64pow10",Rows.laid_internal_strconv_uint64pow10),("unicode/utf8.acceptRanges",Rows.laid_unicode_utf8_acceptRanges),("strconv.ErrRange",Rows.laid_strconv_ErrRange),("strconv.ErrSyntax",Rows.laid_strconv_ErrSyntax),("unicode/utf8.first",Rows.laid_unicode_utf8_first)]
noncomputable def zp (os:Os):World:=
 {World.doorLaid Tryz.prog 4000 os with heap:=(World.doorLaid Tryz.prog 4000 os).heap.modify 2 fun
  | .cells _ t fr=> .cells (Go.Pinned.utf8FirstZ.map fun n:Nat=>Value.int .u8 (n:Int)).toArray t fr
  |o=>o}
set_option maxRecDepth 100000 in
theorem Sd (os:Os) (args:Array Value):laidMetH Tryz.prog tO ((zp os).forCall (fun _ _=>0) ⟨#[],args,[]⟩).memory:=
 laidMetH_of_parts3 (fuel:=8) (laidMet_of_run' 8 (by kernel_rfl) (by kernel_rfl)) (by kernel_rfl) (by kernel_rfl)
set_option maxRecDepth 100000 in
theorem Jc (os:Os) (args:Array Value):((zp os).forCall (fun _ _=>0) ⟨#[],args,[]⟩).Shaped Tryz.prog:=World.shaped_of_RefB (by kernel_rfl) (by kernel_rfl)
end Go.Proofs.YtomkmghgppgegaaGreatDoor
end
section
namespace Go.Proofs.YtomkmghgppgegaaGreatDoor
open Go.ChangeShapes Go.WideShapes Go.ChangeAt Go.RowKit Go.Am Go.Proofs.cD
theorem GD {t:TypeId} {ms:Array (String×TypeId)} (ht:Tryz.prog.underlying t=some (.interface ms)) {H:Type} {enc:TypeId×Value→H} {W:World} {sp:Nat→Bool} {held:Bool} {fuel:Nat} {cs:List Value} {y:DataW H×List MemPlace}
 (h:DataW.trod enc Tryz.prog W 0 sp held fuel t cs=some y):∃ev,cs=[ev]∧(ev= .nilIface∨∃te pe,ev= .iface te pe):=by
 cases fuel with
 |zero=>simp [DataW.trod] at h
 |succ n=>
  rcases cs with _|⟨v,_|⟨v2,r⟩⟩
  · simp [DataW.trod,ht] at h
  · cases v<;>first|exact ⟨_,rfl, .inl rfl⟩|exact ⟨_,rfl, .inr ⟨_,_,rfl⟩⟩|(exfalso;simp [DataW.trod,ht] at h)
  · cases v<;>simp [DataW.trod,ht] at h
theorem zq {W:World} {name:String} {g:Nat} {cs:Array Value} (hg:Tryz.prog.globalNamed name=some g) (h:W.var? Tryz.prog name=some cs):∃t fr,W.heap[g]? =some (.cells cs t fr):=by
 simp only [World.var?,hg,Option.bind_some] at h
 split at h
 · rename_i c t fr hb
   injection h with h
   subst h
   exact ⟨t,fr,hb⟩
 · cases h
theorem Oe {W:World} (hs:W.ShapedOpen Tryz.prog) (h:laidMetH Tryz.prog tO W):∀e∈Tabs.l,∃cs ty fr,W.heap[e.1]? =some (.cells cs ty fr)∧e.2 cs:=by
 rw [MakeChecks.laidMetH_plain _ _ _ (by kernel_rfl)] at h
 obtain ⟨ps,⟨g0,t0,cs0,f0,p0,q0,Wv,ht0,hv0,hd0,⟨g1,t1,WA,f1,p1,q1,WN,ht1,hv1,hd1,⟨g2,t2,cs2,f2,p2,q2,hg2,ht2,E7,JH,⟨g3,t3,cs3,f3,p3,q3,hg3,ht3,hv3,hd3,⟨g4,t4,cs4,f4,p4,q4,hg4,ht4,hv4,hd4,⟨g5,t5,cs5,f5,p5,q5,hg5,ht5,hv5,hd5,_,_⟩,_⟩,_⟩,_⟩,_⟩,_⟩,_⟩:=h
 intro e he
 simp only [Tabs.l,List.mem_cons,List.mem_nil_iff,or_false] at he
 rcases he with rfl|rfl|rfl|rfl
 · obtain ⟨cs,hh,hsz, -⟩:=hs.1 0 #[.int .i64 0] 3 (of_decide_eq_true (by kernel_rfl)) (by kernel_rfl)
   obtain ⟨m,hm⟩:=cell_of_shapedOpen_int (g:=0) (t:=3) (k:= .i64) (zero:= #[.int .i64 0]) hs (of_decide_eq_true (by kernel_rfl)) (by kernel_rfl) rfl (by kernel_rfl) (by kernel_rfl) (by kernel_rfl)
   refine ⟨cs,_,_,hh,m, ?_⟩
   have h1:cs.size=1:=hsz
   apply Array.ext
   · exact h1
   · intro i hi _
     have:i=0:=by omega
     subst this
     simpa [World.cell?,hh,h1] using hm
 · have hg:Tryz.prog.globalNamed "internal/strconv.uint64pow10" =some 1:=by kernel_rfl
   obtain rfl:=Option.some.inj (hg.symm.trans hg2)
   obtain rfl:=Option.some.inj ((show (Tryz.prog.globals[1]?).map (·.type)=some 154 by kernel_rfl).symm.trans ht2)
   have hc:cs2.toList=Lib.pow10Tab.map fun z=>Value.int .u64 z:=Lib.cells_of_tab (n:=20) (e:=143) (k:= .u64) Tryz.underlying154 (by kernel_rfl) (by kernel_rfl) (by kernel_rfl) JH
   obtain ⟨t,fr,hb⟩:=zq hg E7
   refine ⟨cs2,t,fr,hb, ?_⟩
   simp only [←hc,Array.toArray_toList]
 · have hg:Tryz.prog.globalNamed "strconv.ErrSyntax" =some 4:=by kernel_rfl
   obtain rfl:=Option.some.inj (hg.symm.trans hg5)
   obtain rfl:=Option.some.inj ((show (Tryz.prog.globals[4]?).map (·.type)=some 78 by kernel_rfl).symm.trans ht5)
   obtain ⟨ev,he,hev⟩:=GD Tryz.underlying78 hd5
   obtain ⟨t,fr,hb⟩:=zq hg hv5
   exact ⟨cs5,t,fr,hb,ev,by rw [←Array.toArray_toList (xs:=cs5),he],hev⟩
 · have hg:Tryz.prog.globalNamed "strconv.ErrRange" =some 5:=by kernel_rfl
   obtain rfl:=Option.some.inj (hg.symm.trans hg4)
   obtain rfl:=Option.some.inj ((show (Tryz.prog.globals[5]?).map (·.type)=some 78 by kernel_rfl).symm.trans ht4)
   obtain ⟨ev,he,hev⟩:=GD Tryz.underlying78 hd4
   obtain ⟨t,fr,hb⟩:=zq hg hv4
   exact ⟨cs4,t,fr,hb,ev,by rw [←Array.toArray_toList (xs:=cs4),he],hev⟩
section
variable {H:Type} {enc:TypeId×Value→H}
theorem B9 {a:Assume} {C:Checked} {os:Os} {f:FuncId} {fn:Func} {s:ChangeSpec} {conds:List PathCond} {apart fresh handsOn again:Bool} {X:World→Array Value→Prop}
 (hX:∀(w w':World) (args:Array Value),w.heap=w'.heap→X w args→X w' args)
 (own:ownKnob C.prog.godebug=none) (started:os.Started) (noInit:C.prog.inits.idxOf? f=none) (hfn:C.prog.funcs[f]? =some fn)
 (witness:∃(w:World) (tape:Tape) (i:Input),w.os=os∧(w.forCall tape i).Shaped C.prog∧i.vars=[]∧Input.okWide C.prog (w.forCall tape i) .any w.heap.size f i∧
  ((s.pre enc C.prog fn conds apart (w.forCall tape i).memory i.args∧X (w.forCall tape i).memory i.args)∧sizedMet enc C.prog fn (OpenSpec.ofChange s) apart (w.forCall tape i).memory i.args)∧a.holds C.prog (lone (Frame.enter C.prog f i.args .normal) [] (w.forCall tape i)))
 (contract:∀(W:World) (base:Nat) (args:Array Value) (ds gs:List (DataW H)) (before:List MemPlace),
  (∀(j:Nat) t v,fn.params[j]? =some t→args[j]? =some v→Value.okWide C.prog W .any base t v)→
  DataW.Whole enc C.prog fn.params.toList s.vars apart W args.toList ds gs before→W.ShapedOpen C.prog→X W args→
  Calls C.prog f args W fun e W'=>∃v,e= .returned v∧s.post enc C.prog fn apart fresh handsOn again W args v W'):
 ReturnsInHanded a C os f .any (fun w args=>(s.pre enc C.prog fn conds apart w args∧X w args)∧sizedMet enc C.prog fn (OpenSpec.ofChange s) apart w args) (s.post enc C.prog fn apart fresh handsOn again):=by
 refine returnsInHanded_of_calls own started noInit witness ?_
 rintro w tape i - Yz - ⟨-, -, -,fn2,ady, -, -, -, -,abj⟩ ⟨⟨⟨ds,gs,before,YA, -⟩,hx⟩, -⟩ -
 obtain rfl:fn2=fn:=Option.some.inj (ady.symm.trans hfn)
 refine (contract (w.forCall tape i) _ i.args ds gs before abj (DataW.Whole.of_heap (w':=w.forCall tape i) (by rfl) YA) Yz (hX _ _ _ (by rfl) hx)).mono ?_
 rintro e W' ⟨v,rfl,hp⟩
 exact ChangeSpec.post_blind hp
end
theorem adz {P:Program} {W:World} {r:Reach} {base:Nat} {t:TypeId} {k:IntKind} (ht:P.underlying t=some (.int k)) {C:Nat→List Value} {γ:List Nat} {x:Int} {v:Value} (hv:VR C γ (.int k x) v) (h:Value.okWide P W r base t v):k.has x:=by
 obtain rfl:=hv.cQ
 unfold Value.okWide at h
 rw [ht] at h
 unfold Cell.okWide Cell.ok at h
 rw [ht] at h
 exact h.2
end Go.Proofs.YtomkmghgppgegaaGreatDoor
end
section
namespace Go.Proofs.YtomkmghgppgegaaGreatDoor
open Go.ChangeShapes Go.WideShapes Go.ChangeAt Go.RowKit Go.Am Go.Proofs.cD
abbrev yj (x:aL):AV:= .agg [(.str x.aQ.ax),(.str x.aQ.domain),(.int .i64 x.born),(.int .i64 x.size),(.int .u32 x.sum),(.sl .n 7 (ml aR x.bh))]
theorem V1 {H:Type} {enc:TypeId×Value→H} {W:World} {sp:Nat→Bool} {held:Bool}:Am.Op enc Tryz.prog W sp held 28 cW:=by
 refine zo (fs:= #[⟨"Local",9,0,false, "", "",0⟩,⟨"Domain",9,1,false, "", "",16⟩]) (by kernel_rfl) fun cs hl hf=> ?_
 have hl:cs.length=2:=hl.trans (by kernel_rfl)
 obtain ⟨n0,y0,h0⟩:=hf 0 _ rfl
 obtain ⟨x0,c0⟩:=((Jb (by kernel_rfl)):Am.Op enc Tryz.prog W sp held 9 AV.str) _ _ _ h0
 have c0:CR W (AV.str x0).cells ((cs.drop 0).take (Tryz.prog.cellsOf 9)):=c0
 rw [show Tryz.prog.cellsOf 9=1 by kernel_rfl] at c0
 obtain ⟨n1,y1,h1⟩:=hf 1 _ rfl
 obtain ⟨x1,c1⟩:=((Jb (by kernel_rfl)):Am.Op enc Tryz.prog W sp held 9 AV.str) _ _ _ h1
 have c1:CR W (AV.str x1).cells ((cs.drop 1).take (Tryz.prog.cellsOf 9)):=c1
 rw [show Tryz.prog.cellsOf 9=1 by kernel_rfl] at c1
 refine ⟨aD.mk x0 x1, ?_⟩
 have key:=(c0.append c1)
 have hcs:(cs.drop 0).take 1++((cs.drop 1).take 1)=cs:=by
  rw [List.take_of_length_le (i:=1) (l:=cs.drop 1) (by simp;omega)]
  rw [show cs.drop 1=cs.drop (0+1) from rfl,seg]
  rfl
 have key:CR W _ ((cs.drop 0).take 1++((cs.drop 1).take 1)):=key
 rw [hcs] at key
 exact key
theorem abk {H:Type} {enc:TypeId×Value→H} {W:World} {sp:Nat→Bool} {held:Bool}:Am.Op enc Tryz.prog W sp held 36 aR:=by
 refine zo (fs:= #[⟨"To",28,0,false, "", "",0⟩,⟨"State",3,2,false, "", "",32⟩,⟨"Tries",3,3,false, "", "",40⟩,⟨"Next",3,4,false, "", "",48⟩,⟨"Code",3,5,false, "", "",56⟩,⟨"Why",9,6,false, "", "",64⟩]) (by kernel_rfl) fun cs hl hf=> ?_
 have hl:cs.length=7:=hl.trans (by kernel_rfl)
 obtain ⟨n0,y0,h0⟩:=hf 0 _ rfl
 obtain ⟨x0,c0⟩:=(V1:Am.Op enc Tryz.prog W sp held 28 cW) _ _ _ h0
 have c0:CR W (cW x0).cells ((cs.drop 0).take (Tryz.prog.cellsOf 28)):=c0
 rw [show Tryz.prog.cellsOf 28=2 by kernel_rfl] at c0
 obtain ⟨n1,y1,h1⟩:=hf 1 _ rfl
 obtain ⟨x1,c1⟩:=((uH (by kernel_rfl)):Am.Op enc Tryz.prog W sp held 3 (gx .i64)) _ _ _ h1
 have c1:CR W ((gx .i64) x1).cells ((cs.drop 2).take (Tryz.prog.cellsOf 3)):=c1
 rw [show Tryz.prog.cellsOf 3=1 by kernel_rfl] at c1
 obtain ⟨n2,y2,h2⟩:=hf 2 _ rfl
 obtain ⟨x2,c2⟩:=((uH (by kernel_rfl)):Am.Op enc Tryz.prog W sp held 3 (gx .i64)) _ _ _ h2
 have c2:CR W ((gx .i64) x2).cells ((cs.drop 3).take (Tryz.prog.cellsOf 3)):=c2
 rw [show Tryz.prog.cellsOf 3=1 by kernel_rfl] at c2
 obtain ⟨n3,y3,h3⟩:=hf 3 _ rfl
 obtain ⟨x3,c3⟩:=((uH (by kernel_rfl)):Am.Op enc Tryz.prog W sp held 3 (gx .i64)) _ _ _ h3
 have c3:CR W ((gx .i64) x3).cells ((cs.drop 4).take (Tryz.prog.cellsOf 3)):=c3
 rw [show Tryz.prog.cellsOf 3=1 by kernel_rfl] at c3
 obtain ⟨n4,y4,h4⟩:=hf 4 _ rfl
 obtain ⟨x4,c4⟩:=((uH (by kernel_rfl)):Am.Op enc Tryz.prog W sp held 3 (gx .i64)) _ _ _ h4
 have c4:CR W ((gx .i64) x4).cells ((cs.drop 5).take (Tryz.prog.cellsOf 3)):=c4
 rw [show Tryz.prog.cellsOf 3=1 by kernel_rfl] at c4
 obtain ⟨n5,y5,h5⟩:=hf 5 _ rfl
 obtain ⟨x5,c5⟩:=((Jb (by kernel_rfl)):Am.Op enc Tryz.prog W sp held 9 AV.str) _ _ _ h5
 have c5:CR W (AV.str x5).cells ((cs.drop 6).take (Tryz.prog.cellsOf 9)):=c5
 rw [show Tryz.prog.cellsOf 9=1 by kernel_rfl] at c5
 refine ⟨cJ.mk x0 x1 x2 x3 x4 x5, ?_⟩
 have key:=(c0.append (c1.append (c2.append (c3.append (c4.append c5)))))
 have hcs:(cs.drop 0).take 2++((cs.drop 2).take 1++((cs.drop 3).take 1++((cs.drop 4).take 1++((cs.drop 5).take 1++((cs.drop 6).take 1)))))=cs:=by
  rw [List.take_of_length_le (i:=1) (l:=cs.drop 6) (by simp;omega)]
  rw [show cs.drop 6=cs.drop (5+1) from rfl,seg]
  rw [show cs.drop 5=cs.drop (4+1) from rfl,seg]
  rw [show cs.drop 4=cs.drop (3+1) from rfl,seg]
  rw [show cs.drop 3=cs.drop (2+1) from rfl,seg]
  rw [show cs.drop 2=cs.drop (0+2) from rfl,seg]
  rfl
 have key:CR W _ ((cs.drop 0).take 2++((cs.drop 2).take 1++((cs.drop 3).take 1++((cs.drop 4).take 1++((cs.drop 5).take 1++((cs.drop 6).take 1)))))):=key
 rw [hcs] at key
 exact key
theorem abl {H:Type} {enc:TypeId×Value→H} {W:World} {sp:Nat→Bool} {held:Bool}:Am.Op enc Tryz.prog W sp held 39 yj:=by
 refine zo (fs:= #[⟨"From",28,0,false, "", "",0⟩,⟨"Born",3,2,false, "", "",32⟩,⟨"Size",3,3,false, "", "",40⟩,⟨"Sum",34,4,false, "", "",48⟩,⟨"Rcpts",37,5,false, "", "",56⟩]) (by kernel_rfl) fun cs hl hf=> ?_
 have hl:cs.length=6:=hl.trans (by kernel_rfl)
 obtain ⟨n0,y0,h0⟩:=hf 0 _ rfl
 obtain ⟨x0,c0⟩:=(V1:Am.Op enc Tryz.prog W sp held 28 cW) _ _ _ h0
 have c0:CR W (cW x0).cells ((cs.drop 0).take (Tryz.prog.cellsOf 28)):=c0
 rw [show Tryz.prog.cellsOf 28=2 by kernel_rfl] at c0
 obtain ⟨n1,y1,h1⟩:=hf 1 _ rfl
 obtain ⟨x1,c1⟩:=((uH (by kernel_rfl)):Am.Op enc Tryz.prog W sp held 3 (gx .i64)) _ _ _ h1
 have c1:CR W ((gx .i64) x1).cells ((cs.drop 2).take (Tryz.prog.cellsOf 3)):=c1
 rw [show Tryz.prog.cellsOf 3=1 by kernel_rfl] at c1
 obtain ⟨n2,y2,h2⟩:=hf 2 _ rfl
 obtain ⟨x2,c2⟩:=((uH (by kernel_rfl)):Am.Op enc Tryz.prog W sp held 3 (gx .i64)) _ _ _ h2
 have c2:CR W ((gx .i64) x2).cells ((cs.drop 3).take (Tryz.prog.cellsOf 3)):=c2
 rw [show Tryz.prog.cellsOf 3=1 by kernel_rfl] at c2
 obtain ⟨n3,y3,h3⟩:=hf 3 _ rfl
 obtain ⟨x3,c3⟩:=((uH (by kernel_rfl)):Am.Op enc Tryz.prog W sp held 34 (gx .u32)) _ _ _ h3
 have c3:CR W ((gx .u32) x3).cells ((cs.drop 4).take (Tryz.prog.cellsOf 34)):=c3
 rw [show Tryz.prog.cellsOf 34=1 by kernel_rfl] at c3
 obtain ⟨n4,y4,h4⟩:=hf 4 _ rfl
 obtain ⟨x4,c4⟩:=((V0 (e:=36) (k:=7) (f:=aR) (by kernel_rfl) (by kernel_rfl) (by decide) abk (fun _=>rfl)):Am.Op enc Tryz.prog W sp held 37 (fun xs=>AV.sl .n 7 (ml aR xs))) _ _ _ h4
 have c4:CR W ((fun xs=>AV.sl .n 7 (ml aR xs)) x4).cells ((cs.drop 5).take (Tryz.prog.cellsOf 37)):=c4
 rw [show Tryz.prog.cellsOf 37=1 by kernel_rfl] at c4
 refine ⟨aL.mk x0 x1 x2 x3 x4, ?_⟩
 have key:=(c0.append (c1.append (c2.append (c3.append c4))))
 have hcs:(cs.drop 0).take 2++((cs.drop 2).take 1++((cs.drop 3).take 1++((cs.drop 4).take 1++((cs.drop 5).take 1))))=cs:=by
  rw [List.take_of_length_le (i:=1) (l:=cs.drop 5) (by simp;omega)]
  rw [show cs.drop 5=cs.drop (4+1) from rfl,seg]
  rw [show cs.drop 4=cs.drop (3+1) from rfl,seg]
  rw [show cs.drop 3=cs.drop (2+1) from rfl,seg]
  rw [show cs.drop 2=cs.drop (0+2) from rfl,seg]
  rfl
 have key:CR W _ ((cs.drop 0).take 2++((cs.drop 2).take 1++((cs.drop 3).take 1++((cs.drop 4).take 1++((cs.drop 5).take 1))))):=key
 rw [hcs] at key
 exact key
set_option maxRecDepth 100000 in
theorem zu (os:Os) (started:os.Started) (H:Type) (enc:TypeId×Value→H):
 ReturnsInHanded {} Tryz.checked os 5 .any (fun w args=>(Rows.bounceNoneSpec.pre enc Tryz.prog Tryz.f5 [] false w args∧laidMetH Tryz.prog tO w)∧sizedMet enc Tryz.prog Tryz.f5 (OpenSpec.ofChange Rows.bounceNoneSpec) false w args) (Rows.bounceNoneSpec.post enc Tryz.prog Tryz.f5 false true false false):=by
 refine B9 (C:=Tryz.checked) (X:=fun w _=>laidMetH Tryz.prog tO w) (fun _ _ _ hh h=>h.of_heap hh) Own.own started (by kernel_rfl) Tryz.func5
  (ChangeSpec.witness_shaped (enc:=enc) (C:=Tryz.checked) (os:=os) (X:=fun w _=>laidMetH Tryz.prog tO w) false (zp os) #[.agg #[.string ⟨#[]⟩, .string ⟨#[]⟩, .int .i64 0, .int .i64 0, .int .u32 0, .slice none 0 0], .slice none 0 0] 8 rfl (Jc os _) (by kernel_rfl) (by kernel_rfl) (by kernel_rfl) (Sd os _)) ?_
 intro W base args ds gs before abm hW hS hL
 have hval:∀(j:Nat) t v,Tryz.f5.params[j]? =some t→args[j]? =some v→Value.okWide Tryz.prog W .any base t v:=abm
 have hW':=hW
 obtain ⟨p,q,hA0,hV,rfl,hfz,hnd⟩:=hW
 have hA:DataW.TrodAll enc Tryz.prog W 0 (fun _=>true) true Tryz.f5.params.toList args.toList ds p:=hA0
 have hA1:=hA
 rw [Tryz.params5] at hA hval
 obtain ⟨vs,hvs⟩:∃vs,vs=args.toList:=⟨_,rfl⟩
 rw [←hvs] at hA
 obtain ⟨v0,vs0,d0,ds0,p0,q0,e0,rfl,rfl,h0,hA⟩:=trodAll_cons hA
 obtain ⟨v1,vs1,d1,ds1,p1,q1,e1,rfl,rfl,h1,hA⟩:=trodAll_cons hA
 obtain ⟨e2,rfl,rfl⟩:=trodAll_nil hA
 have hargs:args= #[v0,v1]:=by
  apply Array.ext';rw [←hvs,e0,e1,e2]
 subst hargs
 obtain ⟨rfl,rfl⟩:=trodVars_none hV
 obtain ⟨x0,a0⟩:=Op.adx (f:=yj) (fs:= #[⟨"From",28,0,false, "", "",0⟩,⟨"Born",3,2,false, "", "",32⟩,⟨"Size",3,3,false, "", "",40⟩,⟨"Sum",34,4,false, "", "",48⟩,⟨"Rcpts",37,5,false, "", "",56⟩]) abl (by kernel_rfl) (fun _=>rfl) (hval 0 39 v0 rfl rfl) h0
 obtain ⟨x1,a1⟩:=Op.arg1 (f:=(fun xs=>AV.sl .n 1 (ml b8 xs))) (V0 (e:=5) (k:=1) (f:=b8) (by kernel_rfl) (by kernel_rfl) (by decide) (abg (by kernel_rfl)) (fun _=>rfl)) (fun _=>rfl) (fun cs=>Sc (e:=5) (by kernel_rfl) cs) (hval 1 22 v1 rfl rfl) h1
 have hlt:∀x∈p0++(p1++([])),x.block<W.heap.size:=fun x hx=>hW'.lt x (by simpa using hx)
 obtain ⟨F,hF⟩:=Dd x0 x1
 refine ((wL (H0:=[]) hF).row (vs:= #[v0,v1]) (Oe hS hL) rfl ?_).mono ?_
 · intro i x hi
   rcases i with _|_|i
   · simp at hi;subst hi;exact ⟨a0,TC.enc (by rfl) _,rfl⟩
   · simp at hi;subst hi;exact ⟨a1,TC.enc (by rfl) _,rfl⟩
   · simp at hi
 · rintro e W' ⟨r,v,aB,γ',C',rfl,⟨rfl,rfl⟩,hv,hb⟩
   have hv:=hv.gC
   subst hv
   refine ⟨_,rfl,_,_,_,[],p0++(p1++([])),[],hW', ?_, ?_, ?_,hb.frame _,fun h=>by cases h⟩
   · exact trodAll_mk1 (shut_bool (by kernel_rfl) true)
   · exact E5 Own.laidOut hb (of_decide_eq_true (by kernel_rfl)) hA1 hlt
   · exact rfl
theorem AO:Rows.BounceNoneSaid:=
 OpenClaim.holds_of_wide 5 Tryz.f5 rfl rfl rfl rfl rfl rfl rfl ⟨rfl,rfl,rfl,rfl,rfl⟩ rfl rfl rfl rfl rfl (by kernel_rfl) Tryz.func5 (by kernel_rfl)
  (of_decide_eq_true (by kernel_rfl)) (by unfold Func.isWrapper;first|(rw [if_pos (by decide+kernel)];kernel_rfl)|(rw [if_neg (by decide+kernel)];exact ⟨rfl,rfl⟩))
  (fun os started H enc _=>zu os started H enc)
theorem bounceNone_tied:Rows.BounceNoneCardSaid:=
 Claim7.holds_tied_plain_at .later [] [.data, .data, .data, .data, .sentinel, .sentinel, .pinned] true Rows.bounceNoneCard.stood.harness true
  AO (fun _ h=>by cases h) (by kernel_rfl) (fun _ h=>by cases h) bounceNone_row_tie rfl ⟨rfl,rfl⟩ (by kernel_rfl) rfl
  (fun f fn hf hfn=>by
   obtain rfl:f=5:=Option.some.inj ((show Tryz.prog.funcNamed Rows.bounceNoneRow.func=some 5 by kernel_rfl).symm.trans hf) |>.symm
   obtain rfl:fn=Tryz.f5:=(Option.some.inj (Tryz.func5.symm.trans hfn)).symm
   exact ⟨by kernel_rfl,fun j t ht=>by
    rw [Tryz.params5] at ht
    have hm:t∈[39,22]:=by have:=Array.mem_of_getElem? ht;simpa using this
    have hall:([39,22].all fun u=> !Tryz.prog.wantsStandIn u)=true:=by kernel_rfl
    exact (show Tryz.prog.wantsStandIn t=false by simpa using List.all_eq_true.1 hall t hm)⟩)
  (by kernel_rfl)
end Go.Proofs.YtomkmghgppgegaaGreatDoor
end
