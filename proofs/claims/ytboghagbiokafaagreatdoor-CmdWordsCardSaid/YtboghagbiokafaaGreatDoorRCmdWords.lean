/- The law CmdWords returns true at every input whose tables read as laid; each argument reads behind the call as it did; the tied card. -/
import Derived.Test.YtboghagbiokafaaGreatDoorM4
import Derived.Lib.IndexMore
import Derived.Lib.AtoiTie
import Derived.Below
import Derived.Deep.Slices
import Derived.Carry
import Derived.Test.YtboghagbiokafaaGreatDoorRows
import Derived.ProofKit
import Derived.LaidMore
import Derived.Lib.LaidTab
import Derived.Shelf.Vars
import Derived.HandedShaped
import Derived.Test.YtboghagbiokafaaGreatDoorCards
import Derived.Test.YtboghagbiokafaaGreatDoorTie
import Derived.SevenTiedAt
set_option linter.unusedSimpArgs false
set_option linter.unusedVariables false
set_option linter.unusedSectionVars false
set_option linter.defProp false
section
set_option maxRecDepth 100000
namespace Go.Proofs.ei
open Go Go.Am Go.Proofs
def gL (c:UInt8):Bool:=G9 c||gS c||c==45||c==46||c==91||c==93
def cI (c:UInt8):Bool:=decide (32≤c)&&decide (c≤126)
def kT (c:UInt8):Bool:=G9 c||gS c||([33,35,36,37,38,39,42,43,45,47,61,63,94,95,96,123,124,125,126]:List UInt8).contains c
def kU (c:UInt8):Bool:=c==46||kT c
theorem Nf (c:UInt8):kN c=some (kT c):=by
 have:=gi (p:=fun c=>decide (kN c=some (kT c))) (by kernel_rfl) c
 simpa using this
theorem Ng (c:UInt8):dw c=some (gL c):=by
 have:=gi (p:=fun c=>decide (dw c=some (gL c))) (by kernel_rfl) c
 simpa using this
theorem Nh (c:UInt8):dJ c=some (kU c):=by
 have:=gi (p:=fun c=>decide (dJ c=some (kU c))) (by kernel_rfl) c
 simpa using this
structure At (s:List UInt8) (n:Nat) (r:List UInt8):Prop where
 le:n≤s.length
 dr:s.drop n=r
 sm:s.length≤90000
def nx:List UInt8→UInt8
 |[]=>0
 |c::_=>c
theorem At.len {s r:List UInt8} {n:Nat} (h:At s n r):n+r.length=s.length:=by
 rw [←h.dr,List.length_drop];have:=h.le;omega
theorem At.next {s r:List UInt8} {n:Nat} {c:UInt8} (h:At s n (c::r)):At s (n+1) r:=by
 obtain ⟨h1,h2,h3⟩:=drop_cons h.dr
 exact ⟨h1,h3,h.sm⟩
theorem j7 {s r:List UInt8} {n:Nat} (h:At s n r):bu ⟨s,(n:Int),false⟩=some (nx r):=by
 unfold bu
 cases r with
 |nil=>
  have:=h.len
  rw [if_pos (by simp at this ⊢;omega)];rfl
 |cons c r=>
  obtain ⟨h1,h2,h3⟩:=drop_cons h.dr
  rw [if_neg (by simp;omega),cL h2];rfl
theorem td {s:List UInt8} {n:Int}:bu ⟨s,n,true⟩=some 0:=by simp [bu]
theorem v7 {s r:List UInt8} {n:Nat} {c:UInt8} (h:At s n (c::r)):bC ⟨s,(n:Int),false⟩ c=some (true,⟨s,((n+1:Nat):Int),false⟩):=by
 have:=h.len;have:=h.sm
 unfold bC
 rw [j7 h,Option.bind_some]
 simp only [nx]
 rw [if_neg (by simp),wi (by omega)]
theorem tf {s r:List UInt8} {n:Nat} {c:UInt8} (h:At s n r) (hc:nx r≠c):bC ⟨s,(n:Int),false⟩ c=some (false,⟨s,(n:Int),false⟩):=by
 unfold bC
 rw [j7 h,Option.bind_some,if_pos (by simpa using hc)]
theorem tY {s:List UInt8} {n:Int} {c:UInt8} (hc:c≠0):bC ⟨s,n,true⟩ c=some (false,⟨s,n,true⟩):=by
 unfold bC
 rw [td,Option.bind_some,if_pos (by simpa using fun h=>hc h.symm)]
theorem wG {s r:List UInt8} {n:Nat} {c:UInt8} (h:At s n (c::r)):bn ⟨s,(n:Int),false⟩ c=some ⟨s,((n+1:Nat):Int),false⟩:=by
 unfold bn;simp [v7 h]
theorem zX {s r:List UInt8} {n:Nat} {c:UInt8} (h:At s n r) (hc:nx r≠c):bn ⟨s,(n:Int),false⟩ c=some ⟨s,(n:Int),true⟩:=by
 unfold bn;simp [tf h hc]
theorem gF {s:List UInt8} {n:Int} {c:UInt8}:bn ⟨s,n,true⟩ c=some ⟨s,n,true⟩:=by
 unfold bn;simp
theorem Fj {q:UInt8→Bool} {ρ:Type} {body:(UInt8×aB)→Option (St ρ aB (UInt8×aB))} {s:List UInt8} (h0:q 0=false)
 (hb:∀(c:UInt8) (n:Int) (b:Bool),body (c,⟨s,n,b⟩)=if q c=true then (bu ⟨s,IntKind.wrap .i64 (n+1),b⟩).bind fun r9=>some (.cU (r9,⟨s,IntKind.wrap .i64 (n+1),b⟩)) else some (.dW ⟨s,n,b⟩)):
 ∀(r:List UInt8) (n F:Nat),At s n r→r.length<F→iter body F (nx r,⟨s,(n:Int),false⟩)=some (.inr ⟨s,((n+(r.takeWhile q).length:Nat):Int),false⟩):=by
 intro r
 induction r with
 |nil=>
  intro n F h hF
  obtain ⟨G,rfl⟩:=dc hF
  rw [cP (t:=⟨s,(n:Int),false⟩) (by rw [hb,if_neg (by simp [nx,h0])])]
  simp
 |cons c r ih=>
  intro n F h hF
  obtain ⟨G,rfl⟩:=dc hF
  have:=h.len;have:=h.sm
  by_cases hq:q c=true
  · have hst:body (nx (c::r),⟨s,(n:Int),false⟩)=some (.cU (nx r,⟨s,((n+1:Nat):Int),false⟩)):=by
     rw [hb,if_pos (by simpa [nx] using hq),wi (by omega),j7 h.next];rfl
    rw [eg hst,ih (n+1) G h.next (by simp at hF;omega),List.takeWhile_cons,if_pos hq]
    simp only [List.length_cons]
    congr 4
    omega
  · rw [cP (t:=⟨s,(n:Int),false⟩) (by rw [hb,if_neg (by simpa [nx] using hq)]),List.takeWhile_cons,if_neg hq]
    simp
theorem zY (q:UInt8→Bool) (r:List UInt8):(r.takeWhile q).length≤r.length:=(List.takeWhile_prefix q).length_le
theorem At.skip {s r:List UInt8} {n:Nat} (h:At s n r) (q:UInt8→Bool):At s (n+(r.takeWhile q).length) (r.dropWhile q):=by
 have h1:(r.takeWhile q).length≤r.length:=zY _ _
 have h2:=h.len
 refine ⟨by omega, ?_,h.sm⟩
 rw [←List.drop_drop,h.dr]
 conv=>lhs;rw [←List.takeWhile_append_dropWhile (p:=q) (l:=r)]
 rw [List.takeWhile_append_dropWhile]
 conv=>lhs;arg 2;rw [←List.takeWhile_append_dropWhile (p:=q) (l:=r)]
 exact List.drop_left ..
theorem DP {s r:List UInt8} {n:Nat} (h:At s n r) (q:UInt8→Bool):sub s (n:Int) ((n+(r.takeWhile q).length:Nat):Int)=some (r.takeWhile q):=by
 have h1:=(h.skip q).le
 rw [rB (by omega) h1,List.drop_take,h.dr,Nat.add_sub_cancel_left]
 congr 1
 conv=>lhs;arg 2;rw [←List.takeWhile_append_dropWhile (p:=q) (l:=r)]
 exact List.take_left ..
theorem Mg {s r:List UInt8} {n F:Nat} (h:At s n r) (hF:s.length+1<F):
 bP F ⟨s,(n:Int),false⟩=some (r.takeWhile gL,⟨s,((n+(r.takeWhile gL).length:Nat):Int), !iI (r.takeWhile gL)⟩):=by
 have h1:=h.len;have h2:=h.sm
 have h3:(r.takeWhile gL).length≤r.length:=zY _ _
 unfold bP
 rw [j7 h,Option.bind_some,Fj (q:=gL) (s:=s) (by decide) (fun c n b=>by simp only [dx,Ng,Option.bind_some]) r n F h (by omega)]
 simp only [Option.bind_some]
 rw [DP h,Option.bind_some]
 unfold dy
 simp only [Bool.false_eq_true,if_false]
 rw [DO (by omega) (by omega)]
 rfl
theorem lD {s:List UInt8} {n F:Nat} (hn:n≤s.length) (hF:0<F):bP F ⟨s,(n:Int),true⟩=some ([],⟨s,(n:Int),true⟩):=by
 obtain ⟨G,rfl⟩:=dc hF
 unfold bP
 rw [td,Option.bind_some,cP (t:=⟨s,(n:Int),true⟩) (by simp only [dx,Ng,Option.bind_some];rfl)]
 simp only [Option.bind_some]
 rw [rB (Nat.le_refl _) hn,Option.bind_some]
 unfold dy
 simp only [if_true,Option.bind_some]
 congr 2
 simp
def j8 (s:List UInt8):Bool:=(aZ s).all fun p=>p !=[]&&p.all kT
theorem Qq {s:List UInt8} {F:Nat} (hl:s.length≤1000000) (hF:s.length<F):hO F s=some (s.all kT):=by
 unfold hO
 have hh:=scan (s:=s) (body:=dI s) (mk:=fun i=>(false,(i:Int))) (p:=kT) (rr:=fun _=>false) (tt:=()) ?_ ?_ ?_ hF
 · cases ha:s.all kT with
   |true=>have:=hh.1 ha;rw [show ((0:Nat):Int)=0 from rfl] at this;rw [this];rfl
   |false=>obtain ⟨j,hj⟩:=hh.2 ha;rw [show ((0:Nat):Int)=0 from rfl] at hj;rw [hj];rfl
 · intro i x hx hp
   have hi:=(List.getElem?_eq_some_iff.1 hx).1
   simp only [dI]
   rw [if_pos (by simpa using hi),cL hx,Option.bind_some,Nf,Option.bind_some,hp,wi (by omega)];rfl
 · intro i x hx hp
   have hi:=(List.getElem?_eq_some_iff.1 hx).1
   simp only [dI]
   rw [if_pos (by simpa using hi),cL hx,Option.bind_some,Nf,Option.bind_some,hp];rfl
 · simp [dI]
theorem JG {x:List UInt8} {F:Nat} (hl:x.length≤1000000) (hF:x.length<F):jc F x=some (!(x !=[]&&x.all kT)):=by
 unfold jc iD
 by_cases hx:x=[]
 · subst hx;rfl
 · rw [if_neg (by simpa using hx),Qq hl hF]
   simp [hx]
theorem Fk {s:List UInt8} {F:Nat} (hl:s.length≤90000) (hF:s.length+1<F):jB F s=some (j8 s):=by
 have hn:=wD s
 unfold jB
 rw [rC (by omega),Option.bind_some]
 unfold eo e7
 have hh:=scan (s:=aZ s) (F:=F) (body:=cr F (aZ s)) (mk:=fun i=>(0,(i:Int))) (p:=fun p=>p !=[]&&p.all kT) (rr:=fun i=>(i:Int)) (tt:=()) ?_ ?_ ?_ (by omega)
 · unfold j8
   cases ha:(aZ s).all fun p=>p !=[]&&p.all kT with
   |true=>have:=hh.1 ha;rw [show ((0:Nat):Int)=0 from rfl] at this;rw [this];rfl
   |false=>obtain ⟨j,hj⟩:=hh.2 ha;rw [show ((0:Nat):Int)=0 from rfl] at hj;rw [hj];simp
 · intro i x hx' hp
   have hi:=(List.getElem?_eq_some_iff.1 hx').1
   have hxl:=lC s x (List.mem_of_getElem? hx')
   simp only [cr]
   rw [if_pos (by simpa using hi),cL hx',Option.bind_some,JG (by omega) (by omega),Option.bind_some,hp,wi (by omega)];rfl
 · intro i x hx' hp
   have hi:=(List.getElem?_eq_some_iff.1 hx').1
   have hxl:=lC s x (List.mem_of_getElem? hx')
   simp only [cr]
   rw [if_pos (by simpa using hi),cL hx',Option.bind_some,JG (by omega) (by omega),Option.bind_some,hp];rfl
 · simp [cr]
def qL:List UInt8→Option (List UInt8×List UInt8)
 |[]=>none
 |c::r=>if c=34 then some ([],r)
  else if c=92 then (match r with
   |[]=>none
   |d::r'=>if cI d then (qL r').map fun x=>(d::x.1,x.2) else none)
  else if cI c then (qL r).map fun x=>(c::x.1,x.2) else none
theorem v8 (c:UInt8) (r:List UInt8):qL (c::r)=if c=34 then some ([],r)
 else if c=92 then (match r with
  |[]=>none
  |d::r'=>if cI d then (qL r').map fun x=>(d::x.1,x.2) else none)
 else if cI c then (qL r).map fun x=>(c::x.1,x.2) else none:=by
 cases r<;>rfl
theorem Hf (c:UInt8):jb c=some (cI c):=rfl
theorem acW:cI 0=false:=by decide
theorem ZG {s r acc:List UInt8} {n:Nat} (h:At s n (34::r)):bF (acc,⟨s,(n:Int),false⟩)=some (.dW (acc,⟨s,((n+1:Nat):Int),false⟩)):=by
 simp only [bF,cO,Bool.not_false,if_true]
 rw [v7 h]
 simp
theorem Mh {s r acc:List UInt8} {n:Nat} (h:At s n r) (h1:nx r≠34) (h2:nx r≠92) (ha:acc.length≤90000):bF (acc,⟨s,(n:Int),false⟩)=
 if cI (nx r)=true then some (.cU (acc++[nx r],⟨s,((n+1:Nat):Int),false⟩)) else some (.dW (acc,⟨s,(n:Int),true⟩)):=by
 have:=h.le;have:=h.sm
 simp only [bF,cO,Bool.not_false,if_true]
 rw [tf h h1]
 simp only [Option.bind_some,Bool.not_false,if_true]
 rw [tf h h2]
 simp only [Option.bind_some]
 rw [j7 h]
 simp only [Option.bind_some,Hf]
 cases cI (nx r) with
 |false=>simp
 |true=>
  simp only [Bool.not_true,Bool.false_eq_true,if_false,if_true]
  rw [lB (by simp;omega) (by omega),Option.bind_some,wi (by omega)]
theorem ZH {s r acc:List UInt8} {n:Nat} (h:At s n (92::r)) (ha:acc.length≤90000):bF (acc,⟨s,(n:Int),false⟩)=
 if cI (nx r)=true then some (.cU (acc++[nx r],⟨s,((n+2:Nat):Int),false⟩)) else some (.dW (acc,⟨s,((n+1:Nat):Int),true⟩)):=by
 have:=h.next.le;have:=h.sm
 simp only [bF,cO,Bool.not_false,if_true]
 rw [tf h (by simp [nx])]
 simp only [Option.bind_some,Bool.not_false,if_true]
 rw [v7 h]
 simp only [Option.bind_some]
 rw [j7 h.next]
 simp only [Option.bind_some,Hf]
 cases cI (nx r) with
 |false=>simp
 |true=>
  simp only [Bool.not_true,Bool.false_eq_true,if_false,if_true]
  rw [lB (by simp;omega) (by omega),Option.bind_some,wi (by omega)]
theorem Hg {s:List UInt8}:∀(k:Nat) (r acc:List UInt8) (n F:Nat),r.length≤k→At s n r→acc.length≤n→r.length<F→
 match qL r with
 |some (b,rest)=>∃n':Nat,iter bF F (acc,⟨s,(n:Int),false⟩)=some (.inr (acc++b,⟨s,(n':Int),false⟩))∧At s n' rest
 |none=>∃acc',∃n':Nat,iter bF F (acc,⟨s,(n:Int),false⟩)=some (.inr (acc',⟨s,((n':Nat):Int),true⟩))∧n'≤s.length:=by
 intro k
 induction k with
 |zero=>
  intro r acc n F hk h ha hF
  have hr:r=[]:=List.length_eq_zero_iff.1 (by omega)
  subst hr
  obtain ⟨G,rfl⟩:=dc hF
  have:=h.le;have:=h.sm
  refine ⟨acc,n,cP ?_,h.le⟩
  rw [Mh h (by decide) (by decide) (by omega),if_neg (by decide)]
 |succ k ih=>
  intro r acc n F hk h ha hF
  obtain ⟨G,rfl⟩:=dc (show 0<F by omega)
  have h1:=h.le;have h2:=h.sm
  match r,hk,h,hF with
  |[],hk,h,hF=>exact ⟨acc,n,cP (by rw [Mh h (by decide) (by decide) (by omega),if_neg (by decide)]),h.le⟩
  |c::r,hk,h,hF=>
   rw [v8]
   by_cases hc:c=34
   · subst hc
     rw [if_pos rfl]
     exact ⟨n+1,by rw [cP (ZG h)];simp,h.next⟩
   · rw [if_neg hc]
     by_cases NM:c=92
     · subst NM
       rw [if_pos rfl]
       have hst:=ZH (acc:=acc) h (by omega)
       match r,hk,h,hF,hst with
       |[],hk,h,hF,hst=>exact ⟨acc,n+1,cP (by rw [hst,if_neg (by decide)]),h.next.le⟩
       |d::r',hk,h,hF,hst=>
        cases hv:cI d with
        |false=>simp only [hv,Bool.false_eq_true,if_false];exact ⟨acc,n+1,cP (hst.trans (if_neg (by show ¬cI d=true;rw [hv];decide))),h.next.le⟩
        |true=>
         simp only [if_true]
         have TP:=hst.trans (if_pos (show cI (nx (d::r'))=true from hv))
         have:=ih r' (acc++[d]) (n+2) G (by simp at hk;omega) h.next.next (by simp;omega) (by simp at hF;omega)
         rw [eg TP]
         cases hq:qL r' with
         |none=>rw [hq] at this;simp only [nx,hv,if_true,Option.map_none];exact this
         |some x=>
          obtain ⟨b,rest⟩:=x
          rw [hq] at this
          obtain ⟨n',h3,h4⟩:=this
          simp only [nx,hv,if_true,Option.map_some];exact ⟨n',by rw [h3];simp,h4⟩
     · rw [if_neg NM]
       have hst:=Mh (acc:=acc) h (by simpa [nx] using hc) (by simpa [nx] using NM) (by omega)
       cases hv:cI c with
       |false=>simp only [hv,Bool.false_eq_true,if_false];exact ⟨acc,n,cP (hst.trans (if_neg (by show ¬cI c=true;rw [hv];decide))),h.le⟩
       |true=>
        simp only [if_true]
        have TP:=hst.trans (if_pos (show cI (nx (c::r))=true from hv))
        have:=ih r (acc++[c]) (n+1) G (by simp at hk;omega) h.next (by simp;omega) (by simp at hF;omega)
        rw [eg TP]
        cases hq:qL r with
        |none=>rw [hq] at this;simp only [nx,hv,if_true,Option.map_none];exact this
        |some x=>
         obtain ⟨b,rest⟩:=x
         rw [hq] at this
         obtain ⟨n',h3,h4⟩:=this
         simp only [nx,hv,if_true,Option.map_some];exact ⟨n',by rw [h3];simp,h4⟩
def Out (s:List UInt8) (o:Option (List UInt8×aB)):Option (List UInt8×List UInt8)→Prop
 |some (b,rest)=>∃n',o=some (b,⟨s,((n':Nat):Int),false⟩)∧At s n' rest
 |none=>∃b n',o=some (b,⟨s,((n':Nat):Int),true⟩)∧n'≤s.length
def j9 (r:List UInt8):Option (List UInt8×List UInt8):=
 if nx r=34 then (match qL (r.drop 1) with|some (b,rest)=>if b=[] then none else some (b,rest)|none=>none)
 else if j8 (r.takeWhile kU) then some (r.takeWhile kU,r.dropWhile kU) else none
def fR (r:List UInt8):Option (List UInt8×List UInt8):=if iI (r.takeWhile gL) then some (r.takeWhile gL,r.dropWhile gL) else none
theorem Bq {s r:List UInt8} {n F:Nat} (h:At s n r) (hF:s.length+1<F):Out s (bP F ⟨s,(n:Int),false⟩) (fR r):=by
 rw [Mg h hF]
 unfold fR
 cases hs:iI (r.takeWhile gL) with
 |true=>exact ⟨_,rfl,h.skip _⟩
 |false=>exact ⟨_,_,rfl,(h.skip gL).le⟩
theorem Mi {s r:List UInt8} {n F:Nat} (h:At s n r) (hF:s.length+1<F):Out s (cX F ⟨s,(n:Int),false⟩) (j9 r):=by
 have h1:=h.len;have h2:=h.sm
 unfold cX j9
 rw [j7 h,Option.bind_some]
 by_cases hq:nx r=34
 · rw [if_pos (by simpa using hq),if_pos hq]
   cases r with
   |nil=>simp [nx] at hq
   |cons c r=>
    simp only [nx] at hq
    subst hq
    simp only [List.drop_succ_cons,List.drop_zero]
    unfold fy
    rw [wG h]
    simp only [Option.bind_some]
    have:=Hg (s:=s) r.length r [] (n+1) F (Nat.le_refl _) h.next (by simp) (by simp at h1;omega)
    cases hqr:qL r with
    |none=>
     rw [hqr] at this
     obtain ⟨acc,n',h3,h4⟩:=this
     rw [h3]
     simp only [Option.bind_some,dz,if_true]
     exact ⟨_,_,rfl,h4⟩
    |some x=>
     obtain ⟨b,rest⟩:=x
     rw [hqr] at this
     obtain ⟨n',h3,h4⟩:=this
     rw [h3]
     simp only [Option.bind_some,dz,Bool.false_eq_true,if_false,List.nil_append]
     by_cases hb:b=[]
     · subst hb
       exact ⟨_,n',rfl,h4.le⟩
     · rw [if_neg hb]
       refine ⟨n', ?_,h4⟩
       have:decide ((b.length:Int)=0)=false:=by simpa using hb
       rw [this]
 · rw [if_neg (by simpa using hq),if_neg hq,Option.bind_some]
   have h3:=zY kU r
   rw [Fj (q:=kU) (s:=s) (by decide) (fun c n b=>by simp only [dK,Nh,Option.bind_some]) r n F h (by omega)]
   simp only [Option.bind_some]
   rw [DP h,Option.bind_some]
   unfold dL
   simp only [Bool.false_eq_true,if_false]
   rw [Fk (by omega) (by omega)]
   simp only [Option.bind_some]
   cases hs:j8 (r.takeWhile kU) with
   |true=>exact ⟨_,rfl,h.skip _⟩
   |false=>exact ⟨_,_,rfl,(h.skip kU).le⟩
theorem DQ {s:List UInt8} {n F:Nat} (hn:n≤s.length) (hF:0<F):∃b,cX F ⟨s,(n:Int),true⟩=some (b,⟨s,(n:Int),true⟩):=by
 obtain ⟨G,rfl⟩:=dc hF
 unfold cX
 rw [td,Option.bind_some,if_neg (by decide),Option.bind_some,cP (t:=⟨s,(n:Int),true⟩) (by simp only [dK,Nh,Option.bind_some];rfl)]
 simp only [Option.bind_some]
 rw [rB (Nat.le_refl _) hn,Option.bind_some]
 unfold dL
 exact ⟨_,rfl⟩
end Go.Proofs.ei
end
section
set_option maxRecDepth 100000
namespace Go.Proofs.ei
open Go Go.Am Go.Proofs
def Fl:Nat→List UInt8→Option (List UInt8)
 |0,_=>none
 |k+1,r=>if nx r=64 then (match fR (r.drop 1) with
   |none=>none
   |some (_,r2)=>if nx r2=44 then Fl k (r2.drop 1) else if nx r2=58 then some (r2.drop 1) else none) else none
def nP (r:List UInt8):Option (List UInt8):=if nx r=64 then Fl (r.length+1) r else some r
def TQ (s:List UInt8) (o:Option aB):Option (List UInt8)→Prop
 |some rest=>∃n':Nat,o=some ⟨s,(n':Int),false⟩∧At s n' rest
 |none=>∃n':Nat,o=some ⟨s,(n':Int),true⟩∧n'≤s.length
theorem pV {r:List UInt8} {c:UInt8} (h:nx r=c) (hc:c≠0):∃t,r=c::t:=by
 cases r with
 |nil=>exact absurd h.symm hc
 |cons a t=>exact ⟨t,by rw [←h];rfl⟩
theorem Qr {s r:List UInt8} {n:Nat} {c:UInt8} (h:At s n r) (hc:c≠0):TQ s (bn ⟨s,(n:Int),false⟩ c) (if nx r=c then some (r.drop 1) else none):=by
 by_cases hn:nx r=c
 · obtain ⟨t,rfl⟩:=pV hn hc
   rw [if_pos hn]
   exact ⟨n+1,wG h,h.next⟩
 · rw [if_neg hn]
   exact ⟨n,zX h hn,h.le⟩
theorem tZ {r b t:List UInt8} (h:fR r=some (b,t)):t.length≤r.length:=by
 unfold fR at h
 split at h
 · injection h with h;injection h with _ h;subst h;exact (List.dropWhile_suffix _).length_le
 · cases h
theorem ZI {s:List UInt8} {n F:Nat} (hn:n≤s.length) (hF:s.length+1<F):bA F (false,⟨s,(n:Int),true⟩)=some (.ret ⟨s,(n:Int),true⟩):=by
 simp only [bA,cm]
 rw [td]
 simp only [Option.bind_some]
 rw [if_neg (by decide)]
 simp only [Option.bind_some,Bool.not_false,if_true]
 rw [gF]
 simp only [Option.bind_some]
 rw [lD hn (by omega)]
 simp only [Option.bind_some]
 rw [tY (by decide)]
 simp only [Option.bind_some,Bool.not_false,if_true]
 rw [gF]
 rfl
theorem JH {s:List UInt8} {FF:Nat} (Wi:s.length+1<FF):∀(k:Nat) (first:Bool) (r:List UInt8) (n F:Nat),At s n r→r.length<k→k≤F→(first=true→nx r=64)→
 ∃o:aB⊕aB,iter (bA FF) F (first,⟨s,(n:Int),false⟩)=some o∧TQ s (some (match o with| .inl x=>x| .inr x=>x)) (Fl k r):=by
 intro k
 induction k with
 |zero=>intro first r n F h hk;omega
 |succ k ih=>
  intro first r n F h hk hF Wj
  obtain ⟨G,rfl⟩:=dc (show 0<F by omega)
  have ZC:cm ⟨s,(n:Int),false⟩ first=some true:=by
   unfold cm
   rw [j7 h,Option.bind_some]
   by_cases hx:nx r=64
   · rw [if_pos (by simpa using hx)]
   · rw [if_neg (by simpa using hx)]
     cases first with
     |false=>rfl
     |true=>exact absurd (Wj rfl) hx
  have hb:bA FF (first,⟨s,(n:Int),false⟩)=(bn ⟨s,(n:Int),false⟩ 64).bind fun r8=>(bP FF r8).bind fun x=>(bC x.2 44).bind fun y=>if (!y.1)=true then (bn y.2 58).bind fun ku=>some (.ret ku) else some (.cU (false,y.2)):=by
   simp only [bA]
   rw [ZC]
   rfl
  simp only [Fl]
  by_cases hx:nx r=64
  · rw [if_pos hx]
    obtain ⟨t,rfl⟩:=pV hx (by decide)
    simp only [List.drop_succ_cons,List.drop_zero]
    rw [wG h] at hb
    simp only [Option.bind_some] at hb
    have hd:=Bq (F:=FF) h.next Wi
    cases Mj:fR t with
    |none=>
     rw [Mj] at hd
     obtain ⟨b,n',h1,h2⟩:=hd
     rw [h1] at hb
     simp only [Option.bind_some] at hb
     rw [tY (by decide)] at hb
     simp only [Option.bind_some,Bool.not_false,if_true] at hb
     rw [gF] at hb
     exact ⟨_,fk hb,n',rfl,h2⟩
    |some x=>
     obtain ⟨b,r2⟩:=x
     rw [Mj] at hd
     obtain ⟨n',h1,h2⟩:=hd
     rw [h1] at hb
     simp only [Option.bind_some] at hb
     have hlen:=tZ Mj
     by_cases Wl:nx r2=44
     · obtain ⟨r3,rfl⟩:=pV Wl (by decide)
       simp only [if_pos Wl,List.drop_succ_cons,List.drop_zero]
       rw [v7 h2] at hb
       simp only [Option.bind_some,Bool.not_true,Bool.false_eq_true,if_false] at hb
       rw [eg hb]
       simp only [List.length_cons] at hk hlen
       exact ih false r3 (n'+1) G h2.next (by omega) (by omega) (fun h=>by cases h)
     · simp only [if_neg Wl]
       rw [tf h2 Wl] at hb
       simp only [Option.bind_some,Bool.not_false,if_true] at hb
       have hw:=Qr (c:=58) h2 (by decide)
       generalize hg:(if nx r2=58 then some (r2.drop 1) else none)=g at hw
       cases g with
       |none=>obtain ⟨m,h3,h4⟩:=hw;rw [h3] at hb;exact ⟨_,fk hb,m,rfl,h4⟩
       |some rest=>obtain ⟨m,h3,h4⟩:=hw;rw [h3] at hb;exact ⟨_,fk hb,m,rfl,h4⟩
  · rw [if_neg hx]
    rw [zX h hx] at hb
    simp only [Option.bind_some] at hb
    rw [lD h.le (by omega)] at hb
    simp only [Option.bind_some] at hb
    rw [tY (by decide)] at hb
    simp only [Option.bind_some,Bool.not_false,if_true] at hb
    rw [gF] at hb
    exact ⟨_,fk hb,n,rfl,h.le⟩
theorem Mk {s r:List UInt8} {n F:Nat} (h:At s n r) (hF:s.length+1<F):TQ s (cW F ⟨s,(n:Int),false⟩) (nP r):=by
 have:=h.len
 unfold cW nP
 by_cases hx:nx r=64
 · rw [if_pos hx]
   obtain ⟨o,h1,h2⟩:=JH hF (r.length+1) true r n F h (by omega) (by omega) fun _=>hx
   rw [h1]
   cases o with
   |inl x=>exact h2
   |inr x=>exact h2
 · rw [if_neg hx]
   obtain ⟨G,rfl⟩:=dc (show 0<F by omega)
   have hb:bA (G+1) (true,⟨s,(n:Int),false⟩)=some (.dW ⟨s,(n:Int),false⟩):=by
    simp only [bA,cm]
    rw [j7 h,Option.bind_some,if_neg (by simpa using hx)]
    rfl
   rw [cP hb]
   exact ⟨n,rfl,h⟩
theorem JI {s:List UInt8} {n F:Nat} (hF:0<F):cW F ⟨s,(n:Int),true⟩=some ⟨s,(n:Int),true⟩:=by
 obtain ⟨G,rfl⟩:=dc hF
 unfold cW
 have hb:bA (G+1) (true,⟨s,(n:Int),true⟩)=some (.dW ⟨s,(n:Int),true⟩):=by
  simp only [bA,cm]
  rw [td,Option.bind_some,if_neg (by decide)]
  rfl
 rw [cP hb]
 rfl
def xj (r:List UInt8):Option (aD×List UInt8):=
 match nP r with
 |none=>none
 |some r1=>match j9 r1 with
  |none=>none
  |some (l,r2)=>if nx r2=64 then (match fR (r2.drop 1) with
   |none=>none
   |some (d,r3)=>if nx r3=62 then some (⟨l,d⟩,r3.drop 1) else none) else none
def DR (s:List UInt8):Option (aD×List UInt8):=
 if nx s=60 then (if nx (s.drop 1)=62 then some (⟨[],[]⟩,s.drop 2) else xj (s.drop 1)) else none
theorem ZJ {s r:List UInt8} {n F:Nat} (h:At s n r) (hF:s.length+1<F):
 match xj r with
 |some (a,rest)=>∃n':Nat,eO F false ⟨s,(n:Int),false⟩=some (⟨s,(n':Int),false⟩,a)∧At s n' rest
 |none=>∃a,∃n':Nat,eO F false ⟨s,(n:Int),false⟩=some (⟨s,(n':Int),true⟩,a)∧n'≤s.length:=by
 unfold eO
 simp only [Bool.not_false,if_true]
 have bad:∀(m:Nat) (l:List UInt8),m≤s.length→∃a,((bn ⟨s,(m:Int),true⟩ 64).bind fun kM=>(bP F kM).bind fun x=>(bn x.2 62).bind fun gK=>some (gK,aD.mk l x.1))=some ((⟨s,(m:Int),true⟩:aB),a):=by
  intro m l hm
  rw [gF,Option.bind_some,lD hm (by omega),Option.bind_some]
  simp only
  rw [gF]
  exact ⟨_,rfl⟩
 unfold xj
 have hr:=Mk h hF
 cases hrl:nP r with
 |none=>
  rw [hrl] at hr
  obtain ⟨n1,h1,h2⟩:=hr
  rw [h1,Option.bind_some]
  obtain ⟨b,h3⟩:=DQ (F:=F) h2 (by omega)
  rw [h3,Option.bind_some]
  obtain ⟨a,h4⟩:=bad n1 b h2
  exact ⟨a,n1,h4,h2⟩
 |some r1=>
  rw [hrl] at hr
  obtain ⟨n1,h1,h2⟩:=hr
  rw [h1,Option.bind_some]
  have hl:=Mi h2 hF
  cases Kd:j9 r1 with
  |none=>
   rw [Kd] at hl
   obtain ⟨b,n2,h3,h4⟩:=hl
   rw [h3,Option.bind_some]
   obtain ⟨a,h5⟩:=bad n2 b h4
   simp only [Kd]
   exact ⟨a,n2,h5,h4⟩
  |some x=>
   obtain ⟨l,r2⟩:=x
   rw [Kd] at hl
   obtain ⟨n2,h3,h4⟩:=hl
   rw [h3,Option.bind_some]
   simp only [Kd]
   by_cases JJ:nx r2=64
   · obtain ⟨t,rfl⟩:=pV JJ (by decide)
     rw [wG h4,Option.bind_some]
     simp only [if_pos JJ,List.drop_succ_cons,List.drop_zero]
     have hd:=Bq h4.next hF
     cases Mj:fR t with
     |none=>
      rw [Mj] at hd
      obtain ⟨b,n3,h5,h6⟩:=hd
      rw [h5,Option.bind_some]
      simp only
      rw [gF]
      exact ⟨_,n3,rfl,h6⟩
     |some y=>
      obtain ⟨d,r3⟩:=y
      rw [Mj] at hd
      obtain ⟨n3,h5,h6⟩:=hd
      rw [h5,Option.bind_some]
      simp only
      by_cases A5:nx r3=62
      · obtain ⟨u,rfl⟩:=pV A5 (by decide)
        rw [wG h6]
        simp only [if_pos A5,List.drop_succ_cons,List.drop_zero]
        exact ⟨_,rfl,h6.next⟩
      · rw [zX h6 A5]
        simp only [if_neg A5]
        exact ⟨_,n3,rfl,h6.le⟩
   · rw [zX h4 JJ,Option.bind_some]
     simp only [if_neg JJ]
     rw [lD h4.le (by omega),Option.bind_some]
     simp only
     rw [gF]
     exact ⟨_,n2,rfl,h4.le⟩
def esc (l:List UInt8):List UInt8:=l.flatMap fun c=>if c=34∨c=92 then [92,c] else [c]
def we (a:aD):List UInt8:=if j8 a.ay then 60::(a.ay++64::(a.domain++[62])) else 60::34::(esc a.ay++34::64::(a.domain++[62]))
def JK (s:List UInt8):Bool:=s !=[]&&decide (s.length≤64)&&s.all cI
def ke (a:aD):Bool:=decide (a.ay=[])&&decide (a.domain=[])
def kf (a:aD):Bool:=ke a||(JK a.ay&&jk a.domain&&decide ((we a).length≤256))
theorem TR (l:List UInt8):(esc l).length≤2*l.length:=by
 induction l with
 |nil=>simp [esc]
 |cons c l ih=>
  simp only [esc,List.flatMap_cons,List.length_append,List.length_cons] at ih ⊢
  split<;>simp only [List.length_cons,List.length_nil]<;>omega
theorem Ml {s:List UInt8} {F:Nat} (hl:s.length≤1000000) (hF:s.length<F):gq F s=some (s.all cI):=by
 unfold gq
 have hh:=scan (s:=s) (body:=dh s) (mk:=fun i=>(false,(i:Int))) (p:=cI) (rr:=fun _=>false) (tt:=()) ?_ ?_ ?_ hF
 · cases ha:s.all cI with
   |true=>have:=hh.1 ha;rw [show ((0:Nat):Int)=0 from rfl] at this;rw [this];rfl
   |false=>obtain ⟨j,hj⟩:=hh.2 ha;rw [show ((0:Nat):Int)=0 from rfl] at hj;rw [hj];rfl
 · intro i x hx hp
   have hi:=(List.getElem?_eq_some_iff.1 hx).1
   simp only [dh]
   rw [if_pos (by simpa using hi),cL hx,Option.bind_some,Hf,Option.bind_some,hp,wi (by omega)];rfl
 · intro i x hx hp
   have hi:=(List.getElem?_eq_some_iff.1 hx).1
   simp only [dh]
   rw [if_pos (by simpa using hi),cL hx,Option.bind_some,Hf,Option.bind_some,hp];rfl
 · simp [dh]
theorem TS {s:List UInt8} {F:Nat} (hF:s.length<F):lu F s=some (JK s):=by
 unfold lu jR JK
 by_cases h:s=[]
 · subst h;rfl
 · by_cases h2:s.length≤64
   · rw [if_pos (by simpa using h),if_pos (by simp;omega),Ml (by omega) hF]
     simp [h,h2]
   · rw [if_pos (by simpa using h),if_neg (by simp;omega)]
     simp [h2]
theorem Mm {a:aD} (hl:a.ay.length≤80000):∀(r:List UInt8) (i F:Nat) (b:List UInt8),a.ay.drop i=r→i+r.length=a.ay.length→b.length≤2*i+1→r.length<F→
 iter (fB a) F (b,(i:Int))=some (.inr (b++esc r)):=by
 intro r
 induction r with
 |nil=>
  intro i F b hd hi hb hF
  obtain ⟨G,rfl⟩:=dc hF
  rw [cP (t:=b) (by simp only [fB];rw [if_neg (by simp at hi ⊢;omega)])]
  simp [esc]
 |cons c r ih=>
  intro i F b hd hi hb hF
  obtain ⟨G,rfl⟩:=dc (show 0<F by omega)
  obtain ⟨h1,h2,h3⟩:=drop_cons hd
  simp only [List.length_cons] at hi hF
  have hst:fB a (b,(i:Int))=some (.cU (b++(if c=34∨c=92 then [92,c] else [c]),((i+1:Nat):Int))):=by
   simp only [fB,kX]
   rw [if_pos (by simpa using h1),cL h2]
   simp only [Option.bind_some]
   by_cases TT:c=34
   · subst TT
     simp only [decide_true,if_true,Option.bind_some,true_or]
     rw [lB (by simp;omega) (by omega),Option.bind_some,lB (by simp;omega) (by omega),Option.bind_some,wi (by omega)]
     simp
   · by_cases ZK:c=92
     · subst ZK
       rw [if_neg (by decide)]
       simp only [decide_true,Option.bind_some,if_true,or_true]
       rw [lB (by simp;omega) (by omega),Option.bind_some,lB (by simp;omega) (by omega),Option.bind_some,wi (by omega)]
       simp
     · rw [if_neg (by simpa using TT)]
       simp only [Option.bind_some]
       rw [if_neg (by simpa using ZK),lB (by simp;omega) (by omega),Option.bind_some,wi (by omega),if_neg (by simp [TT,ZK])]
  rw [eg hst,ih (i+1) G _ h3 (by omega) (by split<;>simp<;>omega) (by omega)]
  simp [esc]
theorem JL {a:aD} {F:Nat} (hl:a.ay.length≤80000) (hd:a.domain.length≤80000) (hF:a.ay.length+1<F):kP F a=some (we a):=by
 have he:=TR a.ay
 unfold kP we
 rw [Fk (by omega) hF,Option.bind_some]
 cases j8 a.ay with
 |true=>
  simp only [Bool.not_true,Bool.false_eq_true,if_false,if_true]
  rw [gP (by simp;omega),Option.bind_some,gP (by simp;omega),Option.bind_some,gP (by simp;omega),Option.bind_some,gP (by simp;omega),Option.bind_some]
  simp
 |false=>
  simp only [Bool.not_false,if_true,Bool.false_eq_true,if_false]
  rw [show (([34]:List UInt8),(0:Int))=(([34]:List UInt8),((0:Nat):Int)) from rfl,Mm hl a.ay 0 F [34] (by simp) (by simp) (by simp) (by omega)]
  simp only [Option.bind_some]
  rw [lB (by simp;omega) (by omega),Option.bind_some,gP (by simp;omega),Option.bind_some,gP (by simp;omega),Option.bind_some,gP (by simp;omega),Option.bind_some,gP (by simp;omega),Option.bind_some]
  simp
theorem A6 {a:aD} {F:Nat} (hl:a.ay.length≤80000) (hd:a.domain.length≤80000) (hF:a.ay.length+a.domain.length+1<F):jC F a=some (kf a):=by
 unfold jC jT kO kf
 simp only [Option.bind_some]
 cases hn:ke a with
 |true=>rw [ke] at hn;rw [hn];rfl
 |false=>
  rw [ke] at hn
  rw [hn]
  simp only [Bool.false_eq_true,if_false,Bool.false_or]
  rw [TS (by omega),Option.bind_some]
  cases hlb:JK a.ay with
  |false=>rfl
  |true=>
   simp only [if_true,Bool.true_and]
   rw [TI (by omega) (by omega),Option.bind_some]
   cases hdb:jk a.domain with
   |false=>rfl
   |true=>
    simp only [if_true,Bool.true_and]
    rw [JL hl hd (by omega)]
    simp
    omega
theorem Wm (a:aD):kO a=some (ke a):=rfl
def kg (s:List UInt8):aD×List UInt8×Int:=
 match DR s with
 |none=>(⟨[],[]⟩,[],3)
 |some (a,rest)=>if kf a then (a,rest,0) else (⟨[],[]⟩,[],5)
theorem At.zero {s:List UInt8} (h:s.length≤90000):At s 0 s:=⟨Nat.zero_le _,rfl,h⟩
theorem ZL {s:List UInt8} {a:aD} {rest:List UInt8} {n:Nat} {t:List UInt8}:True:=trivial
end Go.Proofs.ei
end
section
set_option maxRecDepth 100000
namespace Go.Proofs.ei
open Go Go.Am Go.Proofs
theorem Wn:∀(k:Nat) (r b rest:List UInt8),r.length≤k→qL r=some (b,rest)→b.length+rest.length≤r.length:=by
 intro k
 induction k with
 |zero=>
  intro r b rest hk h
  have hr:r=[]:=List.length_eq_zero_iff.1 (by omega)
  subst hr;cases h
 |succ k ih=>
  intro r b rest hk h
  match r,hk,h with
  |[],hk,h=>cases h
  |c::r,hk,h=>
   rw [v8] at h
   simp only [List.length_cons] at hk ⊢
   split at h
   · injection h with h;injection h with h1 h2;subst h1 h2;simp
   · split at h
     · match r,hk,h with
       |[],hk,h=>cases h
       |d::r',hk,h=>
        simp only at h
        split at h
        · simp only [Option.map_eq_some_iff] at h
          obtain ⟨⟨b',rest'⟩,h1,h2⟩:=h
          injection h2 with h2 h3
          subst h2 h3
          have:=ih r' b' rest' (by simp at hk;omega) h1
          simp;omega
        · cases h
     · split at h
       · simp only [Option.map_eq_some_iff] at h
         obtain ⟨⟨b',rest'⟩,h1,h2⟩:=h
         injection h2 with h2 h3
         subst h2 h3
         have:=ih r b' rest' (by omega) h1
         simp;omega
       · cases h
theorem Hh (q:UInt8→Bool) (r:List UInt8):(r.dropWhile q).length≤r.length:=(List.dropWhile_suffix q).length_le
theorem Br {r b t:List UInt8} (h:j9 r=some (b,t)):b.length≤r.length∧t.length≤r.length:=by
 unfold j9 at h
 split at h
 · split at h
   · rename_i b' rest' hq
     have:=Wn _ _ _ _ (Nat.le_refl _) hq
     have hd:(r.drop 1).length≤r.length:=by simp
     split at h
     · cases h
     · injection h with h;injection h with h1 h2;subst h1 h2;omega
   · cases h
 · split at h
   · injection h with h;injection h with h1 h2;subst h1 h2
     exact ⟨zY _ _,Hh _ _⟩
   · cases h
theorem ET {r b t:List UInt8} (h:fR r=some (b,t)):b.length≤r.length:=by
 unfold fR at h
 split at h
 · injection h with h;injection h with h1 _;subst h1;exact zY _ _
 · cases h
theorem Qs:∀(k:Nat) (r r':List UInt8),Fl k r=some r'→r'.length≤r.length:=by
 intro k
 induction k with
 |zero=>intro r r' h;cases h
 |succ k ih=>
  intro r r' h
  simp only [Fl] at h
  split at h
  · split at h
    · cases h
    · rename_i b r2 hd
      have h1:=tZ hd
      have h2:(r.drop 1).length≤r.length:=by simp
      have h3:(r2.drop 1).length≤r2.length:=by simp
      split at h
      · have:=ih _ _ h;omega
      · split at h
        · injection h with h;subst h;omega
        · cases h
  · cases h
theorem Bs {r r':List UInt8} (h:nP r=some r'):r'.length≤r.length:=by
 unfold nP at h
 split at h
 · exact Qs _ _ _ h
 · injection h with h;subst h;exact Nat.le_refl _
theorem Qt {r rest:List UInt8} {a:aD} (h:xj r=some (a,rest)):a.ay.length≤r.length∧a.domain.length≤r.length:=by
 unfold xj at h
 split at h
 · cases h
 · rename_i r1 hr
   have h1:=Bs hr
   split at h
   · cases h
   · rename_i l r2 hl
     have h2:=Br hl
     split at h
     · split at h
       · cases h
       · rename_i d r3 hd
         have h3:=ET hd
         have h4:(r2.drop 1).length≤r2.length:=by simp
         split at h
         · injection h with h;injection h with h5 _;subst h5;simp only;omega
         · cases h
     · cases h
theorem TU {s:List UInt8} {F:Nat} (hs:s.length≤40000) (hF:2*s.length+10<F):oB F s=some (kg s):=by
 have hz:=At.zero (s:=s) (by omega)
 have ZM:kf ⟨[],[]⟩=true:=by simp [kf,ke]
 unfold oB kg DR
 rw [show (aB.mk s 0 false)=⟨s,((0:Nat):Int),false⟩ from rfl]
 by_cases Wo:nx s=60
 · obtain ⟨r,rfl⟩:=pV Wo (by decide)
   rw [wG hz,Option.bind_some,if_pos Wo]
   simp only [List.drop_succ_cons,List.drop_zero]
   have h1:=hz.next
   by_cases A5:nx r=62
   · obtain ⟨t,rfl⟩:=pV A5 (by decide)
     rw [v7 h1,if_pos A5]
     simp only [Option.bind_some,eO,Bool.not_true,Bool.false_eq_true,if_false]
     rw [A6 (a:=⟨[],[]⟩) (by simp) (by simp) (by simp;omega),ZM]
     simp only [Option.bind_some,Bool.not_true,Bool.false_eq_true,if_false,jh]
     rw [pU h1.next.le]
     simp
   · rw [tf h1 A5,if_neg A5]
     simp only [Option.bind_some]
     have hp:=ZJ (F:=F) h1 (by omega)
     cases hb:xj r with
     |none=>
      rw [hb] at hp
      obtain ⟨a,n',h2,h3⟩:=hp
      rw [h2]
      rfl
     |some x=>
      obtain ⟨a,rest⟩:=x
      rw [hb] at hp
      obtain ⟨n',h2,h3⟩:=hp
      obtain ⟨Xy,Bv⟩:=Qt hb
      simp only [List.length_cons] at hs hF
      rw [h2]
      simp only [Option.bind_some,Bool.false_eq_true,if_false]
      rw [A6 (by omega) (by omega) (by omega),Option.bind_some]
      cases hr:kf a with
      |false=>simp
      |true=>
       simp only [Bool.not_true,Bool.false_eq_true,if_false,jh,if_true]
       rw [pU h3.le,h3.dr]
       rfl
 · rw [zX hz Wo,Option.bind_some,if_neg Wo,tY (by decide)]
   simp only [Option.bind_some,eO,Bool.not_false,if_true]
   rw [JI (by omega),Option.bind_some]
   obtain ⟨b,h3⟩:=DQ (s:=s) (n:=0) (F:=F) (Nat.zero_le _) (by omega)
   rw [h3]
   simp only [Option.bind_some]
   rw [gF,Option.bind_some,lD (Nat.zero_le _) (by omega)]
   simp only [Option.bind_some]
   rw [gF]
   simp
def ab8 (s:List UInt8):aD×Int:=if (kg s).2.2=0∧(kg s).2.1≠[] then (⟨[],[]⟩,3) else ((kg s).1,(kg s).2.2)
theorem Hi {q:UInt8→Bool} {l:List UInt8} {x:UInt8} (hx:q x=false) (h:∀c∈l,q c=true) (t:List UInt8):(l++x::t).takeWhile q=l∧(l++x::t).dropWhile q=x::t:=by
 induction l with
 |nil=>simp [hx]
 |cons c l ih=>
  obtain ⟨h1,h2⟩:=ih fun y hy=>h y (by simp [hy])
  have:=h c (by simp)
  simp [this,h1,h2]
theorem DS (c:UInt8):kT c=true→kU c=true∧c≠62∧c≠64∧c≠34:=by
 have:=gi (p:=fun c=> !kT c||(kU c&&c !=62&&c !=64&&c !=34)) (by kernel_rfl) c
 intro h
 rw [h] at this
 simp at this
 exact ⟨this.1.1.1,this.1.1.2,this.1.2,this.2⟩
theorem Mn {l:List UInt8} (h:j8 l=true):∀c∈l,kU c=true:=by
 intro c hc
 rcases yK l c hc with rfl|⟨p,hp,iw⟩
 · decide
 · have:=List.all_eq_true.1 h p hp
   simp only [Bool.and_eq_true] at this
   exact (DS c (List.all_eq_true.1 this.2 c iw)).1
theorem JM {l:List UInt8} (h:j8 l=true):∃c t,l=c::t∧kT c=true:=by
 cases l with
 |nil=>simp [j8,aZ] at h
 |cons c t=>
  refine ⟨c,t,rfl, ?_⟩
  unfold j8 at h
  simp only [aZ] at h
  by_cases hc:c=46
  · rw [if_pos hc] at h;simp at h
  · rw [if_neg hc] at h
    cases hs:aZ t with
    |nil=>exact absurd hs (jv t)
    |cons x y=>rw [hs] at h;simp at h;exact h.1.1
theorem TV (c:UInt8):(A3 c=true→gL c=true)∧(gS c=true→gL c=true):=by
 have:=gi (p:=fun c=>(!A3 c||gL c)&&(!gS c||gL c)) (by kernel_rfl) c
 simp at this
 exact ⟨fun h=>by simpa [h] using this.1,fun h=>by simpa [h] using this.2⟩
theorem Mo {l:List UInt8} {x:UInt8} (h:l.getLast?=some x):l.dropLast++[x]=l:=by
 have hne:l≠[]:=by intro h0;subst h0;cases h
 have h2:=List.dropLast_concat_getLast hne
 rw [List.getLast?_eq_some_getLast hne] at h
 injection h with h
 rw [←h];exact h2
theorem TW {d:List UInt8} (h:rW d=true):d=91::(inner d++[93]):=by
 simp only [rW,Bool.and_eq_true,decide_eq_true_eq,beq_iff_eq] at h
 cases d with
 |nil=>simp at h
 |cons c r=>
  obtain ⟨⟨h1,h2⟩,h3⟩:=h
  simp at h2
  subst h2
  cases r with
  |nil=>simp at h1
  |cons a t=>
   rw [List.getLast?_cons_cons] at h3
   simp only [inner,List.drop_succ_cons,List.drop_zero]
   rw [Mo h3]
theorem Mp {d:List UInt8} (h:jk d=true):∀c∈d,gL c=true:=by
 intro c hc
 simp only [jk,Bool.and_eq_true] at h
 have hs:=h.1.2
 unfold iI at hs
 by_cases hi:rW d=true
 · rw [if_pos hi] at hs
   simp only [Bool.and_eq_true] at hs
   rw [TW hi] at hc
   rcases List.mem_cons.1 hc with rfl|hc
   · decide
   · rcases List.mem_append.1 hc with hc|hc
     · rcases yK _ c hc with rfl|⟨p,hp,iw⟩
       · decide
       · exact (TV c).2 (List.all_eq_true.1 (tX (List.all_eq_true.1 hs.2 p hp)).2.1 c iw)
     · simp at hc;subst hc;decide
 · rw [if_neg hi] at hs
   rcases yK _ c hc with rfl|⟨p,hp,iw⟩
   · decide
   · have:=List.all_eq_true.1 hs p hp
     simp only [j4,Bool.and_eq_true] at this
     exact (TV c).1 (List.all_eq_true.1 this.2 c iw)
theorem zZ {d:List UInt8} (h:jk d=true) {x:UInt8} (hx:gL x=false) (t:List UInt8):fR (d++x::t)=some (d,x::t):=by
 obtain ⟨h1,h2⟩:=Hi hx (Mp h) t
 unfold fR
 rw [h1,h2,if_pos]
 simp only [jk,Bool.and_eq_true] at h
 exact h.1.2
theorem Wp {l:List UInt8} (h:l.all cI=true) (rest:List UInt8):qL (esc l++34::rest)=some (l,rest):=by
 induction l with
 |nil=>simp [esc,v8]
 |cons c l ih=>
  simp only [List.all_cons,Bool.and_eq_true] at h
  have ih:=ih h.2
  simp only [esc,List.flatMap_cons,List.append_assoc] at ih ⊢
  by_cases hc:c=34∨c=92
  · rw [if_pos hc]
    simp only [List.cons_append,List.nil_append]
    rw [v8,if_neg (by decide),if_pos rfl]
    simp only [h.1,if_true,ih,Option.map_some]
  · rw [if_neg hc]
    simp only [List.cons_append,List.nil_append]
    rw [v8,if_neg fun h=>hc (.inl h),if_neg fun h=>hc (.inr h)]
    simp only [h.1,if_true,ih,Option.map_some]
theorem Qu {a:aD} (hn:ke a=false) (h:kf a=true) (more:List UInt8):∃r,we a=60::r∧nx r≠62∧nx r≠64∧(∀r',nP r'=some (r++more)→xj r'=some (a,more)):=by
 simp only [kf,hn,Bool.false_or,Bool.and_eq_true] at h
 obtain ⟨⟨hl,hd⟩, -⟩:=h
 simp only [JK,Bool.and_eq_true] at hl
 unfold we
 cases hp:j8 a.ay with
 |true=>
  obtain ⟨c,t,ht,hc⟩:=JM hp
  obtain ⟨-,A5,JJ,TT⟩:=DS c hc
  refine ⟨a.ay++64::(a.domain++[62]),by simp, ?_, ?_, ?_⟩
  · rw [ht];simpa [nx] using A5
  · rw [ht];simpa [nx] using JJ
  · intro r' hr'
    have e:(a.ay++64::(a.domain++[62]))++more=a.ay++64::(a.domain++62::more):=by simp
    obtain ⟨h1,h2⟩:=Hi (q:=kU) (x:=64) (by decide) (Mn hp) (a.domain++62::more)
    unfold xj
    rw [hr',e]
    have TX:j9 (a.ay++64::(a.domain++62::more))=some (a.ay,64::(a.domain++62::more)):=by
     unfold j9
     rw [if_neg (by rw [ht];simpa [nx] using TT),h1,h2,if_pos hp]
    simp only [TX]
    rw [if_pos (show nx (64::(a.domain++62::more))=64 from rfl)]
    simp only [List.drop_succ_cons,List.drop_zero]
    rw [zZ hd (by decide)]
    rfl
 |false=>
  refine ⟨34::(esc a.ay++34::64::(a.domain++[62])),by simp,by simp [nx],by simp [nx], ?_⟩
  intro r' hr'
  have e:(34::(esc a.ay++34::64::(a.domain++[62])))++more=34::(esc a.ay++34::64::(a.domain++62::more)):=by simp
  unfold xj
  rw [hr',e]
  have TX:j9 (34::(esc a.ay++34::64::(a.domain++62::more)))=some (a.ay,64::(a.domain++62::more)):=by
   unfold j9
   rw [if_pos (show nx (34::(esc a.ay++34::64::(a.domain++62::more)))=34 from rfl)]
   simp only [List.drop_succ_cons,List.drop_zero]
   rw [Wp hl.2]
   simp only
   rw [if_neg (by simpa using hl.1.1)]
  simp only [TX]
  rw [if_pos (show nx (64::(a.domain++62::more))=64 from rfl)]
  simp only [List.drop_succ_cons,List.drop_zero]
  rw [zZ hd (by decide)]
  rfl
theorem ZN {a:aD} (hn:ke a=false) (h:kf a=true) (more:List UInt8):kg (we a++more)=(a,more,0):=by
 obtain ⟨r,hr,A5,JJ,hb⟩:=Qu hn h more
 have abO:r≠[]:=by
  intro Hj
  subst Hj
  unfold we at hr
  split at hr
  · injection hr with _ hr;simp at hr
  · injection hr with _ hr;simp at hr
 have hnx:nx (r++more)=nx r:=by
  cases r with
  |nil=>exact absurd rfl abO
  |cons=>rfl
 unfold kg DR
 rw [hr,List.cons_append,if_pos (show nx (60::(r++more))=60 from rfl)]
 simp only [List.drop_succ_cons,List.drop_zero]
 rw [if_neg (by rw [hnx];exact A5),hb (r++more) (by unfold nP;rw [if_neg (by rw [hnx];exact JJ)])]
 simp only
 rw [if_pos h]
theorem Z6 {a:aD} {F:Nat} (hl:a.ay.length≤40000) (hd:a.domain.length≤40000) (hF:a.ay.length+a.domain.length+1<F):jD F a=some (if ke a then [60,62] else if kf a then we a else []):=by
 unfold jD
 rw [Wm,Option.bind_some]
 cases ke a with
 |true=>rfl
 |false=>
  simp only [Bool.false_eq_true,if_false]
  rw [A6 (by omega) (by omega) hF,Option.bind_some]
  cases kf a with
  |false=>rfl
  |true=>
   simp only [Bool.not_true,Bool.false_eq_true,if_false,if_true]
   rw [JL (by omega) (by omega) (by omega)]
   rfl
end Go.Proofs.ei
end
section
namespace Go.Am
open Go
def wg {α A ρ:Type} (step:A→α→Except ρ A):A→List α→Except ρ A
 |a,[]=> .ok a
 |a,x::r=>match step a x with
  | .ok a'=>wg step a' r
  | .error e=> .error e
theorem lp {α ρ τ σ A:Type} {s:List α} {body:σ→Option (St ρ τ σ)} {mk:A→Nat→σ} {step:A→α→Except ρ A} {tt:A→τ} (I:A→Nat→Prop)
 (h1:∀a i x,s[i]? =some x→I a i→match step a x with
  | .ok a'=>body (mk a i)=some (.cU (mk a' (i+1)))∧I a' (i+1)
  | .error r=>body (mk a i)=some (.ret r))
 (h3:∀a,I a s.length→body (mk a s.length)=some (.dW (tt a))) {F:Nat} {a:A} (hF:s.length<F) (h0:I a 0):
 iter body F (mk a 0)=some (match wg step a s with| .ok a'=> .inr (tt a')| .error r=> .inl r)∧∀a',wg step a s= .ok a'→I a' s.length:=by
 suffices h:∀(r:List α) (i F:Nat) (a:A),s.drop i=r→i+r.length=s.length→r.length<F→I a i→
  iter body F (mk a i)=some (match wg step a r with| .ok a'=> .inr (tt a')| .error r=> .inl r)∧∀a',wg step a r= .ok a'→I a' s.length from h s 0 F a rfl (by simp) hF h0
 intro r
 induction r with
 |nil=>
  intro i F a hd hl hF h0
  obtain ⟨G,rfl⟩:=dc hF
  have:i=s.length:=by simpa using hl
  subst this
  exact ⟨cP (h3 a h0),fun a' h=>by cases h;exact h0⟩
 |cons x r ih=>
  intro i F a hd hl hF h0
  obtain ⟨G,rfl⟩:=dc hF
  obtain ⟨hi,hx,hr⟩:=drop_cons hd
  simp only [List.length_cons] at hl hF
  have:=h1 a i x hx h0
  simp only [wg]
  cases hs:step a x with
  |ok a'=>
   rw [hs] at this
   rw [eg this.1]
   exact ih (i+1) G a' hr (by omega) (by omega) this.2
  |error e=>
   rw [hs] at this
   rw [fk this]
   exact ⟨rfl,fun a' h=>by cases h⟩
theorem lpo {α ρ τ σ A:Type} {s:List α} {body:σ→Option (St ρ τ σ)} {mk:A→Nat→σ} {step:A→α→A} {tt:A→τ} (I:A→Nat→Prop)
 (h1:∀a i x,s[i]? =some x→I a i→body (mk a i)=some (.cU (mk (step a x) (i+1)))∧I (step a x) (i+1))
 (h3:∀a,I a s.length→body (mk a s.length)=some (.dW (tt a))) {F:Nat} {a:A} (hF:s.length<F) (h0:I a 0):
 iter body F (mk a 0)=some (.inr (tt (s.foldl step a)))∧I (s.foldl step a) s.length:=by
 have key:∀(r:List α) (a:A),wg (ρ:=ρ) (fun a x=> .ok (step a x)) a r= .ok (r.foldl step a):=by
  intro r
  induction r with
  |nil=>intro a;rfl
  |cons x r ih=>intro a;simp only [wg,List.foldl_cons];exact ih _
 have:=lp (s:=s) (body:=body) (mk:=mk) (step:=fun a x=> .ok (step a x)) (tt:=tt) I (fun a i x hx h=>h1 a i x hx h) h3 hF h0
 rw [key] at this
 exact ⟨this.1,this.2 _ rfl⟩
theorem acX {a b:Int} (h0:0≤a) (h1:a≤4000000000000000000) (h2:0≤b) (h3:b≤4000000000000000000):IntKind.wrap .i64 (a+b)=a+b:=wr (by omega) (by omega)
theorem Wq {n:Nat} (h:n≤1000000000):IntKind.wrap .i64 ((n:Int)+1)=((n+1:Nat):Int):=by rw [wr (by omega) (by omega)];simp
theorem ZO {α ρ τ σ:Type} {s:List α} {body:σ→Option (St ρ τ σ)} {mk:Nat→σ} {p:α→Bool} {rr:Nat→ρ} {tt:τ}
 (h1:∀i x,s[i]? =some x→p x=true→body (mk i)=some (.cU (mk (i+1)))) (h2:∀i x,s[i]? =some x→p x=false→body (mk i)=some (.ret (rr i)))
 (h3:body (mk s.length)=some (.dW tt)) {F:Nat} (hF:s.length<F):
 (s.all p=true→iter body F (mk 0)=some (.inr tt))∧(s.all p=false→∃j,iter body F (mk 0)=some (.inl (rr j))):=by
 suffices h:∀(r:List α) (i F:Nat),s.drop i=r→i+r.length=s.length→r.length<F→
  (r.all p=true→iter body F (mk i)=some (.inr tt))∧(r.all p=false→∃j,iter body F (mk i)=some (.inl (rr j))) from h s 0 F rfl (by simp) hF
 intro r
 induction r with
 |nil=>
  intro i F hd hl hF
  obtain ⟨G,rfl⟩:=dc hF
  have:i=s.length:=by simpa using hl
  subst this
  exact ⟨fun _=>cP h3,fun h=>by simp at h⟩
 |cons x r ih=>
  intro i F hd hl hF
  obtain ⟨G,rfl⟩:=dc hF
  obtain ⟨hi,hx,hr⟩:=drop_cons hd
  simp only [List.length_cons] at hl hF
  cases hp:p x with
  |true=>
   rw [eg (h1 i x hx hp)]
   simp only [List.all_cons,hp,Bool.true_and]
   exact ih (i+1) G hr (by omega) (by omega)
  |false=>
   rw [fk (h2 i x hx hp)]
   simp only [List.all_cons,hp,Bool.false_and]
   exact ⟨fun h=>by simp at h,fun _=>⟨i,rfl⟩⟩
end Go.Am
end
section
set_option maxRecDepth 100000
namespace Go.Proofs.ei
open Go Go.Am Go.Proofs
def low (c:UInt8):UInt8:=if (decide (65≤c)&&decide (c≤90))=true then c+32 else c
def Bf (s:List UInt8) (i:Nat):List UInt8:=(s.map low).take i++s.drop i
theorem Cd {s:List UInt8} {i:Nat} (hi:i≤s.length) (j:Nat):(Bf s i)[j]? =if j<i then (s.map low)[j]? else s[j]? :=by
 unfold Bf
 have hl:((s.map low).take i).length=i:=by simp;omega
 by_cases h:j<i
 · rw [if_pos h,List.getElem?_append_left (by omega),List.getElem?_take_of_lt h]
 · rw [if_neg h,List.getElem?_append_right (by omega),hl,List.getElem?_drop]
   congr 1;omega
theorem Hl {s:List UInt8} {i:Nat} (hi:i≤s.length):(Bf s i).length=s.length:=by
 unfold Bf;simp;omega
theorem Ni {s:List UInt8} {i:Nat} (hi:i<s.length) {c:UInt8} (hc:s[i]? =some c):(Bf s i).set i (low c)=Bf s (i+1):=by
 apply List.ext_getElem?
 intro j
 rw [List.getElem?_set,Cd (by omega),Cd (by omega),Hl (by omega)]
 by_cases h:i=j
 · subst h
   rw [if_pos rfl,if_pos hi,if_pos (by omega),List.getElem?_map,hc];rfl
 · rw [if_neg h]
   by_cases h2:j<i
   · rw [if_pos h2,if_pos (by omega)]
   · rw [if_neg h2,if_neg (by omega)]
theorem Wr (s:List UInt8):Bf s s.length=s.map low:=by
 unfold Bf;rw [List.drop_length,List.append_nil,List.take_of_length_le (by simp)]
theorem Ws (c:UInt8) (h:(decide (65≤c)&&decide (c≤90))=true):c ||| 32=low c:=by
 have:=gi (p:=fun c=> !(decide (65≤c)&&decide (c≤90))||(c ||| 32==low c)) (by kernel_rfl) c
 rw [h] at this
 simpa using this
theorem Wt {n i:Nat} (h:i<n):Aj n (i:Int)=some i:=by unfold Aj;rw [if_pos (by omega)];simp
theorem TY {xs:List UInt8} {j:Nat} {c:UInt8} (h:j<xs.length):E8 xs j c=some (xs.set j c):=by unfold E8;rw [if_pos h]
theorem Wu {s:List UInt8} {i:Nat} {c:UInt8} (hi:i<s.length) (hc:s[i]? =some c) (h:¬(decide (65≤c)&&decide (c≤90))=true):Bf s i=Bf s (i+1):=by
 rw [←Ni hi hc]
 have hl:low c=c:=by unfold low;rw [if_neg h]
 rw [hl]
 apply List.ext_getElem?
 intro j
 rw [List.getElem?_set,Cd (by omega),Hl (by omega)]
 by_cases h:i=j
 · subst h;rw [if_pos rfl,if_pos hi,if_neg (by omega),hc]
 · rw [if_neg h]
theorem ZP {s:List UInt8} {F:Nat} (hs:s.length≤2100) (hF:s.length<F):fo F s=some (s.map low):=by
 have Me:∀(m i G:Nat),i+m=s.length→m<G→iter (eV s) G ((i:Int),Bf s i)=some (.inr (s.map low)):=by
  intro m
  induction m with
  |zero=>
   intro i G hi hG
   obtain ⟨G,rfl⟩:=dc hG
   have:i=s.length:=by omega
   subst this
   rw [←Wr s]
   exact cP (by simp only [eV];rw [if_neg (by simp)])
  |succ m ih=>
   intro i G hi hG
   obtain ⟨G,rfl⟩:=dc (show 0<G by omega)
   have hil:i<s.length:=by omega
   have hc:s[i]? =some s[i]:=List.getElem?_eq_getElem hil
   have hst:eV s ((i:Int),Bf s i)=some (.cU (((i+1:Nat):Int),Bf s (i+1))):=by
    simp only [eV]
    rw [if_pos (by simpa using hil),Wt hil,Option.bind_some,Cd (by omega),if_neg (by omega),hc,Option.bind_some,wi (by omega)]
    by_cases h:(decide (65≤s[i])&&decide (s[i]≤90))=true
    · rw [if_pos h,TY (by rw [Hl (by omega)];exact hil),Ws _ h,Ni hil hc];rfl
    · rw [if_neg h,Wu hil hc h]
   rw [eg hst]
   exact ih (i+1) G (by omega) (by omega)
 unfold fo
 rw [show ((0:Int),s)=(((0:Nat):Int),Bf s 0) by simp [Bf],Me s.length 0 F (by omega) hF]
 simp only [Option.bind_some]
 rw [G8 (j:=s.length) (by simp),List.take_of_length_le (by simp)]
 rfl
def cg (sep:List UInt8):List UInt8→Option (List UInt8×List UInt8)
 |[]=>none
 |c::r=>if sep.isPrefixOf (c::r) then some ([],(c::r).drop sep.length) else (cg sep r).map fun p=>(c::p.1,p.2)
theorem Qv {sep:List UInt8} (hs:sep≠[]):∀s:List UInt8,(cg sep s=none∧Lib.index s sep= -1)∨∃i:Nat,Lib.index s sep=(i:Int)∧cg sep s=some (s.take i,s.drop (i+sep.length)):=by
 intro s
 induction s with
 |nil=>left;exact ⟨rfl,by unfold Lib.index;cases sep with|nil=>exact absurd rfl hs|cons=>rfl⟩
 |cons c r ih=>
  unfold Lib.index cg
  by_cases hp:sep.isPrefixOf (c::r)=true
  · right;exact ⟨0,by rw [if_pos hp];rfl,by rw [if_pos hp];simp⟩
  · rw [if_neg hp,if_neg hp]
    rcases ih with ⟨h1,h2⟩|⟨i,h1,h2⟩
    · left;rw [h1,h2];simp
    · right
      refine ⟨i+1, ?_, ?_⟩
      · rw [h1,if_neg (by simp<;>omega)];simp
      · rw [h2];simp [List.take_succ_cons,Nat.add_right_comm]
theorem Wv {sep:List UInt8} (hs:sep≠[]) (s:List UInt8):Lib.cut s sep=match cg sep s with|some (a,b)=>(a,b,true)|none=>(s,[],false):=by
 unfold Lib.cut
 rcases Qv hs s with ⟨h1,h2⟩|⟨i,h1,h2⟩
 · rw [h1,h2,if_neg (by omega)]
 · rw [h2,h1,if_pos (by omega)];simp
theorem Ww {s sep:List UInt8} (hs:sep≠[]) (hl:s.length≤1000000000):strings_Cut s sep=some (match cg sep s with|some (a,b)=>(a,b,true)|none=>(s,[],false)):=by
 unfold strings_Cut
 rw [if_pos (by omega),Wv hs]
end Go.Proofs.ei
end
section
set_option maxRecDepth 100000
namespace Go.Proofs.ei
open Go Go.Am Go.Proofs
def nb (c:UInt8):Bool:= !decide (c=32)
theorem Qw:∀t:List UInt8,cg [32] t=if t.dropWhile nb=[] then none else some (t.takeWhile nb,(t.dropWhile nb).drop 1):=by
 intro t
 induction t with
 |nil=>rfl
 |cons c r ih=>
  by_cases h:c=32
  · subst h;simp [cg,nb,List.dropWhile,List.takeWhile,List.isPrefixOf]
  · have h1:([32]:List UInt8).isPrefixOf (c::r)=false:=by simp [List.isPrefixOf,Ne.symm h]
    have h2:nb c=true:=by simp [nb,h]
    rw [cg,h1,ih]
    simp only [Bool.false_eq_true,if_false,List.dropWhile_cons,List.takeWhile_cons,h2,if_true]
    split<;>rfl
theorem Mq {t:List UInt8} (h:t.length≤1000000000):strings_Cut t [32]=some (t.takeWhile nb,(t.dropWhile nb).drop 1,decide (t.dropWhile nb≠[])):=by
 rw [Ww (by simp) h,Qw]
 by_cases hd:t.dropWhile nb=[]
 · rw [if_pos hd]
   have:=List.takeWhile_append_dropWhile (p:=nb) (l:=t)
   rw [hd,List.append_nil] at this
   simp [hd,this]
 · rw [if_neg hd];simp [hd]
theorem Qx {t:List UInt8}:sub t ((t.takeWhile nb).length:Int) (t.length:Int)=some (t.dropWhile nb):=by
 have h:(t.takeWhile nb).length≤t.length:=(List.takeWhile_prefix nb).length_le
 rw [pU h]
 have:=List.takeWhile_append_dropWhile (p:=nb) (l:=t)
 conv=>lhs;rw [←this]
 rw [List.drop_append];simp
def wl:Nat→List UInt8
 |1=>[104,101,108,111]|2=>[101,104,108,111]|3=>[109,97,105,108]|4=>[114,99,112,116]|5=>[100,97,116,97]
 |6=>[114,115,101,116]|7=>[110,111,111,112]|8=>[113,117,105,116]|9=>[118,114,102,121]|_=>[]
def wu:Nat→List UInt8
 |1=>[72,69,76,79]|2=>[69,72,76,79]|3=>[77,65,73,76]|4=>[82,67,80,84]|5=>[68,65,84,65]
 |6=>[82,83,69,84]|7=>[78,79,79,80]|8=>[81,85,73,84]|9=>[86,82,70,89]|_=>[]
def xk (s:List UInt8):Nat→Nat→Option Nat
 |0,_=>none
 |n+1,k=>if wl k=s then some k else xk s n (k+1)
def kV (s:List UInt8):Nat:=(xk s 9 1).getD 0
theorem Wy {s:List UInt8} {body:Int×Int→Option (St Int Unit (Int×Int))}
 (h:∀k:Nat,1≤k→k≤9→body (0,(k:Int))=some (if wl k=s then .ret (k:Int) else .cU (0,((k+1:Nat):Int)))) (he:body (0,10)=some (.dW ())):
 ∀(n k G:Nat),k+n=10→1≤k→n<G→iter body G (0,(k:Int))=some (match xk s n k with|some j=> .inl (j:Int)|none=> .inr ()):=by
 intro n
 induction n with
 |zero=>
  intro k G hk h1 hG
  obtain ⟨G,rfl⟩:=dc hG
  obtain rfl:k=10:=by omega
  exact cP he
 |succ n ih=>
  intro k G hk h1 hG
  obtain ⟨G,rfl⟩:=dc hG
  have hb:=h k h1 (by omega)
  by_cases hw:wl k=s
  · rw [if_pos hw] at hb
    rw [fk hb];simp [xk,hw]
  · rw [if_neg hw] at hb
    rw [eg hb,ih (k+1) G (by omega) (by omega) (by omega)]
    simp [xk,hw]
theorem TZ {s:List UInt8}:∀(n k j:Nat),xk s n k=some j→k≤j∧j<k+n:=by
 intro n
 induction n with
 |zero=>intro k j h;cases h
 |succ n ih=>
  intro k j h
  unfold xk at h
  split at h
  · injection h with h;omega
  · have:=ih _ _ h;omega
theorem Qy (s:List UInt8):kV s≤9:=by
 unfold kV
 cases h:xk s 9 1 with
 |none=>simp
 |some j=>have:=TZ _ _ _ h;simp;omega
theorem Nj {p:Nat→Prop} (h:p 1∧p 2∧p 3∧p 4∧p 5∧p 6∧p 7∧p 8∧p 9) {k:Nat} (h1:1≤k) (h2:k≤9):p k:=by
 obtain ⟨a1,a2,a3,a4,a5,a6,a7,a8,a9⟩:=h
 have:k=1∨k=2∨k=3∨k=4∨k=5∨k=6∨k=7∨k=8∨k=9:=by omega
 rcases this with rfl|rfl|rfl|rfl|rfl|rfl|rfl|rfl|rfl<;>assumption
abbrev Z:aH:=aH.mk 0 ([]:List UInt8) (aD.mk ([]:List UInt8) ([]:List UInt8)) 0
abbrev A0:aD:=aD.mk ([]:List UInt8) ([]:List UInt8)
def k7 (w s:List UInt8):Bool:=decide (w.length≤s.length)&&decide ((s.take w.length).map low=w)
abbrev wh:List UInt8:=[32,102,114,111,109,58]
abbrev Qz:List UInt8:=[32,116,111,58]
abbrev Mr:List UInt8:=[32,115,105,122,101,61]
def blk (c:UInt8):Bool:=c==32
def wj (w s:List UInt8):aD×List UInt8×Bool:=
 if k7 w s then ((kg ((s.drop w.length).dropWhile blk)).1,(kg ((s.drop w.length).dropWhile blk)).2.1,decide ((kg ((s.drop w.length).dropWhile blk)).2.2=0)) else (A0,[],false)
def DT (s:List UInt8):Option Nat:=if k7 Mr s=true∧s.drop 6≠[]∧(s.drop 6).length≤9∧(s.drop 6).all gS=true then some (DN (s.drop 6)) else none
def Ms (s:List UInt8):aH×Int:=
 if (wj wh s).2.2=true then
  (if (wj wh s).2.1=[] then (aH.mk 3 [] (wj wh s).1 (-1),0)
  else if (wj wh s).2.1.head?=some 32 then (match DT (wj wh s).2.1 with|some n=>(aH.mk 3 [] (wj wh s).1 (n:Int),0)|none=>(Z,555))
  else (Z,501)) else (Z,501)
def Mt (s:List UInt8):aH×Int:=
 if (wj Qz s).2.2=true∧ke (wj Qz s).1=false then
  (if (wj Qz s).2.1=[] then (aH.mk 4 [] (wj Qz s).1 0,0)
  else if (wj Qz s).2.1.head?=some 32 then (Z,555) else (Z,501)) else (Z,501)
def ff (s:List UInt8):List UInt8:=(s.reverse.dropWhile blk).reverse
def A7 (k:Nat) (rest:List UInt8):aH×Int:=
 if k=0 then (Z,500) else if k=3 then Ms rest else if k=4 then Mt rest else
 if k=1∨k=2 then (if jk (rest.drop 1)=true then (aH.mk k (rest.drop 1) A0 0,0) else (Z,501)) else
 if k=5∨k=6∨k=8 then (if rest=[] then (aH.mk k [] A0 0,0) else (Z,501)) else
 if k=9∧rest=[] then (Z,501) else (aH.mk k (rest.drop 1) A0 0,0)
def JN (s:List UInt8):aH×Int:=
 if s.all cI=true then A7 (kV (((ff s).takeWhile nb).map low)) ((ff s).dropWhile nb) else (Z,500)
theorem QA (s:List UInt8):Lib.trimRightB s 32=ff s:=rfl
theorem Mu (s:List UInt8):(ff s).length≤s.length:=by
 unfold ff
 have:=(List.dropWhile_suffix (l:=s.reverse) blk).length_le
 simpa using this
theorem JO (t:List UInt8):(t.dropWhile nb).length≤t.length:=(List.dropWhile_suffix nb).length_le
theorem JP {s:List UInt8}:ff s=[]∨∃u c,ff s=u++[c]∧c≠32:=by
 unfold ff
 cases h:s.reverse.dropWhile blk with
 |nil=>left;rfl
 |cons c r=>
  right
  refine ⟨r.reverse,c,by simp, ?_⟩
  have:=List.head?_dropWhile_not blk s.reverse
  rw [h] at this
  simpa [blk] using this
theorem T0 {s:List UInt8} (h:(ff s).dropWhile nb≠[]):((ff s).dropWhile nb).drop 1≠[]:=by
 intro h1
 cases hd:(ff s).dropWhile nb with
 |nil=>exact h hd
 |cons c r=>
  rw [hd] at h1
  simp at h1
  subst h1
  have hc:c=32:=by
   have:=List.head?_dropWhile_not nb (ff s)
   rw [hd] at this
   simpa [nb] using this
  subst hc
  have JQ:=List.takeWhile_append_dropWhile (p:=nb) (l:=ff s)
  rw [hd] at JQ
  rcases JP (s:=s) with h2|⟨u,c,h2,h3⟩
  · rw [h2] at JQ;simp at JQ
  · rw [h2] at JQ
    have:=congrArg List.getLast? JQ
    simp at this
    exact h3 this.symm
theorem ZQ {t:List UInt8} (h:t.dropWhile nb≠[]):∃r,t.dropWhile nb=32::r:=by
 cases hd:t.dropWhile nb with
 |nil=>exact absurd hd h
 |cons c r=>
  have:=List.head?_dropWhile_not nb t
  rw [hd] at this
  have hc:c=32:=by simpa [nb] using this
  exact ⟨r,by rw [hc]⟩
theorem Ho:∀(l:List UInt8) (a:Nat),l.all gS=true→Lib.decFrom a l=some (l.foldl (fun a c=>10*a+(c.toNat - 48)) a):=by
 intro l
 induction l with
 |nil=>intro a _;rfl
 |cons c r ih=>
  intro a h
  simp only [List.all_cons,Bool.and_eq_true] at h
  have hc:48≤c.toNat∧c.toNat≤57:=by
   have:=h.1
   unfold gS at this
   simp only [Bool.and_eq_true,decide_eq_true_eq] at this
   exact ⟨this.1,this.2⟩
  rw [Lib.decFrom,Lib.digitVal,if_pos hc]
  simp only
  rw [ih _ h.2]
  simp only [List.foldl_cons]
  rw [Nat.mul_comm a 10]
theorem QB {d:List UInt8} (h0:d≠[]) (h1:d.length≤18) (h2:d.all gS=true):Lib.atoiAll d= .ok (DN d:Int):=by
 rw [Lib.atoiAll_short d h1]
 cases d with
 |nil=>exact absurd rfl h0
 |cons c r=>
  have hd:=Ho (c::r) 0 h2
  simp only [List.all_cons,Bool.and_eq_true] at h2
  have hc:48≤c.toNat:=by
   have:=h2.1
   unfold gS at this
   simp only [Bool.and_eq_true,decide_eq_true_eq] at this
   exact this.1
  have e1:(c==45)=false:=by
   rw [beq_eq_false_iff_ne];rintro rfl;revert hc;decide
  have e2:(c==43)=false:=by
   rw [beq_eq_false_iff_ne];rintro rfl;revert hc;decide
  unfold Lib.atoi Lib.decNat
  simp only [e1,e2,Bool.false_eq_true,if_false,List.isEmpty_cons,hd]
  rfl
theorem abP:∀(l:List UInt8) (a:Nat),l.all gS=true→l.foldl (fun a c=>10*a+(c.toNat - 48)) a<(a+1)*10 ^ l.length:=by
 intro l
 induction l with
 |nil=>intro a _;simp
 |cons c r ih=>
  intro a h
  simp only [List.all_cons,Bool.and_eq_true] at h
  have hc:c.toNat≤57:=by
   have:=h.1
   unfold gS at this
   simp only [Bool.and_eq_true,decide_eq_true_eq] at this
   exact this.2
  simp only [List.foldl_cons,List.length_cons]
  have:=ih (10*a+(c.toNat - 48)) h.2
  refine Nat.lt_of_lt_of_le this ?_
  have e:(a+1)*10 ^ (r.length+1)=(10*a+10)*10 ^ r.length:=by rw [Nat.pow_succ];rw [Nat.mul_comm (10 ^ r.length) 10, ←Nat.mul_assoc];congr 1;omega
  rw [e]
  exact Nat.mul_le_mul_right _ (by omega)
theorem Nk {q:UInt8→Bool}:∀ {l:List UInt8},l.dropWhile q=[]↔∀c∈l,q c=true:=by
 intro l
 induction l with
 |nil=>simp
 |cons c r ih=>
  by_cases h:q c=true
  · simp [List.dropWhile_cons,h,ih]
  · simp [List.dropWhile_cons,h]
theorem Wz {q:UInt8→Bool}:∀ {l:List UInt8},∀c∈l.takeWhile q,q c=true:=by
 intro l
 induction l with
 |nil=>intro c h;cases h
 |cons d r ih=>
  intro c h
  by_cases hd:q d=true
  · simp only [List.takeWhile_cons,hd,if_true,List.mem_cons] at h
    rcases h with rfl|h
    · exact hd
    · exact ih c h
  · simp only [List.takeWhile_cons,hd] at h;cases h
theorem DU {d:List UInt8}:Lib.trimS d jy=[]↔d.all gS=true:=by
 have hD:∀c:UInt8,jy.contains c=gS c:=by
  intro c
  have:=gi (p:=fun c=>decide (jy.contains c=gS c)) (by decide) c
  simpa using this
 have h1:Lib.trimS d jy=((d.reverse.dropWhile gS).reverse).dropWhile gS:=by
  unfold Lib.trimS Lib.trimLeftS Lib.trimRightS
  have:(fun x=>jy.contains x)=gS:=funext hD
  simp only [this]
 rw [h1]
 constructor
 · intro h
   rw [Nk] at h
   rw [List.all_eq_true]
   intro c hc
   have hsp:=List.takeWhile_append_dropWhile (p:=gS) (l:=d.reverse)
   have hm:c∈d.reverse:=by simpa using hc
   rw [←hsp,List.mem_append] at hm
   rcases hm with hm|hm
   · exact Wz c hm
   · exact h c (by simpa using hm)
 · intro h
   have:d.reverse.dropWhile gS=[]:=by
    rw [Nk]
    intro c hc
    exact List.all_eq_true.1 h c (by simpa using hc)
   rw [this];rfl
end Go.Proofs.ei
end
section
set_option maxRecDepth 100000
namespace Go.Proofs.ei
open Go Go.Am Go.Proofs
theorem Hp {s:List UInt8} {F:Nat} (hs:s.length≤2100) (hF:s.length<F):fo F s=some (s.map low):=ZP hs hF
theorem WA:∀k:Nat,1≤k→k≤9→nT (k:Int)=some (wu k):=fun k h1 h2=>
 Nj (p:=fun k=>nT (k:Int)=some (wu k)) (by decide) h1 h2
theorem WC:∀k:Nat,1≤k→k≤9→(wu k).map low=wl k∧(wu k).length=4:=fun k h1 h2=>
 Nj (p:=fun k=>(wu k).map low=wl k∧(wu k).length=4) (by decide) h1 h2
theorem WD {s:List UInt8} {F:Nat} (hF:20≤F):so F s=some (kV s:Int):=by
 unfold so kV
 have:=Wy (s:=s) (body:=iA F s) ?_ ?_ 9 1 F rfl (by omega) (by omega)
 · rw [show ((0:Int),(1:Int))=(0,((1:Nat):Int)) from rfl,this]
   cases xk s 9 1 with
   |none=>rfl
   |some j=>rfl
 · intro k h1 h2
   obtain ⟨e1,e2⟩:=WC k h1 h2
   simp only [iA]
   rw [if_pos (by simp;omega),WA k h1 h2]
   simp only [Option.bind_some]
   rw [Hp (by omega) (by omega),e1]
   simp only [Option.bind_some]
   by_cases h:wl k=s
   · simp [h]
   · rw [if_neg (by simpa using h),if_neg h,Wq (by omega)]
 · simp only [iA]
   rw [if_neg (by decide)]
theorem T3 {s:List UInt8}:fm s [32]=some (s.dropWhile blk):=by
 unfold fm;rw [if_pos rfl];rfl
theorem T4 {s:List UInt8} (h:s.length≤1000000000):eU s [32]=some (ff s):=by
 unfold eU;rw [if_pos ⟨rfl,h⟩,QA]
theorem T5 {w s:List UInt8} {F:Nat} (hw:w.length≤100) (hF:200<F):jU F s w=some (!k7 w s):=by
 unfold jU k7
 by_cases h:s.length<w.length
 · rw [if_pos (by simp;omega)]
   simp [show ¬w.length≤s.length by omega]
 · rw [if_neg (by simp;omega),G8 (by omega)]
   simp only [Option.bind_some]
   rw [Hp (by simp;omega) (by simp;omega)]
   simp [show w.length≤s.length by omega]
theorem Nl {w s:List UInt8} {F:Nat} (hw:w.length≤100) (hs:s.length≤3000) (hF:7000<F):nU F s w=some (wj w s):=by
 unfold nU wj
 rw [T5 hw (by omega)]
 simp only [Option.bind_some]
 cases h:k7 w s with
 |false=>simp
 |true=>
  have hl:w.length≤s.length:=by
   unfold k7 at h;simp only [Bool.and_eq_true,decide_eq_true_eq] at h;exact h.1
  simp only [Bool.not_true,Bool.false_eq_true,if_false,if_true]
  rw [pU hl]
  simp only [Option.bind_some]
  rw [T3]
  simp only [Option.bind_some]
  have h1:=Hh blk (s.drop w.length)
  have h2:(s.drop w.length).length≤s.length:=by simp
  rw [TU (by omega) (by omega)]
  rfl
theorem WI {s:List UInt8} {F:Nat} (hs:s.length≤3000) (hF:7000<F):∃n,sF F s=some (n,(DT s).isSome)∧∀v,DT s=some v→n=(v:Int):=by
 unfold sF DT
 have h1:jV F s=some (!k7 Mr s):=by
  unfold jV k7
  by_cases h:s.length<6
  · rw [if_pos (by simp;omega)]
    simp [show ¬6≤s.length by omega]
  · rw [if_neg (by simp;omega),show (6:Int)=((6:Nat):Int) from rfl,G8 (by omega)]
    simp only [Option.bind_some]
    rw [Hp (by simp;omega) (by simp;omega)]
    simp [show 6≤s.length by omega]
 rw [h1]
 simp only [Option.bind_some]
 cases h:k7 Mr s with
 |false=>exact ⟨0,by simp,by simp⟩
 |true=>
  have hl:6≤s.length:=by
   unfold k7 at h;simp only [Bool.and_eq_true,decide_eq_true_eq] at h;simpa using h.1
  simp only [Bool.not_true,Bool.false_eq_true,if_false]
  rw [show (6:Int)=((6:Nat):Int) from rfl,pU hl]
  simp only [Option.bind_some]
  generalize hd:s.drop 6=d
  have Mj:d.length≤3000:=by rw [←hd];simp;omega
  unfold strconv_Atoi
  rw [if_pos (by omega)]
  simp only [Option.bind_some]
  unfold nu
  by_cases hg:d≠[]∧d.length≤9∧d.all gS=true
  · obtain ⟨g1,g2,g3⟩:=hg
    rw [QB g1 (by omega) g3]
    simp only [Bool.not_false,if_true]
    unfold gC
    rw [if_pos (by simp;omega),if_pos ⟨rfl,by omega⟩]
    simp only [Option.bind_some]
    rw [DU.2 g3,if_pos ⟨trivial,g1,g2,g3⟩]
    exact ⟨_,rfl,fun v hv=>by injection hv with hv;rw [hv]⟩
  · have hn:¬(True∧d≠[]∧d.length≤9∧d.all gS=true):=fun h=>hg h.2
    simp only [if_neg hn]
    have key:∀n:Int,∃m:Int,((if decide ((d.length:Int)≤9)=true then (gC d ([48,49,50,51,52,53,54,55,56,57]:List UInt8)).bind fun r9=>some (n,(decide (r9=([]:List UInt8)))) else some (n,false)):Option (Int×Bool))=
     some (m,decide (d=[])&&decide (d.length≤9)):=by
     intro n
     by_cases h9:d.length≤9
     · rw [if_pos (by simp;omega)]
       unfold gC
       rw [if_pos ⟨rfl,by omega⟩]
       simp only [Option.bind_some]
       refine ⟨n, ?_⟩
       congr 2
       rw [Bool.eq_iff_iff]
       simp only [decide_eq_true_eq,Bool.and_eq_true]
       rw [DU]
       constructor
       · intro h3
         refine ⟨?_,h9⟩
         rcases Classical.em (d=[]) with h0|h0
         · exact h0
         · exact absurd ⟨h0,h9,h3⟩ hg
       · rintro ⟨rfl, -⟩;rfl
     · rw [if_neg (by simp;omega)]
       exact ⟨n,by simp [h9]⟩
    rcases xu:Lib.atoiAll d with v|_|_
    · simp only [Bool.not_false,if_true]
      obtain ⟨m,hm⟩:=key v
      rw [hm]
      have hd0:d≠[]:=by
       rintro rfl;rw [show Lib.atoiAll []=Go.Lib.NumEnd.syntax from rfl] at xu;cases xu
      exact ⟨m,by simp [hd0],fun v h=>by cases h⟩
    · simp only [Bool.not_true,Bool.false_eq_true,if_false]
      exact ⟨_,rfl,fun v h=>by cases h⟩
    · simp only [Bool.not_true,Bool.false_eq_true,if_false]
      exact ⟨_,rfl,fun v h=>by cases h⟩
theorem T6 {w s:List UInt8}:(wj w s).2.1.length≤s.length:=by
 unfold wj
 split
 · have h1:=Hh blk (s.drop w.length)
   have h2:(s.drop w.length).length≤s.length:=by simp
   have:((kg ((s.drop w.length).dropWhile blk)).2.1).length≤((s.drop w.length).dropWhile blk).length:=by
    generalize (s.drop w.length).dropWhile blk=t
    unfold kg
    cases h:DR t with
    |none=>simp
    |some p=>
     obtain ⟨a,rest⟩:=p
     have:rest.length≤t.length:=by
      unfold DR at h
      split at h
      · split at h
        · injection h with h;injection h with _ h;rw [←h];simp
        · have hb:=h
          unfold xj at hb
          cases hr:nP (t.drop 1) with
          |none=>rw [hr] at hb;cases hb
          |some r1=>
           rw [hr] at hb
           have l1:=Bs hr
           simp only at hb
           cases hl:j9 r1 with
           |none=>rw [hl] at hb;cases hb
           |some p=>
            obtain ⟨l,r2⟩:=p
            rw [hl] at hb
            have l2:=(Br hl).2
            simp only at hb
            split at hb
            · cases hd:fR (r2.drop 1) with
              |none=>rw [hd] at hb;cases hb
              |some p=>
               obtain ⟨d,r3⟩:=p
               rw [hd] at hb
               have l3:=tZ hd
               simp only at hb
               split at hb
               · injection hb with hb;injection hb with _ hb
                 rw [←hb];simp at l1 l3 ⊢;omega
               · cases hb
            · cases hb
      · cases h
     simp only
     split
     · exact this
     · simp
   show (kg _).2.1.length≤s.length
   omega
 · simp
theorem WJ {s:List UInt8} {F:Nat} (hs:s.length≤3000) (hF:7000<F):sG F s=some (Ms s):=by
 unfold sG Ms
 rw [Nl (by decide) hs hF]
 simp only [Option.bind_some]
 have hl:=T6 (w:=wh) (s:=s)
 generalize wj wh s=p at hl ⊢
 obtain ⟨a,r,ok⟩:=p
 simp only at hl ⊢
 unfold nv ny
 by_cases h0:r=[]
 · subst h0
   cases ok<;>simp
 · obtain ⟨n,h1,h2⟩:=WI (s:=r) (F:=F) (by omega) hF
   rw [if_pos (by simpa using h0),h1]
   simp only [Option.bind_some]
   cases ok with
   |false=>simp
   |true=>
    cases r with
    |nil=>exact absurd rfl h0
    |cons c t=>
     rw [show idx (c::t) 0=some c by simp [idx]]
     by_cases hc:c=32
     · subst hc
       cases hz:DT (32::t) with
       |none=>simp
       |some v=>simp [h2 v hz]
     · simp [hc]
theorem WK {s:List UInt8} {F:Nat} (hs:s.length≤3000) (hF:7000<F):sI F s=some (Mt s):=by
 unfold sI Mt
 rw [Nl (by decide) hs hF]
 simp only [Option.bind_some]
 generalize wj Qz s=p
 obtain ⟨a,r,ok⟩:=p
 simp only
 unfold nH
 cases ok with
 |false=>simp
 |true=>
  cases hn:ke a with
  |true=>
   have hn2:=hn
   unfold ke at hn2
   rw [hn2];simp
  |false=>
   have hn2:=hn
   unfold ke at hn2
   rw [hn2]
   cases r with
   |nil=>simp
   |cons c t=>
    rw [show idx (c::t) 0=some c by simp [idx]]
    by_cases hc:c=32
    · simp [hc]
    · simp [hc]
theorem T7 (x:UInt8):(if decide (x<32)=true then some true else some (decide (126<x)))=some (!cI x):=by
 have:=gi (p:=fun x=>decide ((if decide (x<32)=true then some true else some (decide (126<x)))=some (!cI x))) (by kernel_rfl) x
 simpa using this
theorem WN {s:List UInt8} {F:Nat} (hs:s.length≤100000) (hF:s.length<F):iter (eP s) F (0,Z)=some (if s.all cI=true then .inr Z else .inl (Z,500)):=by
 have hh:=ZO (s:=s) (body:=eP s) (mk:=fun i=>((i:Int),Z)) (p:=cI) (rr:=fun _=>(Z,500)) (tt:=Z) ?_ ?_ ?_ hF
 · cases h:s.all cI with
   |true=>have:=hh.1 h;simpa using this
   |false=>obtain ⟨_,this⟩:=hh.2 h;simpa using this
 · intro i c hc hp
   have hi:=(List.getElem?_eq_some_iff.1 hc).1
   simp only [eP,ji]
   rw [if_pos (by simpa using hi),cL hc]
   simp only [Option.bind_some]
   rw [T7 c]
   simp only [Option.bind_some,hp,Bool.not_true,Bool.false_eq_true,if_false]
   rw [Wq (by omega)]
 · intro i c hc hp
   have hi:=(List.getElem?_eq_some_iff.1 hc).1
   simp only [eP,ji]
   rw [if_pos (by simpa using hi),cL hc]
   simp only [Option.bind_some]
   rw [T7 c]
   simp [hp]
 · simp only [eP]
   rw [if_neg (by simp)]
theorem DV {s:List UInt8} {F:Nat} (hs:s.length≤2050) (hF:7000<F):eZ F s=some (JN s):=by
 unfold eZ JN
 rw [WN (by omega) (by omega)]
 simp only [Option.bind_some]
 cases hv:s.all cI with
 |false=>simp
 |true=>
  simp only [if_true]
  have ht:=Mu s
  rw [T4 (by omega)]
  simp only [Option.bind_some]
  rw [Mq (by omega)]
  simp only [Option.bind_some]
  have hw:((ff s).takeWhile nb).length≤(ff s).length:=(List.takeWhile_prefix nb).length_le
  have hd:=JO (ff s)
  rw [Hp (by omega) (by omega)]
  simp only [Option.bind_some]
  rw [WD (by omega)]
  simp only [Option.bind_some]
  rw [Qx]
  simp only [Option.bind_some]
  have hk:=Qy (((ff s).takeWhile nb).map low)
  have hne:=T0 (s:=s)
  generalize kV (((ff s).takeWhile nb).map low)=k at hk ⊢
  generalize hr:(ff s).dropWhile nb=r at hd hne ⊢
  unfold A7
  by_cases h0:k=0
  · subst h0;simp
  · rw [if_neg (by simp;omega),if_neg h0]
    by_cases h3:k=3
    · subst h3
      rw [if_pos (by simp),if_pos rfl,WJ (by omega) hF];rfl
    · rw [if_neg (by simp;omega),if_neg h3]
      by_cases h4:k=4
      · subst h4
        rw [if_pos (by simp),if_pos rfl,WK (by omega) hF];rfl
      · rw [if_neg (by simp;omega),if_neg h4]
        have T8:gf F (r.drop 1)=some (jk (r.drop 1)):=TI (by simp;omega) (by simp;omega)
        have T9:r.drop 1=[]↔r=[]:=⟨fun h=>Classical.byContradiction fun h2=>hne h2 h,fun h=>by rw [h];rfl⟩
        unfold kY k4 kZ
        clear hne hd
        generalize r.drop 1=q at T8 T9 ⊢
        have hk9:k=1∨k=2∨k=5∨k=6∨k=7∨k=8∨k=9:=by omega
        rcases hk9 with rfl|rfl|rfl|rfl|rfl|rfl|rfl
        · simp [T8];cases jk q<;>simp
        · simp [T8];cases jk q<;>simp
        · by_cases Hj:r=[]<;>simp [Hj,T9]
        · by_cases Hj:r=[]<;>simp [Hj,T9]
        · simp
        · by_cases Hj:r=[]<;>simp [Hj,T9]
        · by_cases Hj:r=[]<;>simp [Hj,T9]
end Go.Proofs.ei
end
section
set_option maxRecDepth 100000
namespace Go.Proofs.ei
open Go Go.Am Go.Proofs
open Nat renaming reduceEqDiff→nA,reduceLT→nB,reduceLeDiff→nC,reduceAdd→nD,reduceSub→nE,reduceMul→nF,reduceBEq→nG
set_option maxHeartbeats 2000000
abbrev lE:av:=(.rg [(au 21 1),(aj 22 (.lens (.t 21))),(aj 23 (.bin .gtr (.t 22) (.c (.int .i64 100)))),(au 24 23),(ax 25 (.mv (.t 2)) 24 false),(ax 26 (.lens (.t 25)) 24 false),(ax 27 (.bin .gtr (.t 26) (.c (.int .i64 300))) 24 false),(aj 28 (.pick (.t 24) (.c (.bool true)) (.t 27))),(au 29 28),(ax 30 (.mv (.t 2)) 29 false),(ax 31 (.lens (.t 30)) 29 false),(ax 32 (.bin .eql (.t 31) (.c (.int .i64 0))) 29 false),(aj 33 (.pick (.t 29) (.c (.bool true)) (.t 32)))])
abbrev kE:av:=(.seq (.seq (.rg [(au 34 8),(au 35 2),(aj 36 (.lens (.t 35))),(aj 37 (.bin .lss (.t 34) (.t 36)))]) (.cond (.t 37) .skip (.exit 0))) (.seq (.blk 1 (.rg [(au 40 7),(au 41 2),(au 42 8),(aj 43 (.ixs (.t 41) (.t 42))),(aj 44 (.bin .rem (.t 43) (.c (b8 94)))),(aj 45 (.bin .add (.c (b8 33)) (.t 44))),(aj 46 (.rX 1 [(.t 45)])),(aj 47 (.jH .bs (.t 46))),(aj 48 (.bin .add (.t 40) (.t 47))),(aQ 7 48)])) (.rg [(au 38 8),(aj 39 (.bin .add (.t 38) (.c (.int .i64 1)))),(aQ 8 39)])))
abbrev lF:av:=(.cond (.t 53) (.rg [(au 54 10),(aj 55 (.bin .sub (.c (.int .i64 0)) (.t 54))),(aQ 10 55)]) .skip)
abbrev lG:av:=(.rg [(au 75 12),(aj 76 (.bin .neq (.t 75) (.c (.int .i64 501)))),(au 77 76),(ax 78 (.mv (.t 14)) 77 false),(ax 79 (.bin .neq (.t 78) (.c (.int .i64 0))) 77 false),(aj 80 (.pick (.t 77) (.c (.bool true)) (.t 79)))])
abbrev kF:av:=(.seq (.seq (.rg [(au 81 16),(au 82 1),(aj 83 (.lens (.t 82))),(aj 84 (.bin .lss (.t 81) (.t 83)))]) (.cond (.t 84) .skip (.exit 2))) (.seq (.blk 3 (.rg [(au 87 15),(au 88 1),(au 89 16),(aj 90 (.ixs (.t 88) (.t 89))),(aj 91 (.bin .rem (.t 90) (.c (b8 26)))),(aj 92 (.bin .add (.c (b8 65)) (.t 91))),(aj 93 (.rX 1 [(.t 92)])),(aj 94 (.jH .bs (.t 93))),(aj 95 (.bin .add (.t 87) (.t 94))),(aQ 15 95)])) (.rg [(au 85 16),(aj 86 (.bin .add (.t 85) (.c (.int .i64 1)))),(aQ 16 86)])))
abbrev z1:av:=(.seq (.rg [(aj 6 (.aO (.c (.bool false))))]) (.seq (.seq (.rg [(aj 19 (.call (.c (.fn 7 [])) [])),(aj 20 (.un .not (.t 19)))]) (.cond (.t 20) (.seq (.rg [(aj 6 (.aO (.c (.bool false))))]) .ret) .skip)) (.seq (.seq (.sem (erase lE)) (.cond (.t 33) (.seq (.rg [(aj 6 (.aO (.c (.bool true))))]) .ret) .skip)) (.seq (.rg [(aj 7 (.aO (.c (.str [120]))))]) (.seq (.seq (.rg [(aj 8 (.aO (.c (.int .i64 0))))]) (.blk 0 (.loop (erase kE)))) (.seq (.rg [(aj 49 (.rX 1 [(.c (.str [68,65,84,65])),(.c (.str [82,83,69,84])),(.c (.str [81,85,73,84]))])),(aQ 9 49)]) (.seq (.rg [(au 50 0),(aj 51 (.bin .rem (.t 50) (.c (.int .i64 3)))),(aQ 10 51)]) (.seq (.seq (.rg [(au 52 10),(aj 53 (.bin .lss (.t 52) (.c (.int .i64 0))))]) (.sem (erase lF))) (.seq (.rg [(au 57 9),(au 58 10),(aj 59 (.uG 1 (.t 57) (.t 58))),(aj 60 (.ld (.t 59) none)),(aj 61 (.bin .add (.t 60) (.c (.str [32])))),(au 62 7),(aj 63 (.bin .add (.t 61) (.t 62))),(aj 64 (.call (.c (.fn 8 [])) [(.t 63)])),(au 56 64),(aj 65 (.ext (.t 56) 0)),(aj 66 (.ext (.t 56) 1)),(aj 11 (.alloc [(.int .i64 0),(.str []),(.str []),(.str []),(.int .i64 0)])),(cS (.st (.t 11) (.t 65) 5)),(aQ 12 66)]) (.seq (.rg [(au 68 9),(au 69 10),(aj 70 (.uG 1 (.t 68) (.t 69))),(aj 71 (.ld (.t 70) none)),(aj 72 (.call (.c (.fn 8 [])) [(.t 71)])),(au 67 72),(aj 73 (.ext (.t 67) 0)),(aj 74 (.ext (.t 67) 1)),(aj 13 (.alloc [(.int .i64 0),(.str []),(.str []),(.str []),(.int .i64 0)])),(cS (.st (.t 13) (.t 73) 5)),(aQ 14 74)]) (.seq (.seq (.sem (erase lG)) (.cond (.t 80) (.seq (.rg [(aj 6 (.aO (.c (.bool false))))]) .ret) .skip)) (.seq (.rg [(aj 15 (.aO (.c (.str [90]))))]) (.seq (.seq (.rg [(aj 16 (.aO (.c (.int .i64 0))))]) (.blk 2 (.loop (erase kF)))) (.seq (.rg [(au 97 15),(aj 98 (.bin .add (.t 97) (.c (.str [32])))),(au 99 7),(aj 100 (.bin .add (.t 98) (.t 99))),(aj 101 (.call (.c (.fn 8 [])) [(.t 100)])),(au 96 101),(aj 102 (.ext (.t 96) 0)),(aj 103 (.ext (.t 96) 1)),(aj 17 (.alloc [(.int .i64 0),(.str []),(.str []),(.str []),(.int .i64 0)])),(cS (.st (.t 17) (.t 102) 5)),(aQ 18 103)]) (.seq (.rg [(au 104 18),(aj 105 (.bin .eql (.t 104) (.c (.int .i64 500)))),(aQ 6 105)]) .ret)))))))))))))))
theorem z6:bM Tryz.prog 4 106 [(.tmp 6)] (erase z1):=⟨Tryz.f4,_,rfl,by decide,rfl,by kernel_rfl,rfl,rfl⟩
abbrev ez:List Nat:=[0,1,2,6,7,8,9,10,12,14,15,16,18,20,33,37,53,80,84]
def di (fS:List UInt8):((List UInt8)×Int)→Option (St Bool (List UInt8) ((List UInt8)×Int))
 |(wm,i6)=>
  (if (decide (i6<(fS.length:Int))) then
   (idx fS i6).bind fun x7=>
   (cat wm ([(33+(x7 % 94))]:List UInt8)).bind fun x8=>some (.cU (x8,(IntKind.wrap .i64 (i6+1))))
  else
   some (.dW wm))
def e5 (de:Int):Option (Int):=
 (if (decide ((Int.tmod de 3)<0)) then
  some (IntKind.wrap .i64 (0 - (Int.tmod de 3)))
 else
  some (Int.tmod de 3))
def dj (cT:List UInt8):((List UInt8)×Int)→Option (St Bool (List UInt8) ((List UInt8)×Int))
 |(JR,i21)=>
  (if (decide (i21<(cT.length:Int))) then
   (idx cT i21).bind fun Qd=>
   (cat JR ([(65+(Qd % 26))]:List UInt8)).bind fun C5=>some (.cU (C5,(IntKind.wrap .i64 (i21+1))))
  else
   some (.dW JR))
def jq (F:Nat) (de:Int) (cT:List UInt8) (fS:List UInt8):Option (Bool):=
 (nI F).bind fun r4=>
 (if (!r4) then
  some false
 else
  (if (((decide (100<(cT.length:Int)))||(decide (300<(fS.length:Int))))||(decide ((fS.length:Int)=0))) then
   some true
  else
   ((iter (di fS) F (([120]:List UInt8),0)).bind fun o31=>
   match o31 with
   | .inr eL=>
     (e5 de).bind fun Nn=>
     (idx ([([68,65,84,65]:List UInt8),([82,83,69,84]:List UInt8),([81,85,73,84]:List UInt8)]:List (List UInt8)) Nn).bind fun gu=>
     (cat gu ([32]:List UInt8)).bind fun Eu=>
     (cat Eu eL).bind fun kz=>
     (eZ F kz).bind fun (r16,AN)=>
     (eZ F gu).bind fun (e9,wO)=>
     (if ((!decide (AN=501))||(!decide (wO=0))) then
      some false
     else
      ((iter (dj cT) F (([90]:List UInt8),0)).bind fun o30=>
      match o30 with
      | .inr w25=>
        (cat w25 ([32]:List UInt8)).bind fun P5=>
        (cat P5 eL).bind fun x27=>
        (eZ F x27).bind fun (Wa,G7)=>some (decide (G7=500))
      | .inl _=>none))
   | .inl _=>none)))
theorem uU {de:Int} {cT:List UInt8} {fS:List UInt8} {H0 H:AH} (hfr:Fr H0 H0.length [] H) {K:Exit→Env→AH→Prop}
 (kn:∀H':AH,Fr H0 H0.length [] H'→K .normal [(0,(.int .i64 de)),(1,(.str cT)),(2,(.str fS)),(33,(.bool (((decide (100<(cT.length:Int)))||(decide (300<(fS.length:Int))))||(decide ((fS.length:Int)=0)))))] H'):
 AX Tryz.prog ez 106 H0.length (erase lE) K [(0,(.int .i64 de)),(1,(.str cT)),(2,(.str fS))] H:=by
 refine bT fun K' hK=> ?_
 have hle:=hfr.le
 refine cN ?_
 refine kK (fun hy3=> ?_) fun hy3=> ?_
 · refine az hy3 ?_
   exact hK _ _ _ _ _ (eG hy3) ak (kn _ hfr)
 · refine az hy3 ?_
   refine kK (fun hy4=> ?_) fun hy4=> ?_
   · refine az hy4 ?_
     exact hK _ _ _ _ _ (eG (aI hy3 hy4)) ak (kn _ hfr)
   · refine az hy4 ?_
     exact hK _ _ _ _ _ (eG (aI hy3 hy4)) ak (kn _ hfr)
theorem uV {F:Nat} {i6:Int} {fS:List UInt8} {wm:List UInt8} {de:Int} {cT:List UInt8} {H0 H:AH} (hfr:Fr H0 H0.length [] H) {K:Exit→Env→AH→Prop} {o:(Bool)⊕((List UInt8))}
 (h:iter (di fS) F (wm,i6)=some o)
 (c8:∀o':(List UInt8),o= .inr o'→∀H':AH,Fr H0 H0.length [] H'→K (.exit 0) [(0,(.int .i64 de)),(1,(.str cT)),(7,(.str o'))] H'):
 AX Tryz.prog ez 106 H0.length (.loop (erase kE)) K [(0,(.int .i64 de)),(1,(.str cT)),(2,(.str fS)),(7,(.str wm)),(8,(.int .i64 i6))] H:=by
 refine gH (fun s e H1=>match s with|(wm,i6)=>e=[(0,(.int .i64 de)),(1,(.str cT)),(2,(.str fS)),(7,(.str wm)),(8,(.int .i64 i6))]∧Fr H0 H0.length [] H1) h ⟨rfl,hfr⟩ ?_
 rintro K' ⟨wm,i6⟩ st e H ⟨rfl,hfr⟩ h hN hB hR hX
 have hle:=hfr.le
 rw [di.eq_1] at h
 refine cN ?_
 refine bl h (fun bY h=> ?_) fun bY h=> ?_
 · obtain ⟨x7,cD,h⟩:=aq h
   obtain ⟨x8,ct,h⟩:=aq h
   refine az (aI cD (aI (show ((94:UInt8)=0)=False from by decide) ct)) ?_
   obtain rfl:=aA h
   exact hN _ rfl _ _ _ _ aJ ak ⟨rfl,hfr⟩
 · refine cN ?_
   obtain rfl:=aA h
   exact hX _ _ _ _ _ c6 aJ ak (c8 _ (hB _ rfl) _ hfr)
theorem uW {de:Int} {cT:List UInt8} {eL:List UInt8} {H0 H:AH} (hfr:Fr H0 H0.length [] H) {K:Exit→Env→AH→Prop} {Xp:Int}
 (h:e5 de=some Xp)
 (kn:∀H':AH,Fr H0 H0.length [] H'→K .normal [(1,(.str cT)),(7,(.str eL)),(9,(.sl .ex 1 [(.str ([68,65,84,65]:List UInt8)),(.str ([82,83,69,84]:List UInt8)),(.str ([81,85,73,84]:List UInt8))])),(10,(.int .i64 Xp))] H'):
 AX Tryz.prog ez 106 H0.length (erase lF) K [(1,(.str cT)),(7,(.str eL)),(9,(.sl .ex 1 [(.str ([68,65,84,65]:List UInt8)),(.str ([82,83,69,84]:List UInt8)),(.str ([81,85,73,84]:List UInt8))])),(10,(.int .i64 (Int.tmod de 3))),(53,(.bool (decide ((Int.tmod de 3)<0))))] H:=by
 refine bT fun K' hK=> ?_
 have hle:=hfr.le
 rw [e5.eq_1] at h
 refine cN ?_
 refine bl h (fun cy h=> ?_) fun cy h=> ?_
 · refine cN ?_
   obtain rfl:=aA h
   exact hK _ _ _ _ _ aJ ak (kn _ hfr)
 · refine cN ?_
   obtain rfl:=aA h
   exact hK _ _ _ _ _ aJ ak (kn _ hfr)
theorem uX {cT:List UInt8} {eL:List UInt8} {AN:Int} {wO:Int} {H0 H:AH} (hfr:Fr H0 H0.length [] H) {K:Exit→Env→AH→Prop}
 (kn:∀H':AH,Fr H0 H0.length [] H'→K .normal [(1,(.str cT)),(7,(.str eL)),(80,(.bool ((!decide (AN=501))||(!decide (wO=0)))))] H'):
 AX Tryz.prog ez 106 H0.length (erase lG) K [(1,(.str cT)),(7,(.str eL)),(12,(.int .i64 AN)),(14,(.int .i64 wO))] H:=by
 refine bT fun K' hK=> ?_
 have hle:=hfr.le
 refine cN ?_
 refine kK (fun fN=> ?_) fun fN=> ?_
 · refine az fN ?_
   exact hK _ _ _ _ _ (eG fN) ak (kn _ hfr)
 · refine az fN ?_
   exact hK _ _ _ _ _ (eG fN) ak (kn _ hfr)
theorem uY {F:Nat} {i21:Int} {cT:List UInt8} {JR:List UInt8} {eL:List UInt8} {H0 H:AH} (hfr:Fr H0 H0.length [] H) {K:Exit→Env→AH→Prop} {o:(Bool)⊕((List UInt8))}
 (h:iter (dj cT) F (JR,i21)=some o)
 (L8:∀o':(List UInt8),o= .inr o'→∀H':AH,Fr H0 H0.length [] H'→K (.exit 2) [(7,(.str eL)),(15,(.str o'))] H'):
 AX Tryz.prog ez 106 H0.length (.loop (erase kF)) K [(1,(.str cT)),(7,(.str eL)),(15,(.str JR)),(16,(.int .i64 i21))] H:=by
 refine gH (fun s e H1=>match s with|(JR,i21)=>e=[(1,(.str cT)),(7,(.str eL)),(15,(.str JR)),(16,(.int .i64 i21))]∧Fr H0 H0.length [] H1) h ⟨rfl,hfr⟩ ?_
 rintro K' ⟨JR,i21⟩ st e H ⟨rfl,hfr⟩ h hN hB hR hX
 have hle:=hfr.le
 rw [dj.eq_1] at h
 refine cN ?_
 refine bl h (fun ie h=> ?_) fun ie h=> ?_
 · obtain ⟨Qd,jg,h⟩:=aq h
   obtain ⟨C5,gO,h⟩:=aq h
   refine az (aI jg (aI (show ((26:UInt8)=0)=False from by decide) gO)) ?_
   obtain rfl:=aA h
   exact hN _ rfl _ _ _ _ aJ ak ⟨rfl,hfr⟩
 · refine cN ?_
   obtain rfl:=aA h
   exact hX _ _ _ _ _ c6 aJ ak (L8 _ (hB _ rfl) _ hfr)
theorem yL {F:Nat} {de:Int} {cT:List UInt8} {fS:List UInt8} {H0:AH} {aP:Bool} (h:jq F de cT fS=some aP):
 aF Tryz.prog 4 [(.int .i64 de),(.str cT),(.str fS)] H0 fun v H'=>v=(.bool aP)∧H'=H0:=by
 refine lH z6 ez [] fun hcl K0 aN H hH hfr=> ?_
 clear hH
 have hle:=hfr.le
 rw [jq.eq_1] at h
 refine cN ?_
 obtain ⟨r4,hy1,h⟩:=aq h
 refine bB ak (BP hy1) ?_
 refine cN ?_
 refine bl h (fun hy2 h=> ?_) fun hy2 h=> ?_
 · refine cN ?_
   obtain rfl:=aA h
   exact aN _ _ _ bk (aT hfr hcl (aW bf (.bool false)) bg aX ⟨rfl,rfl⟩)
 · refine cN ?_
   refine bz ak (uU (de:=de) (cT:=cT) (fS:=fS) hfr ?_)
   intro H hfr
   have hle:=hfr.le
   refine cN ?_
   refine bl h (fun bK h=> ?_) fun bK h=> ?_
   · refine cN ?_
     obtain rfl:=aA h
     exact aN _ _ _ bk (aT hfr hcl (aW bf (.bool true)) bg aX ⟨rfl,rfl⟩)
   · refine cN ?_
     obtain ⟨o31,cQ,h⟩:=aq h
     refine bz ak (uV (de:=de) (cT:=cT) hfr cQ ?_)
     · rintro eL rfl H hfr
       try dsimp only at h
       have hle:=hfr.le
       refine cN ?_
       have cc:rm .i64 de 3=some (Int.tmod de 3):=rfl
       refine az cc ?_
       obtain ⟨Nn,cK,h⟩:=aq h
       refine bz ak (uW (cT:=cT) (eL:=eL) hfr cK ?_)
       intro H hfr
       have hle:=hfr.le
       obtain ⟨gu,cG,h⟩:=aq h
       have dX:idx [(.str ([68,65,84,65]:List UInt8)),(.str ([82,83,69,84]:List UInt8)),(.str ([81,85,73,84]:List UInt8))] Nn=some (AV.str gu):=L4 (f:=AV.str) cG
       obtain ⟨Eu,eW,h⟩:=aq h
       obtain ⟨kz,ek,h⟩:=aq h
       refine az (aI dX (aI eW ek)) ?_
       obtain ⟨⟨r16,AN⟩,ic,h⟩:=aq h
       dsimp only at h
       refine bB ak (fC ic) ?_
       refine cN ?_
       have gv:idx [(.str ([68,65,84,65]:List UInt8)),(.str ([82,83,69,84]:List UInt8)),(.str ([81,85,73,84]:List UInt8))] Nn=some (AV.str gu):=L4 (f:=AV.str) cG
       refine az gv ?_
       obtain ⟨⟨e9,wO⟩,fM,h⟩:=aq h
       dsimp only at h
       refine bB ak (fC fM) ?_
       refine cN ?_
       refine bz ak (uX (cT:=cT) (eL:=eL) (AN:=AN) (wO:=wO) (bW _ (Fr.app (bW _ (Fr.app hfr)))) ?_)
       intro H hfr
       have hle:=hfr.le
       refine cN ?_
       refine bl h (fun gw h=> ?_) fun gw h=> ?_
       · refine cN ?_
         obtain rfl:=aA h
         exact aN _ _ _ bk (aT hfr hcl (aW bf (.bool false)) bg aX ⟨rfl,rfl⟩)
       · refine cN ?_
         obtain ⟨o30,ig,h⟩:=aq h
         refine bz ak (uY (eL:=eL) hfr ig ?_)
         · rintro w25 rfl H hfr
           try dsimp only at h
           have hle:=hfr.le
           refine cN ?_
           obtain ⟨P5,jS,h⟩:=aq h
           obtain ⟨x27,sK,h⟩:=aq h
           refine az (aI jS sK) ?_
           obtain ⟨⟨Wa,G7⟩,vV,h⟩:=aq h
           dsimp only at h
           refine bB ak (fC vV) ?_
           refine cN ?_
           obtain rfl:=aA h
           exact aN _ _ _ bk (aT (bW _ (Fr.app hfr)) hcl (aW bf (.bool (decide (G7=500)))) bg aX ⟨rfl,rfl⟩)
end Go.Proofs.ei
end
section
set_option maxRecDepth 100000
namespace Go.Proofs.ei
open Go Go.Am Go.Proofs
theorem Ua (n:Nat):nI (n+100)=some true:=by kernel_rfl
theorem fold_map {α β:Type} (g:α→β):∀(l:List α) (a:List β),l.foldl (fun a c=>a++[g c]) a=a++l.map g:=by
 intro l
 induction l with
 |nil=>intro a;simp
 |cons c r ih=>intro a;simp [ih]
theorem ZR (c:UInt8):cI (33+c % 94)=true∧nb (33+c % 94)=true:=by
 have:=gi (p:=fun c=>cI (33+c % 94)&&nb (33+c % 94)) (by kernel_rfl) c
 simpa using this
theorem ZS (c:UInt8):cI (65+c % 26)=true∧nb (65+c % 26)=true:=by
 have:=gi (p:=fun c=>cI (65+c % 26)&&nb (65+c % 26)) (by kernel_rfl) c
 simpa using this
theorem JS {more:List UInt8} {F:Nat} (h:more.length≤300) (hF:400<F):iter (di more) F ([120],0)=some (.inr (120::more.map fun c=>33+c % 94)):=by
 have hh:=lpo (ρ:=Bool) (s:=more) (body:=di more) (mk:=fun (a:List UInt8) i=>(a,(i:Int))) (tt:=fun a=>a) (step:=fun a c=>a++[33+c % 94])
  (fun a i=>a.length=i+1) ?_ ?_ (F:=F) (a:=[120]) (by omega) rfl
 · rw [show (([120]:List UInt8),(0:Int))=(([120]:List UInt8),((0:Nat):Int)) from rfl,hh.1,fold_map];rfl
 · intro a i c hc hI
   have hi:=(List.getElem?_eq_some_iff.1 hc).1
   refine ⟨?_,by simp [hI]⟩
   simp only [di]
   rw [if_pos (by simpa using hi),cL hc]
   simp only [Option.bind_some]
   rw [gP (by simp;omega)]
   simp only [Option.bind_some]
   rw [Wq (by omega)]
 · intro a hI
   simp only [di]
   rw [if_neg (by simp)]
theorem JT {word:List UInt8} {F:Nat} (h:word.length≤100) (hF:400<F):iter (dj word) F ([90],0)=some (.inr (90::word.map fun c=>65+c % 26)):=by
 have hh:=lpo (ρ:=Bool) (s:=word) (body:=dj word) (mk:=fun (a:List UInt8) i=>(a,(i:Int))) (tt:=fun a=>a) (step:=fun a c=>a++[65+c % 26])
  (fun a i=>a.length=i+1) ?_ ?_ (F:=F) (a:=[90]) (by omega) rfl
 · rw [show (([90]:List UInt8),(0:Int))=(([90]:List UInt8),((0:Nat):Int)) from rfl,hh.1,fold_map];rfl
 · intro a i c hc hI
   have hi:=(List.getElem?_eq_some_iff.1 hc).1
   refine ⟨?_,by simp [hI]⟩
   simp only [dj]
   rw [if_pos (by simpa using hi),cL hc]
   simp only [Option.bind_some]
   rw [gP (by simp;omega)]
   simp only [Option.bind_some]
   rw [Wq (by omega)]
 · intro a hI
   simp only [dj]
   rw [if_neg (by simp)]
theorem Mv {s:List UInt8} (h:s.getLast?≠some 32):ff s=s:=by
 unfold ff
 have:s.reverse.dropWhile blk=s.reverse:=by
  cases hr:s.reverse with
  |nil=>rfl
  |cons c r=>
   have h2:s.getLast?=some c:=by rw [←List.head?_reverse,hr];rfl
   have:c≠32:=by rintro rfl;exact h h2
   simp [List.dropWhile_cons,blk,this]
 rw [this,List.reverse_reverse]
theorem Fm {w t:List UInt8} (hw:∀c∈w,cI c=true∧nb c=true) (ht:∀c∈t,cI c=true∧nb c=true) (h0:t≠[]):JN (w++32::t)=A7 (kV (w.map low)) (32::t):=by
 unfold JN
 have hv:(w++32::t).all cI=true:=by
  simp only [List.all_append,List.all_cons,Bool.and_eq_true]
  refine ⟨List.all_eq_true.2 fun c hc=>(hw c hc).1,by decide,List.all_eq_true.2 fun c hc=>(ht c hc).1⟩
 rw [if_pos hv]
 have hl:(w++32::t).getLast?≠some 32:=by
  cases hr:t.getLast? with
  |none=>exact absurd (List.getLast?_eq_none_iff.1 hr) h0
  |some c=>
   have hm:c∈t:=List.mem_of_getLast? hr
   have:(w++32::t).getLast?=some c:=by
    rw [List.getLast?_append,List.getLast?_cons,hr];simp
   rw [this]
   intro h
   injection h with h
   have:=(ht c hm).2
   rw [h] at this;cases this
 rw [Mv hl]
 have:=Hi (q:=nb) (l:=w) (x:=32) (by decide) (fun c hc=>(hw c hc).2) t
 rw [this.1,this.2]
theorem WO (t:List UInt8):kV ((90::t).map low)=0:=by
 have:low 90=122:=by decide
 simp [kV,xk,wl,this]
theorem EU (which:Int) (word more:List UInt8):∃F,jq F which word more=some true:=by
 refine ⟨100000+100, ?_⟩
 unfold jq
 rw [Ua]
 simp only [Option.bind_some,Bool.not_true,Bool.false_eq_true,if_false]
 by_cases h:100<word.length∨300<more.length∨more.length=0
 · rw [if_pos (by simp only [Bool.or_eq_true,decide_eq_true_eq];omega)]
 · rw [if_neg (by simp only [Bool.or_eq_true,decide_eq_true_eq];omega)]
   rw [JS (by omega) (by omega)]
   simp only [Option.bind_some]
   generalize hT:(120::more.map fun c=>33+c % 94:List UInt8)=T
   have hTl:T.length≤301:=by rw [←hT];simp;omega
   have hTn:T≠[]:=by rw [←hT];simp
   have hTv:∀c∈T,cI c=true∧nb c=true:=by
    rw [←hT]
    intro c hc
    rcases List.mem_cons.1 hc with rfl|hc
    · decide
    · obtain ⟨d, -,rfl⟩:=List.mem_map.1 hc
      exact ZR d
   have hp:∃k:Nat,k<3∧e5 which=some (k:Int):=by
    unfold e5
    have e:Int.tmod which 3=which.tmod 3:=rfl
    have b1: -3<which.tmod 3:=Int.lt_tmod_of_pos _ (by decide)
    have b2:which.tmod 3<3:=Int.tmod_lt_of_pos _ (by decide)
    by_cases hn:which.tmod 3<0
    · rw [if_pos (by simpa using hn),wr (by omega) (by omega)]
      exact ⟨(0 - which.tmod 3).toNat,by omega,by congr 1;omega⟩
    · rw [if_neg (by simpa using hn)]
      exact ⟨(which.tmod 3).toNat,by omega,by congr 1;omega⟩
   obtain ⟨k,hk,hp⟩:=hp
   rw [hp]
   simp only [Option.bind_some]
   have key:∃W:List UInt8,idx ([([68,65,84,65]:List UInt8),([82,83,69,84]:List UInt8),([81,85,73,84]:List UInt8)]:List (List UInt8)) (k:Int)=some W∧W.length=4∧(∀c∈W,cI c=true∧nb c=true)∧
    (kV (W.map low)=5∨kV (W.map low)=6∨kV (W.map low)=8)∧(JN W).2=0:=by
    have:k=0∨k=1∨k=2:=by omega
    rcases this with rfl|rfl|rfl
    · exact ⟨[68,65,84,65],by rfl,by rfl,by decide,by decide,by kernel_rfl⟩
    · exact ⟨[82,83,69,84],by rfl,by rfl,by decide,by decide,by kernel_rfl⟩
    · exact ⟨[81,85,73,84],by rfl,by rfl,by decide,by decide,by kernel_rfl⟩
   obtain ⟨W,h1,h2,h3,h4,h5⟩:=key
   rw [h1]
   simp only [Option.bind_some]
   rw [gP (by simp;omega)]
   simp only [Option.bind_some]
   rw [gP (by simp;omega)]
   simp only [Option.bind_some]
   rw [DV (by simp;omega) (by omega)]
   simp only [Option.bind_some]
   rw [DV (by omega) (by omega)]
   simp only [Option.bind_some]
   have e1:(W++[32])++T=W++32::T:=by simp
   rw [e1,Fm h3 hTv hTn]
   have e2:(A7 (kV (W.map low)) (32::T)).2=501:=by
    unfold A7
    rcases h4 with h4|h4|h4<;>rw [h4]<;>simp
   rw [e2,h5,if_neg (by simp)]
   rw [JT (by omega) (by omega)]
   simp only [Option.bind_some]
   rw [gP (by simp;omega)]
   simp only [Option.bind_some]
   rw [gP (by simp;omega)]
   simp only [Option.bind_some]
   rw [DV (by simp;omega) (by omega)]
   simp only [Option.bind_some]
   have e3:((90::word.map fun c=>65+c % 26)++[32])++T=(90::word.map fun c=>65+c % 26)++32::T:=by simp
   rw [e3,Fm (by
    intro c hc
    rcases List.mem_cons.1 hc with rfl|hc
    · decide
    · obtain ⟨d, -,rfl⟩:=List.mem_map.1 hc
      exact ZS d) hTv hTn,WO]
   simp [A7]
end Go.Proofs.ei
end
section
namespace Go.Am
open Go Go.RowKit
variable [Tabs]
def C0 (W:World) (b:Nat):List Value:=match W.heap[b]? with
 |some (.cells cs _ _)=>cs.toList
 |_=>[]
theorem aF.row {P:Program} {f:Nat} {args:List AV} {R:AV→AH→Prop} (h:aF P f args [] R) {W:World} {vs:Array Value} (htab:∀e∈Tabs.l,∃cs ty fr,W.heap[e.1]? =some (.cells cs ty fr)∧e.2 cs) (hl:vs.size=args.length)
 (hv:∀(i:Nat) (a:AV),args[i]? =some a→VR (C0 W) [] a (vs.getD i undef)∧TC W (C0 W) a (vs.getD i undef)∧a.plain=true):
 Calls P f vs W fun e w'=>∃r v aE γ' C',e= .returned v∧R r aE∧VR C' γ' r v∧Below W.heap.size W w':=by
 have hg:∀t,get (eE 0 args) t=(args[t]?).getD .un:=fun t=>by rw [dZ];simp
 have hno:∀p b,¬blk [] (eE 0 args) [] vs W p b:=by
  intro p b hp
  cases p with
  |obj s=>simp [blk] at hp
  |cell s i=>obtain ⟨cs,a,b0,h1, -⟩:=hp;simp at h1
  |tmp t=>
   simp only [blk,hg] at hp
   cases ht:args[t]? with
   |none=>rw [ht] at hp;simp [bO] at hp
   |some a=>rw [ht] at hp;simp only [Option.getD_some] at hp;rw [gA _ (fY (hv t a ht).2.2)] at hp;cases hp
 have hs:SR [] args.length (fun b=>b<W.heap.size) [] (C0 W) (eE 0 args) [] vs W:=by
  refine ⟨⟨rfl,fun s b cs hs=>by simp at hs,fun b hne=> ?_,fun s b cs hs=>by simp at hs,fun s b cs us ty fr hs=>by simp at hs⟩,hl,fun t=> ?_,fun p q b hp=>absurd hp (hno p b),fun p b hp=>absurd hp (hno p b),⟨fun b hb=>hb,fun e he=> ?_⟩,fun t l k xs ht=> ?_⟩
  · unfold C0 at hne ⊢
    split at hne
    · rename_i cs ty fr hb
      rw [hb]
      exact ⟨cs,ty,fr,rfl,List.prefix_refl _⟩
    · exact absurd rfl hne
  · rw [hg]
    cases ht:args[t]? with
    |none=>exact ⟨.un ..,by cases vs.getD t undef<;>trivial⟩
    |some a=>exact ⟨(hv t a ht).1,(hv t a ht).2.1⟩
  · obtain ⟨cs0,ty,fr,h2,h5⟩:=htab e he
    have h4:e.1<W.heap.size:=by
     rcases Nat.lt_or_ge e.1 W.heap.size with h3|h3
     · exact h3
     · rw [Array.getElem?_eq_none h3] at h2;cases h2
    exact ⟨h4,cs0,ty,fr,h2,h5⟩
  · rw [hg] at ht
    cases hq:args[t]? with
    |none=>rw [hq] at ht;simp at ht
    |some a=>rw [hq] at ht;exact absurd ht (wz (hv t a hq).2.2 l k xs)
 refine (h.2 _ [] (C0 W) W vs hs).mono ?_
 rintro e w' ⟨r,v,aE,γ',C',rfl,hR, -,hs',hx⟩
 refine ⟨r,v,aE,γ',C',rfl,hR, ?_,hx.out.1,hx.out.2.1,hx.out.2.2,hx.size,fun k hk=>(hx.keep k hk).1⟩
 have:=(hs'.env 0).1
 simpa [get] using this
end Go.Am
end
section
namespace Go.Am
open Go Go.RowKit Go.Deep
variable [Tabs]
theorem JU {W:World} {b o:Nat} {v:Value} (h:W.cell? ⟨b,o,none⟩=some v):o<(C0 W b).length∧(C0 W b).getD o undef=v:=by
 unfold C0
 unfold World.cell? at h
 simp only at h
 split at h
 · rename_i cs ty fr hb
   rw [hb]
   simp only at h ⊢
   have hlt:o<cs.size:=by
    rcases Nat.lt_or_ge o cs.size with h'|h'
    · exact h'
    · rw [Array.getElem?_eq_none h'] at h;cases h
   rw [Array.getElem?_eq_getElem hlt] at h
   injection h with h
   refine ⟨by simpa using hlt, ?_⟩
   rw [List.getD_eq_getElem?_getD,List.getElem?_eq_getElem (by simpa using hlt)]
   simpa using h
 · cases h
section
variable {H:Type} {enc:TypeId×Value→H} {P:Program} {W:World} {sp:Nat→Bool} {held:Bool}
theorem acC {t e:TypeId} {A:Type} (g:A→AV) {v:Value} {d:DataW H} {ps:List MemPlace} {base:Nat} {r:Reach} (ht:P.underlying t=some (.slice e)) (hc:P.cellsOf e=1) (hval:Value.okWide P W r base t v)
 (h:DataW.Trod enc P W 0 sp held t v d ps)
 (hg:∀x,(g x).cells=[g x]) (he:∀n V y,DataW.trod enc P W 0 sp held n e [V]=some y→V.oneCell'=true∧∃x,VR (C0 W) [] (g x) V):∃xs:List A,VR (C0 W) [] (.sl .n 1 (xs.map g)) v:=by
 have hv:(v= .slice none 0 0)∨∃a len cap,v= .slice (some a) len cap∧a.spot=none:=by
  unfold Value.okWide at hval
  rw [ht] at hval
  simp only [Cell.okWide,ht,Cell.ok] at hval
  cases v with
  |slice a len cap=>
   cases a with
   |none=>cases len<;>cases cap<;>first|exact .inl rfl|exact hval.elim
   |some a=>exact .inr ⟨a,len,cap,rfl,hval.2.2.2.1⟩
  |_=>exact hval.elim
 obtain ⟨fuel,h⟩:=h
 rcases hv with rfl|⟨a,len,cap,rfl,hsp⟩
 · exact ⟨[], .rE ..⟩
 · rcases open_slice1 ht hc h with ⟨h0, -⟩|⟨a',len',cap',m,n,V,D,Pl,h1,hb,hl,hm,D2,hx,hall⟩
   · simp [Value.cells] at h0
   · have h1:a'=a∧len'=len∧cap'=cap:=by simpa [Value.cells,eq_comm] using h1
     obtain ⟨rfl,rfl,rfl⟩:=h1
     have hlm:len'≤m:=by rw [D2];split<;>omega
     have key:∀i,i<len'→∃x,VR (C0 W) [] (g x) (V i):=fun i hi=>(he n (V i) _ (hall i (by omega)).2).2
     obtain ⟨b,o,s⟩:=a'
     simp only at hsp
     subst hsp
     have hcell:∀i,i<len'→o+i<(C0 W b).length∧(C0 W b).getD (o+i) undef=V i:=fun i hi=>by
      have:=(hall i (by omega)).1
      rw [add_eq] at this
      exact JU this
     by_cases h0:len'=0
     · subst h0;exact ⟨[], .rE ..⟩
     let f:Nat→A:=fun i=>if hi:i<len' then Classical.choose (key i hi) else Classical.choose (key 0 (by omega))
     have hf:∀i,i<len'→VR (C0 W) [] (g (f i)) (V i):=fun i hi=>by
      show VR (C0 W) [] (g (if hi:i<len' then Classical.choose (key i hi) else Classical.choose (key 0 (by omega)))) (V i)
      rw [dif_pos hi]
      exact Classical.choose_spec (key i hi)
     refine ⟨(List.range len').map f, .sl _ _ _ _ _ _ _ _ (by simp) hl (fun i a hi=> ?_) ?_ (fun q h1 h2=> ?_) fun i a hi j y hj=> ?_⟩
     · rw [List.getElem?_map,List.getElem?_map] at hi
       cases hr:(List.range len')[i]? with
       |none=>rw [hr] at hi;simp at hi
       |some q=>rw [hr] at hi;simp at hi;subst hi;rw [hg];rfl
     · have:=(hcell (len' - 1) (by omega)).1;omega
     · have:=hcell (q - o) (by omega)
       rw [show o+(q - o)=q by omega] at this
       rw [this.2]
       exact (he n (V (q - o)) _ (hall (q - o) (by omega)).2).1
     · rw [List.getElem?_map,List.getElem?_map] at hi
       cases hr:(List.range len')[i]? with
       |none=>rw [hr] at hi;simp at hi
       |some q=>
        rw [hr] at hi
        have hq:=(List.getElem?_eq_some_iff.1 hr)
        obtain ⟨hlt,hq⟩:=hq
        simp at hlt hq
        subst hq
        simp at hi
        subst hi
        rw [hg] at hj
        cases j with
        |zero=>
         simp at hj
         subst hj
         have:=hcell i hlt
         rw [Nat.mul_one,Nat.add_zero,this.2]
         exact hf i hlt
        |succ j=>simp at hj
end
end Go.Am
end
section
namespace Go.Am
open Go Go.RowKit Go.Deep
variable [Tabs]
def CR (W:World) (zq:List AV) (vs:List Value):Prop:=
 zq.length=vs.length∧(∀v∈vs,v.oneCell'=true)∧∀(j:Nat) (a:AV),zq[j]? =some a→VR (C0 W) [] a (vs.getD j undef)
theorem CR.nil {W:World}:CR W [] []:=⟨rfl,by simp,by simp⟩
theorem CR.one {W:World} {a:AV} {V:Value} (h:VR (C0 W) [] a V) (ho:V.oneCell'=true):CR W [a] [V]:=by
 refine ⟨rfl,by simpa using ho,fun j b hj=> ?_⟩
 rcases j with _|j
 · simp at hj;subst hj;simpa using h
 · simp at hj
theorem CR.append {W:World} {zq bs:List AV} {vs ws:List Value} (h:CR W zq vs) (h2:CR W bs ws):CR W (zq++bs) (vs++ws):=by
 refine ⟨by simp [h.1,h2.1],fun v hv=> ?_,fun j a hj=> ?_⟩
 · rcases List.mem_append.1 hv with hv|hv
   · exact h.2.1 v hv
   · exact h2.2.1 v hv
 · rw [List.getElem?_append] at hj
   split at hj
   · rename_i hlt
     have:=h.2.2 j a hj
     rw [List.getD_eq_getElem?_getD,List.getElem?_append_left (by rw [←h.1];exact hlt), ←List.getD_eq_getElem?_getD]
     exact this
   · rename_i hlt
     have:=h2.2.2 _ a hj
     rw [List.getD_eq_getElem?_getD,List.getElem?_append_right (by rw [←h.1];omega), ←List.getD_eq_getElem?_getD, ←h.1]
     exact this
def AV.Ub:AV→Bool
 | .sl .n _ _=>true
 | .sl _ _ _| .agg _| .bx _=>false
 |_=>true
def AV.ZT:AV→Bool
 | .agg cs=>cs.all AV.Ub
 |a=>a.Ub
theorem TC.enc {w:World} {C:Nat→List Value} {a:AV} (h:a.ZT=true) (v:Value):TC w C a v:=by
 have h1:∀(a:AV) (v:Value),a.Ub=true→jE a v:=by
  intro a v h
  cases a with
  |sl t k xs=>cases t<;>first|exact Fz .. |cases h
  |_=>first|(cases h;done)|(cases v<;>trivial)
 cases a with
 |agg cs=>
  cases v with
  |agg vs=>
   intro i a hi
   exact h1 a _ (List.all_eq_true.1 h a (List.mem_of_getElem? hi))
  |_=>trivial
 |sl t k xs=>cases t<;>first|(cases h;done)|(cases v<;>trivial)
 |_=>first|(cases h;done)|(cases v<;>trivial)
section
variable {H:Type} (enc:TypeId×Value→H) (P:Program) (W:World) (sp:Nat→Bool) (held:Bool)
def Op (t:TypeId) {A:Type} (f:A→AV):Prop:=∀n cs y,DataW.trod enc P W 0 sp held n t cs=some y→∃x:A,CR W (f x).cells cs
end
section
variable {H:Type} {enc:TypeId×Value→H} {P:Program} {W:World} {sp:Nat→Bool} {held:Bool}
theorem WQ {t:TypeId} {k:IntKind} (ht:P.underlying t=some (.int k)):Op enc P W sp held t (RJ k):=by
 intro n cs y h
 cases n with
 |zero=>simp [DataW.trod] at h
 |succ n=>
  rcases cs with _|⟨V,_|⟨V2,r⟩⟩
  · simp [DataW.trod,ht] at h
  · cases V<;>simp [DataW.trod,ht] at h
    rename_i k' z
    obtain ⟨⟨rfl,hw⟩, -⟩:=h
    exact ⟨z,CR.one (.int ..) rfl⟩
  · simp [DataW.trod,ht] at h
theorem acD {t:TypeId} (ht:P.underlying t=some (.int .u8)):Op enc P W sp held t b8:=by
 intro n cs y h
 cases n with
 |zero=>simp [DataW.trod] at h
 |succ n=>
  rcases cs with _|⟨V,_|⟨V2,r⟩⟩
  · simp [DataW.trod,ht] at h
  · cases V<;>simp [DataW.trod,ht] at h
    rename_i k' z
    obtain ⟨⟨rfl,hw⟩, -⟩:=h
    have hz:0≤z∧z≤255:=by
     simp [Lit.wf,IntKind.min,IntKind.max,IntKind.bits,IntKind.signed] at hw
     omega
    refine ⟨UInt8.ofNat z.toNat,CR.one ?_ rfl⟩
    have:((UInt8.ofNat z.toNat).toNat:Int)=z:=by simp [UInt8.toNat_ofNat];omega
    simp only [b8,this]
    exact .int ..
  · simp [DataW.trod,ht] at h
theorem abQ {t:TypeId} (ht:P.underlying t=some .bool):Op enc P W sp held t AV.bool:=by
 intro n cs y h
 cases n with
 |zero=>simp [DataW.trod] at h
 |succ n=>
  rcases cs with _|⟨V,_|⟨V2,r⟩⟩
  · simp [DataW.trod,ht] at h
  · cases V<;>simp [DataW.trod,ht] at h
    exact ⟨_,CR.one (.bool ..) rfl⟩
  · simp [DataW.trod,ht] at h
theorem No {t:TypeId} (ht:P.underlying t=some .string):Op enc P W sp held t AV.str:=by
 intro n cs y h
 cases n with
 |zero=>simp [DataW.trod] at h
 |succ n=>
  rcases cs with _|⟨V,_|⟨V2,r⟩⟩
  · simp [DataW.trod,ht] at h
  · cases V<;>simp [DataW.trod,ht] at h
    rename_i s
    refine ⟨s.data.toList,CR.one ?_ rfl⟩
    have:s=⟨s.data.toList.toArray⟩:=by cases s;simp
    have h2:=VR.str (C:=C0 W) [] s.data.toList
    rwa [←this] at h2
  · simp [DataW.trod,ht] at h
theorem JV {A:Type} {p:Nat→A→Prop}:∀(n:Nat),(∀i,i<n→∃x,p i x)→∃xs:List A,xs.length=n∧∀(i:Nat) (x:A),xs[i]? =some x→p i x:=by
 intro n
 induction n with
 |zero=>intro _;exact ⟨[],rfl,by simp⟩
 |succ n ih=>
  intro h
  obtain ⟨xs,h1,h2⟩:=ih fun i hi=>h i (by omega)
  obtain ⟨x,hx⟩:=h n (by omega)
  refine ⟨xs++[x],by simp [h1],fun i y hy=> ?_⟩
  rw [List.getElem?_append] at hy
  split at hy
  · exact h2 i y hy
  · rename_i hlt
    have:i=n:=by
     have:=(List.getElem?_eq_some_iff.1 hy).1
     simp at this;omega
    subst this
    rw [h1] at hy;simp at hy;subst hy;exact hx
theorem acE {t e:TypeId} {k:Nat} {A:Type} {f:A→AV} (ht:P.underlying t=some (.slice e)) (hk:P.cellsOf e=k) (hk0:0<k) (hop:Op enc P W sp held e f) (hf:∀x,(f x).cells.length=k):
 Op enc P W sp held t (fun xs:List A=>AV.sl .n k (ml f xs)):=by
 intro n cs y h
 rcases open_slice ht h with ⟨rfl, -⟩|⟨a,len,cap,m,fu,D,Pl,rfl,hb,hl,hm,D2, -,hx⟩
 · exact ⟨[],CR.one (.rE ..) rfl⟩
 have hlm:len≤m:=by rw [D2];split<;>omega
 by_cases h0:len=0
 · subst h0;exact ⟨[],CR.one (.rE ..) rfl⟩
 subst hk
 have hel:∀i,i<len→∃x:A,∃cs',W.cells? 0 (a.add (i*P.cellsOf e)) (P.cellsOf e)=some cs'∧CR W (f x).cells cs':=fun i hi=>by
  obtain ⟨cs',h1,h2⟩:=hx i (by omega)
  obtain ⟨x,hc⟩:=hop _ _ _ h2
  exact ⟨x,cs',h1,hc⟩
 have hsp:a.spot=none:=by
  obtain ⟨x,cs',h1,hc⟩:=hel 0 (by omega)
  obtain ⟨-,h2,h3⟩:=World.cells?_some h1
  have h4:=h3 0 hk0
  have h5:(a.add (0*P.cellsOf e)).add 0=a:=by simp [Addr.add]
  rw [h5,List.getElem?_eq_getElem (by omega)] at h4
  unfold World.cell? at h4
  split at h4
  · split at h4
    · cases h4
    · rename_i hq;cases hs:a.spot<;>simp_all
  · cases h4
 obtain ⟨b,o,s⟩:=a
 simp only at hsp
 subst hsp
 obtain ⟨xs,hlen,hxs⟩:=JV len hel
 have hcell:∀(i:Nat) (x:A),xs[i]? =some x→∃cs',CR W (f x).cells cs'∧cs'.length=P.cellsOf e∧∀j,j<P.cellsOf e→o+i*P.cellsOf e+j<(C0 W b).length∧(C0 W b).getD (o+i*P.cellsOf e+j) undef=cs'.getD j undef:=fun i x hi=>by
  obtain ⟨cs',h1,hc⟩:=hxs i x hi
  obtain ⟨-,h2,h3⟩:=World.cells?_some h1
  refine ⟨cs',hc,h2,fun j hj=> ?_⟩
  have h4:=h3 j hj
  rw [add_add,add_eq,List.getElem?_eq_getElem (by omega)] at h4
  have:=JU h4
  rw [Nat.add_assoc,List.getD_eq_getElem?_getD (l:=cs'),List.getElem?_eq_getElem (by omega)]
  exact this
 refine ⟨xs,CR.one (.sl _ _ _ _ _ _ _ _ (by rw [FV,hlen]) hl (fun i a hi=> ?_) ?_ (fun q h1 h2=> ?_) fun i a hi j y hj=> ?_) rfl⟩
 · rw [ml,List.getElem?_map] at hi
   cases hr:xs[i]? with
   |none=>rw [hr] at hi;simp at hi
   |some x=>rw [hr] at hi;simp at hi;subst hi;exact hf x
 · have Kb:len - 1<xs.length:=by omega
   obtain ⟨cs', -, -,h3⟩:=hcell (len - 1) _ (List.getElem?_eq_getElem Kb)
   have:=(h3 (P.cellsOf e - 1) (by omega)).1
   have h5:len*P.cellsOf e=(len - 1)*P.cellsOf e+P.cellsOf e:=by
    conv=>lhs;rw [show len=(len - 1)+1 by omega,Nat.succ_mul]
   omega
 · have hq:q - o<len*P.cellsOf e:=by omega
   have hi:(q - o) / P.cellsOf e<len:=Nat.div_lt_of_lt_mul (by rw [Nat.mul_comm];exact hq)
   have hj:(q - o) % P.cellsOf e<P.cellsOf e:=Nat.mod_lt _ hk0
   obtain ⟨cs',hc,h2,h3⟩:=hcell ((q - o) / P.cellsOf e) _ (List.getElem?_eq_getElem (by omega))
   have h4:=(h3 _ hj).2
   have h5:o+(q - o) / P.cellsOf e*P.cellsOf e+(q - o) % P.cellsOf e=q:=by
    have:=Nat.div_add_mod (q - o) (P.cellsOf e)
    rw [Nat.mul_comm] at this
    omega
   rw [h5] at h4
   rw [h4,List.getD_eq_getElem?_getD,List.getElem?_eq_getElem (by omega)]
   exact hc.2.1 _ (List.getElem_mem ..)
 · rw [ml,List.getElem?_map] at hi
   cases hr:xs[i]? with
   |none=>rw [hr] at hi;simp at hi
   |some x=>
    rw [hr] at hi;simp at hi;subst hi
    obtain ⟨cs',hc,h2,h3⟩:=hcell i x hr
    have hjl:j<P.cellsOf e:=by rw [←hf x];exact (List.getElem?_eq_some_iff.1 hj).1
    rw [(h3 j hjl).2]
    exact hc.2.2 j y hj
theorem ZU {t:TypeId} {fs:Array Field} {A:Type} {f:A→AV} (ht:P.underlying t=some (.struct fs))
 (hb:∀cs:List Value,cs.length=P.cellsOf t→(∀(i:Nat) (fl:Field),fs[i]? =some fl→∃n y,DataW.trod enc P W 0 sp held n fl.type ((cs.drop fl.offset).take (P.cellsOf fl.type))=some y)→∃x,CR W (f x).cells cs):
 Op enc P W sp held t f:=by
 intro n cs y h
 obtain ⟨xs,m, -, -,hl,hlen,hf⟩:=DataW.trod_struct ht h
 refine hb cs hl fun i fl hfl=> ?_
 have hlt:i<xs.length:=by rw [hlen];exact (Array.getElem?_eq_some_iff.1 hfl).1
 exact ⟨m,xs[i],by rw [hf i fl hfl,List.getElem?_eq_getElem hlt]⟩
theorem seg {cs:List Value} {o k:Nat}:(cs.drop o).take k++cs.drop (o+k)=cs.drop o:=by
 rw [←List.drop_drop,List.take_append_drop]
theorem Op.arg1 {t:TypeId} {A:Type} {f:A→AV} (hop:Op enc P W sp held t f) (hf:∀x,(f x).cells=[f x]) {v:Value} {d:DataW H} {ps:List MemPlace} {r:Reach} {base:Nat} (hs:∀cs,¬Value.okWide P W r base t (.agg cs))
 (hval:Value.okWide P W r base t v) (h:DataW.Trod enc P W 0 sp held t v d ps):∃x,VR (C0 W) [] (f x) v:=by
 obtain ⟨fuel,h⟩:=h
 obtain ⟨x,h1, -,h3⟩:=hop _ _ _ h
 rw [hf] at h1 h3
 have hc:v.cells.toList=[v]:=by
  cases v with
  |agg cs=>exact absurd hval (hs cs)
  |_=>rfl
 rw [hc] at h3
 exact ⟨x,by simpa using h3 0 (f x) rfl⟩
theorem Op.acY {t:TypeId} {A:Type} {f:A→AV} (hop:Op enc P W sp held t f) {fs:Array Field} (ht:P.underlying t=some (.struct fs)) (hf:∀x,f x= .agg (f x).cells) {v:Value} {d:DataW H} {ps:List MemPlace} {r:Reach} {base:Nat}
 (hval:Value.okWide P W r base t v) (h:DataW.Trod enc P W 0 sp held t v d ps):∃x,VR (C0 W) [] (f x) v:=by
 obtain ⟨fuel,h⟩:=h
 obtain ⟨x,h1, -,h3⟩:=hop _ _ _ h
 unfold Value.okWide at hval
 rw [ht] at hval
 obtain ⟨cs,rfl, -, -⟩:=hval
 refine ⟨x, ?_⟩
 rw [hf x]
 refine .agg _ _ _ (by simpa [Value.cells] using h1) fun i a hi=> ?_
 have:=h3 i a hi
 simpa [Value.cells,Array.getD_eq_getD_getElem?,List.getD_eq_getElem?_getD] using this
theorem Mw {t:TypeId} {k:IntKind} {r:Reach} {base:Nat} (ht:P.underlying t=some (.int k)) (cs:Array Value):¬Value.okWide P W r base t (.agg cs):=by
 simp [Value.okWide,Cell.okWide,Cell.ok,ht]
theorem Xq {t:TypeId} {r:Reach} {base:Nat} (ht:P.underlying t=some .bool) (cs:Array Value):¬Value.okWide P W r base t (.agg cs):=by
 simp [Value.okWide,Cell.okWide,Cell.ok,ht]
theorem DW {t:TypeId} {r:Reach} {base:Nat} (ht:P.underlying t=some .string) (cs:Array Value):¬Value.okWide P W r base t (.agg cs):=by
 simp [Value.okWide,Cell.okWide,Cell.ok,ht]
theorem Z7 {t e:TypeId} {r:Reach} {base:Nat} (ht:P.underlying t=some (.slice e)) (cs:Array Value):¬Value.okWide P W r base t (.agg cs):=by
 simp [Value.okWide,Cell.okWide,Cell.ok,ht]
theorem DX {ts:List TypeId} (hl:laidOutB P=true) {W W':World} (hb:Below W.heap.size W W'):∀ {vs:List Value} {ds:List (DataW H)} {ps:List MemPlace},(∀t∈ts,P.readableRec t=true∧t<P.types.size)→
 DataW.TrodAll enc P W 0 (fun _=>true) true ts vs ds ps→(∀x∈ps,x.block<W.heap.size)→DataW.TrodAll enc P W' 0 (fun b=>decide (b<W.heap.size)) true ts vs ds ps:=by
 induction ts with
 |nil=>
  intro vs ds ps _ h _
  cases vs<;>cases ds<;>simp [DataW.TrodAll] at h ⊢
  exact h
 |cons t ts ih=>
  intro vs ds ps ht h hlt
  cases vs<;>cases ds<;>simp only [DataW.TrodAll] at h ⊢
  obtain ⟨p,q,h1,h2,rfl⟩:=h
  exact ⟨p,q,Below.trod hl (ht t (by simp)).1 (ht t (by simp)).2 h1 hb (fun x hx=>hlt x (by simp [hx])),ih (fun t h=>ht t (by simp [h])) h2 (fun x hx=>hlt x (by simp [hx])),rfl⟩
end
end Go.Am
end
section
namespace Go.Proofs.YtboghagbiokafaaGreatDoor
open Go.ChangeShapes Go.WideShapes Go.ChangeAt Go.RowKit Go.Am Go.Proofs.ei
theorem ZV.own:ownKnob Tryz.prog.godebug=none:=by kernel_rfl
theorem ZV.laidOut:laidOutB Tryz.prog=true:=by kernel_rfl
def th:List (String×DataW Unit):=[("math/bits.deBruijn32tab",Rows.laid_math_bits_deBruijn32tab),("math/bits.deBruijn64tab",Rows.laid_math_bits_deBruijn64tab),("internal/strconv.uint64pow10",Rows.laid_internal_strconv_uint64pow10),("unicode/utf8.acceptRanges",Rows.laid_unicode_utf8_acceptRanges),("strconv.ErrRange",Rows.laid_strconv_ErrRange),("strconv.ErrSyntax",Rows.laid_strconv_ErrSyntax),("unicode/utf8.first",Rows.laid_unicode_utf8_first)]
noncomputable def yM (os:Os):World:=
 {World.doorLaid Tryz.prog 4000 os with heap:=(World.doorLaid Tryz.prog 4000 os).heap.modify 2 fun
  | .cells _ t fr=> .cells (Go.Pinned.utf8FirstZ.map fun n:Nat=>Value.int .u8 (n:Int)).toArray t fr
  |o=>o}
set_option maxRecDepth 100000 in
theorem QC (os:Os) (args:Array Value):laidMetH Tryz.prog th ((yM os).forCall (fun _ _=>0) ⟨#[],args,[]⟩).memory:=
 laidMetH_of_parts3 (fuel:=8) (laidMet_of_run' 8 (by kernel_rfl) (by kernel_rfl)) (by kernel_rfl) (by kernel_rfl)
set_option maxRecDepth 100000 in
theorem Hq (os:Os) (args:Array Value):((yM os).forCall (fun _ _=>0) ⟨#[],args,[]⟩).Shaped Tryz.prog:=World.shaped_of_RefB (by kernel_rfl) (by kernel_rfl)
end Go.Proofs.YtboghagbiokafaaGreatDoor
end
section
namespace Go.Proofs.YtboghagbiokafaaGreatDoor
open Go.ChangeShapes Go.WideShapes Go.ChangeAt Go.RowKit Go.Am Go.Proofs.ei
theorem Fo {t:TypeId} {ms:Array (String×TypeId)} (ht:Tryz.prog.underlying t=some (.interface ms)) {H:Type} {enc:TypeId×Value→H} {W:World} {sp:Nat→Bool} {held:Bool} {fuel:Nat} {cs:List Value} {y:DataW H×List MemPlace}
 (h:DataW.trod enc Tryz.prog W 0 sp held fuel t cs=some y):∃ev,cs=[ev]∧(ev= .nilIface∨∃te pe,ev= .iface te pe):=by
 cases fuel with
 |zero=>simp [DataW.trod] at h
 |succ n=>
  rcases cs with _|⟨v,_|⟨v2,r⟩⟩
  · simp [DataW.trod,ht] at h
  · cases v<;>first|exact ⟨_,rfl, .inl rfl⟩|exact ⟨_,rfl, .inr ⟨_,_,rfl⟩⟩|(exfalso;simp [DataW.trod,ht] at h)
  · cases v<;>simp [DataW.trod,ht] at h
theorem yN {W:World} {name:String} {g:Nat} {cs:Array Value} (hg:Tryz.prog.globalNamed name=some g) (h:W.var? Tryz.prog name=some cs):∃t fr,W.heap[g]? =some (.cells cs t fr):=by
 simp only [World.var?,hg,Option.bind_some] at h
 split at h
 · rename_i c t fr hb
   injection h with h
   subst h
   exact ⟨t,fr,hb⟩
 · cases h
theorem Mx {W:World} (hs:W.ShapedOpen Tryz.prog) (h:laidMetH Tryz.prog th W):∀e∈Tabs.l,∃cs ty fr,W.heap[e.1]? =some (.cells cs ty fr)∧e.2 cs:=by
 rw [MakeChecks.laidMetH_plain _ _ _ (by kernel_rfl)] at h
 obtain ⟨ps,⟨g0,t0,cs0,f0,p0,q0,UH,ht0,hv0,hd0,⟨g1,t1,UM,f1,p1,q1,UT,ht1,hv1,hd1,⟨g2,t2,cs2,f2,p2,q2,Rk,ht2,D1,HT,⟨g3,t3,cs3,f3,p3,q3,hg3,ht3,hv3,hd3,⟨g4,t4,cs4,f4,p4,q4,hg4,ht4,hv4,hd4,⟨g5,t5,cs5,f5,p5,q5,hg5,ht5,hv5,hd5,_,_⟩,_⟩,_⟩,_⟩,_⟩,_⟩,_⟩:=h
 intro e he
 simp only [Tabs.l,List.mem_cons,List.mem_nil_iff,or_false] at he
 rcases he with rfl|rfl|rfl|rfl
 · obtain ⟨cs,hh,hsz, -⟩:=hs.1 0 #[.int .i64 0] 3 (of_decide_eq_true (by kernel_rfl)) (by kernel_rfl)
   obtain ⟨m,hm⟩:=cell_of_shapedOpen_int (g:=0) (t:=3) (k:= .i64) (zero:= #[.int .i64 0]) hs (of_decide_eq_true (by kernel_rfl)) (by kernel_rfl) rfl (by kernel_rfl) (by kernel_rfl) (by kernel_rfl)
   refine ⟨cs,_,_,hh,m, ?_⟩
   have h1:cs.size=1:=hsz
   apply Array.ext
   · exact h1
   · intro i hi _
     have:i=0:=by omega
     subst this
     simpa [World.cell?,hh,h1] using hm
 · have hg:Tryz.prog.globalNamed "internal/strconv.uint64pow10" =some 1:=by kernel_rfl
   obtain rfl:=Option.some.inj (hg.symm.trans Rk)
   obtain rfl:=Option.some.inj ((show (Tryz.prog.globals[1]?).map (·.type)=some 113 by kernel_rfl).symm.trans ht2)
   have hc:cs2.toList=Lib.pow10Tab.map fun z=>Value.int .u64 z:=Lib.cells_of_tab (n:=20) (e:=68) (k:= .u64) Tryz.underlying113 (by kernel_rfl) (by kernel_rfl) (by kernel_rfl) HT
   obtain ⟨t,fr,hb⟩:=yN hg D1
   refine ⟨cs2,t,fr,hb, ?_⟩
   simp only [←hc,Array.toArray_toList]
 · have hg:Tryz.prog.globalNamed "strconv.ErrSyntax" =some 4:=by kernel_rfl
   obtain rfl:=Option.some.inj (hg.symm.trans hg5)
   obtain rfl:=Option.some.inj ((show (Tryz.prog.globals[4]?).map (·.type)=some 77 by kernel_rfl).symm.trans ht5)
   obtain ⟨ev,he,hev⟩:=Fo Tryz.underlying77 hd5
   obtain ⟨t,fr,hb⟩:=yN hg hv5
   exact ⟨cs5,t,fr,hb,ev,by rw [←Array.toArray_toList (xs:=cs5),he],hev⟩
 · have hg:Tryz.prog.globalNamed "strconv.ErrRange" =some 5:=by kernel_rfl
   obtain rfl:=Option.some.inj (hg.symm.trans hg4)
   obtain rfl:=Option.some.inj ((show (Tryz.prog.globals[5]?).map (·.type)=some 77 by kernel_rfl).symm.trans ht4)
   obtain ⟨ev,he,hev⟩:=Fo Tryz.underlying77 hd4
   obtain ⟨t,fr,hb⟩:=yN hg hv4
   exact ⟨cs4,t,fr,hb,ev,by rw [←Array.toArray_toList (xs:=cs4),he],hev⟩
section
variable {H:Type} {enc:TypeId×Value→H}
theorem A8 {a:Assume} {C:Checked} {os:Os} {f:FuncId} {fn:Func} {s:ChangeSpec} {conds:List PathCond} {apart fresh handsOn again:Bool} {X:World→Array Value→Prop}
 (hX:∀(w w':World) (args:Array Value),w.heap=w'.heap→X w args→X w' args)
 (own:ownKnob C.prog.godebug=none) (started:os.Started) (noInit:C.prog.inits.idxOf? f=none) (hfn:C.prog.funcs[f]? =some fn)
 (witness:∃(w:World) (tape:Tape) (i:Input),w.os=os∧(w.forCall tape i).Shaped C.prog∧i.vars=[]∧Input.okWide C.prog (w.forCall tape i) .any w.heap.size f i∧
  ((s.pre enc C.prog fn conds apart (w.forCall tape i).memory i.args∧X (w.forCall tape i).memory i.args)∧sizedMet enc C.prog fn (OpenSpec.ofChange s) apart (w.forCall tape i).memory i.args)∧a.holds C.prog (lone (Frame.enter C.prog f i.args .normal) [] (w.forCall tape i)))
 (contract:∀(W:World) (base:Nat) (args:Array Value) (ds gs:List (DataW H)) (before:List MemPlace),
  (∀(j:Nat) t v,fn.params[j]? =some t→args[j]? =some v→Value.okWide C.prog W .any base t v)→
  DataW.Whole enc C.prog fn.params.toList s.vars apart W args.toList ds gs before→W.ShapedOpen C.prog→X W args→
  Calls C.prog f args W fun e W'=>∃v,e= .returned v∧s.post enc C.prog fn apart fresh handsOn again W args v W'):
 ReturnsInHanded a C os f .any (fun w args=>(s.pre enc C.prog fn conds apart w args∧X w args)∧sizedMet enc C.prog fn (OpenSpec.ofChange s) apart w args) (s.post enc C.prog fn apart fresh handsOn again):=by
 refine returnsInHanded_of_calls own started noInit witness ?_
 rintro w tape i - WR - ⟨-, -, -,fn2,abR, -, -, -, -,ZW⟩ ⟨⟨⟨ds,gs,before,WT, -⟩,hx⟩, -⟩ -
 obtain rfl:fn2=fn:=Option.some.inj (abR.symm.trans hfn)
 refine (contract (w.forCall tape i) _ i.args ds gs before ZW (DataW.Whole.of_heap (w':=w.forCall tape i) (by rfl) WT) WR (hX _ _ _ (by rfl) hx)).mono ?_
 rintro e W' ⟨v,rfl,hp⟩
 exact ChangeSpec.post_blind hp
end
theorem abS {P:Program} {W:World} {r:Reach} {base:Nat} {t:TypeId} {k:IntKind} (ht:P.underlying t=some (.int k)) {C:Nat→List Value} {γ:List Nat} {x:Int} {v:Value} (hv:VR C γ (.int k x) v) (h:Value.okWide P W r base t v):k.has x:=by
 obtain rfl:=hv.cJ
 unfold Value.okWide at h
 rw [ht] at h
 unfold Cell.okWide Cell.ok at h
 rw [ht] at h
 exact h.2
end Go.Proofs.YtboghagbiokafaaGreatDoor
end
section
namespace Go.Proofs.YtboghagbiokafaaGreatDoor
open Go.ChangeShapes Go.WideShapes Go.ChangeAt Go.RowKit Go.Am Go.Proofs.ei
set_option maxRecDepth 100000 in
theorem A9 (os:Os) (started:os.Started) (H:Type) (enc:TypeId×Value→H):
 ReturnsInHanded {} Tryz.checked os 4 .any (fun w args=>(Rows.cmdWordsSpec.pre enc Tryz.prog Tryz.f4 [] false w args∧laidMetH Tryz.prog th w)∧sizedMet enc Tryz.prog Tryz.f4 (OpenSpec.ofChange Rows.cmdWordsSpec) false w args) (Rows.cmdWordsSpec.post enc Tryz.prog Tryz.f4 false true false false):=by
 refine A8 (C:=Tryz.checked) (X:=fun w _=>laidMetH Tryz.prog th w) (fun _ _ _ hh h=>h.of_heap hh) ZV.own started (by kernel_rfl) Tryz.func4
  (ChangeSpec.witness_shaped (enc:=enc) (C:=Tryz.checked) (os:=os) (X:=fun w _=>laidMetH Tryz.prog th w) false (yM os) #[.int .i64 0, .string ⟨#[]⟩, .string ⟨#[]⟩] 8 rfl (Hq os _) (by kernel_rfl) (by kernel_rfl) (by kernel_rfl) (QC os _)) ?_
 intro W base args ds gs before ZX hW hS hL
 have hval:∀(j:Nat) t v,Tryz.f4.params[j]? =some t→args[j]? =some v→Value.okWide Tryz.prog W .any base t v:=ZX
 have hW':=hW
 obtain ⟨p,q,hA0,hV,rfl,hfz,hnd⟩:=hW
 have hA:DataW.TrodAll enc Tryz.prog W 0 (fun _=>true) true Tryz.f4.params.toList args.toList ds p:=hA0
 have hA1:=hA
 rw [Tryz.params4] at hA hval
 obtain ⟨vs,hvs⟩:∃vs,vs=args.toList:=⟨_,rfl⟩
 rw [←hvs] at hA
 obtain ⟨v0,vs0,d0,ds0,p0,q0,e0,rfl,rfl,h0,hA⟩:=trodAll_cons hA
 obtain ⟨v1,vs1,d1,ds1,p1,q1,e1,rfl,rfl,h1,hA⟩:=trodAll_cons hA
 obtain ⟨v2,vs2,d2,ds2,p2,q2,e2,rfl,rfl,h2,hA⟩:=trodAll_cons hA
 obtain ⟨e3,rfl,rfl⟩:=trodAll_nil hA
 have hargs:args= #[v0,v1,v2]:=by
  apply Array.ext';rw [←hvs,e0,e1,e2,e3]
 subst hargs
 obtain ⟨rfl,rfl⟩:=trodVars_none hV
 obtain ⟨x0,a0⟩:=Op.arg1 (f:=(RJ .i64)) (WQ (by kernel_rfl)) (fun _=>rfl) (fun cs=>Mw (k:= .i64) (by kernel_rfl) cs) (hval 0 3 v0 rfl rfl) h0
 obtain ⟨x1,a1⟩:=Op.arg1 (f:=AV.str) (No (by kernel_rfl)) (fun _=>rfl) (fun cs=>DW (by kernel_rfl) cs) (hval 1 9 v1 rfl rfl) h1
 obtain ⟨x2,a2⟩:=Op.arg1 (f:=AV.str) (No (by kernel_rfl)) (fun _=>rfl) (fun cs=>DW (by kernel_rfl) cs) (hval 2 9 v2 rfl rfl) h2
 have hlt:∀x∈p0++(p1++(p2++([]))),x.block<W.heap.size:=fun x hx=>hW'.lt x (by simpa using hx)
 obtain ⟨F,hF⟩:=EU x0 x1 x2
 refine ((yL (H0:=[]) hF).row (vs:= #[v0,v1,v2]) (Mx hS hL) rfl ?_).mono ?_
 · intro i x hi
   rcases i with _|_|_|i
   · simp at hi;subst hi;exact ⟨a0,TC.enc (by rfl) _,rfl⟩
   · simp at hi;subst hi;exact ⟨a1,TC.enc (by rfl) _,rfl⟩
   · simp at hi;subst hi;exact ⟨a2,TC.enc (by rfl) _,rfl⟩
   · simp at hi
 · rintro e W' ⟨r,v,aE,γ',C',rfl,⟨rfl,rfl⟩,hv,hb⟩
   have hv:=hv.fI
   subst hv
   refine ⟨_,rfl,_,_,_,[],p0++(p1++(p2++([]))),[],hW', ?_, ?_, ?_,hb.frame _,fun h=>by cases h⟩
   · exact trodAll_mk1 (shut_bool (by kernel_rfl) true)
   · exact DX ZV.laidOut hb (of_decide_eq_true (by kernel_rfl)) hA1 hlt
   · exact rfl
theorem B4:Rows.CmdWordsSaid:=
 OpenClaim.holds_of_wide 4 Tryz.f4 rfl rfl rfl rfl rfl rfl rfl ⟨rfl,rfl,rfl,rfl,rfl⟩ rfl rfl rfl rfl rfl (by kernel_rfl) Tryz.func4 (by kernel_rfl)
  (of_decide_eq_true (by kernel_rfl)) (by unfold Func.isWrapper;first|(rw [if_pos (by decide+kernel)];kernel_rfl)|(rw [if_neg (by decide+kernel)];exact ⟨rfl,rfl⟩))
  (fun os started H enc _=>A9 os started H enc)
theorem cmdWords_tied:Rows.CmdWordsCardSaid:=
 Claim7.holds_tied_plain_at .later [] [.data, .data, .data, .data, .sentinel, .sentinel, .pinned] true Rows.cmdWordsCard.stood.harness true
  B4 (fun _ h=>by cases h) (by kernel_rfl) (fun _ h=>by cases h) cmdWords_row_tie rfl ⟨rfl,rfl⟩ (by kernel_rfl) rfl
  (fun f fn hf hfn=>by
   obtain rfl:f=4:=Option.some.inj ((show Tryz.prog.funcNamed Rows.cmdWordsRow.func=some 4 by kernel_rfl).symm.trans hf) |>.symm
   obtain rfl:fn=Tryz.f4:=(Option.some.inj (Tryz.func4.symm.trans hfn)).symm
   exact ⟨by kernel_rfl,fun j t ht=>by
    rw [Tryz.params4] at ht
    have hm:t∈[3,9,9]:=by have:=Array.mem_of_getElem? ht;simpa using this
    have hall:([3,9,9].all fun u=> !Tryz.prog.wantsStandIn u)=true:=by kernel_rfl
    exact (show Tryz.prog.wantsStandIn t=false by simpa using List.all_eq_true.1 hall t hm)⟩)
  (by kernel_rfl)
end Go.Proofs.YtboghagbiokafaaGreatDoor
end
