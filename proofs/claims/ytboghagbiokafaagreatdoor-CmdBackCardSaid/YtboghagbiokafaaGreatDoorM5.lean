import Derived.Test.YtboghagbiokafaaGreatDoorM4
import Derived.Lib.IndexMore
import Derived.Lib.AtoiTie
import Derived.Below
set_option linter.unusedSimpArgs false
set_option linter.unusedVariables false
set_option linter.unusedSectionVars false
set_option linter.defProp false
section
set_option maxRecDepth 100000
namespace Go.Proofs.cQ
open Go Go.Am Go.Proofs
def ct (c:UInt8):Bool:=EX c||eE c||c==45||c==46||c==91||c==93
def bp (c:UInt8):Bool:=decide (32≤c)&&decide (c≤126)
def eR (c:UInt8):Bool:=EX c||eE c||([33,35,36,37,38,39,42,43,45,47,61,63,94,95,96,123,124,125,126]:List UInt8).contains c
def jg (c:UInt8):Bool:=c==46||eR c
theorem Rt (c:UInt8):ox c=some (eR c):=by
 have:=e7 (p:=fun c=>decide (ox c=some (eR c))) (by kernel_rfl) c
 simpa using this
theorem Ru (c:UInt8):eu c=some (ct c):=by
 have:=e7 (p:=fun c=>decide (eu c=some (ct c))) (by kernel_rfl) c
 simpa using this
theorem Rv (c:UInt8):eJ c=some (jg c):=by
 have:=e7 (p:=fun c=>decide (eJ c=some (jg c))) (by kernel_rfl) c
 simpa using this
structure At (s:List UInt8) (n:Nat) (r:List UInt8):Prop where
 le:n≤s.length
 dr:s.drop n=r
 sm:s.length≤90000
def nx:List UInt8→UInt8
 |[]=>0
 |c::_=>c
theorem At.len {s r:List UInt8} {n:Nat} (h:At s n r):n+r.length=s.length:=by
 rw [←h.dr,List.length_drop];have:=h.le;omega
theorem At.next {s r:List UInt8} {n:Nat} {c:UInt8} (h:At s n (c::r)):At s (n+1) r:=by
 obtain ⟨h1,h2,h3⟩:=drop_cons h.dr
 exact ⟨h1,h3,h.sm⟩
theorem nX {s r:List UInt8} {n:Nat} (h:At s n r):bE ⟨s,(n:Int),false⟩=some (nx r):=by
 unfold bE
 cases r with
 |nil=>
  have:=h.len
  rw [if_pos (by simp at this ⊢;omega)];rfl
 |cons c r=>
  obtain ⟨h1,h2,h3⟩:=drop_cons h.dr
  rw [if_neg (by simp;omega),bz h2];rfl
theorem vM {s:List UInt8} {n:Int}:bE ⟨s,n,true⟩=some 0:=by simp [bE]
theorem yY {s r:List UInt8} {n:Nat} {c:UInt8} (h:At s n (c::r)):bM ⟨s,(n:Int),false⟩ c=some (true,⟨s,((n+1:Nat):Int),false⟩):=by
 have:=h.len;have:=h.sm
 unfold bM
 rw [nX h,Option.bind_some]
 simp only [nx]
 rw [if_neg (by simp),wi (by omega)]
theorem vN {s r:List UInt8} {n:Nat} {c:UInt8} (h:At s n r) (hc:nx r≠c):bM ⟨s,(n:Int),false⟩ c=some (false,⟨s,(n:Int),false⟩):=by
 unfold bM
 rw [nX h,Option.bind_some,if_pos (by simpa using hc)]
theorem wG {s:List UInt8} {n:Int} {c:UInt8} (hc:c≠0):bM ⟨s,n,true⟩ c=some (false,⟨s,n,true⟩):=by
 unfold bM
 rw [vM,Option.bind_some,if_pos (by simpa using fun h=>hc h.symm)]
theorem zz {s r:List UInt8} {n:Nat} {c:UInt8} (h:At s n (c::r)):bt ⟨s,(n:Int),false⟩ c=some ⟨s,((n+1:Nat):Int),false⟩:=by
 unfold bt;simp [yY h]
theorem CA {s r:List UInt8} {n:Nat} {c:UInt8} (h:At s n r) (hc:nx r≠c):bt ⟨s,(n:Int),false⟩ c=some ⟨s,(n:Int),true⟩:=by
 unfold bt;simp [vN h hc]
theorem jO {s:List UInt8} {n:Int} {c:UInt8}:bt ⟨s,n,true⟩ c=some ⟨s,n,true⟩:=by
 unfold bt;simp
theorem I1 {q:UInt8→Bool} {ρ:Type} {body:(UInt8×aE)→Option (St ρ aE (UInt8×aE))} {s:List UInt8} (h0:q 0=false)
 (hb:∀(c:UInt8) (n:Int) (b:Bool),body (c,⟨s,n,b⟩)=if q c=true then (bE ⟨s,IntKind.wrap .i64 (n+1),b⟩).bind fun r9=>some (.cA (r9,⟨s,IntKind.wrap .i64 (n+1),b⟩)) else some (.dQ ⟨s,n,b⟩)):
 ∀(r:List UInt8) (n F:Nat),At s n r→r.length<F→iter body F (nx r,⟨s,(n:Int),false⟩)=some (.inr ⟨s,((n+(r.takeWhile q).length:Nat):Int),false⟩):=by
 intro r
 induction r with
 |nil=>
  intro n F h hF
  obtain ⟨G,rfl⟩:=bH hF
  rw [bu (t:=⟨s,(n:Int),false⟩) (by rw [hb,if_neg (by simp [nx,h0])])]
  simp
 |cons c r ih=>
  intro n F h hF
  obtain ⟨G,rfl⟩:=bH hF
  have:=h.len;have:=h.sm
  by_cases hq:q c=true
  · have hst:body (nx (c::r),⟨s,(n:Int),false⟩)=some (.cA (nx r,⟨s,((n+1:Nat):Int),false⟩)):=by
     rw [hb,if_pos (by simpa [nx] using hq),wi (by omega),nX h.next];rfl
    rw [bW hst,ih (n+1) G h.next (by simp at hF;omega),List.takeWhile_cons,if_pos hq]
    simp only [List.length_cons]
    congr 4
    omega
  · rw [bu (t:=⟨s,(n:Int),false⟩) (by rw [hb,if_neg (by simpa [nx] using hq)]),List.takeWhile_cons,if_neg hq]
    simp
theorem qv (q:UInt8→Bool) (r:List UInt8):(r.takeWhile q).length≤r.length:=(List.takeWhile_prefix q).length_le
theorem At.skip {s r:List UInt8} {n:Nat} (h:At s n r) (q:UInt8→Bool):At s (n+(r.takeWhile q).length) (r.dropWhile q):=by
 have h1:(r.takeWhile q).length≤r.length:=qv _ _
 have h2:=h.len
 refine ⟨by omega, ?_,h.sm⟩
 rw [←List.drop_drop,h.dr]
 conv=>lhs;rw [←List.takeWhile_append_dropWhile (p:=q) (l:=r)]
 rw [List.takeWhile_append_dropWhile]
 conv=>lhs;arg 2;rw [←List.takeWhile_append_dropWhile (p:=q) (l:=r)]
 exact List.drop_left ..
theorem wH {s r:List UInt8} {n:Nat} (h:At s n r) (q:UInt8→Bool):sub s (n:Int) ((n+(r.takeWhile q).length:Nat):Int)=some (r.takeWhile q):=by
 have h1:=(h.skip q).le
 rw [qu (by omega) h1,List.drop_take,h.dr,Nat.add_sub_cancel_left]
 congr 1
 conv=>lhs;arg 2;rw [←List.takeWhile_append_dropWhile (p:=q) (l:=r)]
 exact List.take_left ..
theorem Qg {s r:List UInt8} {n F:Nat} (h:At s n r) (hF:s.length+1<F):
 cm F ⟨s,(n:Int),false⟩=some (r.takeWhile ct,⟨s,((n+(r.takeWhile ct).length:Nat):Int), !dY (r.takeWhile ct)⟩):=by
 have h1:=h.len;have h2:=h.sm
 have h3:(r.takeWhile ct).length≤r.length:=qv _ _
 unfold cm
 rw [nX h,Option.bind_some,I1 (q:=ct) (s:=s) (by decide) (fun c n b=>by simp only [ew,Ru,Option.bind_some]) r n F h (by omega)]
 simp only [Option.bind_some]
 rw [wH h,Option.bind_some]
 unfold ey
 simp only [Bool.false_eq_true,if_false]
 rw [GQ (by omega) (by omega)]
 rfl
theorem oZ {s:List UInt8} {n F:Nat} (hn:n≤s.length) (hF:0<F):cm F ⟨s,(n:Int),true⟩=some ([],⟨s,(n:Int),true⟩):=by
 obtain ⟨G,rfl⟩:=bH hF
 unfold cm
 rw [vM,Option.bind_some,bu (t:=⟨s,(n:Int),true⟩) (by simp only [ew,Ru,Option.bind_some];rfl)]
 simp only [Option.bind_some]
 rw [qu (Nat.le_refl _) hn,Option.bind_some]
 unfold ey
 simp only [if_true,Option.bind_some]
 congr 2
 simp
def iz (s:List UInt8):Bool:=(aV s).all fun p=>p !=[]&&p.all eR
theorem UA {s:List UInt8} {F:Nat} (hl:s.length≤1000000) (hF:s.length<F):kj F s=some (s.all eR):=by
 unfold kj
 have hh:=scan (s:=s) (body:=eI s) (mk:=fun i=>(false,(i:Int))) (p:=eR) (rr:=fun _=>false) (tt:=()) ?_ ?_ ?_ hF
 · cases ha:s.all eR with
   |true=>have:=hh.1 ha;rw [show ((0:Nat):Int)=0 from rfl] at this;rw [this];rfl
   |false=>obtain ⟨j,hj⟩:=hh.2 ha;rw [show ((0:Nat):Int)=0 from rfl] at hj;rw [hj];rfl
 · intro i x hx hp
   have hi:=(List.getElem?_eq_some_iff.1 hx).1
   simp only [eI]
   rw [if_pos (by simpa using hi),bz hx,Option.bind_some,Rt,Option.bind_some,hp,wi (by omega)];rfl
 · intro i x hx hp
   have hi:=(List.getElem?_eq_some_iff.1 hx).1
   simp only [eI]
   rw [if_pos (by simpa using hi),bz hx,Option.bind_some,Rt,Option.bind_some,hp];rfl
 · simp [eI]
theorem M6 {x:List UInt8} {F:Nat} (hl:x.length≤1000000) (hF:x.length<F):l7 F x=some (!(x !=[]&&x.all eR)):=by
 unfold l7 kT
 by_cases hx:x=[]
 · subst hx;rfl
 · rw [if_neg (by simpa using hx),UA hl hF]
   simp [hx]
theorem I2 {s:List UInt8} {F:Nat} (hl:s.length≤90000) (hF:s.length+1<F):mT F s=some (iz s):=by
 have hn:=zx s
 unfold mT
 rw [uq (by omega),Option.bind_some]
 unfold fz gE
 have hh:=scan (s:=aV s) (F:=F) (body:=cP F (aV s)) (mk:=fun i=>(0,(i:Int))) (p:=fun p=>p !=[]&&p.all eR) (rr:=fun i=>(i:Int)) (tt:=()) ?_ ?_ ?_ (by omega)
 · unfold iz
   cases ha:(aV s).all fun p=>p !=[]&&p.all eR with
   |true=>have:=hh.1 ha;rw [show ((0:Nat):Int)=0 from rfl] at this;rw [this];rfl
   |false=>obtain ⟨j,hj⟩:=hh.2 ha;rw [show ((0:Nat):Int)=0 from rfl] at hj;rw [hj];simp
 · intro i x hx' hp
   have hi:=(List.getElem?_eq_some_iff.1 hx').1
   have hxl:=mU s x (List.mem_of_getElem? hx')
   simp only [cP]
   rw [if_pos (by simpa using hi),bz hx',Option.bind_some,M6 (by omega) (by omega),Option.bind_some,hp,wi (by omega)];rfl
 · intro i x hx' hp
   have hi:=(List.getElem?_eq_some_iff.1 hx').1
   have hxl:=mU s x (List.mem_of_getElem? hx')
   simp only [cP]
   rw [if_pos (by simpa using hi),bz hx',Option.bind_some,M6 (by omega) (by omega),Option.bind_some,hp];rfl
 · simp [cP]
def qL:List UInt8→Option (List UInt8×List UInt8)
 |[]=>none
 |c::r=>if c=34 then some ([],r)
  else if c=92 then (match r with
   |[]=>none
   |d::r'=>if bp d then (qL r').map fun x=>(d::x.1,x.2) else none)
  else if bp c then (qL r).map fun x=>(c::x.1,x.2) else none
theorem vO (c:UInt8) (r:List UInt8):qL (c::r)=if c=34 then some ([],r)
 else if c=92 then (match r with
  |[]=>none
  |d::r'=>if bp d then (qL r').map fun x=>(d::x.1,x.2) else none)
 else if bp c then (qL r).map fun x=>(c::x.1,x.2) else none:=by
 cases r<;>rfl
theorem KL (c:UInt8):l6 c=some (bp c):=rfl
theorem agI:bp 0=false:=by decide
theorem adJ {s r acc:List UInt8} {n:Nat} (h:At s n (34::r)):bP (acc,⟨s,(n:Int),false⟩)=some (.dQ (acc,⟨s,((n+1:Nat):Int),false⟩)):=by
 simp only [bP,dy,Bool.not_false,if_true]
 rw [yY h]
 simp
theorem Qh {s r acc:List UInt8} {n:Nat} (h:At s n r) (h1:nx r≠34) (h2:nx r≠92) (ha:acc.length≤90000):bP (acc,⟨s,(n:Int),false⟩)=
 if bp (nx r)=true then some (.cA (acc++[nx r],⟨s,((n+1:Nat):Int),false⟩)) else some (.dQ (acc,⟨s,(n:Int),true⟩)):=by
 have:=h.le;have:=h.sm
 simp only [bP,dy,Bool.not_false,if_true]
 rw [vN h h1]
 simp only [Option.bind_some,Bool.not_false,if_true]
 rw [vN h h2]
 simp only [Option.bind_some]
 rw [nX h]
 simp only [Option.bind_some,KL]
 cases bp (nx r) with
 |false=>simp
 |true=>
  simp only [Bool.not_true,Bool.false_eq_true,if_false,if_true]
  rw [fU (by simp;omega) (by omega),Option.bind_some,wi (by omega)]
theorem adK {s r acc:List UInt8} {n:Nat} (h:At s n (92::r)) (ha:acc.length≤90000):bP (acc,⟨s,(n:Int),false⟩)=
 if bp (nx r)=true then some (.cA (acc++[nx r],⟨s,((n+2:Nat):Int),false⟩)) else some (.dQ (acc,⟨s,((n+1:Nat):Int),true⟩)):=by
 have:=h.next.le;have:=h.sm
 simp only [bP,dy,Bool.not_false,if_true]
 rw [vN h (by simp [nx])]
 simp only [Option.bind_some,Bool.not_false,if_true]
 rw [yY h]
 simp only [Option.bind_some]
 rw [nX h.next]
 simp only [Option.bind_some,KL]
 cases bp (nx r) with
 |false=>simp
 |true=>
  simp only [Bool.not_true,Bool.false_eq_true,if_false,if_true]
  rw [fU (by simp;omega) (by omega),Option.bind_some,wi (by omega)]
theorem KM {s:List UInt8}:∀(k:Nat) (r acc:List UInt8) (n F:Nat),r.length≤k→At s n r→acc.length≤n→r.length<F→
 match qL r with
 |some (b,rest)=>∃n':Nat,iter bP F (acc,⟨s,(n:Int),false⟩)=some (.inr (acc++b,⟨s,(n':Int),false⟩))∧At s n' rest
 |none=>∃acc',∃n':Nat,iter bP F (acc,⟨s,(n:Int),false⟩)=some (.inr (acc',⟨s,((n':Nat):Int),true⟩))∧n'≤s.length:=by
 intro k
 induction k with
 |zero=>
  intro r acc n F hk h ha hF
  have hr:r=[]:=List.length_eq_zero_iff.1 (by omega)
  subst hr
  obtain ⟨G,rfl⟩:=bH hF
  have:=h.le;have:=h.sm
  refine ⟨acc,n,bu ?_,h.le⟩
  rw [Qh h (by decide) (by decide) (by omega),if_neg (by decide)]
 |succ k ih=>
  intro r acc n F hk h ha hF
  obtain ⟨G,rfl⟩:=bH (show 0<F by omega)
  have h1:=h.le;have h2:=h.sm
  match r,hk,h,hF with
  |[],hk,h,hF=>exact ⟨acc,n,bu (by rw [Qh h (by decide) (by decide) (by omega),if_neg (by decide)]),h.le⟩
  |c::r,hk,h,hF=>
   rw [vO]
   by_cases hc:c=34
   · subst hc
     rw [if_pos rfl]
     exact ⟨n+1,by rw [bu (adJ h)];simp,h.next⟩
   · rw [if_neg hc]
     by_cases HD:c=92
     · subst HD
       rw [if_pos rfl]
       have hst:=adK (acc:=acc) h (by omega)
       match r,hk,h,hF,hst with
       |[],hk,h,hF,hst=>exact ⟨acc,n+1,bu (by rw [hst,if_neg (by decide)]),h.next.le⟩
       |d::r',hk,h,hF,hst=>
        cases hv:bp d with
        |false=>simp only [hv,Bool.false_eq_true,if_false];exact ⟨acc,n+1,bu (hst.trans (if_neg (by show ¬bp d=true;rw [hv];decide))),h.next.le⟩
        |true=>
         simp only [if_true]
         have ur:=hst.trans (if_pos (show bp (nx (d::r'))=true from hv))
         have:=ih r' (acc++[d]) (n+2) G (by simp at hk;omega) h.next.next (by simp;omega) (by simp at hF;omega)
         rw [bW ur]
         cases hq:qL r' with
         |none=>rw [hq] at this;simp only [nx,hv,if_true,Option.map_none];exact this
         |some x=>
          obtain ⟨b,rest⟩:=x
          rw [hq] at this
          obtain ⟨n',h3,h4⟩:=this
          simp only [nx,hv,if_true,Option.map_some];exact ⟨n',by rw [h3];simp,h4⟩
     · rw [if_neg HD]
       have hst:=Qh (acc:=acc) h (by simpa [nx] using hc) (by simpa [nx] using HD) (by omega)
       cases hv:bp c with
       |false=>simp only [hv,Bool.false_eq_true,if_false];exact ⟨acc,n,bu (hst.trans (if_neg (by show ¬bp c=true;rw [hv];decide))),h.le⟩
       |true=>
        simp only [if_true]
        have ur:=hst.trans (if_pos (show bp (nx (c::r))=true from hv))
        have:=ih r (acc++[c]) (n+1) G (by simp at hk;omega) h.next (by simp;omega) (by simp at hF;omega)
        rw [bW ur]
        cases hq:qL r with
        |none=>rw [hq] at this;simp only [nx,hv,if_true,Option.map_none];exact this
        |some x=>
         obtain ⟨b,rest⟩:=x
         rw [hq] at this
         obtain ⟨n',h3,h4⟩:=this
         simp only [nx,hv,if_true,Option.map_some];exact ⟨n',by rw [h3];simp,h4⟩
def Out (s:List UInt8) (o:Option (List UInt8×aE)):Option (List UInt8×List UInt8)→Prop
 |some (b,rest)=>∃n',o=some (b,⟨s,((n':Nat):Int),false⟩)∧At s n' rest
 |none=>∃b n',o=some (b,⟨s,((n':Nat):Int),true⟩)∧n'≤s.length
def jW (r:List UInt8):Option (List UInt8×List UInt8):=
 if nx r=34 then (match qL (r.drop 1) with|some (b,rest)=>if b=[] then none else some (b,rest)|none=>none)
 else if iz (r.takeWhile jg) then some (r.takeWhile jg,r.dropWhile jg) else none
def gA (r:List UInt8):Option (List UInt8×List UInt8):=if dY (r.takeWhile ct) then some (r.takeWhile ct,r.dropWhile ct) else none
theorem Eg {s r:List UInt8} {n F:Nat} (h:At s n r) (hF:s.length+1<F):Out s (cm F ⟨s,(n:Int),false⟩) (gA r):=by
 rw [Qg h hF]
 unfold gA
 cases hs:dY (r.takeWhile ct) with
 |true=>exact ⟨_,rfl,h.skip _⟩
 |false=>exact ⟨_,_,rfl,(h.skip ct).le⟩
theorem Qi {s r:List UInt8} {n F:Nat} (h:At s n r) (hF:s.length+1<F):Out s (dK F ⟨s,(n:Int),false⟩) (jW r):=by
 have h1:=h.len;have h2:=h.sm
 unfold dK jW
 rw [nX h,Option.bind_some]
 by_cases hq:nx r=34
 · rw [if_pos (by simpa using hq),if_pos hq]
   cases r with
   |nil=>simp [nx] at hq
   |cons c r=>
    simp only [nx] at hq
    subst hq
    simp only [List.drop_succ_cons,List.drop_zero]
    unfold gV
    rw [zz h]
    simp only [Option.bind_some]
    have:=KM (s:=s) r.length r [] (n+1) F (Nat.le_refl _) h.next (by simp) (by simp at h1;omega)
    cases hqr:qL r with
    |none=>
     rw [hqr] at this
     obtain ⟨acc,n',h3,h4⟩:=this
     rw [h3]
     simp only [Option.bind_some,ez,if_true]
     exact ⟨_,_,rfl,h4⟩
    |some x=>
     obtain ⟨b,rest⟩:=x
     rw [hqr] at this
     obtain ⟨n',h3,h4⟩:=this
     rw [h3]
     simp only [Option.bind_some,ez,Bool.false_eq_true,if_false,List.nil_append]
     by_cases hb:b=[]
     · subst hb
       exact ⟨_,n',rfl,h4.le⟩
     · rw [if_neg hb]
       refine ⟨n', ?_,h4⟩
       have:decide ((b.length:Int)=0)=false:=by simpa using hb
       rw [this]
 · rw [if_neg (by simpa using hq),if_neg hq,Option.bind_some]
   have h3:=qv jg r
   rw [I1 (q:=jg) (s:=s) (by decide) (fun c n b=>by simp only [eK,Rv,Option.bind_some]) r n F h (by omega)]
   simp only [Option.bind_some]
   rw [wH h,Option.bind_some]
   unfold eL
   simp only [Bool.false_eq_true,if_false]
   rw [I2 (by omega) (by omega)]
   simp only [Option.bind_some]
   cases hs:iz (r.takeWhile jg) with
   |true=>exact ⟨_,rfl,h.skip _⟩
   |false=>exact ⟨_,_,rfl,(h.skip jg).le⟩
theorem GW {s:List UInt8} {n F:Nat} (hn:n≤s.length) (hF:0<F):∃b,dK F ⟨s,(n:Int),true⟩=some (b,⟨s,(n:Int),true⟩):=by
 obtain ⟨G,rfl⟩:=bH hF
 unfold dK
 rw [vM,Option.bind_some,if_neg (by decide),Option.bind_some,bu (t:=⟨s,(n:Int),true⟩) (by simp only [eK,Rv,Option.bind_some];rfl)]
 simp only [Option.bind_some]
 rw [qu (Nat.le_refl _) hn,Option.bind_some]
 unfold eL
 exact ⟨_,rfl⟩
end Go.Proofs.cQ
end
section
set_option maxRecDepth 100000
namespace Go.Proofs.cQ
open Go Go.Am Go.Proofs
def Ae:Nat→List UInt8→Option (List UInt8)
 |0,_=>none
 |k+1,r=>if nx r=64 then (match gA (r.drop 1) with
   |none=>none
   |some (_,r2)=>if nx r2=44 then Ae k (r2.drop 1) else if nx r2=58 then some (r2.drop 1) else none) else none
def mF (r:List UInt8):Option (List UInt8):=if nx r=64 then Ae (r.length+1) r else some r
def Yp (s:List UInt8) (o:Option aE):Option (List UInt8)→Prop
 |some rest=>∃n':Nat,o=some ⟨s,(n':Int),false⟩∧At s n' rest
 |none=>∃n':Nat,o=some ⟨s,(n':Int),true⟩∧n'≤s.length
theorem iM {r:List UInt8} {c:UInt8} (h:nx r=c) (hc:c≠0):∃t,r=c::t:=by
 cases r with
 |nil=>exact absurd h.symm hc
 |cons a t=>exact ⟨t,by rw [←h];rfl⟩
theorem UB {s r:List UInt8} {n:Nat} {c:UInt8} (h:At s n r) (hc:c≠0):Yp s (bt ⟨s,(n:Int),false⟩ c) (if nx r=c then some (r.drop 1) else none):=by
 by_cases hn:nx r=c
 · obtain ⟨t,rfl⟩:=iM hn hc
   rw [if_pos hn]
   exact ⟨n+1,zz h,h.next⟩
 · rw [if_neg hn]
   exact ⟨n,CA h hn,h.le⟩
theorem wI {r b t:List UInt8} (h:gA r=some (b,t)):t.length≤r.length:=by
 unfold gA at h
 split at h
 · injection h with h;injection h with _ h;subst h;exact (List.dropWhile_suffix _).length_le
 · cases h
theorem adL {s:List UInt8} {n F:Nat} (hn:n≤s.length) (hF:s.length+1<F):bK F (false,⟨s,(n:Int),true⟩)=some (.ret ⟨s,(n:Int),true⟩):=by
 simp only [bK,cO]
 rw [vM]
 simp only [Option.bind_some]
 rw [if_neg (by decide)]
 simp only [Option.bind_some,Bool.not_false,if_true]
 rw [jO]
 simp only [Option.bind_some]
 rw [oZ hn (by omega)]
 simp only [Option.bind_some]
 rw [wG (by decide)]
 simp only [Option.bind_some,Bool.not_false,if_true]
 rw [jO]
 rfl
theorem M7 {s:List UInt8} {FF:Nat} (DH:s.length+1<FF):∀(k:Nat) (first:Bool) (r:List UInt8) (n F:Nat),At s n r→r.length<k→k≤F→(first=true→nx r=64)→
 ∃o:aE⊕aE,iter (bK FF) F (first,⟨s,(n:Int),false⟩)=some o∧Yp s (some (match o with| .inl x=>x| .inr x=>x)) (Ae k r):=by
 intro k
 induction k with
 |zero=>intro first r n F h hk;omega
 |succ k ih=>
  intro first r n F h hk hF aa0
  obtain ⟨G,rfl⟩:=bH (show 0<F by omega)
  have GR:cO ⟨s,(n:Int),false⟩ first=some true:=by
   unfold cO
   rw [nX h,Option.bind_some]
   by_cases hx:nx r=64
   · rw [if_pos (by simpa using hx)]
   · rw [if_neg (by simpa using hx)]
     cases first with
     |false=>rfl
     |true=>exact absurd (aa0 rfl) hx
  have hb:bK FF (first,⟨s,(n:Int),false⟩)=(bt ⟨s,(n:Int),false⟩ 64).bind fun r8=>(cm FF r8).bind fun x=>(bM x.2 44).bind fun y=>if (!y.1)=true then (bt y.2 58).bind fun mM=>some (.ret mM) else some (.cA (false,y.2)):=by
   simp only [bK]
   rw [GR]
   rfl
  simp only [Ae]
  by_cases hx:nx r=64
  · rw [if_pos hx]
    obtain ⟨t,rfl⟩:=iM hx (by decide)
    simp only [List.drop_succ_cons,List.drop_zero]
    rw [zz h] at hb
    simp only [Option.bind_some] at hb
    have hd:=Eg (F:=FF) h.next DH
    cases Qj:gA t with
    |none=>
     rw [Qj] at hd
     obtain ⟨b,n',h1,h2⟩:=hd
     rw [h1] at hb
     simp only [Option.bind_some] at hb
     rw [wG (by decide)] at hb
     simp only [Option.bind_some,Bool.not_false,if_true] at hb
     rw [jO] at hb
     exact ⟨_,c6 hb,n',rfl,h2⟩
    |some x=>
     obtain ⟨b,r2⟩:=x
     rw [Qj] at hd
     obtain ⟨n',h1,h2⟩:=hd
     rw [h1] at hb
     simp only [Option.bind_some] at hb
     have hlen:=wI Qj
     by_cases M8:nx r2=44
     · obtain ⟨r3,rfl⟩:=iM M8 (by decide)
       simp only [if_pos M8,List.drop_succ_cons,List.drop_zero]
       rw [yY h2] at hb
       simp only [Option.bind_some,Bool.not_true,Bool.false_eq_true,if_false] at hb
       rw [bW hb]
       simp only [List.length_cons] at hk hlen
       exact ih false r3 (n'+1) G h2.next (by omega) (by omega) (fun h=>by cases h)
     · simp only [if_neg M8]
       rw [vN h2 M8] at hb
       simp only [Option.bind_some,Bool.not_false,if_true] at hb
       have hw:=UB (c:=58) h2 (by decide)
       generalize hg:(if nx r2=58 then some (r2.drop 1) else none)=g at hw
       cases g with
       |none=>obtain ⟨m,h3,h4⟩:=hw;rw [h3] at hb;exact ⟨_,c6 hb,m,rfl,h4⟩
       |some rest=>obtain ⟨m,h3,h4⟩:=hw;rw [h3] at hb;exact ⟨_,c6 hb,m,rfl,h4⟩
  · rw [if_neg hx]
    rw [CA h hx] at hb
    simp only [Option.bind_some] at hb
    rw [oZ h.le (by omega)] at hb
    simp only [Option.bind_some] at hb
    rw [wG (by decide)] at hb
    simp only [Option.bind_some,Bool.not_false,if_true] at hb
    rw [jO] at hb
    exact ⟨_,c6 hb,n,rfl,h.le⟩
theorem Qk {s r:List UInt8} {n F:Nat} (h:At s n r) (hF:s.length+1<F):Yp s (dJ F ⟨s,(n:Int),false⟩) (mF r):=by
 have:=h.len
 unfold dJ mF
 by_cases hx:nx r=64
 · rw [if_pos hx]
   obtain ⟨o,h1,h2⟩:=M7 hF (r.length+1) true r n F h (by omega) (by omega) fun _=>hx
   rw [h1]
   cases o with
   |inl x=>exact h2
   |inr x=>exact h2
 · rw [if_neg hx]
   obtain ⟨G,rfl⟩:=bH (show 0<F by omega)
   have hb:bK (G+1) (true,⟨s,(n:Int),false⟩)=some (.dQ ⟨s,(n:Int),false⟩):=by
    simp only [bK,cO]
    rw [nX h,Option.bind_some,if_neg (by simpa using hx)]
    rfl
   rw [bu hb]
   exact ⟨n,rfl,h⟩
theorem M9 {s:List UInt8} {n F:Nat} (hF:0<F):dJ F ⟨s,(n:Int),true⟩=some ⟨s,(n:Int),true⟩:=by
 obtain ⟨G,rfl⟩:=bH hF
 unfold dJ
 have hb:bK (G+1) (true,⟨s,(n:Int),true⟩)=some (.dQ ⟨s,(n:Int),true⟩):=by
  simp only [bK,cO]
  rw [vM,Option.bind_some,if_neg (by decide)]
  rfl
 rw [bu hb]
 rfl
def yZ (r:List UInt8):Option (aB×List UInt8):=
 match mF r with
 |none=>none
 |some r1=>match jW r1 with
  |none=>none
  |some (l,r2)=>if nx r2=64 then (match gA (r2.drop 1) with
   |none=>none
   |some (d,r3)=>if nx r3=62 then some (⟨l,d⟩,r3.drop 1) else none) else none
def Bs (s:List UInt8):Option (aB×List UInt8):=
 if nx s=60 then (if nx (s.drop 1)=62 then some (⟨[],[]⟩,s.drop 2) else yZ (s.drop 1)) else none
theorem adM {s r:List UInt8} {n F:Nat} (h:At s n r) (hF:s.length+1<F):
 match yZ r with
 |some (a,rest)=>∃n':Nat,gj F false ⟨s,(n:Int),false⟩=some (⟨s,(n':Int),false⟩,a)∧At s n' rest
 |none=>∃a,∃n':Nat,gj F false ⟨s,(n:Int),false⟩=some (⟨s,(n':Int),true⟩,a)∧n'≤s.length:=by
 unfold gj
 simp only [Bool.not_false,if_true]
 have bad:∀(m:Nat) (l:List UInt8),m≤s.length→∃a,((bt ⟨s,(m:Int),true⟩ 64).bind fun mY=>(cm F mY).bind fun x=>(bt x.2 62).bind fun jS=>some (jS,aB.mk l x.1))=some ((⟨s,(m:Int),true⟩:aE),a):=by
  intro m l hm
  rw [jO,Option.bind_some,oZ hm (by omega),Option.bind_some]
  simp only
  rw [jO]
  exact ⟨_,rfl⟩
 unfold yZ
 have hr:=Qk h hF
 cases hrl:mF r with
 |none=>
  rw [hrl] at hr
  obtain ⟨n1,h1,h2⟩:=hr
  rw [h1,Option.bind_some]
  obtain ⟨b,h3⟩:=GW (F:=F) h2 (by omega)
  rw [h3,Option.bind_some]
  obtain ⟨a,h4⟩:=bad n1 b h2
  exact ⟨a,n1,h4,h2⟩
 |some r1=>
  rw [hrl] at hr
  obtain ⟨n1,h1,h2⟩:=hr
  rw [h1,Option.bind_some]
  have hl:=Qi h2 hF
  cases Fp:jW r1 with
  |none=>
   rw [Fp] at hl
   obtain ⟨b,n2,h3,h4⟩:=hl
   rw [h3,Option.bind_some]
   obtain ⟨a,h5⟩:=bad n2 b h4
   simp only [Fp]
   exact ⟨a,n2,h5,h4⟩
  |some x=>
   obtain ⟨l,r2⟩:=x
   rw [Fp] at hl
   obtain ⟨n2,h3,h4⟩:=hl
   rw [h3,Option.bind_some]
   simp only [Fp]
   by_cases CB:nx r2=64
   · obtain ⟨t,rfl⟩:=iM CB (by decide)
     rw [zz h4,Option.bind_some]
     simp only [if_pos CB,List.drop_succ_cons,List.drop_zero]
     have hd:=Eg h4.next hF
     cases Qj:gA t with
     |none=>
      rw [Qj] at hd
      obtain ⟨b,n3,h5,h6⟩:=hd
      rw [h5,Option.bind_some]
      simp only
      rw [jO]
      exact ⟨_,n3,rfl,h6⟩
     |some y=>
      obtain ⟨d,r3⟩:=y
      rw [Qj] at hd
      obtain ⟨n3,h5,h6⟩:=hd
      rw [h5,Option.bind_some]
      simp only
      by_cases wJ:nx r3=62
      · obtain ⟨u,rfl⟩:=iM wJ (by decide)
        rw [zz h6]
        simp only [if_pos wJ,List.drop_succ_cons,List.drop_zero]
        exact ⟨_,rfl,h6.next⟩
      · rw [CA h6 wJ]
        simp only [if_neg wJ]
        exact ⟨_,n3,rfl,h6.le⟩
   · rw [CA h4 CB,Option.bind_some]
     simp only [if_neg CB]
     rw [oZ h4.le (by omega),Option.bind_some]
     simp only
     rw [jO]
     exact ⟨_,n2,rfl,h4.le⟩
def esc (l:List UInt8):List UInt8:=l.flatMap fun c=>if c=34∨c=92 then [92,c] else [c]
def lP (a:aB):List UInt8:=if iz a.ak then 60::(a.ak++64::(a.domain++[62])) else 60::34::(esc a.ak++34::64::(a.domain++[62]))
def CC (s:List UInt8):Bool:=s !=[]&&decide (s.length≤64)&&s.all bp
def cX (a:aB):Bool:=decide (a.ak=[])&&decide (a.domain=[])
def dn (a:aB):Bool:=cX a||(CC a.ak&&fV a.domain&&decide ((lP a).length≤256))
theorem Na (l:List UInt8):(esc l).length≤2*l.length:=by
 induction l with
 |nil=>simp [esc]
 |cons c l ih=>
  simp only [esc,List.flatMap_cons,List.length_append,List.length_cons] at ih ⊢
  split<;>simp only [List.length_cons,List.length_nil]<;>omega
theorem Ql {s:List UInt8} {F:Nat} (hl:s.length≤1000000) (hF:s.length<F):jm F s=some (s.all bp):=by
 unfold jm
 have hh:=scan (s:=s) (body:=ec s) (mk:=fun i=>(false,(i:Int))) (p:=bp) (rr:=fun _=>false) (tt:=()) ?_ ?_ ?_ hF
 · cases ha:s.all bp with
   |true=>have:=hh.1 ha;rw [show ((0:Nat):Int)=0 from rfl] at this;rw [this];rfl
   |false=>obtain ⟨j,hj⟩:=hh.2 ha;rw [show ((0:Nat):Int)=0 from rfl] at hj;rw [hj];rfl
 · intro i x hx hp
   have hi:=(List.getElem?_eq_some_iff.1 hx).1
   simp only [ec]
   rw [if_pos (by simpa using hi),bz hx,Option.bind_some,KL,Option.bind_some,hp,wi (by omega)];rfl
 · intro i x hx hp
   have hi:=(List.getElem?_eq_some_iff.1 hx).1
   simp only [ec]
   rw [if_pos (by simpa using hi),bz hx,Option.bind_some,KL,Option.bind_some,hp];rfl
 · simp [ec]
theorem Yq {s:List UInt8} {F:Nat} (hF:s.length<F):oS F s=some (CC s):=by
 unfold oS ny CC
 by_cases h:s=[]
 · subst h;rfl
 · by_cases h2:s.length≤64
   · rw [if_pos (by simpa using h),if_pos (by simp;omega),Ql (by omega) hF]
     simp [h,h2]
   · rw [if_pos (by simpa using h),if_neg (by simp;omega)]
     simp [h2]
theorem Qm {a:aB} (hl:a.ak.length≤80000):∀(r:List UInt8) (i F:Nat) (b:List UInt8),a.ak.drop i=r→i+r.length=a.ak.length→b.length≤2*i+1→r.length<F→
 iter (ia a) F (b,(i:Int))=some (.inr (b++esc r)):=by
 intro r
 induction r with
 |nil=>
  intro i F b hd hi hb hF
  obtain ⟨G,rfl⟩:=bH hF
  rw [bu (t:=b) (by simp only [ia];rw [if_neg (by simp at hi ⊢;omega)])]
  simp [esc]
 |cons c r ih=>
  intro i F b hd hi hb hF
  obtain ⟨G,rfl⟩:=bH (show 0<F by omega)
  obtain ⟨h1,h2,h3⟩:=drop_cons hd
  simp only [List.length_cons] at hi hF
  have hst:ia a (b,(i:Int))=some (.cA (b++(if c=34∨c=92 then [92,c] else [c]),((i+1:Nat):Int))):=by
   simp only [ia,oI]
   rw [if_pos (by simpa using h1),bz h2]
   simp only [Option.bind_some]
   by_cases KN:c=34
   · subst KN
     simp only [decide_true,if_true,Option.bind_some,true_or]
     rw [fU (by simp;omega) (by omega),Option.bind_some,fU (by simp;omega) (by omega),Option.bind_some,wi (by omega)]
     simp
   · by_cases Qn:c=92
     · subst Qn
       rw [if_neg (by decide)]
       simp only [decide_true,Option.bind_some,if_true,or_true]
       rw [fU (by simp;omega) (by omega),Option.bind_some,fU (by simp;omega) (by omega),Option.bind_some,wi (by omega)]
       simp
     · rw [if_neg (by simpa using KN)]
       simp only [Option.bind_some]
       rw [if_neg (by simpa using Qn),fU (by simp;omega) (by omega),Option.bind_some,wi (by omega),if_neg (by simp [KN,Qn])]
  rw [bW hst,ih (i+1) G _ h3 (by omega) (by split<;>simp<;>omega) (by omega)]
  simp [esc]
theorem Nb {a:aB} {F:Nat} (hl:a.ak.length≤80000) (hd:a.domain.length≤80000) (hF:a.ak.length+1<F):oz F a=some (lP a):=by
 have he:=Na a.ak
 unfold oz lP
 rw [I2 (by omega) hF,Option.bind_some]
 cases iz a.ak with
 |true=>
  simp only [Bool.not_true,Bool.false_eq_true,if_false,if_true]
  rw [bD (by simp;omega),Option.bind_some,bD (by simp;omega),Option.bind_some,bD (by simp;omega),Option.bind_some,bD (by simp;omega),Option.bind_some]
  simp
 |false=>
  simp only [Bool.not_false,if_true,Bool.false_eq_true,if_false]
  rw [show (([34]:List UInt8),(0:Int))=(([34]:List UInt8),((0:Nat):Int)) from rfl,Qm hl a.ak 0 F [34] (by simp) (by simp) (by simp) (by omega)]
  simp only [Option.bind_some]
  rw [fU (by simp;omega) (by omega),Option.bind_some,bD (by simp;omega),Option.bind_some,bD (by simp;omega),Option.bind_some,bD (by simp;omega),Option.bind_some,bD (by simp;omega),Option.bind_some]
  simp
theorem zA {a:aB} {F:Nat} (hl:a.ak.length≤80000) (hd:a.domain.length≤80000) (hF:a.ak.length+a.domain.length+1<F):ku F a=some (dn a):=by
 unfold ku nH oy dn
 simp only [Option.bind_some]
 cases hn:cX a with
 |true=>rw [cX] at hn;rw [hn];rfl
 |false=>
  rw [cX] at hn
  rw [hn]
  simp only [Bool.false_eq_true,if_false,Bool.false_or]
  rw [Yq (by omega),Option.bind_some]
  cases hlb:CC a.ak with
  |false=>rfl
  |true=>
   simp only [if_true,Bool.true_and]
   rw [Yj (by omega) (by omega),Option.bind_some]
   cases hdb:fV a.domain with
   |false=>rfl
   |true=>
    simp only [if_true,Bool.true_and]
    rw [Nb hl hd (by omega)]
    simp
    omega
theorem aa1 (a:aB):oy a=some (cX a):=rfl
def iN (s:List UInt8):aB×List UInt8×Int:=
 match Bs s with
 |none=>(⟨[],[]⟩,[],3)
 |some (a,rest)=>if dn a then (a,rest,0) else (⟨[],[]⟩,[],5)
theorem At.zero {s:List UInt8} (h:s.length≤90000):At s 0 s:=⟨Nat.zero_le _,rfl,h⟩
theorem adN {s:List UInt8} {a:aB} {rest:List UInt8} {n:Nat} {t:List UInt8}:True:=trivial
end Go.Proofs.cQ
end
section
set_option maxRecDepth 100000
namespace Go.Proofs.cQ
open Go Go.Am Go.Proofs
theorem aa2:∀(k:Nat) (r b rest:List UInt8),r.length≤k→qL r=some (b,rest)→b.length+rest.length≤r.length:=by
 intro k
 induction k with
 |zero=>
  intro r b rest hk h
  have hr:r=[]:=List.length_eq_zero_iff.1 (by omega)
  subst hr;cases h
 |succ k ih=>
  intro r b rest hk h
  match r,hk,h with
  |[],hk,h=>cases h
  |c::r,hk,h=>
   rw [vO] at h
   simp only [List.length_cons] at hk ⊢
   split at h
   · injection h with h;injection h with h1 h2;subst h1 h2;simp
   · split at h
     · match r,hk,h with
       |[],hk,h=>cases h
       |d::r',hk,h=>
        simp only at h
        split at h
        · simp only [Option.map_eq_some_iff] at h
          obtain ⟨⟨b',rest'⟩,h1,h2⟩:=h
          injection h2 with h2 h3
          subst h2 h3
          have:=ih r' b' rest' (by simp at hk;omega) h1
          simp;omega
        · cases h
     · split at h
       · simp only [Option.map_eq_some_iff] at h
         obtain ⟨⟨b',rest'⟩,h1,h2⟩:=h
         injection h2 with h2 h3
         subst h2 h3
         have:=ih r b' rest' (by omega) h1
         simp;omega
       · cases h
theorem CD (q:UInt8→Bool) (r:List UInt8):(r.dropWhile q).length≤r.length:=(List.dropWhile_suffix q).length_le
theorem y8 {r b t:List UInt8} (h:jW r=some (b,t)):b.length≤r.length∧t.length≤r.length:=by
 unfold jW at h
 split at h
 · split at h
   · rename_i b' rest' hq
     have:=aa2 _ _ _ _ (Nat.le_refl _) hq
     have hd:(r.drop 1).length≤r.length:=by simp
     split at h
     · cases h
     · injection h with h;injection h with h1 h2;subst h1 h2;omega
   · cases h
 · split at h
   · injection h with h;injection h with h1 h2;subst h1 h2
     exact ⟨qv _ _,CD _ _⟩
   · cases h
theorem Iu {r b t:List UInt8} (h:gA r=some (b,t)):b.length≤r.length:=by
 unfold gA at h
 split at h
 · injection h with h;injection h with h1 _;subst h1;exact qv _ _
 · cases h
theorem UD:∀(k:Nat) (r r':List UInt8),Ae k r=some r'→r'.length≤r.length:=by
 intro k
 induction k with
 |zero=>intro r r' h;cases h
 |succ k ih=>
  intro r r' h
  simp only [Ae] at h
  split at h
  · split at h
    · cases h
    · rename_i b r2 hd
      have h1:=wI hd
      have h2:(r.drop 1).length≤r.length:=by simp
      have h3:(r2.drop 1).length≤r2.length:=by simp
      split at h
      · have:=ih _ _ h;omega
      · split at h
        · injection h with h;subst h;omega
        · cases h
  · cases h
theorem y9 {r r':List UInt8} (h:mF r=some r'):r'.length≤r.length:=by
 unfold mF at h
 split at h
 · exact UD _ _ _ h
 · injection h with h;subst h;exact Nat.le_refl _
theorem UE {r rest:List UInt8} {a:aB} (h:yZ r=some (a,rest)):a.ak.length≤r.length∧a.domain.length≤r.length:=by
 unfold yZ at h
 split at h
 · cases h
 · rename_i r1 hr
   have h1:=y9 hr
   split at h
   · cases h
   · rename_i l r2 hl
     have h2:=y8 hl
     split at h
     · split at h
       · cases h
       · rename_i d r3 hd
         have h3:=Iu hd
         have h4:(r2.drop 1).length≤r2.length:=by simp
         split at h
         · injection h with h;injection h with h5 _;subst h5;simp only;omega
         · cases h
     · cases h
theorem Yr {s:List UInt8} {F:Nat} (hs:s.length≤40000) (hF:2*s.length+10<F):rA F s=some (iN s):=by
 have hz:=At.zero (s:=s) (by omega)
 have Qo:dn ⟨[],[]⟩=true:=by simp [dn,cX]
 unfold rA iN Bs
 rw [show (aE.mk s 0 false)=⟨s,((0:Nat):Int),false⟩ from rfl]
 by_cases Iv:nx s=60
 · obtain ⟨r,rfl⟩:=iM Iv (by decide)
   rw [zz hz,Option.bind_some,if_pos Iv]
   simp only [List.drop_succ_cons,List.drop_zero]
   have h1:=hz.next
   by_cases wJ:nx r=62
   · obtain ⟨t,rfl⟩:=iM wJ (by decide)
     rw [yY h1,if_pos wJ]
     simp only [Option.bind_some,gj,Bool.not_true,Bool.false_eq_true,if_false]
     rw [zA (a:=⟨[],[]⟩) (by simp) (by simp) (by simp;omega),Qo]
     simp only [Option.bind_some,Bool.not_true,Bool.false_eq_true,if_false,mc]
     rw [gy h1.next.le]
     simp
   · rw [vN h1 wJ,if_neg wJ]
     simp only [Option.bind_some]
     have hp:=adM (F:=F) h1 (by omega)
     cases hb:yZ r with
     |none=>
      rw [hb] at hp
      obtain ⟨a,n',h2,h3⟩:=hp
      rw [h2]
      rfl
     |some x=>
      obtain ⟨a,rest⟩:=x
      rw [hb] at hp
      obtain ⟨n',h2,h3⟩:=hp
      obtain ⟨RP,qd⟩:=UE hb
      simp only [List.length_cons] at hs hF
      rw [h2]
      simp only [Option.bind_some,Bool.false_eq_true,if_false]
      rw [zA (by omega) (by omega) (by omega),Option.bind_some]
      cases hr:dn a with
      |false=>simp
      |true=>
       simp only [Bool.not_true,Bool.false_eq_true,if_false,mc,if_true]
       rw [gy h3.le,h3.dr]
       rfl
 · rw [CA hz Iv,Option.bind_some,if_neg Iv,wG (by decide)]
   simp only [Option.bind_some,gj,Bool.not_false,if_true]
   rw [M9 (by omega),Option.bind_some]
   obtain ⟨b,h3⟩:=GW (s:=s) (n:=0) (F:=F) (Nat.zero_le _) (by omega)
   rw [h3]
   simp only [Option.bind_some]
   rw [jO,Option.bind_some,oZ (Nat.zero_le _) (by omega)]
   simp only [Option.bind_some]
   rw [jO]
   simp
def afY (s:List UInt8):aB×Int:=if (iN s).2.2=0∧(iN s).2.1≠[] then (⟨[],[]⟩,3) else ((iN s).1,(iN s).2.2)
theorem CE {q:UInt8→Bool} {l:List UInt8} {x:UInt8} (hx:q x=false) (h:∀c∈l,q c=true) (t:List UInt8):(l++x::t).takeWhile q=l∧(l++x::t).dropWhile q=x::t:=by
 induction l with
 |nil=>simp [hx]
 |cons c l ih=>
  obtain ⟨h1,h2⟩:=ih fun y hy=>h y (by simp [hy])
  have:=h c (by simp)
  simp [this,h1,h2]
theorem GX (c:UInt8):eR c=true→jg c=true∧c≠62∧c≠64∧c≠34:=by
 have:=e7 (p:=fun c=> !eR c||(jg c&&c !=62&&c !=64&&c !=34)) (by kernel_rfl) c
 intro h
 rw [h] at this
 simp at this
 exact ⟨this.1.1.1,this.1.1.2,this.1.2,this.2⟩
theorem Qp {l:List UInt8} (h:iz l=true):∀c∈l,jg c=true:=by
 intro c hc
 rcases Br l c hc with rfl|⟨p,hp,kM⟩
 · decide
 · have:=List.all_eq_true.1 h p hp
   simp only [Bool.and_eq_true] at this
   exact (GX c (List.all_eq_true.1 this.2 c kM)).1
theorem Nc {l:List UInt8} (h:iz l=true):∃c t,l=c::t∧eR c=true:=by
 cases l with
 |nil=>simp [iz,aV] at h
 |cons c t=>
  refine ⟨c,t,rfl, ?_⟩
  unfold iz at h
  simp only [aV] at h
  by_cases hc:c=46
  · rw [if_pos hc] at h;simp at h
  · rw [if_neg hc] at h
    cases hs:aV t with
    |nil=>exact absurd hs (ic t)
    |cons x y=>rw [hs] at h;simp at h;exact h.1.1
theorem Ys (c:UInt8):(yW c=true→ct c=true)∧(eE c=true→ct c=true):=by
 have:=e7 (p:=fun c=>(!yW c||ct c)&&(!eE c||ct c)) (by kernel_rfl) c
 simp at this
 exact ⟨fun h=>by simpa [h] using this.1,fun h=>by simpa [h] using this.2⟩
theorem Qq {l:List UInt8} {x:UInt8} (h:l.getLast?=some x):l.dropLast++[x]=l:=by
 have hne:l≠[]:=by intro h0;subst h0;cases h
 have h2:=List.dropLast_concat_getLast hne
 rw [List.getLast?_eq_some_getLast hne] at h
 injection h with h
 rw [←h];exact h2
theorem Nd {d:List UInt8} (h:pT d=true):d=91::(inner d++[93]):=by
 simp only [pT,Bool.and_eq_true,decide_eq_true_eq,beq_iff_eq] at h
 cases d with
 |nil=>simp at h
 |cons c r=>
  obtain ⟨⟨h1,h2⟩,h3⟩:=h
  simp at h2
  subst h2
  cases r with
  |nil=>simp at h1
  |cons a t=>
   rw [List.getLast?_cons_cons] at h3
   simp only [inner,List.drop_succ_cons,List.drop_zero]
   rw [Qq h3]
theorem GY {d:List UInt8} (h:fV d=true):∀c∈d,ct c=true:=by
 intro c hc
 simp only [fV,Bool.and_eq_true] at h
 have hs:=h.1.2
 unfold dY at hs
 by_cases hi:pT d=true
 · rw [if_pos hi] at hs
   simp only [Bool.and_eq_true] at hs
   rw [Nd hi] at hc
   rcases List.mem_cons.1 hc with rfl|hc
   · decide
   · rcases List.mem_append.1 hc with hc|hc
     · rcases Br _ c hc with rfl|⟨p,hp,kM⟩
       · decide
       · exact (Ys c).2 (List.all_eq_true.1 (sx (List.all_eq_true.1 hs.2 p hp)).2.1 c kM)
     · simp at hc;subst hc;decide
 · rw [if_neg hi] at hs
   rcases Br _ c hc with rfl|⟨p,hp,kM⟩
   · decide
   · have:=List.all_eq_true.1 hs p hp
     simp only [gJ,Bool.and_eq_true] at this
     exact (Ys c).1 (List.all_eq_true.1 this.2 c kM)
theorem CF {d:List UInt8} (h:fV d=true) {x:UInt8} (hx:ct x=false) (t:List UInt8):gA (d++x::t)=some (d,x::t):=by
 obtain ⟨h1,h2⟩:=CE hx (GY h) t
 unfold gA
 rw [h1,h2,if_pos]
 simp only [fV,Bool.and_eq_true] at h
 exact h.1.2
theorem aa3 {l:List UInt8} (h:l.all bp=true) (rest:List UInt8):qL (esc l++34::rest)=some (l,rest):=by
 induction l with
 |nil=>simp [esc,vO]
 |cons c l ih=>
  simp only [List.all_cons,Bool.and_eq_true] at h
  have ih:=ih h.2
  simp only [esc,List.flatMap_cons,List.append_assoc] at ih ⊢
  by_cases hc:c=34∨c=92
  · rw [if_pos hc]
    simp only [List.cons_append,List.nil_append]
    rw [vO,if_neg (by decide),if_pos rfl]
    simp only [h.1,if_true,ih,Option.map_some]
  · rw [if_neg hc]
    simp only [List.cons_append,List.nil_append]
    rw [vO,if_neg fun h=>hc (.inl h),if_neg fun h=>hc (.inr h)]
    simp only [h.1,if_true,ih,Option.map_some]
theorem UH {a:aB} (hn:cX a=false) (h:dn a=true) (more:List UInt8):∃r,lP a=60::r∧nx r≠62∧nx r≠64∧(∀r',mF r'=some (r++more)→yZ r'=some (a,more)):=by
 simp only [dn,hn,Bool.false_or,Bool.and_eq_true] at h
 obtain ⟨⟨hl,hd⟩, -⟩:=h
 simp only [CC,Bool.and_eq_true] at hl
 unfold lP
 cases hp:iz a.ak with
 |true=>
  obtain ⟨c,t,ht,hc⟩:=Nc hp
  obtain ⟨-,wJ,CB,KN⟩:=GX c hc
  refine ⟨a.ak++64::(a.domain++[62]),by simp, ?_, ?_, ?_⟩
  · rw [ht];simpa [nx] using wJ
  · rw [ht];simpa [nx] using CB
  · intro r' hr'
    have e:(a.ak++64::(a.domain++[62]))++more=a.ak++64::(a.domain++62::more):=by simp
    obtain ⟨h1,h2⟩:=CE (q:=jg) (x:=64) (by decide) (Qp hp) (a.domain++62::more)
    unfold yZ
    rw [hr',e]
    have Yt:jW (a.ak++64::(a.domain++62::more))=some (a.ak,64::(a.domain++62::more)):=by
     unfold jW
     rw [if_neg (by rw [ht];simpa [nx] using KN),h1,h2,if_pos hp]
    simp only [Yt]
    rw [if_pos (show nx (64::(a.domain++62::more))=64 from rfl)]
    simp only [List.drop_succ_cons,List.drop_zero]
    rw [CF hd (by decide)]
    rfl
 |false=>
  refine ⟨34::(esc a.ak++34::64::(a.domain++[62])),by simp,by simp [nx],by simp [nx], ?_⟩
  intro r' hr'
  have e:(34::(esc a.ak++34::64::(a.domain++[62])))++more=34::(esc a.ak++34::64::(a.domain++62::more)):=by simp
  unfold yZ
  rw [hr',e]
  have Yt:jW (34::(esc a.ak++34::64::(a.domain++62::more)))=some (a.ak,64::(a.domain++62::more)):=by
   unfold jW
   rw [if_pos (show nx (34::(esc a.ak++34::64::(a.domain++62::more)))=34 from rfl)]
   simp only [List.drop_succ_cons,List.drop_zero]
   rw [aa3 hl.2]
   simp only
   rw [if_neg (by simpa using hl.1.1)]
  simp only [Yt]
  rw [if_pos (show nx (64::(a.domain++62::more))=64 from rfl)]
  simp only [List.drop_succ_cons,List.drop_zero]
  rw [CF hd (by decide)]
  rfl
theorem Qr {a:aB} (hn:cX a=false) (h:dn a=true) (more:List UInt8):iN (lP a++more)=(a,more,0):=by
 obtain ⟨r,hr,wJ,CB,hb⟩:=UH hn h more
 have afC:r≠[]:=by
  intro mO
  subst mO
  unfold lP at hr
  split at hr
  · injection hr with _ hr;simp at hr
  · injection hr with _ hr;simp at hr
 have hnx:nx (r++more)=nx r:=by
  cases r with
  |nil=>exact absurd rfl afC
  |cons=>rfl
 unfold iN Bs
 rw [hr,List.cons_append,if_pos (show nx (60::(r++more))=60 from rfl)]
 simp only [List.drop_succ_cons,List.drop_zero]
 rw [if_neg (by rw [hnx];exact wJ),hb (r++more) (by unfold mF;rw [if_neg (by rw [hnx];exact CB)])]
 simp only
 rw [if_pos h]
theorem I3 {a:aB} {F:Nat} (hl:a.ak.length≤40000) (hd:a.domain.length≤40000) (hF:a.ak.length+a.domain.length+1<F):iS F a=some (if cX a then [60,62] else if dn a then lP a else []):=by
 unfold iS
 rw [aa1,Option.bind_some]
 cases cX a with
 |true=>rfl
 |false=>
  simp only [Bool.false_eq_true,if_false]
  rw [zA (by omega) (by omega) hF,Option.bind_some]
  cases dn a with
  |false=>rfl
  |true=>
   simp only [Bool.not_true,Bool.false_eq_true,if_false,if_true]
   rw [Nb (by omega) (by omega) (by omega)]
   rfl
end Go.Proofs.cQ
end
section
namespace Go.Am
open Go
def uP {α A ρ:Type} (step:A→α→Except ρ A):A→List α→Except ρ A
 |a,[]=> .ok a
 |a,x::r=>match step a x with
  | .ok a'=>uP step a' r
  | .error e=> .error e
theorem lp {α ρ τ σ A:Type} {s:List α} {body:σ→Option (St ρ τ σ)} {mk:A→Nat→σ} {step:A→α→Except ρ A} {tt:A→τ} (I:A→Nat→Prop)
 (h1:∀a i x,s[i]? =some x→I a i→match step a x with
  | .ok a'=>body (mk a i)=some (.cA (mk a' (i+1)))∧I a' (i+1)
  | .error r=>body (mk a i)=some (.ret r))
 (h3:∀a,I a s.length→body (mk a s.length)=some (.dQ (tt a))) {F:Nat} {a:A} (hF:s.length<F) (h0:I a 0):
 iter body F (mk a 0)=some (match uP step a s with| .ok a'=> .inr (tt a')| .error r=> .inl r)∧∀a',uP step a s= .ok a'→I a' s.length:=by
 suffices h:∀(r:List α) (i F:Nat) (a:A),s.drop i=r→i+r.length=s.length→r.length<F→I a i→
  iter body F (mk a i)=some (match uP step a r with| .ok a'=> .inr (tt a')| .error r=> .inl r)∧∀a',uP step a r= .ok a'→I a' s.length from h s 0 F a rfl (by simp) hF h0
 intro r
 induction r with
 |nil=>
  intro i F a hd hl hF h0
  obtain ⟨G,rfl⟩:=bH hF
  have:i=s.length:=by simpa using hl
  subst this
  exact ⟨bu (h3 a h0),fun a' h=>by cases h;exact h0⟩
 |cons x r ih=>
  intro i F a hd hl hF h0
  obtain ⟨G,rfl⟩:=bH hF
  obtain ⟨hi,hx,hr⟩:=drop_cons hd
  simp only [List.length_cons] at hl hF
  have:=h1 a i x hx h0
  simp only [uP]
  cases hs:step a x with
  |ok a'=>
   rw [hs] at this
   rw [bW this.1]
   exact ih (i+1) G a' hr (by omega) (by omega) this.2
  |error e=>
   rw [hs] at this
   rw [c6 this]
   exact ⟨rfl,fun a' h=>by cases h⟩
theorem lpo {α ρ τ σ A:Type} {s:List α} {body:σ→Option (St ρ τ σ)} {mk:A→Nat→σ} {step:A→α→A} {tt:A→τ} (I:A→Nat→Prop)
 (h1:∀a i x,s[i]? =some x→I a i→body (mk a i)=some (.cA (mk (step a x) (i+1)))∧I (step a x) (i+1))
 (h3:∀a,I a s.length→body (mk a s.length)=some (.dQ (tt a))) {F:Nat} {a:A} (hF:s.length<F) (h0:I a 0):
 iter body F (mk a 0)=some (.inr (tt (s.foldl step a)))∧I (s.foldl step a) s.length:=by
 have key:∀(r:List α) (a:A),uP (ρ:=ρ) (fun a x=> .ok (step a x)) a r= .ok (r.foldl step a):=by
  intro r
  induction r with
  |nil=>intro a;rfl
  |cons x r ih=>intro a;simp only [uP,List.foldl_cons];exact ih _
 have:=lp (s:=s) (body:=body) (mk:=mk) (step:=fun a x=> .ok (step a x)) (tt:=tt) I (fun a i x hx h=>h1 a i x hx h) h3 hF h0
 rw [key] at this
 exact ⟨this.1,this.2 _ rfl⟩
theorem agJ {a b:Int} (h0:0≤a) (h1:a≤4000000000000000000) (h2:0≤b) (h3:b≤4000000000000000000):IntKind.wrap .i64 (a+b)=a+b:=wr (by omega) (by omega)
theorem Iw {n:Nat} (h:n≤1000000000):IntKind.wrap .i64 ((n:Int)+1)=((n+1:Nat):Int):=by rw [wr (by omega) (by omega)];simp
theorem Yu {α ρ τ σ:Type} {s:List α} {body:σ→Option (St ρ τ σ)} {mk:Nat→σ} {p:α→Bool} {rr:Nat→ρ} {tt:τ}
 (h1:∀i x,s[i]? =some x→p x=true→body (mk i)=some (.cA (mk (i+1)))) (h2:∀i x,s[i]? =some x→p x=false→body (mk i)=some (.ret (rr i)))
 (h3:body (mk s.length)=some (.dQ tt)) {F:Nat} (hF:s.length<F):
 (s.all p=true→iter body F (mk 0)=some (.inr tt))∧(s.all p=false→∃j,iter body F (mk 0)=some (.inl (rr j))):=by
 suffices h:∀(r:List α) (i F:Nat),s.drop i=r→i+r.length=s.length→r.length<F→
  (r.all p=true→iter body F (mk i)=some (.inr tt))∧(r.all p=false→∃j,iter body F (mk i)=some (.inl (rr j))) from h s 0 F rfl (by simp) hF
 intro r
 induction r with
 |nil=>
  intro i F hd hl hF
  obtain ⟨G,rfl⟩:=bH hF
  have:i=s.length:=by simpa using hl
  subst this
  exact ⟨fun _=>bu h3,fun h=>by simp at h⟩
 |cons x r ih=>
  intro i F hd hl hF
  obtain ⟨G,rfl⟩:=bH hF
  obtain ⟨hi,hx,hr⟩:=drop_cons hd
  simp only [List.length_cons] at hl hF
  cases hp:p x with
  |true=>
   rw [bW (h1 i x hx hp)]
   simp only [List.all_cons,hp,Bool.true_and]
   exact ih (i+1) G hr (by omega) (by omega)
  |false=>
   rw [c6 (h2 i x hx hp)]
   simp only [List.all_cons,hp,Bool.false_and]
   exact ⟨fun h=>by simp at h,fun _=>⟨i,rfl⟩⟩
end Go.Am
end
section
set_option maxRecDepth 100000
namespace Go.Proofs.cQ
open Go Go.Am Go.Proofs
def low (c:UInt8):UInt8:=if (decide (65≤c)&&decide (c≤90))=true then c+32 else c
def Bf (s:List UInt8) (i:Nat):List UInt8:=(s.map low).take i++s.drop i
theorem zB {s:List UInt8} {i:Nat} (hi:i≤s.length) (j:Nat):(Bf s i)[j]? =if j<i then (s.map low)[j]? else s[j]? :=by
 unfold Bf
 have hl:((s.map low).take i).length=i:=by simp;omega
 by_cases h:j<i
 · rw [if_pos h,List.getElem?_append_left (by omega),List.getElem?_take_of_lt h]
 · rw [if_neg h,List.getElem?_append_right (by omega),hl,List.getElem?_drop]
   congr 1;omega
theorem E8 {s:List UInt8} {i:Nat} (hi:i≤s.length):(Bf s i).length=s.length:=by
 unfold Bf;simp;omega
theorem KO {s:List UInt8} {i:Nat} (hi:i<s.length) {c:UInt8} (hc:s[i]? =some c):(Bf s i).set i (low c)=Bf s (i+1):=by
 apply List.ext_getElem?
 intro j
 rw [List.getElem?_set,zB (by omega),zB (by omega),E8 (by omega)]
 by_cases h:i=j
 · subst h
   rw [if_pos rfl,if_pos hi,if_pos (by omega),List.getElem?_map,hc];rfl
 · rw [if_neg h]
   by_cases h2:j<i
   · rw [if_pos h2,if_pos (by omega)]
   · rw [if_neg h2,if_neg (by omega)]
theorem Rw (s:List UInt8):Bf s s.length=s.map low:=by
 unfold Bf;rw [List.drop_length,List.append_nil,List.take_of_length_le (by simp)]
theorem aa4 (c:UInt8) (h:(decide (65≤c)&&decide (c≤90))=true):c ||| 32=low c:=by
 have:=e7 (p:=fun c=> !(decide (65≤c)&&decide (c≤90))||(c ||| 32==low c)) (by kernel_rfl) c
 rw [h] at this
 simpa using this
theorem zC {n i:Nat} (h:i<n):zE n (i:Int)=some i:=by unfold zE;rw [if_pos (by omega)];simp
theorem G0 {xs:List UInt8} {j:Nat} {c:UInt8} (h:j<xs.length):FN xs j c=some (xs.set j c):=by unfold FN;rw [if_pos h]
theorem Rx {s:List UInt8} {i:Nat} {c:UInt8} (hi:i<s.length) (hc:s[i]? =some c) (h:¬(decide (65≤c)&&decide (c≤90))=true):Bf s i=Bf s (i+1):=by
 rw [←KO hi hc]
 have hl:low c=c:=by unfold low;rw [if_neg h]
 rw [hl]
 apply List.ext_getElem?
 intro j
 rw [List.getElem?_set,zB (by omega),E8 (by omega)]
 by_cases h:i=j
 · subst h;rw [if_pos rfl,if_pos hi,if_neg (by omega),hc]
 · rw [if_neg h]
theorem adO {s:List UInt8} {F:Nat} (hs:s.length≤2100) (hF:s.length<F):gT F s=some (s.map low):=by
 have GS:∀(m i G:Nat),i+m=s.length→m<G→iter (gv s) G ((i:Int),Bf s i)=some (.inr (s.map low)):=by
  intro m
  induction m with
  |zero=>
   intro i G hi hG
   obtain ⟨G,rfl⟩:=bH hG
   have:i=s.length:=by omega
   subst this
   rw [←Rw s]
   exact bu (by simp only [gv];rw [if_neg (by simp)])
  |succ m ih=>
   intro i G hi hG
   obtain ⟨G,rfl⟩:=bH (show 0<G by omega)
   have hil:i<s.length:=by omega
   have hc:s[i]? =some s[i]:=List.getElem?_eq_getElem hil
   have hst:gv s ((i:Int),Bf s i)=some (.cA (((i+1:Nat):Int),Bf s (i+1))):=by
    simp only [gv]
    rw [if_pos (by simpa using hil),zC hil,Option.bind_some,zB (by omega),if_neg (by omega),hc,Option.bind_some,wi (by omega)]
    by_cases h:(decide (65≤s[i])&&decide (s[i]≤90))=true
    · rw [if_pos h,G0 (by rw [E8 (by omega)];exact hil),aa4 _ h,KO hil hc];rfl
    · rw [if_neg h,Rx hil hc h]
   rw [bW hst]
   exact ih (i+1) G (by omega) (by omega)
 unfold gT
 rw [show ((0:Int),s)=(((0:Nat):Int),Bf s 0) by simp [Bf],GS s.length 0 F (by omega) hF]
 simp only [Option.bind_some]
 rw [nW (j:=s.length) (by simp),List.take_of_length_le (by simp)]
 rfl
def cg (sep:List UInt8):List UInt8→Option (List UInt8×List UInt8)
 |[]=>none
 |c::r=>if sep.isPrefixOf (c::r) then some ([],(c::r).drop sep.length) else (cg sep r).map fun p=>(c::p.1,p.2)
theorem UI {sep:List UInt8} (hs:sep≠[]):∀s:List UInt8,(cg sep s=none∧Lib.index s sep= -1)∨∃i:Nat,Lib.index s sep=(i:Int)∧cg sep s=some (s.take i,s.drop (i+sep.length)):=by
 intro s
 induction s with
 |nil=>left;exact ⟨rfl,by unfold Lib.index;cases sep with|nil=>exact absurd rfl hs|cons=>rfl⟩
 |cons c r ih=>
  unfold Lib.index cg
  by_cases hp:sep.isPrefixOf (c::r)=true
  · right;exact ⟨0,by rw [if_pos hp];rfl,by rw [if_pos hp];simp⟩
  · rw [if_neg hp,if_neg hp]
    rcases ih with ⟨h1,h2⟩|⟨i,h1,h2⟩
    · left;rw [h1,h2];simp
    · right
      refine ⟨i+1, ?_, ?_⟩
      · rw [h1,if_neg (by simp<;>omega)];simp
      · rw [h2];simp [List.take_succ_cons,Nat.add_right_comm]
theorem aa5 {sep:List UInt8} (hs:sep≠[]) (s:List UInt8):Lib.cut s sep=match cg sep s with|some (a,b)=>(a,b,true)|none=>(s,[],false):=by
 unfold Lib.cut
 rcases UI hs s with ⟨h1,h2⟩|⟨i,h1,h2⟩
 · rw [h1,h2,if_neg (by omega)]
 · rw [h2,h1,if_pos (by omega)];simp
theorem aa6 {s sep:List UInt8} (hs:sep≠[]) (hl:s.length≤1000000000):strings_Cut s sep=some (match cg sep s with|some (a,b)=>(a,b,true)|none=>(s,[],false)):=by
 unfold strings_Cut
 rw [if_pos (by omega),aa5 hs]
end Go.Proofs.cQ
end
section
set_option maxRecDepth 100000
namespace Go.Proofs.cQ
open Go Go.Am Go.Proofs
def nb (c:UInt8):Bool:= !decide (c=32)
theorem UJ:∀t:List UInt8,cg [32] t=if t.dropWhile nb=[] then none else some (t.takeWhile nb,(t.dropWhile nb).drop 1):=by
 intro t
 induction t with
 |nil=>rfl
 |cons c r ih=>
  by_cases h:c=32
  · subst h;simp [cg,nb,List.dropWhile,List.takeWhile,List.isPrefixOf]
  · have h1:([32]:List UInt8).isPrefixOf (c::r)=false:=by simp [List.isPrefixOf,Ne.symm h]
    have h2:nb c=true:=by simp [nb,h]
    rw [cg,h1,ih]
    simp only [Bool.false_eq_true,if_false,List.dropWhile_cons,List.takeWhile_cons,h2,if_true]
    split<;>rfl
theorem Qs {t:List UInt8} (h:t.length≤1000000000):strings_Cut t [32]=some (t.takeWhile nb,(t.dropWhile nb).drop 1,decide (t.dropWhile nb≠[])):=by
 rw [aa6 (by simp) h,UJ]
 by_cases hd:t.dropWhile nb=[]
 · rw [if_pos hd]
   have:=List.takeWhile_append_dropWhile (p:=nb) (l:=t)
   rw [hd,List.append_nil] at this
   simp [hd,this]
 · rw [if_neg hd];simp [hd]
theorem I4 {t:List UInt8}:sub t ((t.takeWhile nb).length:Int) (t.length:Int)=some (t.dropWhile nb):=by
 have h:(t.takeWhile nb).length≤t.length:=(List.takeWhile_prefix nb).length_le
 rw [gy h]
 have:=List.takeWhile_append_dropWhile (p:=nb) (l:=t)
 conv=>lhs;rw [←this]
 rw [List.drop_append];simp
def wl:Nat→List UInt8
 |1=>[104,101,108,111]|2=>[101,104,108,111]|3=>[109,97,105,108]|4=>[114,99,112,116]|5=>[100,97,116,97]
 |6=>[114,115,101,116]|7=>[110,111,111,112]|8=>[113,117,105,116]|9=>[118,114,102,121]|_=>[]
def wu:Nat→List UInt8
 |1=>[72,69,76,79]|2=>[69,72,76,79]|3=>[77,65,73,76]|4=>[82,67,80,84]|5=>[68,65,84,65]
 |6=>[82,83,69,84]|7=>[78,79,79,80]|8=>[81,85,73,84]|9=>[86,82,70,89]|_=>[]
def za (s:List UInt8):Nat→Nat→Option Nat
 |0,_=>none
 |n+1,k=>if wl k=s then some k else za s n (k+1)
def dL (s:List UInt8):Nat:=(za s 9 1).getD 0
theorem Ry {s:List UInt8} {body:Int×Int→Option (St Int Unit (Int×Int))}
 (h:∀k:Nat,1≤k→k≤9→body (0,(k:Int))=some (if wl k=s then .ret (k:Int) else .cA (0,((k+1:Nat):Int)))) (he:body (0,10)=some (.dQ ())):
 ∀(n k G:Nat),k+n=10→1≤k→n<G→iter body G (0,(k:Int))=some (match za s n k with|some j=> .inl (j:Int)|none=> .inr ()):=by
 intro n
 induction n with
 |zero=>
  intro k G hk h1 hG
  obtain ⟨G,rfl⟩:=bH hG
  obtain rfl:k=10:=by omega
  exact bu he
 |succ n ih=>
  intro k G hk h1 hG
  obtain ⟨G,rfl⟩:=bH hG
  have hb:=h k h1 (by omega)
  by_cases hw:wl k=s
  · rw [if_pos hw] at hb
    rw [c6 hb];simp [za,hw]
  · rw [if_neg hw] at hb
    rw [bW hb,ih (k+1) G (by omega) (by omega) (by omega)]
    simp [za,hw]
theorem Yv {s:List UInt8}:∀(n k j:Nat),za s n k=some j→k≤j∧j<k+n:=by
 intro n
 induction n with
 |zero=>intro k j h;cases h
 |succ n ih=>
  intro k j h
  unfold za at h
  split at h
  · injection h with h;omega
  · have:=ih _ _ h;omega
theorem I5 (s:List UInt8):dL s≤9:=by
 unfold dL
 cases h:za s 9 1 with
 |none=>simp
 |some j=>have:=Yv _ _ _ h;simp;omega
theorem E9 {p:Nat→Prop} (h:p 1∧p 2∧p 3∧p 4∧p 5∧p 6∧p 7∧p 8∧p 9) {k:Nat} (h1:1≤k) (h2:k≤9):p k:=by
 obtain ⟨a1,a2,a3,a4,a5,a6,a7,a8,a9⟩:=h
 have:k=1∨k=2∨k=3∨k=4∨k=5∨k=6∨k=7∨k=8∨k=9:=by omega
 rcases this with rfl|rfl|rfl|rfl|rfl|rfl|rfl|rfl|rfl<;>assumption
abbrev Z:aC:=aC.mk 0 ([]:List UInt8) (aB.mk ([]:List UInt8) ([]:List UInt8)) 0
abbrev A0:aB:=aB.mk ([]:List UInt8) ([]:List UInt8)
def dN (w s:List UInt8):Bool:=decide (w.length≤s.length)&&decide ((s.take w.length).map low=w)
abbrev jh:List UInt8:=[32,102,114,111,109,58]
abbrev zX:List UInt8:=[32,116,111,58]
abbrev Bt:List UInt8:=[32,115,105,122,101,61]
def blk (c:UInt8):Bool:=c==32
def oB (w s:List UInt8):aB×List UInt8×Bool:=
 if dN w s then ((iN ((s.drop w.length).dropWhile blk)).1,(iN ((s.drop w.length).dropWhile blk)).2.1,decide ((iN ((s.drop w.length).dropWhile blk)).2.2=0)) else (A0,[],false)
def oC (s:List UInt8):Option Nat:=if dN Bt s=true∧s.drop 6≠[]∧(s.drop 6).length≤9∧(s.drop 6).all eE=true then some (vK (s.drop 6)) else none
def sy (s:List UInt8):aC×Int:=
 if (oB jh s).2.2=true then
  (if (oB jh s).2.1=[] then (aC.mk 3 [] (oB jh s).1 (-1),0)
  else if (oB jh s).2.1.head?=some 32 then (match oC (oB jh s).2.1 with|some n=>(aC.mk 3 [] (oB jh s).1 (n:Int),0)|none=>(Z,555))
  else (Z,501)) else (Z,501)
def wK (s:List UInt8):aC×Int:=
 if (oB zX s).2.2=true∧cX (oB zX s).1=false then
  (if (oB zX s).2.1=[] then (aC.mk 4 [] (oB zX s).1 0,0)
  else if (oB zX s).2.1.head?=some 32 then (Z,555) else (Z,501)) else (Z,501)
def cH (s:List UInt8):List UInt8:=(s.reverse.dropWhile blk).reverse
def gB (k:Nat) (rest:List UInt8):aC×Int:=
 if k=0 then (Z,500) else if k=3 then sy rest else if k=4 then wK rest else
 if k=1∨k=2 then (if fV (rest.drop 1)=true then (aC.mk k (rest.drop 1) A0 0,0) else (Z,501)) else
 if k=5∨k=6∨k=8 then (if rest=[] then (aC.mk k [] A0 0,0) else (Z,501)) else
 if k=9∧rest=[] then (Z,501) else (aC.mk k (rest.drop 1) A0 0,0)
def fy (s:List UInt8):aC×Int:=
 if s.all bp=true then gB (dL (((cH s).takeWhile nb).map low)) ((cH s).dropWhile nb) else (Z,500)
theorem UL (s:List UInt8):Lib.trimRightB s 32=cH s:=rfl
theorem G1 (s:List UInt8):(cH s).length≤s.length:=by
 unfold cH
 have:=(List.dropWhile_suffix (l:=s.reverse) blk).length_le
 simpa using this
theorem Eh (t:List UInt8):(t.dropWhile nb).length≤t.length:=(List.dropWhile_suffix nb).length_le
theorem Nf {s:List UInt8}:cH s=[]∨∃u c,cH s=u++[c]∧c≠32:=by
 unfold cH
 cases h:s.reverse.dropWhile blk with
 |nil=>left;rfl
 |cons c r=>
  right
  refine ⟨r.reverse,c,by simp, ?_⟩
  have:=List.head?_dropWhile_not blk s.reverse
  rw [h] at this
  simpa [blk] using this
theorem Ng {s:List UInt8} (h:(cH s).dropWhile nb≠[]):((cH s).dropWhile nb).drop 1≠[]:=by
 intro h1
 cases hd:(cH s).dropWhile nb with
 |nil=>exact h hd
 |cons c r=>
  rw [hd] at h1
  simp at h1
  subst h1
  have hc:c=32:=by
   have:=List.head?_dropWhile_not nb (cH s)
   rw [hd] at this
   simpa [nb] using this
  subst hc
  have Nh:=List.takeWhile_append_dropWhile (p:=nb) (l:=cH s)
  rw [hd] at Nh
  rcases Nf (s:=s) with h2|⟨u,c,h2,h3⟩
  · rw [h2] at Nh;simp at Nh
  · rw [h2] at Nh
    have:=congrArg List.getLast? Nh
    simp at this
    exact h3 this.symm
theorem Qt {t:List UInt8} (h:t.dropWhile nb≠[]):∃r,t.dropWhile nb=32::r:=by
 cases hd:t.dropWhile nb with
 |nil=>exact absurd hd h
 |cons c r=>
  have:=List.head?_dropWhile_not nb t
  rw [hd] at this
  have hc:c=32:=by simpa [nb] using this
  exact ⟨r,by rw [hc]⟩
theorem KP:∀(l:List UInt8) (a:Nat),l.all eE=true→Lib.decFrom a l=some (l.foldl (fun a c=>10*a+(c.toNat - 48)) a):=by
 intro l
 induction l with
 |nil=>intro a _;rfl
 |cons c r ih=>
  intro a h
  simp only [List.all_cons,Bool.and_eq_true] at h
  have hc:48≤c.toNat∧c.toNat≤57:=by
   have:=h.1
   unfold eE at this
   simp only [Bool.and_eq_true,decide_eq_true_eq] at this
   exact ⟨this.1,this.2⟩
  rw [Lib.decFrom,Lib.digitVal,if_pos hc]
  simp only
  rw [ih _ h.2]
  simp only [List.foldl_cons]
  rw [Nat.mul_comm a 10]
theorem UM {d:List UInt8} (h0:d≠[]) (h1:d.length≤18) (h2:d.all eE=true):Lib.atoiAll d= .ok (vK d:Int):=by
 rw [Lib.atoiAll_short d h1]
 cases d with
 |nil=>exact absurd rfl h0
 |cons c r=>
  have hd:=KP (c::r) 0 h2
  simp only [List.all_cons,Bool.and_eq_true] at h2
  have hc:48≤c.toNat:=by
   have:=h2.1
   unfold eE at this
   simp only [Bool.and_eq_true,decide_eq_true_eq] at this
   exact this.1
  have e1:(c==45)=false:=by
   rw [beq_eq_false_iff_ne];rintro rfl;revert hc;decide
  have e2:(c==43)=false:=by
   rw [beq_eq_false_iff_ne];rintro rfl;revert hc;decide
  unfold Lib.atoi Lib.decNat
  simp only [e1,e2,Bool.false_eq_true,if_false,List.isEmpty_cons,hd]
  rfl
theorem afD:∀(l:List UInt8) (a:Nat),l.all eE=true→l.foldl (fun a c=>10*a+(c.toNat - 48)) a<(a+1)*10 ^ l.length:=by
 intro l
 induction l with
 |nil=>intro a _;simp
 |cons c r ih=>
  intro a h
  simp only [List.all_cons,Bool.and_eq_true] at h
  have hc:c.toNat≤57:=by
   have:=h.1
   unfold eE at this
   simp only [Bool.and_eq_true,decide_eq_true_eq] at this
   exact this.2
  simp only [List.foldl_cons,List.length_cons]
  have:=ih (10*a+(c.toNat - 48)) h.2
  refine Nat.lt_of_lt_of_le this ?_
  have e:(a+1)*10 ^ (r.length+1)=(10*a+10)*10 ^ r.length:=by rw [Nat.pow_succ];rw [Nat.mul_comm (10 ^ r.length) 10, ←Nat.mul_assoc];congr 1;omega
  rw [e]
  exact Nat.mul_le_mul_right _ (by omega)
theorem KQ {q:UInt8→Bool}:∀ {l:List UInt8},l.dropWhile q=[]↔∀c∈l,q c=true:=by
 intro l
 induction l with
 |nil=>simp
 |cons c r ih=>
  by_cases h:q c=true
  · simp [List.dropWhile_cons,h,ih]
  · simp [List.dropWhile_cons,h]
theorem aa7 {q:UInt8→Bool}:∀ {l:List UInt8},∀c∈l.takeWhile q,q c=true:=by
 intro l
 induction l with
 |nil=>intro c h;cases h
 |cons d r ih=>
  intro c h
  by_cases hd:q d=true
  · simp only [List.takeWhile_cons,hd,if_true,List.mem_cons] at h
    rcases h with rfl|h
    · exact hd
    · exact ih c h
  · simp only [List.takeWhile_cons,hd] at h;cases h
theorem G2 {d:List UInt8}:Lib.trimS d mQ=[]↔d.all eE=true:=by
 have hD:∀c:UInt8,mQ.contains c=eE c:=by
  intro c
  have:=e7 (p:=fun c=>decide (mQ.contains c=eE c)) (by decide) c
  simpa using this
 have h1:Lib.trimS d mQ=((d.reverse.dropWhile eE).reverse).dropWhile eE:=by
  unfold Lib.trimS Lib.trimLeftS Lib.trimRightS
  have:(fun x=>mQ.contains x)=eE:=funext hD
  simp only [this]
 rw [h1]
 constructor
 · intro h
   rw [KQ] at h
   rw [List.all_eq_true]
   intro c hc
   have hsp:=List.takeWhile_append_dropWhile (p:=eE) (l:=d.reverse)
   have hm:c∈d.reverse:=by simpa using hc
   rw [←hsp,List.mem_append] at hm
   rcases hm with hm|hm
   · exact aa7 c hm
   · exact h c (by simpa using hm)
 · intro h
   have:d.reverse.dropWhile eE=[]:=by
    rw [KQ]
    intro c hc
    exact List.all_eq_true.1 h c (by simpa using hc)
   rw [this];rfl
end Go.Proofs.cQ
end
section
set_option maxRecDepth 100000
namespace Go.Proofs.cQ
open Go Go.Am Go.Proofs
theorem KR {s:List UInt8} {F:Nat} (hs:s.length≤2100) (hF:s.length<F):gT F s=some (s.map low):=adO hs hF
theorem Rz:∀k:Nat,1≤k→k≤9→kP (k:Int)=some (wu k):=fun k h1 h2=>
 E9 (p:=fun k=>kP (k:Int)=some (wu k)) (by decide) h1 h2
theorem RA:∀k:Nat,1≤k→k≤9→(wu k).map low=wl k∧(wu k).length=4:=fun k h1 h2=>
 E9 (p:=fun k=>(wu k).map low=wl k∧(wu k).length=4) (by decide) h1 h2
theorem aa8 {s:List UInt8} {F:Nat} (hF:20≤F):uW F s=some (dL s:Int):=by
 unfold uW dL
 have:=Ry (s:=s) (body:=kQ F s) ?_ ?_ 9 1 F rfl (by omega) (by omega)
 · rw [show ((0:Int),(1:Int))=(0,((1:Nat):Int)) from rfl,this]
   cases za s 9 1 with
   |none=>rfl
   |some j=>rfl
 · intro k h1 h2
   obtain ⟨e1,e2⟩:=RA k h1 h2
   simp only [kQ]
   rw [if_pos (by simp;omega),Rz k h1 h2]
   simp only [Option.bind_some]
   rw [KR (by omega) (by omega),e1]
   simp only [Option.bind_some]
   by_cases h:wl k=s
   · simp [h]
   · rw [if_neg (by simpa using h),if_neg h,Iw (by omega)]
 · simp only [kQ]
   rw [if_neg (by decide)]
theorem Yw {s:List UInt8}:gS s [32]=some (s.dropWhile blk):=by
 unfold gS;rw [if_pos rfl];rfl
theorem Yx {s:List UInt8} (h:s.length≤1000000000):gu s [32]=some (cH s):=by
 unfold gu;rw [if_pos ⟨rfl,h⟩,UL]
theorem Yy {w s:List UInt8} {F:Nat} (hw:w.length≤100) (hF:200<F):nI F s w=some (!dN w s):=by
 unfold nI dN
 by_cases h:s.length<w.length
 · rw [if_pos (by simp;omega)]
   simp [show ¬w.length≤s.length by omega]
 · rw [if_neg (by simp;omega),nW (by omega)]
   simp only [Option.bind_some]
   rw [KR (by simp;omega) (by simp;omega)]
   simp [show w.length≤s.length by omega]
theorem RB {w s:List UInt8} {F:Nat} (hw:w.length≤100) (hs:s.length≤3000) (hF:7000<F):qA F s w=some (oB w s):=by
 unfold qA oB
 rw [Yy hw (by omega)]
 simp only [Option.bind_some]
 cases h:dN w s with
 |false=>simp
 |true=>
  have hl:w.length≤s.length:=by
   unfold dN at h;simp only [Bool.and_eq_true,decide_eq_true_eq] at h;exact h.1
  simp only [Bool.not_true,Bool.false_eq_true,if_false,if_true]
  rw [gy hl]
  simp only [Option.bind_some]
  rw [Yw]
  simp only [Option.bind_some]
  have h1:=CD blk (s.drop w.length)
  have h2:(s.drop w.length).length≤s.length:=by simp
  rw [Yr (by omega) (by omega)]
  rfl
theorem aa9 {s:List UInt8} {F:Nat} (hs:s.length≤3000) (hF:7000<F):∃n,vg F s=some (n,(oC s).isSome)∧∀v,oC s=some v→n=(v:Int):=by
 unfold vg oC
 have h1:nJ F s=some (!dN Bt s):=by
  unfold nJ dN
  by_cases h:s.length<6
  · rw [if_pos (by simp;omega)]
    simp [show ¬6≤s.length by omega]
  · rw [if_neg (by simp;omega),show (6:Int)=((6:Nat):Int) from rfl,nW (by omega)]
    simp only [Option.bind_some]
    rw [KR (by simp;omega) (by simp;omega)]
    simp [show 6≤s.length by omega]
 rw [h1]
 simp only [Option.bind_some]
 cases h:dN Bt s with
 |false=>exact ⟨0,by simp,by simp⟩
 |true=>
  have hl:6≤s.length:=by
   unfold dN at h;simp only [Bool.and_eq_true,decide_eq_true_eq] at h;simpa using h.1
  simp only [Bool.not_true,Bool.false_eq_true,if_false]
  rw [show (6:Int)=((6:Nat):Int) from rfl,gy hl]
  simp only [Option.bind_some]
  generalize hd:s.drop 6=d
  have Qj:d.length≤3000:=by rw [←hd];simp;omega
  unfold strconv_Atoi
  rw [if_pos (by omega)]
  simp only [Option.bind_some]
  unfold qo
  by_cases hg:d≠[]∧d.length≤9∧d.all eE=true
  · obtain ⟨g1,g2,g3⟩:=hg
    rw [UM g1 (by omega) g3]
    simp only [Bool.not_false,if_true]
    unfold jK
    rw [if_pos (by simp;omega),if_pos ⟨rfl,by omega⟩]
    simp only [Option.bind_some]
    rw [G2.2 g3,if_pos ⟨trivial,g1,g2,g3⟩]
    exact ⟨_,rfl,fun v hv=>by injection hv with hv;rw [hv]⟩
  · have hn:¬(True∧d≠[]∧d.length≤9∧d.all eE=true):=fun h=>hg h.2
    simp only [if_neg hn]
    have key:∀n:Int,∃m:Int,((if decide ((d.length:Int)≤9)=true then (jK d ([48,49,50,51,52,53,54,55,56,57]:List UInt8)).bind fun r9=>some (n,(decide (r9=([]:List UInt8)))) else some (n,false)):Option (Int×Bool))=
     some (m,decide (d=[])&&decide (d.length≤9)):=by
     intro n
     by_cases h9:d.length≤9
     · rw [if_pos (by simp;omega)]
       unfold jK
       rw [if_pos ⟨rfl,by omega⟩]
       simp only [Option.bind_some]
       refine ⟨n, ?_⟩
       congr 2
       rw [Bool.eq_iff_iff]
       simp only [decide_eq_true_eq,Bool.and_eq_true]
       rw [G2]
       constructor
       · intro h3
         refine ⟨?_,h9⟩
         rcases Classical.em (d=[]) with h0|h0
         · exact h0
         · exact absurd ⟨h0,h9,h3⟩ hg
       · rintro ⟨rfl, -⟩;rfl
     · rw [if_neg (by simp;omega)]
       exact ⟨n,by simp [h9]⟩
    rcases Ak:Lib.atoiAll d with v|_|_
    · simp only [Bool.not_false,if_true]
      obtain ⟨m,hm⟩:=key v
      rw [hm]
      have hd0:d≠[]:=by
       rintro rfl;rw [show Lib.atoiAll []=Go.Lib.NumEnd.syntax from rfl] at Ak;cases Ak
      exact ⟨m,by simp [hd0],fun v h=>by cases h⟩
    · simp only [Bool.not_true,Bool.false_eq_true,if_false]
      exact ⟨_,rfl,fun v h=>by cases h⟩
    · simp only [Bool.not_true,Bool.false_eq_true,if_false]
      exact ⟨_,rfl,fun v h=>by cases h⟩
theorem G3 {w s:List UInt8}:(oB w s).2.1.length≤s.length:=by
 unfold oB
 split
 · have h1:=CD blk (s.drop w.length)
   have h2:(s.drop w.length).length≤s.length:=by simp
   have:((iN ((s.drop w.length).dropWhile blk)).2.1).length≤((s.drop w.length).dropWhile blk).length:=by
    generalize (s.drop w.length).dropWhile blk=t
    unfold iN
    cases h:Bs t with
    |none=>simp
    |some p=>
     obtain ⟨a,rest⟩:=p
     have:rest.length≤t.length:=by
      unfold Bs at h
      split at h
      · split at h
        · injection h with h;injection h with _ h;rw [←h];simp
        · have hb:=h
          unfold yZ at hb
          cases hr:mF (t.drop 1) with
          |none=>rw [hr] at hb;cases hb
          |some r1=>
           rw [hr] at hb
           have l1:=y9 hr
           simp only at hb
           cases hl:jW r1 with
           |none=>rw [hl] at hb;cases hb
           |some p=>
            obtain ⟨l,r2⟩:=p
            rw [hl] at hb
            have l2:=(y8 hl).2
            simp only at hb
            split at hb
            · cases hd:gA (r2.drop 1) with
              |none=>rw [hd] at hb;cases hb
              |some p=>
               obtain ⟨d,r3⟩:=p
               rw [hd] at hb
               have l3:=wI hd
               simp only at hb
               split at hb
               · injection hb with hb;injection hb with _ hb
                 rw [←hb];simp at l1 l3 ⊢;omega
               · cases hb
            · cases hb
      · cases h
     simp only
     split
     · exact this
     · simp
   show (iN _).2.1.length≤s.length
   omega
 · simp
theorem abb {s:List UInt8} {F:Nat} (hs:s.length≤3000) (hF:7000<F):vh F s=some (sy s):=by
 unfold vh sy
 rw [RB (by decide) hs hF]
 simp only [Option.bind_some]
 have hl:=G3 (w:=jh) (s:=s)
 generalize oB jh s=p at hl ⊢
 obtain ⟨a,r,ok⟩:=p
 simp only at hl ⊢
 unfold qp qq
 by_cases h0:r=[]
 · subst h0
   cases ok<;>simp
 · obtain ⟨n,h1,h2⟩:=aa9 (s:=r) (F:=F) (by omega) hF
   rw [if_pos (by simpa using h0),h1]
   simp only [Option.bind_some]
   cases ok with
   |false=>simp
   |true=>
    cases r with
    |nil=>exact absurd rfl h0
    |cons c t=>
     rw [show idx (c::t) 0=some c by simp [idx]]
     by_cases hc:c=32
     · subst hc
       cases hz:oC (32::t) with
       |none=>simp
       |some v=>simp [h2 v hz]
     · simp [hc]
theorem abd {s:List UInt8} {F:Nat} (hs:s.length≤3000) (hF:7000<F):vj F s=some (wK s):=by
 unfold vj wK
 rw [RB (by decide) hs hF]
 simp only [Option.bind_some]
 generalize oB zX s=p
 obtain ⟨a,r,ok⟩:=p
 simp only
 unfold qs
 cases ok with
 |false=>simp
 |true=>
  cases hn:cX a with
  |true=>
   have hn2:=hn
   unfold cX at hn2
   rw [hn2];simp
  |false=>
   have hn2:=hn
   unfold cX at hn2
   rw [hn2]
   cases r with
   |nil=>simp
   |cons c t=>
    rw [show idx (c::t) 0=some c by simp [idx]]
    by_cases hc:c=32
    · simp [hc]
    · simp [hc]
theorem KS (x:UInt8):(if decide (x<32)=true then some true else some (decide (126<x)))=some (!bp x):=by
 have:=e7 (p:=fun x=>decide ((if decide (x<32)=true then some true else some (decide (126<x)))=some (!bp x))) (by kernel_rfl) x
 simpa using this
theorem abe {s:List UInt8} {F:Nat} (hs:s.length≤100000) (hF:s.length<F):iter (gl s) F (0,Z)=some (if s.all bp=true then .inr Z else .inl (Z,500)):=by
 have hh:=Yu (s:=s) (body:=gl s) (mk:=fun i=>((i:Int),Z)) (p:=bp) (rr:=fun _=>(Z,500)) (tt:=Z) ?_ ?_ ?_ hF
 · cases h:s.all bp with
   |true=>have:=hh.1 h;simpa using this
   |false=>obtain ⟨_,this⟩:=hh.2 h;simpa using this
 · intro i c hc hp
   have hi:=(List.getElem?_eq_some_iff.1 hc).1
   simp only [gl,me]
   rw [if_pos (by simpa using hi),bz hc]
   simp only [Option.bind_some]
   rw [KS c]
   simp only [Option.bind_some,hp,Bool.not_true,Bool.false_eq_true,if_false]
   rw [Iw (by omega)]
 · intro i c hc hp
   have hi:=(List.getElem?_eq_some_iff.1 hc).1
   simp only [gl,me]
   rw [if_pos (by simpa using hi),bz hc]
   simp only [Option.bind_some]
   rw [KS c]
   simp [hp]
 · simp only [gl]
   rw [if_neg (by simp)]
theorem jG {s:List UInt8} {F:Nat} (hs:s.length≤2050) (hF:7000<F):cV F s=some (fy s):=by
 unfold cV fy
 rw [abe (by omega) (by omega)]
 simp only [Option.bind_some]
 cases hv:s.all bp with
 |false=>simp
 |true=>
  simp only [if_true]
  have ht:=G1 s
  rw [Yx (by omega)]
  simp only [Option.bind_some]
  rw [Qs (by omega)]
  simp only [Option.bind_some]
  have hw:((cH s).takeWhile nb).length≤(cH s).length:=(List.takeWhile_prefix nb).length_le
  have hd:=Eh (cH s)
  rw [KR (by omega) (by omega)]
  simp only [Option.bind_some]
  rw [aa8 (by omega)]
  simp only [Option.bind_some]
  rw [I4]
  simp only [Option.bind_some]
  have hk:=I5 (((cH s).takeWhile nb).map low)
  have hne:=Ng (s:=s)
  generalize dL (((cH s).takeWhile nb).map low)=k at hk ⊢
  generalize hr:(cH s).dropWhile nb=r at hd hne ⊢
  unfold gB
  by_cases h0:k=0
  · subst h0;simp
  · rw [if_neg (by simp;omega),if_neg h0]
    by_cases h3:k=3
    · subst h3
      rw [if_pos (by simp),if_pos rfl,abb (by omega) hF];rfl
    · rw [if_neg (by simp;omega),if_neg h3]
      by_cases h4:k=4
      · subst h4
        rw [if_pos (by simp),if_pos rfl,abd (by omega) hF];rfl
      · rw [if_neg (by simp;omega),if_neg h4]
        have Yz:jb F (r.drop 1)=some (fV (r.drop 1)):=Yj (by simp;omega) (by simp;omega)
        have UN:r.drop 1=[]↔r=[]:=⟨fun h=>Classical.byContradiction fun h2=>hne h2 h,fun h=>by rw [h];rfl⟩
        unfold oJ oL oK
        clear hne hd
        generalize r.drop 1=q at Yz UN ⊢
        have hk9:k=1∨k=2∨k=5∨k=6∨k=7∨k=8∨k=9:=by omega
        rcases hk9 with rfl|rfl|rfl|rfl|rfl|rfl|rfl
        · simp [Yz];cases fV q<;>simp
        · simp [Yz];cases fV q<;>simp
        · by_cases mO:r=[]<;>simp [mO,UN]
        · by_cases mO:r=[]<;>simp [mO,UN]
        · simp
        · by_cases mO:r=[]<;>simp [mO,UN]
        · by_cases mO:r=[]<;>simp [mO,UN]
end Go.Proofs.cQ
end
section
set_option maxRecDepth 100000
namespace Go.Proofs.cQ
open Go Go.Am Go.Proofs
open Nat renaming reduceEqDiff→nA,reduceLT→nB,reduceLeDiff→nC,reduceAdd→nD,reduceSub→nE,reduceMul→nF,reduceBEq→nG
set_option maxHeartbeats 2000000
abbrev o5:az:=(.rg [(av 21 1),(aj 22 (.lens (.t 21))),(aj 23 (.bin .gtr (.t 22) (.c (.int .i64 100)))),(av 24 23),(ay 25 (.mv (.t 2)) 24 false),(ay 26 (.lens (.t 25)) 24 false),(ay 27 (.bin .gtr (.t 26) (.c (.int .i64 300))) 24 false),(aj 28 (.pick (.t 24) (.c (.bool true)) (.t 27))),(av 29 28),(ay 30 (.mv (.t 2)) 29 false),(ay 31 (.lens (.t 30)) 29 false),(ay 32 (.bin .eql (.t 31) (.c (.int .i64 0))) 29 false),(aj 33 (.pick (.t 29) (.c (.bool true)) (.t 32)))])
abbrev og:az:=(.seq (.seq (.rg [(av 34 8),(av 35 2),(aj 36 (.lens (.t 35))),(aj 37 (.bin .lss (.t 34) (.t 36)))]) (.cond (.t 37) .skip (.exit 0))) (.seq (.blk 1 (.rg [(av 40 7),(av 41 2),(av 42 8),(aj 43 (.ixs (.t 41) (.t 42))),(aj 44 (.bin .rem (.t 43) (.c (b8 94)))),(aj 45 (.bin .add (.c (b8 33)) (.t 44))),(aj 46 (.pH 1 [(.t 45)])),(aj 47 (.iT .bs (.t 46))),(aj 48 (.bin .add (.t 40) (.t 47))),(aO 7 48)])) (.rg [(av 38 8),(aj 39 (.bin .add (.t 38) (.c (.int .i64 1)))),(aO 8 39)])))
abbrev o6:az:=(.cond (.t 53) (.rg [(av 54 10),(aj 55 (.bin .sub (.c (.int .i64 0)) (.t 54))),(aO 10 55)]) .skip)
abbrev pg:az:=(.rg [(av 75 12),(aj 76 (.bin .neq (.t 75) (.c (.int .i64 501)))),(av 77 76),(ay 78 (.mv (.t 14)) 77 false),(ay 79 (.bin .neq (.t 78) (.c (.int .i64 0))) 77 false),(aj 80 (.pick (.t 77) (.c (.bool true)) (.t 79)))])
abbrev oh:az:=(.seq (.seq (.rg [(av 81 16),(av 82 1),(aj 83 (.lens (.t 82))),(aj 84 (.bin .lss (.t 81) (.t 83)))]) (.cond (.t 84) .skip (.exit 2))) (.seq (.blk 3 (.rg [(av 87 15),(av 88 1),(av 89 16),(aj 90 (.ixs (.t 88) (.t 89))),(aj 91 (.bin .rem (.t 90) (.c (b8 26)))),(aj 92 (.bin .add (.c (b8 65)) (.t 91))),(aj 93 (.pH 1 [(.t 92)])),(aj 94 (.iT .bs (.t 93))),(aj 95 (.bin .add (.t 87) (.t 94))),(aO 15 95)])) (.rg [(av 85 16),(aj 86 (.bin .add (.t 85) (.c (.int .i64 1)))),(aO 16 86)])))
abbrev CG:az:=(.seq (.rg [(aj 6 (.aT (.c (.bool false))))]) (.seq (.seq (.rg [(aj 19 (.call (.c (.fn 7 [])) [])),(aj 20 (.un .not (.t 19)))]) (.cond (.t 20) (.seq (.rg [(aj 6 (.aT (.c (.bool false))))]) .ret) .skip)) (.seq (.seq (.sem (erase o5)) (.cond (.t 33) (.seq (.rg [(aj 6 (.aT (.c (.bool true))))]) .ret) .skip)) (.seq (.rg [(aj 7 (.aT (.c (.str [120]))))]) (.seq (.seq (.rg [(aj 8 (.aT (.c (.int .i64 0))))]) (.blk 0 (.loop (erase og)))) (.seq (.rg [(aj 49 (.pH 1 [(.c (.str [68,65,84,65])),(.c (.str [82,83,69,84])),(.c (.str [81,85,73,84]))])),(aO 9 49)]) (.seq (.rg [(av 50 0),(aj 51 (.bin .rem (.t 50) (.c (.int .i64 3)))),(aO 10 51)]) (.seq (.seq (.rg [(av 52 10),(aj 53 (.bin .lss (.t 52) (.c (.int .i64 0))))]) (.sem (erase o6))) (.seq (.rg [(av 57 9),(av 58 10),(aj 59 (.pI 1 (.t 57) (.t 58))),(aj 60 (.ld (.t 59) none)),(aj 61 (.bin .add (.t 60) (.c (.str [32])))),(av 62 7),(aj 63 (.bin .add (.t 61) (.t 62))),(aj 64 (.call (.c (.fn 8 [])) [(.t 63)])),(av 56 64),(aj 65 (.ext (.t 56) 0)),(aj 66 (.ext (.t 56) 1)),(aj 11 (.alloc [(.int .i64 0),(.str []),(.str []),(.str []),(.int .i64 0)])),(cZ (.st (.t 11) (.t 65) 5)),(aO 12 66)]) (.seq (.rg [(av 68 9),(av 69 10),(aj 70 (.pI 1 (.t 68) (.t 69))),(aj 71 (.ld (.t 70) none)),(aj 72 (.call (.c (.fn 8 [])) [(.t 71)])),(av 67 72),(aj 73 (.ext (.t 67) 0)),(aj 74 (.ext (.t 67) 1)),(aj 13 (.alloc [(.int .i64 0),(.str []),(.str []),(.str []),(.int .i64 0)])),(cZ (.st (.t 13) (.t 73) 5)),(aO 14 74)]) (.seq (.seq (.sem (erase pg)) (.cond (.t 80) (.seq (.rg [(aj 6 (.aT (.c (.bool false))))]) .ret) .skip)) (.seq (.rg [(aj 15 (.aT (.c (.str [90]))))]) (.seq (.seq (.rg [(aj 16 (.aT (.c (.int .i64 0))))]) (.blk 2 (.loop (erase oh)))) (.seq (.rg [(av 97 15),(aj 98 (.bin .add (.t 97) (.c (.str [32])))),(av 99 7),(aj 100 (.bin .add (.t 98) (.t 99))),(aj 101 (.call (.c (.fn 8 [])) [(.t 100)])),(av 96 101),(aj 102 (.ext (.t 96) 0)),(aj 103 (.ext (.t 96) 1)),(aj 17 (.alloc [(.int .i64 0),(.str []),(.str []),(.str []),(.int .i64 0)])),(cZ (.st (.t 17) (.t 102) 5)),(aO 18 103)]) (.seq (.rg [(av 104 18),(aj 105 (.bin .eql (.t 104) (.c (.int .i64 500)))),(aO 6 105)]) .ret)))))))))))))))
theorem CH:bL Tryz.prog 4 106 [(.tmp 6)] (erase CG):=⟨Tryz.f4,_,rfl,by decide,rfl,by kernel_rfl,rfl,rfl⟩
abbrev fF:List Nat:=[0,1,2,6,7,8,9,10,12,14,15,16,18,20,33,37,53,80,84]
def ef (iO:List UInt8):((List UInt8)×Int)→Option (St Bool (List UInt8) ((List UInt8)×Int))
 |(zb,i6)=>
  (if (decide (i6<(iO.length:Int))) then
   (idx iO i6).bind fun x7=>
   (cat zb ([(33+(x7 % 94))]:List UInt8)).bind fun x8=>some (.cA (x8,(IntKind.wrap .i64 (i6+1))))
  else
   some (.dQ zb))
def gC (dZ:Int):Option (Int):=
 (if (decide ((Int.tmod dZ 3)<0)) then
  some (IntKind.wrap .i64 (0 - (Int.tmod dZ 3)))
 else
  some (Int.tmod dZ 3))
def eg (dG:List UInt8):((List UInt8)×Int)→Option (St Bool (List UInt8) ((List UInt8)×Int))
 |(Ni,i21)=>
  (if (decide (i21<(dG.length:Int))) then
   (idx dG i21).bind fun KJ=>
   (cat Ni ([(65+(KJ % 26))]:List UInt8)).bind fun F4=>some (.cA (F4,(IntKind.wrap .i64 (i21+1))))
  else
   some (.dQ Ni))
def mG (F:Nat) (dZ:Int) (dG:List UInt8) (iO:List UInt8):Option (Bool):=
 (jd F).bind fun r4=>
 (if (!r4) then
  some false
 else
  (if (((decide (100<(dG.length:Int)))||(decide (300<(iO.length:Int))))||(decide ((iO.length:Int)=0))) then
   some true
  else
   ((iter (ef iO) F (([120]:List UInt8),0)).bind fun o31=>
   match o31 with
   | .inr gb=>
     (gC dZ).bind fun RC=>
     (idx ([([68,65,84,65]:List UInt8),([82,83,69,84]:List UInt8),([81,85,73,84]:List UInt8)]:List (List UInt8)) RC).bind fun iu=>
     (cat iu ([32]:List UInt8)).bind fun Dr=>
     (cat Dr gb).bind fun n9=>
     (cV F n9).bind fun (r16,zL)=>
     (cV F iu).bind fun (cS,lO)=>
     (if ((!decide (zL=501))||(!decide (lO=0))) then
      some false
     else
      ((iter (eg dG) F (([90]:List UInt8),0)).bind fun o30=>
      match o30 with
      | .inr w25=>
        (cat w25 ([32]:List UInt8)).bind fun Ui=>
        (cat Ui gb).bind fun YA=>
        (cV F YA).bind fun (r28,gH)=>some (decide (gH=500))
      | .inl _=>none))
   | .inl _=>none)))
theorem xO {dZ:Int} {dG:List UInt8} {iO:List UInt8} {H0 H:AH} (hfr:Fr H0 H0.length [] H) {K:Exit→Env→AH→Prop}
 (kn:∀H':AH,Fr H0 H0.length [] H'→K .normal [(0,(.int .i64 dZ)),(1,(.str dG)),(2,(.str iO)),(33,(.bool (((decide (100<(dG.length:Int)))||(decide (300<(iO.length:Int))))||(decide ((iO.length:Int)=0)))))] H'):
 AX Tryz.prog fF 106 H0.length (erase o5) K [(0,(.int .i64 dZ)),(1,(.str dG)),(2,(.str iO))] H:=by
 refine bY fun K' hK=> ?_
 have hle:=hfr.le
 refine cj ?_
 refine gG (fun hy3=> ?_) fun hy3=> ?_
 · refine ax hy3 ?_
   exact hK _ _ _ _ _ (dj hy3) aq (kn _ hfr)
 · refine ax hy3 ?_
   refine gG (fun hy4=> ?_) fun hy4=> ?_
   · refine ax hy4 ?_
     exact hK _ _ _ _ _ (dj (aA hy3 hy4)) aq (kn _ hfr)
   · refine ax hy4 ?_
     exact hK _ _ _ _ _ (dj (aA hy3 hy4)) aq (kn _ hfr)
theorem xP {F:Nat} {i6:Int} {iO:List UInt8} {zb:List UInt8} {dZ:Int} {dG:List UInt8} {H0 H:AH} (hfr:Fr H0 H0.length [] H) {K:Exit→Env→AH→Prop} {o:(Bool)⊕((List UInt8))}
 (h:iter (ef iO) F (zb,i6)=some o)
 (dz:∀o':(List UInt8),o= .inr o'→∀H':AH,Fr H0 H0.length [] H'→K (.exit 0) [(0,(.int .i64 dZ)),(1,(.str dG)),(7,(.str o'))] H'):
 AX Tryz.prog fF 106 H0.length (.loop (erase og)) K [(0,(.int .i64 dZ)),(1,(.str dG)),(2,(.str iO)),(7,(.str zb)),(8,(.int .i64 i6))] H:=by
 refine iE (fun s e H1=>match s with|(zb,i6)=>e=[(0,(.int .i64 dZ)),(1,(.str dG)),(2,(.str iO)),(7,(.str zb)),(8,(.int .i64 i6))]∧Fr H0 H0.length [] H1) h ⟨rfl,hfr⟩ ?_
 rintro K' ⟨zb,i6⟩ st e H ⟨rfl,hfr⟩ h hN hB hR hX
 have hle:=hfr.le
 rw [ef.eq_1] at h
 refine cj ?_
 refine bk h (fun ck h=> ?_) fun ck h=> ?_
 · obtain ⟨x7,cF,h⟩:=au h
   obtain ⟨x8,cv,h⟩:=au h
   refine ax (aA cF (aA (show ((94:UInt8)=0)=False from by decide) cv)) ?_
   obtain rfl:=aD h
   exact hN _ rfl _ _ _ _ aK aq ⟨rfl,hfr⟩
 · refine cj ?_
   obtain rfl:=aD h
   exact hX _ _ _ _ _ dH aK aq (dz _ (hB _ rfl) _ hfr)
theorem xQ {dZ:Int} {dG:List UInt8} {gb:List UInt8} {H0 H:AH} (hfr:Fr H0 H0.length [] H) {K:Exit→Env→AH→Prop} {abU:Int}
 (h:gC dZ=some abU)
 (kn:∀H':AH,Fr H0 H0.length [] H'→K .normal [(1,(.str dG)),(7,(.str gb)),(9,(.sl .ex 1 [(.str ([68,65,84,65]:List UInt8)),(.str ([82,83,69,84]:List UInt8)),(.str ([81,85,73,84]:List UInt8))])),(10,(.int .i64 abU))] H'):
 AX Tryz.prog fF 106 H0.length (erase o6) K [(1,(.str dG)),(7,(.str gb)),(9,(.sl .ex 1 [(.str ([68,65,84,65]:List UInt8)),(.str ([82,83,69,84]:List UInt8)),(.str ([81,85,73,84]:List UInt8))])),(10,(.int .i64 (Int.tmod dZ 3))),(53,(.bool (decide ((Int.tmod dZ 3)<0))))] H:=by
 refine bY fun K' hK=> ?_
 have hle:=hfr.le
 rw [gC.eq_1] at h
 refine cj ?_
 refine bk h (fun cx h=> ?_) fun cx h=> ?_
 · refine cj ?_
   obtain rfl:=aD h
   exact hK _ _ _ _ _ aK aq (kn _ hfr)
 · refine cj ?_
   obtain rfl:=aD h
   exact hK _ _ _ _ _ aK aq (kn _ hfr)
theorem xR {dG:List UInt8} {gb:List UInt8} {zL:Int} {lO:Int} {H0 H:AH} (hfr:Fr H0 H0.length [] H) {K:Exit→Env→AH→Prop}
 (kn:∀H':AH,Fr H0 H0.length [] H'→K .normal [(1,(.str dG)),(7,(.str gb)),(80,(.bool ((!decide (zL=501))||(!decide (lO=0)))))] H'):
 AX Tryz.prog fF 106 H0.length (erase pg) K [(1,(.str dG)),(7,(.str gb)),(12,(.int .i64 zL)),(14,(.int .i64 lO))] H:=by
 refine bY fun K' hK=> ?_
 have hle:=hfr.le
 refine cj ?_
 refine gG (fun eA=> ?_) fun eA=> ?_
 · refine ax eA ?_
   exact hK _ _ _ _ _ (dj eA) aq (kn _ hfr)
 · refine ax eA ?_
   exact hK _ _ _ _ _ (dj eA) aq (kn _ hfr)
theorem xS {F:Nat} {i21:Int} {dG:List UInt8} {Ni:List UInt8} {gb:List UInt8} {H0 H:AH} (hfr:Fr H0 H0.length [] H) {K:Exit→Env→AH→Prop} {o:(Bool)⊕((List UInt8))}
 (h:iter (eg dG) F (Ni,i21)=some o)
 (Qa:∀o':(List UInt8),o= .inr o'→∀H':AH,Fr H0 H0.length [] H'→K (.exit 2) [(7,(.str gb)),(15,(.str o'))] H'):
 AX Tryz.prog fF 106 H0.length (.loop (erase oh)) K [(1,(.str dG)),(7,(.str gb)),(15,(.str Ni)),(16,(.int .i64 i21))] H:=by
 refine iE (fun s e H1=>match s with|(Ni,i21)=>e=[(1,(.str dG)),(7,(.str gb)),(15,(.str Ni)),(16,(.int .i64 i21))]∧Fr H0 H0.length [] H1) h ⟨rfl,hfr⟩ ?_
 rintro K' ⟨Ni,i21⟩ st e H ⟨rfl,hfr⟩ h hN hB hR hX
 have hle:=hfr.le
 rw [eg.eq_1] at h
 refine cj ?_
 refine bk h (fun fT h=> ?_) fun fT h=> ?_
 · obtain ⟨KJ,jo,h⟩:=au h
   obtain ⟨F4,ie,h⟩:=au h
   refine ax (aA jo (aA (show ((26:UInt8)=0)=False from by decide) ie)) ?_
   obtain rfl:=aD h
   exact hN _ rfl _ _ _ _ aK aq ⟨rfl,hfr⟩
 · refine cj ?_
   obtain rfl:=aD h
   exact hX _ _ _ _ _ dH aK aq (Qa _ (hB _ rfl) _ hfr)
theorem Qu {F:Nat} {dZ:Int} {dG:List UInt8} {iO:List UInt8} {H0:AH} {aS:Bool} (h:mG F dZ dG iO=some aS):
 aG Tryz.prog 4 [(.int .i64 dZ),(.str dG),(.str iO)] H0 fun v H'=>v=(.bool aS)∧H'=H0:=by
 refine lN CH fF [] fun hcl K0 aP H hH hfr=> ?_
 clear hH
 have hle:=hfr.le
 rw [mG.eq_1] at h
 refine cj ?_
 obtain ⟨r4,hy1,h⟩:=au h
 refine bw aq (pP hy1) ?_
 refine cj ?_
 refine bk h (fun hy2 h=> ?_) fun hy2 h=> ?_
 · refine cj ?_
   obtain rfl:=aD h
   exact aP _ _ _ bh (aR hfr hcl (aU aZ (.bool false)) bf aW ⟨rfl,rfl⟩)
 · refine cj ?_
   refine bA aq (xO (dZ:=dZ) (dG:=dG) (iO:=iO) hfr ?_)
   intro H hfr
   have hle:=hfr.le
   refine cj ?_
   refine bk h (fun bJ h=> ?_) fun bJ h=> ?_
   · refine cj ?_
     obtain rfl:=aD h
     exact aP _ _ _ bh (aR hfr hcl (aU aZ (.bool true)) bf aW ⟨rfl,rfl⟩)
   · refine cj ?_
     obtain ⟨o31,cM,h⟩:=au h
     refine bA aq (xP (dZ:=dZ) (dG:=dG) hfr cM ?_)
     · rintro gb rfl H hfr
       try dsimp only at h
       have hle:=hfr.le
       refine cj ?_
       have cc:rm .i64 dZ 3=some (Int.tmod dZ 3):=rfl
       refine ax cc ?_
       obtain ⟨RC,cN,h⟩:=au h
       refine bA aq (xQ (dG:=dG) (gb:=gb) hfr cN ?_)
       intro H hfr
       have hle:=hfr.le
       obtain ⟨iu,cI,h⟩:=au h
       have dD:idx [(.str ([68,65,84,65]:List UInt8)),(.str ([82,83,69,84]:List UInt8)),(.str ([81,85,73,84]:List UInt8))] RC=some (AV.str iu):=Kh (f:=AV.str) cI
       obtain ⟨Dr,eM,h⟩:=au h
       obtain ⟨n9,dM,h⟩:=au h
       refine ax (aA dD (aA eM dM)) ?_
       obtain ⟨⟨r16,zL⟩,gi,h⟩:=au h
       dsimp only at h
       refine bw aq (cC gi) ?_
       refine cj ?_
       have fS:idx [(.str ([68,65,84,65]:List UInt8)),(.str ([82,83,69,84]:List UInt8)),(.str ([81,85,73,84]:List UInt8))] RC=some (AV.str iu):=Kh (f:=AV.str) cI
       refine ax fS ?_
       obtain ⟨⟨cS,lO⟩,fC,h⟩:=au h
       dsimp only at h
       refine bw aq (cC fC) ?_
       refine cj ?_
       refine bA aq (xR (dG:=dG) (gb:=gb) (zL:=zL) (lO:=lO) (b6 _ (Fr.app (b6 _ (Fr.app hfr)))) ?_)
       intro H hfr
       have hle:=hfr.le
       refine cj ?_
       refine bk h (fun eT h=> ?_) fun eT h=> ?_
       · refine cj ?_
         obtain rfl:=aD h
         exact aP _ _ _ bh (aR hfr hcl (aU aZ (.bool false)) bf aW ⟨rfl,rfl⟩)
       · refine cj ?_
         obtain ⟨o30,iF,h⟩:=au h
         refine bA aq (xS (gb:=gb) hfr iF ?_)
         · rintro w25 rfl H hfr
           try dsimp only at h
           have hle:=hfr.le
           refine cj ?_
           obtain ⟨Ui,kq,h⟩:=au h
           obtain ⟨YA,rD,h⟩:=au h
           refine ax (aA kq rD) ?_
           obtain ⟨⟨r28,gH⟩,tH,h⟩:=au h
           dsimp only at h
           refine bw aq (cC tH) ?_
           refine cj ?_
           obtain rfl:=aD h
           exact aP _ _ _ bh (aR (b6 _ (Fr.app hfr)) hcl (aU aZ (.bool (decide (gH=500)))) bf aW ⟨rfl,rfl⟩)
end Go.Proofs.cQ
end
section
set_option maxRecDepth 100000
namespace Go.Proofs.cQ
open Go Go.Am Go.Proofs
theorem Nj (n:Nat):jd (n+100)=some true:=by kernel_rfl
theorem fold_map {α β:Type} (g:α→β):∀(l:List α) (a:List β),l.foldl (fun a c=>a++[g c]) a=a++l.map g:=by
 intro l
 induction l with
 |nil=>intro a;simp
 |cons c r ih=>intro a;simp [ih]
theorem adP (c:UInt8):bp (33+c % 94)=true∧nb (33+c % 94)=true:=by
 have:=e7 (p:=fun c=>bp (33+c % 94)&&nb (33+c % 94)) (by kernel_rfl) c
 simpa using this
theorem adQ (c:UInt8):bp (65+c % 26)=true∧nb (65+c % 26)=true:=by
 have:=e7 (p:=fun c=>bp (65+c % 26)&&nb (65+c % 26)) (by kernel_rfl) c
 simpa using this
theorem Nk {more:List UInt8} {F:Nat} (h:more.length≤300) (hF:400<F):iter (ef more) F ([120],0)=some (.inr (120::more.map fun c=>33+c % 94)):=by
 have hh:=lpo (ρ:=Bool) (s:=more) (body:=ef more) (mk:=fun (a:List UInt8) i=>(a,(i:Int))) (tt:=fun a=>a) (step:=fun a c=>a++[33+c % 94])
  (fun a i=>a.length=i+1) ?_ ?_ (F:=F) (a:=[120]) (by omega) rfl
 · rw [show (([120]:List UInt8),(0:Int))=(([120]:List UInt8),((0:Nat):Int)) from rfl,hh.1,fold_map];rfl
 · intro a i c hc hI
   have hi:=(List.getElem?_eq_some_iff.1 hc).1
   refine ⟨?_,by simp [hI]⟩
   simp only [ef]
   rw [if_pos (by simpa using hi),bz hc]
   simp only [Option.bind_some]
   rw [bD (by simp;omega)]
   simp only [Option.bind_some]
   rw [Iw (by omega)]
 · intro a hI
   simp only [ef]
   rw [if_neg (by simp)]
theorem Nl {word:List UInt8} {F:Nat} (h:word.length≤100) (hF:400<F):iter (eg word) F ([90],0)=some (.inr (90::word.map fun c=>65+c % 26)):=by
 have hh:=lpo (ρ:=Bool) (s:=word) (body:=eg word) (mk:=fun (a:List UInt8) i=>(a,(i:Int))) (tt:=fun a=>a) (step:=fun a c=>a++[65+c % 26])
  (fun a i=>a.length=i+1) ?_ ?_ (F:=F) (a:=[90]) (by omega) rfl
 · rw [show (([90]:List UInt8),(0:Int))=(([90]:List UInt8),((0:Nat):Int)) from rfl,hh.1,fold_map];rfl
 · intro a i c hc hI
   have hi:=(List.getElem?_eq_some_iff.1 hc).1
   refine ⟨?_,by simp [hI]⟩
   simp only [eg]
   rw [if_pos (by simpa using hi),bz hc]
   simp only [Option.bind_some]
   rw [bD (by simp;omega)]
   simp only [Option.bind_some]
   rw [Iw (by omega)]
 · intro a hI
   simp only [eg]
   rw [if_neg (by simp)]
theorem G4 {s:List UInt8} (h:s.getLast?≠some 32):cH s=s:=by
 unfold cH
 have:s.reverse.dropWhile blk=s.reverse:=by
  cases hr:s.reverse with
  |nil=>rfl
  |cons c r=>
   have h2:s.getLast?=some c:=by rw [←List.head?_reverse,hr];rfl
   have:c≠32:=by rintro rfl;exact h h2
   simp [List.dropWhile_cons,blk,this]
 rw [this,List.reverse_reverse]
theorem I6 {w t:List UInt8} (hw:∀c∈w,bp c=true∧nb c=true) (ht:∀c∈t,bp c=true∧nb c=true) (h0:t≠[]):fy (w++32::t)=gB (dL (w.map low)) (32::t):=by
 unfold fy
 have hv:(w++32::t).all bp=true:=by
  simp only [List.all_append,List.all_cons,Bool.and_eq_true]
  refine ⟨List.all_eq_true.2 fun c hc=>(hw c hc).1,by decide,List.all_eq_true.2 fun c hc=>(ht c hc).1⟩
 rw [if_pos hv]
 have hl:(w++32::t).getLast?≠some 32:=by
  cases hr:t.getLast? with
  |none=>exact absurd (List.getLast?_eq_none_iff.1 hr) h0
  |some c=>
   have hm:c∈t:=List.mem_of_getLast? hr
   have:(w++32::t).getLast?=some c:=by
    rw [List.getLast?_append,List.getLast?_cons,hr];simp
   rw [this]
   intro h
   injection h with h
   have:=(ht c hm).2
   rw [h] at this;cases this
 rw [G4 hl]
 have:=CE (q:=nb) (l:=w) (x:=32) (by decide) (fun c hc=>(hw c hc).2) t
 rw [this.1,this.2]
theorem abf (t:List UInt8):dL ((90::t).map low)=0:=by
 have:low 90=122:=by decide
 simp [dL,za,wl,this]
theorem Y8 (which:Int) (word more:List UInt8):∃F,mG F which word more=some true:=by
 refine ⟨100000+100, ?_⟩
 unfold mG
 rw [Nj]
 simp only [Option.bind_some,Bool.not_true,Bool.false_eq_true,if_false]
 by_cases h:100<word.length∨300<more.length∨more.length=0
 · rw [if_pos (by simp only [Bool.or_eq_true,decide_eq_true_eq];omega)]
 · rw [if_neg (by simp only [Bool.or_eq_true,decide_eq_true_eq];omega)]
   rw [Nk (by omega) (by omega)]
   simp only [Option.bind_some]
   generalize hT:(120::more.map fun c=>33+c % 94:List UInt8)=T
   have hTl:T.length≤301:=by rw [←hT];simp;omega
   have hTn:T≠[]:=by rw [←hT];simp
   have hTv:∀c∈T,bp c=true∧nb c=true:=by
    rw [←hT]
    intro c hc
    rcases List.mem_cons.1 hc with rfl|hc
    · decide
    · obtain ⟨d, -,rfl⟩:=List.mem_map.1 hc
      exact adP d
   have hp:∃k:Nat,k<3∧gC which=some (k:Int):=by
    unfold gC
    have e:Int.tmod which 3=which.tmod 3:=rfl
    have b1: -3<which.tmod 3:=Int.lt_tmod_of_pos _ (by decide)
    have b2:which.tmod 3<3:=Int.tmod_lt_of_pos _ (by decide)
    by_cases hn:which.tmod 3<0
    · rw [if_pos (by simpa using hn),wr (by omega) (by omega)]
      exact ⟨(0 - which.tmod 3).toNat,by omega,by congr 1;omega⟩
    · rw [if_neg (by simpa using hn)]
      exact ⟨(which.tmod 3).toNat,by omega,by congr 1;omega⟩
   obtain ⟨k,hk,hp⟩:=hp
   rw [hp]
   simp only [Option.bind_some]
   have key:∃W:List UInt8,idx ([([68,65,84,65]:List UInt8),([82,83,69,84]:List UInt8),([81,85,73,84]:List UInt8)]:List (List UInt8)) (k:Int)=some W∧W.length=4∧(∀c∈W,bp c=true∧nb c=true)∧
    (dL (W.map low)=5∨dL (W.map low)=6∨dL (W.map low)=8)∧(fy W).2=0:=by
    have:k=0∨k=1∨k=2:=by omega
    rcases this with rfl|rfl|rfl
    · exact ⟨[68,65,84,65],by rfl,by rfl,by decide,by decide,by kernel_rfl⟩
    · exact ⟨[82,83,69,84],by rfl,by rfl,by decide,by decide,by kernel_rfl⟩
    · exact ⟨[81,85,73,84],by rfl,by rfl,by decide,by decide,by kernel_rfl⟩
   obtain ⟨W,h1,h2,h3,h4,h5⟩:=key
   rw [h1]
   simp only [Option.bind_some]
   rw [bD (by simp;omega)]
   simp only [Option.bind_some]
   rw [bD (by simp;omega)]
   simp only [Option.bind_some]
   rw [jG (by simp;omega) (by omega)]
   simp only [Option.bind_some]
   rw [jG (by omega) (by omega)]
   simp only [Option.bind_some]
   have e1:(W++[32])++T=W++32::T:=by simp
   rw [e1,I6 h3 hTv hTn]
   have e2:(gB (dL (W.map low)) (32::T)).2=501:=by
    unfold gB
    rcases h4 with h4|h4|h4<;>rw [h4]<;>simp
   rw [e2,h5,if_neg (by simp)]
   rw [Nl (by omega) (by omega)]
   simp only [Option.bind_some]
   rw [bD (by simp;omega)]
   simp only [Option.bind_some]
   rw [bD (by simp;omega)]
   simp only [Option.bind_some]
   rw [jG (by simp;omega) (by omega)]
   simp only [Option.bind_some]
   have e3:((90::word.map fun c=>65+c % 26)++[32])++T=(90::word.map fun c=>65+c % 26)++32::T:=by simp
   rw [e3,I6 (by
    intro c hc
    rcases List.mem_cons.1 hc with rfl|hc
    · decide
    · obtain ⟨d, -,rfl⟩:=List.mem_map.1 hc
      exact adQ d) hTv hTn,abf]
   simp [gB]
end Go.Proofs.cQ
end
section
set_option maxRecDepth 100000
namespace Go.Proofs.cQ
open Go Go.Am Go.Proofs
open Nat renaming reduceEqDiff→nA,reduceLT→nB,reduceLeDiff→nC,reduceAdd→nD,reduceSub→nE,reduceMul→nF,reduceBEq→nG
set_option maxHeartbeats 2000000
abbrev pn:az:=(.seq (.seq (.rg [(av 10 0),(aj 11 (.bin .geq (.t 10) (.c (.int .i64 10))))]) (.cond (.t 11) .skip (.exit 0))) (.blk 1 (.seq (.rg [(av 12 0),(aj 13 (.bin .quo (.t 12) (.c (.int .i64 10)))),(aO 0 13)]) (.rg [(av 14 0),(aj 15 (.bin .rem (.t 14) (.c (.int .i64 10)))),(aj 16 (.bin .add (.c (.int .i64 48)) (.t 15))),(aj 17 (.iT (.int .u8) (.t 16))),(aj 18 (.pH 1 [(.t 17)])),(aj 19 (.iT .bs (.t 18))),(av 20 3),(aj 21 (.bin .add (.t 19) (.t 20))),(aO 3 21)]))))
abbrev DI:az:=(.seq (.rg [(aj 2 (.aT (.c (.str []))))]) (.seq (.rg [(av 4 0),(aj 5 (.bin .rem (.t 4) (.c (.int .i64 10)))),(aj 6 (.bin .add (.c (.int .i64 48)) (.t 5))),(aj 7 (.iT (.int .u8) (.t 6))),(aj 8 (.pH 1 [(.t 7)])),(aj 9 (.iT .bs (.t 8))),(aO 3 9)]) (.seq (.blk 0 (.loop (erase pn))) (.seq (.rg [(av 22 3),(aO 2 22)]) .ret))))
theorem DJ:bL Tryz.prog 12 23 [(.tmp 2)] (erase DI):=⟨Tryz.f12,_,rfl,by decide,rfl,by kernel_rfl,rfl,rfl⟩
abbrev vP:List Nat:=[0,2,3,11]
def dw:(Int×(List UInt8))→Option (St (List UInt8) (List UInt8) (Int×(List UInt8)))
 |(mZ,s3)=>
  (if (decide (10≤mZ)) then
   (cat ([(UInt8.ofInt (IntKind.wrap .i64 (48+(Int.tmod (IntKind.wrap .i64 (Int.tdiv mZ 10)) 10))))]:List UInt8) s3).bind fun x4=>some (.cA ((IntKind.wrap .i64 (Int.tdiv mZ 10)),x4))
  else
   some (.dQ s3))
def kJ (F:Nat) (nY:Int):Option ((List UInt8)):=
 ((iter dw F (nY,([(UInt8.ofInt (IntKind.wrap .i64 (48+(Int.tmod nY 10))))]:List UInt8))).bind fun o7=>
 match o7 with
 | .inr s6=>
   some s6
 | .inl _=>none)
theorem zd {F:Nat} {mZ:Int} {s3:List UInt8} {H:AH} {K:Exit→Env→AH→Prop} {o:((List UInt8))⊕((List UInt8))}
 (h:iter dw F (mZ,s3)=some o)
 (dz:∀o':(List UInt8),o= .inr o'→K (.exit 0) [(3,(.str o'))] H):
 AX Tryz.prog vP 23 H.length (.loop (erase pn)) K [(0,(.int .i64 mZ)),(3,(.str s3))] H:=by
 refine iE (fun s e H1=>match s with|(mZ,s3)=>e=[(0,(.int .i64 mZ)),(3,(.str s3))]∧H1=H) h ⟨rfl,rfl⟩ ?_
 rintro K' ⟨mZ,s3⟩ st e H ⟨rfl,rfl⟩ h hN hB hR hX
 rw [dw.eq_1] at h
 refine aF ?_
 refine bk h (fun hy2 h=> ?_) fun hy2 h=> ?_
 · have hy3:dv .i64 mZ 10=some (IntKind.wrap .i64 (Int.tdiv mZ 10)):=rfl
   have hy4:rm .i64 (IntKind.wrap .i64 (Int.tdiv mZ 10)) 10=some (Int.tmod (IntKind.wrap .i64 (Int.tdiv mZ 10)) 10):=rfl
   obtain ⟨x4,bJ,h⟩:=au h
   refine aY (aA hy3 (aA hy4 bJ)) ?_
   obtain rfl:=aD h
   exact hN _ rfl _ _ _ _ aK aq ⟨rfl,rfl⟩
 · refine aF ?_
   obtain rfl:=aD h
   exact hX _ _ _ _ _ dH aK aq (dz _ (hB _ rfl))
theorem CI {F:Nat} {nY:Int} {H0:AH} {aS:List UInt8} (h:kJ F nY=some aS):
 aG Tryz.prog 12 [(.int .i64 nY)] H0 fun v H'=>v=(.str aS)∧H'=H0:=by
 refine gr DJ vP fun hcl K0 aP=> ?_
 rw [kJ.eq_1] at h
 have hy1:rm .i64 nY 10=some (Int.tmod nY 10):=rfl
 refine aY hy1 ?_
 obtain ⟨o7,ck,h⟩:=au h
 refine bA aq (zd ck ?_)
 · rintro s6 rfl
   try dsimp only at h
   refine aF ?_
   obtain rfl:=aD h
   exact aP _ _ _ bh (aM hcl (aU aZ (.str s6)) bf aW ⟨rfl,rfl⟩)
abbrev pz:az:=(.rg ((aj 25 (.cw (.t 3) 0))::(aj 26 (.ld (.t 25) none))::(aj 27 (.lens (.t 26)))::(aj 28 (.bin .gtr (.t 27) (.c (.int .i64 300))))::(av 29 28)::(ay 30 (.cw (.t 3) 1) 29 false)::(ay 31 (.ld (.t 30) none) 29 false)::(ay 32 (.lens (.t 31)) 29 false)::(ay 33 (.bin .gtr (.t 32) (.c (.int .i64 600))) 29 false)::(aj 34 (.pick (.t 29) (.c (.bool true)) (.t 33)))::(av 35 34)::(ay 36 (.ld (.t 3) (some 2)) 35 false)::(ay 37 (.call (.c (.fn 10 [])) [(.t 36)]) 35 false)::(ay 38 (.un .not (.t 37)) 35 false)::(aj 39 (.pick (.t 35) (.c (.bool true)) (.t 38)))::(av 40 39)::(ay 41 (.mv (.t 1)) 40 false)::(ay 42 (.bin .lss (.t 41) (.c (.int .i64 0))) 40 false)::(aj 43 (.pick (.t 40) (.c (.bool true)) (.t 42)))::(av 44 43)::(ay 45 (.mv (.t 1)) 44 false)::(ay 46 (.bin .gtr (.t 45) (.c (.int .i64 999999999))) 44 false)::(aj 47 (.pick (.t 44) (.c (.bool true)) (.t 46)))::(av 48 47)::(ay 49 (.mv (.t 2)) 48 false)::(ay 50 (.bin .lss (.t 49) (.c (.int .i64 0))) 48 false)::(aj 51 (.pick (.t 48) (.c (.bool true)) (.t 50)))::(av 52 51)::(ay 53 (.mv (.t 2)) 52 false)::(ay 54 (.bin .gtr (.t 53) (.c (.int .i64 20))) 52 false)::(aj 55 (.pick (.t 52) (.c (.bool true)) (.t 54)))::[]))
abbrev om:az:=(.seq (.seq (.rg [(av 56 8),(av 57 2),(aj 58 (.bin .lss (.t 56) (.t 57)))]) (.cond (.t 58) .skip (.exit 0))) (.seq (.blk 1 (.rg [(av 61 7),(aj 62 (.bin .add (.t 61) (.c (.str [32])))),(aO 7 62)])) (.rg [(av 59 8),(aj 60 (.bin .add (.t 59) (.c (.int .i64 1)))),(aO 8 60)])))
abbrev pE:az:=(.rg ((av 116 11)::(aj 117 (.bin .neq (.t 116) (.c (.int .i64 0))))::(av 118 117)::(ay 119 (.cw (.t 10) 2) 118 false)::(ay 120 (.ld (.t 119) (some 2)) 118 false)::(ay 121 (.ld (.t 3) (some 2)) 118 false)::(ay 122 (.seq [.s, .s] true (.t 120) (.t 121)) 118 false)::(aj 123 (.pick (.t 118) (.c (.bool true)) (.t 122)))::(av 124 123)::(ay 125 (.cw (.t 10) 4) 124 false)::(ay 126 (.ld (.t 125) none) 124 false)::(ay 127 (.bin .neq (.t 126) (.c (.int .i64 (-1)))) 124 false)::(aj 128 (.pick (.t 124) (.c (.bool true)) (.t 127)))::(av 129 128)::(ay 130 (.mv (.t 13)) 129 false)::(ay 131 (.bin .neq (.t 130) (.c (.int .i64 0))) 129 false)::(aj 132 (.pick (.t 129) (.c (.bool true)) (.t 131)))::(av 133 132)::(ay 134 (.cw (.t 12) 4) 133 false)::(ay 135 (.ld (.t 134) none) 133 false)::(ay 136 (.mv (.t 1)) 133 false)::(ay 137 (.bin .neq (.t 135) (.t 136)) 133 false)::(aj 138 (.pick (.t 133) (.c (.bool true)) (.t 137)))::(av 139 138)::(ay 140 (.cw (.t 12) 2) 139 false)::(ay 141 (.ld (.t 140) (some 2)) 139 false)::(ay 142 (.ld (.t 3) (some 2)) 139 false)::(ay 143 (.seq [.s, .s] true (.t 141) (.t 142)) 139 false)::(aj 144 (.pick (.t 139) (.c (.bool true)) (.t 143)))::(av 145 144)::(ay 146 (.mv (.t 17)) 145 false)::(ay 147 (.bin .neq (.t 146) (.c (.int .i64 555))) 145 false)::(aj 148 (.pick (.t 145) (.c (.bool true)) (.t 147)))::(av 149 148)::(ay 150 (.mv (.t 19)) 149 false)::(ay 151 (.bin .neq (.t 150) (.c (.int .i64 501))) 149 false)::(aj 152 (.pick (.t 149) (.c (.bool true)) (.t 151)))::(av 153 152)::(ay 154 (.mv (.t 21)) 153 false)::(ay 155 (.bin .neq (.t 154) (.c (.int .i64 501))) 153 false)::(aj 156 (.pick (.t 153) (.c (.bool true)) (.t 155)))::[]))
abbrev pF:az:=(.rg [(av 157 22),(av 158 157),(ay 159 (.mv (.t 15)) 158 true),(ay 160 (.bin .eql (.t 159) (.c (.int .i64 501))) 158 true),(aj 161 (.pick (.t 158) (.t 160) (.c (.bool false)))),(av 162 161),(ay 163 (.mv (.t 22)) 162 false),(ay 164 (.un .not (.t 163)) 162 false),(ay 165 (.mv (.t 164)) 162 false),(ay 166 (.mv (.t 15)) 165 true),(ay 167 (.bin .eql (.t 166) (.c (.int .i64 0))) 165 true),(ay 168 (.pick (.t 165) (.t 167) (.c (.bool false))) 162 false),(ay 169 (.mv (.t 168)) 162 false),(ay 170 (.cw (.t 14) 2) 169 true),(ay 171 (.ld (.t 170) (some 2)) 169 true),(ay 172 (.ld (.t 3) (some 2)) 169 true),(ay 173 (.seq [.s, .s] false (.t 171) (.t 172)) 169 true),(ay 174 (.pick (.t 169) (.t 173) (.c (.bool false))) 162 false),(ay 175 (.mv (.t 174)) 162 false),(ay 176 (.cw (.t 14) 0) 175 true),(ay 177 (.ld (.t 176) none) 175 true),(ay 178 (.bin .eql (.t 177) (.c (.int .i64 4))) 175 true),(ay 179 (.pick (.t 175) (.t 178) (.c (.bool false))) 162 false),(aj 180 (.pick (.t 162) (.c (.bool true)) (.t 179))),(aO 6 180)])
abbrev CJ:az:=(.seq (.rg [(aj 3 (.box (.t 0))),(aj 6 (.aT (.c (.bool false))))]) (.seq (.seq (.rg [(aj 23 (.call (.c (.fn 7 [])) [])),(aj 24 (.un .not (.t 23)))]) (.cond (.t 24) (.seq (.rg [(aj 6 (.aT (.c (.bool false))))]) .ret) .skip)) (.seq (.seq (.sem (erase pz)) (.cond (.t 55) (.seq (.rg [(aj 6 (.aT (.c (.bool true))))]) .ret) .skip)) (.seq (.rg [(aj 7 (.aT (.c (.str []))))]) (.seq (.seq (.rg [(aj 8 (.aT (.c (.int .i64 0))))]) (.blk 0 (.loop (erase om)))) (.seq (.rg [(aj 63 (.ld (.t 3) (some 2))),(aj 64 (.call (.c (.fn 11 [])) [(.t 63)])),(aO 9 64)]) (.seq (.rg [(av 66 7),(aj 67 (.bin .add (.c (.str [77,65,73,76,32,70,82,79,77,58])) (.t 66))),(av 68 9),(aj 69 (.bin .add (.t 67) (.t 68))),(aj 70 (.call (.c (.fn 8 [])) [(.t 69)])),(av 65 70),(aj 71 (.ext (.t 65) 0)),(aj 72 (.ext (.t 65) 1)),(aj 10 (.alloc [(.int .i64 0),(.str []),(.str []),(.str []),(.int .i64 0)])),(cZ (.st (.t 10) (.t 71) 5)),(aO 11 72)]) (.seq (.rg [(av 74 7),(aj 75 (.bin .add (.c (.str [109,97,105,108,32,102,114,111,109,58])) (.t 74))),(av 76 9),(aj 77 (.bin .add (.t 75) (.t 76))),(aj 78 (.bin .add (.t 77) (.c (.str [32,83,73,90,69,61])))),(av 79 1),(aj 80 (.call (.c (.fn 12 [])) [(.t 79)])),(aj 81 (.bin .add (.t 78) (.t 80))),(aj 82 (.call (.c (.fn 8 [])) [(.t 81)])),(av 73 82),(aj 83 (.ext (.t 73) 0)),(aj 84 (.ext (.t 73) 1)),(aj 12 (.alloc [(.int .i64 0),(.str []),(.str []),(.str []),(.int .i64 0)])),(cZ (.st (.t 12) (.t 83) 5)),(aO 13 84)]) (.seq (.rg [(av 86 7),(aj 87 (.bin .add (.c (.str [82,67,80,84,32,84,79,58])) (.t 86))),(av 88 9),(aj 89 (.bin .add (.t 87) (.t 88))),(aj 90 (.call (.c (.fn 8 [])) [(.t 89)])),(av 85 90),(aj 91 (.ext (.t 85) 0)),(aj 92 (.ext (.t 85) 1)),(aj 14 (.alloc [(.int .i64 0),(.str []),(.str []),(.str []),(.int .i64 0)])),(cZ (.st (.t 14) (.t 91) 5)),(aO 15 92)]) (.seq (.rg [(av 94 9),(aj 95 (.bin .add (.c (.str [77,65,73,76,32,70,82,79,77,58])) (.t 94))),(aj 96 (.bin .add (.t 95) (.c (.str [32,66,79,68,89,61,55,66,73,84])))),(aj 97 (.call (.c (.fn 8 [])) [(.t 96)])),(av 93 97),(aj 98 (.ext (.t 93) 0)),(aj 99 (.ext (.t 93) 1)),(aj 16 (.alloc [(.int .i64 0),(.str []),(.str []),(.str []),(.int .i64 0)])),(cZ (.st (.t 16) (.t 98) 5)),(aO 17 99)]) (.seq (.rg [(av 101 9),(aj 102 (.bin .add (.c (.str [82,67,80,84,32,70,82,79,77,58])) (.t 101))),(aj 103 (.call (.c (.fn 8 [])) [(.t 102)])),(av 100 103),(aj 104 (.ext (.t 100) 0)),(aj 105 (.ext (.t 100) 1)),(aj 18 (.alloc [(.int .i64 0),(.str []),(.str []),(.str []),(.int .i64 0)])),(cZ (.st (.t 18) (.t 104) 5)),(aO 19 105)]) (.seq (.rg [(av 107 9),(aj 108 (.bin .add (.c (.str [77,65,73,76,32,70,82,79,77,58])) (.t 107))),(aj 109 (.bin .add (.t 108) (.c (.str [120])))),(aj 110 (.call (.c (.fn 8 [])) [(.t 109)])),(av 106 110),(aj 111 (.ext (.t 106) 0)),(aj 112 (.ext (.t 106) 1)),(aj 20 (.alloc [(.int .i64 0),(.str []),(.str []),(.str []),(.int .i64 0)])),(cZ (.st (.t 20) (.t 111) 5)),(aO 21 112)]) (.seq (.rg [(aj 113 (.ld (.t 3) (some 2))),(aj 114 (.build [(.str []),(.str [])] [])),(aj 115 (.seq [.s, .s] false (.t 113) (.t 114))),(aO 22 115)]) (.seq (.seq (.sem (erase pE)) (.cond (.t 156) (.seq (.rg [(aj 6 (.aT (.c (.bool false))))]) .ret) .skip)) (.seq (.sem (erase pF)) .ret)))))))))))))))
theorem CK:bL Tryz.prog 5 181 [(.tmp 6)] (erase CJ):=⟨Tryz.f5,_,rfl,by decide,rfl,by kernel_rfl,rfl,rfl⟩
abbrev gW:List Nat:=[0,1,2,3,6,7,8,9,10,11,12,13,14,15,17,19,21,22,24,55,58,156]
def ji (F:Nat) (a1:aB) (gf:Int) (ff:Int):Option (Bool):=
 (if (decide (300<(a1.ak.length:Int))) then
  some true
 else
  (if (decide (600<(a1.domain.length:Int))) then
   some true
  else
   (ku F a1).bind fun r6=>
   (if (!r6) then
    some true
   else
    (if (decide (gf<0)) then
     some true
    else
     (if (decide (999999999<gf)) then
      some true
     else
      (if (decide (ff<0)) then
       some true
      else
       some (decide (20<ff))))))))
def ei (ff:Int):((List UInt8)×Int)→Option (St Bool (List UInt8) ((List UInt8)×Int))
 |(Nn,i11)=>
  (if (decide (i11<ff)) then
   (cat Nn ([32]:List UInt8)).bind fun lZ=>some (.cA (lZ,(IntKind.wrap .i64 (i11+1))))
  else
   some (.dQ Nn))
def mH (F:Nat) (a1:aB) (gf:Int) (ff:Int):Option (Bool):=
 (jd F).bind fun r4=>
 (if (!r4) then
  some false
 else
  (ji F a1 gf ff).bind fun t8=>
  (if t8 then
   some true
  else
   ((iter (ei ff) F (([]:List UInt8),0)).bind fun o47=>
   match o47 with
   | .inr b14=>
     (iS F a1).bind fun de=>
     (cat ([77,65,73,76,32,70,82,79,77,58]:List UInt8) b14).bind fun jl=>
     (cat jl de).bind fun jT=>
     (cV F jT).bind fun (cS,lO)=>
     (cat ([109,97,105,108,32,102,114,111,109,58]:List UInt8) b14).bind fun oa=>
     (cat oa de).bind fun yI=>
     (cat yI ([32,83,73,90,69,61]:List UInt8)).bind fun KJ=>
     (kJ F gf).bind fun F8=>
     (cat KJ F8).bind fun F5=>
     (cV F F5).bind fun (ob,Gq)=>
     (cat ([82,67,80,84,32,84,79,58]:List UInt8) b14).bind fun YA=>
     (cat YA de).bind fun zW=>
     (cV F zW).bind fun (gH,zY)=>
     (cat ([77,65,73,76,32,70,82,79,77,58]:List UInt8) de).bind fun Up=>
     (cat Up ([32,66,79,68,89,61,55,66,73,84]:List UInt8)).bind fun x32=>
     (cV F x32).bind fun (r33,vl)=>
     (cat ([82,67,80,84,32,70,82,79,77,58]:List UInt8) de).bind fun x35=>
     (cV F x35).bind fun (r36,Qv)=>
     (cat Up ([120]:List UInt8)).bind fun Yc=>
     (cV F Yc).bind fun (r39,Qw)=>
     (if (((((((((!decide (lO=0))||(!(decide (cS.path.ak=a1.ak)&&decide (cS.path.domain=a1.domain))))||(!decide (cS.size=(-1))))||(!decide (Gq=0)))||(!decide (ob.size=gf)))||(!(decide (ob.path.ak=a1.ak)&&decide (ob.path.domain=a1.domain))))||(!decide (vl=555)))||(!decide (Qv=501)))||(!decide (Qw=501))) then
      some false
     else
      some (((decide (a1.ak=([]:List UInt8))&&decide (a1.domain=([]:List UInt8)))&&(decide (zY=501)))||((((!(decide (a1.ak=([]:List UInt8))&&decide (a1.domain=([]:List UInt8))))&&(decide (zY=0)))&&(decide (gH.path.ak=a1.ak)&&decide (gH.path.domain=a1.domain)))&&(decide (gH.kind=4)))))
   | .inl _=>none)))
theorem xT {F:Nat} {a1:aB} {gf:Int} {ff:Int} {q5:Nat} {H0 H:AH} (hfr:Fr H0 H0.length [] H) (ai:H[q5]? =some [(.str a1.ak),(.str a1.domain)]) (dB:H0.length≤q5) {K:Exit→Env→AH→Prop} {t7:Bool}
 (h:ji F a1 gf ff=some t7)
 (kn:∀H':AH,Fr H0 H0.length [] H'→H'[q5]? =some [(.str a1.ak),(.str a1.domain)]→K .normal [(1,(.int .i64 gf)),(2,(.int .i64 ff)),(3,(.ptr q5 0)),(55,(.bool t7))] H'):
 AX Tryz.prog gW 181 H0.length (erase pz) K [(1,(.int .i64 gf)),(2,(.int .i64 ff)),(3,(.ptr q5 0))] H:=by
 refine bY fun K' hK=> ?_
 have hle:=hfr.le
 have aL:=aN ai
 rw [ji.eq_1] at h
 refine ax ai ?_
 refine bT h (fun hy3 h=> ?_) fun hy3 h=> ?_
 · refine ax (aA hy3 ai) ?_
   obtain rfl:=aD h
   exact hK _ _ _ _ _ aK aq (kn _ hfr (ai.trans rfl))
 · refine ax (aA hy3 ai) ?_
   refine bT h (fun hy4 h=> ?_) fun hy4 h=> ?_
   · refine ax (aA hy4 ai) ?_
     obtain rfl:=aD h
     exact hK _ _ _ _ _ aK aq (kn _ hfr (ai.trans rfl))
   · refine ax (aA hy4 ai) ?_
     obtain ⟨r6,bJ,h⟩:=au h
     refine bw aq (rz bJ) ?_
     refine ax ai ?_
     refine bT h (fun ck h=> ?_) fun ck h=> ?_
     · refine ax (aA ck ai) ?_
       obtain rfl:=aD h
       exact hK _ _ _ _ _ aK aq (kn _ hfr (ai.trans rfl))
     · refine ax (aA ck ai) ?_
       refine bT h (fun cF h=> ?_) fun cF h=> ?_
       · refine ax (aA cF ai) ?_
         obtain rfl:=aD h
         exact hK _ _ _ _ _ aK aq (kn _ hfr (ai.trans rfl))
       · refine ax (aA cF ai) ?_
         refine bT h (fun cv h=> ?_) fun cv h=> ?_
         · refine ax (aA cv ai) ?_
           obtain rfl:=aD h
           exact hK _ _ _ _ _ aK aq (kn _ hfr (ai.trans rfl))
         · refine ax (aA cv ai) ?_
           refine bT h (fun cM h=> ?_) fun cM h=> ?_
           · refine ax (aA cM ai) ?_
             obtain rfl:=aD h
             exact hK _ _ _ _ _ aK aq (kn _ hfr (ai.trans rfl))
           · refine ax (aA cM ai) ?_
             obtain rfl:=aD h
             exact hK _ _ _ _ _ aK aq (kn _ hfr (ai.trans rfl))
theorem xU {F:Nat} {i11:Int} {ff:Int} {Nn:List UInt8} {gf:Int} {q9:Nat} {a1:aB} {H0 H:AH} (hfr:Fr H0 H0.length [] H) (ai:H[q9]? =some [(.str a1.ak),(.str a1.domain)]) (dB:H0.length≤q9) {K:Exit→Env→AH→Prop} {o:(Bool)⊕((List UInt8))}
 (h:iter (ei ff) F (Nn,i11)=some o)
 (dz:∀o':(List UInt8),o= .inr o'→∀H':AH,Fr H0 H0.length [] H'→H'[q9]? =some [(.str a1.ak),(.str a1.domain)]→K (.exit 0) [(1,(.int .i64 gf)),(3,(.ptr q9 0)),(7,(.str o'))] H'):
 AX Tryz.prog gW 181 H0.length (.loop (erase om)) K [(1,(.int .i64 gf)),(2,(.int .i64 ff)),(3,(.ptr q9 0)),(7,(.str Nn)),(8,(.int .i64 i11))] H:=by
 refine iE (fun s e H1=>match s with|(Nn,i11)=>e=[(1,(.int .i64 gf)),(2,(.int .i64 ff)),(3,(.ptr q9 0)),(7,(.str Nn)),(8,(.int .i64 i11))]∧Fr H0 H0.length [] H1∧H1[q9]? =some [(.str a1.ak),(.str a1.domain)]) h ⟨rfl,hfr,ai⟩ ?_
 rintro K' ⟨Nn,i11⟩ st e H ⟨rfl,hfr,ai⟩ h hN hB hR hX
 have hle:=hfr.le
 have aL:=aN ai
 rw [ei.eq_1] at h
 refine ax ai ?_
 refine bk h (fun cN h=> ?_) fun cN h=> ?_
 · obtain ⟨lZ,cI,h⟩:=au h
   refine ax (aA cI ai) ?_
   obtain rfl:=aD h
   exact hN _ rfl _ _ _ _ aK aq ⟨rfl,hfr,(ai.trans rfl)⟩
 · refine ax ai ?_
   obtain rfl:=aD h
   exact hX _ _ _ _ _ dH aK aq (dz _ (hB _ rfl) _ hfr (ai.trans rfl))
theorem xV {gf:Int} {KT:Nat} {G5:Nat} {lO:Int} {wF:Nat} {Gq:Int} {DK:Nat} {zY:Int} {vl:Int} {Qv:Int} {Qw:Int} {a1:aB} {cS:aC} {ob:aC} {gH:aC} {H0 H:AH} (hfr:Fr H0 H0.length [] H) (ai:H[KT]? =some [(.str a1.ak),(.str a1.domain)]) (aJ:H[G5]? =some [(.int .i64 cS.kind),(.str cS.arg),(.str cS.path.ak),(.str cS.path.domain),(.int .i64 cS.size)]) (bg:H[wF]? =some [(.int .i64 ob.kind),(.str ob.arg),(.str ob.path.ak),(.str ob.path.domain),(.int .i64 ob.size)]) (cr:H[DK]? =some [(.int .i64 gH.kind),(.str gH.arg),(.str gH.path.ak),(.str gH.path.domain),(.int .i64 gH.size)]) (dB:H0.length≤KT) (hi1:H0.length≤G5) (hi2:KT≠G5) (hi3:H0.length≤wF) (hi4:KT≠wF) (hi5:G5≠wF) (hi6:H0.length≤DK) (hi7:KT≠DK) (hi8:G5≠DK) (hi9:wF≠DK) {K:Exit→Env→AH→Prop}
 (kn:∀H':AH,Fr H0 H0.length [] H'→H'[KT]? =some [(.str a1.ak),(.str a1.domain)]→H'[G5]? =some [(.int .i64 cS.kind),(.str cS.arg),(.str cS.path.ak),(.str cS.path.domain),(.int .i64 cS.size)]→H'[wF]? =some [(.int .i64 ob.kind),(.str ob.arg),(.str ob.path.ak),(.str ob.path.domain),(.int .i64 ob.size)]→H'[DK]? =some [(.int .i64 gH.kind),(.str gH.arg),(.str gH.path.ak),(.str gH.path.domain),(.int .i64 gH.size)]→K .normal [(3,(.ptr KT 0)),(14,(.ptr DK 0)),(15,(.int .i64 zY)),(22,(.bool (decide (a1.ak=([]:List UInt8))&&decide (a1.domain=([]:List UInt8))))),(156,(.bool (((((((((!decide (lO=0))||(!(decide (cS.path.ak=a1.ak)&&decide (cS.path.domain=a1.domain))))||(!decide (cS.size=(-1))))||(!decide (Gq=0)))||(!decide (ob.size=gf)))||(!(decide (ob.path.ak=a1.ak)&&decide (ob.path.domain=a1.domain))))||(!decide (vl=555)))||(!decide (Qv=501)))||(!decide (Qw=501)))))] H'):
 AX Tryz.prog gW 181 H0.length (erase pE) K [(1,(.int .i64 gf)),(3,(.ptr KT 0)),(10,(.ptr G5 0)),(11,(.int .i64 lO)),(12,(.ptr wF 0)),(13,(.int .i64 Gq)),(14,(.ptr DK 0)),(15,(.int .i64 zY)),(17,(.int .i64 vl)),(19,(.int .i64 Qv)),(21,(.int .i64 Qw)),(22,(.bool (decide (a1.ak=([]:List UInt8))&&decide (a1.domain=([]:List UInt8)))))] H:=by
 refine bY fun K' hK=> ?_
 have hle:=hfr.le
 have aL:=aN ai
 have jc:=aN aJ
 have wC:=aN bg
 have Qx:=aN cr
 refine ax (aA ai (aA aJ (aA bg cr))) ?_
 refine gG (fun uo=> ?_) fun uo=> ?_
 · refine ax (aA uo (aA ai (aA aJ (aA bg cr)))) ?_
   exact hK _ _ _ _ _ (dj uo) aq (kn _ hfr (ai.trans rfl) (aJ.trans rfl) (bg.trans rfl) (cr.trans rfl))
 · refine ax (aA uo (aA ai (aA aJ (aA bg cr)))) ?_
   refine gG (fun vH=> ?_) fun vH=> ?_
   · refine ax (aA vH (aA ai (aA aJ (aA bg cr)))) ?_
     exact hK _ _ _ _ _ (dj (aA uo vH)) aq (kn _ hfr (ai.trans rfl) (aJ.trans rfl) (bg.trans rfl) (cr.trans rfl))
   · refine ax (aA vH (aA ai (aA aJ (aA bg cr)))) ?_
     refine gG (fun xq=> ?_) fun xq=> ?_
     · refine ax (aA xq (aA ai (aA aJ (aA bg cr)))) ?_
       exact hK _ _ _ _ _ (dj (aA uo (aA vH xq))) aq (kn _ hfr (ai.trans rfl) (aJ.trans rfl) (bg.trans rfl) (cr.trans rfl))
     · refine ax (aA xq (aA ai (aA aJ (aA bg cr)))) ?_
       refine gG (fun yV=> ?_) fun yV=> ?_
       · refine ax (aA yV (aA ai (aA aJ (aA bg cr)))) ?_
         exact hK _ _ _ _ _ (dj (aA uo (aA vH (aA xq yV)))) aq (kn _ hfr (ai.trans rfl) (aJ.trans rfl) (bg.trans rfl) (cr.trans rfl))
       · refine ax (aA yV (aA ai (aA aJ (aA bg cr)))) ?_
         refine gG (fun um=> ?_) fun um=> ?_
         · refine ax (aA um (aA ai (aA aJ (aA bg cr)))) ?_
           exact hK _ _ _ _ _ (dj (aA uo (aA vH (aA xq (aA yV um))))) aq (kn _ hfr (ai.trans rfl) (aJ.trans rfl) (bg.trans rfl) (cr.trans rfl))
         · refine ax (aA um (aA ai (aA aJ (aA bg cr)))) ?_
           refine gG (fun Cy=> ?_) fun Cy=> ?_
           · refine ax (aA Cy (aA ai (aA aJ (aA bg cr)))) ?_
             exact hK _ _ _ _ _ (dj (aA uo (aA vH (aA xq (aA yV (aA um Cy)))))) aq (kn _ hfr (ai.trans rfl) (aJ.trans rfl) (bg.trans rfl) (cr.trans rfl))
           · refine ax (aA Cy (aA ai (aA aJ (aA bg cr)))) ?_
             refine gG (fun Ea=> ?_) fun Ea=> ?_
             · refine ax (aA Ea (aA ai (aA aJ (aA bg cr)))) ?_
               exact hK _ _ _ _ _ (dj (aA uo (aA vH (aA xq (aA yV (aA um (aA Cy Ea))))))) aq (kn _ hfr (ai.trans rfl) (aJ.trans rfl) (bg.trans rfl) (cr.trans rfl))
             · refine ax (aA Ea (aA ai (aA aJ (aA bg cr)))) ?_
               refine gG (fun GP=> ?_) fun GP=> ?_
               · refine ax (aA GP (aA ai (aA aJ (aA bg cr)))) ?_
                 exact hK _ _ _ _ _ (dj (aA uo (aA vH (aA xq (aA yV (aA um (aA Cy (aA Ea GP)))))))) aq (kn _ hfr (ai.trans rfl) (aJ.trans rfl) (bg.trans rfl) (cr.trans rfl))
               · refine ax (aA GP (aA ai (aA aJ (aA bg cr)))) ?_
                 exact hK _ _ _ _ _ (dj (aA uo (aA vH (aA xq (aA yV (aA um (aA Cy (aA Ea GP)))))))) aq (kn _ hfr (ai.trans rfl) (aJ.trans rfl) (bg.trans rfl) (cr.trans rfl))
theorem xW {UO:Nat} {UP:Nat} {zY:Int} {a1:aB} {gH:aC} {H0 H:AH} (hfr:Fr H0 H0.length [] H) (ai:H[UO]? =some [(.str a1.ak),(.str a1.domain)]) (cr:H[UP]? =some [(.int .i64 gH.kind),(.str gH.arg),(.str gH.path.ak),(.str gH.path.domain),(.int .i64 gH.size)]) (dB:H0.length≤UO) (hi1:H0.length≤UP) (hi2:UO≠UP) {K:Exit→Env→AH→Prop}
 (kn:∀H':AH,Fr H0 H0.length [] H'→H'[UO]? =some [(.str a1.ak),(.str a1.domain)]→H'[UP]? =some [(.int .i64 gH.kind),(.str gH.arg),(.str gH.path.ak),(.str gH.path.domain),(.int .i64 gH.size)]→K .normal [(6,(.bool (((decide (a1.ak=([]:List UInt8))&&decide (a1.domain=([]:List UInt8)))&&(decide (zY=501)))||((((!(decide (a1.ak=([]:List UInt8))&&decide (a1.domain=([]:List UInt8))))&&(decide (zY=0)))&&(decide (gH.path.ak=a1.ak)&&decide (gH.path.domain=a1.domain)))&&(decide (gH.kind=4))))))] H'):
 AX Tryz.prog gW 181 H0.length (erase pF) K [(3,(.ptr UO 0)),(14,(.ptr UP 0)),(15,(.int .i64 zY)),(22,(.bool (decide (a1.ak=([]:List UInt8))&&decide (a1.domain=([]:List UInt8)))))] H:=by
 refine bY fun K' hK=> ?_
 have hle:=hfr.le
 have aL:=aN ai
 have Qx:=aN cr
 refine ax (aA ai cr) ?_
 refine gG (fun Ei=> ?_) fun Ei=> ?_
 · refine ax (aA Ei (aA ai cr)) ?_
   refine gG (fun No=> ?_) fun No=> ?_
   · refine ax (aA No (aA ai cr)) ?_
     exact hK _ _ _ _ _ (dj (aA Ei No)) aq (kn _ hfr (ai.trans rfl) (cr.trans rfl))
   · refine ax (aA No (aA ai cr)) ?_
     exact hK _ _ _ _ _ (dj (aA Ei No)) aq (kn _ hfr (ai.trans rfl) (cr.trans rfl))
 · refine ax (aA Ei (aA ai cr)) ?_
   refine gG (fun I7=> ?_) fun I7=> ?_
   · refine ax (aA I7 (aA ai cr)) ?_
     refine gG (fun Np=> ?_) fun Np=> ?_
     · refine ax (aA Np (aA ai cr)) ?_
       exact hK _ _ _ _ _ (dj (aA Ei (aA I7 Np))) aq (kn _ hfr (ai.trans rfl) (cr.trans rfl))
     · refine ax (aA Np (aA ai cr)) ?_
       exact hK _ _ _ _ _ (dj (aA Ei (aA I7 Np))) aq (kn _ hfr (ai.trans rfl) (cr.trans rfl))
   · refine ax (aA I7 (aA ai cr)) ?_
     exact hK _ _ _ _ _ (dj (aA Ei I7)) aq (kn _ hfr (ai.trans rfl) (cr.trans rfl))
theorem Qy {F:Nat} {a1:aB} {gf:Int} {ff:Int} {H0:AH} {aS:Bool} (h:mH F a1 gf ff=some aS):
 aG Tryz.prog 5 [(.agg [(.str a1.ak),(.str a1.domain)]),(.int .i64 gf),(.int .i64 ff)] H0 fun v H'=>v=(.bool aS)∧H'=H0:=by
 refine lN CK gW [] fun hcl K0 aP H hH hfr=> ?_
 clear hH
 have hle:=hfr.le
 rw [mH.eq_1] at h
 refine cj ?_
 obtain ⟨r4,hy1,h⟩:=au h
 refine bw aq (pP hy1) ?_
 refine cj ?_
 refine bk h (fun hy2 h=> ?_) fun hy2 h=> ?_
 · refine cj ?_
   obtain rfl:=aD h
   exact aP _ _ _ bh (aR (Fr.app hfr) hcl (aU aZ (.bool false)) bf aW ⟨rfl,rfl⟩)
 · refine cj ?_
   obtain ⟨q5,rC⟩:∃q:Nat,H.length=q:=⟨_,rfl⟩
   try rw [rC]
   obtain ⟨t8,cc,h⟩:=au h
   refine bA aq (xT (q5:=q5) (Fr.app hfr) pJ bU cc ?_)
   intro H hfr ai
   have hle:=hfr.le
   have aL:=aN ai
   refine ax ai ?_
   refine bk h (fun cx h=> ?_) fun cx h=> ?_
   · refine ax ai ?_
     obtain rfl:=aD h
     exact aP _ _ _ bh (aR hfr hcl (aU aZ (.bool true)) bf aW ⟨rfl,rfl⟩)
   · refine ax ai ?_
     obtain ⟨o47,dD,h⟩:=au h
     refine bA aq (xU (gf:=gf) (a1:=a1) (q9:=q5) hfr (ai.trans rfl) bU dD ?_)
     · rintro b14 rfl H hfr ai
       try dsimp only at h ai
       have hle:=hfr.le
       have aL:=aN ai
       refine ax ai ?_
       obtain ⟨de,eM,h⟩:=au h
       refine bw aq (rE eM) ?_
       refine ax ai ?_
       obtain ⟨jl,dM,h⟩:=au h
       obtain ⟨jT,gi,h⟩:=au h
       refine ax (aA dM (aA gi ai)) ?_
       obtain ⟨⟨cS,lO⟩,fS,h⟩:=au h
       dsimp only at h
       refine bw aq (cC fS) ?_
       refine ax ai ?_
       obtain ⟨oa,fC,h⟩:=au h
       obtain ⟨yI,eA,h⟩:=au h
       obtain ⟨KJ,eT,h⟩:=au h
       refine ax (aA fC (aA eA (aA eT ai))) ?_
       obtain ⟨F8,fT,h⟩:=au h
       refine bw aq (CI fT) ?_
       refine ax ai ?_
       obtain ⟨F5,jo,h⟩:=au h
       refine ax (aA jo ai) ?_
       obtain ⟨⟨ob,Gq⟩,ie,h⟩:=au h
       dsimp only at h
       refine bw aq (cC ie) ?_
       refine ax ai ?_
       obtain ⟨YA,iF,h⟩:=au h
       obtain ⟨zW,kq,h⟩:=au h
       refine ax (aA iF (aA kq ai)) ?_
       obtain ⟨⟨gH,zY⟩,rD,h⟩:=au h
       dsimp only at h
       refine bw aq (cC rD) ?_
       refine ax ai ?_
       obtain ⟨Up,tH,h⟩:=au h
       obtain ⟨x32,GA,h⟩:=au h
       refine ax (aA tH (aA GA ai)) ?_
       obtain ⟨⟨r33,vl⟩,D9,h⟩:=au h
       dsimp only at h
       refine bw aq (cC D9) ?_
       refine ax ai ?_
       obtain ⟨x35,GB,h⟩:=au h
       refine ax (aA GB ai) ?_
       obtain ⟨⟨r36,Qv⟩,GC,h⟩:=au h
       dsimp only at h
       refine bw aq (cC GC) ?_
       refine ax ai ?_
       obtain ⟨Yc,MY,h⟩:=au h
       refine ax (aA tH (aA MY ai)) ?_
       obtain ⟨⟨r39,Qw⟩,Ye,h⟩:=au h
       dsimp only at h
       refine bw aq (cC Ye) ?_
       refine ax ai ?_
       obtain ⟨wF,abg⟩:∃q:Nat,(H.length+1)=q:=⟨_,rfl⟩
       try rw [abg]
       obtain ⟨DK,abh⟩:∃q:Nat,(H.length+2)=q:=⟨_,rfl⟩
       try rw [abh]
       obtain ⟨G5,abi⟩:∃q:Nat,H.length=q:=⟨_,rfl⟩
       try rw [abi]
       try rw [show G5+1=wF from by omega]
       try rw [show wF+1=DK from by omega]
       refine bA aq (xV (gf:=gf) (KT:=q5) (G5:=G5) (lO:=lO) (wF:=wF) (Gq:=Gq) (DK:=DK) (zY:=zY) (vl:=vl) (Qv:=Qv) (Qw:=Qw) (a1:=a1) (cS:=cS) (ob:=ob) (gH:=gH) (b6 _ (Fr.app (b6 _ (Fr.app (b6 _ (Fr.app (b6 _ (Fr.app (b6 _ (Fr.app (b6 _ (Fr.app hfr)))))))))))) (gq (lU (gq (lU (gq (lU (gq (lU (gq (lU (gq (lU (ai.trans rfl))))))))))))) (gq (lU (gq (lU (gq (lU (gq (lU (gq (lU cL)))))))))) (gq (lU (gq (lU (gq (lU (gq (lU cL)))))))) (gq (lU (gq (lU (gq (lU cL)))))) bU bU bU bU bU bU bU bU bU bU ?_)
       intro H hfr ai aJ bg cr
       have hle:=hfr.le
       have aL:=aN ai
       have jc:=aN aJ
       have wC:=aN bg
       have Qx:=aN cr
       refine ax (aA ai (aA aJ (aA bg cr))) ?_
       refine bk h (fun Yf h=> ?_) fun Yf h=> ?_
       · refine ax (aA ai (aA aJ (aA bg cr))) ?_
         obtain rfl:=aD h
         exact aP _ _ _ bh (aR hfr hcl (aU aZ (.bool false)) bf aW ⟨rfl,rfl⟩)
       · refine ax (aA ai (aA aJ (aA bg cr))) ?_
         refine bA aq (xW (UO:=q5) (UP:=DK) (zY:=zY) (a1:=a1) (gH:=gH) hfr (ai.trans rfl) (cr.trans rfl) bU bU bU ?_)
         intro H hfr ai cr
         have hle:=hfr.le
         have aL:=aN ai
         have Qx:=aN cr
         refine ax (aA ai cr) ?_
         obtain rfl:=aD h
         exact aP _ _ _ bh (aR hfr hcl (aU aZ (.bool (((decide (a1.ak=([]:List UInt8))&&decide (a1.domain=([]:List UInt8)))&&(decide (zY=501)))||((((!(decide (a1.ak=([]:List UInt8))&&decide (a1.domain=([]:List UInt8))))&&(decide (zY=0)))&&(decide (gH.path.ak=a1.ak)&&decide (gH.path.domain=a1.domain)))&&(decide (gH.kind=4)))))) bf aW ⟨rfl,rfl⟩)
end Go.Proofs.cQ
end
section
set_option maxRecDepth 100000
namespace Go.Proofs.cQ
open Go Go.Am Go.Proofs
def gI (a:aB):List UInt8:=if cX a then [60,62] else lP a
theorem YB (c:UInt8):ct c=true→bp c=true:=by
 have:=e7 (p:=fun c=> !ct c||bp c) (by kernel_rfl) c
 intro h;simpa [h] using this
theorem YC {l:List UInt8} (h:l.all bp=true):∀c∈esc l,bp c=true:=by
 intro c hc
 unfold esc at hc
 rw [List.mem_flatMap] at hc
 obtain ⟨d,hd,hc⟩:=hc
 have hv:=List.all_eq_true.1 h d hd
 split at hc
 · simp at hc
   rcases hc with rfl|rfl
   · decide
   · exact hv
 · simp at hc;subst hc;exact hv
theorem abj {a:aB} (h:dn a=true):∀c∈gI a,bp c=true:=by
 unfold gI
 cases hn:cX a with
 |true=>rw [if_pos rfl];decide
 |false=>
  simp only [Bool.false_eq_true,if_false]
  simp only [dn,hn,Bool.false_or,Bool.and_eq_true] at h
  obtain ⟨⟨hl,hd⟩, -⟩:=h
  simp only [CC,Bool.and_eq_true] at hl
  have YD:∀c∈a.domain,bp c=true:=fun c hc=>YB c (GY hd c hc)
  have hlv:∀c∈a.ak,bp c=true:=fun c hc=>List.all_eq_true.1 hl.2 c hc
  intro c hc
  unfold lP at hc
  split at hc
  · simp only [List.mem_cons,List.mem_append,List.mem_nil_iff,or_false] at hc
    rcases hc with rfl|hc|rfl|hc|rfl
    · decide
    · exact hlv c hc
    · decide
    · exact YD c hc
    · decide
  · simp only [List.mem_cons,List.mem_append,List.mem_nil_iff,or_false] at hc
    rcases hc with rfl|rfl|hc|rfl|rfl|hc|rfl
    · decide
    · decide
    · exact YC hl.2 c hc
    · decide
    · decide
    · exact YD c hc
    · decide
theorem YE (a:aB):(gI a).getLast?=some 62:=by
 unfold gI
 split
 · rfl
 · unfold lP
   split
   · rw [show (60::(a.ak++64::(a.domain++[62])):List UInt8)=(60::(a.ak++64::a.domain))++[62] by simp,List.getLast?_concat]
   · rw [show (60::34::(esc a.ak++34::64::(a.domain++[62])):List UInt8)=(60::34::(esc a.ak++34::64::a.domain))++[62] by simp,List.getLast?_concat]
theorem Nq (a:aB):∃t,gI a=60::t:=by
 unfold gI
 split
 · exact ⟨_,rfl⟩
 · unfold lP
   split<;>exact ⟨_,rfl⟩
theorem abk {a:aB} (h:dn a=true):(gI a).length≤256:=by
 unfold gI
 cases hn:cX a with
 |true=>simp
 |false=>
  simp only [dn,hn,Bool.false_or,Bool.and_eq_true,decide_eq_true_eq] at h
  simpa using h.2
theorem Nr {a:aB} (h:cX a=true):a=A0:=by
 unfold cX at h
 simp only [Bool.and_eq_true,decide_eq_true_eq] at h
 cases a;simp at h;simp [h]
theorem YF {a:aB} (h:dn a=true) (more:List UInt8):iN (gI a++more)=(a,more,0):=by
 unfold gI
 cases hn:cX a with
 |true=>
  have:=Nr hn
  subst this
  simp [iN,Bs,nx,dn,cX]
 |false=>
  simp only [Bool.false_eq_true,if_false]
  exact Qr hn h more
def bl (n:Nat):List UInt8:=List.replicate n 32
theorem YG (n:Nat) {t:List UInt8} (h:t.head?≠some 32):(bl n++t).dropWhile blk=t:=by
 induction n with
 |zero=>
  cases t with
  |nil=>rfl
  |cons c r=>
   have:c≠32:=by rintro rfl;exact h rfl
   simp [bl,List.dropWhile_cons,blk,this]
 |succ n ih=>simpa [bl,List.replicate_succ,List.dropWhile_cons,blk] using ih
theorem CL {w f:List UInt8} {a:aB} {n:Nat} {more:List UInt8} (hf:f.map low=w) (h:dn a=true):oB w (f++(bl n++(gI a++more)))=(a,more,true):=by
 have hlen:w.length=f.length:=by rw [←hf];simp
 have hfr:dN w (f++(bl n++(gI a++more)))=true:=by
  unfold dN
  simp only [Bool.and_eq_true,decide_eq_true_eq]
  refine ⟨by rw [hlen];simp, ?_⟩
  rw [hlen,List.take_left];exact hf
 obtain ⟨t,ht⟩:=Nq a
 have hd:((f++(bl n++(gI a++more))).drop w.length).dropWhile blk=gI a++more:=by
  rw [hlen,List.drop_left]
  exact YG n (by rw [ht];simp)
 unfold oB
 rw [if_pos hfr,hd,YF h more]
 rfl
theorem oD {wd f:List UInt8} {a:aB} {n:Nat} {more:List UInt8} (hw:∀c∈wd,bp c=true∧nb c=true) (hf:∀c∈f,bp c=true) (h:dn a=true)
 (hm:∀c∈more,bp c=true) (hl:more.getLast?≠some 32):fy (wd++((32::f)++(bl n++(gI a++more))))=gB (dL (wd.map low)) ((32::f)++(bl n++(gI a++more))):=by
 unfold fy
 have hp:=abj h
 have hb:∀c∈bl n,bp c=true:=by
  intro c hc
  have:=List.eq_of_mem_replicate hc
  subst this;decide
 have hv:(wd++((32::f)++(bl n++(gI a++more)))).all bp=true:=by
  rw [List.all_eq_true]
  intro c hc
  simp only [List.mem_append,List.mem_cons] at hc
  rcases hc with hc|(rfl|hc)|hc|hc|hc
  · exact (hw c hc).1
  · decide
  · exact hf c hc
  · exact hb c hc
  · exact hp c hc
  · exact hm c hc
 rw [if_pos hv]
 have hla:(wd++((32::f)++(bl n++(gI a++more)))).getLast?≠some 32:=by
  have e:wd++((32::f)++(bl n++(gI a++more)))=(wd++((32::f)++bl n))++(gI a++more):=by simp
  rw [e,List.getLast?_append,List.getLast?_append,YE]
  cases hm2:more.getLast? with
  |none=>simp
  |some c=>rw [hm2] at hl;simpa using hl
 rw [G4 hla,show wd++((32::f)++(bl n++(gI a++more)))=wd++32::(f++(bl n++(gI a++more))) by simp]
 have:=CE (q:=nb) (l:=wd) (x:=32) (by decide) (fun c hc=>(hw c hc).2) (f++(bl n++(gI a++more)))
 rw [this.1,this.2]
 rfl
def eD (n:Nat):UInt8:=UInt8.ofNat (48+n % 10)
theorem Ns (n:Nat):eE (eD n)=true∧(eD n).toNat - 48=n % 10:=by
 have:(List.range 10).all (fun m=>eE (UInt8.ofNat (48+m))&&decide ((UInt8.ofNat (48+m)).toNat - 48=m))=true:=by kernel_rfl
 have:=List.all_eq_true.1 this (n % 10) (by simp;omega)
 simpa [eD] using this
theorem YH (n:Nat) (hn:n≤1000000000):UInt8.ofInt (IntKind.wrap .i64 (48+(Int.tmod (n:Int) 10)))=eD n:=by
 have:Int.tmod (n:Int) 10=((n % 10:Nat):Int):=rfl
 rw [this,wr (by omega) (by omega)]
 have h10:(List.range 10).all (fun m:Nat=>decide (UInt8.ofInt (48+(m:Int))=UInt8.ofNat (48+m)))=true:=by kernel_rfl
 exact of_decide_eq_true (List.all_eq_true.1 h10 (n % 10) (by simp;omega))
def lQ:Nat→Nat→List UInt8→List UInt8
 |0,_,s=>s
 |k+1,n,s=>if 10≤n then lQ k (n / 10) (eD (n / 10)::s) else s
def dec (n:Nat):List UInt8:=lQ 20 n [eD n]
theorem UQ:∀(k n G:Nat) (s:List UInt8),n≤1000000000→n<10 ^ (k+1)→s.length+k≤1000→k<G→iter dw G ((n:Int),s)=some (.inr (lQ k n s)):=by
 intro k
 induction k with
 |zero=>intro n G s _ h _ hG;obtain ⟨G,rfl⟩:=bH hG;exact bu (by simp [dw,lQ];omega)
 |succ k ih=>
  intro n G s hn hk hs hG
  obtain ⟨G,rfl⟩:=bH hG
  by_cases h:10≤n
  · have:dw ((n:Int),s)=some (.cA (((n / 10:Nat):Int),eD (n / 10)::s)):=by
     simp only [dw]
     have:Int.tdiv (n:Int) 10=((n / 10:Nat):Int):=rfl
     rw [if_pos (by simp;omega),this,show IntKind.wrap .i64 ((n / 10:Nat):Int)=((n / 10:Nat):Int) from wr (by omega) (by omega),YH _ (by omega),bD (by simp;omega)]
     rfl
    rw [bW this,ih (n / 10) G _ (by omega) (by rw [Nat.pow_succ] at hk;omega) (by simp;omega) (by omega)]
    simp [lQ,h]
  · have:dw ((n:Int),s)=some (.dQ s):=by
     simp only [dw]
     rw [if_neg (by simp;omega)]
    rw [bu this]
    simp [lQ,h]
theorem adR {n F:Nat} (hn:n≤999999999) (hF:100<F):kJ F (n:Int)=some (dec n):=by
 unfold kJ dec
 rw [YH n (by omega),UQ 20 n F _ (by omega) (by omega) (by simp) (by omega)]
 rfl
theorem YI:∀(k n:Nat) (s:List UInt8),s.all eE=true→(lQ k n s).all eE=true:=by
 intro k
 induction k with
 |zero=>intro n s h;exact h
 |succ k ih=>
  intro n s h
  unfold lQ
  split
  · exact ih _ _ (by simp [h,(Ns (n / 10)).1])
  · exact h
theorem Nt:∀(k n:Nat) (s:List UInt8),n<10 ^ (k+1)→lQ k n (eD n::s)=lQ k n [eD n]++s:=by
 intro k
 induction k with
 |zero=>intro n s _;rfl
 |succ k ih=>
  intro n s h
  unfold lQ
  split
  · have h2:n / 10<10 ^ (k+1):=by rw [Nat.pow_succ] at h;omega
    rw [ih (n / 10) (eD n::s) h2,ih (n / 10) [eD n] h2];simp
  · rfl
theorem YJ:∀(k n:Nat),n<10 ^ (k+1)→vK (lQ k n [eD n])=n∧(lQ k n [eD n]).length≤k+1∧lQ k n [eD n]≠[]:=by
 intro k
 induction k with
 |zero=>
  intro n h
  refine ⟨?_,by simp [lQ],by simp [lQ]⟩
  simp only [lQ,vK,List.foldl_cons,List.foldl_nil,(Ns n).2]
  simp at h ⊢;omega
 |succ k ih=>
  intro n h
  unfold lQ
  split
  · have h2:n / 10<10 ^ (k+1):=by rw [Nat.pow_succ] at h;omega
    rw [Nt k (n / 10) [eD n] h2]
    obtain ⟨i1,i2,i3⟩:=ih (n / 10) h2
    refine ⟨?_,by simp;omega,by simp⟩
    unfold vK at i1 ⊢
    rw [List.foldl_append,i1]
    simp only [List.foldl_cons,List.foldl_nil,(Ns n).2]
    omega
  · refine ⟨?_,by simp,by simp⟩
    simp only [vK,List.foldl_cons,List.foldl_nil,(Ns n).2]
    omega
theorem UR:∀(j k n:Nat) (s:List UInt8),n<10 ^ (k+1)→lQ (k+j) n s=lQ k n s:=by
 intro j k
 induction k with
 |zero=>
  intro n s h
  cases j with
  |zero=>rfl
  |succ j=>rw [Nat.zero_add];unfold lQ;rw [if_neg (by simp at h;omega)]
 |succ k ih=>
  intro n s h
  rw [Nat.add_right_comm]
  unfold lQ
  split
  · exact ih _ _ (by rw [Nat.pow_succ] at h;omega)
  · rfl
theorem Nu {n:Nat} (hn:n≤999999999):vK (dec n)=n∧(dec n).length≤9∧dec n≠[]∧(dec n).all eE=true:=by
 unfold dec
 rw [show 20=8+12 from rfl,UR 12 8 n _ (by omega)]
 obtain ⟨h1,h2,h3⟩:=YJ 8 n (by omega)
 exact ⟨h1,h2,h3,YI _ _ _ (by simp [(Ns n).1])⟩
theorem YK (c:UInt8):eE c=true→bp c=true∧c≠32:=by
 have:=e7 (p:=fun c=> !eE c||(bp c&& !decide (c=32))) (by kernel_rfl) c
 intro h;simpa [h] using this
theorem UT {n:Nat} (hn:n≤999999999) {w:List UInt8} (hw:w.map low=Bt):oC (w++dec n)=some n:=by
 obtain ⟨h1,h2,h3,h4⟩:=Nu hn
 have hl:w.length=6:=by have:=congrArg List.length hw;simpa using this
 unfold oC
 have e:(w++dec n).drop 6=dec n:=by rw [←hl,List.drop_left]
 have hf:dN Bt (w++dec n)=true:=by
  unfold dN
  simp only [Bool.and_eq_true,decide_eq_true_eq]
  refine ⟨by simp [hl], ?_⟩
  have:(Bt.length)=w.length:=by rw [hl];rfl
  rw [this,List.take_left];exact hw
 rw [e,if_pos ⟨hf,h3,h2,h4⟩,h1]
theorem KU {n F:Nat} (h:n≤20) (hF:100<F):iter (ei (n:Int)) F ([],0)=some (.inr (bl n)):=by
 have hh:=lpo (ρ:=Bool) (s:=List.range n) (body:=ei (n:Int)) (mk:=fun (a:List UInt8) i=>(a,(i:Int))) (tt:=fun a=>a) (step:=fun a _=>a++[32])
  (fun a i=>a=bl i) ?_ ?_ (F:=F) (a:=[]) (by simp;omega) rfl
 · rw [show (([]:List UInt8),(0:Int))=(([]:List UInt8),((0:Nat):Int)) from rfl,hh.1]
   have:=hh.2
   simp only [List.length_range] at this
   rw [this]
 · intro a i x hx hI
   have hi:=(List.getElem?_eq_some_iff.1 hx).1
   simp only [List.length_range] at hi
   subst hI
   refine ⟨?_,by simp [bl,List.replicate_succ']⟩
   simp only [ei]
   rw [if_pos (by simpa using hi),bD (by simp [bl];omega)]
   simp only [Option.bind_some]
   rw [Iw (by omega)]
 · intro a hI
   simp only [ei]
   rw [if_neg (by simp)]
theorem Y9 (a:aB) (size CM:Int):∃F,mH F a size CM=some true:=by
 refine ⟨100000+100, ?_⟩
 unfold mH ji
 rw [Nj]
 simp only [Option.bind_some,Bool.not_true,Bool.false_eq_true,if_false]
 by_cases h1:300<a.ak.length
 · rw [if_pos (by simp;omega)];rfl
 · rw [if_neg (by simp;omega)]
   by_cases h2:600<a.domain.length
   · rw [if_pos (by simp;omega)];rfl
   · rw [if_neg (by simp;omega),zA (by omega) (by omega) (by omega)]
     simp only [Option.bind_some]
     cases hr:dn a with
     |false=>simp
     |true=>
      simp only [Bool.not_true,Bool.false_eq_true,if_false]
      by_cases h3:size<0
      · rw [if_pos (by simpa using h3)];rfl
      · rw [if_neg (by simpa using h3)]
        by_cases h4:999999999<size
        · rw [if_pos (by simpa using h4)];rfl
        · rw [if_neg (by simpa using h4)]
          by_cases h5:CM<0
          · rw [if_pos (by simpa using h5)];rfl
          · rw [if_neg (by simpa using h5)]
            simp only [Option.bind_some]
            by_cases h6:20<CM
            · rw [if_pos (by simpa using h6)]
            · rw [if_neg (by simpa using h6)]
              obtain ⟨n,rfl⟩:∃n:Nat,size=(n:Int):=⟨size.toNat,by omega⟩
              obtain ⟨b,rfl⟩:∃b:Nat,CM=(b:Int):=⟨CM.toNat,by omega⟩
              rw [KU (by omega) (by omega)]
              simp only [Option.bind_some]
              rw [I3 (by omega) (by omega) (by omega)]
              have KV:(if cX a then ([60,62]:List UInt8) else if dn a then lP a else [])=gI a:=by
               unfold gI;rw [hr];rfl
              rw [KV]
              simp only [Option.bind_some]
              have hpl:=abk hr
              have hbl:(bl b).length=b:=by simp [bl]
              obtain ⟨d1,d2,d3,d4⟩:=Nu (n:=n) (by omega)
              have YD:∀c∈dec n,bp c=true∧c≠32:=fun c hc=>YK c (List.all_eq_true.1 d4 c hc)
              rw [bD (by simp;omega)];simp only [Option.bind_some]
              rw [bD (by simp;omega)];simp only [Option.bind_some]
              have e1:([77,65,73,76,32,70,82,79,77,58]++bl b)++gI a=[77,65,73,76]++((32::[70,82,79,77,58])++(bl b++(gI a++[]))):=by simp
              rw [jG (by simp;omega) (by omega),e1,oD (by decide) (by decide) hr (by simp) (by simp)]
              simp only [Option.bind_some]
              have k3:dL ([77,65,73,76].map low)=3:=by decide
              have v1:gB (dL ([77,65,73,76].map low)) ((32::[70,82,79,77,58])++(bl b++(gI a++[])))=(aC.mk 3 [] a (-1),0):=by
               rw [k3]
               have:=CL (w:=jh) (f:=32::[70,82,79,77,58]) (n:=b) (more:=[]) (by decide) hr
               simp only [gB,sy,this]
               simp
              rw [v1]
              rw [bD (by simp;omega)];simp only [Option.bind_some]
              rw [bD (by simp;omega)];simp only [Option.bind_some]
              rw [bD (by simp;omega)];simp only [Option.bind_some]
              rw [adR (by omega) (by omega)];simp only [Option.bind_some]
              rw [bD (by simp;omega)];simp only [Option.bind_some]
              have e2:(([109,97,105,108,32,102,114,111,109,58]++bl b)++gI a)++[32,83,73,90,69,61]++dec n=[109,97,105,108]++((32::[102,114,111,109,58])++(bl b++(gI a++([32,83,73,90,69,61]++dec n)))):=by simp
              have hml:([32,83,73,90,69,61]++dec n).getLast?≠some 32:=by
               rw [List.getLast?_append]
               cases hg:(dec n).getLast? with
               |none=>exact absurd (List.getLast?_eq_none_iff.1 hg) d3
               |some c=>
                have:=(YD c (List.mem_of_getLast? hg)).2
                simpa using this
              have hmv:∀c∈[32,83,73,90,69,61]++dec n,bp c=true:=by
               intro c hc
               rcases List.mem_append.1 hc with hc|hc
               · exact (by decide:∀c∈([32,83,73,90,69,61]:List UInt8),bp c=true) c hc
               · exact (YD c hc).1
              rw [jG (by simp;omega) (by omega),e2,oD (by decide) (by decide) hr hmv hml]
              simp only [Option.bind_some]
              have k3':dL ([109,97,105,108].map low)=3:=by decide
              have v2:gB (dL ([109,97,105,108].map low)) ((32::[102,114,111,109,58])++(bl b++(gI a++([32,83,73,90,69,61]++dec n))))=(aC.mk 3 [] a (n:Int),0):=by
               rw [k3']
               have:=CL (w:=jh) (f:=32::[102,114,111,109,58]) (n:=b) (more:=[32,83,73,90,69,61]++dec n) (by decide) hr
               have hz:=UT (n:=n) (by omega) (w:=[32,83,73,90,69,61]) (by decide)
               simp only [gB,sy,this,hz]
               simp
              rw [v2]
              rw [bD (by simp;omega)];simp only [Option.bind_some]
              rw [bD (by simp;omega)];simp only [Option.bind_some]
              have e3:([82,67,80,84,32,84,79,58]++bl b)++gI a=[82,67,80,84]++((32::[84,79,58])++(bl b++(gI a++[]))):=by simp
              rw [jG (by simp;omega) (by omega),e3,oD (by decide) (by decide) hr (by simp) (by simp)]
              simp only [Option.bind_some]
              have k4:dL ([82,67,80,84].map low)=4:=by decide
              have v3:gB (dL ([82,67,80,84].map low)) ((32::[84,79,58])++(bl b++(gI a++[])))=if cX a=false then (aC.mk 4 [] a 0,0) else (Z,501):=by
               rw [k4]
               have:=CL (w:=zX) (f:=32::[84,79,58]) (n:=b) (more:=[]) (by decide) hr
               simp only [gB,wK,this]
               cases cX a<;>simp
              rw [v3]
              rw [bD (by simp;omega)];simp only [Option.bind_some]
              rw [bD (by simp;omega)];simp only [Option.bind_some]
              have e4:([77,65,73,76,32,70,82,79,77,58]++gI a)++[32,66,79,68,89,61,55,66,73,84]=[77,65,73,76]++((32::[70,82,79,77,58])++(bl 0++(gI a++[32,66,79,68,89,61,55,66,73,84]))):=by simp [bl]
              rw [jG (by simp;omega) (by omega),e4,oD (by decide) (by decide) hr (by decide) (by decide)]
              simp only [Option.bind_some]
              have v4:gB (dL ([77,65,73,76].map low)) ((32::[70,82,79,77,58])++(bl 0++(gI a++[32,66,79,68,89,61,55,66,73,84])))=(Z,555):=by
               rw [k3]
               have:=CL (w:=jh) (f:=32::[70,82,79,77,58]) (n:=0) (more:=[32,66,79,68,89,61,55,66,73,84]) (by decide) hr
               have hz:oC [32,66,79,68,89,61,55,66,73,84]=none:=by kernel_rfl
               simp only [gB,sy,this,hz]
               simp
              rw [v4]
              rw [bD (by simp;omega)];simp only [Option.bind_some]
              have e5:[82,67,80,84,32,70,82,79,77,58]++gI a=[82,67,80,84]++((32::[70,82,79,77,58])++(bl 0++(gI a++[]))):=by simp [bl]
              rw [jG (by simp;omega) (by omega),e5,oD (by decide) (by decide) hr (by simp) (by simp)]
              simp only [Option.bind_some]
              have v5:gB (dL ([82,67,80,84].map low)) ((32::[70,82,79,77,58])++(bl 0++(gI a++[])))=(Z,501):=by
               rw [k4]
               have hfr:dN zX ((32::[70,82,79,77,58])++(bl 0++(gI a++[])))=false:=by
                unfold dN
                have:((((32::[70,82,79,77,58])++(bl 0++(gI a++[])):List UInt8).take zX.length).map low)=[32,102,114,111]:=by simp;decide
                rw [this];simp
               simp only [gB,wK,oB,hfr]
               simp
              rw [v5]
              rw [bD (by simp;omega)];simp only [Option.bind_some]
              have e6:([77,65,73,76,32,70,82,79,77,58]++gI a)++[120]=[77,65,73,76]++((32::[70,82,79,77,58])++(bl 0++(gI a++[120]))):=by simp [bl]
              rw [jG (by simp;omega) (by omega),e6,oD (by decide) (by decide) hr (by decide) (by decide)]
              simp only [Option.bind_some]
              have v6:gB (dL ([77,65,73,76].map low)) ((32::[70,82,79,77,58])++(bl 0++(gI a++[120])))=(Z,501):=by
               rw [k3]
               have:=CL (w:=jh) (f:=32::[70,82,79,77,58]) (n:=0) (more:=[120]) (by decide) hr
               simp only [gB,sy,this]
               simp
              rw [v6]
              cases hn:cX a with
              |true=>
               have hn2:=hn
               unfold cX at hn2
               simp [hn2]
              |false=>
               have hn2:=hn
               unfold cX at hn2
               simp [hn2]
end Go.Proofs.cQ
end
section
set_option maxRecDepth 100000
namespace Go.Proofs.cQ
open Go Go.Am Go.Proofs
theorem Qz (n:Nat):(List.range 256).all (fun m=>decide (je (n+30) (UInt8.ofNat m)=some (eR (UInt8.ofNat m))))=true:=by kernel_rfl
theorem Nv {F:Nat} (hF:30≤F) (c:UInt8):je F c=some (eR c):=by
 obtain ⟨n,rfl⟩:∃n,F=n+30:=⟨F - 30,by omega⟩
 have:=e7 (p:=fun c=>decide (je (n+30) c=some (eR c))) (Qz n) c
 simpa using this
def pr:Bool→List UInt8→Bool
 |_,[]=>true
 |p,c::r=>(if c=46 then p&&decide (r≠[]) else eR c)&&pr (decide (c≠46)) r
theorem Nw {F:Nat} {s:List UInt8} (hs:s.length≤90000) (DH:30≤F):∀(r:List UInt8) (i G:Nat) (p:Bool),s.drop i=r→i+r.length=s.length→r.length<G→
 (if 0<i then ∃x,s[i - 1]? =some x∧p= !decide (x=46) else p=false)→iter (fL F s) G (i:Int)=some (if pr p r then .inr () else .inl false):=by
 intro r
 induction r with
 |nil=>
  intro i G p hd hi hG hp
  obtain ⟨G,rfl⟩:=bH hG
  rw [bu (t:=()) (by simp only [fL];rw [if_neg (by simp at hi ⊢;omega)])]
  rfl
 |cons c r ih=>
  intro i G p hd hi hG hp
  obtain ⟨G,rfl⟩:=bH (show 0<G by omega)
  obtain ⟨h1,h2,h3⟩:=drop_cons hd
  simp only [List.length_cons] at hi hG
  have GR:jA s (i:Int)=some (decide (c=46)&&p&&decide (r≠[])):=by
   unfold jA
   rw [bz h2,Option.bind_some]
   by_cases hc:c=46
   · rw [if_pos (by simpa using hc)]
     by_cases h0:0<i
     · rw [if_pos h0] at hp
       obtain ⟨x,hx,hpx⟩:=hp
       rw [if_pos (by simpa using h0),wi (by omega)]
       by_cases hr:r=[]
       · rw [if_neg (by subst hr;simp at hi ⊢;omega)];simp [hr]
       · rw [if_pos (by have:0<r.length:=List.length_pos_iff.2 hr
                        simp;omega),wr (by omega) (by omega),show (i:Int) - 1=((i - 1:Nat):Int) by omega,bz hx,Option.bind_some,hpx]
         simp [hc,hr]
     · rw [if_neg h0] at hp
       rw [if_neg (by simpa using h0),hp];simp
   · rw [if_neg (by simpa using hc)];simp [hc]
  have hst:fL F s (i:Int)=if (if c=46 then p&&decide (r≠[]) else eR c)=true then some (.cA ((i+1:Nat):Int)) else some (.ret false):=by
   simp only [fL]
   rw [if_pos (by simpa using h1),GR,Option.bind_some]
   unfold mw
   rw [bz h2]
   simp only [Option.bind_some,Nv DH]
   by_cases hc:c=46
   · have h46:eR c=false:=by subst hc;decide
     simp only [hc,decide_true,Bool.true_and,if_true]
     subst hc
     cases hpp:(p&&decide (r≠[])) with
     |true=>simp only [Bool.not_true,Bool.false_eq_true,if_false,Option.bind_some,if_true];rw [wi (by omega)]
     |false=>simp only [Bool.not_false,if_true,Option.bind_some,h46,Bool.false_eq_true,if_false]
   · simp only [hc,decide_false,Bool.false_and,Bool.not_false,if_true,if_false,Option.bind_some]
     cases eR c with
     |true=>simp only [Bool.not_true,Bool.false_eq_true,if_false,if_true];rw [wi (by omega)]
     |false=>simp
  have KV:pr p (c::r)=((if c=46 then p&&decide (r≠[]) else eR c)&&pr (decide (c≠46)) r):=rfl
  rw [KV]
  obtain ⟨q,hq⟩:∃q,q=(if c=46 then p&&decide (r≠[]) else eR c):=⟨_,rfl⟩
  rw [←hq] at hst ⊢
  cases q with
  |false=>
   have ur:=hst.trans (if_neg (by decide))
   rw [c6 ur]
   simp
  |true=>
   have ur:=hst.trans (if_pos rfl)
   rw [bW ur,ih (i+1) G (decide (c≠46)) h3 (by omega) (by omega) (by rw [if_pos (by omega)];exact ⟨c,by simpa using h2,by simp⟩)]
   simp
theorem UU:∀(r:List UInt8) (p:Bool),r≠[]→pr p r=match aV r with|[]=>false|h::t=>h.all eR&&(p||h !=[])&&t.all fun q=>q !=[]&&q.all eR:=by
 intro r
 induction r with
 |nil=>intro p h;exact absurd rfl h
 |cons c r ih=>
  intro p _
  simp only [pr,aV]
  by_cases hc:c=46
  · simp only [if_pos hc]
    by_cases hr:r=[]
    · subst hr;simp [aV]
    · have h2:=ih false hr
      have hd:decide (c≠46)=false:=by simpa using hc
      rw [hd,h2]
      cases hs:aV r with
      |nil=>exact absurd hs (ic r)
      |cons h t=>
       simp only [hr,ne_eq,not_false_eq_true,decide_true,Bool.and_true,List.all_nil,Bool.true_and,List.all_cons,Bool.false_or]
       cases p<;>cases h.all eR<;>cases (h !=[])<;>simp
  · simp only [if_neg hc]
    have hd:decide (c≠46)=true:=by simpa using hc
    rw [hd]
    by_cases hr:r=[]
    · subst hr;simp [aV,pr]
    · rw [ih true hr]
      cases hs:aV r with
      |nil=>exact absurd hs (ic r)
      |cons h t=>
       simp only [List.all_cons,Bool.true_or,Bool.and_true]
       have:(c::h !=[])=true:=rfl
       rw [this]
       cases eR c<;>cases p<;>simp
theorem Nx {F:Nat} {s:List UInt8} (hs:s.length≤80000) (hF:s.length+30<F):k9 F s=some (iz s):=by
 unfold k9
 rw [show (0:Int)=((0:Nat):Int) from rfl,Nw (by omega) (by omega) s 0 F false rfl (by simp) (by omega) (by simp)]
 simp only [Option.bind_some]
 by_cases h:s=[]
 · subst h;simp [pr,iz,aV]
 · rw [UU s false h]
   unfold iz
   cases hsp:aV s with
   |nil=>exact absurd hsp (ic s)
   |cons a t=>
    simp only [Bool.false_or,List.all_cons]
    cases h1:a.all eR<;>cases h2:(a !=[])<;>cases h3:(t.all fun q=>q !=[]&&q.all eR)<;>simp [h]
theorem QA (x:UInt8):(if decide (x<32)=true then some true else some (decide (126<x)))=some (!bp x):=by
 have:=e7 (p:=fun x=>decide ((if decide (x<32)=true then some true else some (decide (126<x)))=some (!bp x))) (by kernel_rfl) x
 exact of_decide_eq_true this
theorem YL {s:List UInt8} {F:Nat} (hF:65<F):nQ F s=some (CC s):=by
 unfold nQ CC
 by_cases h:s=[]
 · subst h;rfl
 · by_cases h2:64<s.length
   · rw [if_pos (by simp;omega),decide_eq_false (by omega)];simp
   · rw [if_neg (by simp [h];omega),decide_eq_true (by omega)]
     have hh:=scan (s:=s) (F:=F) (body:=fO s) (mk:=fun i=>(i:Int)) (p:=bp) (rr:=fun _=>false) (tt:=()) ?_ ?_ ?_ (by omega)
     · cases ha:s.all bp with
       |true=>have:=hh.1 ha;rw [show ((0:Nat):Int)=0 from rfl] at this;rw [this];simp [h]
       |false=>obtain ⟨j,hj⟩:=hh.2 ha;rw [show ((0:Nat):Int)=0 from rfl] at hj;rw [hj];simp
     · intro i x hx hp
       have hi:=(List.getElem?_eq_some_iff.1 hx).1
       simp only [fO,jE]
       rw [if_pos (by simpa using hi),bz hx,Option.bind_some,QA,Option.bind_some,hp,wi (by omega)];rfl
     · intro i x hx hp
       have hi:=(List.getElem?_eq_some_iff.1 hx).1
       simp only [fO,jE]
       rw [if_pos (by simpa using hi),bz hx,Option.bind_some,QA,Option.bind_some,hp];rfl
     · simp [fO]
theorem Fa {s:List UInt8} {F:Nat} (hF:99010<F):dF F s=some (fV s):=by
 by_cases h:s.length≤99000
 · exact adI h (by omega)
 · unfold dF fV
   rw [if_pos (by simp;omega),decide_eq_false (by omega)]
   rfl
theorem QB {a:aB} (hl:a.ak.length≤80000):∀(r:List UInt8) (i F:Nat) (b:List UInt8),a.ak.drop i=r→i+r.length=a.ak.length→b.length≤2*i+2→r.length<F→
 iter (gx a) F (b,(i:Int))=some (.inr (b++esc r)):=by
 intro r
 induction r with
 |nil=>
  intro i F b hd hi hb hF
  obtain ⟨G,rfl⟩:=bH hF
  rw [bu (t:=b) (by simp only [gx];rw [if_neg (by simp at hi ⊢;omega)])]
  simp [esc]
 |cons c r ih=>
  intro i F b hd hi hb hF
  obtain ⟨G,rfl⟩:=bH (show 0<F by omega)
  obtain ⟨h1,h2,h3⟩:=drop_cons hd
  simp only [List.length_cons] at hi hF
  have hst:gx a (b,(i:Int))=some (.cA (b++(if c=34∨c=92 then [92,c] else [c]),((i+1:Nat):Int))):=by
   simp only [gx,nR]
   rw [if_pos (by simpa using h1),bz h2]
   simp only [Option.bind_some]
   by_cases KN:c=34
   · subst KN
     simp only [decide_true,if_true,Option.bind_some,true_or]
     rw [fU (by simp;omega) (by omega),Option.bind_some,fU (by simp;omega) (by omega),Option.bind_some,wi (by omega)]
     simp
   · by_cases Qn:c=92
     · subst Qn
       rw [if_neg (by decide)]
       simp only [decide_true,Option.bind_some,if_true,or_true]
       rw [fU (by simp;omega) (by omega),Option.bind_some,fU (by simp;omega) (by omega),Option.bind_some,wi (by omega)]
       simp
     · rw [if_neg (by simpa using KN)]
       simp only [Option.bind_some]
       rw [if_neg (by simpa using Qn),fU (by simp;omega) (by omega),Option.bind_some,wi (by omega),if_neg (by simp [KN,Qn])]
  rw [bW hst,ih (i+1) G _ h3 (by omega) (by split<;>simp<;>omega) (by omega)]
  simp [esc]
theorem RD {a:aB} {F:Nat} (hn:cX a=false) (hl:a.ak.length≤80000) (hd:a.domain.length≤80000) (hF:a.ak.length+30<F):kA F a=some (lP a):=by
 have he:=Na a.ak
 unfold kA lP
 rw [cX] at hn
 rw [hn,Nx hl hF]
 simp only [Bool.false_eq_true,if_false,Option.bind_some]
 cases iz a.ak with
 |true=>
  simp only [if_true]
  rw [bD (by simp;omega),Option.bind_some,bD (by simp;omega),Option.bind_some,bD (by simp;omega),Option.bind_some,bD (by simp;omega),Option.bind_some]
  simp
 |false=>
  simp only [Bool.false_eq_true,if_false]
  rw [show (([60,34]:List UInt8),(0:Int))=(([60,34]:List UInt8),((0:Nat):Int)) from rfl,QB hl a.ak 0 F [60,34] (by simp) (by simp) (by simp) (by omega)]
  simp only [Option.bind_some]
  try unfold nS
  rw [fU (by simp;omega) (by omega),Option.bind_some,bD (by simp;omega),Option.bind_some,bD (by simp;omega),Option.bind_some,bD (by simp;omega),Option.bind_some]
  simp
theorem Ny {a:aB} {F:Nat} (hl:a.ak.length≤80000) (hd:a.domain.length≤80000) (hF:99010<F):lg F a=some (dn a):=by
 unfold lg mz dn
 cases hn:cX a with
 |true=>rw [cX] at hn;rw [hn];rfl
 |false=>
  have hn':=hn
  rw [cX] at hn
  rw [hn]
  simp only [Bool.false_eq_true,if_false,Bool.false_or]
  rw [YL (by omega),Option.bind_some]
  cases hlb:CC a.ak with
  |false=>rfl
  |true=>
   simp only [if_true,Bool.true_and]
   rw [Fa hF,Option.bind_some]
   cases hdb:fV a.domain with
   |false=>rfl
   |true=>
    simp only [if_true,Bool.true_and]
    rw [RD hn' hl hd (by omega)]
    simp
    omega
end Go.Proofs.cQ
end
section
set_option maxRecDepth 100000
namespace Go.Proofs.cQ
open Go Go.Am Go.Proofs
theorem G6 {s r:List UInt8} {n:Nat} (h:At s n r):iK (n:Int) s=some (match r with|[]=>false|c::_=>ct c):=by
 unfold iK
 cases r with
 |nil=>have:=h.len;rw [if_neg (by simp at this ⊢;omega)]
 |cons c r=>
  obtain ⟨h1,h2,h3⟩:=drop_cons h.dr
  rw [if_pos (by simpa using h1),bz h2,Option.bind_some,vI,Option.bind_some,vJ]
  simp only [ct]
  cases EX c<;>cases eE c<;>simp
  by_cases h45:c=45
  · simp [h45]
  · by_cases h46:c=46
    · simp [h46]
    · by_cases h91:c=91
      · simp [h91]
      · simp [h45,h46,h91]
        by_cases h93:c=93
        · simp [h93]
        · simp [h45,h46,h91,h93]
theorem KW {s:List UInt8}:∀(r:List UInt8) (n G:Nat),At s n r→r.length<G→iter (fo s) G (n:Int)=some (.inr ((n+(r.takeWhile ct).length:Nat):Int)):=by
 intro r
 induction r with
 |nil=>
  intro n G h hG
  obtain ⟨G,rfl⟩:=bH hG
  rw [bu (t:=(n:Int)) (by simp only [fo];rw [G6 h];rfl)]
  simp
 |cons c r ih=>
  intro n G h hG
  obtain ⟨G,rfl⟩:=bH hG
  have:=h.len;have:=h.sm
  by_cases hq:ct c=true
  · rw [bW (s':=((n+1:Nat):Int)) (by simp only [fo];rw [G6 h];simp only [hq,Option.bind_some,if_true];rw [wi (by omega)]),ih (n+1) G h.next (by simp at hG;omega),List.takeWhile_cons,if_pos hq]
    simp only [List.length_cons]
    congr 3
    omega
  · rw [bu (t:=(n:Int)) (by simp only [fo];rw [G6 h];simp only [hq,Option.bind_some];rfl),List.takeWhile_cons,if_neg hq]
    simp
theorem I8 {s:List UInt8} {F:Nat} (hs:s.length≤90000) (hF:s.length<F):jL F s=some (((s.takeWhile ct).length:Nat):Int):=by
 unfold jL
 rw [show (0:Int)=((0:Nat):Int) from rfl,KW s 0 F (At.zero hs) hF]
 simp
theorem YM {x:List UInt8} {F:Nat} (hx:x.length≤90000) (hF:x.length<F):((gN x).bind fun t15=>if t15=true then some (.ret false) else ((iter (dS x) F 0).bind fun o24=>match o24 with| .inr ()=>some (.cA 0)| .inl F8=>some (.ret F8)))=(some (if gJ x then .cA 0 else .ret false):Option (St Bool Unit Int)):=by
 unfold gN gJ
 cases x with
 |nil=>simp
 |cons c r=>
  obtain ⟨y,hy⟩:=yX c r
  rw [if_neg (by simp),show idx (c::r) 0=some c by simp [idx],Option.bind_some,vL hy (by omega),hy]
  by_cases h1:c=45
  · simp [h1]
  · by_cases h2:y=45
    · simp [h1,h2]
    · have hh:=scan (s:=c::r) (body:=dS (c::r)) (mk:=fun i=>(i:Int)) (p:=yW) (rr:=fun _=>false) (tt:=()) ?_ ?_ ?_ hF
      · simp only [Option.bind_some,h1,h2,decide_false,Bool.false_eq_true,if_false]
        cases ha:(c::r).all yW with
        |true=>have:=hh.1 ha;rw [show ((0:Nat):Int)=0 from rfl] at this;rw [this];simp [h1,h2]
        |false=>obtain ⟨j,hj⟩:=hh.2 ha;rw [show ((0:Nat):Int)=0 from rfl] at hj;rw [hj];simp [h1,h2]
      · intro i z hz hp
        have hi:=(List.getElem?_eq_some_iff.1 hz).1
        simp only [dS,ju]
        rw [if_pos (by simp at hi ⊢;omega),bz hz,Option.bind_some,vI,Option.bind_some,vJ,Option.bind_some,wi (by omega)]
        simp only [yW] at hp
        cases h1:EX z<;>cases h2:eE z<;>simp [h1,h2] at hp ⊢
        exact hp
      · intro i z hz hp
        have hi:=(List.getElem?_eq_some_iff.1 hz).1
        simp only [dS,ju]
        rw [if_pos (by simp at hi ⊢;omega),bz hz,Option.bind_some,vI,Option.bind_some,vJ,Option.bind_some]
        simp only [yW] at hp
        cases h1:EX z<;>cases h2:eE z<;>simp [h1,h2] at hp ⊢
        exact hp
      · simp [dS]
theorem Nz {F:Nat} {s:List UInt8} (hl:s.length≤80000) (DH:s.length+10<F):∀(r cur:List UInt8) (a i G:Nat),(∀c∈cur,c≠46)→s.drop a=cur++r→a+cur.length=i→i+r.length=s.length→r.length+1<G→
 iter (dU F s) G ((a:Int),(i:Int))=some (if (aV (cur++r)).all gJ then .inr () else .inl false):=by
 have xB:∀(cur r:List UInt8) (a i:Nat),s.drop a=cur++r→a+cur.length=i→(s.take i).drop a=cur:=by
  intro cur r a i h hi
  rw [List.drop_take,h, ←hi,Nat.add_sub_cancel_left,List.take_left' rfl]
 have piece:∀(cur r:List UInt8) (a i:Nat),s.drop a=cur++r→a+cur.length=i→i≤s.length→fK (i:Int) s=some false→dU F s ((a:Int),(i:Int))=if gJ cur=true then some (.cA (((i+1:Nat):Int),((i+1:Nat):Int))) else some (.ret false):=by
  intro cur r a i h hi N5 QC
  have hcl:cur.length≤s.length:=by omega
  have hsp:=YM (x:=cur) (F:=F) (by omega) (by omega)
  simp only [dU]
  rw [if_pos (by simp;omega),QC,Option.bind_some]
  simp only [Bool.false_eq_true,if_false]
  rw [qu (by omega) N5,xB cur r a i h hi,Option.bind_some,wi (by omega)]
  cases hp3:gN cur with
  |none=>rw [hp3] at hsp;cases hsp
  |some b=>
   rw [hp3] at hsp
   simp only [Option.bind_some] at hsp ⊢
   cases b with
   |true=>
    simp only [if_true] at hsp ⊢
    cases hlb:gJ cur with
    |true=>rw [hlb] at hsp;simp at hsp
    |false=>simp
   |false=>
    simp only [Bool.false_eq_true,if_false] at hsp ⊢
    cases hit:iter (dS cur) F 0 with
    |none=>rw [hit] at hsp;cases hsp
    |some o=>
     rw [hit] at hsp
     cases o with
     |inl b=>
      cases hlb:gJ cur with
      |true=>rw [hlb] at hsp;simp at hsp
      |false=>rw [hlb] at hsp;simp at hsp ⊢;exact hsp
     |inr u=>
      cases hlb:gJ cur with
      |true=>simp
      |false=>rw [hlb] at hsp;simp at hsp
 intro r
 induction r with
 |nil=>
  intro cur a i G hc hd ha hi hG
  obtain ⟨G,rfl⟩:=bH (show 0<G by omega)
  obtain ⟨G,rfl⟩:=bH (show 0<G by simp at hG;omega)
  have hie:i=s.length:=by simpa using hi
  have hst:=piece cur [] a i hd ha (by omega) (by unfold fK;rw [if_neg (by simp;omega)])
  rw [List.append_nil,Ec hc]
  cases hx:gJ cur with
  |false=>rw [hx] at hst;rw [c6 (by rw [hst];rfl)];simp [hx]
  |true=>
   rw [hx] at hst
   rw [bW (by rw [hst];rfl),bu (t:=()) (by simp only [dU];rw [if_neg (by simp;omega)])]
   simp [hx]
 |cons c r ih=>
  intro cur a i G hc hd ha hi hG
  obtain ⟨G,rfl⟩:=bH (show 0<G by omega)
  simp only [List.length_cons] at hi hG
  have hci:s[i]? =some c:=by
   have:(s.drop a)[cur.length]? =some c:=by rw [hd];simp
   rw [List.getElem?_drop,ha] at this;exact this
  have QC:fK (i:Int) s=some (!decide (c=46)):=by unfold fK;rw [if_pos (by simp;omega),bz hci];rfl
  by_cases GU:c=46
  · subst GU
    have hst:=piece cur _ a i hd ha (by omega) (by rw [QC];simp)
    rw [Eb hc]
    cases hx:gJ cur with
    |false=>rw [hx] at hst;rw [c6 (by rw [hst];rfl)];simp [hx]
    |true=>
     rw [hx] at hst
     rw [bW (by rw [hst];rfl)]
     have hd':s.drop (i+1)=r:=by
      have:(s.drop a).drop (cur.length+1)=r:=by rw [hd,List.drop_append];simp
      rw [List.drop_drop] at this
      rw [←this];congr 1;omega
     have:=ih [] (i+1) (i+1) G (by simp) (by simpa using hd') (by simp) (by omega) (by omega)
     rw [List.nil_append] at this
     rw [this]
     simp [hx]
  · have hst:dU F s ((a:Int),(i:Int))=some (.cA ((a:Int),((i+1:Nat):Int))):=by
     simp only [dU]
     rw [if_pos (by simp;omega),QC,Option.bind_some]
     simp only [GU,decide_false,Bool.not_false,if_true]
     rw [wi (by omega)]
    rw [bW hst]
    have:=ih (cur++[c]) a (i+1) G (by intro y hy;rcases List.mem_append.1 hy with h|h;exact hc y h;simp at h;subst h;exact GU) (by rw [hd];simp) (by simp;omega) (by omega) (by omega)
    rw [this]
    simp
theorem QD {s:List UInt8} (hi:pT s=true) (h:dY s=true):fV s=true:=by
 have hf:=Nd hi
 unfold fV
 rw [h]
 unfold dY at h
 rw [if_pos hi] at h
 simp only [Bool.and_eq_true,decide_eq_true_eq] at h
 have hsum:=four h.1 fun p hp=>(sx (List.all_eq_true.1 h.2 p hp)).1
 have htot:=Ef (inner s)
 have hlen:s.length=(inner s).length+2:=by rw [hf];simp [inner]
 have h63:((aV s).all fun p=>decide (p.length≤63))=true:=by
  rw [List.all_eq_true]
  intro p hp
  have:=mU _ p hp
  simp only [decide_eq_true_eq];omega
 rw [h63,decide_eq_true (by omega)]
 rfl
theorem NA {s:List UInt8} {F:Nat} (hl:s.length≤80000) (hF:99010<F):k6 F s=some (dY s):=by
 unfold k6
 rw [Fa hF,Option.bind_some]
 cases hd:fV s with
 |true=>
  simp only [fV,Bool.and_eq_true] at hd
  rw [hd.1.2];rfl
 |false=>
  simp only [Bool.false_eq_true,if_false]
  cases s with
  |nil=>simp [jt,dY,pT,aV,gJ]
  |cons c r=>
   unfold jt
   rw [if_neg (by simp),show idx (c::r) 0=some c by simp [idx]]
   simp only [Option.bind_some]
   by_cases hc:c=91
   · subst hc
     simp only [decide_true,if_true]
     cases hs:dY (91::r) with
     |false=>rfl
     |true=>
      by_cases hi:pT (91::r)=true
      · rw [QD hi hs] at hd;cases hd
      · unfold dY at hs
        rw [if_neg hi,GV] at hs;cases hs
   · rw [if_neg (by simpa using hc),show ((0:Int),(0:Int))=(((0:Nat):Int),((0:Nat):Int)) from rfl,Nz hl (by omega) (c::r) [] 0 0 F (by simp) (by simp) (by simp) (by simp) (by omega)]
     have hin:pT (c::r)=false:=aaZ (by simpa using hc)
     unfold dY
     rw [hin,List.nil_append]
     cases (aV (c::r)).all gJ<;>rfl
end Go.Proofs.cQ
end
section
set_option maxRecDepth 100000
namespace Go.Proofs.cQ
open Go Go.Am Go.Proofs
theorem oE {s r:List UInt8} {n:Nat} (h:At s n r):(r=[]∧n=s.length)∨(∃c t,r=c::t∧n<s.length∧s[n]? =some c):=by
 cases r with
 |nil=>have:=h.len;exact .inl ⟨rfl,by simpa using this⟩
 |cons c t=>obtain ⟨h1,h2,h3⟩:=drop_cons h.dr;exact .inr ⟨c,t,rfl,h1,h2⟩
theorem RE {a b:Nat} (h:a+b≤1000000000):IntKind.wrap .i64 ((a:Int)+(b:Int))=((a+b:Nat):Int):=by rw [wr (by omega) (by omega)];simp
theorem G7 {s r:List UInt8} {n:Nat} (h:At s n r):jx (n:Int) s=some (decide (nx r=64)):=by
 unfold jx
 rcases oE h with ⟨rfl,h1⟩|⟨c,t,rfl,h1,h2⟩
 · rw [if_neg (by simp;omega)];simp [nx]
 · rw [if_pos (by simpa using h1),bz h2];rfl
theorem Ix {s:List UInt8} {F:Nat} (hs:s.length≤2100) (DH:99010<F):∀(k:Nat) (r:List UInt8) (i G:Nat),At s i r→r.length<k→k≤G→
 match Ae k r with
 |some rest=>∃n:Nat,iter (dV F s) G (i:Int)=some (.inl (n:Int))∧At s n rest
 |none=>iter (dV F s) G (i:Int)=some (.inl (-1))∨iter (dV F s) G (i:Int)=some (.inr ()):=by
 intro k
 induction k with
 |zero=>intro r i G h hk;omega
 |succ k ih=>
  intro r i G h hk hG
  obtain ⟨G,rfl⟩:=bH (show 0<G by omega)
  have hle:=h.le
  by_cases hx:nx r=64
  · obtain ⟨t,rfl⟩:=iM hx (by decide)
    have h1:=h.next
    have RP:=h1.len
    have YN:=qv ct t
    have DL:=h1.skip ct
    simp only [Ae]
    rw [if_pos hx]
    simp only [List.drop_succ_cons,List.drop_zero]
    have hb:dV F s (i:Int)=if (!dY (t.takeWhile ct))=true then some (.ret (-1)) else
     (jy (i:Int) (((t.takeWhile ct).length:Nat):Int) s).bind fun t15=>if t15=true then some (.ret (IntKind.wrap .i64 ((IntKind.wrap .i64 ((IntKind.wrap .i64 ((i:Int)+1))+(((t.takeWhile ct).length:Nat):Int)))+1)))
     else (jz s (i:Int) (((t.takeWhile ct).length:Nat):Int)).bind fun t18=>if t18=true then some (.ret (-1)) else some (.cA (IntKind.wrap .i64 ((IntKind.wrap .i64 ((IntKind.wrap .i64 ((i:Int)+1))+(((t.takeWhile ct).length:Nat):Int)))+1))):=by
     simp only [dV]
     rw [G7 h,Option.bind_some,if_pos (by simpa using hx),show IntKind.wrap .i64 ((i:Int)+1)=((i+1:Nat):Int) from wi (by omega),gy h1.le,h1.dr,Option.bind_some,I8 (by omega) (by omega),Option.bind_some,RE (by omega),wH h1,Option.bind_some,NA (by omega) DH,Option.bind_some]
    rw [show IntKind.wrap .i64 ((i:Int)+1)=((i+1:Nat):Int) from wi (by omega),RE (by omega),wi (by omega)] at hb
    unfold jy jz at hb
    rw [show IntKind.wrap .i64 ((i:Int)+1)=((i+1:Nat):Int) from wi (by omega),RE (by omega)] at hb
    unfold gA
    cases hsh:dY (t.takeWhile ct) with
    |false=>
     rw [hsh] at hb
     exact .inl (c6 (by rw [hb];rfl))
    |true=>
     rw [hsh] at hb
     simp only [Bool.not_true,Bool.false_eq_true,if_false,if_true] at hb ⊢
     rcases oE DL with ⟨hr2,h5⟩|⟨c,u,hr2,h5,h6⟩
     · rw [hr2]
       rw [if_neg (by simp;omega)] at hb
       simp only [Option.bind_some,Bool.false_eq_true,if_false] at hb
       rw [if_pos (by simp;omega)] at hb
       simp only [Option.bind_some,if_true] at hb
       rw [if_neg (by simp [nx]),if_neg (by simp [nx])]
       exact .inl (c6 hb)
     · rw [hr2] at DL ⊢
       rw [if_pos (by simp;omega),bz h6] at hb
       simp only [Option.bind_some] at hb
       by_cases h58:c=58
       · subst h58
         rw [if_pos (by decide)] at hb
         rw [if_neg (show nx (58::u)≠44 by simp [nx]),if_pos (show nx (58::u)=58 from rfl)]
         exact ⟨_,c6 hb,DL.next⟩
       · rw [if_neg (by simpa using h58),if_neg (by simp;omega)] at hb
         simp only [Option.bind_some] at hb
         by_cases M8:c=44
         · subst M8
           rw [if_neg (by decide)] at hb
           rw [if_pos (show nx (44::u)=44 from rfl)]
           simp only [List.drop_succ_cons,List.drop_zero]
           have hlu:=DL.len
           have:=ih u (i+1+(t.takeWhile ct).length+1) G DL.next (by simp only [List.length_cons] at hk hlu RP;omega) (by omega)
           rw [bW hb]
           exact this
         · rw [if_pos (by simpa using M8)] at hb
           rw [if_neg (show nx (c::u)≠44 from M8),if_neg (show nx (c::u)≠58 from h58)]
           exact .inl (c6 hb)
  · simp only [Ae]
    rw [if_neg hx]
    exact .inr (bu (by simp only [dV];rw [G7 h,Option.bind_some,if_neg (by simpa using hx)]))
theorem YO {s:List UInt8} {F:Nat} (hs:s.length≤2100) (hF:99010<F):match mF s with
 |some rest=>∃n:Nat,k8 F s=some (n:Int)∧At s n rest
 |none=>k8 F s=some (-1):=by
 have hz:=At.zero (s:=s) (by omega)
 have GR:jv s=some (!decide (nx s=64)):=by
  unfold jv
  cases s with
  |nil=>simp [nx]
  |cons c r=>rw [if_neg (by simp),show idx (c::r) 0=some c by simp [idx]];rfl
 unfold mF k8
 rw [GR,Option.bind_some]
 by_cases hx:nx s=64
 · rw [if_pos hx,if_neg (by simp [hx])]
   have:=Ix hs hF (s.length+1) s 0 F hz (by omega) (by omega)
   rw [show (0:Int)=((0:Nat):Int) from rfl]
   cases hg:Ae (s.length+1) s with
   |none=>
    rw [hg] at this
    rcases this with h|h
    · simp only [hg];rw [h];rfl
    · simp only [hg];rw [h];rfl
   |some rest=>
    rw [hg] at this
    obtain ⟨n,h1,h2⟩:=this
    simp only [hg]
    exact ⟨n,by rw [h1];rfl,h2⟩
 · rw [if_neg hx,if_pos (by simp [hx])]
   exact ⟨0,rfl,hz⟩
theorem CN {s r:List UInt8} {n:Nat} (h:At s n r):gO (n:Int) s=some (match r with|[]=>false|c::_=> !decide (c=34)):=by
 unfold gO
 rcases oE h with ⟨rfl,h1⟩|⟨c,t,rfl,h1,h2⟩
 · rw [if_neg (by simp;omega)]
 · rw [if_pos (by simpa using h1),bz h2];rfl
theorem NB {s r:List UInt8} {n:Nat} (h:At s n r):fM s (n:Int)=some (match r with|[]=>true|c::_=> !bp c):=by
 unfold fM
 rcases oE h with ⟨rfl,h1⟩|⟨c,t,rfl,h1,h2⟩
 · rw [if_pos (by simp;omega)]
 · rw [if_neg (by simp;omega),bz h2,Option.bind_some];exact QA c
theorem UW {s:List UInt8}:∀(k:Nat) (r acc:List UInt8) (n F:Nat),r.length≤k→At s n r→acc.length≤n→r.length<F→
 match qL r with
 |some (b,rest)=>∃n':Nat,iter (bV s) F (acc,(n:Int))=some (.inr (acc++b,(n':Int)))∧At s n' (34::rest)
 |none=>iter (bV s) F (acc,(n:Int))=some (.inl ([], -1))∨∃acc',iter (bV s) F (acc,(n:Int))=some (.inr (acc',(s.length:Int))):=by
 intro k
 induction k with
 |zero=>
  intro r acc n F hk h ha hF
  have hr:r=[]:=List.length_eq_zero_iff.1 (by omega)
  subst hr
  obtain ⟨G,rfl⟩:=bH hF
  have hn:n=s.length:=by have:=h.len;simpa using this
  subst hn
  exact .inr ⟨acc,bu (by simp only [bV];rw [CN h];rfl)⟩
 |succ k ih=>
  intro r acc n F hk h ha hF
  obtain ⟨G,rfl⟩:=bH (show 0<F by omega)
  have h1:=h.le;have h2:=h.sm
  match r,hk,h,hF with
  |[],hk,h,hF=>
   have hn:n=s.length:=by have:=h.len;simpa using this
   subst hn
   exact .inr ⟨acc,bu (by simp only [bV];rw [CN h];rfl)⟩
  |c::r,hk,h,hF=>
   rw [vO]
   obtain ⟨-,hc1, -⟩:=drop_cons h.dr
   by_cases hc:c=34
   · subst hc
     rw [if_pos rfl]
     exact ⟨n,by rw [bu (t:=(acc,(n:Int))) (by simp only [bV];rw [CN h];rfl)];simp,h⟩
   · rw [if_neg hc]
     have QC:gO (n:Int) s=some true:=by rw [CN h];simp [hc]
     by_cases HD:c=92
     · subst HD
       rw [if_pos rfl]
       have hst:bV s (acc,(n:Int))=(fM s ((n+1:Nat):Int)).bind fun t15=>if t15=true then some (.ret (([]:List UInt8),(-1))) else (idx s ((n+1:Nat):Int)).bind fun jl=>(fq 1 acc ([jl]:List UInt8)).bind fun jT=>some (.cA (jT,(IntKind.wrap .i64 (((n+1:Nat):Int)+1)))):=by
        simp only [bV]
        rw [QC]
        simp only [Option.bind_some,if_true]
        rw [bz hc1,Option.bind_some]
        unfold jC
        rw [if_pos (by decide),wi (by omega),Option.bind_some]
       rw [NB h.next,Option.bind_some] at hst
       match r,hk,h,hF,hst with
       |[],hk,h,hF,hst=>exact .inl (c6 hst)
       |d::r',hk,h,hF,hst=>
        obtain ⟨IL,hd1, -⟩:=drop_cons h.next.dr
        have NC:bV s (acc,(n:Int))=if (!bp d)=true then some (.ret (([]:List UInt8),(-1))) else (idx s ((n+1:Nat):Int)).bind fun jl=>(fq 1 acc ([jl]:List UInt8)).bind fun jT=>some (.cA (jT,(IntKind.wrap .i64 (((n+1:Nat):Int)+1)))):=hst
        cases hv:bp d with
        |false=>simp only [hv,Bool.false_eq_true,if_false];exact .inl (c6 (NC.trans (if_pos (by rw [hv];rfl))))
        |true=>
         have ur:bV s (acc,(n:Int))=some (.cA (acc++[d],((n+2:Nat):Int))):=by
          rw [NC,if_neg (by rw [hv];decide)]
          rw [bz hd1,Option.bind_some,fU (by simp;omega) (by omega),Option.bind_some,wi (by omega)]
         have:=ih r' (acc++[d]) (n+2) G (by simp at hk;omega) h.next.next (by simp;omega) (by simp at hF;omega)
         rw [bW ur]
         cases hq:qL r' with
         |none=>rw [hq] at this;simp only [hv,if_true,hq,Option.map_none];exact this
         |some x=>
          obtain ⟨b,rest⟩:=x
          rw [hq] at this
          obtain ⟨n',h3,h4⟩:=this
          simp only [hv,if_true,hq,Option.map_some]
          exact ⟨n',by rw [h3];simp,h4⟩
     · rw [if_neg HD]
       have hst:bV s (acc,(n:Int))=(fM s (n:Int)).bind fun t15=>if t15=true then some (.ret (([]:List UInt8),(-1))) else (idx s (n:Int)).bind fun jl=>(fq 1 acc ([jl]:List UInt8)).bind fun jT=>some (.cA (jT,(IntKind.wrap .i64 ((n:Int)+1)))):=by
        simp only [bV]
        rw [QC]
        simp only [Option.bind_some,if_true]
        rw [bz hc1,Option.bind_some]
        unfold jC
        rw [if_neg (by simpa using HD),Option.bind_some,bz hc1]
       rw [NB h,Option.bind_some] at hst
       have hlt:=h.next.le
       have NC:bV s (acc,(n:Int))=if (!bp c)=true then some (.ret (([]:List UInt8),(-1))) else (idx s (n:Int)).bind fun jl=>(fq 1 acc ([jl]:List UInt8)).bind fun jT=>some (.cA (jT,(IntKind.wrap .i64 ((n:Int)+1)))):=hst
       cases hv:bp c with
       |false=>simp only [hv,Bool.false_eq_true,if_false];exact .inl (c6 (NC.trans (if_pos (by rw [hv];rfl))))
       |true=>
        have ur:bV s (acc,(n:Int))=some (.cA (acc++[c],((n+1:Nat):Int))):=by
         rw [NC,if_neg (by rw [hv];decide)]
         rw [bz hc1,Option.bind_some,fU (by simp;omega) (by omega),Option.bind_some,wi (by omega)]
        have:=ih r (acc++[c]) (n+1) G (by simp at hk;omega) h.next (by simp;omega) (by simp at hF;omega)
        rw [bW ur]
        cases hq:qL r with
        |none=>rw [hq] at this;simp only [hv,if_true,hq,Option.map_none];exact this
        |some x=>
         obtain ⟨b,rest⟩:=x
         rw [hq] at this
         obtain ⟨n',h3,h4⟩:=this
         simp only [hv,if_true,hq,Option.map_some]
         exact ⟨n',by rw [h3];simp,h4⟩
theorem G8 {s r:List UInt8} {n F:Nat} (hF:30≤F) (h:At s n r):jD F (n:Int) s=some (match r with|[]=>false|c::_=>jg c):=by
 unfold jD
 rcases oE h with ⟨rfl,h1⟩|⟨c,t,rfl,h1,h2⟩
 · rw [if_neg (by simp;omega)]
 · rw [if_pos (by simpa using h1),bz h2,Option.bind_some,Nv hF,Option.bind_some]
   simp only [jg]
   cases eR c<;>by_cases hc:c=46<;>simp [hc]
theorem ND {s:List UInt8} {F:Nat} (DH:30≤F):∀(r:List UInt8) (n G:Nat),At s n r→r.length<G→iter (fN F s) G (n:Int)=some (.inr ((n+(r.takeWhile jg).length:Nat):Int)):=by
 intro r
 induction r with
 |nil=>
  intro n G h hG
  obtain ⟨G,rfl⟩:=bH hG
  rw [bu (t:=(n:Int)) (by simp only [fN];rw [G8 DH h];rfl)]
  simp
 |cons c r ih=>
  intro n G h hG
  obtain ⟨G,rfl⟩:=bH hG
  have:=h.len;have:=h.sm
  by_cases hq:jg c=true
  · rw [bW (s':=((n+1:Nat):Int)) (by simp only [fN];rw [G8 DH h];simp only [hq,Option.bind_some,if_true];rw [wi (by omega)]),ih (n+1) G h.next (by simp at hG;omega),List.takeWhile_cons,if_pos hq]
    simp only [List.length_cons]
    congr 3
    omega
  · rw [bu (t:=(n:Int)) (by simp only [fN];rw [G8 DH h];simp only [hq,Option.bind_some];rfl),List.takeWhile_cons,if_neg hq]
    simp
theorem UY {s:List UInt8} {F:Nat} (hs:s.length≤2100) (hF:99010<F):match jW s with
 |some (b,rest)=>∃n:Nat,lf F s=some (b,(n:Int))∧At s n rest
 |none=>lf F s=some ([], -1):=by
 have hz:=At.zero (s:=s) (by omega)
 have GR:jB s=some (decide (nx s=34)):=by
  unfold jB
  cases s with
  |nil=>simp [nx]
  |cons c r=>rw [if_pos (by simp),show idx (c::r) 0=some c by simp [idx]];rfl
 unfold jW lf
 rw [GR,Option.bind_some]
 by_cases hx:nx s=34
 · obtain ⟨t,rfl⟩:=iM hx (by decide)
   rw [if_pos hx,if_pos (by simpa using hx)]
   simp only [List.drop_succ_cons,List.drop_zero]
   have:=UW (s:=34::t) t.length t [] 1 F (Nat.le_refl _) hz.next (by simp) (by simp at hs;omega)
   rw [show (([]:List UInt8),(1:Int))=(([]:List UInt8),((1:Nat):Int)) from rfl]
   cases hq:qL t with
   |none=>
    rw [hq] at this
    rcases this with h|⟨acc',h⟩
    · simp only;rw [h];rfl
    · simp only;rw [h]
      simp
   |some x=>
    obtain ⟨b,rest⟩:=x
    rw [hq] at this
    obtain ⟨n',h1,h2⟩:=this
    have hlt:=h2.next.le
    simp only
    rw [h1]
    simp only [Option.bind_some,List.nil_append]
    by_cases hb:b=[]
    · rw [if_pos hb,if_pos (by simp [hb])]
    · rw [if_neg hb,if_neg (by simp [hb];simp at hlt;omega),wi (by omega)]
      exact ⟨n'+1,rfl,h2.next⟩
 · rw [if_neg hx,if_neg (show ¬(decide (nx s=34)=true) by simpa using hx)]
   have YN:=qv jg s
   rw [show (0:Int)=((0:Nat):Int) from rfl,ND (by omega) s 0 F hz (by omega)]
   simp only [Option.bind_some]
   rw [wH hz,Option.bind_some,Nx (by omega) (by omega),Option.bind_some]
   cases hp:iz (s.takeWhile jg) with
   |false=>simp
   |true=>
    simp only [Bool.not_true,Bool.false_eq_true,if_false,if_true]
    exact ⟨_,rfl,hz.skip _⟩
end Go.Proofs.cQ
end
section
set_option maxRecDepth 100000
namespace Go.Proofs.cQ
open Go Go.Am Go.Proofs
theorem UZ (s:List UInt8):kB s=some (!decide (nx s=60)):=by
 unfold kB
 cases s with
 |nil=>simp [nx]
 |cons c r=>rw [if_neg (by simp),show idx (c::r) 0=some c by simp [idx]];rfl
theorem U0 (c:UInt8) (r:List UInt8):kC (c::r)=some (decide (nx r=62)):=by
 unfold kC
 cases r with
 |nil=>simp [nx]
 |cons d t=>rw [if_pos (by simp;omega),show idx (c::d::t) 1=some d by simp [idx]];rfl
theorem U1 {s r:List UInt8} {n:Nat} (h:At s n r):kD (n:Int) s=some (!decide (nx r=64)):=by
 unfold kD
 rw [if_neg (by simp)]
 rcases oE h with ⟨rfl,h1⟩|⟨c,t,rfl,h1,h2⟩
 · rw [if_pos (by simp;omega)];simp [nx]
 · rw [if_neg (by simp;omega),bz h2];rfl
theorem U2 {s:List UInt8} {F:Nat} (hs:s.length≤2100) (hF:99010<F):kE F s (((s.takeWhile ct).length:Nat):Int)=some (!(dY (s.takeWhile ct)&&decide (nx (s.dropWhile ct)=62))):=by
 have hz:=At.zero (s:=s) (by omega)
 have YN:=qv ct s
 have DL:=hz.skip ct
 rw [Nat.zero_add] at DL
 unfold kE
 rw [nW YN]
 have ht:s.take (s.takeWhile ct).length=s.takeWhile ct:=by
  conv=>lhs;arg 2;rw [←List.takeWhile_append_dropWhile (p:=ct) (l:=s)]
  exact List.take_left ..
 rw [ht,Option.bind_some,NA (by omega) hF,Option.bind_some]
 cases dY (s.takeWhile ct) with
 |false=>rfl
 |true=>
  simp only [Bool.not_true,Bool.false_eq_true,if_false,Bool.true_and]
  rcases oE DL with ⟨hr,h1⟩|⟨c,t,hr,h1,h2⟩
  · rw [hr,if_pos (by simp;omega)];simp [nx]
  · rw [hr,if_neg (by simp;omega),bz h2];rfl
theorem RF {s:List UInt8} {F:Nat} (hs:s.length≤2000) (hF:99010<F):oX F s=some (iN s):=by
 unfold oX iN Bs
 rw [UZ,Option.bind_some]
 by_cases Iv:nx s=60
 · obtain ⟨r,rfl⟩:=iM Iv (by decide)
   have hz:=At.zero (s:=60::r) (by omega)
   have hrl:r.length≤2000:=by simp at hs;omega
   rw [if_neg (by simp [Iv]),U0,Option.bind_some,if_pos Iv]
   simp only [List.drop_succ_cons,List.drop_zero]
   by_cases wJ:nx r=62
   · obtain ⟨t,rfl⟩:=iM wJ (by decide)
     have Qo:dn ⟨[],[]⟩=true:=by simp [dn,cX]
     rw [if_pos (by simpa using wJ),if_pos wJ,show (2:Int)=((2:Nat):Int) from rfl,gy hz.next.next.le]
     simp only [Option.bind_some,Qo,if_true]
     rfl
   · rw [if_neg (show ¬(decide (nx r=62)=true) by simpa using wJ),if_neg wJ,sub_one rfl,Option.bind_some]
     have hr:=YO (s:=r) (F:=F) (by omega) hF
     unfold yZ
     cases YP:mF r with
     |none=>
      rw [YP] at hr
      rw [hr]
      rfl
     |some r1=>
      rw [YP] at hr
      obtain ⟨n,h1,h2⟩:=hr
      have RP:=y9 YP
      have hle:=h2.le
      rw [h1,Option.bind_some,if_neg (by simp),show (1:Int)+(n:Int)=((n:Nat):Int)+((1:Nat):Int) by simp;omega,RE (by omega),gy (by simp;omega)]
      have hd:(60::r).drop (n+1)=r1:=by rw [List.drop_succ_cons,h2.dr]
      rw [hd,Option.bind_some]
      have hl:=UY (s:=r1) (F:=F) (by omega) hF
      simp only
      cases Fp:jW r1 with
      |none=>
       rw [Fp] at hl
       rw [hl]
       rfl
      |some x=>
       obtain ⟨l,r2⟩:=x
       rw [Fp] at hl
       obtain ⟨n2,h3,h4⟩:=hl
       obtain ⟨agK,afE⟩:=y8 Fp
       rw [h3]
       simp only [Option.bind_some]
       rw [U1 h4,Option.bind_some]
       by_cases CB:nx r2=64
       · obtain ⟨t,rfl⟩:=iM CB (by decide)
         have htl:t.length≤2000:=by simp at afE;omega
         have YN:=qv ct t
         rw [if_neg (by simp [CB]),wi (by have:=h4.le;omega),gy h4.next.le,h4.next.dr,Option.bind_some,I8 (by omega) (by omega),Option.bind_some,U2 (by omega) hF,Option.bind_some,if_pos CB]
         simp only [List.drop_succ_cons,List.drop_zero]
         unfold gA
         cases hsh:dY (t.takeWhile ct) with
         |false=>simp
         |true=>
          simp only [Bool.true_and,if_true]
          by_cases NF:nx (t.dropWhile ct)=62
          · have hzt:=At.zero (s:=t) (by omega)
            have DL:=hzt.skip ct
            rw [Nat.zero_add] at DL
            obtain ⟨u,hu⟩:=iM NF (by decide)
            rw [if_neg (by simp [NF]),if_pos NF,nW YN]
            have ht:t.take (t.takeWhile ct).length=t.takeWhile ct:=by
             conv=>lhs;arg 2;rw [←List.takeWhile_append_dropWhile (p:=ct) (l:=t)]
             exact List.take_left ..
            rw [ht,Option.bind_some,Ny (by simp only;omega) (by simp only;omega) hF,Option.bind_some]
            simp only
            cases hR:dn ⟨l,t.takeWhile ct⟩ with
            |false=>simp
            |true=>
             rw [hu] at DL
             unfold nT
             rw [wi (by omega),gy DL.next.le,DL.next.dr,hu]
             simp
          · rw [if_pos (by simp [NF]),if_neg NF]
       · rw [if_pos (by simp [CB]),if_neg CB]
 · rw [if_pos (by simp [Iv]),if_neg Iv]
theorem YQ {s:List UInt8} {F:Nat} (hs:s.length≤2100) (hF:s.length<F):kW F s=some (s.map low):=by
 have GS:∀(m i G:Nat),i+m=s.length→m<G→iter (fH s) G ((i:Int),Bf s i)=some (.inr (s.map low)):=by
  intro m
  induction m with
  |zero=>
   intro i G hi hG
   obtain ⟨G,rfl⟩:=bH hG
   have:i=s.length:=by omega
   subst this
   rw [←Rw s]
   exact bu (by simp only [fH];rw [if_neg (by simp)])
  |succ m ih=>
   intro i G hi hG
   obtain ⟨G,rfl⟩:=bH (show 0<G by omega)
   have hil:i<s.length:=by omega
   have hc:s[i]? =some s[i]:=List.getElem?_eq_getElem hil
   have hp:jq s (i:Int) (Bf s i)=some (decide (65≤s[i])&&decide (s[i]≤90)):=by
    unfold jq
    rw [zC hil,Option.bind_some,zB (by omega),if_neg (by omega),hc,Option.bind_some]
    by_cases h:65≤s[i]<;>simp [h]
   have hst:fH s ((i:Int),Bf s i)=some (.cA (((i+1:Nat):Int),Bf s (i+1))):=by
    simp only [fH]
    rw [if_pos (by simpa using hil),hp,Option.bind_some]
    by_cases h:(decide (65≤s[i])&&decide (s[i]≤90))=true
    · have hl:s[i]+32=low s[i]:=by unfold low;rw [if_pos h]
      rw [if_pos h,zC hil,Option.bind_some,zB (by omega),if_neg (by omega),hc,Option.bind_some,G0 (by rw [E8 (by omega)];exact hil),hl,KO hil hc,Option.bind_some,wi (by omega)]
    · rw [if_neg h,Rx hil hc h,wi (by omega)]
   rw [bW hst]
   exact ih (i+1) G (by omega) (by omega)
 unfold kW
 rw [show ((0:Int),s)=(((0:Nat):Int),Bf s 0) by simp [Bf],GS s.length 0 F (by omega) hF]
 simp only [Option.bind_some]
 rw [nW (j:=s.length) (by simp),List.take_of_length_le (by simp)]
 rfl
end Go.Proofs.cQ
end
section
set_option maxRecDepth 100000
namespace Go.Proofs.cQ
open Go Go.Am Go.Proofs
theorem abl {s:List UInt8} {F:Nat} (hF:20≤F):oU F s=some (dL s:Int):=by
 unfold oU dL
 have:=Ry (s:=s) (body:=iG s) ?_ ?_ 9 1 F rfl (by omega) (by omega)
 · rw [show ((0:Int),(1:Int))=(0,((1:Nat):Int)) from rfl,this]
   cases za s 9 1 with
   |none=>rfl
   |some j=>rfl
 · intro k h1 h2
   simp only [iG]
   rw [if_pos (by simp;omega)]
   have e:idx ([([]:List UInt8),([104,101,108,111]:List UInt8),([101,104,108,111]:List UInt8),([109,97,105,108]:List UInt8),([114,99,112,116]:List UInt8),([100,97,116,97]:List UInt8),([114,115,101,116]:List UInt8),([110,111,111,112]:List UInt8),([113,117,105,116]:List UInt8),([118,114,102,121]:List UInt8)]:List (List UInt8)) (k:Int)=some (wl k):=
    E9 (p:=fun k=>idx ([([]:List UInt8),([104,101,108,111]:List UInt8),([101,104,108,111]:List UInt8),([109,97,105,108]:List UInt8),([114,99,112,116]:List UInt8),([100,97,116,97]:List UInt8),([114,115,101,116]:List UInt8),([110,111,111,112]:List UInt8),([113,117,105,116]:List UInt8),([118,114,102,121]:List UInt8)]:List (List UInt8)) (k:Int)=some (wl k)) (by decide) h1 h2
   rw [e]
   simp only [Option.bind_some]
   by_cases h:wl k=s
   · simp [h]
   · rw [if_neg (by simpa using h),if_neg h,Iw (by omega)]
 · simp only [iG]
   rw [if_neg (by decide)]
theorem RG:∀(s:List UInt8) (F:Nat),s.length<F→iter eO F s=some (.inr (s.dropWhile blk)):=by
 intro s
 induction s with
 |nil=>
  intro F hF
  obtain ⟨G,rfl⟩:=bH hF
  exact bu (by simp [eO,iJ])
 |cons c r ih=>
  intro F hF
  obtain ⟨G,rfl⟩:=bH hF
  have hi:idx (c::r) 0=some c:=by simp [idx]
  by_cases h:c=32
  · subst h
    have:eO (32::r)=some (.cA r):=by
     simp only [eO,iJ]
     rw [if_pos (by simp),hi]
     simp only [Option.bind_some,decide_true,if_true]
     rw [sub_one rfl];rfl
    rw [bW this,ih G (by simpa using hF)]
    simp [List.dropWhile_cons,blk]
  · have:eO (c::r)=some (.dQ (c::r)):=by
     simp only [eO,iJ]
     rw [if_pos (by simp),hi]
     simp [h]
    rw [bu this]
    simp [List.dropWhile_cons,blk,h]
theorem G9 {w s:List UInt8} {F:Nat} (hw:w.length≤100) (hF:200<F):kZ F s w=some (dN w s):=by
 unfold kZ mu dN
 by_cases h:w.length≤s.length
 · rw [if_pos (by simp;omega),nW h]
   simp only [Option.bind_some]
   rw [YQ (by simp;omega) (by simp;omega)]
   simp [h]
 · rw [if_neg (by simp;omega)]
   simp [h]
theorem YR (x:UInt8):(if decide (x<48)=true then some true else some (decide (57<x)))=some (!eE x):=by
 have:=e7 (p:=fun x=>decide ((if decide (x<48)=true then some true else some (decide (57<x)))=some (!eE x))) (by kernel_rfl) x
 simpa using this
theorem YS {x:UInt8} (h:eE x=true):(x - 48).toNat=x.toNat - 48∧48≤x.toNat∧x.toNat≤57:=by
 have:=e7 (p:=fun x=> !eE x||(decide ((x - 48).toNat=x.toNat - 48)&&(decide (48≤x.toNat)&&decide (x.toNat≤57)))) (by kernel_rfl) x
 simpa [h] using this
theorem QE {d:List UInt8} {F:Nat} (hd:d.length≤9) (hF:20<F):iter (fD d) F (0,0)=some (if d.all eE=true then .inr (vK d:Int) else .inl (0,false)):=by
 have hh:=lp (s:=d) (body:=fD d) (mk:=fun (a:Nat) i=>((a:Int),(i:Int))) (tt:=fun a=>(a:Int))
  (step:=fun a c=>if eE c=true then .ok (10*a+(c.toNat - 48)) else .error (0,false)) (fun a i=>i≤9∧a<10 ^ i) ?_ ?_ (F:=F) (a:=0) (by omega) (by simp)
 · rw [show ((0:Int),(0:Int))=(((0:Nat):Int),((0:Nat):Int)) from rfl,hh.1]
   have key:∀(l:List UInt8) (a:Nat),uP (fun (a:Nat) (c:UInt8)=>if eE c=true then Except.ok (ε:=Int×Bool) (10*a+(c.toNat - 48)) else .error (0,false)) a l=
    if l.all eE=true then .ok (l.foldl (fun a c=>10*a+(c.toNat - 48)) a) else .error (0,false):=by
    intro l
    induction l with
    |nil=>intro a;rfl
    |cons c r ih=>
     intro a
     simp only [uP,List.all_cons,List.foldl_cons]
     by_cases h:eE c=true
     · simp only [h,if_true,ih,Bool.true_and]
     · simp [h]
   rw [key]
   cases d.all eE<;>rfl
 · intro a i c hc hI
   have hi:=(List.getElem?_eq_some_iff.1 hc).1
   have hb:fD d ((a:Int),(i:Int))=if eE c=true then some (.cA ((IntKind.wrap .i64 ((IntKind.wrap .i64 (10*(a:Int)))+(IntKind.wrap .i64 ((c - 48).toNat:Int)))),(IntKind.wrap .i64 ((i:Int)+1)))) else some (.ret (0,false)):=by
    simp only [fD,nU]
    rw [if_pos (by simpa using hi),bz hc]
    simp only [Option.bind_some]
    rw [YR c]
    simp only [Option.bind_some]
    cases eE c<;>simp
   by_cases h:eE c=true
   case neg=>simp only [if_neg h] at hb ⊢;exact hb
   case pos=>
    obtain ⟨e1,e2,e3⟩:=YS h
    have hp:a<10 ^ 9:=Nat.lt_of_lt_of_le hI.2 (Nat.pow_le_pow_right (by omega) hI.1)
    simp only [if_pos h] at hb ⊢
    rw [hb,e1,wr (n:=10*(a:Int)) (by omega) (by omega),wr (n:=((c.toNat - 48:Nat):Int)) (by omega) (by omega),wr (by omega) (by omega),Iw (by omega)]
    refine ⟨by simp,by omega, ?_⟩
    rw [Nat.pow_succ];omega
 · intro a hI
   simp only [fD]
   rw [if_neg (by simp)]
theorem RH {s:List UInt8} {F:Nat} (hs:s.length≤3000) (hF:7000<F):∃n,oY F s=some (n,(oC s).isSome)∧∀v,oC s=some v→n=(v:Int):=by
 unfold oY oC
 rw [G9 (by decide) (by omega)]
 simp only [Option.bind_some]
 cases h:dN Bt s with
 |false=>exact ⟨0,by simp,by simp⟩
 |true=>
  have hl:6≤s.length:=by
   unfold dN at h;simp only [Bool.and_eq_true,decide_eq_true_eq] at h;simpa using h.1
  simp only [Bool.not_true,Bool.false_eq_true,if_false]
  rw [show (6:Int)=((6:Nat):Int) from rfl,gy hl]
  simp only [Option.bind_some]
  generalize s.drop 6=d
  by_cases h1:d=[]∨9<d.length
  · rw [if_pos (by simp only [Bool.or_eq_true,decide_eq_true_eq];exact h1.imp id (by omega)),if_neg (by rintro ⟨-,g1,g2, -⟩;rcases h1 with h1|h1;exact g1 h1;omega)]
    exact ⟨0,rfl,fun v h=>by cases h⟩
  · have hd:d≠[]:=fun h=>h1 (.inl h)
    have h9:d.length≤9:=by omega
    rw [if_neg (by simp [hd];omega),QE h9 (by omega)]
    by_cases ha:d.all eE=true
    · simp only [if_pos ha,Option.bind_some]
      rw [if_pos ⟨trivial,hd,h9,ha⟩]
      exact ⟨_,rfl,fun v h=>by injection h with h;rw [h]⟩
    · simp only [if_neg ha,Option.bind_some]
      rw [if_neg (by rintro ⟨-, -, -,g⟩;exact ha g)]
      exact ⟨_,rfl,fun v h=>by cases h⟩
theorem YT {s:List UInt8} {F:Nat} (hs:s.length≤2000) (hF:99010<F):kH F 3 s=some (sy s):=by
 unfold kH kF
 rw [if_neg (by decide)]
 simp only [Option.bind_some]
 rw [G9 (by decide) (by omega)]
 simp only [Option.bind_some]
 unfold sy oB
 cases h:dN jh s with
 |false=>simp
 |true=>
  have hl:jh.length≤s.length:=by
   unfold dN at h;simp only [Bool.and_eq_true,decide_eq_true_eq] at h;exact h.1
  simp only [Bool.not_true,Bool.false_eq_true,if_false,if_true]
  rw [gy hl]
  simp only [Option.bind_some]
  unfold oW
  have h1:=CD blk (s.drop jh.length)
  have h2:(s.drop jh.length).length≤s.length:=by simp
  rw [RG _ F (by omega)]
  simp only [Option.bind_some]
  rw [RF (by omega) hF]
  simp only [Option.bind_some]
  have qd:=G3 (w:=jh) (s:=s)
  unfold oB at qd
  rw [h] at qd
  simp only [if_true] at qd
  generalize iN ((s.drop jh.length).dropWhile blk)=p at qd ⊢
  obtain ⟨a,r,e⟩:=p
  simp only at qd ⊢
  by_cases he:e=0
  · subst he
    simp only [decide_true,Bool.not_true,Bool.false_or,if_true]
    rw [if_neg (by simp)]
    unfold kG
    simp only [decide_true,if_true,Option.bind_some]
    cases r with
    |nil=>simp
    |cons c t=>
     rw [if_neg (by simp),if_neg (by simp)]
     obtain ⟨n,g1,g2⟩:=RH (s:=c::t) (F:=F) (by omega) (by omega)
     rw [g1]
     simp only [Option.bind_some,Bool.and_true]
     cases hz:oC (c::t) with
     |some v=>
      have hc:c=32:=by
       unfold oC at hz
       split at hz
       · rename_i hz0;have:=hz0.1
         unfold dN at this
         simp only [Bool.and_eq_true,decide_eq_true_eq,List.length_cons,List.take_succ_cons,List.map_cons,List.cons.injEq] at this
         have h3:=this.2.1
         have h4:=e7 (p:=fun c=> !decide (low c=32)||decide (c=32)) (by kernel_rfl) c
         simpa [h3] using h4
       · cases hz
      subst hc
      simp [g2 v hz]
     |none=>
      simp only [Option.isSome_none,Bool.false_eq_true,if_false]
      rw [show idx (c::t) 0=some c by simp [idx]]
      by_cases hc:c=32<;>simp [hc]
  · simp [he]
theorem YU {s:List UInt8} {F:Nat} (hs:s.length≤2000) (hF:99010<F):kH F 4 s=some (wK s):=by
 unfold kH kF
 rw [if_pos (by decide)]
 simp only [Option.bind_some]
 rw [G9 (by decide) (by omega)]
 simp only [Option.bind_some]
 unfold wK oB
 cases h:dN zX s with
 |false=>simp
 |true=>
  have hl:zX.length≤s.length:=by
   unfold dN at h;simp only [Bool.and_eq_true,decide_eq_true_eq] at h;exact h.1
  simp only [Bool.not_true,Bool.false_eq_true,if_false,if_true]
  rw [gy hl]
  simp only [Option.bind_some]
  unfold oW
  have h1:=CD blk (s.drop zX.length)
  have h2:(s.drop zX.length).length≤s.length:=by simp
  rw [RG _ F (by omega)]
  simp only [Option.bind_some]
  rw [RF (by omega) hF]
  simp only [Option.bind_some]
  have qd:=G3 (w:=zX) (s:=s)
  unfold oB at qd
  rw [h] at qd
  simp only [if_true] at qd
  generalize iN ((s.drop zX.length).dropWhile blk)=p at qd ⊢
  obtain ⟨a,r,e⟩:=p
  simp only at qd ⊢
  by_cases he:e=0
  · subst he
    cases hn:cX a with
    |true=>
     have hn2:=hn
     unfold cX at hn2
     simp only [Bool.and_eq_true,decide_eq_true_eq] at hn2
     simp [hn2.1,hn2.2]
    |false=>
     have hn2:=hn
     unfold cX at hn2
     simp only [hn2,decide_true,Bool.not_true,Bool.false_or,if_true,Bool.and_false]
     rw [if_neg (by simp)]
     unfold kG
     rw [if_neg (by decide)]
     simp only [Option.bind_some]
     cases r with
     |nil=>simp
     |cons c t=>
      rw [if_neg (by simp),if_pos (by simp),if_neg (by simp)]
      obtain ⟨n,g1,g2⟩:=RH (s:=c::t) (F:=F) (by omega) (by omega)
      rw [g1]
      simp only [Option.bind_some]
      rw [if_neg (by simp),show idx (c::t) 0=some c by simp [idx]]
      by_cases hc:c=32<;>simp [hc]
  · simp [he]
theorem abm {s:List UInt8} {F:Nat} (hs:s.length≤100000) (hF:s.length<F):iter (eV s) F (0,Z)=some (if s.all bp=true then .inr Z else .inl (Z,500)):=by
 have hh:=Yu (s:=s) (body:=eV s) (mk:=fun i=>((i:Int),Z)) (p:=bp) (rr:=fun _=>(Z,500)) (tt:=Z) ?_ ?_ ?_ hF
 · cases h:s.all bp with
   |true=>have:=hh.1 h;simpa using this
   |false=>obtain ⟨_,this⟩:=hh.2 h;simpa using this
 · intro i c hc hp
   have hi:=(List.getElem?_eq_some_iff.1 hc).1
   simp only [eV,jF]
   rw [if_pos (by simpa using hi),bz hc]
   simp only [Option.bind_some]
   rw [KS c]
   simp only [Option.bind_some,hp,Bool.not_true,Bool.false_eq_true,if_false]
   rw [Iw (by omega)]
 · intro i c hc hp
   have hi:=(List.getElem?_eq_some_iff.1 hc).1
   simp only [eV,jF]
   rw [if_pos (by simpa using hi),bz hc]
   simp only [Option.bind_some]
   rw [KS c]
   simp [hp]
 · simp only [eV]
   rw [if_neg (by simp)]
theorem YV:∀(r:List UInt8) (F:Nat),r.length≤100000→r.length<F→iter dW F r.reverse=some (.inr (r.dropWhile blk).reverse):=by
 intro r
 induction r with
 |nil=>
  intro F _ hF
  obtain ⟨G,rfl⟩:=bH hF
  exact bu (by simp [dW,gP])
 |cons c r ih=>
  intro F hl hF
  obtain ⟨G,rfl⟩:=bH hF
  simp only [List.length_cons] at hl hF
  have hlen:IntKind.wrap .i64 (((r.reverse++[c]).length:Int) - 1)=(r.length:Int):=by rw [wr (by simp<;>omega) (by simp<;>omega)];simp
  have hi:idx (r.reverse++[c]) (r.length:Int)=some c:=by rw [Cz];simp
  rw [List.reverse_cons]
  have hp:gP (r.reverse++[c])=some (decide (c=32)):=by
   unfold gP
   rw [if_pos (by simp),hlen,hi];rfl
  by_cases h:c=32
  · subst h
    have:dW (r.reverse++[32])=some (.cA r.reverse):=by
     simp only [dW]
     rw [hp]
     simp only [Option.bind_some,decide_true,if_true]
     rw [hlen,nW (by simp)]
     simp
    rw [bW this,ih G (by omega) (by omega)]
    simp [List.dropWhile_cons,blk]
  · have:dW (r.reverse++[c])=some (.dQ (r.reverse++[c])):=by
     simp only [dW]
     rw [hp]
     simp [h]
    rw [bu this]
    simp [List.dropWhile_cons,blk,h]
theorem QF {t:List UInt8} (ht:t.length≤100000):∀(r:List UInt8) (i F:Nat),t.drop i=r→i+r.length=t.length→r.length<F→iter (dX t) F (i:Int)=some (.inr ((i+(r.takeWhile nb).length:Nat):Int)):=by
 intro r
 induction r with
 |nil=>
  intro i F hd hl hF
  obtain ⟨G,rfl⟩:=bH hF
  refine bu ?_
  simp only [dX,gQ]
  rw [if_neg (by simp at hl ⊢;omega)]
  simp
 |cons c r ih=>
  intro i F hd hl hF
  obtain ⟨G,rfl⟩:=bH hF
  obtain ⟨hi,hx,hr⟩:=drop_cons hd
  simp only [List.length_cons] at hl hF
  by_cases h:c=32
  · have:dX t (i:Int)=some (.dQ (i:Int)):=by
     simp only [dX,gQ]
     rw [if_pos (by simpa using hi),bz hx]
     simp [h]
    rw [bu this];simp [List.takeWhile_cons,nb,h]
  · have:dX t (i:Int)=some (.cA ((i+1:Nat):Int)):=by
     simp only [dX,gQ]
     rw [if_pos (by simpa using hi),bz hx]
     simp only [Option.bind_some,h,decide_false,Bool.not_false,if_true]
     rw [Iw (by omega)]
    rw [bW this,ih (i+1) G hr (by omega) (by omega)]
    simp [List.takeWhile_cons,nb,h];omega
theorem NH {s:List UInt8} {F:Nat} (hs:s.length≤2000) (hF:99010<F):nV F s=some (fy s):=by
 unfold nV fy
 rw [abm (by omega) (by omega)]
 simp only [Option.bind_some]
 cases hv:s.all bp with
 |false=>simp
 |true=>
  simp only [if_true]
  have ht:=G1 s
  have h2:=YV s.reverse F (by simp;omega) (by simp;omega)
  rw [List.reverse_reverse] at h2
  rw [h2]
  simp only [Option.bind_some]
  rw [show ((s.reverse.dropWhile blk).reverse)=cH s from rfl]
  have h3:=QF (t:=cH s) (by omega) (cH s) 0 F rfl (by simp) (by omega)
  rw [show (0:Int)=((0:Nat):Int) from rfl,h3]
  simp only [Option.bind_some,Nat.zero_add]
  have hw:((cH s).takeWhile nb).length≤(cH s).length:=(List.takeWhile_prefix nb).length_le
  have hd:=Eh (cH s)
  rw [show ((0:Nat):Int)=0 from rfl,nW hw]
  simp only [Option.bind_some]
  have htk:(cH s).take ((cH s).takeWhile nb).length=(cH s).takeWhile nb:=(List.prefix_iff_eq_take.1 (List.takeWhile_prefix nb)).symm
  rw [htk,YQ (by omega) (by omega)]
  simp only [Option.bind_some]
  rw [abl (by omega)]
  simp only [Option.bind_some]
  rw [I4]
  simp only [Option.bind_some]
  have hk:=I5 (((cH s).takeWhile nb).map low)
  have hne:=Ng (s:=s)
  have hhd:=Qt (t:=cH s)
  generalize dL (((cH s).takeWhile nb).map low)=k at hk ⊢
  generalize hr:(cH s).dropWhile nb=r at hd hne hhd ⊢
  unfold gB
  by_cases h0:k=0
  · subst h0;simp
  · rw [if_neg (by simp;omega),if_neg h0]
    have UN:r.drop 1=[]↔r=[]:=⟨fun h=>Classical.byContradiction fun h2=>hne h2 h,fun h=>by rw [h];rfl⟩
    unfold mA mC mD mE
    have hsub:r≠[]→sub r 1 (r.length:Int)=some (r.drop 1):=fun h=>by
     obtain ⟨t,e⟩:=hhd h
     rw [e,sub_one rfl];rfl
    have hdn:fV []=false:=rfl
    have hk9:k=1∨k=2∨k=3∨k=4∨k=5∨k=6∨k=7∨k=8∨k=9:=by omega
    rcases hk9 with rfl|rfl|rfl|rfl|rfl|rfl|rfl|rfl|rfl
    · by_cases mO:r=[]
      · subst mO;simp [hdn]
      · have hq:=hsub mO
        rw [hq]
        have N9:dF F (r.drop 1)=some (fV (r.drop 1)):=Fa hF
        generalize r.drop 1=q at N9 ⊢
        simp [mO,N9];cases fV q<;>simp
    · by_cases mO:r=[]
      · subst mO;simp [hdn]
      · have hq:=hsub mO
        rw [hq]
        have N9:dF F (r.drop 1)=some (fV (r.drop 1)):=Fa hF
        generalize r.drop 1=q at N9 ⊢
        simp [mO,N9];cases fV q<;>simp
    · have:=YT (s:=r) (F:=F) (by omega) hF
      simp [this]
    · have:=YU (s:=r) (F:=F) (by omega) hF
      simp [this]
    · by_cases mO:r=[]<;>simp [mO]
    · by_cases mO:r=[]<;>simp [mO]
    · by_cases mO:r=[]
      · subst mO;simp
      · rw [hsub mO];generalize r.drop 1=q;simp [mO]
    · by_cases mO:r=[]<;>simp [mO]
    · by_cases mO:r=[]
      · subst mO;simp
      · rw [hsub mO];generalize r.drop 1=q;simp [mO]
end Go.Proofs.cQ
end
section
set_option maxRecDepth 100000
namespace Go.Proofs.cQ
open Go Go.Am Go.Proofs
open Nat renaming reduceEqDiff→nA,reduceLT→nB,reduceLeDiff→nC,reduceAdd→nD,reduceSub→nE,reduceMul→nF,reduceBEq→nG
set_option maxHeartbeats 2000000
abbrev xu:az:=(.rg [(aj 3 (.cw (.t 1) 0)),(aj 4 (.ld (.t 3) none)),(aj 5 (.lens (.t 4))),(aj 6 (.bin .leq (.t 5) (.c (.int .i64 400)))),(av 7 6),(ay 8 (.cw (.t 1) 1) 7 true),(ay 9 (.ld (.t 8) none) 7 true),(ay 10 (.lens (.t 9)) 7 true),(ay 11 (.bin .leq (.t 10) (.c (.int .i64 600))) 7 true),(aj 12 (.pick (.t 7) (.t 11) (.c (.bool false)))),(aO 2 12)])
abbrev KX:az:=(.seq (.rg [(aj 1 (.box (.t 0))),(aj 2 (.aT (.c (.bool false))))]) (.seq (.sem (erase xu)) .ret))
theorem KY:bL Tryz.prog 13 13 [(.tmp 2)] (erase KX):=⟨Tryz.f13,_,rfl,by decide,rfl,by kernel_rfl,rfl,rfl⟩
abbrev CO:List Nat:=[0,1,2]
def wL (a1:aB):Option (Bool):=
 some ((decide ((a1.ak.length:Int)≤400))&&(decide ((a1.domain.length:Int)≤600)))
theorem DM {q2:Nat} {a1:aB} {H0 H:AH} (hfr:Fr H0 H0.length [] H) (ai:H[q2]? =some [(.str a1.ak),(.str a1.domain)]) (dB:H0.length≤q2) {K:Exit→Env→AH→Prop}
 (kn:∀H':AH,Fr H0 H0.length [] H'→H'[q2]? =some [(.str a1.ak),(.str a1.domain)]→K .normal [(2,(.bool ((decide ((a1.ak.length:Int)≤400))&&(decide ((a1.domain.length:Int)≤600)))))] H'):
 AX Tryz.prog CO 13 H0.length (erase xu) K [(1,(.ptr q2 0)),(2,(.bool false))] H:=by
 refine bY fun K' hK=> ?_
 have hle:=hfr.le
 have aL:=aN ai
 refine ax ai ?_
 refine gG (fun hy1=> ?_) fun hy1=> ?_
 · refine ax (aA hy1 ai) ?_
   exact hK _ _ _ _ _ (dj hy1) aq (kn _ hfr (ai.trans rfl))
 · refine ax (aA hy1 ai) ?_
   exact hK _ _ _ _ _ (dj hy1) aq (kn _ hfr (ai.trans rfl))
theorem Iy {a1:aB} {H0:AH} {aS:Bool} (h:wL a1=some aS):
 aG Tryz.prog 13 [(.agg [(.str a1.ak),(.str a1.domain)])] H0 fun v H'=>v=(.bool aS)∧H'=H0:=by
 refine lN KY CO [] fun hcl K0 aP H hH hfr=> ?_
 clear hH
 have hle:=hfr.le
 rw [wL.eq_1] at h
 refine cj ?_
 obtain ⟨q2,hO⟩:∃q:Nat,H.length=q:=⟨_,rfl⟩
 try rw [hO]
 refine bA aq (DM (q2:=q2) (a1:=a1) (Fr.app hfr) pJ bU ?_)
 intro H hfr ai
 have hle:=hfr.le
 have aL:=aN ai
 refine ax ai ?_
 obtain rfl:=aD h
 exact aP _ _ _ bh (aR hfr hcl (aU aZ (.bool ((decide ((a1.ak.length:Int)≤400))&&(decide ((a1.domain.length:Int)≤600))))) bf aW ⟨rfl,rfl⟩)
abbrev He:az:=(.seq (.rg [(aj 1 (.box (.t 0))),(aj 2 (.aT (.c (.str []))))]) (.seq (.seq (.rg [(aj 3 (.ld (.t 1) (some 2))),(aj 4 (.call (.c (.fn 58 [])) [(.t 3)])),(aj 5 (.un .not (.t 4)))]) (.cond (.t 5) (.seq (.rg [(aj 2 (.aT (.c (.str []))))]) .ret) .skip)) (.seq (.rg [(aj 6 (.ld (.t 1) (some 2))),(aj 7 (.call (.c (.fn 59 [])) [(.t 6)])),(aO 2 7)]) .ret)))
theorem Hf:bL Tryz.prog 35 8 [(.tmp 2)] (erase He):=⟨Tryz.f35,_,rfl,by decide,rfl,by kernel_rfl,rfl,rfl⟩
abbrev Hg:List Nat:=[0,1,2,5]
def lq (F:Nat) (a1:aB):Option ((List UInt8)):=
 (lg F a1).bind fun r2=>
 (if (!r2) then
  some ([]:List UInt8)
 else
  (kA F a1).bind fun r3=>some r3)
theorem xw {F:Nat} {a1:aB} {H0:AH} {aS:List UInt8} (h:lq F a1=some aS):
 aG Tryz.prog 35 [(.agg [(.str a1.ak),(.str a1.domain)])] H0 fun v H'=>v=(.str aS)∧H'=H0:=by
 refine lN Hf Hg [] fun hcl K0 aP H hH hfr=> ?_
 clear hH
 have hle:=hfr.le
 rw [lq.eq_1] at h
 refine cj ?_
 obtain ⟨r2,hy1,h⟩:=au h
 refine bw aq (xp hy1) ?_
 refine cj ?_
 refine bk h (fun hy2 h=> ?_) fun hy2 h=> ?_
 · refine cj ?_
   obtain rfl:=aD h
   exact aP _ _ _ bh (aR (Fr.app hfr) hcl (aU aZ (.str ([]:List UInt8))) bf aW ⟨rfl,rfl⟩)
 · refine cj ?_
   obtain ⟨r3,hy3,h⟩:=au h
   refine bw aq (yU hy3) ?_
   refine cj ?_
   obtain rfl:=aD h
   exact aP _ _ _ bh (aR (Fr.app hfr) hcl (aU aZ (.str r3)) bf aW ⟨rfl,rfl⟩)
abbrev p7:az:=(.cond (.t 8) (.rg [(av 9 3),(aj 10 (.bin .sub (.c (.int .u64 0)) (.t 9))),(aO 3 10)]) .skip)
abbrev pG:az:=(.seq (.seq (.rg [(av 17 3),(aj 18 (.bin .geq (.t 17) (.c (.int .u64 10))))]) (.cond (.t 18) .skip (.exit 0))) (.blk 1 (.seq (.rg [(av 19 3),(aj 20 (.bin .quo (.t 19) (.c (.int .u64 10)))),(aO 3 20)]) (.rg [(av 21 3),(aj 22 (.bin .rem (.t 21) (.c (.int .u64 10)))),(aj 23 (.bin .add (.c (.int .u64 48)) (.t 22))),(aj 24 (.iT (.int .u8) (.t 23))),(aj 25 (.pH 1 [(.t 24)])),(aj 26 (.iT .bs (.t 25))),(av 27 4),(aj 28 (.bin .add (.t 26) (.t 27))),(aO 4 28)]))))
abbrev DN:az:=(.seq (.rg [(aj 2 (.aT (.c (.str []))))]) (.seq (.rg [(av 5 0),(aj 6 (.iT (.int .u64) (.t 5))),(aO 3 6)]) (.seq (.seq (.rg [(av 7 0),(aj 8 (.bin .lss (.t 7) (.c (.int .i64 0))))]) (.sem (erase p7))) (.seq (.rg [(av 11 3),(aj 12 (.bin .rem (.t 11) (.c (.int .u64 10)))),(aj 13 (.bin .add (.c (.int .u64 48)) (.t 12))),(aj 14 (.iT (.int .u8) (.t 13))),(aj 15 (.pH 1 [(.t 14)])),(aj 16 (.iT .bs (.t 15))),(aO 4 16)]) (.seq (.blk 0 (.loop (erase pG))) (.seq (.seq (.rg [(av 29 0),(aj 30 (.bin .lss (.t 29) (.c (.int .i64 0))))]) (.cond (.t 30) (.seq (.rg [(av 31 4),(aj 32 (.bin .add (.c (.str [45])) (.t 31))),(aO 2 32)]) .ret) .skip)) (.seq (.rg [(av 33 4),(aO 2 33)]) .ret)))))))
theorem DO:bL Tryz.prog 36 34 [(.tmp 2)] (erase DN):=⟨Tryz.f36,_,rfl,by decide,rfl,by kernel_rfl,rfl,rfl⟩
abbrev oF:List Nat:=[0,2,3,4,8,18,30]
def jX (nY:Int):Option (Int):=
 (if (decide (nY<0)) then
  some (IntKind.wrap .u64 (0 - (IntKind.wrap .u64 nY)))
 else
  some (IntKind.wrap .u64 nY))
def dx:(Int×(List UInt8))→Option (St (List UInt8) (List UInt8) (Int×(List UInt8)))
 |(u4,s5)=>
  (if (decide (10≤u4)) then
   (cat ([(UInt8.ofInt (IntKind.wrap .u64 (48+(Int.tmod (IntKind.wrap .u64 (Int.tdiv u4 10)) 10))))]:List UInt8) s5).bind fun x6=>some (.cA ((IntKind.wrap .u64 (Int.tdiv u4 10)),x6))
  else
   some (.dQ s5))
def kK (F:Nat) (nY:Int):Option ((List UInt8)):=
 (jX nY).bind fun u3=>
 ((iter dx F (u3,([(UInt8.ofInt (IntKind.wrap .u64 (48+(Int.tmod u3 10))))]:List UInt8))).bind fun MW=>
 match MW with
 | .inr s8=>
   (if (decide (nY<0)) then
    (cat ([45]:List UInt8) s8).bind fun x9=>some x9
   else
    some s8)
 | .inl _=>none)
theorem ze {nY:Int} {H:AH} {K:Exit→Env→AH→Prop} {u2:Int}
 (h:jX nY=some u2)
 (kn:K .normal [(0,(.int .i64 nY)),(3,(.int .u64 u2))] H):
 AX Tryz.prog oF 34 H.length (erase p7) K [(0,(.int .i64 nY)),(3,(.int .u64 (IntKind.wrap .u64 nY))),(8,(.bool (decide (nY<0))))] H:=by
 refine bY fun K' hK=> ?_
 rw [jX.eq_1] at h
 refine aF ?_
 refine bk h (fun hy1 h=> ?_) fun hy1 h=> ?_
 · refine aF ?_
   obtain rfl:=aD h
   exact hK _ _ _ _ _ aK aq kn
 · refine aF ?_
   obtain rfl:=aD h
   exact hK _ _ _ _ _ aK aq kn
theorem zf {F:Nat} {u4:Int} {s5:List UInt8} {nY:Int} {H:AH} {K:Exit→Env→AH→Prop} {o:((List UInt8))⊕((List UInt8))}
 (h:iter dx F (u4,s5)=some o)
 (dz:∀o':(List UInt8),o= .inr o'→K (.exit 0) [(0,(.int .i64 nY)),(4,(.str o'))] H):
 AX Tryz.prog oF 34 H.length (.loop (erase pG)) K [(0,(.int .i64 nY)),(3,(.int .u64 u4)),(4,(.str s5))] H:=by
 refine iE (fun s e H1=>match s with|(u4,s5)=>e=[(0,(.int .i64 nY)),(3,(.int .u64 u4)),(4,(.str s5))]∧H1=H) h ⟨rfl,rfl⟩ ?_
 rintro K' ⟨u4,s5⟩ st e H ⟨rfl,rfl⟩ h hN hB hR hX
 rw [dx.eq_1] at h
 refine aF ?_
 refine bk h (fun hy4 h=> ?_) fun hy4 h=> ?_
 · have bJ:dv .u64 u4 10=some (IntKind.wrap .u64 (Int.tdiv u4 10)):=rfl
   have ck:rm .u64 (IntKind.wrap .u64 (Int.tdiv u4 10)) 10=some (Int.tmod (IntKind.wrap .u64 (Int.tdiv u4 10)) 10):=rfl
   obtain ⟨x6,cF,h⟩:=au h
   refine aY (aA bJ (aA ck cF)) ?_
   obtain rfl:=aD h
   exact hN _ rfl _ _ _ _ aK aq ⟨rfl,rfl⟩
 · refine aF ?_
   obtain rfl:=aD h
   exact hX _ _ _ _ _ dH aK aq (dz _ (hB _ rfl))
theorem CP {F:Nat} {nY:Int} {H0:AH} {aS:List UInt8} (h:kK F nY=some aS):
 aG Tryz.prog 36 [(.int .i64 nY)] H0 fun v H'=>v=(.str aS)∧H'=H0:=by
 refine gr DO oF fun hcl K0 aP=> ?_
 rw [kK.eq_1] at h
 refine aF ?_
 obtain ⟨u3,hy2,h⟩:=au h
 refine bA aq (ze hy2 ?_)
 have hy3:rm .u64 u3 10=some (Int.tmod u3 10):=rfl
 refine aY hy3 ?_
 obtain ⟨MW,cv,h⟩:=au h
 refine bA aq (zf (nY:=nY) cv ?_)
 · rintro s8 rfl
   try dsimp only at h
   refine aF ?_
   refine bk h (fun cM h=> ?_) fun cM h=> ?_
   · obtain ⟨x9,cc,h⟩:=au h
     refine aY cc ?_
     obtain rfl:=aD h
     exact aP _ _ _ bh (aM hcl (aU aZ (.str x9)) bf aW ⟨rfl,rfl⟩)
   · refine aF ?_
     obtain rfl:=aD h
     exact aP _ _ _ bh (aM hcl (aU aZ (.str s8)) bf aW ⟨rfl,rfl⟩)
abbrev uu:az:=(.rg [(aj 6 (.cw (.t 1) 0)),(aj 7 (.ld (.t 6) none)),(aj 8 (.bin .lss (.t 7) (.c (.int .i64 1)))),(av 9 8),(ay 10 (.cw (.t 1) 0) 9 false),(ay 11 (.ld (.t 10) none) 9 false),(ay 12 (.bin .gtr (.t 11) (.c (.int .i64 9))) 9 false),(aj 13 (.pick (.t 9) (.c (.bool true)) (.t 12)))])
abbrev uv:az:=(.cond (.t 46) .skip (.seq (.rg [(aj 48 (.bin .eql (.t 20) (.c (.int .i64 2)))),(aO 46 48)]) (.cond (.t 46) .skip (.rg [(aj 49 (.bin .eql (.t 20) (.c (.int .i64 9)))),(aO 46 49)]))))
abbrev Hh:az:=(.seq (.rg [(aj 1 (.box (.t 0))),(aj 2 (.aT (.c (.str []))))]) (.seq (.rg [(aj 5 (.pH 1 [(.c (.str [])),(.c (.str [72,69,76,79])),(.c (.str [69,72,76,79])),(.c (.str [77,65,73,76])),(.c (.str [82,67,80,84])),(.c (.str [68,65,84,65])),(.c (.str [82,83,69,84])),(.c (.str [78,79,79,80])),(.c (.str [81,85,73,84])),(.c (.str [86,82,70,89]))])),(aO 3 5)]) (.seq (.seq (.sem (erase uu)) (.cond (.t 13) (.seq (.rg [(aj 2 (.aT (.c (.str []))))]) .ret) .skip)) (.seq (.rg [(av 14 3),(aj 15 (.cw (.t 1) 0)),(aj 16 (.ld (.t 15) none)),(aj 17 (.pI 1 (.t 14) (.t 16))),(aj 18 (.ld (.t 17) none)),(aO 4 18)]) (.seq (.seq (.rg [(aj 19 (.cw (.t 1) 0)),(aj 20 (.ld (.t 19) none))]) (.blk 0 (.seq (.rg [(aj 22 (.bin .eql (.t 20) (.c (.int .i64 3)))),(aO 21 22)]) (.cond (.t 21) (.seq (.rg [(av 23 4),(aj 24 (.bin .add (.t 23) (.c (.str [32,70,82,79,77,58])))),(aj 25 (.cw (.t 1) 2)),(aj 26 (.ld (.t 25) (some 2))),(aj 27 (.call (.c (.fn 35 [])) [(.t 26)])),(aj 28 (.bin .add (.t 24) (.t 27))),(aO 4 28)]) (.seq (.rg [(aj 29 (.cw (.t 1) 4)),(aj 30 (.ld (.t 29) none)),(aj 31 (.bin .neq (.t 30) (.c (.int .i64 (-1)))))]) (.cond (.t 31) (.rg [(av 32 4),(aj 33 (.bin .add (.t 32) (.c (.str [32,83,73,90,69,61])))),(aj 34 (.cw (.t 1) 4)),(aj 35 (.ld (.t 34) none)),(aj 36 (.call (.c (.fn 36 [])) [(.t 35)])),(aj 37 (.bin .add (.t 33) (.t 36))),(aO 4 37)]) .skip))) (.seq (.rg [(aj 39 (.bin .eql (.t 20) (.c (.int .i64 4)))),(aO 38 39)]) (.cond (.t 38) (.rg [(av 40 4),(aj 41 (.bin .add (.t 40) (.c (.str [32,84,79,58])))),(aj 42 (.cw (.t 1) 2)),(aj 43 (.ld (.t 42) (some 2))),(aj 44 (.call (.c (.fn 35 [])) [(.t 43)])),(aj 45 (.bin .add (.t 41) (.t 44))),(aO 4 45)]) (.seq (.seq (.rg [(aj 47 (.bin .eql (.t 20) (.c (.int .i64 1)))),(aO 46 47)]) (.sem (erase uv))) (.cond (.t 46) (.rg [(av 50 4),(aj 51 (.bin .add (.t 50) (.c (.str [32])))),(aj 52 (.cw (.t 1) 1)),(aj 53 (.ld (.t 52) none)),(aj 54 (.bin .add (.t 51) (.t 53))),(aO 4 54)]) (.seq (.rg [(aj 56 (.bin .eql (.t 20) (.c (.int .i64 7)))),(aO 55 56)]) (.cond (.t 55) (.seq (.rg [(aj 57 (.cw (.t 1) 1)),(aj 58 (.ld (.t 57) none)),(aj 59 (.bin .neq (.t 58) (.c (.str []))))]) (.cond (.t 59) (.rg [(av 60 4),(aj 61 (.bin .add (.t 60) (.c (.str [32])))),(aj 62 (.cw (.t 1) 1)),(aj 63 (.ld (.t 62) none)),(aj 64 (.bin .add (.t 61) (.t 63))),(aO 4 64)]) .skip)) .skip)))))))))) (.seq (.rg [(av 65 4),(aO 2 65)]) .ret))))))
theorem Hi:bL Tryz.prog 15 66 [(.tmp 2)] (erase Hh):=⟨Tryz.f15,_,rfl,by decide,rfl,by kernel_rfl,rfl,rfl⟩
abbrev sA:List Nat:=[0,1,2,3,4,13,20,21,31,38,46,55,59]
def mI (c1:aC):Option (Bool):=
 (if (decide (c1.kind=1)) then
  some (decide (c1.kind=1))
 else
  (if (decide (c1.kind=2)) then
   some (decide (c1.kind=2))
  else
   some (decide (c1.kind=9))))
def lu (F:Nat) (c1:aC):Option ((List UInt8)):=
 (if ((decide (c1.kind<1))||(decide (9<c1.kind))) then
  some ([]:List UInt8)
 else
  (idx ([([]:List UInt8),([72,69,76,79]:List UInt8),([69,72,76,79]:List UInt8),([77,65,73,76]:List UInt8),([82,67,80,84]:List UInt8),([68,65,84,65]:List UInt8),([82,83,69,84]:List UInt8),([78,79,79,80]:List UInt8),([81,85,73,84]:List UInt8),([86,82,70,89]:List UInt8)]:List (List UInt8)) c1.kind).bind fun x3=>
  (if (decide (c1.kind=3)) then
   (cat x3 ([32,70,82,79,77,58]:List UInt8)).bind fun x4=>
   (lq F c1.path).bind fun r5=>
   (cat x4 r5).bind fun x6=>
   (if (!decide (c1.size=(-1))) then
    (cat x6 ([32,83,73,90,69,61]:List UInt8)).bind fun x7=>
    (kK F c1.size).bind fun r8=>(cat x7 r8).bind fun x9=>some x9
   else
    some x6)
  else
   (if (decide (c1.kind=4)) then
    (cat x3 ([32,84,79,58]:List UInt8)).bind fun wA=>
    (lq F c1.path).bind fun mY=>(cat wA mY).bind fun lZ=>some lZ
   else
    (mI c1).bind fun t15=>
    (if t15 then
     (cat x3 ([32]:List UInt8)).bind fun jl=>(cat jl c1.arg).bind fun jT=>some jT
    else
     (if (decide (c1.kind=7)) then
      (if (!decide (c1.arg=([]:List UInt8))) then
       (cat x3 ([32]:List UInt8)).bind fun Ey=>(cat Ey c1.arg).bind fun yH=>some yH
      else
       some x3)
     else
      some x3)))))
theorem Bu {q2:Nat} {c1:aC} {H0 H:AH} (hfr:Fr H0 H0.length [] H) (ai:H[q2]? =some [(.int .i64 c1.kind),(.str c1.arg),(.str c1.path.ak),(.str c1.path.domain),(.int .i64 c1.size)]) (dB:H0.length≤q2) {K:Exit→Env→AH→Prop}
 (kn:∀H':AH,Fr H0 H0.length [] H'→H'[q2]? =some [(.int .i64 c1.kind),(.str c1.arg),(.str c1.path.ak),(.str c1.path.domain),(.int .i64 c1.size)]→K .normal [(1,(.ptr q2 0)),(3,(.sl .ex 1 [(.str ([]:List UInt8)),(.str ([72,69,76,79]:List UInt8)),(.str ([69,72,76,79]:List UInt8)),(.str ([77,65,73,76]:List UInt8)),(.str ([82,67,80,84]:List UInt8)),(.str ([68,65,84,65]:List UInt8)),(.str ([82,83,69,84]:List UInt8)),(.str ([78,79,79,80]:List UInt8)),(.str ([81,85,73,84]:List UInt8)),(.str ([86,82,70,89]:List UInt8))])),(13,(.bool ((decide (c1.kind<1))||(decide (9<c1.kind)))))] H'):
 AX Tryz.prog sA 66 H0.length (erase uu) K [(1,(.ptr q2 0)),(3,(.sl .ex 1 [(.str ([]:List UInt8)),(.str ([72,69,76,79]:List UInt8)),(.str ([69,72,76,79]:List UInt8)),(.str ([77,65,73,76]:List UInt8)),(.str ([82,67,80,84]:List UInt8)),(.str ([68,65,84,65]:List UInt8)),(.str ([82,83,69,84]:List UInt8)),(.str ([78,79,79,80]:List UInt8)),(.str ([81,85,73,84]:List UInt8)),(.str ([86,82,70,89]:List UInt8))]))] H:=by
 refine bY fun K' hK=> ?_
 have hle:=hfr.le
 have aL:=aN ai
 refine ax ai ?_
 refine gG (fun hy1=> ?_) fun hy1=> ?_
 · refine ax (aA hy1 ai) ?_
   exact hK _ _ _ _ _ (dj hy1) aq (kn _ hfr (ai.trans rfl))
 · refine ax (aA hy1 ai) ?_
   exact hK _ _ _ _ _ (dj hy1) aq (kn _ hfr (ai.trans rfl))
theorem Bv {c1:aC} {kz:Nat} {x3:List UInt8} {H0 H:AH} (hfr:Fr H0 H0.length [] H) (ai:H[kz]? =some [(.int .i64 c1.kind),(.str c1.arg),(.str c1.path.ak),(.str c1.path.domain),(.int .i64 c1.size)]) (dB:H0.length≤kz) {K:Exit→Env→AH→Prop} {t14:Bool}
 (h:mI c1=some t14)
 (kn:∀H':AH,Fr H0 H0.length [] H'→H'[kz]? =some [(.int .i64 c1.kind),(.str c1.arg),(.str c1.path.ak),(.str c1.path.domain),(.int .i64 c1.size)]→K .normal [(1,(.ptr kz 0)),(4,(.str x3)),(20,(.int .i64 c1.kind)),(46,(.bool t14))] H'):
 AX Tryz.prog sA 66 H0.length (erase uv) K [(1,(.ptr kz 0)),(4,(.str x3)),(20,(.int .i64 c1.kind)),(46,(.bool (decide (c1.kind=1))))] H:=by
 refine bY fun K' hK=> ?_
 have hle:=hfr.le
 have aL:=aN ai
 rw [mI.eq_1] at h
 refine ax ai ?_
 refine bk h (fun gi h=> ?_) fun gi h=> ?_
 · refine ax ai ?_
   obtain rfl:=aD h
   exact hK _ _ _ _ _ aK aq (kn _ hfr (ai.trans rfl))
 · refine ax ai ?_
   refine bk h (fun fS h=> ?_) fun fS h=> ?_
   · refine ax ai ?_
     obtain rfl:=aD h
     exact hK _ _ _ _ _ aK aq (kn _ hfr (ai.trans rfl))
   · refine ax ai ?_
     obtain rfl:=aD h
     exact hK _ _ _ _ _ aK aq (kn _ hfr (ai.trans rfl))
theorem xx {F:Nat} {c1:aC} {H0:AH} {aS:List UInt8} (h:lu F c1=some aS):
 aG Tryz.prog 15 [(.agg [(.int .i64 c1.kind),(.str c1.arg),(.str c1.path.ak),(.str c1.path.domain),(.int .i64 c1.size)])] H0 fun v H'=>v=(.str aS)∧H'=H0:=by
 refine lN Hi sA [] fun hcl K0 aP H hH hfr=> ?_
 clear hH
 have hle:=hfr.le
 rw [lu.eq_1] at h
 refine cj ?_
 obtain ⟨q2,hO⟩:∃q:Nat,H.length=q:=⟨_,rfl⟩
 try rw [hO]
 refine bA aq (Bu (q2:=q2) (c1:=c1) (Fr.app hfr) pJ bU ?_)
 intro H hfr ai
 have hle:=hfr.le
 have aL:=aN ai
 refine ax ai ?_
 refine bk h (fun hy2 h=> ?_) fun hy2 h=> ?_
 · refine ax ai ?_
   obtain rfl:=aD h
   exact aP _ _ _ bh (aR hfr hcl (aU aZ (.str ([]:List UInt8))) bf aW ⟨rfl,rfl⟩)
 · obtain ⟨x3,hy3,h⟩:=au h
   have hy4:idx [(.str ([]:List UInt8)),(.str ([72,69,76,79]:List UInt8)),(.str ([69,72,76,79]:List UInt8)),(.str ([77,65,73,76]:List UInt8)),(.str ([82,67,80,84]:List UInt8)),(.str ([68,65,84,65]:List UInt8)),(.str ([82,83,69,84]:List UInt8)),(.str ([78,79,79,80]:List UInt8)),(.str ([81,85,73,84]:List UInt8)),(.str ([86,82,70,89]:List UInt8))] c1.kind=some (AV.str x3):=Kh (f:=AV.str) hy3
   refine ax (aA hy4 ai) ?_
   refine bk h (fun bJ h=> ?_) fun bJ h=> ?_
   · obtain ⟨x4,ck,h⟩:=au h
     refine ax (aA ck ai) ?_
     obtain ⟨r5,cF,h⟩:=au h
     refine bw aq (xw cF) ?_
     refine ax ai ?_
     obtain ⟨x6,cv,h⟩:=au h
     refine ax (aA cv ai) ?_
     refine bk h (fun cM h=> ?_) fun cM h=> ?_
     · obtain ⟨x7,cc,h⟩:=au h
       refine ax (aA cc ai) ?_
       obtain ⟨r8,cx,h⟩:=au h
       refine bw aq (CP cx) ?_
       refine ax ai ?_
       obtain ⟨x9,cN,h⟩:=au h
       refine ax (aA cN ai) ?_
       obtain rfl:=aD h
       exact aP _ _ _ bh (aR hfr hcl (aU aZ (.str x9)) bf aW ⟨rfl,rfl⟩)
     · refine ax ai ?_
       obtain rfl:=aD h
       exact aP _ _ _ bh (aR hfr hcl (aU aZ (.str x6)) bf aW ⟨rfl,rfl⟩)
   · refine ax ai ?_
     refine bk h (fun cI h=> ?_) fun cI h=> ?_
     · obtain ⟨wA,dD,h⟩:=au h
       refine ax (aA dD ai) ?_
       obtain ⟨mY,eM,h⟩:=au h
       refine bw aq (xw eM) ?_
       refine ax ai ?_
       obtain ⟨lZ,dM,h⟩:=au h
       refine ax (aA dM ai) ?_
       obtain rfl:=aD h
       exact aP _ _ _ bh (aR hfr hcl (aU aZ (.str lZ)) bf aW ⟨rfl,rfl⟩)
     · refine ax ai ?_
       obtain ⟨t15,fC,h⟩:=au h
       refine bA aq (Bv (x3:=x3) (kz:=q2) hfr (ai.trans rfl) bU fC ?_)
       intro H hfr ai
       have hle:=hfr.le
       have aL:=aN ai
       refine ax ai ?_
       refine bk h (fun eA h=> ?_) fun eA h=> ?_
       · obtain ⟨jl,eT,h⟩:=au h
         obtain ⟨jT,fT,h⟩:=au h
         refine ax (aA eT (aA fT ai)) ?_
         obtain rfl:=aD h
         exact aP _ _ _ bh (aR hfr hcl (aU aZ (.str jT)) bf aW ⟨rfl,rfl⟩)
       · refine ax ai ?_
         refine bk h (fun jo h=> ?_) fun jo h=> ?_
         · refine ax ai ?_
           refine bk h (fun ie h=> ?_) fun ie h=> ?_
           · obtain ⟨Ey,iF,h⟩:=au h
             obtain ⟨yH,kq,h⟩:=au h
             refine ax (aA iF (aA kq ai)) ?_
             obtain rfl:=aD h
             exact aP _ _ _ bh (aR hfr hcl (aU aZ (.str yH)) bf aW ⟨rfl,rfl⟩)
           · refine ax ai ?_
             obtain rfl:=aD h
             exact aP _ _ _ bh (aR hfr hcl (aU aZ (.str x3)) bf aW ⟨rfl,rfl⟩)
         · refine ax ai ?_
           obtain rfl:=aD h
           exact aP _ _ _ bh (aR hfr hcl (aU aZ (.str x3)) bf aW ⟨rfl,rfl⟩)
abbrev xy:az:=(.rg [(av 11 4),(aj 12 (.bin .eql (.t 11) (.c (.int .i64 0)))),(av 13 12),(ay 14 (.ld (.t 3) (some 5)) 13 true),(ay 15 (.ld (.t 1) (some 5)) 13 true),(ay 16 (.seq [.i, .s, .s, .s, .i] false (.t 14) (.t 15)) 13 true),(aj 17 (.pick (.t 13) (.t 16) (.c (.bool false)))),(aO 2 17)])
abbrev KZ:az:=(.seq (.rg [(aj 1 (.box (.t 0))),(aj 2 (.aT (.c (.bool false))))]) (.seq (.rg [(aj 6 (.ld (.t 1) (some 5))),(aj 7 (.call (.c (.fn 14 [])) [(.t 6)])),(aj 8 (.call (.c (.fn 8 [])) [(.t 7)])),(av 5 8),(aj 9 (.ext (.t 5) 0)),(aj 10 (.ext (.t 5) 1)),(aj 3 (.alloc [(.int .i64 0),(.str []),(.str []),(.str []),(.int .i64 0)])),(cZ (.st (.t 3) (.t 9) 5)),(aO 4 10)]) (.seq (.sem (erase xy)) .ret)))
theorem K1:bL Tryz.prog 16 18 [(.tmp 2)] (erase KZ):=⟨Tryz.f16,_,rfl,by decide,rfl,by kernel_rfl,rfl,rfl⟩
abbrev CQ:List Nat:=[0,1,2,3,4]
def sB (F:Nat) (c1:aC):Option (Bool):=
 (mN F c1).bind fun r2=>
 (cV F r2).bind fun (r3,r4)=>
 some ((decide (r4=0))&&(decide (r3.kind=c1.kind)&&(decide (r3.arg=c1.arg)&&(decide (r3.path.ak=c1.path.ak)&&(decide (r3.path.domain=c1.path.domain)&&decide (r3.size=c1.size))))))
theorem DP {q5:Nat} {q6:Nat} {r4:Int} {c1:aC} {r3:aC} {H0 H:AH} (hfr:Fr H0 H0.length [] H) (ai:H[q5]? =some [(.int .i64 c1.kind),(.str c1.arg),(.str c1.path.ak),(.str c1.path.domain),(.int .i64 c1.size)]) (aJ:H[q6]? =some [(.int .i64 r3.kind),(.str r3.arg),(.str r3.path.ak),(.str r3.path.domain),(.int .i64 r3.size)]) (dB:H0.length≤q5) (hi1:H0.length≤q6) (hi2:q5≠q6) {K:Exit→Env→AH→Prop}
 (kn:∀H':AH,Fr H0 H0.length [] H'→H'[q5]? =some [(.int .i64 c1.kind),(.str c1.arg),(.str c1.path.ak),(.str c1.path.domain),(.int .i64 c1.size)]→H'[q6]? =some [(.int .i64 r3.kind),(.str r3.arg),(.str r3.path.ak),(.str r3.path.domain),(.int .i64 r3.size)]→K .normal [(2,(.bool ((decide (r4=0))&&(decide (r3.kind=c1.kind)&&(decide (r3.arg=c1.arg)&&(decide (r3.path.ak=c1.path.ak)&&(decide (r3.path.domain=c1.path.domain)&&decide (r3.size=c1.size))))))))] H'):
 AX Tryz.prog CQ 18 H0.length (erase xy) K [(1,(.ptr q5 0)),(2,(.bool false)),(3,(.ptr q6 0)),(4,(.int .i64 r4))] H:=by
 refine bY fun K' hK=> ?_
 have hle:=hfr.le
 have aL:=aN ai
 have jc:=aN aJ
 refine ax (aA ai aJ) ?_
 refine gG (fun hy3=> ?_) fun hy3=> ?_
 · refine ax (aA hy3 (aA ai aJ)) ?_
   exact hK _ _ _ _ _ (dj hy3) aq (kn _ hfr (ai.trans rfl) (aJ.trans rfl))
 · refine ax (aA hy3 (aA ai aJ)) ?_
   exact hK _ _ _ _ _ (dj hy3) aq (kn _ hfr (ai.trans rfl) (aJ.trans rfl))
theorem Iz {F:Nat} {c1:aC} {H0:AH} {aS:Bool} (h:sB F c1=some aS):
 aG Tryz.prog 16 [(.agg [(.int .i64 c1.kind),(.str c1.arg),(.str c1.path.ak),(.str c1.path.domain),(.int .i64 c1.size)])] H0 fun v H'=>v=(.bool aS)∧H'=H0:=by
 refine lN K1 CQ [] fun hcl K0 aP H hH hfr=> ?_
 clear hH
 have hle:=hfr.le
 rw [sB.eq_1] at h
 refine cj ?_
 obtain ⟨r2,hy1,h⟩:=au h
 refine bw aq (uN hy1) ?_
 refine cj ?_
 obtain ⟨⟨r3,r4⟩,hy2,h⟩:=au h
 dsimp only at h
 refine bw aq (cC hy2) ?_
 refine cj ?_
 obtain ⟨q6,rB⟩:∃q:Nat,(H.length+1)=q:=⟨_,rfl⟩
 try rw [rB]
 obtain ⟨q5,rC⟩:∃q:Nat,H.length=q:=⟨_,rfl⟩
 try rw [rC]
 try rw [show q5+1=q6 from by omega]
 refine bA aq (DP (q5:=q5) (q6:=q6) (r4:=r4) (c1:=c1) (r3:=r3) (b6 _ (Fr.app (Fr.app hfr))) (gq (lU pJ)) cL bU bU bU ?_)
 intro H hfr ai aJ
 have hle:=hfr.le
 have aL:=aN ai
 have jc:=aN aJ
 refine ax (aA ai aJ) ?_
 obtain rfl:=aD h
 exact aP _ _ _ bh (aR hfr hcl (aU aZ (.bool ((decide (r4=0))&&(decide (r3.kind=c1.kind)&&(decide (r3.arg=c1.arg)&&(decide (r3.path.ak=c1.path.ak)&&(decide (r3.path.domain=c1.path.domain)&&decide (r3.size=c1.size)))))))) bf aW ⟨rfl,rfl⟩)
abbrev uw:az:=(.rg [(av 11 4),(aj 12 (.bin .eql (.t 11) (.c (.int .i64 0)))),(av 13 12),(ay 14 (.ld (.t 3) (some 5)) 13 true),(ay 15 (.ld (.t 1) (some 5)) 13 true),(ay 16 (.seq [.i, .s, .s, .s, .i] false (.t 14) (.t 15)) 13 true),(aj 17 (.pick (.t 13) (.t 16) (.c (.bool false)))),(aO 2 17)])
abbrev Hj:az:=(.seq (.rg [(aj 1 (.box (.t 0))),(aj 2 (.aT (.c (.bool false))))]) (.seq (.rg [(aj 6 (.ld (.t 1) (some 5))),(aj 7 (.call (.c (.fn 15 [])) [(.t 6)])),(aj 8 (.call (.c (.fn 9 [])) [(.t 7)])),(av 5 8),(aj 9 (.ext (.t 5) 0)),(aj 10 (.ext (.t 5) 1)),(aj 3 (.alloc [(.int .i64 0),(.str []),(.str []),(.str []),(.int .i64 0)])),(cZ (.st (.t 3) (.t 9) 5)),(aO 4 10)]) (.seq (.sem (erase uw)) .ret)))
theorem Hl:bL Tryz.prog 17 18 [(.tmp 2)] (erase Hj):=⟨Tryz.f17,_,rfl,by decide,rfl,by kernel_rfl,rfl,rfl⟩
abbrev zg:List Nat:=[0,1,2,3,4]
def gX (F:Nat) (c1:aC):Option (Bool):=
 (lu F c1).bind fun r2=>
 (nV F r2).bind fun (r3,r4)=>
 some ((decide (r4=0))&&(decide (r3.kind=c1.kind)&&(decide (r3.arg=c1.arg)&&(decide (r3.path.ak=c1.path.ak)&&(decide (r3.path.domain=c1.path.domain)&&decide (r3.size=c1.size))))))
theorem Bw {q5:Nat} {q6:Nat} {r4:Int} {c1:aC} {r3:aC} {H0 H:AH} (hfr:Fr H0 H0.length [] H) (ai:H[q5]? =some [(.int .i64 c1.kind),(.str c1.arg),(.str c1.path.ak),(.str c1.path.domain),(.int .i64 c1.size)]) (aJ:H[q6]? =some [(.int .i64 r3.kind),(.str r3.arg),(.str r3.path.ak),(.str r3.path.domain),(.int .i64 r3.size)]) (dB:H0.length≤q5) (hi1:H0.length≤q6) (hi2:q5≠q6) {K:Exit→Env→AH→Prop}
 (kn:∀H':AH,Fr H0 H0.length [] H'→H'[q5]? =some [(.int .i64 c1.kind),(.str c1.arg),(.str c1.path.ak),(.str c1.path.domain),(.int .i64 c1.size)]→H'[q6]? =some [(.int .i64 r3.kind),(.str r3.arg),(.str r3.path.ak),(.str r3.path.domain),(.int .i64 r3.size)]→K .normal [(2,(.bool ((decide (r4=0))&&(decide (r3.kind=c1.kind)&&(decide (r3.arg=c1.arg)&&(decide (r3.path.ak=c1.path.ak)&&(decide (r3.path.domain=c1.path.domain)&&decide (r3.size=c1.size))))))))] H'):
 AX Tryz.prog zg 18 H0.length (erase uw) K [(1,(.ptr q5 0)),(2,(.bool false)),(3,(.ptr q6 0)),(4,(.int .i64 r4))] H:=by
 refine bY fun K' hK=> ?_
 have hle:=hfr.le
 have aL:=aN ai
 have jc:=aN aJ
 refine ax (aA ai aJ) ?_
 refine gG (fun hy3=> ?_) fun hy3=> ?_
 · refine ax (aA hy3 (aA ai aJ)) ?_
   exact hK _ _ _ _ _ (dj hy3) aq (kn _ hfr (ai.trans rfl) (aJ.trans rfl))
 · refine ax (aA hy3 (aA ai aJ)) ?_
   exact hK _ _ _ _ _ (dj hy3) aq (kn _ hfr (ai.trans rfl) (aJ.trans rfl))
theorem xA {F:Nat} {c1:aC} {H0:AH} {aS:Bool} (h:gX F c1=some aS):
 aG Tryz.prog 17 [(.agg [(.int .i64 c1.kind),(.str c1.arg),(.str c1.path.ak),(.str c1.path.domain),(.int .i64 c1.size)])] H0 fun v H'=>v=(.bool aS)∧H'=H0:=by
 refine lN Hl zg [] fun hcl K0 aP H hH hfr=> ?_
 clear hH
 have hle:=hfr.le
 rw [gX.eq_1] at h
 refine cj ?_
 obtain ⟨r2,hy1,h⟩:=au h
 refine bw aq (xx hy1) ?_
 refine cj ?_
 obtain ⟨⟨r3,r4⟩,hy2,h⟩:=au h
 dsimp only at h
 refine bw aq (EW hy2) ?_
 refine cj ?_
 obtain ⟨q6,rB⟩:∃q:Nat,(H.length+1)=q:=⟨_,rfl⟩
 try rw [rB]
 obtain ⟨q5,rC⟩:∃q:Nat,H.length=q:=⟨_,rfl⟩
 try rw [rC]
 try rw [show q5+1=q6 from by omega]
 refine bA aq (Bw (q5:=q5) (q6:=q6) (r4:=r4) (c1:=c1) (r3:=r3) (b6 _ (Fr.app (Fr.app hfr))) (gq (lU pJ)) cL bU bU bU ?_)
 intro H hfr ai aJ
 have hle:=hfr.le
 have aL:=aN ai
 have jc:=aN aJ
 refine ax (aA ai aJ) ?_
 obtain rfl:=aD h
 exact aP _ _ _ bh (aR hfr hcl (aU aZ (.bool ((decide (r4=0))&&(decide (r3.kind=c1.kind)&&(decide (r3.arg=c1.arg)&&(decide (r3.path.ak=c1.path.ak)&&(decide (r3.path.domain=c1.path.domain)&&decide (r3.size=c1.size)))))))) bf aW ⟨rfl,rfl⟩)
abbrev ux:az:=(.rg [(av 7 4),(av 8 3),(aj 9 (.len (.t 8))),(aj 10 (.bin .lss (.t 7) (.t 9))),(av 11 10),(ay 12 (.mv (.t 3)) 11 true),(ay 13 (.mv (.t 4)) 11 true),(ay 14 (.pI 1 (.t 12) (.t 13)) 11 true),(ay 15 (.ld (.t 14) none) 11 true),(ay 16 (.bin .neq (.t 15) (.c (b8 60))) 11 true),(aj 17 (.pick (.t 11) (.t 16) (.c (.bool false)))),(av 18 17),(ay 19 (.mv (.t 4)) 18 true),(ay 20 (.bin .lss (.t 19) (.c (.int .i64 5))) 18 true),(ay 21 (.mv (.t 20)) 18 true),(ay 22 (.mv (.t 3)) 21 false),(ay 23 (.mv (.t 4)) 21 false),(ay 24 (.pI 1 (.t 22) (.t 23)) 21 false),(ay 25 (.ld (.t 24) none) 21 false),(ay 26 (.bin .neq (.t 25) (.c (b8 32))) 21 false),(ay 27 (.pick (.t 21) (.c (.bool true)) (.t 26)) 18 true),(aj 28 (.pick (.t 18) (.t 27) (.c (.bool false))))])
abbrev uy:az:=(.rg [(av 31 3),(av 32 4),(aj 33 (.pI 1 (.t 31) (.t 32))),(aj 34 (.ld (.t 33) none)),(aj 35 (.bin .geq (.t 34) (.c (b8 65)))),(av 36 35),(ay 37 (.mv (.t 3)) 36 true),(ay 38 (.mv (.t 4)) 36 true),(ay 39 (.pI 1 (.t 37) (.t 38)) 36 true),(ay 40 (.ld (.t 39) none) 36 true),(ay 41 (.bin .leq (.t 40) (.c (b8 90))) 36 true),(aj 42 (.pick (.t 36) (.t 41) (.c (.bool false)))),(av 43 42),(ay 44 (.mv (.t 4)) 43 true),(ay 45 (.bin .lss (.t 44) (.c (.int .i64 4))) 43 true),(ay 46 (.mv (.t 45)) 43 true),(ay 47 (.mv (.t 0)) 46 false),(ay 48 (.iP (.t 47) none (some (.c (.int .i64 4)))) 46 false),(ay 49 (.bin .eql (.t 48) (.c (.str [77,65,73,76]))) 46 false),(ay 50 (.pick (.t 46) (.c (.bool true)) (.t 49)) 43 true),(ay 51 (.mv (.t 50)) 43 true),(ay 52 (.mv (.t 0)) 51 false),(ay 53 (.iP (.t 52) none (some (.c (.int .i64 4)))) 51 false),(ay 54 (.bin .eql (.t 53) (.c (.str [82,67,80,84]))) 51 false),(ay 55 (.pick (.t 51) (.c (.bool true)) (.t 54)) 43 true),(aj 56 (.pick (.t 43) (.t 55) (.c (.bool false))))])
abbrev sC:az:=(.seq (.seq (.sem (erase ux)) (.cond (.t 28) .skip (.exit 0))) (.seq (.blk 1 (.seq (.sem (erase uy)) (.cond (.t 56) (.rg [(av 57 3),(av 58 4),(av 59 3),(av 60 4),(aj 61 (.pI 1 (.t 59) (.t 60))),(aj 62 (.ld (.t 61) none)),(aj 63 (.bin .add (.t 62) (.c (b8 32)))),(aj 64 (.pI 1 (.t 57) (.t 58))),(cZ (.st (.t 64) (.t 63) 1))]) .skip))) (.rg [(av 29 4),(aj 30 (.bin .add (.t 29) (.c (.int .i64 1)))),(aO 4 30)])))
abbrev Ho:az:=(.seq (.rg [(aj 2 (.aT (.c (.str []))))]) (.seq (.rg [(av 5 0),(aj 6 (.qC (.t 5))),(aO 3 6)]) (.seq (.seq (.rg [(aj 4 (.aT (.c (.int .i64 0))))]) (.blk 0 (.loop (erase sC)))) (.seq (.rg [(av 65 3),(aj 66 (.iT .bs (.t 65))),(aO 2 66)]) .ret))))
theorem Hp:bL Tryz.prog 18 67 [(.tmp 2)] (erase Ho):=⟨Tryz.f18,_,rfl,by decide,rfl,by kernel_rfl,rfl,rfl⟩
abbrev nZ:List Nat:=[0,2,3,4,28,56]
def fP (i3:Int) (s1:List UInt8) (s4:List UInt8):Option (Bool):=
 (if (decide (i3<(s1.length:Int))) then
  (zE s1.length i3).bind fun j6=>
  (s4[j6]?).bind fun x7=>
  (if (!decide (x7=60)) then
   (if (decide (i3<5)) then
    some true
   else
    some (!decide (x7=32)))
  else
   some false)
 else
  some false)
def jH (s1:List UInt8) (i3:Int) (s4:List UInt8):Option (Bool):=
 (zE s1.length i3).bind fun j11=>
 (s4[j11]?).bind fun lZ=>
 (if (decide (65≤lZ)) then
  (if (decide (lZ≤90)) then
   (if (decide (i3<4)) then
    some true
   else
    (sub s1 0 4).bind fun iu=>
    (if (decide (iu=([77,65,73,76]:List UInt8))) then
     some true
    else
     some (decide (iu=([82,67,80,84]:List UInt8)))))
  else
   some false)
 else
  some false)
def eW (s1:List UInt8):(Int×(List UInt8))→Option (St (List UInt8) (List UInt8) (Int×(List UInt8)))
 |(i3,s4)=>
  (fP i3 s1 s4).bind fun t9=>
  (if t9 then
   (jH s1 i3 s4).bind fun t15=>
   (if t15 then
    (zE s1.length i3).bind fun j16=>
    (s4[j16]?).bind fun jT=>
    (FN s4 j16 (jT+32)).bind fun qk=>some (.cA ((IntKind.wrap .i64 (i3+1)),qk))
   else
    some (.cA ((IntKind.wrap .i64 (i3+1)),s4)))
  else
   some (.dQ s4))
def n4 (F:Nat) (s1:List UInt8):Option ((List UInt8)):=
 ((iter (eW s1) F (0,s1)).bind fun X5=>
 match X5 with
 | .inr zI=>
   (sub zI 0 (s1.length:Int)).bind fun yI=>some yI
 | .inl _=>none)
theorem Bx {i3:Int} {s1:List UInt8} {s4:List UInt8} {q5:Nat} {H0 H:AH} (hfr:Fr H0 H0.length [] H) (ai:H[q5]? =some (ml b8 s4)) (dB:H0.length≤q5) {K:Exit→Env→AH→Prop} {t8:Bool}
 (h:fP i3 s1 s4=some t8)
 (kn:∀H':AH,Fr H0 H0.length [] H'→H'[q5]? =some (ml b8 s4)→K .normal [(0,(.str s1)),(3,(.cE q5 1 0 s1.length)),(4,(.int .i64 i3)),(28,(.bool t8))] H'):
 AX Tryz.prog nZ 67 H0.length (erase ux) K [(0,(.str s1)),(3,(.cE q5 1 0 s1.length)),(4,(.int .i64 i3))] H:=by
 refine bY fun K' hK=> ?_
 have hle:=hfr.le
 have aL:=aN ai
 rw [fP.eq_1] at h
 refine ax ai ?_
 refine bT h (fun hy1 h=> ?_) fun hy1 h=> ?_
 · obtain ⟨j6,hy2,h⟩:=au h
   obtain ⟨x7,hy3,h⟩:=au h
   refine ax (aA hy1 (aA hy2 (aA hy3 ai))) ?_
   refine bT h (fun hy4 h=> ?_) fun hy4 h=> ?_
   · refine ax (aA hy4 ai) ?_
     refine bT h (fun bJ h=> ?_) fun bJ h=> ?_
     · refine ax (aA bJ ai) ?_
       obtain rfl:=aD h
       exact hK _ _ _ _ _ aK aq (kn _ hfr (ai.trans rfl))
     · refine ax (aA bJ (aA hy2 (aA hy3 ai))) ?_
       obtain rfl:=aD h
       exact hK _ _ _ _ _ aK aq (kn _ hfr (ai.trans rfl))
   · refine ax (aA hy4 ai) ?_
     obtain rfl:=aD h
     exact hK _ _ _ _ _ aK aq (kn _ hfr (ai.trans rfl))
 · refine ax (aA hy1 ai) ?_
   obtain rfl:=aD h
   exact hK _ _ _ _ _ aK aq (kn _ hfr (ai.trans rfl))
theorem By {s1:List UInt8} {i3:Int} {s4:List UInt8} {U3:Nat} {H0 H:AH} (hfr:Fr H0 H0.length [] H) (ai:H[U3]? =some (ml b8 s4)) (dB:H0.length≤U3) {K:Exit→Env→AH→Prop} {t14:Bool}
 (h:jH s1 i3 s4=some t14)
 (kn:∀H':AH,Fr H0 H0.length [] H'→H'[U3]? =some (ml b8 s4)→K .normal [(0,(.str s1)),(3,(.cE U3 1 0 s1.length)),(4,(.int .i64 i3)),(56,(.bool t14))] H'):
 AX Tryz.prog nZ 67 H0.length (erase uy) K [(0,(.str s1)),(3,(.cE U3 1 0 s1.length)),(4,(.int .i64 i3))] H:=by
 refine bY fun K' hK=> ?_
 have hle:=hfr.le
 have aL:=aN ai
 rw [jH.eq_1] at h
 obtain ⟨j11,cv,h⟩:=au h
 obtain ⟨lZ,cM,h⟩:=au h
 refine ax (aA cv (aA cM ai)) ?_
 refine bT h (fun cc h=> ?_) fun cc h=> ?_
 · refine ax (aA cc (aA cv (aA cM ai))) ?_
   refine bT h (fun cx h=> ?_) fun cx h=> ?_
   · refine ax (aA cx ai) ?_
     refine bT h (fun cN h=> ?_) fun cN h=> ?_
     · refine ax (aA cN ai) ?_
       obtain rfl:=aD h
       exact hK _ _ _ _ _ aK aq (kn _ hfr (ai.trans rfl))
     · obtain ⟨iu,cI,h⟩:=au h
       refine ax (aA cN (aA cI ai)) ?_
       refine bT h (fun dD h=> ?_) fun dD h=> ?_
       · refine ax (aA dD ai) ?_
         obtain rfl:=aD h
         exact hK _ _ _ _ _ aK aq (kn _ hfr (ai.trans rfl))
       · refine ax (aA dD (aA cI ai)) ?_
         obtain rfl:=aD h
         exact hK _ _ _ _ _ aK aq (kn _ hfr (ai.trans rfl))
   · refine ax (aA cx ai) ?_
     obtain rfl:=aD h
     exact hK _ _ _ _ _ aK aq (kn _ hfr (ai.trans rfl))
 · refine ax (aA cc ai) ?_
   obtain rfl:=aD h
   exact hK _ _ _ _ _ aK aq (kn _ hfr (ai.trans rfl))
theorem Bz {F:Nat} {i3:Int} {s1:List UInt8} {s4:List UInt8} {q2:Nat} {H0 H:AH} (hfr:Fr H0 H0.length [] H) (ai:H[q2]? =some (ml b8 s4)) (dB:H0.length≤q2) {K:Exit→Env→AH→Prop} {o:((List UInt8))⊕((List UInt8))}
 (h:iter (eW s1) F (i3,s4)=some o)
 (dz:∀o':(List UInt8),o= .inr o'→∀H':AH,Fr H0 H0.length [] H'→H'[q2]? =some (ml b8 o')→K (.exit 0) [(3,(.cE q2 1 0 s1.length))] H'):
 AX Tryz.prog nZ 67 H0.length (.loop (erase sC)) K [(0,(.str s1)),(3,(.cE q2 1 0 s1.length)),(4,(.int .i64 i3))] H:=by
 refine iE (fun s e H1=>match s with|(i3,s4)=>e=[(0,(.str s1)),(3,(.cE q2 1 0 s1.length)),(4,(.int .i64 i3))]∧Fr H0 H0.length [] H1∧H1[q2]? =some (ml b8 s4)) h ⟨rfl,hfr,ai⟩ ?_
 rintro K' ⟨i3,s4⟩ st e H ⟨rfl,hfr,ai⟩ h hN hB hR hX
 have hle:=hfr.le
 have aL:=aN ai
 rw [eW.eq_1] at h
 refine ax ai ?_
 obtain ⟨t9,ck,h⟩:=au h
 refine bA aq (Bx (q5:=q2) hfr (ai.trans rfl) bU ck ?_)
 intro H hfr ai
 have hle:=hfr.le
 have aL:=aN ai
 refine ax ai ?_
 refine bk h (fun cF h=> ?_) fun cF h=> ?_
 · refine ax ai ?_
   obtain ⟨t15,eM,h⟩:=au h
   refine bA aq (By (U3:=q2) hfr (ai.trans rfl) bU eM ?_)
   intro H hfr ai
   have hle:=hfr.le
   have aL:=aN ai
   refine ax ai ?_
   refine bk h (fun dM h=> ?_) fun dM h=> ?_
   · obtain ⟨j16,gi,h⟩:=au h
     obtain ⟨jT,fS,h⟩:=au h
     obtain ⟨qk,fC,h⟩:=au h
     refine ax (aA gi (aA fS (aA gi (aA fC ai)))) ?_
     obtain rfl:=aD h
     exact hN _ rfl _ _ _ _ aK aq ⟨rfl,(b6 _ hfr),cL⟩
   · refine ax ai ?_
     obtain rfl:=aD h
     exact hN _ rfl _ _ _ _ aK aq ⟨rfl,hfr,(ai.trans rfl)⟩
 · refine ax ai ?_
   obtain rfl:=aD h
   exact hX _ _ _ _ _ dH aK aq (dz _ (hB _ rfl) _ hfr (ai.trans rfl))
theorem EY {F:Nat} {s1:List UInt8} {H0:AH} {aS:List UInt8} (h:n4 F s1=some aS):
 aG Tryz.prog 18 [(.str s1)] H0 fun v H'=>v=(.str aS)∧H'=H0:=by
 refine lN Hp nZ [] fun hcl K0 aP H hH hfr=> ?_
 clear hH
 have hle:=hfr.le
 rw [n4.eq_1] at h
 refine cj ?_
 obtain ⟨q2,hO⟩:∃q:Nat,H.length=q:=⟨_,rfl⟩
 try rw [hO]
 obtain ⟨X5,eA,h⟩:=au h
 refine bA aq (Bz (q2:=q2) (Fr.app hfr) pJ bU eA ?_)
 · rintro zI rfl H hfr ai
   try dsimp only at h ai
   have hle:=hfr.le
   have aL:=aN ai
   refine cj ?_
   obtain ⟨yI,eT,h⟩:=au h
   refine ax (aA eT ai) ?_
   obtain rfl:=aD h
   exact aP _ _ _ bh (aR hfr hcl (aU aZ (.str yI)) bf aW ⟨rfl,rfl⟩)
abbrev p8:az:=(.rg [(aj 10 (.cw (.t 1) 1)),(aj 11 (.ld (.t 10) none)),(aj 12 (.lens (.t 11))),(aj 13 (.bin .gtr (.t 12) (.c (.int .i64 600)))),(av 14 13),(ay 15 (.cw (.t 1) 2) 14 false),(ay 16 (.ld (.t 15) (some 2)) 14 false),(ay 17 (.call (.c (.fn 13 [])) [(.t 16)]) 14 false),(ay 18 (.un .not (.t 17)) 14 false),(aj 19 (.pick (.t 14) (.c (.bool true)) (.t 18)))])
abbrev p9:az:=(.rg [(av 22 3),(aj 23 (.CT (.t 1) (some 5))),(aj 24 (.call (.c (.fn 15 [])) [(.t 23)])),(aj 25 (.bin .neq (.t 22) (.t 24))),(av 26 25),(ay 27 (.CT (.t 1) (some 5)) 26 false),(ay 29 (.CT (.t 1) (some 5)) 26 false),(ay 28 (.call (.c (.fn 16 [])) [(.t 27)]) 26 false),(ay 30 (.call (.c (.fn 17 [])) [(.t 29)]) 26 false),(ay 31 (.bq true (.t 28) (.t 30)) 26 false),(aj 32 (.pick (.t 26) (.c (.bool true)) (.t 31)))])
abbrev qa:az:=(.rg [(av 48 5),(aj 49 (.bin .eql (.t 48) (.c (.int .i64 0)))),(av 50 49),(ay 51 (.ld (.t 4) (some 5)) 50 true),(ay 52 (.ld (.t 1) (some 5)) 50 true),(ay 53 (.seq [.i, .s, .s, .s, .i] false (.t 51) (.t 52)) 50 true),(aj 54 (.pick (.t 50) (.t 53) (.c (.bool false)))),(av 55 54),(ay 56 (.mv (.t 7)) 55 true),(ay 57 (.bin .eql (.t 56) (.c (.int .i64 0))) 55 true),(aj 58 (.pick (.t 55) (.t 57) (.c (.bool false)))),(av 59 58),(ay 60 (.cw (.t 6) 0) 59 true),(ay 61 (.ld (.t 60) none) 59 true),(ay 62 (.cw (.t 1) 0) 59 true),(ay 63 (.ld (.t 62) none) 59 true),(ay 64 (.bin .eql (.t 61) (.t 63)) 59 true),(aj 65 (.pick (.t 59) (.t 64) (.c (.bool false)))),(aO 2 65)])
abbrev DQ:az:=(.seq (.rg [(aj 1 (.box (.t 0))),(aj 2 (.aT (.c (.bool false))))]) (.seq (.seq (.rg [(aj 8 (.call (.c (.fn 7 [])) [])),(aj 9 (.un .not (.t 8)))]) (.cond (.t 9) (.seq (.rg [(aj 2 (.aT (.c (.bool false))))]) .ret) .skip)) (.seq (.seq (.sem (erase p8)) (.cond (.t 19) (.seq (.rg [(aj 2 (.aT (.c (.bool true))))]) .ret) .skip)) (.seq (.rg [(aj 20 (.ld (.t 1) (some 5))),(aj 21 (.call (.c (.fn 14 [])) [(.t 20)])),(aO 3 21)]) (.seq (.seq (.sem (erase p9)) (.cond (.t 32) (.seq (.rg [(aj 2 (.aT (.c (.bool false))))]) .ret) .skip)) (.seq (.seq (.rg [(aj 33 (.ld (.t 1) (some 5))),(aj 34 (.call (.c (.fn 17 [])) [(.t 33)])),(aj 35 (.un .not (.t 34)))]) (.cond (.t 35) (.seq (.rg [(aj 2 (.aT (.c (.bool true))))]) .ret) .skip)) (.seq (.rg [(av 37 3),(aj 38 (.bin .add (.t 37) (.c (.str [32,32])))),(aj 39 (.call (.c (.fn 8 [])) [(.t 38)])),(av 36 39),(aj 40 (.ext (.t 36) 0)),(aj 41 (.ext (.t 36) 1)),(aj 4 (.alloc [(.int .i64 0),(.str []),(.str []),(.str []),(.int .i64 0)])),(cZ (.st (.t 4) (.t 40) 5)),(aO 5 41)]) (.seq (.rg [(av 43 3),(aj 44 (.call (.c (.fn 18 [])) [(.t 43)])),(aj 45 (.call (.c (.fn 8 [])) [(.t 44)])),(av 42 45),(aj 46 (.ext (.t 42) 0)),(aj 47 (.ext (.t 42) 1)),(aj 6 (.alloc [(.int .i64 0),(.str []),(.str []),(.str []),(.int .i64 0)])),(cZ (.st (.t 6) (.t 46) 5)),(aO 7 47)]) (.seq (.sem (erase qa)) .ret)))))))))
theorem DR:bL Tryz.prog 6 66 [(.tmp 2)] (erase DQ):=⟨Tryz.f6,_,rfl,by decide,rfl,by kernel_rfl,rfl,rfl⟩
abbrev lz:List Nat:=[0,1,2,3,4,5,6,7,9,19,32,35]
def gY (c1:aC):Option (Bool):=
 (if (decide (600<(c1.arg.length:Int))) then
  some true
 else
  (wL c1.path).bind fun r4=>some (!r4))
def jY (F:Nat) (c1:aC) (r7:List UInt8):Option (Bool):=
 (lu F c1).bind fun r8=>
 (if (!decide (r7=r8)) then
  some true
 else
  (sB F c1).bind fun r9=>(gX F c1).bind fun dR=>some (!(r9==dR)))
def n5 (F:Nat) (c1:aC):Option (Bool):=
 (jd F).bind fun r2=>
 (if (!r2) then
  some false
 else
  (gY c1).bind fun t6=>
  (if t6 then
   some true
  else
   (mN F c1).bind fun r7=>
   (jY F c1 r7).bind fun t12=>
   (if t12 then
    some false
   else
    (gX F c1).bind fun mM=>
    (if (!mM) then
     some true
    else
     (cat r7 ([32,32]:List UInt8)).bind fun Dr=>
     (cV F Dr).bind fun (de,r16)=>
     (n4 F r7).bind fun zL=>
     (cV F zL).bind fun (cS,lO)=>
     some ((((decide (r16=0))&&(decide (de.kind=c1.kind)&&(decide (de.arg=c1.arg)&&(decide (de.path.ak=c1.path.ak)&&(decide (de.path.domain=c1.path.domain)&&decide (de.size=c1.size))))))&&(decide (lO=0)))&&(decide (cS.kind=c1.kind)))))))
theorem zh {c1:aC} {q3:Nat} {H0 H:AH} (hfr:Fr H0 H0.length [] H) (ai:H[q3]? =some [(.int .i64 c1.kind),(.str c1.arg),(.str c1.path.ak),(.str c1.path.domain),(.int .i64 c1.size)]) (dB:H0.length≤q3) {K:Exit→Env→AH→Prop} {t5:Bool}
 (h:gY c1=some t5)
 (kn:∀H':AH,Fr H0 H0.length [] H'→H'[q3]? =some [(.int .i64 c1.kind),(.str c1.arg),(.str c1.path.ak),(.str c1.path.domain),(.int .i64 c1.size)]→K .normal [(1,(.ptr q3 0)),(19,(.bool t5))] H'):
 AX Tryz.prog lz 66 H0.length (erase p8) K [(1,(.ptr q3 0))] H:=by
 refine bY fun K' hK=> ?_
 have hle:=hfr.le
 have aL:=aN ai
 rw [gY.eq_1] at h
 refine ax ai ?_
 refine bT h (fun hy3 h=> ?_) fun hy3 h=> ?_
 · refine ax (aA hy3 ai) ?_
   obtain rfl:=aD h
   exact hK _ _ _ _ _ aK aq (kn _ hfr (ai.trans rfl))
 · refine ax (aA hy3 ai) ?_
   obtain ⟨r4,hy4,h⟩:=au h
   refine bw aq (Iy hy4) ?_
   refine ax ai ?_
   obtain rfl:=aD h
   exact hK _ _ _ _ _ aK aq (kn _ hfr (ai.trans rfl))
theorem zi {F:Nat} {c1:aC} {r7:List UInt8} {H0 H:AH} (hfr:Fr H0 H0.length [] H) {K:Exit→Env→AH→Prop} {t11:Bool}
 (h:jY F c1 r7=some t11)
 (kn:∀H':AH,Fr H0 H0.length [] H'→K .normal [(1,(.ep (.agg [(.int .i64 c1.kind),(.str c1.arg),(.str c1.path.ak),(.str c1.path.domain),(.int .i64 c1.size)]) 0)),(3,(.str r7)),(32,(.bool t11))] H'):
 AX Tryz.prog lz 66 H0.length (erase p9) K [(1,(.ep (.agg [(.int .i64 c1.kind),(.str c1.arg),(.str c1.path.ak),(.str c1.path.domain),(.int .i64 c1.size)]) 0)),(3,(.str r7))] H:=by
 refine bY fun K' hK=> ?_
 have hle:=hfr.le
 rw [jY.eq_1] at h
 refine cj ?_
 obtain ⟨r8,cv,h⟩:=au h
 refine bw aq (xx cv) ?_
 refine cj ?_
 refine bT h (fun cM h=> ?_) fun cM h=> ?_
 · refine ax cM ?_
   obtain rfl:=aD h
   exact hK _ _ _ _ _ (dj cM) aq (kn _ hfr)
 · refine ax cM ?_
   obtain ⟨r9,cc,h⟩:=au h
   refine bw aq (Iz cc) ?_
   refine cj ?_
   obtain ⟨dR,cx,h⟩:=au h
   refine bw aq (xA cx) ?_
   refine cj ?_
   obtain rfl:=aD h
   exact hK _ _ _ _ _ (dj cM) aq (kn _ hfr)
theorem zj {c1:aC} {zK:Nat} {r16:Int} {K2:Nat} {lO:Int} {de:aC} {cS:aC} {H0 H:AH} (hfr:Fr H0 H0.length [] H) (aJ:H[zK]? =some [(.int .i64 de.kind),(.str de.arg),(.str de.path.ak),(.str de.path.domain),(.int .i64 de.size)]) (bg:H[K2]? =some [(.int .i64 cS.kind),(.str cS.arg),(.str cS.path.ak),(.str cS.path.domain),(.int .i64 cS.size)]) (dB:H0.length≤zK) (hi1:H0.length≤K2) (hi2:zK≠K2) {K:Exit→Env→AH→Prop}
 (kn:∀H':AH,Fr H0 H0.length [] H'→H'[zK]? =some [(.int .i64 de.kind),(.str de.arg),(.str de.path.ak),(.str de.path.domain),(.int .i64 de.size)]→H'[K2]? =some [(.int .i64 cS.kind),(.str cS.arg),(.str cS.path.ak),(.str cS.path.domain),(.int .i64 cS.size)]→K .normal [(2,(.bool ((((decide (r16=0))&&(decide (de.kind=c1.kind)&&(decide (de.arg=c1.arg)&&(decide (de.path.ak=c1.path.ak)&&(decide (de.path.domain=c1.path.domain)&&decide (de.size=c1.size))))))&&(decide (lO=0)))&&(decide (cS.kind=c1.kind)))))] H'):
 AX Tryz.prog lz 66 H0.length (erase qa) K [(1,(.ep (.agg [(.int .i64 c1.kind),(.str c1.arg),(.str c1.path.ak),(.str c1.path.domain),(.int .i64 c1.size)]) 0)),(4,(.ptr zK 0)),(5,(.int .i64 r16)),(6,(.ptr K2 0)),(7,(.int .i64 lO))] H:=by
 refine bY fun K' hK=> ?_
 have hle:=hfr.le
 have jc:=aN aJ
 have wC:=aN bg
 refine ax (aA aJ bg) ?_
 refine gG (fun eA=> ?_) fun eA=> ?_
 · refine ax (aA eA (aA aJ bg)) ?_
   refine gG (fun eT=> ?_) fun eT=> ?_
   · refine ax (aA eT (aA aJ bg)) ?_
     refine gG (fun fT=> ?_) fun fT=> ?_
     · refine ax (aA fT (aA aJ bg)) ?_
       exact hK _ _ _ _ _ (dj (aA eA (aA eT fT))) aq (kn _ hfr (aJ.trans rfl) (bg.trans rfl))
     · refine ax (aA fT (aA aJ bg)) ?_
       exact hK _ _ _ _ _ (dj (aA eA (aA eT fT))) aq (kn _ hfr (aJ.trans rfl) (bg.trans rfl))
   · refine ax (aA eT (aA aJ bg)) ?_
     exact hK _ _ _ _ _ (dj (aA eA eT)) aq (kn _ hfr (aJ.trans rfl) (bg.trans rfl))
 · refine ax (aA eA (aA aJ bg)) ?_
   exact hK _ _ _ _ _ (dj eA) aq (kn _ hfr (aJ.trans rfl) (bg.trans rfl))
theorem CS {F:Nat} {c1:aC} {H0:AH} {aS:Bool} (h:n5 F c1=some aS):
 aG Tryz.prog 6 [(.agg [(.int .i64 c1.kind),(.str c1.arg),(.str c1.path.ak),(.str c1.path.domain),(.int .i64 c1.size)])] H0 fun v H'=>v=(.bool aS)∧H'=H0:=by
 refine lN DR lz [] fun hcl K0 aP H hH hfr=> ?_
 clear hH
 have hle:=hfr.le
 rw [n5.eq_1] at h
 refine cj ?_
 obtain ⟨r2,hy1,h⟩:=au h
 refine bw aq (pP hy1) ?_
 refine cj ?_
 refine bk h (fun hy2 h=> ?_) fun hy2 h=> ?_
 · refine cj ?_
   obtain rfl:=aD h
   exact aP _ _ _ bh (aR (Fr.app hfr) hcl (aU aZ (.bool false)) bf aW ⟨rfl,rfl⟩)
 · refine cj ?_
   obtain ⟨q3,Au⟩:∃q:Nat,H.length=q:=⟨_,rfl⟩
   try rw [Au]
   obtain ⟨t6,bJ,h⟩:=au h
   refine bA aq (zh (q3:=q3) (Fr.app hfr) pJ bU bJ ?_)
   intro H hfr ai
   have hle:=hfr.le
   have aL:=aN ai
   refine ax ai ?_
   refine bk h (fun ck h=> ?_) fun ck h=> ?_
   · refine ax ai ?_
     obtain rfl:=aD h
     exact aP _ _ _ bh (aR hfr hcl (aU aZ (.bool true)) bf aW ⟨rfl,rfl⟩)
   · refine ax ai ?_
     obtain ⟨r7,cF,h⟩:=au h
     refine bw aq (uN cF) ?_
     refine ax ai ?_
     refine XX ?_
     apply AX.freeze (s:=q3) (cs:=[(.int .i64 c1.kind),(.str c1.arg),(.str c1.path.ak),(.str c1.path.domain),(.int .i64 c1.size)]) (by exact (ai.trans rfl)) (gR.same (gR.same (gR.same (gR.same (gR.same (gR.nil)))))) (by simp) rfl
     · repeat (first|exact FZ.nil|apply FZ.ep|apply FZ.same)
     refine ouZ ?_
     obtain ⟨t12,cN,h⟩:=au h
     refine bA aq (zi (b6 _ hfr) cN ?_)
     intro H hfr
     have hle:=hfr.le
     refine cj ?_
     refine bk h (fun cI h=> ?_) fun cI h=> ?_
     · refine cj ?_
       obtain rfl:=aD h
       exact aP _ _ _ bh (aR hfr hcl (aU aZ (.bool false)) bf aW ⟨rfl,rfl⟩)
     · refine cj ?_
       obtain ⟨mM,dD,h⟩:=au h
       refine bw aq (xA dD) ?_
       refine cj ?_
       refine bk h (fun eM h=> ?_) fun eM h=> ?_
       · refine cj ?_
         obtain rfl:=aD h
         exact aP _ _ _ bh (aR hfr hcl (aU aZ (.bool true)) bf aW ⟨rfl,rfl⟩)
       · obtain ⟨Dr,dM,h⟩:=au h
         refine ax dM ?_
         obtain ⟨⟨de,r16⟩,gi,h⟩:=au h
         dsimp only at h
         refine bw aq (cC gi) ?_
         refine cj ?_
         obtain ⟨zL,fS,h⟩:=au h
         refine bw aq (EY fS) ?_
         refine cj ?_
         obtain ⟨⟨cS,lO⟩,fC,h⟩:=au h
         dsimp only at h
         refine bw aq (cC fC) ?_
         refine cj ?_
         obtain ⟨K2,abn⟩:∃q:Nat,(H.length+1)=q:=⟨_,rfl⟩
         try rw [abn]
         obtain ⟨zK,abo⟩:∃q:Nat,H.length=q:=⟨_,rfl⟩
         try rw [abo]
         try rw [show zK+1=K2 from by omega]
         refine bA aq (zj (c1:=c1) (zK:=zK) (r16:=r16) (K2:=K2) (lO:=lO) (de:=de) (cS:=cS) (b6 _ (Fr.app (b6 _ (Fr.app hfr)))) (gq (lU cL)) cL bU bU bU ?_)
         intro H hfr aJ bg
         have hle:=hfr.le
         have jc:=aN aJ
         have wC:=aN bg
         refine ax (aA aJ bg) ?_
         obtain rfl:=aD h
         exact aP _ _ _ bh (aR hfr hcl (aU aZ (.bool ((((decide (r16=0))&&(decide (de.kind=c1.kind)&&(decide (de.arg=c1.arg)&&(decide (de.path.ak=c1.path.ak)&&(decide (de.path.domain=c1.path.domain)&&decide (de.size=c1.size))))))&&(decide (lO=0)))&&(decide (cS.kind=c1.kind))))) bf aW ⟨rfl,rfl⟩)
end Go.Proofs.cQ
end
section
set_option maxRecDepth 100000
namespace Go.Proofs.cQ
open Go Go.Am Go.Proofs
theorem wru {n:Int} (h1:0≤n) (h2:n≤18446744073709551615):IntKind.wrap .u64 n=n:=by
 simp only [IntKind.wrap,IntKind.bits,IntKind.signed,Bool.false_and,Bool.false_eq_true,if_false,Int.reducePow]
 omega
theorem zk:∀(k u:Nat),u<10 ^ (k+1)→lQ k u [eD u]=Lib.decDigits u:=by
 intro k
 induction k with
 |zero=>
  intro u h
  simp at h
  rw [Lib.decDigits,dif_pos h]
  simp [lQ,eD,Nat.mod_eq_of_lt h]
 |succ k ih=>
  intro u h
  by_cases h10:u<10
  · rw [Lib.decDigits,dif_pos h10]
    unfold lQ
    rw [if_neg (by omega)]
    simp [eD,Nat.mod_eq_of_lt h10]
  · rw [Lib.decDigits,dif_neg h10]
    unfold lQ
    rw [if_pos (by omega)]
    have h2:u / 10<10 ^ (k+1):=by rw [Nat.pow_succ] at h;omega
    rw [Nt k (u / 10) [eD u] h2,ih _ h2]
    rfl
theorem Hq:∀(k u:Nat) (s:List UInt8),(lQ k u s).length≤k+s.length:=by
 intro k
 induction k with
 |zero=>intro u s;simp [lQ]
 |succ k ih=>
  intro u s
  unfold lQ
  split
  · have:=ih (u / 10) (eD (u / 10)::s);simp at this;omega
  · omega
theorem YW (n:Nat) (hn:n≤18446744073709551615):UInt8.ofInt (IntKind.wrap .u64 (48+(Int.tmod (n:Int) 10)))=eD n:=by
 have:Int.tmod (n:Int) 10=((n % 10:Nat):Int):=rfl
 rw [this,wru (by omega) (by omega)]
 have h10:(List.range 10).all (fun m:Nat=>decide (UInt8.ofInt (48+(m:Int))=UInt8.ofNat (48+m)))=true:=by kernel_rfl
 exact of_decide_eq_true (List.all_eq_true.1 h10 (n % 10) (by simp;omega))
theorem Ej:∀(k n G:Nat) (s:List UInt8),n≤18446744073709551615→n<10 ^ (k+1)→s.length+k≤1000→k<G→iter dx G ((n:Int),s)=some (.inr (lQ k n s)):=by
 intro k
 induction k with
 |zero=>intro n G s _ h _ hG;obtain ⟨G,rfl⟩:=bH hG;exact bu (by simp [dx,lQ];omega)
 |succ k ih=>
  intro n G s hn hk hs hG
  obtain ⟨G,rfl⟩:=bH hG
  by_cases h:10≤n
  · have:dx ((n:Int),s)=some (.cA (((n / 10:Nat):Int),eD (n / 10)::s)):=by
     simp only [dx]
     have:Int.tdiv (n:Int) 10=((n / 10:Nat):Int):=rfl
     rw [if_pos (by simp;omega),this,show IntKind.wrap .u64 ((n / 10:Nat):Int)=((n / 10:Nat):Int) from wru (by omega) (by omega),YW _ (by omega),bD (by simp;omega)]
     rfl
    rw [bW this,ih (n / 10) G _ (by omega) (by rw [Nat.pow_succ] at hk;omega) (by simp;omega) (by omega)]
    simp [lQ,h]
  · have:dx ((n:Int),s)=some (.dQ s):=by
     simp only [dx]
     rw [if_neg (by simp;omega)]
    rw [bu this]
    simp [lQ,h]
theorem QG {n:Int} {F:Nat} (h1: -9223372036854775808≤n) (h2:n≤9223372036854775807) (hF:100<F):kK F n=some (Lib.itoa n):=by
 unfold kK jX Lib.itoa
 by_cases h:n<0
 · rw [if_pos (by simpa using h),if_pos h]
   have e:IntKind.wrap .u64 (0 - (IntKind.wrap .u64 n))=((n.natAbs:Nat):Int):=by
    simp only [IntKind.wrap,IntKind.bits,IntKind.signed,Bool.false_and,Bool.false_eq_true,if_false,Int.reducePow]
    omega
   simp only [Option.bind_some]
   rw [e,YW _ (by omega),Ej 20 _ F _ (by omega) (by omega) (by simp) (by omega)]
   simp only [Option.bind_some]
   rw [if_pos (by simpa using h),zk 20 _ (by omega),bD ?_]
   · rfl
   · have:=Hq 20 n.natAbs [eD n.natAbs]
     rw [zk 20 _ (by omega)] at this
     simp at this ⊢;omega
 · rw [if_neg (by simpa using h),if_neg h]
   have e:IntKind.wrap .u64 n=((n.toNat:Nat):Int):=by rw [wru (by omega) (by omega)];omega
   simp only [Option.bind_some]
   rw [e,YW _ (by omega),Ej 20 _ F _ (by omega) (by omega) (by simp) (by omega)]
   simp only [Option.bind_some]
   rw [if_neg (by simpa using h),zk 20 _ (by omega)]
theorem DS {n:Int} (h1: -9223372036854775808≤n) (h2:n≤9223372036854775807):(Lib.itoa n).length≤22:=by
 unfold Lib.itoa
 split
 · have:=Hq 20 n.natAbs [eD n.natAbs]
   rw [zk 20 _ (by omega)] at this
   simp at this ⊢;omega
 · have:=Hq 20 n.toNat [eD n.toNat]
   rw [zk 20 _ (by omega)] at this
   simp at this ⊢;omega
def DT (a:aB):List UInt8:=if cX a then [60,62] else if dn a then lP a else []
def K3 (n:Int):List UInt8:=if n= -1 then [] else [32,83,73,90,69,61]++Lib.itoa n
def eS (c:aC):List UInt8:=
 if c.kind=3 then wu 3++([32,70,82,79,77,58]++(DT c.path++K3 c.size))
 else if c.kind=4 then wu 4++([32,84,79,58]++DT c.path)
 else if c.kind=7 then (if c.arg=[] then wu 7 else wu 7++(32::c.arg))
 else if c.kind=1∨c.kind=2∨c.kind=9 then wu c.kind.toNat++(32::c.arg)
 else if c.kind=5∨c.kind=6∨c.kind=8 then wu c.kind.toNat else []
theorem K4 (a:aB):(DT a).length≤256:=by
 unfold DT
 split
 · simp
 · split
   · rename_i h1 h2
     simp only [dn,h1,Bool.false_or,Bool.and_eq_true,decide_eq_true_eq] at h2
     exact h2.2
   · simp
theorem YX {k:Int}:kP k=some (if 1≤k∧k≤9 then wu k.toNat else []):=by
 by_cases h:1≤k∧k≤9
 · rw [if_pos h]
   have:=Rz k.toNat (by omega) (by omega)
   rwa [Int.toNat_of_nonneg (by omega)] at this
 · rw [if_neg h]
   unfold kP
   rw [if_neg (by simp;omega),if_neg (by simp;omega),if_neg (by simp;omega),if_neg (by simp;omega),if_neg (by simp;omega),if_neg (by simp;omega),if_neg (by simp;omega),if_neg (by simp;omega),if_neg (by simp;omega)]
theorem K5 (k:Nat):(wu k).length≤4:=by
 by_cases h:1≤k∧k≤9
 · have:=(RA k h.1 h.2).2;omega
 · unfold wu;split<;>simp
theorem NI {c:aC} {F:Nat} (h1: -9223372036854775808≤c.size) (h2:c.size≤9223372036854775807) (ha:c.arg.length≤600) (hl:c.path.ak.length≤400) (hd:c.path.domain.length≤600) (hF:2000<F):
 mN F c=some (eS c):=by
 unfold mN eS
 obtain ⟨W,hW,YY,hW0,hw⟩:∃W,kP c.kind=some W∧(1≤c.kind∧c.kind≤9→W=wu c.kind.toNat)∧(¬(1≤c.kind∧c.kind≤9)→W=[])∧W.length≤4:=
  ⟨_,YX,fun h=>if_pos h,fun h=>if_neg h,by split;exact K5 _;simp⟩
 rw [hW]
 simp only [Option.bind_some]
 have hp:=K4 c.path
 have hi:=DS h1 h2
 have KV:iS F c.path=some (DT c.path):=by rw [I3 (by omega) (by omega) (by omega)];rfl
 by_cases k3:c.kind=3
 · rw [if_pos (by simpa using k3),if_pos k3,KV,YY (by omega),k3]
   have e3:(wu (3:Int).toNat)=wu 3:=rfl
   rw [e3]
   simp only [Option.bind_some]
   rw [bD (by simp;omega)];simp only [Option.bind_some]
   rw [bD (by simp [wu];omega)];simp only [Option.bind_some]
   unfold oM K3
   by_cases hs:c.size= -1
   · rw [if_neg (by simp [hs]),if_pos hs];simp
   · rw [if_pos (by simpa using hs),if_neg hs]
     unfold strconv_Itoa
     rw [if_pos ⟨h1,h2⟩]
     simp only [Option.bind_some]
     rw [bD (by simp;omega)];simp only [Option.bind_some]
     rw [bD (by simp [wu];omega)];simp
 · rw [if_neg (by simpa using k3),if_neg k3]
   by_cases k4:c.kind=4
   · rw [if_pos (by simpa using k4),if_pos k4,KV,YY (by omega),k4]
     have e3:(wu (4:Int).toNat)=wu 4:=rfl
     rw [e3]
     simp only [Option.bind_some]
     rw [bD (by simp;omega)];simp only [Option.bind_some]
     rw [bD (by simp [wu];omega)];simp
   · rw [if_neg (by simpa using k4),if_neg k4]
     by_cases k7:c.kind=7
     · rw [if_pos (by simpa using k7),if_pos k7,YY (by omega),k7]
       have e3:(wu (7:Int).toNat)=wu 7:=rfl
       rw [e3]
       by_cases h0:c.arg=[]
       · rw [if_pos (by simpa using h0),if_pos h0]
       · rw [if_neg (by simpa using h0),if_neg h0,bD (by simp;omega)];simp only [Option.bind_some]
         rw [bD (by simp [wu];omega)];simp
     · rw [if_neg (by simpa using k7),if_neg k7]
       unfold oN
       by_cases k1:c.kind=1∨c.kind=2∨c.kind=9
       · rw [if_pos k1]
         have hb:((if decide (c.kind=1)=true then some (decide (c.kind=1)) else if decide (c.kind=2)=true then some (decide (c.kind=2)) else some (decide (c.kind=9))):Option Bool)=some true:=by
          rcases k1 with h|h|h<;>simp [h]
         rw [hb]
         simp only [Option.bind_some,if_true]
         rw [bD (by simp;omega)];simp only [Option.bind_some]
         rw [bD (by simp;omega),YY (by omega)];simp
       · rw [if_neg k1]
         have hb:((if decide (c.kind=1)=true then some (decide (c.kind=1)) else if decide (c.kind=2)=true then some (decide (c.kind=2)) else some (decide (c.kind=9))):Option Bool)=some false:=by
          rw [if_neg (by simp;omega),if_neg (by simp;omega)];simp;omega
         rw [hb]
         simp only [Option.bind_some,Bool.false_eq_true,if_false]
         congr 1
         by_cases k5:c.kind=5∨c.kind=6∨c.kind=8
         · rw [if_pos k5,YY (by omega)]
         · rw [if_neg k5,hW0 (by omega)]
theorem U4 {a:aB} {F:Nat} (hl:a.ak.length≤400) (hd:a.domain.length≤600) (hF:99010<F):lq F a=some (DT a):=by
 unfold lq DT
 rw [Ny (by omega) (by omega) hF]
 simp only [Option.bind_some]
 cases hr:dn a with
 |false=>
  have hn:cX a=false:=by
   cases h:cX a with
   |false=>rfl
   |true=>simp [dn,h] at hr
  simp [hn]
 |true=>
  simp only [Bool.not_true,Bool.false_eq_true,if_false,if_true]
  cases hn:cX a with
  |true=>
   rw [Nr hn]
   unfold kA
   rfl
  |false=>
   rw [RD hn (by omega) (by omega) (by omega)]
   simp
theorem Hr {c:aC} {F:Nat} (h1: -9223372036854775808≤c.size) (h2:c.size≤9223372036854775807) (ha:c.arg.length≤600) (hl:c.path.ak.length≤400) (hd:c.path.domain.length≤600) (hF:99010<F):
 lu F c=some (eS c):=by
 unfold lu
 by_cases hk:1≤c.kind∧c.kind≤9
 · rw [if_neg (by simp;omega)]
   have e:idx ([([]:List UInt8),([72,69,76,79]:List UInt8),([69,72,76,79]:List UInt8),([77,65,73,76]:List UInt8),([82,67,80,84]:List UInt8),([68,65,84,65]:List UInt8),([82,83,69,84]:List UInt8),([78,79,79,80]:List UInt8),([81,85,73,84]:List UInt8),([86,82,70,89]:List UInt8)]:List (List UInt8)) c.kind=some (wu c.kind.toNat):=by
    have:=E9 (p:=fun k=>idx ([([]:List UInt8),([72,69,76,79]:List UInt8),([69,72,76,79]:List UInt8),([77,65,73,76]:List UInt8),([82,67,80,84]:List UInt8),([68,65,84,65]:List UInt8),([82,83,69,84]:List UInt8),([78,79,79,80]:List UInt8),([81,85,73,84]:List UInt8),([86,82,70,89]:List UInt8)]:List (List UInt8)) (k:Int)=some (wu k)) (by decide) (k:=c.kind.toNat) (by omega) (by omega)
    rwa [Int.toNat_of_nonneg (by omega)] at this
   rw [e]
   simp only [Option.bind_some]
   have hw:=K5 c.kind.toNat
   have hp:=K4 c.path
   have hi:=DS h1 h2
   have KV:=U4 (F:=F) hl hd hF
   unfold eS
   by_cases k3:c.kind=3
   · rw [if_pos (by simpa using k3),if_pos k3,k3]
     have e3:(wu (3:Int).toNat)=wu 3:=rfl
     rw [e3]
     rw [bD (by simp [wu])];simp only [Option.bind_some]
     rw [KV];simp only [Option.bind_some]
     rw [bD (by simp [wu];omega)];simp only [Option.bind_some]
     unfold K3
     by_cases hs:c.size= -1
     · rw [if_neg (by simp [hs]),if_pos hs];simp
     · rw [if_pos (by simpa using hs),if_neg hs]
       rw [bD (by simp [wu];omega)];simp only [Option.bind_some]
       rw [QG h1 h2 (by omega)];simp only [Option.bind_some]
       rw [bD (by simp [wu];omega)];simp
   · rw [if_neg (by simpa using k3),if_neg k3]
     by_cases k4:c.kind=4
     · rw [if_pos (by simpa using k4),if_pos k4,k4]
       have e3:(wu (4:Int).toNat)=wu 4:=rfl
       rw [e3]
       rw [bD (by simp [wu])];simp only [Option.bind_some]
       rw [KV];simp only [Option.bind_some]
       rw [bD (by simp [wu];omega)];simp
     · rw [if_neg (by simpa using k4),if_neg k4]
       unfold mI
       by_cases k1:c.kind=1∨c.kind=2∨c.kind=9
       · have hb:((if decide (c.kind=1)=true then some (decide (c.kind=1)) else if decide (c.kind=2)=true then some (decide (c.kind=2)) else some (decide (c.kind=9))):Option Bool)=some true:=by
          rcases k1 with h|h|h<;>simp [h]
         rw [hb,if_neg (show ¬c.kind=7 by omega),if_pos k1]
         simp only [Option.bind_some,if_true]
         rw [bD (by simp;omega)];simp only [Option.bind_some]
         rw [bD (by simp;omega)];simp
       · have hb:((if decide (c.kind=1)=true then some (decide (c.kind=1)) else if decide (c.kind=2)=true then some (decide (c.kind=2)) else some (decide (c.kind=9))):Option Bool)=some false:=by
          rw [if_neg (by simp;omega),if_neg (by simp;omega)];simp;omega
         rw [hb]
         simp only [Option.bind_some,Bool.false_eq_true,if_false]
         by_cases k7:c.kind=7
         · rw [if_pos (by simpa using k7),if_pos k7,k7]
           have e3:(wu (7:Int).toNat)=wu 7:=rfl
           rw [e3]
           by_cases h0:c.arg=[]
           · rw [if_neg (by simp [h0]),if_pos h0]
           · rw [if_pos (by simpa using h0),if_neg h0,bD (by simp [wu])];simp only [Option.bind_some]
             rw [bD (by simp [wu];omega)];simp
         · rw [if_neg (by simpa using k7),if_neg k7,if_neg k1,if_pos (by omega)]
 · rw [if_pos (by simp;omega)]
   unfold eS
   rw [if_neg (by omega),if_neg (by omega),if_neg (by omega),if_neg (by omega),if_neg (by omega)]
theorem NJ {c:aC} (h1: -9223372036854775808≤c.size) (h2:c.size≤9223372036854775807) (ha:c.arg.length≤600):(eS c).length≤1000:=by
 have hw:=K5 c.kind.toNat
 have hp:=K4 c.path
 have hi:=DS h1 h2
 unfold eS K3
 split
 · split<;>simp [wu]<;>omega
 · split
   · simp [wu];omega
   · split
     · split<;>simp [wu]<;>omega
     · split
       · simp;omega
       · split<;>simp<;>omega
end Go.Proofs.cQ
end
section
set_option maxRecDepth 100000
namespace Go.Proofs.cQ
open Go Go.Am Go.Proofs
def wM (i:Nat) (c:UInt8):Bool:=decide (c≠60)&&(decide (i<5)||decide (c≠32))
def IA (m:Bool) (i:Nat) (c:UInt8):UInt8:=if (decide (65≤c)&&decide (c≤90)&&(decide (i<4)||m))=true then c+32 else c
def qw (m:Bool):Nat→List UInt8→List UInt8
 |_,[]=>[]
 |i,c::r=>if wM i c then IA m i c::qw m (i+1) r else c::r
def mB (s:List UInt8):Bool:=decide (s.take 4=[77,65,73,76])||decide (s.take 4=[82,67,80,84])
theorem NK (m:Bool):∀(s:List UInt8) (i:Nat),(qw m i s).length=s.length:=by
 intro s
 induction s with
 |nil=>intro i;rfl
 |cons c r ih=>intro i;unfold qw;split<;>simp [ih]
theorem lp1 {s cur:List UInt8} {i:Nat} {c:UInt8} (hi:i<s.length) (hc:cur[i]? =some c):fP (i:Int) s cur=some (wM i c):=by
 unfold fP wM
 rw [if_pos (by simpa using hi),zC hi]
 simp only [Option.bind_some]
 rw [hc]
 simp only [Option.bind_some]
 by_cases h:c=60
 · simp [h]
 · rw [if_pos (by simpa using h)]
   by_cases h5:i<5
   · rw [if_pos (by simp;omega)];simp [h,h5]
   · rw [if_neg (by simp;omega)];simp [h,h5]
theorem lp2 {s cur:List UInt8} {i:Nat} {c:UInt8} (hi:i<s.length) (hc:cur[i]? =some c):jH s (i:Int) cur=some (decide (65≤c)&&decide (c≤90)&&(decide (i<4)||mB s)):=by
 unfold jH mB
 rw [zC hi]
 simp only [Option.bind_some]
 rw [hc]
 simp only [Option.bind_some]
 by_cases h1:65≤c
 · rw [if_pos (by simpa using h1)]
   by_cases h2:c≤90
   · rw [if_pos (by simpa using h2)]
     by_cases h4:i<4
     · rw [if_pos (by simp;omega)];simp [h1,h2,h4]
     · rw [if_neg (by simp;omega),show (4:Int)=((4:Nat):Int) from rfl,nW (by omega)]
       simp only [Option.bind_some]
       by_cases hm:s.take 4=[77,65,73,76]
       · rw [if_pos (by simpa using hm)];simp [h1,h2,h4,hm]
       · rw [if_neg (by simpa using hm)];simp [h1,h2,h4,hm]
   · rw [if_neg (by simpa using h2)];simp [h1,h2]
 · rw [if_neg (by simpa using h1)];simp [h1]
theorem U5 {s:List UInt8} (hs:s.length≤100000):∀(r pre:List UInt8) (G:Nat),pre.length+r.length=s.length→r.length<G→
 iter (eW s) G ((pre.length:Int),pre++r)=some (.inr (pre++qw (mB s) pre.length r)):=by
 intro r
 induction r with
 |nil=>
  intro pre G h hG
  obtain ⟨G,rfl⟩:=bH hG
  refine bu ?_
  have:fP (pre.length:Int) s (pre++[])=some false:=by
   unfold fP
   simp at h
   rw [if_neg (by simp;omega)]
  simp only [eW]
  rw [this];simp [qw]
 |cons c r ih=>
  intro pre G h hG
  obtain ⟨G,rfl⟩:=bH hG
  have hi:pre.length<s.length:=by simp at h;omega
  have hc:(pre++c::r)[pre.length]? =some c:=by simp
  by_cases hst:wM pre.length c=true
  · have hb:eW s ((pre.length:Int),pre++c::r)=some (.cA (((pre++[IA (mB s) pre.length c]).length:Int),(pre++[IA (mB s) pre.length c])++r)):=by
     simp only [eW]
     rw [lp1 hi hc,hst]
     simp only [Option.bind_some,if_true]
     rw [lp2 hi hc]
     simp only [Option.bind_some]
     have hw:IntKind.wrap .i64 ((pre.length:Int)+1)=((pre++[IA (mB s) pre.length c]).length:Int):=by rw [Iw (by omega)];simp
     by_cases hl:(decide (65≤c)&&decide (c≤90)&&(decide (pre.length<4)||mB s))=true
     · rw [if_pos hl,zC hi]
       simp only [Option.bind_some]
       rw [hc]
       simp only [Option.bind_some]
       rw [G0 (by simp),hw]
       simp [IA,hl]
     · rw [if_neg hl,hw]
       simp [IA,hl]
    rw [bW hb,ih _ G (by simp at h ⊢;omega) (by simp at hG;omega)]
    simp [qw,hst]
  · have ur:wM pre.length c=false:=by simpa using hst
    refine bu ?_
    simp only [eW]
    rw [lp1 hi hc,ur]
    simp [qw,ur]
theorem YZ {s:List UInt8} {F:Nat} (hs:s.length≤2000) (hF:2100<F):n4 F s=some (qw (mB s) 0 s):=by
 unfold n4
 have:=U5 (s:=s) (by omega) s [] F (by simp) (by omega)
 simp only [List.length_nil,List.nil_append] at this
 rw [show ((0:Int),s)=(((0:Nat):Int),s) from rfl,this]
 simp only [Option.bind_some]
 rw [←NK (mB s) s 0,nW (Nat.le_refl _)]
 simp
theorem I9 {m:Bool} {i:Nat} {t:List UInt8} (hi:5≤i) (h:t=[]∨t.head?=some 60∨t.head?=some 32):qw m i t=t:=by
 cases t with
 |nil=>rfl
 |cons c r=>
  have:c=60∨c=32:=by simpa using h
  unfold qw
  rw [if_neg]
  unfold wM
  rcases this with rfl|rfl
  · simp
  · simp;omega
theorem abp:∀(t:List UInt8) {i:Nat},4≤i→qw false i t=t:=by
 intro t
 induction t with
 |nil=>intro i _;rfl
 |cons c r ih=>
  intro i hi
  unfold qw
  split
  · rw [ih (by omega)]
    simp [IA,show ¬i<4 by omega]
  · rfl
theorem sD {w t:List UInt8} (hw:∃u c,w=u++[c]∧c≠32):cH (w++t)=w++cH t:=by
 obtain ⟨u,c,rfl,hc⟩:=hw
 unfold cH
 have hb:blk c=false:=by simp [blk,hc]
 rw [List.reverse_append,List.reverse_append]
 simp only [List.reverse_singleton,List.singleton_append]
 have:∀l:List UInt8,(l++c::u.reverse).dropWhile blk=l.dropWhile blk++c::u.reverse:=by
  intro l
  induction l with
  |nil=>simp [List.dropWhile_cons,hb]
  |cons d r ih=>
   simp only [List.cons_append,List.dropWhile_cons]
   split
   · exact ih
   · rfl
 rw [this]
 simp
theorem QH (t:List UInt8):cH t <+: t:=by
 unfold cH
 have:=List.dropWhile_suffix (l:=t.reverse) blk
 have:=List.reverse_prefix.2 this
 simpa using this
theorem QI (s:List UInt8):cH (s++[32,32])=cH s:=by
 unfold cH
 simp [List.dropWhile_cons,blk]
theorem NL (s:List UInt8):fy (s++[32,32])=fy s:=by
 unfold fy
 rw [QI]
 have:(s++[32,32]).all bp=s.all bp:=by
  rw [List.all_append];simp [bp]
 rw [this]
theorem Y0 {w:List UInt8} (h0:w≠[]) (hw:∀c∈w,bp c=true∧nb c=true):∃u c,w=u++[c]∧c≠32:=by
 refine ⟨w.dropLast,w.getLast h0,(List.dropLast_concat_getLast h0).symm, ?_⟩
 have:=(hw _ (List.getLast_mem h0)).2
 simpa [nb] using this
theorem Y1 {q:UInt8→Bool}:∀ {l:List UInt8},(∀c∈l,q c=true)→l.takeWhile q=l:=by
 intro l
 induction l with
 |nil=>intro _;rfl
 |cons c r ih=>
  intro h
  rw [List.takeWhile_cons,if_pos (h c (by simp)),ih fun d hd=>h d (by simp [hd])]
theorem oG {w t:List UInt8} (h0:w≠[]) (hw:∀c∈w,bp c=true∧nb c=true) (ht:t=[]∨t.head?=some 32):
 fy (w++t)=if t.all bp=true then gB (dL (w.map low)) (cH t) else (Z,500):=by
 unfold fy
 have hv:(w++t).all bp=t.all bp:=by
  rw [List.all_append,show w.all bp=true from List.all_eq_true.2 fun c hc=>(hw c hc).1,Bool.true_and]
 rw [hv,sD (Y0 h0 hw)]
 cases htv:cH t with
 |nil=>
  have h1:(w++[]).takeWhile nb=w:=by
   rw [List.append_nil];exact Y1 fun c hc=>(hw c hc).2
  have h2:(w++[]).dropWhile nb=[]:=by
   rw [List.append_nil];exact KQ.2 fun c hc=>(hw c hc).2
  rw [h1,h2]
 |cons c r=>
  have hc:c=32:=by
   have hp:=QH t
   rw [htv] at hp
   obtain ⟨q,hq⟩:=hp
   rw [←hq] at ht
   simpa using ht
  subst hc
  have:=CE (q:=nb) (l:=w) (x:=32) (by decide) (fun c hc=>(hw c hc).2) r
  rw [this.1,this.2]
theorem Ja {w f g t:List UInt8} (h:f.map low=g.map low) (hl:f.length=w.length):oB w (f++t)=oB w (g++t):=by
 have hg:g.length=w.length:=by
  have:=congrArg List.length h
  simp at this;omega
 have e1:(f++t).take w.length=f:=by rw [←hl,List.take_left]
 have e2:(g++t).take w.length=g:=by rw [←hg,List.take_left]
 have e3:(f++t).drop w.length=t:=by rw [←hl,List.drop_left]
 have e4:(g++t).drop w.length=t:=by rw [←hg,List.drop_left]
 unfold oB dN
 rw [e1,e2,e3,e4,h]
 simp [hl,hg]
theorem QJ (x y:List UInt8) (hx:x=[]∨x.head?=some 60∨x.head?=some 32):
 fy ([109,97,105,108,32,102,114,111,109,58]++x)=fy ([77,65,73,76,32,70,82,79,77,58]++x):=by
 have e1:([109,97,105,108,32,102,114,111,109,58]++x:List UInt8)=[109,97,105,108]++([32,102,114,111,109,58]++x):=rfl
 have e2:([77,65,73,76,32,70,82,79,77,58]++x:List UInt8)=[77,65,73,76]++([32,70,82,79,77,58]++x):=rfl
 rw [e1,e2,oG (by decide) (by decide) (Or.inr rfl),oG (by decide) (by decide) (Or.inr rfl)]
 rw [sD (w:=[32,102,114,111,109,58]) ⟨[32,102,114,111,109],58,rfl,by decide⟩,sD (w:=[32,70,82,79,77,58]) ⟨[32,70,82,79,77],58,rfl,by decide⟩]
 have k1:dL (([109,97,105,108]:List UInt8).map low)=3:=by decide
 have k2:dL (([77,65,73,76]:List UInt8).map low)=3:=by decide
 rw [k1,k2]
 have v:([32,102,114,111,109,58]++x:List UInt8).all bp=([32,70,82,79,77,58]++x:List UInt8).all bp:=by
  rw [List.all_append,List.all_append];rfl
 rw [v]
 have w3:∀r,gB 3 r=sy r:=fun r=>rfl
 rw [w3,w3]
 unfold sy
 rw [Ja (w:=jh) (f:=[32,102,114,111,109,58]) (g:=[32,70,82,79,77,58]) (by decide) rfl]
theorem Y2 (x y:List UInt8) (hx:x=[]∨x.head?=some 60∨x.head?=some 32):
 fy ([114,99,112,116,32,116,111,58]++x)=fy ([82,67,80,84,32,84,79,58]++x):=by
 have e1:([114,99,112,116,32,116,111,58]++x:List UInt8)=[114,99,112,116]++([32,116,111,58]++x):=rfl
 have e2:([82,67,80,84,32,84,79,58]++x:List UInt8)=[82,67,80,84]++([32,84,79,58]++x):=rfl
 rw [e1,e2,oG (by decide) (by decide) (Or.inr rfl),oG (by decide) (by decide) (Or.inr rfl)]
 rw [sD (w:=[32,116,111,58]) ⟨[32,116,111],58,rfl,by decide⟩,sD (w:=[32,84,79,58]) ⟨[32,84,79],58,rfl,by decide⟩]
 have k1:dL (([114,99,112,116]:List UInt8).map low)=4:=by decide
 have k2:dL (([82,67,80,84]:List UInt8).map low)=4:=by decide
 rw [k1,k2]
 have v:([32,116,111,58]++x:List UInt8).all bp=([32,84,79,58]++x:List UInt8).all bp:=by
  rw [List.all_append,List.all_append];rfl
 rw [v]
 have w3:∀r,gB 4 r=wK r:=fun r=>rfl
 rw [w3,w3]
 unfold wK
 rw [Ja (w:=zX) (f:=[32,116,111,58]) (g:=[32,84,79,58]) (by decide) rfl]
theorem NM (a:aB) (n:List UInt8) (hn:n=[]∨n.head?=some 32):(DT a++n)=[]∨(DT a++n).head?=some 60∨(DT a++n).head?=some 32:=by
 have h:=Nq a
 unfold gI at h
 unfold DT
 split
 · right;left;rfl
 · rename_i h1
   rw [if_neg h1] at h
   split
   · obtain ⟨t,ht⟩:=h
     right;left
     rw [ht];rfl
   · rcases hn with rfl|hn
     · left;rfl
     · right;right;exact hn
theorem Y3 (n:Int):K3 n=[]∨(K3 n).head?=some 32:=by
 unfold K3
 split
 · left;rfl
 · right;rfl
theorem DU {k:Nat} (h1:1≤k) (h2:k≤9) (h3:k≠3) (h4:k≠4) (t:List UInt8) (ht:t=[]∨t.head?=some 32):
 fy (qw (mB (wu k++t)) 0 (wu k++t))=fy (wu k++t):=by
 obtain ⟨hm,hg,hl,hu⟩:mB (wu k++t)=false∧qw false 0 (wu k++t)=wl k++qw false 4 t∧(wl k≠[]∧∀c∈wl k,bp c=true∧nb c=true)∧(wu k≠[]∧∀c∈wu k,bp c=true∧nb c=true)∧dL ((wl k).map low)=dL ((wu k).map low):=by
  have:k=1∨k=2∨k=5∨k=6∨k=7∨k=8∨k=9:=by omega
  rcases this with rfl|rfl|rfl|rfl|rfl|rfl|rfl<;>
   exact ⟨by simp [mB,wu],by simp [wu,wl,qw,wM,IA],by decide,by decide,by decide⟩
 rw [hm,hg,abp t (by omega),oG hl.1 hl.2 ht,oG hu.1.1 hu.1.2 ht,hu.2]
theorem Y4 (c:aC):fy (qw (mB (eS c)) 0 (eS c))=fy (eS c):=by
 unfold eS
 by_cases k3:c.kind=3
 · rw [if_pos k3]
   have hx:=NM c.path (K3 c.size) (Y3 c.size)
   generalize DT c.path++K3 c.size=x at hx ⊢
   have e:(wu 3++([32,70,82,79,77,58]++x))=[77,65,73,76,32,70,82,79,77,58]++x:=rfl
   rw [e]
   have hm:mB ([77,65,73,76,32,70,82,79,77,58]++x)=true:=by simp [mB]
   have hg:qw true 0 ([77,65,73,76,32,70,82,79,77,58]++x)=[109,97,105,108,32,102,114,111,109,58]++qw true 10 x:=by
    simp [qw,wM,IA]
   rw [hm,hg,I9 (by omega) hx,QJ x [] hx]
 · rw [if_neg k3]
   by_cases k4:c.kind=4
   · rw [if_pos k4]
     have hx:=NM c.path [] (Or.inl rfl)
     rw [List.append_nil] at hx
     generalize DT c.path=x at hx ⊢
     have e:(wu 4++([32,84,79,58]++x))=[82,67,80,84,32,84,79,58]++x:=rfl
     rw [e]
     have hm:mB ([82,67,80,84,32,84,79,58]++x)=true:=by simp [mB]
     have hg:qw true 0 ([82,67,80,84,32,84,79,58]++x)=[114,99,112,116,32,116,111,58]++qw true 8 x:=by
      simp [qw,wM,IA]
     rw [hm,hg,I9 (by omega) hx,Y2 x [] hx]
   · rw [if_neg k4]
     have nil:∀k:Nat,1≤k→k≤9→k≠3→k≠4→fy (qw (mB (wu k)) 0 (wu k))=fy (wu k):=by
      intro k a1 a2 a3 a4
      have:=DU a1 a2 a3 a4 [] (Or.inl rfl)
      simpa using this
     by_cases k7:c.kind=7
     · rw [if_pos k7]
       by_cases h0:c.arg=[]
       · rw [if_pos h0]
         exact nil 7 (by omega) (by omega) (by omega) (by omega)
       · rw [if_neg h0]
         exact DU (by omega) (by omega) (by omega) (by omega) _ (Or.inr rfl)
     · rw [if_neg k7]
       by_cases k1:c.kind=1∨c.kind=2∨c.kind=9
       · rw [if_pos k1]
         exact DU (by omega) (by omega) (by omega) (by omega) _ (Or.inr rfl)
       · rw [if_neg k1]
         by_cases k5:c.kind=5∨c.kind=6∨c.kind=8
         · rw [if_pos k5]
           exact nil _ (by omega) (by omega) (by omega) (by omega)
         · rw [if_neg k5];rfl
theorem Y5 (n:Nat):jd (n+100)=some true:=by kernel_rfl
theorem K6 (c:aC) (h1: -9223372036854775808≤c.size) (h2:c.size≤9223372036854775807):∃F,n5 F c=some true:=by
 refine ⟨100000+100, ?_⟩
 unfold n5
 rw [Y5]
 simp only [Option.bind_some,Bool.not_true,Bool.false_eq_true,if_false]
 have GR:gY c=some (!(decide (c.arg.length≤600)&&(decide (c.path.ak.length≤400)&&decide (c.path.domain.length≤600)))):=by
  unfold gY wL
  by_cases h:600<c.arg.length
  · rw [if_pos (by simp;omega)];simp [show ¬c.arg.length≤600 by omega]
  · rw [if_neg (by simp;omega)]
    simp only [Option.bind_some]
    rw [show decide (c.arg.length≤600)=true by simp;omega,Bool.true_and]
    congr 2
    rw [Bool.eq_iff_iff];simp only [Bool.and_eq_true,decide_eq_true_eq];omega
 rw [GR]
 simp only [Option.bind_some]
 cases hk:(decide (c.arg.length≤600)&&(decide (c.path.ak.length≤400)&&decide (c.path.domain.length≤600))) with
 |false=>simp
 |true=>
  simp only [Bool.and_eq_true,decide_eq_true_eq] at hk
  obtain ⟨ha,hl,hd⟩:=hk
  simp only [Bool.not_true,Bool.false_eq_true,if_false]
  have hpl:=NJ h1 h2 ha
  rw [NI h1 h2 ha hl hd (by omega)]
  simp only [Option.bind_some]
  unfold jY
  have hR1:sB (100000+100) c=gX (100000+100) c:=by
   unfold sB gX
   rw [NI h1 h2 ha hl hd (by omega),Hr h1 h2 ha hl hd (by omega)]
   simp only [Option.bind_some]
   rw [jG (by omega) (by omega),NH (by omega) (by omega)]
  have hR:gX (100000+100) c=some (decide ((fy (eS c)).2=0)&&(decide ((fy (eS c)).1.kind=c.kind)&&(decide ((fy (eS c)).1.arg=c.arg)&&(decide ((fy (eS c)).1.path.ak=c.path.ak)&&(decide ((fy (eS c)).1.path.domain=c.path.domain)&&decide ((fy (eS c)).1.size=c.size)))))):=by
   unfold gX
   rw [Hr h1 h2 ha hl hd (by omega)]
   simp only [Option.bind_some]
   rw [NH (by omega) (by omega)]
   simp only [Option.bind_some]
  rw [Hr h1 h2 ha hl hd (by omega)]
  simp only [Option.bind_some]
  rw [if_neg (by simp),hR1,hR]
  simp only [Option.bind_some,beq_self_eq_true,Bool.not_true,Bool.false_eq_true,if_false]
  generalize hB:(decide ((fy (eS c)).2=0)&&(decide ((fy (eS c)).1.kind=c.kind)&&(decide ((fy (eS c)).1.arg=c.arg)&&(decide ((fy (eS c)).1.path.ak=c.path.ak)&&(decide ((fy (eS c)).1.path.domain=c.path.domain)&&decide ((fy (eS c)).1.size=c.size))))))=B
  cases B with
  |false=>simp
  |true=>
   simp only [Bool.not_true,Bool.false_eq_true,if_false]
   rw [bD (by simp;omega)]
   simp only [Option.bind_some]
   rw [jG (by simp;omega) (by omega),NL]
   simp only [Option.bind_some]
   rw [YZ (by omega) (by omega)]
   simp only [Option.bind_some]
   rw [jG (by rw [NK];omega) (by omega),Y4]
   simp only [Option.bind_some]
   rw [hB]
   simp only [Bool.and_eq_true,decide_eq_true_eq] at hB
   simp [hB.1,hB.2.1]
end Go.Proofs.cQ
end
section
namespace Go.Am
open Go Go.RowKit
variable [Tabs]
def C0 (W:World) (b:Nat):List Value:=match W.heap[b]? with
 |some (.cells cs _ _)=>cs.toList
 |_=>[]
theorem aG.row {P:Program} {f:Nat} {args:List AV} {R:AV→AH→Prop} (h:aG P f args [] R) {W:World} {vs:Array Value} (htab:∀e∈Tabs.l,∃cs ty fr,W.heap[e.1]? =some (.cells cs ty fr)∧e.2 cs) (hl:vs.size=args.length)
 (hv:∀(i:Nat) (a:AV),args[i]? =some a→VR (C0 W) [] a (vs.getD i undef)∧TC W (C0 W) a (vs.getD i undef)∧a.plain=true):
 Calls P f vs W fun e w'=>∃r v aH γ' C',e= .returned v∧R r aH∧VR C' γ' r v∧Below W.heap.size W w':=by
 have hg:∀t,get (fR 0 args) t=(args[t]?).getD .un:=fun t=>by rw [fj];simp
 have hno:∀p b,¬blk [] (fR 0 args) [] vs W p b:=by
  intro p b hp
  cases p with
  |obj s=>simp [blk] at hp
  |cell s i=>obtain ⟨cs,a,b0,h1, -⟩:=hp;simp at h1
  |tmp t=>
   simp only [blk,hg] at hp
   cases ht:args[t]? with
   |none=>rw [ht] at hp;simp [b7] at hp
   |some a=>rw [ht] at hp;simp only [Option.getD_some] at hp;rw [jI _ (iX (hv t a ht).2.2)] at hp;cases hp
 have hs:SR [] args.length (fun b=>b<W.heap.size) [] (C0 W) (fR 0 args) [] vs W:=by
  refine ⟨⟨rfl,fun s b cs hs=>by simp at hs,fun b hne=> ?_,fun s b cs hs=>by simp at hs,fun s b cs us ty fr hs=>by simp at hs⟩,hl,fun t=> ?_,fun p q b hp=>absurd hp (hno p b),fun p b hp=>absurd hp (hno p b),⟨fun b hb=>hb,fun e he=> ?_⟩,fun t l k xs ht=> ?_⟩
  · unfold C0 at hne ⊢
    split at hne
    · rename_i cs ty fr hb
      rw [hb]
      exact ⟨cs,ty,fr,rfl,List.prefix_refl _⟩
    · exact absurd rfl hne
  · rw [hg]
    cases ht:args[t]? with
    |none=>exact ⟨.un ..,by cases vs.getD t undef<;>trivial⟩
    |some a=>exact ⟨(hv t a ht).1,(hv t a ht).2.1⟩
  · obtain ⟨cs0,ty,fr,h2,h5⟩:=htab e he
    have h4:e.1<W.heap.size:=by
     rcases Nat.lt_or_ge e.1 W.heap.size with h3|h3
     · exact h3
     · rw [Array.getElem?_eq_none h3] at h2;cases h2
    exact ⟨h4,cs0,ty,fr,h2,h5⟩
  · rw [hg] at ht
    cases hq:args[t]? with
    |none=>rw [hq] at ht;simp at ht
    |some a=>rw [hq] at ht;exact absurd ht (zp (hv t a hq).2.2 l k xs)
 refine (h.2 _ [] (C0 W) W vs hs).mono ?_
 rintro e w' ⟨r,v,aH,γ',C',rfl,hR, -,hs',hx⟩
 refine ⟨r,v,aH,γ',C',rfl,hR, ?_,hx.out.1,hx.out.2.1,hx.out.2.2,hx.size,fun k hk=>(hx.keep k hk).1⟩
 have:=(hs'.env 0).1
 simpa [get] using this
end Go.Am
end
