/- The law CmdPaths returns true at every input whose tables read as laid; each argument reads behind the call as it did; the tied card. -/
import Derived.Test.YtboghagbiokafaaGreatDoorM4
import Derived.Lib.IndexMore
import Derived.Lib.AtoiTie
import Derived.Below
import Derived.Deep.Slices
import Derived.Carry
import Derived.Test.YtboghagbiokafaaGreatDoorRows
import Derived.ProofKit
import Derived.LaidMore
import Derived.Lib.LaidTab
import Derived.Shelf.Vars
import Derived.HandedShaped
import Derived.Test.YtboghagbiokafaaGreatDoorCards
import Derived.Test.YtboghagbiokafaaGreatDoorTie
import Derived.SevenTiedAt
set_option linter.unusedSimpArgs false
set_option linter.unusedVariables false
set_option linter.unusedSectionVars false
set_option linter.defProp false
section
set_option maxRecDepth 100000
namespace Go.Proofs.dO
open Go Go.Am Go.Proofs
def gx (c:UInt8):Bool:=Iy c||fZ c||c==45||c==46||c==91||c==93
def bR (c:UInt8):Bool:=decide (32≤c)&&decide (c≤126)
def lN (c:UInt8):Bool:=Iy c||fZ c||([33,35,36,37,38,39,42,43,45,47,61,63,94,95,96,123,124,125,126]:List UInt8).contains c
def lO (c:UInt8):Bool:=c==46||lN c
theorem Ox (c:UInt8):lF c=some (lN c):=by
 have:=fU (p:=fun c=>decide (lF c=some (lN c))) (by kernel_rfl) c
 simpa using this
theorem Oy (c:UInt8):dH c=some (gx c):=by
 have:=fU (p:=fun c=>decide (dH c=some (gx c))) (by kernel_rfl) c
 simpa using this
theorem Oz (c:UInt8):dX c=some (lO c):=by
 have:=fU (p:=fun c=>decide (dX c=some (lO c))) (by kernel_rfl) c
 simpa using this
structure At (s:List UInt8) (n:Nat) (r:List UInt8):Prop where
 le:n≤s.length
 dr:s.drop n=r
 sm:s.length≤90000
def nx:List UInt8→UInt8
 |[]=>0
 |c::_=>c
theorem At.len {s r:List UInt8} {n:Nat} (h:At s n r):n+r.length=s.length:=by
 rw [←h.dr,List.length_drop];have:=h.le;omega
theorem At.next {s r:List UInt8} {n:Nat} {c:UInt8} (h:At s n (c::r)):At s (n+1) r:=by
 obtain ⟨h1,h2,h3⟩:=drop_cons h.dr
 exact ⟨h1,h3,h.sm⟩
theorem kQ {s r:List UInt8} {n:Nat} (h:At s n r):bx ⟨s,(n:Int),false⟩=some (nx r):=by
 unfold bx
 cases r with
 |nil=>
  have:=h.len
  rw [if_pos (by simp at this ⊢;omega)];rfl
 |cons c r=>
  obtain ⟨h1,h2,h3⟩:=drop_cons h.dr
  rw [if_neg (by simp;omega),cT h2];rfl
theorem uk {s:List UInt8} {n:Int}:bx ⟨s,n,true⟩=some 0:=by simp [bx]
theorem xm {s r:List UInt8} {n:Nat} {c:UInt8} (h:At s n (c::r)):bE ⟨s,(n:Int),false⟩ c=some (true,⟨s,((n+1:Nat):Int),false⟩):=by
 have:=h.len;have:=h.sm
 unfold bE
 rw [kQ h,Option.bind_some]
 simp only [nx]
 rw [if_neg (by simp),wi (by omega)]
theorem um {s r:List UInt8} {n:Nat} {c:UInt8} (h:At s n r) (hc:nx r≠c):bE ⟨s,(n:Int),false⟩ c=some (false,⟨s,(n:Int),false⟩):=by
 unfold bE
 rw [kQ h,Option.bind_some,if_pos (by simpa using hc)]
theorem uY {s:List UInt8} {n:Int} {c:UInt8} (hc:c≠0):bE ⟨s,n,true⟩ c=some (false,⟨s,n,true⟩):=by
 unfold bE
 rw [uk,Option.bind_some,if_pos (by simpa using fun h=>hc h.symm)]
theorem xI {s r:List UInt8} {n:Nat} {c:UInt8} (h:At s n (c::r)):bp ⟨s,(n:Int),false⟩ c=some ⟨s,((n+1:Nat):Int),false⟩:=by
 unfold bp;simp [xm h]
theorem A3 {s r:List UInt8} {n:Nat} {c:UInt8} (h:At s n r) (hc:nx r≠c):bp ⟨s,(n:Int),false⟩ c=some ⟨s,(n:Int),true⟩:=by
 unfold bp;simp [um h hc]
theorem iw {s:List UInt8} {n:Int} {c:UInt8}:bp ⟨s,n,true⟩ c=some ⟨s,n,true⟩:=by
 unfold bp;simp
theorem Gv {q:UInt8→Bool} {ρ:Type} {body:(UInt8×aD)→Option (St ρ aD (UInt8×aD))} {s:List UInt8} (h0:q 0=false)
 (hb:∀(c:UInt8) (n:Int) (b:Bool),body (c,⟨s,n,b⟩)=if q c=true then (bx ⟨s,IntKind.wrap .i64 (n+1),b⟩).bind fun r9=>some (.cY (r9,⟨s,IntKind.wrap .i64 (n+1),b⟩)) else some (.dR ⟨s,n,b⟩)):
 ∀(r:List UInt8) (n F:Nat),At s n r→r.length<F→iter body F (nx r,⟨s,(n:Int),false⟩)=some (.inr ⟨s,((n+(r.takeWhile q).length:Nat):Int),false⟩):=by
 intro r
 induction r with
 |nil=>
  intro n F h hF
  obtain ⟨G,rfl⟩:=c6 hF
  rw [cI (t:=⟨s,(n:Int),false⟩) (by rw [hb,if_neg (by simp [nx,h0])])]
  simp
 |cons c r ih=>
  intro n F h hF
  obtain ⟨G,rfl⟩:=c6 hF
  have:=h.len;have:=h.sm
  by_cases hq:q c=true
  · have hst:body (nx (c::r),⟨s,(n:Int),false⟩)=some (.cY (nx r,⟨s,((n+1:Nat):Int),false⟩)):=by
     rw [hb,if_pos (by simpa [nx] using hq),wi (by omega),kQ h.next];rfl
    rw [eg hst,ih (n+1) G h.next (by simp at hF;omega),List.takeWhile_cons,if_pos hq]
    simp only [List.length_cons]
    congr 4
    omega
  · rw [cI (t:=⟨s,(n:Int),false⟩) (by rw [hb,if_neg (by simpa [nx] using hq)]),List.takeWhile_cons,if_neg hq]
    simp
theorem A4 (q:UInt8→Bool) (r:List UInt8):(r.takeWhile q).length≤r.length:=(List.takeWhile_prefix q).length_le
theorem At.skip {s r:List UInt8} {n:Nat} (h:At s n r) (q:UInt8→Bool):At s (n+(r.takeWhile q).length) (r.dropWhile q):=by
 have h1:(r.takeWhile q).length≤r.length:=A4 _ _
 have h2:=h.len
 refine ⟨by omega, ?_,h.sm⟩
 rw [←List.drop_drop,h.dr]
 conv=>lhs;rw [←List.takeWhile_append_dropWhile (p:=q) (l:=r)]
 rw [List.takeWhile_append_dropWhile]
 conv=>lhs;arg 2;rw [←List.takeWhile_append_dropWhile (p:=q) (l:=r)]
 exact List.drop_left ..
theorem EX {s r:List UInt8} {n:Nat} (h:At s n r) (q:UInt8→Bool):sub s (n:Int) ((n+(r.takeWhile q).length:Nat):Int)=some (r.takeWhile q):=by
 have h1:=(h.skip q).le
 rw [sG (by omega) h1,List.drop_take,h.dr,Nat.add_sub_cancel_left]
 congr 1
 conv=>lhs;arg 2;rw [←List.takeWhile_append_dropWhile (p:=q) (l:=r)]
 exact List.take_left ..
theorem Nr {s r:List UInt8} {n F:Nat} (h:At s n r) (hF:s.length+1<F):
 bT F ⟨s,(n:Int),false⟩=some (r.takeWhile gx,⟨s,((n+(r.takeWhile gx).length:Nat):Int), !jh (r.takeWhile gx)⟩):=by
 have h1:=h.len;have h2:=h.sm
 have h3:(r.takeWhile gx).length≤r.length:=A4 _ _
 unfold bT
 rw [kQ h,Option.bind_some,Gv (q:=gx) (s:=s) (by decide) (fun c n b=>by simp only [dI,Oy,Option.bind_some]) r n F h (by omega)]
 simp only [Option.bind_some]
 rw [EX h,Option.bind_some]
 unfold dJ
 simp only [Bool.false_eq_true,if_false]
 rw [EW (by omega) (by omega)]
 rfl
theorem mj {s:List UInt8} {n F:Nat} (hn:n≤s.length) (hF:0<F):bT F ⟨s,(n:Int),true⟩=some ([],⟨s,(n:Int),true⟩):=by
 obtain ⟨G,rfl⟩:=c6 hF
 unfold bT
 rw [uk,Option.bind_some,cI (t:=⟨s,(n:Int),true⟩) (by simp only [dI,Oy,Option.bind_some];rfl)]
 simp only [Option.bind_some]
 rw [sG (Nat.le_refl _) hn,Option.bind_some]
 unfold dJ
 simp only [if_true,Option.bind_some]
 congr 2
 simp
def kR (s:List UInt8):Bool:=(bg s).all fun p=>p !=[]&&p.all lN
theorem RC {s:List UInt8} {F:Nat} (hl:s.length≤1000000) (hF:s.length<F):iO F s=some (s.all lN):=by
 unfold iO
 have hh:=scan (s:=s) (body:=dW s) (mk:=fun i=>(false,(i:Int))) (p:=lN) (rr:=fun _=>false) (tt:=()) ?_ ?_ ?_ hF
 · cases ha:s.all lN with
   |true=>have:=hh.1 ha;rw [show ((0:Nat):Int)=0 from rfl] at this;rw [this];rfl
   |false=>obtain ⟨j,hj⟩:=hh.2 ha;rw [show ((0:Nat):Int)=0 from rfl] at hj;rw [hj];rfl
 · intro i x hx hp
   have hi:=(List.getElem?_eq_some_iff.1 hx).1
   simp only [dW]
   rw [if_pos (by simpa using hi),cT hx,Option.bind_some,Ox,Option.bind_some,hp,wi (by omega)];rfl
 · intro i x hx hp
   have hi:=(List.getElem?_eq_some_iff.1 hx).1
   simp only [dW]
   rw [if_pos (by simpa using hi),cT hx,Option.bind_some,Ox,Option.bind_some,hp];rfl
 · simp [dW]
theorem KM {x:List UInt8} {F:Nat} (hl:x.length≤1000000) (hF:x.length<F):jF F x=some (!(x !=[]&&x.all lN)):=by
 unfold jF jc
 by_cases hx:x=[]
 · subst hx;rfl
 · rw [if_neg (by simpa using hx),RC hl hF]
   simp [hx]
theorem Gw {s:List UInt8} {F:Nat} (hl:s.length≤90000) (hF:s.length+1<F):j7 F s=some (kR s):=by
 have hn:=xF s
 unfold j7
 rw [sH (by omega),Option.bind_some]
 unfold eH fD
 have hh:=scan (s:=bg s) (F:=F) (body:=cw F (bg s)) (mk:=fun i=>(0,(i:Int))) (p:=fun p=>p !=[]&&p.all lN) (rr:=fun i=>(i:Int)) (tt:=()) ?_ ?_ ?_ (by omega)
 · unfold kR
   cases ha:(bg s).all fun p=>p !=[]&&p.all lN with
   |true=>have:=hh.1 ha;rw [show ((0:Nat):Int)=0 from rfl] at this;rw [this];rfl
   |false=>obtain ⟨j,hj⟩:=hh.2 ha;rw [show ((0:Nat):Int)=0 from rfl] at hj;rw [hj];simp
 · intro i x hx' hp
   have hi:=(List.getElem?_eq_some_iff.1 hx').1
   have hxl:=mh s x (List.mem_of_getElem? hx')
   simp only [cw]
   rw [if_pos (by simpa using hi),cT hx',Option.bind_some,KM (by omega) (by omega),Option.bind_some,hp,wi (by omega)];rfl
 · intro i x hx' hp
   have hi:=(List.getElem?_eq_some_iff.1 hx').1
   have hxl:=mh s x (List.mem_of_getElem? hx')
   simp only [cw]
   rw [if_pos (by simpa using hi),cT hx',Option.bind_some,KM (by omega) (by omega),Option.bind_some,hp];rfl
 · simp [cw]
def qL:List UInt8→Option (List UInt8×List UInt8)
 |[]=>none
 |c::r=>if c=34 then some ([],r)
  else if c=92 then (match r with
   |[]=>none
   |d::r'=>if bR d then (qL r').map fun x=>(d::x.1,x.2) else none)
  else if bR c then (qL r).map fun x=>(c::x.1,x.2) else none
theorem xo (c:UInt8) (r:List UInt8):qL (c::r)=if c=34 then some ([],r)
 else if c=92 then (match r with
  |[]=>none
  |d::r'=>if bR d then (qL r').map fun x=>(d::x.1,x.2) else none)
 else if bR c then (qL r).map fun x=>(c::x.1,x.2) else none:=by
 cases r<;>rfl
theorem IA (c:UInt8):jE c=some (bR c):=rfl
theorem ad6:bR 0=false:=by decide
theorem aaY {s r acc:List UInt8} {n:Nat} (h:At s n (34::r)):bH (acc,⟨s,(n:Int),false⟩)=some (.dR (acc,⟨s,((n+1:Nat):Int),false⟩)):=by
 simp only [bH,cV,Bool.not_false,if_true]
 rw [xm h]
 simp
theorem Ns {s r acc:List UInt8} {n:Nat} (h:At s n r) (h1:nx r≠34) (h2:nx r≠92) (ha:acc.length≤90000):bH (acc,⟨s,(n:Int),false⟩)=
 if bR (nx r)=true then some (.cY (acc++[nx r],⟨s,((n+1:Nat):Int),false⟩)) else some (.dR (acc,⟨s,(n:Int),true⟩)):=by
 have:=h.le;have:=h.sm
 simp only [bH,cV,Bool.not_false,if_true]
 rw [um h h1]
 simp only [Option.bind_some,Bool.not_false,if_true]
 rw [um h h2]
 simp only [Option.bind_some]
 rw [kQ h]
 simp only [Option.bind_some,IA]
 cases bR (nx r) with
 |false=>simp
 |true=>
  simp only [Bool.not_true,Bool.false_eq_true,if_false,if_true]
  rw [mg (by simp;omega) (by omega),Option.bind_some,wi (by omega)]
theorem aaZ {s r acc:List UInt8} {n:Nat} (h:At s n (92::r)) (ha:acc.length≤90000):bH (acc,⟨s,(n:Int),false⟩)=
 if bR (nx r)=true then some (.cY (acc++[nx r],⟨s,((n+2:Nat):Int),false⟩)) else some (.dR (acc,⟨s,((n+1:Nat):Int),true⟩)):=by
 have:=h.next.le;have:=h.sm
 simp only [bH,cV,Bool.not_false,if_true]
 rw [um h (by simp [nx])]
 simp only [Option.bind_some,Bool.not_false,if_true]
 rw [xm h]
 simp only [Option.bind_some]
 rw [kQ h.next]
 simp only [Option.bind_some,IA]
 cases bR (nx r) with
 |false=>simp
 |true=>
  simp only [Bool.not_true,Bool.false_eq_true,if_false,if_true]
  rw [mg (by simp;omega) (by omega),Option.bind_some,wi (by omega)]
theorem IB {s:List UInt8}:∀(k:Nat) (r acc:List UInt8) (n F:Nat),r.length≤k→At s n r→acc.length≤n→r.length<F→
 match qL r with
 |some (b,rest)=>∃n':Nat,iter bH F (acc,⟨s,(n:Int),false⟩)=some (.inr (acc++b,⟨s,(n':Int),false⟩))∧At s n' rest
 |none=>∃acc',∃n':Nat,iter bH F (acc,⟨s,(n:Int),false⟩)=some (.inr (acc',⟨s,((n':Nat):Int),true⟩))∧n'≤s.length:=by
 intro k
 induction k with
 |zero=>
  intro r acc n F hk h ha hF
  have hr:r=[]:=List.length_eq_zero_iff.1 (by omega)
  subst hr
  obtain ⟨G,rfl⟩:=c6 hF
  have:=h.le;have:=h.sm
  refine ⟨acc,n,cI ?_,h.le⟩
  rw [Ns h (by decide) (by decide) (by omega),if_neg (by decide)]
 |succ k ih=>
  intro r acc n F hk h ha hF
  obtain ⟨G,rfl⟩:=c6 (show 0<F by omega)
  have h1:=h.le;have h2:=h.sm
  match r,hk,h,hF with
  |[],hk,h,hF=>exact ⟨acc,n,cI (by rw [Ns h (by decide) (by decide) (by omega),if_neg (by decide)]),h.le⟩
  |c::r,hk,h,hF=>
   rw [xo]
   by_cases hc:c=34
   · subst hc
     rw [if_pos rfl]
     exact ⟨n+1,by rw [cI (aaY h)];simp,h.next⟩
   · rw [if_neg hc]
     by_cases O2:c=92
     · subst O2
       rw [if_pos rfl]
       have hst:=aaZ (acc:=acc) h (by omega)
       match r,hk,h,hF,hst with
       |[],hk,h,hF,hst=>exact ⟨acc,n+1,cI (by rw [hst,if_neg (by decide)]),h.next.le⟩
       |d::r',hk,h,hF,hst=>
        cases hv:bR d with
        |false=>simp only [hv,Bool.false_eq_true,if_false];exact ⟨acc,n+1,cI (hst.trans (if_neg (by show ¬bR d=true;rw [hv];decide))),h.next.le⟩
        |true=>
         simp only [if_true]
         have Vd:=hst.trans (if_pos (show bR (nx (d::r'))=true from hv))
         have:=ih r' (acc++[d]) (n+2) G (by simp at hk;omega) h.next.next (by simp;omega) (by simp at hF;omega)
         rw [eg Vd]
         cases hq:qL r' with
         |none=>rw [hq] at this;simp only [nx,hv,if_true,Option.map_none];exact this
         |some x=>
          obtain ⟨b,rest⟩:=x
          rw [hq] at this
          obtain ⟨n',h3,h4⟩:=this
          simp only [nx,hv,if_true,Option.map_some];exact ⟨n',by rw [h3];simp,h4⟩
     · rw [if_neg O2]
       have hst:=Ns (acc:=acc) h (by simpa [nx] using hc) (by simpa [nx] using O2) (by omega)
       cases hv:bR c with
       |false=>simp only [hv,Bool.false_eq_true,if_false];exact ⟨acc,n,cI (hst.trans (if_neg (by show ¬bR c=true;rw [hv];decide))),h.le⟩
       |true=>
        simp only [if_true]
        have Vd:=hst.trans (if_pos (show bR (nx (c::r))=true from hv))
        have:=ih r (acc++[c]) (n+1) G (by simp at hk;omega) h.next (by simp;omega) (by simp at hF;omega)
        rw [eg Vd]
        cases hq:qL r with
        |none=>rw [hq] at this;simp only [nx,hv,if_true,Option.map_none];exact this
        |some x=>
         obtain ⟨b,rest⟩:=x
         rw [hq] at this
         obtain ⟨n',h3,h4⟩:=this
         simp only [nx,hv,if_true,Option.map_some];exact ⟨n',by rw [h3];simp,h4⟩
def Out (s:List UInt8) (o:Option (List UInt8×aD)):Option (List UInt8×List UInt8)→Prop
 |some (b,rest)=>∃n',o=some (b,⟨s,((n':Nat):Int),false⟩)∧At s n' rest
 |none=>∃b n',o=some (b,⟨s,((n':Nat):Int),true⟩)∧n'≤s.length
def kS (r:List UInt8):Option (List UInt8×List UInt8):=
 if nx r=34 then (match qL (r.drop 1) with|some (b,rest)=>if b=[] then none else some (b,rest)|none=>none)
 else if kR (r.takeWhile lO) then some (r.takeWhile lO,r.dropWhile lO) else none
def gy (r:List UInt8):Option (List UInt8×List UInt8):=if jh (r.takeWhile gx) then some (r.takeWhile gx,r.dropWhile gx) else none
theorem Ct {s r:List UInt8} {n F:Nat} (h:At s n r) (hF:s.length+1<F):Out s (bT F ⟨s,(n:Int),false⟩) (gy r):=by
 rw [Nr h hF]
 unfold gy
 cases hs:jh (r.takeWhile gx) with
 |true=>exact ⟨_,rfl,h.skip _⟩
 |false=>exact ⟨_,_,rfl,(h.skip gx).le⟩
theorem Nt {s r:List UInt8} {n F:Nat} (h:At s n r) (hF:s.length+1<F):Out s (di F ⟨s,(n:Int),false⟩) (kS r):=by
 have h1:=h.len;have h2:=h.sm
 unfold di kS
 rw [kQ h,Option.bind_some]
 by_cases hq:nx r=34
 · rw [if_pos (by simpa using hq),if_pos hq]
   cases r with
   |nil=>simp [nx] at hq
   |cons c r=>
    simp only [nx] at hq
    subst hq
    simp only [List.drop_succ_cons,List.drop_zero]
    unfold fR
    rw [xI h]
    simp only [Option.bind_some]
    have:=IB (s:=s) r.length r [] (n+1) F (Nat.le_refl _) h.next (by simp) (by simp at h1;omega)
    cases hqr:qL r with
    |none=>
     rw [hqr] at this
     obtain ⟨acc,n',h3,h4⟩:=this
     rw [h3]
     simp only [Option.bind_some,dK,if_true]
     exact ⟨_,_,rfl,h4⟩
    |some x=>
     obtain ⟨b,rest⟩:=x
     rw [hqr] at this
     obtain ⟨n',h3,h4⟩:=this
     rw [h3]
     simp only [Option.bind_some,dK,Bool.false_eq_true,if_false,List.nil_append]
     by_cases hb:b=[]
     · subst hb
       exact ⟨_,n',rfl,h4.le⟩
     · rw [if_neg hb]
       refine ⟨n', ?_,h4⟩
       have:decide ((b.length:Int)=0)=false:=by simpa using hb
       rw [this]
 · rw [if_neg (by simpa using hq),if_neg hq,Option.bind_some]
   have h3:=A4 lO r
   rw [Gv (q:=lO) (s:=s) (by decide) (fun c n b=>by simp only [dY,Oz,Option.bind_some]) r n F h (by omega)]
   simp only [Option.bind_some]
   rw [EX h,Option.bind_some]
   unfold dZ
   simp only [Bool.false_eq_true,if_false]
   rw [Gw (by omega) (by omega)]
   simp only [Option.bind_some]
   cases hs:kR (r.takeWhile lO) with
   |true=>exact ⟨_,rfl,h.skip _⟩
   |false=>exact ⟨_,_,rfl,(h.skip lO).le⟩
theorem EY {s:List UInt8} {n F:Nat} (hn:n≤s.length) (hF:0<F):∃b,di F ⟨s,(n:Int),true⟩=some (b,⟨s,(n:Int),true⟩):=by
 obtain ⟨G,rfl⟩:=c6 hF
 unfold di
 rw [uk,Option.bind_some,if_neg (by decide),Option.bind_some,cI (t:=⟨s,(n:Int),true⟩) (by simp only [dY,Oz,Option.bind_some];rfl)]
 simp only [Option.bind_some]
 rw [sG (Nat.le_refl _) hn,Option.bind_some]
 unfold dZ
 exact ⟨_,rfl⟩
end Go.Proofs.dO
end
section
set_option maxRecDepth 100000
namespace Go.Proofs.dO
open Go Go.Am Go.Proofs
def Gx:Nat→List UInt8→Option (List UInt8)
 |0,_=>none
 |k+1,r=>if nx r=64 then (match gy (r.drop 1) with
   |none=>none
   |some (_,r2)=>if nx r2=44 then Gx k (r2.drop 1) else if nx r2=58 then some (r2.drop 1) else none) else none
def oA (r:List UInt8):Option (List UInt8):=if nx r=64 then Gx (r.length+1) r else some r
def Ve (s:List UInt8) (o:Option aD):Option (List UInt8)→Prop
 |some rest=>∃n':Nat,o=some ⟨s,(n':Int),false⟩∧At s n' rest
 |none=>∃n':Nat,o=some ⟨s,(n':Int),true⟩∧n'≤s.length
theorem qB {r:List UInt8} {c:UInt8} (h:nx r=c) (hc:c≠0):∃t,r=c::t:=by
 cases r with
 |nil=>exact absurd h.symm hc
 |cons a t=>exact ⟨t,by rw [←h];rfl⟩
theorem RD {s r:List UInt8} {n:Nat} {c:UInt8} (h:At s n r) (hc:c≠0):Ve s (bp ⟨s,(n:Int),false⟩ c) (if nx r=c then some (r.drop 1) else none):=by
 by_cases hn:nx r=c
 · obtain ⟨t,rfl⟩:=qB hn hc
   rw [if_pos hn]
   exact ⟨n+1,xI h,h.next⟩
 · rw [if_neg hn]
   exact ⟨n,A3 h hn,h.le⟩
theorem uZ {r b t:List UInt8} (h:gy r=some (b,t)):t.length≤r.length:=by
 unfold gy at h
 split at h
 · injection h with h;injection h with _ h;subst h;exact (List.dropWhile_suffix _).length_le
 · cases h
theorem aa0 {s:List UInt8} {n F:Nat} (hn:n≤s.length) (hF:s.length+1<F):bD F (false,⟨s,(n:Int),true⟩)=some (.ret ⟨s,(n:Int),true⟩):=by
 simp only [bD,cv]
 rw [uk]
 simp only [Option.bind_some]
 rw [if_neg (by decide)]
 simp only [Option.bind_some,Bool.not_false,if_true]
 rw [iw]
 simp only [Option.bind_some]
 rw [mj hn (by omega)]
 simp only [Option.bind_some]
 rw [uY (by decide)]
 simp only [Option.bind_some,Bool.not_false,if_true]
 rw [iw]
 rfl
theorem KN {s:List UInt8} {FF:Nat} (X3:s.length+1<FF):∀(k:Nat) (first:Bool) (r:List UInt8) (n F:Nat),At s n r→r.length<k→k≤F→(first=true→nx r=64)→
 ∃o:aD⊕aD,iter (bD FF) F (first,⟨s,(n:Int),false⟩)=some o∧Ve s (some (match o with| .inl x=>x| .inr x=>x)) (Gx k r):=by
 intro k
 induction k with
 |zero=>intro first r n F h hk;omega
 |succ k ih=>
  intro first r n F h hk hF X4
  obtain ⟨G,rfl⟩:=c6 (show 0<F by omega)
  have hp1:cv ⟨s,(n:Int),false⟩ first=some true:=by
   unfold cv
   rw [kQ h,Option.bind_some]
   by_cases hx:nx r=64
   · rw [if_pos (by simpa using hx)]
   · rw [if_neg (by simpa using hx)]
     cases first with
     |false=>rfl
     |true=>exact absurd (X4 rfl) hx
  have hb:bD FF (first,⟨s,(n:Int),false⟩)=(bp ⟨s,(n:Int),false⟩ 64).bind fun r8=>(bT FF r8).bind fun x=>(bE x.2 44).bind fun y=>if (!y.1)=true then (bp y.2 58).bind fun kX=>some (.ret kX) else some (.cY (false,y.2)):=by
   simp only [bD]
   rw [hp1]
   rfl
  simp only [Gx]
  by_cases hx:nx r=64
  · rw [if_pos hx]
    obtain ⟨t,rfl⟩:=qB hx (by decide)
    simp only [List.drop_succ_cons,List.drop_zero]
    rw [xI h] at hb
    simp only [Option.bind_some] at hb
    have hd:=Ct (F:=FF) h.next X3
    cases Nu:gy t with
    |none=>
     rw [Nu] at hd
     obtain ⟨b,n',h1,h2⟩:=hd
     rw [h1] at hb
     simp only [Option.bind_some] at hb
     rw [uY (by decide)] at hb
     simp only [Option.bind_some,Bool.not_false,if_true] at hb
     rw [iw] at hb
     exact ⟨_,fM hb,n',rfl,h2⟩
    |some x=>
     obtain ⟨b,r2⟩:=x
     rw [Nu] at hd
     obtain ⟨n',h1,h2⟩:=hd
     rw [h1] at hb
     simp only [Option.bind_some] at hb
     have hlen:=uZ Nu
     by_cases X5:nx r2=44
     · obtain ⟨r3,rfl⟩:=qB X5 (by decide)
       simp only [if_pos X5,List.drop_succ_cons,List.drop_zero]
       rw [xm h2] at hb
       simp only [Option.bind_some,Bool.not_true,Bool.false_eq_true,if_false] at hb
       rw [eg hb]
       simp only [List.length_cons] at hk hlen
       exact ih false r3 (n'+1) G h2.next (by omega) (by omega) (fun h=>by cases h)
     · simp only [if_neg X5]
       rw [um h2 X5] at hb
       simp only [Option.bind_some,Bool.not_false,if_true] at hb
       have hw:=RD (c:=58) h2 (by decide)
       generalize hg:(if nx r2=58 then some (r2.drop 1) else none)=g at hw
       cases g with
       |none=>obtain ⟨m,h3,h4⟩:=hw;rw [h3] at hb;exact ⟨_,fM hb,m,rfl,h4⟩
       |some rest=>obtain ⟨m,h3,h4⟩:=hw;rw [h3] at hb;exact ⟨_,fM hb,m,rfl,h4⟩
  · rw [if_neg hx]
    rw [A3 h hx] at hb
    simp only [Option.bind_some] at hb
    rw [mj h.le (by omega)] at hb
    simp only [Option.bind_some] at hb
    rw [uY (by decide)] at hb
    simp only [Option.bind_some,Bool.not_false,if_true] at hb
    rw [iw] at hb
    exact ⟨_,fM hb,n,rfl,h.le⟩
theorem Nv {s r:List UInt8} {n F:Nat} (h:At s n r) (hF:s.length+1<F):Ve s (dh F ⟨s,(n:Int),false⟩) (oA r):=by
 have:=h.len
 unfold dh oA
 by_cases hx:nx r=64
 · rw [if_pos hx]
   obtain ⟨o,h1,h2⟩:=KN hF (r.length+1) true r n F h (by omega) (by omega) fun _=>hx
   rw [h1]
   cases o with
   |inl x=>exact h2
   |inr x=>exact h2
 · rw [if_neg hx]
   obtain ⟨G,rfl⟩:=c6 (show 0<F by omega)
   have hb:bD (G+1) (true,⟨s,(n:Int),false⟩)=some (.dR ⟨s,(n:Int),false⟩):=by
    simp only [bD,cv]
    rw [kQ h,Option.bind_some,if_neg (by simpa using hx)]
    rfl
   rw [cI hb]
   exact ⟨n,rfl,h⟩
theorem KO {s:List UInt8} {n F:Nat} (hF:0<F):dh F ⟨s,(n:Int),true⟩=some ⟨s,(n:Int),true⟩:=by
 obtain ⟨G,rfl⟩:=c6 hF
 unfold dh
 have hb:bD (G+1) (true,⟨s,(n:Int),true⟩)=some (.dR ⟨s,(n:Int),true⟩):=by
  simp only [bD,cv]
  rw [uk,Option.bind_some,if_neg (by decide)]
  rfl
 rw [cI hb]
 rfl
def yp (r:List UInt8):Option (aB×List UInt8):=
 match oA r with
 |none=>none
 |some r1=>match kS r1 with
  |none=>none
  |some (l,r2)=>if nx r2=64 then (match gy (r2.drop 1) with
   |none=>none
   |some (d,r3)=>if nx r3=62 then some (⟨l,d⟩,r3.drop 1) else none) else none
def B3 (s:List UInt8):Option (aB×List UInt8):=
 if nx s=60 then (if nx (s.drop 1)=62 then some (⟨[],[]⟩,s.drop 2) else yp (s.drop 1)) else none
theorem aa1 {s r:List UInt8} {n F:Nat} (h:At s n r) (hF:s.length+1<F):
 match yp r with
 |some (a,rest)=>∃n':Nat,ff F false ⟨s,(n:Int),false⟩=some (⟨s,(n':Int),false⟩,a)∧At s n' rest
 |none=>∃a,∃n':Nat,ff F false ⟨s,(n:Int),false⟩=some (⟨s,(n':Int),true⟩,a)∧n'≤s.length:=by
 unfold ff
 simp only [Bool.not_false,if_true]
 have bad:∀(m:Nat) (l:List UInt8),m≤s.length→∃a,((bp ⟨s,(m:Int),true⟩ 64).bind fun lD=>(bT F lD).bind fun x=>(bp x.2 62).bind fun iB=>some (iB,aB.mk l x.1))=some ((⟨s,(m:Int),true⟩:aD),a):=by
  intro m l hm
  rw [iw,Option.bind_some,mj hm (by omega),Option.bind_some]
  simp only
  rw [iw]
  exact ⟨_,rfl⟩
 unfold yp
 have hr:=Nv h hF
 cases hrl:oA r with
 |none=>
  rw [hrl] at hr
  obtain ⟨n1,h1,h2⟩:=hr
  rw [h1,Option.bind_some]
  obtain ⟨b,h3⟩:=EY (F:=F) h2 (by omega)
  rw [h3,Option.bind_some]
  obtain ⟨a,h4⟩:=bad n1 b h2
  exact ⟨a,n1,h4,h2⟩
 |some r1=>
  rw [hrl] at hr
  obtain ⟨n1,h1,h2⟩:=hr
  rw [h1,Option.bind_some]
  have hl:=Nt h2 hF
  cases Lp:kS r1 with
  |none=>
   rw [Lp] at hl
   obtain ⟨b,n2,h3,h4⟩:=hl
   rw [h3,Option.bind_some]
   obtain ⟨a,h5⟩:=bad n2 b h4
   simp only [Lp]
   exact ⟨a,n2,h5,h4⟩
  |some x=>
   obtain ⟨l,r2⟩:=x
   rw [Lp] at hl
   obtain ⟨n2,h3,h4⟩:=hl
   rw [h3,Option.bind_some]
   simp only [Lp]
   by_cases KP:nx r2=64
   · obtain ⟨t,rfl⟩:=qB KP (by decide)
     rw [xI h4,Option.bind_some]
     simp only [if_pos KP,List.drop_succ_cons,List.drop_zero]
     have hd:=Ct h4.next hF
     cases Nu:gy t with
     |none=>
      rw [Nu] at hd
      obtain ⟨b,n3,h5,h6⟩:=hd
      rw [h5,Option.bind_some]
      simp only
      rw [iw]
      exact ⟨_,n3,rfl,h6⟩
     |some y=>
      obtain ⟨d,r3⟩:=y
      rw [Nu] at hd
      obtain ⟨n3,h5,h6⟩:=hd
      rw [h5,Option.bind_some]
      simp only
      by_cases B4:nx r3=62
      · obtain ⟨u,rfl⟩:=qB B4 (by decide)
        rw [xI h6]
        simp only [if_pos B4,List.drop_succ_cons,List.drop_zero]
        exact ⟨_,rfl,h6.next⟩
      · rw [A3 h6 B4]
        simp only [if_neg B4]
        exact ⟨_,n3,rfl,h6.le⟩
   · rw [A3 h4 KP,Option.bind_some]
     simp only [if_neg KP]
     rw [mj h4.le (by omega),Option.bind_some]
     simp only
     rw [iw]
     exact ⟨_,n2,rfl,h4.le⟩
def esc (l:List UInt8):List UInt8:=l.flatMap fun c=>if c=34∨c=92 then [92,c] else [c]
def lP (a:aB):List UInt8:=if kR a.av then 60::(a.av++64::(a.domain++[62])) else 60::34::(esc a.av++34::64::(a.domain++[62]))
def Gy (s:List UInt8):Bool:=s !=[]&&decide (s.length≤64)&&s.all bR
def eG (a:aB):Bool:=decide (a.av=[])&&decide (a.domain=[])
def eJ (a:aB):Bool:=eG a||(Gy a.av&&jN a.domain&&decide ((lP a).length≤256))
theorem Vf (l:List UInt8):(esc l).length≤2*l.length:=by
 induction l with
 |nil=>simp [esc]
 |cons c l ih=>
  simp only [esc,List.flatMap_cons,List.length_append,List.length_cons] at ih ⊢
  split<;>simp only [List.length_cons,List.length_nil]<;>omega
theorem Nw {s:List UInt8} {F:Nat} (hl:s.length≤1000000) (hF:s.length<F):gV F s=some (s.all bR):=by
 unfold gV
 have hh:=scan (s:=s) (body:=dz s) (mk:=fun i=>(false,(i:Int))) (p:=bR) (rr:=fun _=>false) (tt:=()) ?_ ?_ ?_ hF
 · cases ha:s.all bR with
   |true=>have:=hh.1 ha;rw [show ((0:Nat):Int)=0 from rfl] at this;rw [this];rfl
   |false=>obtain ⟨j,hj⟩:=hh.2 ha;rw [show ((0:Nat):Int)=0 from rfl] at hj;rw [hj];rfl
 · intro i x hx hp
   have hi:=(List.getElem?_eq_some_iff.1 hx).1
   simp only [dz]
   rw [if_pos (by simpa using hi),cT hx,Option.bind_some,IA,Option.bind_some,hp,wi (by omega)];rfl
 · intro i x hx hp
   have hi:=(List.getElem?_eq_some_iff.1 hx).1
   simp only [dz]
   rw [if_pos (by simpa using hi),cT hx,Option.bind_some,IA,Option.bind_some,hp];rfl
 · simp [dz]
theorem Vg {s:List UInt8} {F:Nat} (hF:s.length<F):mb F s=some (Gy s):=by
 unfold mb kE Gy
 by_cases h:s=[]
 · subst h;rfl
 · by_cases h2:s.length≤64
   · rw [if_pos (by simpa using h),if_pos (by simp;omega),Nw (by omega) hF]
     simp [h,h2]
   · rw [if_pos (by simpa using h),if_neg (by simp;omega)]
     simp [h2]
theorem Nx {a:aB} (hl:a.av.length≤80000):∀(r:List UInt8) (i F:Nat) (b:List UInt8),a.av.drop i=r→i+r.length=a.av.length→b.length≤2*i+1→r.length<F→
 iter (fY a) F (b,(i:Int))=some (.inr (b++esc r)):=by
 intro r
 induction r with
 |nil=>
  intro i F b hd hi hb hF
  obtain ⟨G,rfl⟩:=c6 hF
  rw [cI (t:=b) (by simp only [fY];rw [if_neg (by simp at hi ⊢;omega)])]
  simp [esc]
 |cons c r ih=>
  intro i F b hd hi hb hF
  obtain ⟨G,rfl⟩:=c6 (show 0<F by omega)
  obtain ⟨h1,h2,h3⟩:=drop_cons hd
  simp only [List.length_cons] at hi hF
  have hst:fY a (b,(i:Int))=some (.cY (b++(if c=34∨c=92 then [92,c] else [c]),((i+1:Nat):Int))):=by
   simp only [fY,lS]
   rw [if_pos (by simpa using h1),cT h2]
   simp only [Option.bind_some]
   by_cases Vh:c=34
   · subst Vh
     simp only [decide_true,if_true,Option.bind_some,true_or]
     rw [mg (by simp;omega) (by omega),Option.bind_some,mg (by simp;omega) (by omega),Option.bind_some,wi (by omega)]
     simp
   · by_cases h92:c=92
     · subst h92
       rw [if_neg (by decide)]
       simp only [decide_true,Option.bind_some,if_true,or_true]
       rw [mg (by simp;omega) (by omega),Option.bind_some,mg (by simp;omega) (by omega),Option.bind_some,wi (by omega)]
       simp
     · rw [if_neg (by simpa using Vh)]
       simp only [Option.bind_some]
       rw [if_neg (by simpa using h92),mg (by simp;omega) (by omega),Option.bind_some,wi (by omega),if_neg (by simp [Vh,h92])]
  rw [eg hst,ih (i+1) G _ h3 (by omega) (by split<;>simp<;>omega) (by omega)]
  simp [esc]
theorem KQ {a:aB} {F:Nat} (hl:a.av.length≤80000) (hd:a.domain.length≤80000) (hF:a.av.length+1<F):lH F a=some (lP a):=by
 have he:=Vf a.av
 unfold lH lP
 rw [Gw (by omega) hF,Option.bind_some]
 cases kR a.av with
 |true=>
  simp only [Bool.not_true,Bool.false_eq_true,if_false,if_true]
  rw [cW (by simp;omega),Option.bind_some,cW (by simp;omega),Option.bind_some,cW (by simp;omega),Option.bind_some,cW (by simp;omega),Option.bind_some]
  simp
 |false=>
  simp only [Bool.not_false,if_true,Bool.false_eq_true,if_false]
  rw [show (([34]:List UInt8),(0:Int))=(([34]:List UInt8),((0:Nat):Int)) from rfl,Nx hl a.av 0 F [34] (by simp) (by simp) (by simp) (by omega)]
  simp only [Option.bind_some]
  rw [mg (by simp;omega) (by omega),Option.bind_some,cW (by simp;omega),Option.bind_some,cW (by simp;omega),Option.bind_some,cW (by simp;omega),Option.bind_some,cW (by simp;omega),Option.bind_some]
  simp
theorem xJ {a:aB} {F:Nat} (hl:a.av.length≤80000) (hd:a.domain.length≤80000) (hF:a.av.length+a.domain.length+1<F):iR F a=some (eJ a):=by
 unfold iR kF lG eJ
 simp only [Option.bind_some]
 cases hn:eG a with
 |true=>rw [eG] at hn;rw [hn];rfl
 |false=>
  rw [eG] at hn
  rw [hn]
  simp only [Bool.false_eq_true,if_false,Bool.false_or]
  rw [Vg (by omega),Option.bind_some]
  cases hlb:Gy a.av with
  |false=>rfl
  |true=>
   simp only [if_true,Bool.true_and]
   rw [U6 (by omega) (by omega),Option.bind_some]
   cases hdb:jN a.domain with
   |false=>rfl
   |true=>
    simp only [if_true,Bool.true_and]
    rw [KQ hl hd (by omega)]
    simp
    omega
theorem X6 (a:aB):lG a=some (eG a):=rfl
def jx (s:List UInt8):aB×List UInt8×Int:=
 match B3 s with
 |none=>(⟨[],[]⟩,[],3)
 |some (a,rest)=>if eJ a then (a,rest,0) else (⟨[],[]⟩,[],5)
theorem At.zero {s:List UInt8} (h:s.length≤90000):At s 0 s:=⟨Nat.zero_le _,rfl,h⟩
theorem aa2 {s:List UInt8} {a:aB} {rest:List UInt8} {n:Nat} {t:List UInt8}:True:=trivial
end Go.Proofs.dO
end
section
set_option maxRecDepth 100000
namespace Go.Proofs.dO
open Go Go.Am Go.Proofs
theorem X7:∀(k:Nat) (r b rest:List UInt8),r.length≤k→qL r=some (b,rest)→b.length+rest.length≤r.length:=by
 intro k
 induction k with
 |zero=>
  intro r b rest hk h
  have hr:r=[]:=List.length_eq_zero_iff.1 (by omega)
  subst hr;cases h
 |succ k ih=>
  intro r b rest hk h
  match r,hk,h with
  |[],hk,h=>cases h
  |c::r,hk,h=>
   rw [xo] at h
   simp only [List.length_cons] at hk ⊢
   split at h
   · injection h with h;injection h with h1 h2;subst h1 h2;simp
   · split at h
     · match r,hk,h with
       |[],hk,h=>cases h
       |d::r',hk,h=>
        simp only at h
        split at h
        · simp only [Option.map_eq_some_iff] at h
          obtain ⟨⟨b',rest'⟩,h1,h2⟩:=h
          injection h2 with h2 h3
          subst h2 h3
          have:=ih r' b' rest' (by simp at hk;omega) h1
          simp;omega
        · cases h
     · split at h
       · simp only [Option.map_eq_some_iff] at h
         obtain ⟨⟨b',rest'⟩,h1,h2⟩:=h
         injection h2 with h2 h3
         subst h2 h3
         have:=ih r b' rest' (by omega) h1
         simp;omega
       · cases h
theorem IC (q:UInt8→Bool) (r:List UInt8):(r.dropWhile q).length≤r.length:=(List.dropWhile_suffix q).length_le
theorem Cu {r b t:List UInt8} (h:kS r=some (b,t)):b.length≤r.length∧t.length≤r.length:=by
 unfold kS at h
 split at h
 · split at h
   · rename_i b' rest' hq
     have:=X7 _ _ _ _ (Nat.le_refl _) hq
     have hd:(r.drop 1).length≤r.length:=by simp
     split at h
     · cases h
     · injection h with h;injection h with h1 h2;subst h1 h2;omega
   · cases h
 · split at h
   · injection h with h;injection h with h1 h2;subst h1 h2
     exact ⟨A4 _ _,IC _ _⟩
   · cases h
theorem F6 {r b t:List UInt8} (h:gy r=some (b,t)):b.length≤r.length:=by
 unfold gy at h
 split at h
 · injection h with h;injection h with h1 _;subst h1;exact A4 _ _
 · cases h
theorem RE:∀(k:Nat) (r r':List UInt8),Gx k r=some r'→r'.length≤r.length:=by
 intro k
 induction k with
 |zero=>intro r r' h;cases h
 |succ k ih=>
  intro r r' h
  simp only [Gx] at h
  split at h
  · split at h
    · cases h
    · rename_i b r2 hd
      have h1:=uZ hd
      have h2:(r.drop 1).length≤r.length:=by simp
      have h3:(r2.drop 1).length≤r2.length:=by simp
      split at h
      · have:=ih _ _ h;omega
      · split at h
        · injection h with h;subst h;omega
        · cases h
  · cases h
theorem Cw {r r':List UInt8} (h:oA r=some r'):r'.length≤r.length:=by
 unfold oA at h
 split at h
 · exact RE _ _ _ h
 · injection h with h;subst h;exact Nat.le_refl _
theorem RF {r rest:List UInt8} {a:aB} (h:yp r=some (a,rest)):a.av.length≤r.length∧a.domain.length≤r.length:=by
 unfold yp at h
 split at h
 · cases h
 · rename_i r1 hr
   have h1:=Cw hr
   split at h
   · cases h
   · rename_i l r2 hl
     have h2:=Cu hl
     split at h
     · split at h
       · cases h
       · rename_i d r3 hd
         have h3:=F6 hd
         have h4:(r2.drop 1).length≤r2.length:=by simp
         split at h
         · injection h with h;injection h with h5 _;subst h5;simp only;omega
         · cases h
     · cases h
theorem Vi {s:List UInt8} {F:Nat} (hs:s.length≤40000) (hF:2*s.length+10<F):pI F s=some (jx s):=by
 have hz:=At.zero (s:=s) (by omega)
 have aa3:eJ ⟨[],[]⟩=true:=by simp [eJ,eG]
 unfold pI jx B3
 rw [show (aD.mk s 0 false)=⟨s,((0:Nat):Int),false⟩ from rfl]
 by_cases X8:nx s=60
 · obtain ⟨r,rfl⟩:=qB X8 (by decide)
   rw [xI hz,Option.bind_some,if_pos X8]
   simp only [List.drop_succ_cons,List.drop_zero]
   have h1:=hz.next
   by_cases B4:nx r=62
   · obtain ⟨t,rfl⟩:=qB B4 (by decide)
     rw [xm h1,if_pos B4]
     simp only [Option.bind_some,ff,Bool.not_true,Bool.false_eq_true,if_false]
     rw [xJ (a:=⟨[],[]⟩) (by simp) (by simp) (by simp;omega),aa3]
     simp only [Option.bind_some,Bool.not_true,Bool.false_eq_true,if_false,jK]
     rw [qA h1.next.le]
     simp
   · rw [um h1 B4,if_neg B4]
     simp only [Option.bind_some]
     have hp:=aa1 (F:=F) h1 (by omega)
     cases hb:yp r with
     |none=>
      rw [hb] at hp
      obtain ⟨a,n',h2,h3⟩:=hp
      rw [h2]
      rfl
     |some x=>
      obtain ⟨a,rest⟩:=x
      rw [hb] at hp
      obtain ⟨n',h2,h3⟩:=hp
      obtain ⟨Y7,CB⟩:=RF hb
      simp only [List.length_cons] at hs hF
      rw [h2]
      simp only [Option.bind_some,Bool.false_eq_true,if_false]
      rw [xJ (by omega) (by omega) (by omega),Option.bind_some]
      cases hr:eJ a with
      |false=>simp
      |true=>
       simp only [Bool.not_true,Bool.false_eq_true,if_false,jK,if_true]
       rw [qA h3.le,h3.dr]
       rfl
 · rw [A3 hz X8,Option.bind_some,if_neg X8,uY (by decide)]
   simp only [Option.bind_some,ff,Bool.not_false,if_true]
   rw [KO (by omega),Option.bind_some]
   obtain ⟨b,h3⟩:=EY (s:=s) (n:=0) (F:=F) (Nat.zero_le _) (by omega)
   rw [h3]
   simp only [Option.bind_some]
   rw [iw,Option.bind_some,mj (Nat.zero_le _) (by omega)]
   simp only [Option.bind_some]
   rw [iw]
   simp
def adn (s:List UInt8):aB×Int:=if (jx s).2.2=0∧(jx s).2.1≠[] then (⟨[],[]⟩,3) else ((jx s).1,(jx s).2.2)
theorem Dl {q:UInt8→Bool} {l:List UInt8} {x:UInt8} (hx:q x=false) (h:∀c∈l,q c=true) (t:List UInt8):(l++x::t).takeWhile q=l∧(l++x::t).dropWhile q=x::t:=by
 induction l with
 |nil=>simp [hx]
 |cons c l ih=>
  obtain ⟨h1,h2⟩:=ih fun y hy=>h y (by simp [hy])
  have:=h c (by simp)
  simp [this,h1,h2]
theorem EZ (c:UInt8):lN c=true→lO c=true∧c≠62∧c≠64∧c≠34:=by
 have:=fU (p:=fun c=> !lN c||(lO c&&c !=62&&c !=64&&c !=34)) (by kernel_rfl) c
 intro h
 rw [h] at this
 simp at this
 exact ⟨this.1.1.1,this.1.1.2,this.1.2,this.2⟩
theorem Ny {l:List UInt8} (h:kR l=true):∀c∈l,lO c=true:=by
 intro c hc
 rcases zN l c hc with rfl|⟨p,hp,iW⟩
 · decide
 · have:=List.all_eq_true.1 h p hp
   simp only [Bool.and_eq_true] at this
   exact (EZ c (List.all_eq_true.1 this.2 c iW)).1
theorem KR {l:List UInt8} (h:kR l=true):∃c t,l=c::t∧lN c=true:=by
 cases l with
 |nil=>simp [kR,bg] at h
 |cons c t=>
  refine ⟨c,t,rfl, ?_⟩
  unfold kR at h
  simp only [bg] at h
  by_cases hc:c=46
  · rw [if_pos hc] at h;simp at h
  · rw [if_neg hc] at h
    cases hs:bg t with
    |nil=>exact absurd hs (jY t)
    |cons x y=>rw [hs] at h;simp at h;exact h.1.1
theorem Vj (c:UInt8):(B1 c=true→gx c=true)∧(fZ c=true→gx c=true):=by
 have:=fU (p:=fun c=>(!B1 c||gx c)&&(!fZ c||gx c)) (by kernel_rfl) c
 simp at this
 exact ⟨fun h=>by simpa [h] using this.1,fun h=>by simpa [h] using this.2⟩
theorem Nz {l:List UInt8} {x:UInt8} (h:l.getLast?=some x):l.dropLast++[x]=l:=by
 have hne:l≠[]:=by intro h0;subst h0;cases h
 have h2:=List.dropLast_concat_getLast hne
 rw [List.getLast?_eq_some_getLast hne] at h
 injection h with h
 rw [←h];exact h2
theorem Vk {d:List UInt8} (h:td d=true):d=91::(inner d++[93]):=by
 simp only [td,Bool.and_eq_true,decide_eq_true_eq,beq_iff_eq] at h
 cases d with
 |nil=>simp at h
 |cons c r=>
  obtain ⟨⟨h1,h2⟩,h3⟩:=h
  simp at h2
  subst h2
  cases r with
  |nil=>simp at h1
  |cons a t=>
   rw [List.getLast?_cons_cons] at h3
   simp only [inner,List.drop_succ_cons,List.drop_zero]
   rw [Nz h3]
theorem E0 {d:List UInt8} (h:jN d=true):∀c∈d,gx c=true:=by
 intro c hc
 simp only [jN,Bool.and_eq_true] at h
 have hs:=h.1.2
 unfold jh at hs
 by_cases hi:td d=true
 · rw [if_pos hi] at hs
   simp only [Bool.and_eq_true] at hs
   rw [Vk hi] at hc
   rcases List.mem_cons.1 hc with rfl|hc
   · decide
   · rcases List.mem_append.1 hc with hc|hc
     · rcases zN _ c hc with rfl|⟨p,hp,iW⟩
       · decide
       · exact (Vj c).2 (List.all_eq_true.1 (uX (List.all_eq_true.1 hs.2 p hp)).2.1 c iW)
     · simp at hc;subst hc;decide
 · rw [if_neg hi] at hs
   rcases zN _ c hc with rfl|⟨p,hp,iW⟩
   · decide
   · have:=List.all_eq_true.1 hs p hp
     simp only [kP,Bool.and_eq_true] at this
     exact (Vj c).1 (List.all_eq_true.1 this.2 c iW)
theorem A5 {d:List UInt8} (h:jN d=true) {x:UInt8} (hx:gx x=false) (t:List UInt8):gy (d++x::t)=some (d,x::t):=by
 obtain ⟨h1,h2⟩:=Dl hx (E0 h) t
 unfold gy
 rw [h1,h2,if_pos]
 simp only [jN,Bool.and_eq_true] at h
 exact h.1.2
theorem X9 {l:List UInt8} (h:l.all bR=true) (rest:List UInt8):qL (esc l++34::rest)=some (l,rest):=by
 induction l with
 |nil=>simp [esc,xo]
 |cons c l ih=>
  simp only [List.all_cons,Bool.and_eq_true] at h
  have ih:=ih h.2
  simp only [esc,List.flatMap_cons,List.append_assoc] at ih ⊢
  by_cases hc:c=34∨c=92
  · rw [if_pos hc]
    simp only [List.cons_append,List.nil_append]
    rw [xo,if_neg (by decide),if_pos rfl]
    simp only [h.1,if_true,ih,Option.map_some]
  · rw [if_neg hc]
    simp only [List.cons_append,List.nil_append]
    rw [xo,if_neg fun h=>hc (.inl h),if_neg fun h=>hc (.inr h)]
    simp only [h.1,if_true,ih,Option.map_some]
theorem RG {a:aB} (hn:eG a=false) (h:eJ a=true) (more:List UInt8):∃r,lP a=60::r∧nx r≠62∧nx r≠64∧(∀r',oA r'=some (r++more)→yp r'=some (a,more)):=by
 simp only [eJ,hn,Bool.false_or,Bool.and_eq_true] at h
 obtain ⟨⟨hl,hd⟩, -⟩:=h
 simp only [Gy,Bool.and_eq_true] at hl
 unfold lP
 cases hp:kR a.av with
 |true=>
  obtain ⟨c,t,ht,hc⟩:=KR hp
  obtain ⟨-,B4,KP,Vh⟩:=EZ c hc
  refine ⟨a.av++64::(a.domain++[62]),by simp, ?_, ?_, ?_⟩
  · rw [ht];simpa [nx] using B4
  · rw [ht];simpa [nx] using KP
  · intro r' hr'
    have e:(a.av++64::(a.domain++[62]))++more=a.av++64::(a.domain++62::more):=by simp
    obtain ⟨h1,h2⟩:=Dl (q:=lO) (x:=64) (by decide) (Ny hp) (a.domain++62::more)
    unfold yp
    rw [hr',e]
    have Vl:kS (a.av++64::(a.domain++62::more))=some (a.av,64::(a.domain++62::more)):=by
     unfold kS
     rw [if_neg (by rw [ht];simpa [nx] using Vh),h1,h2,if_pos hp]
    simp only [Vl]
    rw [if_pos (show nx (64::(a.domain++62::more))=64 from rfl)]
    simp only [List.drop_succ_cons,List.drop_zero]
    rw [A5 hd (by decide)]
    rfl
 |false=>
  refine ⟨34::(esc a.av++34::64::(a.domain++[62])),by simp,by simp [nx],by simp [nx], ?_⟩
  intro r' hr'
  have e:(34::(esc a.av++34::64::(a.domain++[62])))++more=34::(esc a.av++34::64::(a.domain++62::more)):=by simp
  unfold yp
  rw [hr',e]
  have Vl:kS (34::(esc a.av++34::64::(a.domain++62::more)))=some (a.av,64::(a.domain++62::more)):=by
   unfold kS
   rw [if_pos (show nx (34::(esc a.av++34::64::(a.domain++62::more)))=34 from rfl)]
   simp only [List.drop_succ_cons,List.drop_zero]
   rw [X9 hl.2]
   simp only
   rw [if_neg (by simpa using hl.1.1)]
  simp only [Vl]
  rw [if_pos (show nx (64::(a.domain++62::more))=64 from rfl)]
  simp only [List.drop_succ_cons,List.drop_zero]
  rw [A5 hd (by decide)]
  rfl
theorem NA {a:aB} (hn:eG a=false) (h:eJ a=true) (more:List UInt8):jx (lP a++more)=(a,more,0):=by
 obtain ⟨r,hr,B4,KP,hb⟩:=RG hn h more
 have ac0:r≠[]:=by
  intro ID
  subst ID
  unfold lP at hr
  split at hr
  · injection hr with _ hr;simp at hr
  · injection hr with _ hr;simp at hr
 have hnx:nx (r++more)=nx r:=by
  cases r with
  |nil=>exact absurd rfl ac0
  |cons=>rfl
 unfold jx B3
 rw [hr,List.cons_append,if_pos (show nx (60::(r++more))=60 from rfl)]
 simp only [List.drop_succ_cons,List.drop_zero]
 rw [if_neg (by rw [hnx];exact B4),hb (r++more) (by unfold oA;rw [if_neg (by rw [hnx];exact KP)])]
 simp only
 rw [if_pos h]
theorem RH {a:aB} {F:Nat} (hl:a.av.length≤40000) (hd:a.domain.length≤40000) (hF:a.av.length+a.domain.length+1<F):iS F a=some (if eG a then [60,62] else if eJ a then lP a else []):=by
 unfold iS
 rw [X6,Option.bind_some]
 cases eG a with
 |true=>rfl
 |false=>
  simp only [Bool.false_eq_true,if_false]
  rw [xJ (by omega) (by omega) hF,Option.bind_some]
  cases eJ a with
  |false=>rfl
  |true=>
   simp only [Bool.not_true,Bool.false_eq_true,if_false,if_true]
   rw [KQ (by omega) (by omega) (by omega)]
   rfl
end Go.Proofs.dO
end
section
namespace Go.Am
open Go
def xp {α A ρ:Type} (step:A→α→Except ρ A):A→List α→Except ρ A
 |a,[]=> .ok a
 |a,x::r=>match step a x with
  | .ok a'=>xp step a' r
  | .error e=> .error e
theorem lp {α ρ τ σ A:Type} {s:List α} {body:σ→Option (St ρ τ σ)} {mk:A→Nat→σ} {step:A→α→Except ρ A} {tt:A→τ} (I:A→Nat→Prop)
 (h1:∀a i x,s[i]? =some x→I a i→match step a x with
  | .ok a'=>body (mk a i)=some (.cY (mk a' (i+1)))∧I a' (i+1)
  | .error r=>body (mk a i)=some (.ret r))
 (h3:∀a,I a s.length→body (mk a s.length)=some (.dR (tt a))) {F:Nat} {a:A} (hF:s.length<F) (h0:I a 0):
 iter body F (mk a 0)=some (match xp step a s with| .ok a'=> .inr (tt a')| .error r=> .inl r)∧∀a',xp step a s= .ok a'→I a' s.length:=by
 suffices h:∀(r:List α) (i F:Nat) (a:A),s.drop i=r→i+r.length=s.length→r.length<F→I a i→
  iter body F (mk a i)=some (match xp step a r with| .ok a'=> .inr (tt a')| .error r=> .inl r)∧∀a',xp step a r= .ok a'→I a' s.length from h s 0 F a rfl (by simp) hF h0
 intro r
 induction r with
 |nil=>
  intro i F a hd hl hF h0
  obtain ⟨G,rfl⟩:=c6 hF
  have:i=s.length:=by simpa using hl
  subst this
  exact ⟨cI (h3 a h0),fun a' h=>by cases h;exact h0⟩
 |cons x r ih=>
  intro i F a hd hl hF h0
  obtain ⟨G,rfl⟩:=c6 hF
  obtain ⟨hi,hx,hr⟩:=drop_cons hd
  simp only [List.length_cons] at hl hF
  have:=h1 a i x hx h0
  simp only [xp]
  cases hs:step a x with
  |ok a'=>
   rw [hs] at this
   rw [eg this.1]
   exact ih (i+1) G a' hr (by omega) (by omega) this.2
  |error e=>
   rw [hs] at this
   rw [fM this]
   exact ⟨rfl,fun a' h=>by cases h⟩
theorem lpo {α ρ τ σ A:Type} {s:List α} {body:σ→Option (St ρ τ σ)} {mk:A→Nat→σ} {step:A→α→A} {tt:A→τ} (I:A→Nat→Prop)
 (h1:∀a i x,s[i]? =some x→I a i→body (mk a i)=some (.cY (mk (step a x) (i+1)))∧I (step a x) (i+1))
 (h3:∀a,I a s.length→body (mk a s.length)=some (.dR (tt a))) {F:Nat} {a:A} (hF:s.length<F) (h0:I a 0):
 iter body F (mk a 0)=some (.inr (tt (s.foldl step a)))∧I (s.foldl step a) s.length:=by
 have key:∀(r:List α) (a:A),xp (ρ:=ρ) (fun a x=> .ok (step a x)) a r= .ok (r.foldl step a):=by
  intro r
  induction r with
  |nil=>intro a;rfl
  |cons x r ih=>intro a;simp only [xp,List.foldl_cons];exact ih _
 have:=lp (s:=s) (body:=body) (mk:=mk) (step:=fun a x=> .ok (step a x)) (tt:=tt) I (fun a i x hx h=>h1 a i x hx h) h3 hF h0
 rw [key] at this
 exact ⟨this.1,this.2 _ rfl⟩
theorem ad7 {a b:Int} (h0:0≤a) (h1:a≤4000000000000000000) (h2:0≤b) (h3:b≤4000000000000000000):IntKind.wrap .i64 (a+b)=a+b:=wr (by omega) (by omega)
theorem Vm {n:Nat} (h:n≤1000000000):IntKind.wrap .i64 ((n:Int)+1)=((n+1:Nat):Int):=by rw [wr (by omega) (by omega)];simp
theorem aa4 {α ρ τ σ:Type} {s:List α} {body:σ→Option (St ρ τ σ)} {mk:Nat→σ} {p:α→Bool} {rr:Nat→ρ} {tt:τ}
 (h1:∀i x,s[i]? =some x→p x=true→body (mk i)=some (.cY (mk (i+1)))) (h2:∀i x,s[i]? =some x→p x=false→body (mk i)=some (.ret (rr i)))
 (h3:body (mk s.length)=some (.dR tt)) {F:Nat} (hF:s.length<F):
 (s.all p=true→iter body F (mk 0)=some (.inr tt))∧(s.all p=false→∃j,iter body F (mk 0)=some (.inl (rr j))):=by
 suffices h:∀(r:List α) (i F:Nat),s.drop i=r→i+r.length=s.length→r.length<F→
  (r.all p=true→iter body F (mk i)=some (.inr tt))∧(r.all p=false→∃j,iter body F (mk i)=some (.inl (rr j))) from h s 0 F rfl (by simp) hF
 intro r
 induction r with
 |nil=>
  intro i F hd hl hF
  obtain ⟨G,rfl⟩:=c6 hF
  have:i=s.length:=by simpa using hl
  subst this
  exact ⟨fun _=>cI h3,fun h=>by simp at h⟩
 |cons x r ih=>
  intro i F hd hl hF
  obtain ⟨G,rfl⟩:=c6 hF
  obtain ⟨hi,hx,hr⟩:=drop_cons hd
  simp only [List.length_cons] at hl hF
  cases hp:p x with
  |true=>
   rw [eg (h1 i x hx hp)]
   simp only [List.all_cons,hp,Bool.true_and]
   exact ih (i+1) G hr (by omega) (by omega)
  |false=>
   rw [fM (h2 i x hx hp)]
   simp only [List.all_cons,hp,Bool.false_and]
   exact ⟨fun h=>by simp at h,fun _=>⟨i,rfl⟩⟩
end Go.Am
end
section
set_option maxRecDepth 100000
namespace Go.Proofs.dO
open Go Go.Am Go.Proofs
def low (c:UInt8):UInt8:=if (decide (65≤c)&&decide (c≤90))=true then c+32 else c
def Bf (s:List UInt8) (i:Nat):List UInt8:=(s.map low).take i++s.drop i
theorem Dm {s:List UInt8} {i:Nat} (hi:i≤s.length) (j:Nat):(Bf s i)[j]? =if j<i then (s.map low)[j]? else s[j]? :=by
 unfold Bf
 have hl:((s.map low).take i).length=i:=by simp;omega
 by_cases h:j<i
 · rw [if_pos h,List.getElem?_append_left (by omega),List.getElem?_take_of_lt h]
 · rw [if_neg h,List.getElem?_append_right (by omega),hl,List.getElem?_drop]
   congr 1;omega
theorem IE {s:List UInt8} {i:Nat} (hi:i≤s.length):(Bf s i).length=s.length:=by
 unfold Bf;simp;omega
theorem OA {s:List UInt8} {i:Nat} (hi:i<s.length) {c:UInt8} (hc:s[i]? =some c):(Bf s i).set i (low c)=Bf s (i+1):=by
 apply List.ext_getElem?
 intro j
 rw [List.getElem?_set,Dm (by omega),Dm (by omega),IE (by omega)]
 by_cases h:i=j
 · subst h
   rw [if_pos rfl,if_pos hi,if_pos (by omega),List.getElem?_map,hc];rfl
 · rw [if_neg h]
   by_cases h2:j<i
   · rw [if_pos h2,if_pos (by omega)]
   · rw [if_neg h2,if_neg (by omega)]
theorem Ya (s:List UInt8):Bf s s.length=s.map low:=by
 unfold Bf;rw [List.drop_length,List.append_nil,List.take_of_length_le (by simp)]
theorem Yb (c:UInt8) (h:(decide (65≤c)&&decide (c≤90))=true):c ||| 32=low c:=by
 have:=fU (p:=fun c=> !(decide (65≤c)&&decide (c≤90))||(c ||| 32==low c)) (by kernel_rfl) c
 rw [h] at this
 simpa using this
theorem Yc {n i:Nat} (h:i<n):Bq n (i:Int)=some i:=by unfold Bq;rw [if_pos (by omega)];simp
theorem Vn {xs:List UInt8} {j:Nat} {c:UInt8} (h:j<xs.length):Gl xs j c=some (xs.set j c):=by unfold Gl;rw [if_pos h]
theorem Yd {s:List UInt8} {i:Nat} {c:UInt8} (hi:i<s.length) (hc:s[i]? =some c) (h:¬(decide (65≤c)&&decide (c≤90))=true):Bf s i=Bf s (i+1):=by
 rw [←OA hi hc]
 have hl:low c=c:=by unfold low;rw [if_neg h]
 rw [hl]
 apply List.ext_getElem?
 intro j
 rw [List.getElem?_set,Dm (by omega),IE (by omega)]
 by_cases h:i=j
 · subst h;rw [if_pos rfl,if_pos hi,if_neg (by omega),hc]
 · rw [if_neg h]
theorem aa5 {s:List UInt8} {F:Nat} (hs:s.length≤2100) (hF:s.length<F):fP F s=some (s.map low):=by
 have Np:∀(m i G:Nat),i+m=s.length→m<G→iter (fy s) G ((i:Int),Bf s i)=some (.inr (s.map low)):=by
  intro m
  induction m with
  |zero=>
   intro i G hi hG
   obtain ⟨G,rfl⟩:=c6 hG
   have:i=s.length:=by omega
   subst this
   rw [←Ya s]
   exact cI (by simp only [fy];rw [if_neg (by simp)])
  |succ m ih=>
   intro i G hi hG
   obtain ⟨G,rfl⟩:=c6 (show 0<G by omega)
   have hil:i<s.length:=by omega
   have hc:s[i]? =some s[i]:=List.getElem?_eq_getElem hil
   have hst:fy s ((i:Int),Bf s i)=some (.cY (((i+1:Nat):Int),Bf s (i+1))):=by
    simp only [fy]
    rw [if_pos (by simpa using hil),Yc hil,Option.bind_some,Dm (by omega),if_neg (by omega),hc,Option.bind_some,wi (by omega)]
    by_cases h:(decide (65≤s[i])&&decide (s[i]≤90))=true
    · rw [if_pos h,Vn (by rw [IE (by omega)];exact hil),Yb _ h,OA hil hc];rfl
    · rw [if_neg h,Yd hil hc h]
   rw [eg hst]
   exact ih (i+1) G (by omega) (by omega)
 unfold fP
 rw [show ((0:Int),s)=(((0:Nat):Int),Bf s 0) by simp [Bf],Np s.length 0 F (by omega) hF]
 simp only [Option.bind_some]
 rw [Ix (j:=s.length) (by simp),List.take_of_length_le (by simp)]
 rfl
def cg (sep:List UInt8):List UInt8→Option (List UInt8×List UInt8)
 |[]=>none
 |c::r=>if sep.isPrefixOf (c::r) then some ([],(c::r).drop sep.length) else (cg sep r).map fun p=>(c::p.1,p.2)
theorem RI {sep:List UInt8} (hs:sep≠[]):∀s:List UInt8,(cg sep s=none∧Lib.index s sep= -1)∨∃i:Nat,Lib.index s sep=(i:Int)∧cg sep s=some (s.take i,s.drop (i+sep.length)):=by
 intro s
 induction s with
 |nil=>left;exact ⟨rfl,by unfold Lib.index;cases sep with|nil=>exact absurd rfl hs|cons=>rfl⟩
 |cons c r ih=>
  unfold Lib.index cg
  by_cases hp:sep.isPrefixOf (c::r)=true
  · right;exact ⟨0,by rw [if_pos hp];rfl,by rw [if_pos hp];simp⟩
  · rw [if_neg hp,if_neg hp]
    rcases ih with ⟨h1,h2⟩|⟨i,h1,h2⟩
    · left;rw [h1,h2];simp
    · right
      refine ⟨i+1, ?_, ?_⟩
      · rw [h1,if_neg (by simp<;>omega)];simp
      · rw [h2];simp [List.take_succ_cons,Nat.add_right_comm]
theorem Ye {sep:List UInt8} (hs:sep≠[]) (s:List UInt8):Lib.cut s sep=match cg sep s with|some (a,b)=>(a,b,true)|none=>(s,[],false):=by
 unfold Lib.cut
 rcases RI hs s with ⟨h1,h2⟩|⟨i,h1,h2⟩
 · rw [h1,h2,if_neg (by omega)]
 · rw [h2,h1,if_pos (by omega)];simp
theorem Yf {s sep:List UInt8} (hs:sep≠[]) (hl:s.length≤1000000000):strings_Cut s sep=some (match cg sep s with|some (a,b)=>(a,b,true)|none=>(s,[],false)):=by
 unfold strings_Cut
 rw [if_pos (by omega),Ye hs]
end Go.Proofs.dO
end
section
set_option maxRecDepth 100000
namespace Go.Proofs.dO
open Go Go.Am Go.Proofs
def nb (c:UInt8):Bool:= !decide (c=32)
theorem RJ:∀t:List UInt8,cg [32] t=if t.dropWhile nb=[] then none else some (t.takeWhile nb,(t.dropWhile nb).drop 1):=by
 intro t
 induction t with
 |nil=>rfl
 |cons c r ih=>
  by_cases h:c=32
  · subst h;simp [cg,nb,List.dropWhile,List.takeWhile,List.isPrefixOf]
  · have h1:([32]:List UInt8).isPrefixOf (c::r)=false:=by simp [List.isPrefixOf,Ne.symm h]
    have h2:nb c=true:=by simp [nb,h]
    rw [cg,h1,ih]
    simp only [Bool.false_eq_true,if_false,List.dropWhile_cons,List.takeWhile_cons,h2,if_true]
    split<;>rfl
theorem NB {t:List UInt8} (h:t.length≤1000000000):strings_Cut t [32]=some (t.takeWhile nb,(t.dropWhile nb).drop 1,decide (t.dropWhile nb≠[])):=by
 rw [Yf (by simp) h,RJ]
 by_cases hd:t.dropWhile nb=[]
 · rw [if_pos hd]
   have:=List.takeWhile_append_dropWhile (p:=nb) (l:=t)
   rw [hd,List.append_nil] at this
   simp [hd,this]
 · rw [if_neg hd];simp [hd]
theorem RL {t:List UInt8}:sub t ((t.takeWhile nb).length:Int) (t.length:Int)=some (t.dropWhile nb):=by
 have h:(t.takeWhile nb).length≤t.length:=(List.takeWhile_prefix nb).length_le
 rw [qA h]
 have:=List.takeWhile_append_dropWhile (p:=nb) (l:=t)
 conv=>lhs;rw [←this]
 rw [List.drop_append];simp
def wl:Nat→List UInt8
 |1=>[104,101,108,111]|2=>[101,104,108,111]|3=>[109,97,105,108]|4=>[114,99,112,116]|5=>[100,97,116,97]
 |6=>[114,115,101,116]|7=>[110,111,111,112]|8=>[113,117,105,116]|9=>[118,114,102,121]|_=>[]
def wu:Nat→List UInt8
 |1=>[72,69,76,79]|2=>[69,72,76,79]|3=>[77,65,73,76]|4=>[82,67,80,84]|5=>[68,65,84,65]
 |6=>[82,83,69,84]|7=>[78,79,79,80]|8=>[81,85,73,84]|9=>[86,82,70,89]|_=>[]
def yq (s:List UInt8):Nat→Nat→Option Nat
 |0,_=>none
 |n+1,k=>if wl k=s then some k else yq s n (k+1)
def fA (s:List UInt8):Nat:=(yq s 9 1).getD 0
theorem Yg {s:List UInt8} {body:Int×Int→Option (St Int Unit (Int×Int))}
 (h:∀k:Nat,1≤k→k≤9→body (0,(k:Int))=some (if wl k=s then .ret (k:Int) else .cY (0,((k+1:Nat):Int)))) (he:body (0,10)=some (.dR ())):
 ∀(n k G:Nat),k+n=10→1≤k→n<G→iter body G (0,(k:Int))=some (match yq s n k with|some j=> .inl (j:Int)|none=> .inr ()):=by
 intro n
 induction n with
 |zero=>
  intro k G hk h1 hG
  obtain ⟨G,rfl⟩:=c6 hG
  obtain rfl:k=10:=by omega
  exact cI he
 |succ n ih=>
  intro k G hk h1 hG
  obtain ⟨G,rfl⟩:=c6 hG
  have hb:=h k h1 (by omega)
  by_cases hw:wl k=s
  · rw [if_pos hw] at hb
    rw [fM hb];simp [yq,hw]
  · rw [if_neg hw] at hb
    rw [eg hb,ih (k+1) G (by omega) (by omega) (by omega)]
    simp [yq,hw]
theorem Vo {s:List UInt8}:∀(n k j:Nat),yq s n k=some j→k≤j∧j<k+n:=by
 intro n
 induction n with
 |zero=>intro k j h;cases h
 |succ n ih=>
  intro k j h
  unfold yq at h
  split at h
  · injection h with h;omega
  · have:=ih _ _ h;omega
theorem RM (s:List UInt8):fA s≤9:=by
 unfold fA
 cases h:yq s 9 1 with
 |none=>simp
 |some j=>have:=Vo _ _ _ h;simp;omega
theorem OB {p:Nat→Prop} (h:p 1∧p 2∧p 3∧p 4∧p 5∧p 6∧p 7∧p 8∧p 9) {k:Nat} (h1:1≤k) (h2:k≤9):p k:=by
 obtain ⟨a1,a2,a3,a4,a5,a6,a7,a8,a9⟩:=h
 have:k=1∨k=2∨k=3∨k=4∨k=5∨k=6∨k=7∨k=8∨k=9:=by omega
 rcases this with rfl|rfl|rfl|rfl|rfl|rfl|rfl|rfl|rfl<;>assumption
abbrev Z:aF:=aF.mk 0 ([]:List UInt8) (aB.mk ([]:List UInt8) ([]:List UInt8)) 0
abbrev A0:aB:=aB.mk ([]:List UInt8) ([]:List UInt8)
def gi (w s:List UInt8):Bool:=decide (w.length≤s.length)&&decide ((s.take w.length).map low=w)
abbrev nR:List UInt8:=[32,102,114,111,109,58]
abbrev IF:List UInt8:=[32,116,111,58]
abbrev B5:List UInt8:=[32,115,105,122,101,61]
def blk (c:UInt8):Bool:=c==32
def uo (w s:List UInt8):aB×List UInt8×Bool:=
 if gi w s then ((jx ((s.drop w.length).dropWhile blk)).1,(jx ((s.drop w.length).dropWhile blk)).2.1,decide ((jx ((s.drop w.length).dropWhile blk)).2.2=0)) else (A0,[],false)
def xq (s:List UInt8):Option Nat:=if gi B5 s=true∧s.drop 6≠[]∧(s.drop 6).length≤9∧(s.drop 6).all fZ=true then some (vE (s.drop 6)) else none
def zO (s:List UInt8):aF×Int:=
 if (uo nR s).2.2=true then
  (if (uo nR s).2.1=[] then (aF.mk 3 [] (uo nR s).1 (-1),0)
  else if (uo nR s).2.1.head?=some 32 then (match xq (uo nR s).2.1 with|some n=>(aF.mk 3 [] (uo nR s).1 (n:Int),0)|none=>(Z,555))
  else (Z,501)) else (Z,501)
def E1 (s:List UInt8):aF×Int:=
 if (uo IF s).2.2=true∧eG (uo IF s).1=false then
  (if (uo IF s).2.1=[] then (aF.mk 4 [] (uo IF s).1 0,0)
  else if (uo IF s).2.1.head?=some 32 then (Z,555) else (Z,501)) else (Z,501)
def fI (s:List UInt8):List UInt8:=(s.reverse.dropWhile blk).reverse
def gP (k:Nat) (rest:List UInt8):aF×Int:=
 if k=0 then (Z,500) else if k=3 then zO rest else if k=4 then E1 rest else
 if k=1∨k=2 then (if jN (rest.drop 1)=true then (aF.mk k (rest.drop 1) A0 0,0) else (Z,501)) else
 if k=5∨k=6∨k=8 then (if rest=[] then (aF.mk k [] A0 0,0) else (Z,501)) else
 if k=9∧rest=[] then (Z,501) else (aF.mk k (rest.drop 1) A0 0,0)
def E2 (s:List UInt8):aF×Int:=
 if s.all bR=true then gP (fA (((fI s).takeWhile nb).map low)) ((fI s).dropWhile nb) else (Z,500)
theorem RN (s:List UInt8):Lib.trimRightB s 32=fI s:=rfl
theorem NC (s:List UInt8):(fI s).length≤s.length:=by
 unfold fI
 have:=(List.dropWhile_suffix (l:=s.reverse) blk).length_le
 simpa using this
theorem KS (t:List UInt8):(t.dropWhile nb).length≤t.length:=(List.dropWhile_suffix nb).length_le
theorem KT {s:List UInt8}:fI s=[]∨∃u c,fI s=u++[c]∧c≠32:=by
 unfold fI
 cases h:s.reverse.dropWhile blk with
 |nil=>left;rfl
 |cons c r=>
  right
  refine ⟨r.reverse,c,by simp, ?_⟩
  have:=List.head?_dropWhile_not blk s.reverse
  rw [h] at this
  simpa [blk] using this
theorem Vp {s:List UInt8} (h:(fI s).dropWhile nb≠[]):((fI s).dropWhile nb).drop 1≠[]:=by
 intro h1
 cases hd:(fI s).dropWhile nb with
 |nil=>exact h hd
 |cons c r=>
  rw [hd] at h1
  simp at h1
  subst h1
  have hc:c=32:=by
   have:=List.head?_dropWhile_not nb (fI s)
   rw [hd] at this
   simpa [nb] using this
  subst hc
  have KU:=List.takeWhile_append_dropWhile (p:=nb) (l:=fI s)
  rw [hd] at KU
  rcases KT (s:=s) with h2|⟨u,c,h2,h3⟩
  · rw [h2] at KU;simp at KU
  · rw [h2] at KU
    have:=congrArg List.getLast? KU
    simp at this
    exact h3 this.symm
theorem aa6 {t:List UInt8} (h:t.dropWhile nb≠[]):∃r,t.dropWhile nb=32::r:=by
 cases hd:t.dropWhile nb with
 |nil=>exact absurd hd h
 |cons c r=>
  have:=List.head?_dropWhile_not nb t
  rw [hd] at this
  have hc:c=32:=by simpa [nb] using this
  exact ⟨r,by rw [hc]⟩
theorem IG:∀(l:List UInt8) (a:Nat),l.all fZ=true→Lib.decFrom a l=some (l.foldl (fun a c=>10*a+(c.toNat - 48)) a):=by
 intro l
 induction l with
 |nil=>intro a _;rfl
 |cons c r ih=>
  intro a h
  simp only [List.all_cons,Bool.and_eq_true] at h
  have hc:48≤c.toNat∧c.toNat≤57:=by
   have:=h.1
   unfold fZ at this
   simp only [Bool.and_eq_true,decide_eq_true_eq] at this
   exact ⟨this.1,this.2⟩
  rw [Lib.decFrom,Lib.digitVal,if_pos hc]
  simp only
  rw [ih _ h.2]
  simp only [List.foldl_cons]
  rw [Nat.mul_comm a 10]
theorem RO {d:List UInt8} (h0:d≠[]) (h1:d.length≤18) (h2:d.all fZ=true):Lib.atoiAll d= .ok (vE d:Int):=by
 rw [Lib.atoiAll_short d h1]
 cases d with
 |nil=>exact absurd rfl h0
 |cons c r=>
  have hd:=IG (c::r) 0 h2
  simp only [List.all_cons,Bool.and_eq_true] at h2
  have hc:48≤c.toNat:=by
   have:=h2.1
   unfold fZ at this
   simp only [Bool.and_eq_true,decide_eq_true_eq] at this
   exact this.1
  have e1:(c==45)=false:=by
   rw [beq_eq_false_iff_ne];rintro rfl;revert hc;decide
  have e2:(c==43)=false:=by
   rw [beq_eq_false_iff_ne];rintro rfl;revert hc;decide
  unfold Lib.atoi Lib.decNat
  simp only [e1,e2,Bool.false_eq_true,if_false,List.isEmpty_cons,hd]
  rfl
theorem ac1:∀(l:List UInt8) (a:Nat),l.all fZ=true→l.foldl (fun a c=>10*a+(c.toNat - 48)) a<(a+1)*10 ^ l.length:=by
 intro l
 induction l with
 |nil=>intro a _;simp
 |cons c r ih=>
  intro a h
  simp only [List.all_cons,Bool.and_eq_true] at h
  have hc:c.toNat≤57:=by
   have:=h.1
   unfold fZ at this
   simp only [Bool.and_eq_true,decide_eq_true_eq] at this
   exact this.2
  simp only [List.foldl_cons,List.length_cons]
  have:=ih (10*a+(c.toNat - 48)) h.2
  refine Nat.lt_of_lt_of_le this ?_
  have e:(a+1)*10 ^ (r.length+1)=(10*a+10)*10 ^ r.length:=by rw [Nat.pow_succ];rw [Nat.mul_comm (10 ^ r.length) 10, ←Nat.mul_assoc];congr 1;omega
  rw [e]
  exact Nat.mul_le_mul_right _ (by omega)
theorem OC {q:UInt8→Bool}:∀ {l:List UInt8},l.dropWhile q=[]↔∀c∈l,q c=true:=by
 intro l
 induction l with
 |nil=>simp
 |cons c r ih=>
  by_cases h:q c=true
  · simp [List.dropWhile_cons,h,ih]
  · simp [List.dropWhile_cons,h]
theorem Yh {q:UInt8→Bool}:∀ {l:List UInt8},∀c∈l.takeWhile q,q c=true:=by
 intro l
 induction l with
 |nil=>intro c h;cases h
 |cons d r ih=>
  intro c h
  by_cases hd:q d=true
  · simp only [List.takeWhile_cons,hd,if_true,List.mem_cons] at h
    rcases h with rfl|h
    · exact hd
    · exact ih c h
  · simp only [List.takeWhile_cons,hd] at h;cases h
theorem E3 {d:List UInt8}:Lib.trimS d j0=[]↔d.all fZ=true:=by
 have hD:∀c:UInt8,j0.contains c=fZ c:=by
  intro c
  have:=fU (p:=fun c=>decide (j0.contains c=fZ c)) (by decide) c
  simpa using this
 have h1:Lib.trimS d j0=((d.reverse.dropWhile fZ).reverse).dropWhile fZ:=by
  unfold Lib.trimS Lib.trimLeftS Lib.trimRightS
  have:(fun x=>j0.contains x)=fZ:=funext hD
  simp only [this]
 rw [h1]
 constructor
 · intro h
   rw [OC] at h
   rw [List.all_eq_true]
   intro c hc
   have hsp:=List.takeWhile_append_dropWhile (p:=fZ) (l:=d.reverse)
   have hm:c∈d.reverse:=by simpa using hc
   rw [←hsp,List.mem_append] at hm
   rcases hm with hm|hm
   · exact Yh c hm
   · exact h c (by simpa using hm)
 · intro h
   have:d.reverse.dropWhile fZ=[]:=by
    rw [OC]
    intro c hc
    exact List.all_eq_true.1 h c (by simpa using hc)
   rw [this];rfl
end Go.Proofs.dO
end
section
set_option maxRecDepth 100000
namespace Go.Proofs.dO
open Go Go.Am Go.Proofs
theorem II {s:List UInt8} {F:Nat} (hs:s.length≤2100) (hF:s.length<F):fP F s=some (s.map low):=aa5 hs hF
theorem Yi:∀k:Nat,1≤k→k≤9→oE (k:Int)=some (wu k):=fun k h1 h2=>
 OB (p:=fun k=>oE (k:Int)=some (wu k)) (by decide) h1 h2
theorem Yj:∀k:Nat,1≤k→k≤9→(wu k).map low=wl k∧(wu k).length=4:=fun k h1 h2=>
 OB (p:=fun k=>(wu k).map low=wl k∧(wu k).length=4) (by decide) h1 h2
theorem Yk {s:List UInt8} {F:Nat} (hF:20≤F):tw F s=some (fA s:Int):=by
 unfold tw fA
 have:=Yg (s:=s) (body:=iZ F s) ?_ ?_ 9 1 F rfl (by omega) (by omega)
 · rw [show ((0:Int),(1:Int))=(0,((1:Nat):Int)) from rfl,this]
   cases yq s 9 1 with
   |none=>rfl
   |some j=>rfl
 · intro k h1 h2
   obtain ⟨e1,e2⟩:=Yj k h1 h2
   simp only [iZ]
   rw [if_pos (by simp;omega),Yi k h1 h2]
   simp only [Option.bind_some]
   rw [II (by omega) (by omega),e1]
   simp only [Option.bind_some]
   by_cases h:wl k=s
   · simp [h]
   · rw [if_neg (by simpa using h),if_neg h,Vm (by omega)]
 · simp only [iZ]
   rw [if_neg (by decide)]
theorem Vq {s:List UInt8}:fO s [32]=some (s.dropWhile blk):=by
 unfold fO;rw [if_pos rfl];rfl
theorem Vr {s:List UInt8} (h:s.length≤1000000000):fq s [32]=some (fI s):=by
 unfold fq;rw [if_pos ⟨rfl,h⟩,RN]
theorem Vs {w s:List UInt8} {F:Nat} (hw:w.length≤100) (hF:200<F):kG F s w=some (!gi w s):=by
 unfold kG gi
 by_cases h:s.length<w.length
 · rw [if_pos (by simp;omega)]
   simp [show ¬w.length≤s.length by omega]
 · rw [if_neg (by simp;omega),Ix (by omega)]
   simp only [Option.bind_some]
   rw [II (by simp;omega) (by simp;omega)]
   simp [show w.length≤s.length by omega]
theorem OD {w s:List UInt8} {F:Nat} (hw:w.length≤100) (hs:s.length≤3000) (hF:7000<F):oF F s w=some (uo w s):=by
 unfold oF uo
 rw [Vs hw (by omega)]
 simp only [Option.bind_some]
 cases h:gi w s with
 |false=>simp
 |true=>
  have hl:w.length≤s.length:=by
   unfold gi at h;simp only [Bool.and_eq_true,decide_eq_true_eq] at h;exact h.1
  simp only [Bool.not_true,Bool.false_eq_true,if_false,if_true]
  rw [qA hl]
  simp only [Option.bind_some]
  rw [Vq]
  simp only [Option.bind_some]
  have h1:=IC blk (s.drop w.length)
  have h2:(s.drop w.length).length≤s.length:=by simp
  rw [Vi (by omega) (by omega)]
  rfl
theorem Yl {s:List UInt8} {F:Nat} (hs:s.length≤3000) (hF:7000<F):∃n,tK F s=some (n,(xq s).isSome)∧∀v,xq s=some v→n=(v:Int):=by
 unfold tK xq
 have h1:kH F s=some (!gi B5 s):=by
  unfold kH gi
  by_cases h:s.length<6
  · rw [if_pos (by simp;omega)]
    simp [show ¬6≤s.length by omega]
  · rw [if_neg (by simp;omega),show (6:Int)=((6:Nat):Int) from rfl,Ix (by omega)]
    simp only [Option.bind_some]
    rw [II (by simp;omega) (by simp;omega)]
    simp [show 6≤s.length by omega]
 rw [h1]
 simp only [Option.bind_some]
 cases h:gi B5 s with
 |false=>exact ⟨0,by simp,by simp⟩
 |true=>
  have hl:6≤s.length:=by
   unfold gi at h;simp only [Bool.and_eq_true,decide_eq_true_eq] at h;simpa using h.1
  simp only [Bool.not_true,Bool.false_eq_true,if_false]
  rw [show (6:Int)=((6:Nat):Int) from rfl,qA hl]
  simp only [Option.bind_some]
  generalize hd:s.drop 6=d
  have Nu:d.length≤3000:=by rw [←hd];simp;omega
  unfold strconv_Atoi
  rw [if_pos (by omega)]
  simp only [Option.bind_some]
  unfold oh
  by_cases hg:d≠[]∧d.length≤9∧d.all fZ=true
  · obtain ⟨g1,g2,g3⟩:=hg
    rw [RO g1 (by omega) g3]
    simp only [Bool.not_false,if_true]
    unfold ig
    rw [if_pos (by simp;omega),if_pos ⟨rfl,by omega⟩]
    simp only [Option.bind_some]
    rw [E3.2 g3,if_pos ⟨trivial,g1,g2,g3⟩]
    exact ⟨_,rfl,fun v hv=>by injection hv with hv;rw [hv]⟩
  · have hn:¬(True∧d≠[]∧d.length≤9∧d.all fZ=true):=fun h=>hg h.2
    simp only [if_neg hn]
    have key:∀n:Int,∃m:Int,((if decide ((d.length:Int)≤9)=true then (ig d ([48,49,50,51,52,53,54,55,56,57]:List UInt8)).bind fun r9=>some (n,(decide (r9=([]:List UInt8)))) else some (n,false)):Option (Int×Bool))=
     some (m,decide (d=[])&&decide (d.length≤9)):=by
     intro n
     by_cases h9:d.length≤9
     · rw [if_pos (by simp;omega)]
       unfold ig
       rw [if_pos ⟨rfl,by omega⟩]
       simp only [Option.bind_some]
       refine ⟨n, ?_⟩
       congr 2
       rw [Bool.eq_iff_iff]
       simp only [decide_eq_true_eq,Bool.and_eq_true]
       rw [E3]
       constructor
       · intro h3
         refine ⟨?_,h9⟩
         rcases Classical.em (d=[]) with h0|h0
         · exact h0
         · exact absurd ⟨h0,h9,h3⟩ hg
       · rintro ⟨rfl, -⟩;rfl
     · rw [if_neg (by simp;omega)]
       exact ⟨n,by simp [h9]⟩
    rcases yz:Lib.atoiAll d with v|_|_
    · simp only [Bool.not_false,if_true]
      obtain ⟨m,hm⟩:=key v
      rw [hm]
      have hd0:d≠[]:=by
       rintro rfl;rw [show Lib.atoiAll []=Go.Lib.NumEnd.syntax from rfl] at yz;cases yz
      exact ⟨m,by simp [hd0],fun v h=>by cases h⟩
    · simp only [Bool.not_true,Bool.false_eq_true,if_false]
      exact ⟨_,rfl,fun v h=>by cases h⟩
    · simp only [Bool.not_true,Bool.false_eq_true,if_false]
      exact ⟨_,rfl,fun v h=>by cases h⟩
theorem Vt {w s:List UInt8}:(uo w s).2.1.length≤s.length:=by
 unfold uo
 split
 · have h1:=IC blk (s.drop w.length)
   have h2:(s.drop w.length).length≤s.length:=by simp
   have:((jx ((s.drop w.length).dropWhile blk)).2.1).length≤((s.drop w.length).dropWhile blk).length:=by
    generalize (s.drop w.length).dropWhile blk=t
    unfold jx
    cases h:B3 t with
    |none=>simp
    |some p=>
     obtain ⟨a,rest⟩:=p
     have:rest.length≤t.length:=by
      unfold B3 at h
      split at h
      · split at h
        · injection h with h;injection h with _ h;rw [←h];simp
        · have hb:=h
          unfold yp at hb
          cases hr:oA (t.drop 1) with
          |none=>rw [hr] at hb;cases hb
          |some r1=>
           rw [hr] at hb
           have l1:=Cw hr
           simp only at hb
           cases hl:kS r1 with
           |none=>rw [hl] at hb;cases hb
           |some p=>
            obtain ⟨l,r2⟩:=p
            rw [hl] at hb
            have l2:=(Cu hl).2
            simp only at hb
            split at hb
            · cases hd:gy (r2.drop 1) with
              |none=>rw [hd] at hb;cases hb
              |some p=>
               obtain ⟨d,r3⟩:=p
               rw [hd] at hb
               have l3:=uZ hd
               simp only at hb
               split at hb
               · injection hb with hb;injection hb with _ hb
                 rw [←hb];simp at l1 l3 ⊢;omega
               · cases hb
            · cases hb
      · cases h
     simp only
     split
     · exact this
     · simp
   show (jx _).2.1.length≤s.length
   omega
 · simp
theorem Ym {s:List UInt8} {F:Nat} (hs:s.length≤3000) (hF:7000<F):tL F s=some (zO s):=by
 unfold tL zO
 rw [OD (by decide) hs hF]
 simp only [Option.bind_some]
 have hl:=Vt (w:=nR) (s:=s)
 generalize uo nR s=p at hl ⊢
 obtain ⟨a,r,ok⟩:=p
 simp only at hl ⊢
 unfold om oq
 by_cases h0:r=[]
 · subst h0
   cases ok<;>simp
 · obtain ⟨n,h1,h2⟩:=Yl (s:=r) (F:=F) (by omega) hF
   rw [if_pos (by simpa using h0),h1]
   simp only [Option.bind_some]
   cases ok with
   |false=>simp
   |true=>
    cases r with
    |nil=>exact absurd rfl h0
    |cons c t=>
     rw [show idx (c::t) 0=some c by simp [idx]]
     by_cases hc:c=32
     · subst hc
       cases hz:xq (32::t) with
       |none=>simp
       |some v=>simp [h2 v hz]
     · simp [hc]
theorem Yn {s:List UInt8} {F:Nat} (hs:s.length≤3000) (hF:7000<F):tN F s=some (E1 s):=by
 unfold tN E1
 rw [OD (by decide) hs hF]
 simp only [Option.bind_some]
 generalize uo IF s=p
 obtain ⟨a,r,ok⟩:=p
 simp only
 unfold ot
 cases ok with
 |false=>simp
 |true=>
  cases hn:eG a with
  |true=>
   have hn2:=hn
   unfold eG at hn2
   rw [hn2];simp
  |false=>
   have hn2:=hn
   unfold eG at hn2
   rw [hn2]
   cases r with
   |nil=>simp
   |cons c t=>
    rw [show idx (c::t) 0=some c by simp [idx]]
    by_cases hc:c=32
    · simp [hc]
    · simp [hc]
theorem Vu (x:UInt8):(if decide (x<32)=true then some true else some (decide (126<x)))=some (!bR x):=by
 have:=fU (p:=fun x=>decide ((if decide (x<32)=true then some true else some (decide (126<x)))=some (!bR x))) (by kernel_rfl) x
 simpa using this
theorem Yo {s:List UInt8} {F:Nat} (hs:s.length≤100000) (hF:s.length<F):iter (fh s) F (0,Z)=some (if s.all bR=true then .inr Z else .inl (Z,500)):=by
 have hh:=aa4 (s:=s) (body:=fh s) (mk:=fun i=>((i:Int),Z)) (p:=bR) (rr:=fun _=>(Z,500)) (tt:=Z) ?_ ?_ ?_ hF
 · cases h:s.all bR with
   |true=>have:=hh.1 h;simpa using this
   |false=>obtain ⟨_,this⟩:=hh.2 h;simpa using this
 · intro i c hc hp
   have hi:=(List.getElem?_eq_some_iff.1 hc).1
   simp only [fh,jL]
   rw [if_pos (by simpa using hi),cT hc]
   simp only [Option.bind_some]
   rw [Vu c]
   simp only [Option.bind_some,hp,Bool.not_true,Bool.false_eq_true,if_false]
   rw [Vm (by omega)]
 · intro i c hc hp
   have hi:=(List.getElem?_eq_some_iff.1 hc).1
   simp only [fh,jL]
   rw [if_pos (by simpa using hi),cT hc]
   simp only [Option.bind_some]
   rw [Vu c]
   simp [hp]
 · simp only [fh]
   rw [if_neg (by simp)]
theorem kT {s:List UInt8} {F:Nat} (hs:s.length≤2050) (hF:7000<F):cZ F s=some (E2 s):=by
 unfold cZ E2
 rw [Yo (by omega) (by omega)]
 simp only [Option.bind_some]
 cases hv:s.all bR with
 |false=>simp
 |true=>
  simp only [if_true]
  have ht:=NC s
  rw [Vr (by omega)]
  simp only [Option.bind_some]
  rw [NB (by omega)]
  simp only [Option.bind_some]
  have hw:((fI s).takeWhile nb).length≤(fI s).length:=(List.takeWhile_prefix nb).length_le
  have hd:=KS (fI s)
  rw [II (by omega) (by omega)]
  simp only [Option.bind_some]
  rw [Yk (by omega)]
  simp only [Option.bind_some]
  rw [RL]
  simp only [Option.bind_some]
  have hk:=RM (((fI s).takeWhile nb).map low)
  have hne:=Vp (s:=s)
  generalize fA (((fI s).takeWhile nb).map low)=k at hk ⊢
  generalize hr:(fI s).dropWhile nb=r at hd hne ⊢
  unfold gP
  by_cases h0:k=0
  · subst h0;simp
  · rw [if_neg (by simp;omega),if_neg h0]
    by_cases h3:k=3
    · subst h3
      rw [if_pos (by simp),if_pos rfl,Ym (by omega) hF];rfl
    · rw [if_neg (by simp;omega),if_neg h3]
      by_cases h4:k=4
      · subst h4
        rw [if_pos (by simp),if_pos rfl,Yn (by omega) hF];rfl
      · rw [if_neg (by simp;omega),if_neg h4]
        have Vv:gN F (r.drop 1)=some (jN (r.drop 1)):=U6 (by simp;omega) (by simp;omega)
        have Vw:r.drop 1=[]↔r=[]:=⟨fun h=>Classical.byContradiction fun h2=>hne h2 h,fun h=>by rw [h];rfl⟩
        unfold lT lV lU
        clear hne hd
        generalize r.drop 1=q at Vv Vw ⊢
        have hk9:k=1∨k=2∨k=5∨k=6∨k=7∨k=8∨k=9:=by omega
        rcases hk9 with rfl|rfl|rfl|rfl|rfl|rfl|rfl
        · simp [Vv];cases jN q<;>simp
        · simp [Vv];cases jN q<;>simp
        · by_cases ID:r=[]<;>simp [ID,Vw]
        · by_cases ID:r=[]<;>simp [ID,Vw]
        · simp
        · by_cases ID:r=[]<;>simp [ID,Vw]
        · by_cases ID:r=[]<;>simp [ID,Vw]
end Go.Proofs.dO
end
section
set_option maxRecDepth 100000
namespace Go.Proofs.dO
open Go Go.Am Go.Proofs
open Nat renaming reduceEqDiff→nA,reduceLT→nB,reduceLeDiff→nC,reduceAdd→nD,reduceSub→nE,reduceMul→nF,reduceBEq→nG
set_option maxHeartbeats 2000000
abbrev mo:ax:=(.rg [(au 21 1),(aj 22 (.lens (.t 21))),(aj 23 (.bin .gtr (.t 22) (.c (.int .i64 100)))),(au 24 23),(ay 25 (.mv (.t 2)) 24 false),(ay 26 (.lens (.t 25)) 24 false),(ay 27 (.bin .gtr (.t 26) (.c (.int .i64 300))) 24 false),(aj 28 (.pick (.t 24) (.c (.bool true)) (.t 27))),(au 29 28),(ay 30 (.mv (.t 2)) 29 false),(ay 31 (.lens (.t 30)) 29 false),(ay 32 (.bin .eql (.t 31) (.c (.int .i64 0))) 29 false),(aj 33 (.pick (.t 29) (.c (.bool true)) (.t 32)))])
abbrev lf:ax:=(.seq (.seq (.rg [(au 34 8),(au 35 2),(aj 36 (.lens (.t 35))),(aj 37 (.bin .lss (.t 34) (.t 36)))]) (.cond (.t 37) .skip (.exit 0))) (.seq (.blk 1 (.rg [(au 40 7),(au 41 2),(au 42 8),(aj 43 (.ixs (.t 41) (.t 42))),(aj 44 (.bin .rem (.t 43) (.c (b8 94)))),(aj 45 (.bin .add (.c (b8 33)) (.t 44))),(aj 46 (.qD 1 [(.t 45)])),(aj 47 (.jt .bs (.t 46))),(aj 48 (.bin .add (.t 40) (.t 47))),(aR 7 48)])) (.rg [(au 38 8),(aj 39 (.bin .add (.t 38) (.c (.int .i64 1)))),(aR 8 39)])))
abbrev mq:ax:=(.cond (.t 53) (.rg [(au 54 10),(aj 55 (.bin .sub (.c (.int .i64 0)) (.t 54))),(aR 10 55)]) .skip)
abbrev mu:ax:=(.rg [(au 75 12),(aj 76 (.bin .neq (.t 75) (.c (.int .i64 501)))),(au 77 76),(ay 78 (.mv (.t 14)) 77 false),(ay 79 (.bin .neq (.t 78) (.c (.int .i64 0))) 77 false),(aj 80 (.pick (.t 77) (.c (.bool true)) (.t 79)))])
abbrev lg:ax:=(.seq (.seq (.rg [(au 81 16),(au 82 1),(aj 83 (.lens (.t 82))),(aj 84 (.bin .lss (.t 81) (.t 83)))]) (.cond (.t 84) .skip (.exit 2))) (.seq (.blk 3 (.rg [(au 87 15),(au 88 1),(au 89 16),(aj 90 (.ixs (.t 88) (.t 89))),(aj 91 (.bin .rem (.t 90) (.c (b8 26)))),(aj 92 (.bin .add (.c (b8 65)) (.t 91))),(aj 93 (.qD 1 [(.t 92)])),(aj 94 (.jt .bs (.t 93))),(aj 95 (.bin .add (.t 87) (.t 94))),(aR 15 95)])) (.rg [(au 85 16),(aj 86 (.bin .add (.t 85) (.c (.int .i64 1)))),(aR 16 86)])))
abbrev A6:ax:=(.seq (.rg [(aj 6 (.aP (.c (.bool false))))]) (.seq (.seq (.rg [(aj 19 (.call (.c (.fn 7 [])) [])),(aj 20 (.un .not (.t 19)))]) (.cond (.t 20) (.seq (.rg [(aj 6 (.aP (.c (.bool false))))]) .ret) .skip)) (.seq (.seq (.sem (erase mo)) (.cond (.t 33) (.seq (.rg [(aj 6 (.aP (.c (.bool true))))]) .ret) .skip)) (.seq (.rg [(aj 7 (.aP (.c (.str [120]))))]) (.seq (.seq (.rg [(aj 8 (.aP (.c (.int .i64 0))))]) (.blk 0 (.loop (erase lf)))) (.seq (.rg [(aj 49 (.qD 1 [(.c (.str [68,65,84,65])),(.c (.str [82,83,69,84])),(.c (.str [81,85,73,84]))])),(aR 9 49)]) (.seq (.rg [(au 50 0),(aj 51 (.bin .rem (.t 50) (.c (.int .i64 3)))),(aR 10 51)]) (.seq (.seq (.rg [(au 52 10),(aj 53 (.bin .lss (.t 52) (.c (.int .i64 0))))]) (.sem (erase mq))) (.seq (.rg [(au 57 9),(au 58 10),(aj 59 (.vF 1 (.t 57) (.t 58))),(aj 60 (.ld (.t 59) none)),(aj 61 (.bin .add (.t 60) (.c (.str [32])))),(au 62 7),(aj 63 (.bin .add (.t 61) (.t 62))),(aj 64 (.call (.c (.fn 8 [])) [(.t 63)])),(au 56 64),(aj 65 (.ext (.t 56) 0)),(aj 66 (.ext (.t 56) 1)),(aj 11 (.alloc [(.int .i64 0),(.str []),(.str []),(.str []),(.int .i64 0)])),(cR (.st (.t 11) (.t 65) 5)),(aR 12 66)]) (.seq (.rg [(au 68 9),(au 69 10),(aj 70 (.vF 1 (.t 68) (.t 69))),(aj 71 (.ld (.t 70) none)),(aj 72 (.call (.c (.fn 8 [])) [(.t 71)])),(au 67 72),(aj 73 (.ext (.t 67) 0)),(aj 74 (.ext (.t 67) 1)),(aj 13 (.alloc [(.int .i64 0),(.str []),(.str []),(.str []),(.int .i64 0)])),(cR (.st (.t 13) (.t 73) 5)),(aR 14 74)]) (.seq (.seq (.sem (erase mu)) (.cond (.t 80) (.seq (.rg [(aj 6 (.aP (.c (.bool false))))]) .ret) .skip)) (.seq (.rg [(aj 15 (.aP (.c (.str [90]))))]) (.seq (.seq (.rg [(aj 16 (.aP (.c (.int .i64 0))))]) (.blk 2 (.loop (erase lg)))) (.seq (.rg [(au 97 15),(aj 98 (.bin .add (.t 97) (.c (.str [32])))),(au 99 7),(aj 100 (.bin .add (.t 98) (.t 99))),(aj 101 (.call (.c (.fn 8 [])) [(.t 100)])),(au 96 101),(aj 102 (.ext (.t 96) 0)),(aj 103 (.ext (.t 96) 1)),(aj 17 (.alloc [(.int .i64 0),(.str []),(.str []),(.str []),(.int .i64 0)])),(cR (.st (.t 17) (.t 102) 5)),(aR 18 103)]) (.seq (.rg [(au 104 18),(aj 105 (.bin .eql (.t 104) (.c (.int .i64 500)))),(aR 6 105)]) .ret)))))))))))))))
theorem A7:bN Tryz.prog 4 106 [(.tmp 6)] (erase A6):=⟨Tryz.f4,_,rfl,by decide,rfl,by kernel_rfl,rfl,rfl⟩
abbrev eM:List Nat:=[0,1,2,6,7,8,9,10,12,14,15,16,18,20,33,37,53,80,84]
def dA (gA:List UInt8):((List UInt8)×Int)→Option (St Bool (List UInt8) ((List UInt8)×Int))
 |(xu,i6)=>
  (if (decide (i6<(gA.length:Int))) then
   (idx gA i6).bind fun x7=>
   (cat xu ([(33+(x7 % 94))]:List UInt8)).bind fun x8=>some (.cY (x8,(IntKind.wrap .i64 (i6+1))))
  else
   some (.dR xu))
def fB (dx:Int):Option (Int):=
 (if (decide ((Int.tmod dx 3)<0)) then
  some (IntKind.wrap .i64 (0 - (Int.tmod dx 3)))
 else
  some (Int.tmod dx 3))
def dB (c8:List UInt8):((List UInt8)×Int)→Option (St Bool (List UInt8) ((List UInt8)×Int))
 |(KV,i21)=>
  (if (decide (i21<(c8.length:Int))) then
   (idx c8 i21).bind fun Iw=>
   (cat KV ([(65+(Iw % 26))]:List UInt8)).bind fun D7=>some (.cY (D7,(IntKind.wrap .i64 (i21+1))))
  else
   some (.dR KV))
def jS (F:Nat) (dx:Int) (c8:List UInt8) (gA:List UInt8):Option (Bool):=
 (kJ F).bind fun r4=>
 (if (!r4) then
  some false
 else
  (if (((decide (100<(c8.length:Int)))||(decide (300<(gA.length:Int))))||(decide ((gA.length:Int)=0))) then
   some true
  else
   ((iter (dA gA) F (([120]:List UInt8),0)).bind fun o31=>
   match o31 with
   | .inr e8=>
     (fB dx).bind fun OE=>
     (idx ([([68,65,84,65]:List UInt8),([82,83,69,84]:List UInt8),([81,85,73,84]:List UInt8)]:List (List UInt8)) OE).bind fun gX=>
     (cat gX ([32]:List UInt8)).bind fun FI=>
     (cat FI e8).bind fun kY=>
     (cZ F kY).bind fun (r16,BQ)=>
     (cZ F gX).bind fun (dj,og)=>
     (if ((!decide (BQ=501))||(!decide (og=0))) then
      some false
     else
      ((iter (dB c8) F (([90]:List UInt8),0)).bind fun o30=>
      match o30 with
      | .inr w25=>
        (cat w25 ([32]:List UInt8)).bind fun Rj=>
        (cat Rj e8).bind fun Vx=>
        (cZ F Vx).bind fun (XU,fG)=>some (decide (fG=500))
      | .inl _=>none))
   | .inl _=>none)))
theorem vS {dx:Int} {c8:List UInt8} {gA:List UInt8} {H0 H:AH} (hfr:Fr H0 H0.length [] H) {K:Exit→Env→AH→Prop}
 (kn:∀H':AH,Fr H0 H0.length [] H'→K .normal [(0,(.int .i64 dx)),(1,(.str c8)),(2,(.str gA)),(33,(.bool (((decide (100<(c8.length:Int)))||(decide (300<(gA.length:Int))))||(decide ((gA.length:Int)=0)))))] H'):
 AX Tryz.prog eM 106 H0.length (erase mo) K [(0,(.int .i64 dx)),(1,(.str c8)),(2,(.str gA))] H:=by
 refine bY fun K' hK=> ?_
 have hle:=hfr.le
 refine cM ?_
 refine gK (fun hy3=> ?_) fun hy3=> ?_
 · refine az hy3 ?_
   exact hK _ _ _ _ _ (dy hy3) ak (kn _ hfr)
 · refine az hy3 ?_
   refine gK (fun hy4=> ?_) fun hy4=> ?_
   · refine az hy4 ?_
     exact hK _ _ _ _ _ (dy (aA hy3 hy4)) ak (kn _ hfr)
   · refine az hy4 ?_
     exact hK _ _ _ _ _ (dy (aA hy3 hy4)) ak (kn _ hfr)
theorem vT {F:Nat} {i6:Int} {gA:List UInt8} {xu:List UInt8} {dx:Int} {c8:List UInt8} {H0 H:AH} (hfr:Fr H0 H0.length [] H) {K:Exit→Env→AH→Prop} {o:(Bool)⊕((List UInt8))}
 (h:iter (dA gA) F (xu,i6)=some o)
 (dc:∀o':(List UInt8),o= .inr o'→∀H':AH,Fr H0 H0.length [] H'→K (.exit 0) [(0,(.int .i64 dx)),(1,(.str c8)),(7,(.str o'))] H'):
 AX Tryz.prog eM 106 H0.length (.loop (erase lf)) K [(0,(.int .i64 dx)),(1,(.str c8)),(2,(.str gA)),(7,(.str xu)),(8,(.int .i64 i6))] H:=by
 refine gL (fun s e H1=>match s with|(xu,i6)=>e=[(0,(.int .i64 dx)),(1,(.str c8)),(2,(.str gA)),(7,(.str xu)),(8,(.int .i64 i6))]∧Fr H0 H0.length [] H1) h ⟨rfl,hfr⟩ ?_
 rintro K' ⟨xu,i6⟩ st e H ⟨rfl,hfr⟩ h hN hB hR hX
 have hle:=hfr.le
 rw [dA.eq_1] at h
 refine cM ?_
 refine bk h (fun b6 h=> ?_) fun b6 h=> ?_
 · obtain ⟨x7,cC,h⟩:=aq h
   obtain ⟨x8,cr,h⟩:=aq h
   refine az (aA cC (aA (show ((94:UInt8)=0)=False from by decide) cr)) ?_
   obtain rfl:=aC h
   exact hN _ rfl _ _ _ _ aJ ak ⟨rfl,hfr⟩
 · refine cM ?_
   obtain rfl:=aC h
   exact hX _ _ _ _ _ dm aJ ak (dc _ (hB _ rfl) _ hfr)
theorem vU {dx:Int} {c8:List UInt8} {e8:List UInt8} {H0 H:AH} (hfr:Fr H0 H0.length [] H) {K:Exit→Env→AH→Prop} {YY:Int}
 (h:fB dx=some YY)
 (kn:∀H':AH,Fr H0 H0.length [] H'→K .normal [(1,(.str c8)),(7,(.str e8)),(9,(.sl .ex 1 [(.str ([68,65,84,65]:List UInt8)),(.str ([82,83,69,84]:List UInt8)),(.str ([81,85,73,84]:List UInt8))])),(10,(.int .i64 YY))] H'):
 AX Tryz.prog eM 106 H0.length (erase mq) K [(1,(.str c8)),(7,(.str e8)),(9,(.sl .ex 1 [(.str ([68,65,84,65]:List UInt8)),(.str ([82,83,69,84]:List UInt8)),(.str ([81,85,73,84]:List UInt8))])),(10,(.int .i64 (Int.tmod dx 3))),(53,(.bool (decide ((Int.tmod dx 3)<0))))] H:=by
 refine bY fun K' hK=> ?_
 have hle:=hfr.le
 rw [fB.eq_1] at h
 refine cM ?_
 refine bk h (fun cx h=> ?_) fun cx h=> ?_
 · refine cM ?_
   obtain rfl:=aC h
   exact hK _ _ _ _ _ aJ ak (kn _ hfr)
 · refine cM ?_
   obtain rfl:=aC h
   exact hK _ _ _ _ _ aJ ak (kn _ hfr)
theorem vV {c8:List UInt8} {e8:List UInt8} {BQ:Int} {og:Int} {H0 H:AH} (hfr:Fr H0 H0.length [] H) {K:Exit→Env→AH→Prop}
 (kn:∀H':AH,Fr H0 H0.length [] H'→K .normal [(1,(.str c8)),(7,(.str e8)),(80,(.bool ((!decide (BQ=501))||(!decide (og=0)))))] H'):
 AX Tryz.prog eM 106 H0.length (erase mu) K [(1,(.str c8)),(7,(.str e8)),(12,(.int .i64 BQ)),(14,(.int .i64 og))] H:=by
 refine bY fun K' hK=> ?_
 have hle:=hfr.le
 refine cM ?_
 refine gK (fun fT=> ?_) fun fT=> ?_
 · refine az fT ?_
   exact hK _ _ _ _ _ (dy fT) ak (kn _ hfr)
 · refine az fT ?_
   exact hK _ _ _ _ _ (dy fT) ak (kn _ hfr)
theorem vW {F:Nat} {i21:Int} {c8:List UInt8} {KV:List UInt8} {e8:List UInt8} {H0 H:AH} (hfr:Fr H0 H0.length [] H) {K:Exit→Env→AH→Prop} {o:(Bool)⊕((List UInt8))}
 (h:iter (dB c8) F (KV,i21)=some o)
 (Ni:∀o':(List UInt8),o= .inr o'→∀H':AH,Fr H0 H0.length [] H'→K (.exit 2) [(7,(.str e8)),(15,(.str o'))] H'):
 AX Tryz.prog eM 106 H0.length (.loop (erase lg)) K [(1,(.str c8)),(7,(.str e8)),(15,(.str KV)),(16,(.int .i64 i21))] H:=by
 refine gL (fun s e H1=>match s with|(KV,i21)=>e=[(1,(.str c8)),(7,(.str e8)),(15,(.str KV)),(16,(.int .i64 i21))]∧Fr H0 H0.length [] H1) h ⟨rfl,hfr⟩ ?_
 rintro K' ⟨KV,i21⟩ st e H ⟨rfl,hfr⟩ h hN hB hR hX
 have hle:=hfr.le
 rw [dB.eq_1] at h
 refine cM ?_
 refine bk h (fun gZ h=> ?_) fun gZ h=> ?_
 · obtain ⟨Iw,iQ,h⟩:=aq h
   obtain ⟨D7,gD,h⟩:=aq h
   refine az (aA iQ (aA (show ((26:UInt8)=0)=False from by decide) gD)) ?_
   obtain rfl:=aC h
   exact hN _ rfl _ _ _ _ aJ ak ⟨rfl,hfr⟩
 · refine cM ?_
   obtain rfl:=aC h
   exact hX _ _ _ _ _ dm aJ ak (Ni _ (hB _ rfl) _ hfr)
theorem ND {F:Nat} {dx:Int} {c8:List UInt8} {gA:List UInt8} {H0:AH} {aS:Bool} (h:jS F dx c8 gA=some aS):
 aG Tryz.prog 4 [(.int .i64 dx),(.str c8),(.str gA)] H0 fun v H'=>v=(.bool aS)∧H'=H0:=by
 refine l7 A7 eM [] fun hcl K0 aO H hH hfr=> ?_
 clear hH
 have hle:=hfr.le
 rw [jS.eq_1] at h
 refine cM ?_
 obtain ⟨r4,hy1,h⟩:=aq h
 refine bC ak (vu hy1) ?_
 refine cM ?_
 refine bk h (fun hy2 h=> ?_) fun hy2 h=> ?_
 · refine cM ?_
   obtain rfl:=aC h
   exact aO _ _ _ bh (aT hfr hcl (aW aZ (.bool false)) bf aX ⟨rfl,rfl⟩)
 · refine cM ?_
   refine bz ak (vS (dx:=dx) (c8:=c8) (gA:=gA) hfr ?_)
   intro H hfr
   have hle:=hfr.le
   refine cM ?_
   refine bk h (fun bJ h=> ?_) fun bJ h=> ?_
   · refine cM ?_
     obtain rfl:=aC h
     exact aO _ _ _ bh (aT hfr hcl (aW aZ (.bool true)) bf aX ⟨rfl,rfl⟩)
   · refine cM ?_
     obtain ⟨o31,cP,h⟩:=aq h
     refine bz ak (vT (dx:=dx) (c8:=c8) hfr cP ?_)
     · rintro e8 rfl H hfr
       try dsimp only at h
       have hle:=hfr.le
       refine cM ?_
       have ck:rm .i64 dx 3=some (Int.tmod dx 3):=rfl
       refine az ck ?_
       obtain ⟨OE,cN,h⟩:=aq h
       refine bz ak (vU (c8:=c8) (e8:=e8) hfr cN ?_)
       intro H hfr
       have hle:=hfr.le
       obtain ⟨gX,cH,h⟩:=aq h
       have dV:idx [(.str ([68,65,84,65]:List UInt8)),(.str ([82,83,69,84]:List UInt8)),(.str ([81,85,73,84]:List UInt8))] OE=some (AV.str gX):=Nf (f:=AV.str) cH
       obtain ⟨FI,eT,h⟩:=aq h
       obtain ⟨kY,ei,h⟩:=aq h
       refine az (aA dV (aA eT ei)) ?_
       obtain ⟨⟨r16,BQ⟩,gY,h⟩:=aq h
       dsimp only at h
       refine bC ak (cQ gY) ?_
       refine cM ?_
       have gq:idx [(.str ([68,65,84,65]:List UInt8)),(.str ([82,83,69,84]:List UInt8)),(.str ([81,85,73,84]:List UInt8))] OE=some (AV.str gX):=Nf (f:=AV.str) cH
       refine az gq ?_
       obtain ⟨⟨dj,og⟩,fS,h⟩:=aq h
       dsimp only at h
       refine bC ak (cQ fS) ?_
       refine cM ?_
       refine bz ak (vV (c8:=c8) (e8:=e8) (BQ:=BQ) (og:=og) (bW _ (Fr.app (bW _ (Fr.app hfr)))) ?_)
       intro H hfr
       have hle:=hfr.le
       refine cM ?_
       refine bk h (fun gr h=> ?_) fun gr h=> ?_
       · refine cM ?_
         obtain rfl:=aC h
         exact aO _ _ _ bh (aT hfr hcl (aW aZ (.bool false)) bf aX ⟨rfl,rfl⟩)
       · refine cM ?_
         obtain ⟨o30,hM,h⟩:=aq h
         refine bz ak (vW (e8:=e8) hfr hM ?_)
         · rintro w25 rfl H hfr
           try dsimp only at h
           have hle:=hfr.le
           refine cM ?_
           obtain ⟨Rj,jJ,h⟩:=aq h
           obtain ⟨Vx,pJ,h⟩:=aq h
           refine az (aA jJ pJ) ?_
           obtain ⟨⟨XU,fG⟩,rM,h⟩:=aq h
           dsimp only at h
           refine bC ak (cQ rM) ?_
           refine cM ?_
           obtain rfl:=aC h
           exact aO _ _ _ bh (aT (bW _ (Fr.app hfr)) hcl (aW aZ (.bool (decide (fG=500)))) bf aX ⟨rfl,rfl⟩)
end Go.Proofs.dO
end
section
set_option maxRecDepth 100000
namespace Go.Proofs.dO
open Go Go.Am Go.Proofs
theorem KW (n:Nat):kJ (n+100)=some true:=by kernel_rfl
theorem fold_map {α β:Type} (g:α→β):∀(l:List α) (a:List β),l.foldl (fun a c=>a++[g c]) a=a++l.map g:=by
 intro l
 induction l with
 |nil=>intro a;simp
 |cons c r ih=>intro a;simp [ih]
theorem aa7 (c:UInt8):bR (33+c % 94)=true∧nb (33+c % 94)=true:=by
 have:=fU (p:=fun c=>bR (33+c % 94)&&nb (33+c % 94)) (by kernel_rfl) c
 simpa using this
theorem aa8 (c:UInt8):bR (65+c % 26)=true∧nb (65+c % 26)=true:=by
 have:=fU (p:=fun c=>bR (65+c % 26)&&nb (65+c % 26)) (by kernel_rfl) c
 simpa using this
theorem KX {more:List UInt8} {F:Nat} (h:more.length≤300) (hF:400<F):iter (dA more) F ([120],0)=some (.inr (120::more.map fun c=>33+c % 94)):=by
 have hh:=lpo (ρ:=Bool) (s:=more) (body:=dA more) (mk:=fun (a:List UInt8) i=>(a,(i:Int))) (tt:=fun a=>a) (step:=fun a c=>a++[33+c % 94])
  (fun a i=>a.length=i+1) ?_ ?_ (F:=F) (a:=[120]) (by omega) rfl
 · rw [show (([120]:List UInt8),(0:Int))=(([120]:List UInt8),((0:Nat):Int)) from rfl,hh.1,fold_map];rfl
 · intro a i c hc hI
   have hi:=(List.getElem?_eq_some_iff.1 hc).1
   refine ⟨?_,by simp [hI]⟩
   simp only [dA]
   rw [if_pos (by simpa using hi),cT hc]
   simp only [Option.bind_some]
   rw [cW (by simp;omega)]
   simp only [Option.bind_some]
   rw [Vm (by omega)]
 · intro a hI
   simp only [dA]
   rw [if_neg (by simp)]
theorem KY {word:List UInt8} {F:Nat} (h:word.length≤100) (hF:400<F):iter (dB word) F ([90],0)=some (.inr (90::word.map fun c=>65+c % 26)):=by
 have hh:=lpo (ρ:=Bool) (s:=word) (body:=dB word) (mk:=fun (a:List UInt8) i=>(a,(i:Int))) (tt:=fun a=>a) (step:=fun a c=>a++[65+c % 26])
  (fun a i=>a.length=i+1) ?_ ?_ (F:=F) (a:=[90]) (by omega) rfl
 · rw [show (([90]:List UInt8),(0:Int))=(([90]:List UInt8),((0:Nat):Int)) from rfl,hh.1,fold_map];rfl
 · intro a i c hc hI
   have hi:=(List.getElem?_eq_some_iff.1 hc).1
   refine ⟨?_,by simp [hI]⟩
   simp only [dB]
   rw [if_pos (by simpa using hi),cT hc]
   simp only [Option.bind_some]
   rw [cW (by simp;omega)]
   simp only [Option.bind_some]
   rw [Vm (by omega)]
 · intro a hI
   simp only [dB]
   rw [if_neg (by simp)]
theorem E4 {s:List UInt8} (h:s.getLast?≠some 32):fI s=s:=by
 unfold fI
 have:s.reverse.dropWhile blk=s.reverse:=by
  cases hr:s.reverse with
  |nil=>rfl
  |cons c r=>
   have h2:s.getLast?=some c:=by rw [←List.head?_reverse,hr];rfl
   have:c≠32:=by rintro rfl;exact h h2
   simp [List.dropWhile_cons,blk,this]
 rw [this,List.reverse_reverse]
theorem Gz {w t:List UInt8} (hw:∀c∈w,bR c=true∧nb c=true) (ht:∀c∈t,bR c=true∧nb c=true) (h0:t≠[]):E2 (w++32::t)=gP (fA (w.map low)) (32::t):=by
 unfold E2
 have hv:(w++32::t).all bR=true:=by
  simp only [List.all_append,List.all_cons,Bool.and_eq_true]
  refine ⟨List.all_eq_true.2 fun c hc=>(hw c hc).1,by decide,List.all_eq_true.2 fun c hc=>(ht c hc).1⟩
 rw [if_pos hv]
 have hl:(w++32::t).getLast?≠some 32:=by
  cases hr:t.getLast? with
  |none=>exact absurd (List.getLast?_eq_none_iff.1 hr) h0
  |some c=>
   have hm:c∈t:=List.mem_of_getLast? hr
   have:(w++32::t).getLast?=some c:=by
    rw [List.getLast?_append,List.getLast?_cons,hr];simp
   rw [this]
   intro h
   injection h with h
   have:=(ht c hm).2
   rw [h] at this;cases this
 rw [E4 hl]
 have:=Dl (q:=nb) (l:=w) (x:=32) (by decide) (fun c hc=>(hw c hc).2) t
 rw [this.1,this.2]
theorem Yp (t:List UInt8):fA ((90::t).map low)=0:=by
 have:low 90=122:=by decide
 simp [fA,yq,wl,this]
theorem VM (which:Int) (word more:List UInt8):∃F,jS F which word more=some true:=by
 refine ⟨100000+100, ?_⟩
 unfold jS
 rw [KW]
 simp only [Option.bind_some,Bool.not_true,Bool.false_eq_true,if_false]
 by_cases h:100<word.length∨300<more.length∨more.length=0
 · rw [if_pos (by simp only [Bool.or_eq_true,decide_eq_true_eq];omega)]
 · rw [if_neg (by simp only [Bool.or_eq_true,decide_eq_true_eq];omega)]
   rw [KX (by omega) (by omega)]
   simp only [Option.bind_some]
   generalize hT:(120::more.map fun c=>33+c % 94:List UInt8)=T
   have hTl:T.length≤301:=by rw [←hT];simp;omega
   have hTn:T≠[]:=by rw [←hT];simp
   have hTv:∀c∈T,bR c=true∧nb c=true:=by
    rw [←hT]
    intro c hc
    rcases List.mem_cons.1 hc with rfl|hc
    · decide
    · obtain ⟨d, -,rfl⟩:=List.mem_map.1 hc
      exact aa7 d
   have hp:∃k:Nat,k<3∧fB which=some (k:Int):=by
    unfold fB
    have e:Int.tmod which 3=which.tmod 3:=rfl
    have b1: -3<which.tmod 3:=Int.lt_tmod_of_pos _ (by decide)
    have b2:which.tmod 3<3:=Int.tmod_lt_of_pos _ (by decide)
    by_cases hn:which.tmod 3<0
    · rw [if_pos (by simpa using hn),wr (by omega) (by omega)]
      exact ⟨(0 - which.tmod 3).toNat,by omega,by congr 1;omega⟩
    · rw [if_neg (by simpa using hn)]
      exact ⟨(which.tmod 3).toNat,by omega,by congr 1;omega⟩
   obtain ⟨k,hk,hp⟩:=hp
   rw [hp]
   simp only [Option.bind_some]
   have key:∃W:List UInt8,idx ([([68,65,84,65]:List UInt8),([82,83,69,84]:List UInt8),([81,85,73,84]:List UInt8)]:List (List UInt8)) (k:Int)=some W∧W.length=4∧(∀c∈W,bR c=true∧nb c=true)∧
    (fA (W.map low)=5∨fA (W.map low)=6∨fA (W.map low)=8)∧(E2 W).2=0:=by
    have:k=0∨k=1∨k=2:=by omega
    rcases this with rfl|rfl|rfl
    · exact ⟨[68,65,84,65],by rfl,by rfl,by decide,by decide,by kernel_rfl⟩
    · exact ⟨[82,83,69,84],by rfl,by rfl,by decide,by decide,by kernel_rfl⟩
    · exact ⟨[81,85,73,84],by rfl,by rfl,by decide,by decide,by kernel_rfl⟩
   obtain ⟨W,h1,h2,h3,h4,h5⟩:=key
   rw [h1]
   simp only [Option.bind_some]
   rw [cW (by simp;omega)]
   simp only [Option.bind_some]
   rw [cW (by simp;omega)]
   simp only [Option.bind_some]
   rw [kT (by simp;omega) (by omega)]
   simp only [Option.bind_some]
   rw [kT (by omega) (by omega)]
   simp only [Option.bind_some]
   have e1:(W++[32])++T=W++32::T:=by simp
   rw [e1,Gz h3 hTv hTn]
   have e2:(gP (fA (W.map low)) (32::T)).2=501:=by
    unfold gP
    rcases h4 with h4|h4|h4<;>rw [h4]<;>simp
   rw [e2,h5,if_neg (by simp)]
   rw [KY (by omega) (by omega)]
   simp only [Option.bind_some]
   rw [cW (by simp;omega)]
   simp only [Option.bind_some]
   rw [cW (by simp;omega)]
   simp only [Option.bind_some]
   rw [kT (by simp;omega) (by omega)]
   simp only [Option.bind_some]
   have e3:((90::word.map fun c=>65+c % 26)++[32])++T=(90::word.map fun c=>65+c % 26)++32::T:=by simp
   rw [e3,Gz (by
    intro c hc
    rcases List.mem_cons.1 hc with rfl|hc
    · decide
    · obtain ⟨d, -,rfl⟩:=List.mem_map.1 hc
      exact aa8 d) hTv hTn,Yp]
   simp [gP]
end Go.Proofs.dO
end
section
set_option maxRecDepth 100000
namespace Go.Proofs.dO
open Go Go.Am Go.Proofs
open Nat renaming reduceEqDiff→nA,reduceLT→nB,reduceLeDiff→nC,reduceAdd→nD,reduceSub→nE,reduceMul→nF,reduceBEq→nG
set_option maxHeartbeats 2000000
abbrev mw:ax:=(.seq (.seq (.rg [(au 10 0),(aj 11 (.bin .geq (.t 10) (.c (.int .i64 10))))]) (.cond (.t 11) .skip (.exit 0))) (.blk 1 (.seq (.rg [(au 12 0),(aj 13 (.bin .quo (.t 12) (.c (.int .i64 10)))),(aR 0 13)]) (.rg [(au 14 0),(aj 15 (.bin .rem (.t 14) (.c (.int .i64 10)))),(aj 16 (.bin .add (.c (.int .i64 48)) (.t 15))),(aj 17 (.jt (.int .u8) (.t 16))),(aj 18 (.qD 1 [(.t 17)])),(aj 19 (.jt .bs (.t 18))),(au 20 3),(aj 21 (.bin .add (.t 19) (.t 20))),(aR 3 21)]))))
abbrev B6:ax:=(.seq (.rg [(aj 2 (.aP (.c (.str []))))]) (.seq (.rg [(au 4 0),(aj 5 (.bin .rem (.t 4) (.c (.int .i64 10)))),(aj 6 (.bin .add (.c (.int .i64 48)) (.t 5))),(aj 7 (.jt (.int .u8) (.t 6))),(aj 8 (.qD 1 [(.t 7)])),(aj 9 (.jt .bs (.t 8))),(aR 3 9)]) (.seq (.blk 0 (.loop (erase mw))) (.seq (.rg [(au 22 3),(aR 2 22)]) .ret))))
theorem B7:bN Tryz.prog 12 23 [(.tmp 2)] (erase B6):=⟨Tryz.f12,_,rfl,by decide,rfl,by kernel_rfl,rfl,rfl⟩
abbrev uq:List Nat:=[0,2,3,11]
def cU:(Int×(List UInt8))→Option (St (List UInt8) (List UInt8) (Int×(List UInt8)))
 |(kf,s3)=>
  (if (decide (10≤kf)) then
   (cat ([(UInt8.ofInt (IntKind.wrap .i64 (48+(Int.tmod (IntKind.wrap .i64 (Int.tdiv kf 10)) 10))))]:List UInt8) s3).bind fun x4=>some (.cY ((IntKind.wrap .i64 (Int.tdiv kf 10)),x4))
  else
   some (.dR s3))
def iU (F:Nat) (NF:Int):Option ((List UInt8)):=
 ((iter cU F (NF,([(UInt8.ofInt (IntKind.wrap .i64 (48+(Int.tmod NF 10))))]:List UInt8))).bind fun o7=>
 match o7 with
 | .inr s6=>
   some s6
 | .inl _=>none)
theorem xw {F:Nat} {kf:Int} {s3:List UInt8} {H:AH} {K:Exit→Env→AH→Prop} {o:((List UInt8))⊕((List UInt8))}
 (h:iter cU F (kf,s3)=some o)
 (dc:∀o':(List UInt8),o= .inr o'→K (.exit 0) [(3,(.str o'))] H):
 AX Tryz.prog uq 23 H.length (.loop (erase mw)) K [(0,(.int .i64 kf)),(3,(.str s3))] H:=by
 refine gL (fun s e H1=>match s with|(kf,s3)=>e=[(0,(.int .i64 kf)),(3,(.str s3))]∧H1=H) h ⟨rfl,rfl⟩ ?_
 rintro K' ⟨kf,s3⟩ st e H ⟨rfl,rfl⟩ h hN hB hR hX
 rw [cU.eq_1] at h
 refine aE ?_
 refine bk h (fun hy2 h=> ?_) fun hy2 h=> ?_
 · have hy3:dv .i64 kf 10=some (IntKind.wrap .i64 (Int.tdiv kf 10)):=rfl
   have hy4:rm .i64 (IntKind.wrap .i64 (Int.tdiv kf 10)) 10=some (Int.tmod (IntKind.wrap .i64 (Int.tdiv kf 10)) 10):=rfl
   obtain ⟨x4,bJ,h⟩:=aq h
   refine aV (aA hy3 (aA hy4 bJ)) ?_
   obtain rfl:=aC h
   exact hN _ rfl _ _ _ _ aJ ak ⟨rfl,rfl⟩
 · refine aE ?_
   obtain rfl:=aC h
   exact hX _ _ _ _ _ dm aJ ak (dc _ (hB _ rfl))
theorem A8 {F:Nat} {NF:Int} {H0:AH} {aS:List UInt8} (h:iU F NF=some aS):
 aG Tryz.prog 12 [(.int .i64 NF)] H0 fun v H'=>v=(.str aS)∧H'=H0:=by
 refine fF B7 uq fun hcl K0 aO=> ?_
 rw [iU.eq_1] at h
 have hy1:rm .i64 NF 10=some (Int.tmod NF 10):=rfl
 refine aV hy1 ?_
 obtain ⟨o7,b6,h⟩:=aq h
 refine bz ak (xw b6 ?_)
 · rintro s6 rfl
   try dsimp only at h
   refine aE ?_
   obtain rfl:=aC h
   exact aO _ _ _ bh (aK hcl (aW aZ (.str s6)) bf aX ⟨rfl,rfl⟩)
abbrev mz:ax:=(.rg ((aj 25 (.cF (.t 3) 0))::(aj 26 (.ld (.t 25) none))::(aj 27 (.lens (.t 26)))::(aj 28 (.bin .gtr (.t 27) (.c (.int .i64 300))))::(au 29 28)::(ay 30 (.cF (.t 3) 1) 29 false)::(ay 31 (.ld (.t 30) none) 29 false)::(ay 32 (.lens (.t 31)) 29 false)::(ay 33 (.bin .gtr (.t 32) (.c (.int .i64 600))) 29 false)::(aj 34 (.pick (.t 29) (.c (.bool true)) (.t 33)))::(au 35 34)::(ay 36 (.ld (.t 3) (some 2)) 35 false)::(ay 37 (.call (.c (.fn 10 [])) [(.t 36)]) 35 false)::(ay 38 (.un .not (.t 37)) 35 false)::(aj 39 (.pick (.t 35) (.c (.bool true)) (.t 38)))::(au 40 39)::(ay 41 (.mv (.t 1)) 40 false)::(ay 42 (.bin .lss (.t 41) (.c (.int .i64 0))) 40 false)::(aj 43 (.pick (.t 40) (.c (.bool true)) (.t 42)))::(au 44 43)::(ay 45 (.mv (.t 1)) 44 false)::(ay 46 (.bin .gtr (.t 45) (.c (.int .i64 999999999))) 44 false)::(aj 47 (.pick (.t 44) (.c (.bool true)) (.t 46)))::(au 48 47)::(ay 49 (.mv (.t 2)) 48 false)::(ay 50 (.bin .lss (.t 49) (.c (.int .i64 0))) 48 false)::(aj 51 (.pick (.t 48) (.c (.bool true)) (.t 50)))::(au 52 51)::(ay 53 (.mv (.t 2)) 52 false)::(ay 54 (.bin .gtr (.t 53) (.c (.int .i64 20))) 52 false)::(aj 55 (.pick (.t 52) (.c (.bool true)) (.t 54)))::[]))
abbrev lq:ax:=(.seq (.seq (.rg [(au 56 8),(au 57 2),(aj 58 (.bin .lss (.t 56) (.t 57)))]) (.cond (.t 58) .skip (.exit 0))) (.seq (.blk 1 (.rg [(au 61 7),(aj 62 (.bin .add (.t 61) (.c (.str [32])))),(aR 7 62)])) (.rg [(au 59 8),(aj 60 (.bin .add (.t 59) (.c (.int .i64 1)))),(aR 8 60)])))
abbrev mA:ax:=(.rg ((au 116 11)::(aj 117 (.bin .neq (.t 116) (.c (.int .i64 0))))::(au 118 117)::(ay 119 (.cF (.t 10) 2) 118 false)::(ay 120 (.ld (.t 119) (some 2)) 118 false)::(ay 121 (.ld (.t 3) (some 2)) 118 false)::(ay 122 (.seq [.s, .s] true (.t 120) (.t 121)) 118 false)::(aj 123 (.pick (.t 118) (.c (.bool true)) (.t 122)))::(au 124 123)::(ay 125 (.cF (.t 10) 4) 124 false)::(ay 126 (.ld (.t 125) none) 124 false)::(ay 127 (.bin .neq (.t 126) (.c (.int .i64 (-1)))) 124 false)::(aj 128 (.pick (.t 124) (.c (.bool true)) (.t 127)))::(au 129 128)::(ay 130 (.mv (.t 13)) 129 false)::(ay 131 (.bin .neq (.t 130) (.c (.int .i64 0))) 129 false)::(aj 132 (.pick (.t 129) (.c (.bool true)) (.t 131)))::(au 133 132)::(ay 134 (.cF (.t 12) 4) 133 false)::(ay 135 (.ld (.t 134) none) 133 false)::(ay 136 (.mv (.t 1)) 133 false)::(ay 137 (.bin .neq (.t 135) (.t 136)) 133 false)::(aj 138 (.pick (.t 133) (.c (.bool true)) (.t 137)))::(au 139 138)::(ay 140 (.cF (.t 12) 2) 139 false)::(ay 141 (.ld (.t 140) (some 2)) 139 false)::(ay 142 (.ld (.t 3) (some 2)) 139 false)::(ay 143 (.seq [.s, .s] true (.t 141) (.t 142)) 139 false)::(aj 144 (.pick (.t 139) (.c (.bool true)) (.t 143)))::(au 145 144)::(ay 146 (.mv (.t 17)) 145 false)::(ay 147 (.bin .neq (.t 146) (.c (.int .i64 555))) 145 false)::(aj 148 (.pick (.t 145) (.c (.bool true)) (.t 147)))::(au 149 148)::(ay 150 (.mv (.t 19)) 149 false)::(ay 151 (.bin .neq (.t 150) (.c (.int .i64 501))) 149 false)::(aj 152 (.pick (.t 149) (.c (.bool true)) (.t 151)))::(au 153 152)::(ay 154 (.mv (.t 21)) 153 false)::(ay 155 (.bin .neq (.t 154) (.c (.int .i64 501))) 153 false)::(aj 156 (.pick (.t 153) (.c (.bool true)) (.t 155)))::[]))
abbrev mB:ax:=(.rg [(au 157 22),(au 158 157),(ay 159 (.mv (.t 15)) 158 true),(ay 160 (.bin .eql (.t 159) (.c (.int .i64 501))) 158 true),(aj 161 (.pick (.t 158) (.t 160) (.c (.bool false)))),(au 162 161),(ay 163 (.mv (.t 22)) 162 false),(ay 164 (.un .not (.t 163)) 162 false),(ay 165 (.mv (.t 164)) 162 false),(ay 166 (.mv (.t 15)) 165 true),(ay 167 (.bin .eql (.t 166) (.c (.int .i64 0))) 165 true),(ay 168 (.pick (.t 165) (.t 167) (.c (.bool false))) 162 false),(ay 169 (.mv (.t 168)) 162 false),(ay 170 (.cF (.t 14) 2) 169 true),(ay 171 (.ld (.t 170) (some 2)) 169 true),(ay 172 (.ld (.t 3) (some 2)) 169 true),(ay 173 (.seq [.s, .s] false (.t 171) (.t 172)) 169 true),(ay 174 (.pick (.t 169) (.t 173) (.c (.bool false))) 162 false),(ay 175 (.mv (.t 174)) 162 false),(ay 176 (.cF (.t 14) 0) 175 true),(ay 177 (.ld (.t 176) none) 175 true),(ay 178 (.bin .eql (.t 177) (.c (.int .i64 4))) 175 true),(ay 179 (.pick (.t 175) (.t 178) (.c (.bool false))) 162 false),(aj 180 (.pick (.t 162) (.c (.bool true)) (.t 179))),(aR 6 180)])
abbrev A9:ax:=(.seq (.rg [(aj 3 (.box (.t 0))),(aj 6 (.aP (.c (.bool false))))]) (.seq (.seq (.rg [(aj 23 (.call (.c (.fn 7 [])) [])),(aj 24 (.un .not (.t 23)))]) (.cond (.t 24) (.seq (.rg [(aj 6 (.aP (.c (.bool false))))]) .ret) .skip)) (.seq (.seq (.sem (erase mz)) (.cond (.t 55) (.seq (.rg [(aj 6 (.aP (.c (.bool true))))]) .ret) .skip)) (.seq (.rg [(aj 7 (.aP (.c (.str []))))]) (.seq (.seq (.rg [(aj 8 (.aP (.c (.int .i64 0))))]) (.blk 0 (.loop (erase lq)))) (.seq (.rg [(aj 63 (.ld (.t 3) (some 2))),(aj 64 (.call (.c (.fn 11 [])) [(.t 63)])),(aR 9 64)]) (.seq (.rg [(au 66 7),(aj 67 (.bin .add (.c (.str [77,65,73,76,32,70,82,79,77,58])) (.t 66))),(au 68 9),(aj 69 (.bin .add (.t 67) (.t 68))),(aj 70 (.call (.c (.fn 8 [])) [(.t 69)])),(au 65 70),(aj 71 (.ext (.t 65) 0)),(aj 72 (.ext (.t 65) 1)),(aj 10 (.alloc [(.int .i64 0),(.str []),(.str []),(.str []),(.int .i64 0)])),(cR (.st (.t 10) (.t 71) 5)),(aR 11 72)]) (.seq (.rg [(au 74 7),(aj 75 (.bin .add (.c (.str [109,97,105,108,32,102,114,111,109,58])) (.t 74))),(au 76 9),(aj 77 (.bin .add (.t 75) (.t 76))),(aj 78 (.bin .add (.t 77) (.c (.str [32,83,73,90,69,61])))),(au 79 1),(aj 80 (.call (.c (.fn 12 [])) [(.t 79)])),(aj 81 (.bin .add (.t 78) (.t 80))),(aj 82 (.call (.c (.fn 8 [])) [(.t 81)])),(au 73 82),(aj 83 (.ext (.t 73) 0)),(aj 84 (.ext (.t 73) 1)),(aj 12 (.alloc [(.int .i64 0),(.str []),(.str []),(.str []),(.int .i64 0)])),(cR (.st (.t 12) (.t 83) 5)),(aR 13 84)]) (.seq (.rg [(au 86 7),(aj 87 (.bin .add (.c (.str [82,67,80,84,32,84,79,58])) (.t 86))),(au 88 9),(aj 89 (.bin .add (.t 87) (.t 88))),(aj 90 (.call (.c (.fn 8 [])) [(.t 89)])),(au 85 90),(aj 91 (.ext (.t 85) 0)),(aj 92 (.ext (.t 85) 1)),(aj 14 (.alloc [(.int .i64 0),(.str []),(.str []),(.str []),(.int .i64 0)])),(cR (.st (.t 14) (.t 91) 5)),(aR 15 92)]) (.seq (.rg [(au 94 9),(aj 95 (.bin .add (.c (.str [77,65,73,76,32,70,82,79,77,58])) (.t 94))),(aj 96 (.bin .add (.t 95) (.c (.str [32,66,79,68,89,61,55,66,73,84])))),(aj 97 (.call (.c (.fn 8 [])) [(.t 96)])),(au 93 97),(aj 98 (.ext (.t 93) 0)),(aj 99 (.ext (.t 93) 1)),(aj 16 (.alloc [(.int .i64 0),(.str []),(.str []),(.str []),(.int .i64 0)])),(cR (.st (.t 16) (.t 98) 5)),(aR 17 99)]) (.seq (.rg [(au 101 9),(aj 102 (.bin .add (.c (.str [82,67,80,84,32,70,82,79,77,58])) (.t 101))),(aj 103 (.call (.c (.fn 8 [])) [(.t 102)])),(au 100 103),(aj 104 (.ext (.t 100) 0)),(aj 105 (.ext (.t 100) 1)),(aj 18 (.alloc [(.int .i64 0),(.str []),(.str []),(.str []),(.int .i64 0)])),(cR (.st (.t 18) (.t 104) 5)),(aR 19 105)]) (.seq (.rg [(au 107 9),(aj 108 (.bin .add (.c (.str [77,65,73,76,32,70,82,79,77,58])) (.t 107))),(aj 109 (.bin .add (.t 108) (.c (.str [120])))),(aj 110 (.call (.c (.fn 8 [])) [(.t 109)])),(au 106 110),(aj 111 (.ext (.t 106) 0)),(aj 112 (.ext (.t 106) 1)),(aj 20 (.alloc [(.int .i64 0),(.str []),(.str []),(.str []),(.int .i64 0)])),(cR (.st (.t 20) (.t 111) 5)),(aR 21 112)]) (.seq (.rg [(aj 113 (.ld (.t 3) (some 2))),(aj 114 (.build [(.str []),(.str [])] [])),(aj 115 (.seq [.s, .s] false (.t 113) (.t 114))),(aR 22 115)]) (.seq (.seq (.sem (erase mA)) (.cond (.t 156) (.seq (.rg [(aj 6 (.aP (.c (.bool false))))]) .ret) .skip)) (.seq (.sem (erase mB)) .ret)))))))))))))))
theorem Ba:bN Tryz.prog 5 181 [(.tmp 6)] (erase A9):=⟨Tryz.f5,_,rfl,by decide,rfl,by kernel_rfl,rfl,rfl⟩
abbrev fV:List Nat:=[0,1,2,3,6,7,8,9,10,11,12,13,14,15,17,19,21,22,24,55,58,156]
def gQ (F:Nat) (a1:aB) (e9:Int) (eA:Int):Option (Bool):=
 (if (decide (300<(a1.av.length:Int))) then
  some true
 else
  (if (decide (600<(a1.domain.length:Int))) then
   some true
  else
   (iR F a1).bind fun r6=>
   (if (!r6) then
    some true
   else
    (if (decide (e9<0)) then
     some true
    else
     (if (decide (999999999<e9)) then
      some true
     else
      (if (decide (eA<0)) then
       some true
      else
       some (decide (20<eA))))))))
def dD (eA:Int):((List UInt8)×Int)→Option (St Bool (List UInt8) ((List UInt8)×Int))
 |(KZ,i11)=>
  (if (decide (i11<eA)) then
   (cat KZ ([32]:List UInt8)).bind fun n8=>some (.cY (n8,(IntKind.wrap .i64 (i11+1))))
  else
   some (.dR KZ))
def jT (F:Nat) (a1:aB) (e9:Int) (eA:Int):Option (Bool):=
 (kJ F).bind fun r4=>
 (if (!r4) then
  some false
 else
  (gQ F a1 e9 eA).bind fun t8=>
  (if t8 then
   some true
  else
   ((iter (dD eA) F (([]:List UInt8),0)).bind fun o47=>
   match o47 with
   | .inr Yq=>
     (iS F a1).bind fun fm=>
     (cat ([77,65,73,76,32,70,82,79,77,58]:List UInt8) Yq).bind fun lE=>
     (cat lE fm).bind fun qR=>
     (cZ F qR).bind fun (dj,og)=>
     (cat ([109,97,105,108,32,102,114,111,109,58]:List UInt8) Yq).bind fun kZ=>
     (cat kZ fm).bind fun BL=>
     (cat BL ([32,83,73,90,69,61]:List UInt8)).bind fun Iw=>
     (iU F e9).bind fun Ir=>
     (cat Iw Ir).bind fun D8=>
     (cZ F D8).bind fun (k6,Et)=>
     (cat ([82,67,80,84,32,84,79,58]:List UInt8) Yq).bind fun Vx=>
     (cat Vx fm).bind fun yb=>
     (cZ F yb).bind fun (fG,yc)=>
     (cat ([77,65,73,76,32,70,82,79,77,58]:List UInt8) fm).bind fun Rr=>
     (cat Rr ([32,66,79,68,89,61,55,66,73,84]:List UInt8)).bind fun x32=>
     (cZ F x32).bind fun (r33,tP)=>
     (cat ([82,67,80,84,32,70,82,79,77,58]:List UInt8) fm).bind fun x35=>
     (cZ F x35).bind fun (r36,NH)=>
     (cat Rr ([120]:List UInt8)).bind fun UZ=>
     (cZ F UZ).bind fun (XX,NI)=>
     (if (((((((((!decide (og=0))||(!(decide (dj.path.av=a1.av)&&decide (dj.path.domain=a1.domain))))||(!decide (dj.size=(-1))))||(!decide (Et=0)))||(!decide (k6.size=e9)))||(!(decide (k6.path.av=a1.av)&&decide (k6.path.domain=a1.domain))))||(!decide (tP=555)))||(!decide (NH=501)))||(!decide (NI=501))) then
      some false
     else
      some (((decide (a1.av=([]:List UInt8))&&decide (a1.domain=([]:List UInt8)))&&(decide (yc=501)))||((((!(decide (a1.av=([]:List UInt8))&&decide (a1.domain=([]:List UInt8))))&&(decide (yc=0)))&&(decide (fG.path.av=a1.av)&&decide (fG.path.domain=a1.domain)))&&(decide (fG.kind=4)))))
   | .inl _=>none)))
theorem vX {F:Nat} {a1:aB} {e9:Int} {eA:Int} {q5:Nat} {H0 H:AH} (hfr:Fr H0 H0.length [] H) (ai:H[q5]? =some [(.str a1.av),(.str a1.domain)]) (dL:H0.length≤q5) {K:Exit→Env→AH→Prop} {t7:Bool}
 (h:gQ F a1 e9 eA=some t7)
 (kn:∀H':AH,Fr H0 H0.length [] H'→H'[q5]? =some [(.str a1.av),(.str a1.domain)]→K .normal [(1,(.int .i64 e9)),(2,(.int .i64 eA)),(3,(.ptr q5 0)),(55,(.bool t7))] H'):
 AX Tryz.prog fV 181 H0.length (erase mz) K [(1,(.int .i64 e9)),(2,(.int .i64 eA)),(3,(.ptr q5 0))] H:=by
 refine bY fun K' hK=> ?_
 have hle:=hfr.le
 have aM:=aQ ai
 rw [gQ.eq_1] at h
 refine az ai ?_
 refine bP h (fun hy3 h=> ?_) fun hy3 h=> ?_
 · refine az (aA hy3 ai) ?_
   obtain rfl:=aC h
   exact hK _ _ _ _ _ aJ ak (kn _ hfr (ai.trans rfl))
 · refine az (aA hy3 ai) ?_
   refine bP h (fun hy4 h=> ?_) fun hy4 h=> ?_
   · refine az (aA hy4 ai) ?_
     obtain rfl:=aC h
     exact hK _ _ _ _ _ aJ ak (kn _ hfr (ai.trans rfl))
   · refine az (aA hy4 ai) ?_
     obtain ⟨r6,bJ,h⟩:=aq h
     refine bC ak (pH bJ) ?_
     refine az ai ?_
     refine bP h (fun b6 h=> ?_) fun b6 h=> ?_
     · refine az (aA b6 ai) ?_
       obtain rfl:=aC h
       exact hK _ _ _ _ _ aJ ak (kn _ hfr (ai.trans rfl))
     · refine az (aA b6 ai) ?_
       refine bP h (fun cC h=> ?_) fun cC h=> ?_
       · refine az (aA cC ai) ?_
         obtain rfl:=aC h
         exact hK _ _ _ _ _ aJ ak (kn _ hfr (ai.trans rfl))
       · refine az (aA cC ai) ?_
         refine bP h (fun cr h=> ?_) fun cr h=> ?_
         · refine az (aA cr ai) ?_
           obtain rfl:=aC h
           exact hK _ _ _ _ _ aJ ak (kn _ hfr (ai.trans rfl))
         · refine az (aA cr ai) ?_
           refine bP h (fun cP h=> ?_) fun cP h=> ?_
           · refine az (aA cP ai) ?_
             obtain rfl:=aC h
             exact hK _ _ _ _ _ aJ ak (kn _ hfr (ai.trans rfl))
           · refine az (aA cP ai) ?_
             obtain rfl:=aC h
             exact hK _ _ _ _ _ aJ ak (kn _ hfr (ai.trans rfl))
theorem vY {F:Nat} {i11:Int} {eA:Int} {KZ:List UInt8} {e9:Int} {q9:Nat} {a1:aB} {H0 H:AH} (hfr:Fr H0 H0.length [] H) (ai:H[q9]? =some [(.str a1.av),(.str a1.domain)]) (dL:H0.length≤q9) {K:Exit→Env→AH→Prop} {o:(Bool)⊕((List UInt8))}
 (h:iter (dD eA) F (KZ,i11)=some o)
 (dc:∀o':(List UInt8),o= .inr o'→∀H':AH,Fr H0 H0.length [] H'→H'[q9]? =some [(.str a1.av),(.str a1.domain)]→K (.exit 0) [(1,(.int .i64 e9)),(3,(.ptr q9 0)),(7,(.str o'))] H'):
 AX Tryz.prog fV 181 H0.length (.loop (erase lq)) K [(1,(.int .i64 e9)),(2,(.int .i64 eA)),(3,(.ptr q9 0)),(7,(.str KZ)),(8,(.int .i64 i11))] H:=by
 refine gL (fun s e H1=>match s with|(KZ,i11)=>e=[(1,(.int .i64 e9)),(2,(.int .i64 eA)),(3,(.ptr q9 0)),(7,(.str KZ)),(8,(.int .i64 i11))]∧Fr H0 H0.length [] H1∧H1[q9]? =some [(.str a1.av),(.str a1.domain)]) h ⟨rfl,hfr,ai⟩ ?_
 rintro K' ⟨KZ,i11⟩ st e H ⟨rfl,hfr,ai⟩ h hN hB hR hX
 have hle:=hfr.le
 have aM:=aQ ai
 rw [dD.eq_1] at h
 refine az ai ?_
 refine bk h (fun cN h=> ?_) fun cN h=> ?_
 · obtain ⟨n8,cH,h⟩:=aq h
   refine az (aA cH ai) ?_
   obtain rfl:=aC h
   exact hN _ rfl _ _ _ _ aJ ak ⟨rfl,hfr,(ai.trans rfl)⟩
 · refine az ai ?_
   obtain rfl:=aC h
   exact hX _ _ _ _ _ dm aJ ak (dc _ (hB _ rfl) _ hfr (ai.trans rfl))
theorem vZ {e9:Int} {IJ:Nat} {E5:Nat} {og:Int} {uW:Nat} {Et:Int} {B8:Nat} {yc:Int} {tP:Int} {NH:Int} {NI:Int} {a1:aB} {dj:aF} {k6:aF} {fG:aF} {H0 H:AH} (hfr:Fr H0 H0.length [] H) (ai:H[IJ]? =some [(.str a1.av),(.str a1.domain)]) (aN:H[E5]? =some [(.int .i64 dj.kind),(.str dj.arg),(.str dj.path.av),(.str dj.path.domain),(.int .i64 dj.size)]) (br:H[uW]? =some [(.int .i64 k6.kind),(.str k6.arg),(.str k6.path.av),(.str k6.path.domain),(.int .i64 k6.size)]) (bV:H[B8]? =some [(.int .i64 fG.kind),(.str fG.arg),(.str fG.path.av),(.str fG.path.domain),(.int .i64 fG.size)]) (dL:H0.length≤IJ) (hi1:H0.length≤E5) (hi2:IJ≠E5) (hi3:H0.length≤uW) (hi4:IJ≠uW) (hi5:E5≠uW) (hi6:H0.length≤B8) (hi7:IJ≠B8) (hi8:E5≠B8) (hi9:uW≠B8) {K:Exit→Env→AH→Prop}
 (kn:∀H':AH,Fr H0 H0.length [] H'→H'[IJ]? =some [(.str a1.av),(.str a1.domain)]→H'[E5]? =some [(.int .i64 dj.kind),(.str dj.arg),(.str dj.path.av),(.str dj.path.domain),(.int .i64 dj.size)]→H'[uW]? =some [(.int .i64 k6.kind),(.str k6.arg),(.str k6.path.av),(.str k6.path.domain),(.int .i64 k6.size)]→H'[B8]? =some [(.int .i64 fG.kind),(.str fG.arg),(.str fG.path.av),(.str fG.path.domain),(.int .i64 fG.size)]→K .normal [(3,(.ptr IJ 0)),(14,(.ptr B8 0)),(15,(.int .i64 yc)),(22,(.bool (decide (a1.av=([]:List UInt8))&&decide (a1.domain=([]:List UInt8))))),(156,(.bool (((((((((!decide (og=0))||(!(decide (dj.path.av=a1.av)&&decide (dj.path.domain=a1.domain))))||(!decide (dj.size=(-1))))||(!decide (Et=0)))||(!decide (k6.size=e9)))||(!(decide (k6.path.av=a1.av)&&decide (k6.path.domain=a1.domain))))||(!decide (tP=555)))||(!decide (NH=501)))||(!decide (NI=501)))))] H'):
 AX Tryz.prog fV 181 H0.length (erase mA) K [(1,(.int .i64 e9)),(3,(.ptr IJ 0)),(10,(.ptr E5 0)),(11,(.int .i64 og)),(12,(.ptr uW 0)),(13,(.int .i64 Et)),(14,(.ptr B8 0)),(15,(.int .i64 yc)),(17,(.int .i64 tP)),(19,(.int .i64 NH)),(21,(.int .i64 NI)),(22,(.bool (decide (a1.av=([]:List UInt8))&&decide (a1.domain=([]:List UInt8)))))] H:=by
 refine bY fun K' hK=> ?_
 have hle:=hfr.le
 have aM:=aQ ai
 have lI:=aQ aN
 have yG:=aQ br
 have NJ:=aQ bV
 refine az (aA ai (aA aN (aA br bV))) ?_
 refine gK (fun sF=> ?_) fun sF=> ?_
 · refine az (aA sF (aA ai (aA aN (aA br bV)))) ?_
   exact hK _ _ _ _ _ (dy sF) ak (kn _ hfr (ai.trans rfl) (aN.trans rfl) (br.trans rfl) (bV.trans rfl))
 · refine az (aA sF (aA ai (aA aN (aA br bV)))) ?_
   refine gK (fun uj=> ?_) fun uj=> ?_
   · refine az (aA uj (aA ai (aA aN (aA br bV)))) ?_
     exact hK _ _ _ _ _ (dy (aA sF uj)) ak (kn _ hfr (ai.trans rfl) (aN.trans rfl) (br.trans rfl) (bV.trans rfl))
   · refine az (aA uj (aA ai (aA aN (aA br bV)))) ?_
     refine gK (fun vD=> ?_) fun vD=> ?_
     · refine az (aA vD (aA ai (aA aN (aA br bV)))) ?_
       exact hK _ _ _ _ _ (dy (aA sF (aA uj vD))) ak (kn _ hfr (ai.trans rfl) (aN.trans rfl) (br.trans rfl) (bV.trans rfl))
     · refine az (aA vD (aA ai (aA aN (aA br bV)))) ?_
       refine gK (fun xl=> ?_) fun xl=> ?_
       · refine az (aA xl (aA ai (aA aN (aA br bV)))) ?_
         exact hK _ _ _ _ _ (dy (aA sF (aA uj (aA vD xl)))) ak (kn _ hfr (ai.trans rfl) (aN.trans rfl) (br.trans rfl) (bV.trans rfl))
       · refine az (aA xl (aA ai (aA aN (aA br bV)))) ?_
         refine gK (fun sE=> ?_) fun sE=> ?_
         · refine az (aA sE (aA ai (aA aN (aA br bV)))) ?_
           exact hK _ _ _ _ _ (dy (aA sF (aA uj (aA vD (aA xl sE))))) ak (kn _ hfr (ai.trans rfl) (aN.trans rfl) (br.trans rfl) (bV.trans rfl))
         · refine az (aA sE (aA ai (aA aN (aA br bV)))) ?_
           refine gK (fun A1=> ?_) fun A1=> ?_
           · refine az (aA A1 (aA ai (aA aN (aA br bV)))) ?_
             exact hK _ _ _ _ _ (dy (aA sF (aA uj (aA vD (aA xl (aA sE A1)))))) ak (kn _ hfr (ai.trans rfl) (aN.trans rfl) (br.trans rfl) (bV.trans rfl))
           · refine az (aA A1 (aA ai (aA aN (aA br bV)))) ?_
             refine gK (fun Cq=> ?_) fun Cq=> ?_
             · refine az (aA Cq (aA ai (aA aN (aA br bV)))) ?_
               exact hK _ _ _ _ _ (dy (aA sF (aA uj (aA vD (aA xl (aA sE (aA A1 Cq))))))) ak (kn _ hfr (ai.trans rfl) (aN.trans rfl) (br.trans rfl) (bV.trans rfl))
             · refine az (aA Cq (aA ai (aA aN (aA br bV)))) ?_
               refine gK (fun ET=> ?_) fun ET=> ?_
               · refine az (aA ET (aA ai (aA aN (aA br bV)))) ?_
                 exact hK _ _ _ _ _ (dy (aA sF (aA uj (aA vD (aA xl (aA sE (aA A1 (aA Cq ET)))))))) ak (kn _ hfr (ai.trans rfl) (aN.trans rfl) (br.trans rfl) (bV.trans rfl))
               · refine az (aA ET (aA ai (aA aN (aA br bV)))) ?_
                 exact hK _ _ _ _ _ (dy (aA sF (aA uj (aA vD (aA xl (aA sE (aA A1 (aA Cq ET)))))))) ak (kn _ hfr (ai.trans rfl) (aN.trans rfl) (br.trans rfl) (bV.trans rfl))
theorem v7 {RP:Nat} {RQ:Nat} {yc:Int} {a1:aB} {fG:aF} {H0 H:AH} (hfr:Fr H0 H0.length [] H) (ai:H[RP]? =some [(.str a1.av),(.str a1.domain)]) (bV:H[RQ]? =some [(.int .i64 fG.kind),(.str fG.arg),(.str fG.path.av),(.str fG.path.domain),(.int .i64 fG.size)]) (dL:H0.length≤RP) (hi1:H0.length≤RQ) (hi2:RP≠RQ) {K:Exit→Env→AH→Prop}
 (kn:∀H':AH,Fr H0 H0.length [] H'→H'[RP]? =some [(.str a1.av),(.str a1.domain)]→H'[RQ]? =some [(.int .i64 fG.kind),(.str fG.arg),(.str fG.path.av),(.str fG.path.domain),(.int .i64 fG.size)]→K .normal [(6,(.bool (((decide (a1.av=([]:List UInt8))&&decide (a1.domain=([]:List UInt8)))&&(decide (yc=501)))||((((!(decide (a1.av=([]:List UInt8))&&decide (a1.domain=([]:List UInt8))))&&(decide (yc=0)))&&(decide (fG.path.av=a1.av)&&decide (fG.path.domain=a1.domain)))&&(decide (fG.kind=4))))))] H'):
 AX Tryz.prog fV 181 H0.length (erase mB) K [(3,(.ptr RP 0)),(14,(.ptr RQ 0)),(15,(.int .i64 yc)),(22,(.bool (decide (a1.av=([]:List UInt8))&&decide (a1.domain=([]:List UInt8)))))] H:=by
 refine bY fun K' hK=> ?_
 have hle:=hfr.le
 have aM:=aQ ai
 have NJ:=aQ bV
 refine az (aA ai bV) ?_
 refine gK (fun Cy=> ?_) fun Cy=> ?_
 · refine az (aA Cy (aA ai bV)) ?_
   refine gK (fun K1=> ?_) fun K1=> ?_
   · refine az (aA K1 (aA ai bV)) ?_
     exact hK _ _ _ _ _ (dy (aA Cy K1)) ak (kn _ hfr (ai.trans rfl) (bV.trans rfl))
   · refine az (aA K1 (aA ai bV)) ?_
     exact hK _ _ _ _ _ (dy (aA Cy K1)) ak (kn _ hfr (ai.trans rfl) (bV.trans rfl))
 · refine az (aA Cy (aA ai bV)) ?_
   refine gK (fun GA=> ?_) fun GA=> ?_
   · refine az (aA GA (aA ai bV)) ?_
     refine gK (fun K2=> ?_) fun K2=> ?_
     · refine az (aA K2 (aA ai bV)) ?_
       exact hK _ _ _ _ _ (dy (aA Cy (aA GA K2))) ak (kn _ hfr (ai.trans rfl) (bV.trans rfl))
     · refine az (aA K2 (aA ai bV)) ?_
       exact hK _ _ _ _ _ (dy (aA Cy (aA GA K2))) ak (kn _ hfr (ai.trans rfl) (bV.trans rfl))
   · refine az (aA GA (aA ai bV)) ?_
     exact hK _ _ _ _ _ (dy (aA Cy GA)) ak (kn _ hfr (ai.trans rfl) (bV.trans rfl))
theorem zP {F:Nat} {a1:aB} {e9:Int} {eA:Int} {H0:AH} {aS:Bool} (h:jT F a1 e9 eA=some aS):
 aG Tryz.prog 5 [(.agg [(.str a1.av),(.str a1.domain)]),(.int .i64 e9),(.int .i64 eA)] H0 fun v H'=>v=(.bool aS)∧H'=H0:=by
 refine l7 Ba fV [] fun hcl K0 aO H hH hfr=> ?_
 clear hH
 have hle:=hfr.le
 rw [jT.eq_1] at h
 refine cM ?_
 obtain ⟨r4,hy1,h⟩:=aq h
 refine bC ak (vu hy1) ?_
 refine cM ?_
 refine bk h (fun hy2 h=> ?_) fun hy2 h=> ?_
 · refine cM ?_
   obtain rfl:=aC h
   exact aO _ _ _ bh (aT (Fr.app hfr) hcl (aW aZ (.bool false)) bf aX ⟨rfl,rfl⟩)
 · refine cM ?_
   obtain ⟨q5,yI⟩:∃q:Nat,H.length=q:=⟨_,rfl⟩
   try rw [yI]
   obtain ⟨t8,ck,h⟩:=aq h
   refine bz ak (vX (q5:=q5) (Fr.app hfr) uC bX ck ?_)
   intro H hfr ai
   have hle:=hfr.le
   have aM:=aQ ai
   refine az ai ?_
   refine bk h (fun cx h=> ?_) fun cx h=> ?_
   · refine az ai ?_
     obtain rfl:=aC h
     exact aO _ _ _ bh (aT hfr hcl (aW aZ (.bool true)) bf aX ⟨rfl,rfl⟩)
   · refine az ai ?_
     obtain ⟨o47,dV,h⟩:=aq h
     refine bz ak (vY (e9:=e9) (a1:=a1) (q9:=q5) hfr (ai.trans rfl) bX dV ?_)
     · rintro Yq rfl H hfr ai
       try dsimp only at h ai
       have hle:=hfr.le
       have aM:=aQ ai
       refine az ai ?_
       obtain ⟨fm,eT,h⟩:=aq h
       refine bC ak (pK eT) ?_
       refine az ai ?_
       obtain ⟨lE,ei,h⟩:=aq h
       obtain ⟨qR,gY,h⟩:=aq h
       refine az (aA ei (aA gY ai)) ?_
       obtain ⟨⟨dj,og⟩,gq,h⟩:=aq h
       dsimp only at h
       refine bC ak (cQ gq) ?_
       refine az ai ?_
       obtain ⟨kZ,fS,h⟩:=aq h
       obtain ⟨BL,fT,h⟩:=aq h
       obtain ⟨Iw,gr,h⟩:=aq h
       refine az (aA fS (aA fT (aA gr ai))) ?_
       obtain ⟨Ir,gZ,h⟩:=aq h
       refine bC ak (A8 gZ) ?_
       refine az ai ?_
       obtain ⟨D8,iQ,h⟩:=aq h
       refine az (aA iQ ai) ?_
       obtain ⟨⟨k6,Et⟩,gD,h⟩:=aq h
       dsimp only at h
       refine bC ak (cQ gD) ?_
       refine az ai ?_
       obtain ⟨Vx,hM,h⟩:=aq h
       obtain ⟨yb,jJ,h⟩:=aq h
       refine az (aA hM (aA jJ ai)) ?_
       obtain ⟨⟨fG,yc⟩,pJ,h⟩:=aq h
       dsimp only at h
       refine bC ak (cQ pJ) ?_
       refine az ai ?_
       obtain ⟨Rr,rM,h⟩:=aq h
       obtain ⟨x32,ED,h⟩:=aq h
       refine az (aA rM (aA ED ai)) ?_
       obtain ⟨⟨r33,tP⟩,Cp,h⟩:=aq h
       dsimp only at h
       refine bC ak (cQ Cp) ?_
       refine az ai ?_
       obtain ⟨x35,EE,h⟩:=aq h
       refine az (aA EE ai) ?_
       obtain ⟨⟨r36,NH⟩,EG,h⟩:=aq h
       dsimp only at h
       refine bC ak (cQ EG) ?_
       refine az ai ?_
       obtain ⟨UZ,KC,h⟩:=aq h
       refine az (aA rM (aA KC ai)) ?_
       obtain ⟨⟨XX,NI⟩,U1,h⟩:=aq h
       dsimp only at h
       refine bC ak (cQ U1) ?_
       refine az ai ?_
       obtain ⟨uW,Yr⟩:∃q:Nat,(H.length+1)=q:=⟨_,rfl⟩
       try rw [Yr]
       obtain ⟨B8,Ys⟩:∃q:Nat,(H.length+2)=q:=⟨_,rfl⟩
       try rw [Ys]
       obtain ⟨E5,Yt⟩:∃q:Nat,H.length=q:=⟨_,rfl⟩
       try rw [Yt]
       try rw [show E5+1=uW from by omega]
       try rw [show uW+1=B8 from by omega]
       refine bz ak (vZ (e9:=e9) (IJ:=q5) (E5:=E5) (og:=og) (uW:=uW) (Et:=Et) (B8:=B8) (yc:=yc) (tP:=tP) (NH:=NH) (NI:=NI) (a1:=a1) (dj:=dj) (k6:=k6) (fG:=fG) (bW _ (Fr.app (bW _ (Fr.app (bW _ (Fr.app (bW _ (Fr.app (bW _ (Fr.app (bW _ (Fr.app hfr)))))))))))) (fN (kz (fN (kz (fN (kz (fN (kz (fN (kz (fN (kz (ai.trans rfl))))))))))))) (fN (kz (fN (kz (fN (kz (fN (kz (fN (kz cA)))))))))) (fN (kz (fN (kz (fN (kz (fN (kz cA)))))))) (fN (kz (fN (kz (fN (kz cA)))))) bX bX bX bX bX bX bX bX bX bX ?_)
       intro H hfr ai aN br bV
       have hle:=hfr.le
       have aM:=aQ ai
       have lI:=aQ aN
       have yG:=aQ br
       have NJ:=aQ bV
       refine az (aA ai (aA aN (aA br bV))) ?_
       refine bk h (fun U2 h=> ?_) fun U2 h=> ?_
       · refine az (aA ai (aA aN (aA br bV))) ?_
         obtain rfl:=aC h
         exact aO _ _ _ bh (aT hfr hcl (aW aZ (.bool false)) bf aX ⟨rfl,rfl⟩)
       · refine az (aA ai (aA aN (aA br bV))) ?_
         refine bz ak (v7 (RP:=q5) (RQ:=B8) (yc:=yc) (a1:=a1) (fG:=fG) hfr (ai.trans rfl) (bV.trans rfl) bX bX bX ?_)
         intro H hfr ai bV
         have hle:=hfr.le
         have aM:=aQ ai
         have NJ:=aQ bV
         refine az (aA ai bV) ?_
         obtain rfl:=aC h
         exact aO _ _ _ bh (aT hfr hcl (aW aZ (.bool (((decide (a1.av=([]:List UInt8))&&decide (a1.domain=([]:List UInt8)))&&(decide (yc=501)))||((((!(decide (a1.av=([]:List UInt8))&&decide (a1.domain=([]:List UInt8))))&&(decide (yc=0)))&&(decide (fG.path.av=a1.av)&&decide (fG.path.domain=a1.domain)))&&(decide (fG.kind=4)))))) bf aX ⟨rfl,rfl⟩)
end Go.Proofs.dO
end
section
set_option maxRecDepth 100000
namespace Go.Proofs.dO
open Go Go.Am Go.Proofs
def fJ (a:aB):List UInt8:=if eG a then [60,62] else lP a
theorem Vy (c:UInt8):gx c=true→bR c=true:=by
 have:=fU (p:=fun c=> !gx c||bR c) (by kernel_rfl) c
 intro h;simpa [h] using this
theorem Vz {l:List UInt8} (h:l.all bR=true):∀c∈esc l,bR c=true:=by
 intro c hc
 unfold esc at hc
 rw [List.mem_flatMap] at hc
 obtain ⟨d,hd,hc⟩:=hc
 have hv:=List.all_eq_true.1 h d hd
 split at hc
 · simp at hc
   rcases hc with rfl|rfl
   · decide
   · exact hv
 · simp at hc;subst hc;exact hv
theorem Yu {a:aB} (h:eJ a=true):∀c∈fJ a,bR c=true:=by
 unfold fJ
 cases hn:eG a with
 |true=>rw [if_pos rfl];decide
 |false=>
  simp only [Bool.false_eq_true,if_false]
  simp only [eJ,hn,Bool.false_or,Bool.and_eq_true] at h
  obtain ⟨⟨hl,hd⟩, -⟩:=h
  simp only [Gy,Bool.and_eq_true] at hl
  have VA:∀c∈a.domain,bR c=true:=fun c hc=>Vy c (E0 hd c hc)
  have hlv:∀c∈a.av,bR c=true:=fun c hc=>List.all_eq_true.1 hl.2 c hc
  intro c hc
  unfold lP at hc
  split at hc
  · simp only [List.mem_cons,List.mem_append,List.mem_nil_iff,or_false] at hc
    rcases hc with rfl|hc|rfl|hc|rfl
    · decide
    · exact hlv c hc
    · decide
    · exact VA c hc
    · decide
  · simp only [List.mem_cons,List.mem_append,List.mem_nil_iff,or_false] at hc
    rcases hc with rfl|rfl|hc|rfl|rfl|hc|rfl
    · decide
    · decide
    · exact Vz hl.2 c hc
    · decide
    · decide
    · exact VA c hc
    · decide
theorem VB (a:aB):(fJ a).getLast?=some 62:=by
 unfold fJ
 split
 · rfl
 · unfold lP
   split
   · rw [show (60::(a.av++64::(a.domain++[62])):List UInt8)=(60::(a.av++64::a.domain))++[62] by simp,List.getLast?_concat]
   · rw [show (60::34::(esc a.av++34::64::(a.domain++[62])):List UInt8)=(60::34::(esc a.av++34::64::a.domain))++[62] by simp,List.getLast?_concat]
theorem VC (a:aB):∃t,fJ a=60::t:=by
 unfold fJ
 split
 · exact ⟨_,rfl⟩
 · unfold lP
   split<;>exact ⟨_,rfl⟩
theorem Yv {a:aB} (h:eJ a=true):(fJ a).length≤256:=by
 unfold fJ
 cases hn:eG a with
 |true=>simp
 |false=>
  simp only [eJ,hn,Bool.false_or,Bool.and_eq_true,decide_eq_true_eq] at h
  simpa using h.2
theorem VD {a:aB} (h:eG a=true):a=A0:=by
 unfold eG at h
 simp only [Bool.and_eq_true,decide_eq_true_eq] at h
 cases a;simp at h;simp [h]
theorem VE {a:aB} (h:eJ a=true) (more:List UInt8):jx (fJ a++more)=(a,more,0):=by
 unfold fJ
 cases hn:eG a with
 |true=>
  have:=VD hn
  subst this
  simp [jx,B3,nx,eJ,eG]
 |false=>
  simp only [Bool.false_eq_true,if_false]
  exact NA hn h more
def bl (n:Nat):List UInt8:=List.replicate n 32
theorem VF (n:Nat) {t:List UInt8} (h:t.head?≠some 32):(bl n++t).dropWhile blk=t:=by
 induction n with
 |zero=>
  cases t with
  |nil=>rfl
  |cons c r=>
   have:c≠32:=by rintro rfl;exact h rfl
   simp [bl,List.dropWhile_cons,blk,this]
 |succ n ih=>simpa [bl,List.replicate_succ,List.dropWhile_cons,blk] using ih
theorem Bb {w f:List UInt8} {a:aB} {n:Nat} {more:List UInt8} (hf:f.map low=w) (h:eJ a=true):uo w (f++(bl n++(fJ a++more)))=(a,more,true):=by
 have hlen:w.length=f.length:=by rw [←hf];simp
 have hfr:gi w (f++(bl n++(fJ a++more)))=true:=by
  unfold gi
  simp only [Bool.and_eq_true,decide_eq_true_eq]
  refine ⟨by rw [hlen];simp, ?_⟩
  rw [hlen,List.take_left];exact hf
 obtain ⟨t,ht⟩:=VC a
 have hd:((f++(bl n++(fJ a++more))).drop w.length).dropWhile blk=fJ a++more:=by
  rw [hlen,List.drop_left]
  exact VF n (by rw [ht];simp)
 unfold uo
 rw [if_pos hfr,hd,VE h more]
 rfl
theorem lQ {wd f:List UInt8} {a:aB} {n:Nat} {more:List UInt8} (hw:∀c∈wd,bR c=true∧nb c=true) (hf:∀c∈f,bR c=true) (h:eJ a=true)
 (hm:∀c∈more,bR c=true) (hl:more.getLast?≠some 32):E2 (wd++((32::f)++(bl n++(fJ a++more))))=gP (fA (wd.map low)) ((32::f)++(bl n++(fJ a++more))):=by
 unfold E2
 have hp:=Yu h
 have hb:∀c∈bl n,bR c=true:=by
  intro c hc
  have:=List.eq_of_mem_replicate hc
  subst this;decide
 have hv:(wd++((32::f)++(bl n++(fJ a++more)))).all bR=true:=by
  rw [List.all_eq_true]
  intro c hc
  simp only [List.mem_append,List.mem_cons] at hc
  rcases hc with hc|(rfl|hc)|hc|hc|hc
  · exact (hw c hc).1
  · decide
  · exact hf c hc
  · exact hb c hc
  · exact hp c hc
  · exact hm c hc
 rw [if_pos hv]
 have hla:(wd++((32::f)++(bl n++(fJ a++more)))).getLast?≠some 32:=by
  have e:wd++((32::f)++(bl n++(fJ a++more)))=(wd++((32::f)++bl n))++(fJ a++more):=by simp
  rw [e,List.getLast?_append,List.getLast?_append,VB]
  cases hm2:more.getLast? with
  |none=>simp
  |some c=>rw [hm2] at hl;simpa using hl
 rw [E4 hla,show wd++((32::f)++(bl n++(fJ a++more)))=wd++32::(f++(bl n++(fJ a++more))) by simp]
 have:=Dl (q:=nb) (l:=wd) (x:=32) (by decide) (fun c hc=>(hw c hc).2) (f++(bl n++(fJ a++more)))
 rw [this.1,this.2]
 rfl
def eD (n:Nat):UInt8:=UInt8.ofNat (48+n % 10)
theorem K3 (n:Nat):fZ (eD n)=true∧(eD n).toNat - 48=n % 10:=by
 have:(List.range 10).all (fun m=>fZ (UInt8.ofNat (48+m))&&decide ((UInt8.ofNat (48+m)).toNat - 48=m))=true:=by kernel_rfl
 have:=List.all_eq_true.1 this (n % 10) (by simp;omega)
 simpa [eD] using this
theorem VG (n:Nat) (hn:n≤1000000000):UInt8.ofInt (IntKind.wrap .i64 (48+(Int.tmod (n:Int) 10)))=eD n:=by
 have:Int.tmod (n:Int) 10=((n % 10:Nat):Int):=rfl
 rw [this,wr (by omega) (by omega)]
 have h10:(List.range 10).all (fun m:Nat=>decide (UInt8.ofInt (48+(m:Int))=UInt8.ofNat (48+m)))=true:=by kernel_rfl
 exact of_decide_eq_true (List.all_eq_true.1 h10 (n % 10) (by simp;omega))
def qS:Nat→Nat→List UInt8→List UInt8
 |0,_,s=>s
 |k+1,n,s=>if 10≤n then qS k (n / 10) (eD (n / 10)::s) else s
def dec (n:Nat):List UInt8:=qS 20 n [eD n]
theorem RR:∀(k n G:Nat) (s:List UInt8),n≤1000000000→n<10 ^ (k+1)→s.length+k≤1000→k<G→iter cU G ((n:Int),s)=some (.inr (qS k n s)):=by
 intro k
 induction k with
 |zero=>intro n G s _ h _ hG;obtain ⟨G,rfl⟩:=c6 hG;exact cI (by simp [cU,qS];omega)
 |succ k ih=>
  intro n G s hn hk hs hG
  obtain ⟨G,rfl⟩:=c6 hG
  by_cases h:10≤n
  · have:cU ((n:Int),s)=some (.cY (((n / 10:Nat):Int),eD (n / 10)::s)):=by
     simp only [cU]
     have:Int.tdiv (n:Int) 10=((n / 10:Nat):Int):=rfl
     rw [if_pos (by simp;omega),this,show IntKind.wrap .i64 ((n / 10:Nat):Int)=((n / 10:Nat):Int) from wr (by omega) (by omega),VG _ (by omega),cW (by simp;omega)]
     rfl
    rw [eg this,ih (n / 10) G _ (by omega) (by rw [Nat.pow_succ] at hk;omega) (by simp;omega) (by omega)]
    simp [qS,h]
  · have:cU ((n:Int),s)=some (.dR s):=by
     simp only [cU]
     rw [if_neg (by simp;omega)]
    rw [cI this]
    simp [qS,h]
theorem aa9 {n F:Nat} (hn:n≤999999999) (hF:100<F):iU F (n:Int)=some (dec n):=by
 unfold iU dec
 rw [VG n (by omega),RR 20 n F _ (by omega) (by omega) (by simp) (by omega)]
 rfl
theorem VH:∀(k n:Nat) (s:List UInt8),s.all fZ=true→(qS k n s).all fZ=true:=by
 intro k
 induction k with
 |zero=>intro n s h;exact h
 |succ k ih=>
  intro n s h
  unfold qS
  split
  · exact ih _ _ (by simp [h,(K3 (n / 10)).1])
  · exact h
theorem VI:∀(k n:Nat) (s:List UInt8),n<10 ^ (k+1)→qS k n (eD n::s)=qS k n [eD n]++s:=by
 intro k
 induction k with
 |zero=>intro n s _;rfl
 |succ k ih=>
  intro n s h
  unfold qS
  split
  · have h2:n / 10<10 ^ (k+1):=by rw [Nat.pow_succ] at h;omega
    rw [ih (n / 10) (eD n::s) h2,ih (n / 10) [eD n] h2];simp
  · rfl
theorem VJ:∀(k n:Nat),n<10 ^ (k+1)→vE (qS k n [eD n])=n∧(qS k n [eD n]).length≤k+1∧qS k n [eD n]≠[]:=by
 intro k
 induction k with
 |zero=>
  intro n h
  refine ⟨?_,by simp [qS],by simp [qS]⟩
  simp only [qS,vE,List.foldl_cons,List.foldl_nil,(K3 n).2]
  simp at h ⊢;omega
 |succ k ih=>
  intro n h
  unfold qS
  split
  · have h2:n / 10<10 ^ (k+1):=by rw [Nat.pow_succ] at h;omega
    rw [VI k (n / 10) [eD n] h2]
    obtain ⟨i1,i2,i3⟩:=ih (n / 10) h2
    refine ⟨?_,by simp;omega,by simp⟩
    unfold vE at i1 ⊢
    rw [List.foldl_append,i1]
    simp only [List.foldl_cons,List.foldl_nil,(K3 n).2]
    omega
  · refine ⟨?_,by simp,by simp⟩
    simp only [vE,List.foldl_cons,List.foldl_nil,(K3 n).2]
    omega
theorem RS:∀(j k n:Nat) (s:List UInt8),n<10 ^ (k+1)→qS (k+j) n s=qS k n s:=by
 intro j k
 induction k with
 |zero=>
  intro n s h
  cases j with
  |zero=>rfl
  |succ j=>rw [Nat.zero_add];unfold qS;rw [if_neg (by simp at h;omega)]
 |succ k ih=>
  intro n s h
  rw [Nat.add_right_comm]
  unfold qS
  split
  · exact ih _ _ (by rw [Nat.pow_succ] at h;omega)
  · rfl
theorem K4 {n:Nat} (hn:n≤999999999):vE (dec n)=n∧(dec n).length≤9∧dec n≠[]∧(dec n).all fZ=true:=by
 unfold dec
 rw [show 20=8+12 from rfl,RS 12 8 n _ (by omega)]
 obtain ⟨h1,h2,h3⟩:=VJ 8 n (by omega)
 exact ⟨h1,h2,h3,VH _ _ _ (by simp [(K3 n).1])⟩
theorem VK (c:UInt8):fZ c=true→bR c=true∧c≠32:=by
 have:=fU (p:=fun c=> !fZ c||(bR c&& !decide (c=32))) (by kernel_rfl) c
 intro h;simpa [h] using this
theorem RT {n:Nat} (hn:n≤999999999) {w:List UInt8} (hw:w.map low=B5):xq (w++dec n)=some n:=by
 obtain ⟨h1,h2,h3,h4⟩:=K4 hn
 have hl:w.length=6:=by have:=congrArg List.length hw;simpa using this
 unfold xq
 have e:(w++dec n).drop 6=dec n:=by rw [←hl,List.drop_left]
 have hf:gi B5 (w++dec n)=true:=by
  unfold gi
  simp only [Bool.and_eq_true,decide_eq_true_eq]
  refine ⟨by simp [hl], ?_⟩
  have:(B5.length)=w.length:=by rw [hl];rfl
  rw [this,List.take_left];exact hw
 rw [e,if_pos ⟨hf,h3,h2,h4⟩,h1]
theorem IK {n F:Nat} (h:n≤20) (hF:100<F):iter (dD (n:Int)) F ([],0)=some (.inr (bl n)):=by
 have hh:=lpo (ρ:=Bool) (s:=List.range n) (body:=dD (n:Int)) (mk:=fun (a:List UInt8) i=>(a,(i:Int))) (tt:=fun a=>a) (step:=fun a _=>a++[32])
  (fun a i=>a=bl i) ?_ ?_ (F:=F) (a:=[]) (by simp;omega) rfl
 · rw [show (([]:List UInt8),(0:Int))=(([]:List UInt8),((0:Nat):Int)) from rfl,hh.1]
   have:=hh.2
   simp only [List.length_range] at this
   rw [this]
 · intro a i x hx hI
   have hi:=(List.getElem?_eq_some_iff.1 hx).1
   simp only [List.length_range] at hi
   subst hI
   refine ⟨?_,by simp [bl,List.replicate_succ']⟩
   simp only [dD]
   rw [if_pos (by simpa using hi),cW (by simp [bl];omega)]
   simp only [Option.bind_some]
   rw [Vm (by omega)]
 · intro a hI
   simp only [dD]
   rw [if_neg (by simp)]
theorem F7 (a:aB) (size Bc:Int):∃F,jT F a size Bc=some true:=by
 refine ⟨100000+100, ?_⟩
 unfold jT gQ
 rw [KW]
 simp only [Option.bind_some,Bool.not_true,Bool.false_eq_true,if_false]
 by_cases h1:300<a.av.length
 · rw [if_pos (by simp;omega)];rfl
 · rw [if_neg (by simp;omega)]
   by_cases h2:600<a.domain.length
   · rw [if_pos (by simp;omega)];rfl
   · rw [if_neg (by simp;omega),xJ (by omega) (by omega) (by omega)]
     simp only [Option.bind_some]
     cases hr:eJ a with
     |false=>simp
     |true=>
      simp only [Bool.not_true,Bool.false_eq_true,if_false]
      by_cases h3:size<0
      · rw [if_pos (by simpa using h3)];rfl
      · rw [if_neg (by simpa using h3)]
        by_cases h4:999999999<size
        · rw [if_pos (by simpa using h4)];rfl
        · rw [if_neg (by simpa using h4)]
          by_cases h5:Bc<0
          · rw [if_pos (by simpa using h5)];rfl
          · rw [if_neg (by simpa using h5)]
            simp only [Option.bind_some]
            by_cases h6:20<Bc
            · rw [if_pos (by simpa using h6)]
            · rw [if_neg (by simpa using h6)]
              obtain ⟨n,rfl⟩:∃n:Nat,size=(n:Int):=⟨size.toNat,by omega⟩
              obtain ⟨b,rfl⟩:∃b:Nat,Bc=(b:Int):=⟨Bc.toNat,by omega⟩
              rw [IK (by omega) (by omega)]
              simp only [Option.bind_some]
              rw [RH (by omega) (by omega) (by omega)]
              have hpr:(if eG a then ([60,62]:List UInt8) else if eJ a then lP a else [])=fJ a:=by
               unfold fJ;rw [hr];rfl
              rw [hpr]
              simp only [Option.bind_some]
              have hpl:=Yv hr
              have hbl:(bl b).length=b:=by simp [bl]
              obtain ⟨d1,d2,d3,d4⟩:=K4 (n:=n) (by omega)
              have VA:∀c∈dec n,bR c=true∧c≠32:=fun c hc=>VK c (List.all_eq_true.1 d4 c hc)
              rw [cW (by simp;omega)];simp only [Option.bind_some]
              rw [cW (by simp;omega)];simp only [Option.bind_some]
              have e1:([77,65,73,76,32,70,82,79,77,58]++bl b)++fJ a=[77,65,73,76]++((32::[70,82,79,77,58])++(bl b++(fJ a++[]))):=by simp
              rw [kT (by simp;omega) (by omega),e1,lQ (by decide) (by decide) hr (by simp) (by simp)]
              simp only [Option.bind_some]
              have k3:fA ([77,65,73,76].map low)=3:=by decide
              have v1:gP (fA ([77,65,73,76].map low)) ((32::[70,82,79,77,58])++(bl b++(fJ a++[])))=(aF.mk 3 [] a (-1),0):=by
               rw [k3]
               have:=Bb (w:=nR) (f:=32::[70,82,79,77,58]) (n:=b) (more:=[]) (by decide) hr
               simp only [gP,zO,this]
               simp
              rw [v1]
              rw [cW (by simp;omega)];simp only [Option.bind_some]
              rw [cW (by simp;omega)];simp only [Option.bind_some]
              rw [cW (by simp;omega)];simp only [Option.bind_some]
              rw [aa9 (by omega) (by omega)];simp only [Option.bind_some]
              rw [cW (by simp;omega)];simp only [Option.bind_some]
              have e2:(([109,97,105,108,32,102,114,111,109,58]++bl b)++fJ a)++[32,83,73,90,69,61]++dec n=[109,97,105,108]++((32::[102,114,111,109,58])++(bl b++(fJ a++([32,83,73,90,69,61]++dec n)))):=by simp
              have hml:([32,83,73,90,69,61]++dec n).getLast?≠some 32:=by
               rw [List.getLast?_append]
               cases hg:(dec n).getLast? with
               |none=>exact absurd (List.getLast?_eq_none_iff.1 hg) d3
               |some c=>
                have:=(VA c (List.mem_of_getLast? hg)).2
                simpa using this
              have hmv:∀c∈[32,83,73,90,69,61]++dec n,bR c=true:=by
               intro c hc
               rcases List.mem_append.1 hc with hc|hc
               · exact (by decide:∀c∈([32,83,73,90,69,61]:List UInt8),bR c=true) c hc
               · exact (VA c hc).1
              rw [kT (by simp;omega) (by omega),e2,lQ (by decide) (by decide) hr hmv hml]
              simp only [Option.bind_some]
              have k3':fA ([109,97,105,108].map low)=3:=by decide
              have v2:gP (fA ([109,97,105,108].map low)) ((32::[102,114,111,109,58])++(bl b++(fJ a++([32,83,73,90,69,61]++dec n))))=(aF.mk 3 [] a (n:Int),0):=by
               rw [k3']
               have:=Bb (w:=nR) (f:=32::[102,114,111,109,58]) (n:=b) (more:=[32,83,73,90,69,61]++dec n) (by decide) hr
               have hz:=RT (n:=n) (by omega) (w:=[32,83,73,90,69,61]) (by decide)
               simp only [gP,zO,this,hz]
               simp
              rw [v2]
              rw [cW (by simp;omega)];simp only [Option.bind_some]
              rw [cW (by simp;omega)];simp only [Option.bind_some]
              have e3:([82,67,80,84,32,84,79,58]++bl b)++fJ a=[82,67,80,84]++((32::[84,79,58])++(bl b++(fJ a++[]))):=by simp
              rw [kT (by simp;omega) (by omega),e3,lQ (by decide) (by decide) hr (by simp) (by simp)]
              simp only [Option.bind_some]
              have k4:fA ([82,67,80,84].map low)=4:=by decide
              have v3:gP (fA ([82,67,80,84].map low)) ((32::[84,79,58])++(bl b++(fJ a++[])))=if eG a=false then (aF.mk 4 [] a 0,0) else (Z,501):=by
               rw [k4]
               have:=Bb (w:=IF) (f:=32::[84,79,58]) (n:=b) (more:=[]) (by decide) hr
               simp only [gP,E1,this]
               cases eG a<;>simp
              rw [v3]
              rw [cW (by simp;omega)];simp only [Option.bind_some]
              rw [cW (by simp;omega)];simp only [Option.bind_some]
              have e4:([77,65,73,76,32,70,82,79,77,58]++fJ a)++[32,66,79,68,89,61,55,66,73,84]=[77,65,73,76]++((32::[70,82,79,77,58])++(bl 0++(fJ a++[32,66,79,68,89,61,55,66,73,84]))):=by simp [bl]
              rw [kT (by simp;omega) (by omega),e4,lQ (by decide) (by decide) hr (by decide) (by decide)]
              simp only [Option.bind_some]
              have v4:gP (fA ([77,65,73,76].map low)) ((32::[70,82,79,77,58])++(bl 0++(fJ a++[32,66,79,68,89,61,55,66,73,84])))=(Z,555):=by
               rw [k3]
               have:=Bb (w:=nR) (f:=32::[70,82,79,77,58]) (n:=0) (more:=[32,66,79,68,89,61,55,66,73,84]) (by decide) hr
               have hz:xq [32,66,79,68,89,61,55,66,73,84]=none:=by kernel_rfl
               simp only [gP,zO,this,hz]
               simp
              rw [v4]
              rw [cW (by simp;omega)];simp only [Option.bind_some]
              have e5:[82,67,80,84,32,70,82,79,77,58]++fJ a=[82,67,80,84]++((32::[70,82,79,77,58])++(bl 0++(fJ a++[]))):=by simp [bl]
              rw [kT (by simp;omega) (by omega),e5,lQ (by decide) (by decide) hr (by simp) (by simp)]
              simp only [Option.bind_some]
              have v5:gP (fA ([82,67,80,84].map low)) ((32::[70,82,79,77,58])++(bl 0++(fJ a++[])))=(Z,501):=by
               rw [k4]
               have hfr:gi IF ((32::[70,82,79,77,58])++(bl 0++(fJ a++[])))=false:=by
                unfold gi
                have:((((32::[70,82,79,77,58])++(bl 0++(fJ a++[])):List UInt8).take IF.length).map low)=[32,102,114,111]:=by simp;decide
                rw [this];simp
               simp only [gP,E1,uo,hfr]
               simp
              rw [v5]
              rw [cW (by simp;omega)];simp only [Option.bind_some]
              have e6:([77,65,73,76,32,70,82,79,77,58]++fJ a)++[120]=[77,65,73,76]++((32::[70,82,79,77,58])++(bl 0++(fJ a++[120]))):=by simp [bl]
              rw [kT (by simp;omega) (by omega),e6,lQ (by decide) (by decide) hr (by decide) (by decide)]
              simp only [Option.bind_some]
              have v6:gP (fA ([77,65,73,76].map low)) ((32::[70,82,79,77,58])++(bl 0++(fJ a++[120])))=(Z,501):=by
               rw [k3]
               have:=Bb (w:=nR) (f:=32::[70,82,79,77,58]) (n:=0) (more:=[120]) (by decide) hr
               simp only [gP,zO,this]
               simp
              rw [v6]
              cases hn:eG a with
              |true=>
               have hn2:=hn
               unfold eG at hn2
               simp [hn2]
              |false=>
               have hn2:=hn
               unfold eG at hn2
               simp [hn2]
end Go.Proofs.dO
end
section
namespace Go.Am
open Go Go.RowKit
variable [Tabs]
def C0 (W:World) (b:Nat):List Value:=match W.heap[b]? with
 |some (.cells cs _ _)=>cs.toList
 |_=>[]
theorem aG.row {P:Program} {f:Nat} {args:List AV} {R:AV→AH→Prop} (h:aG P f args [] R) {W:World} {vs:Array Value} (htab:∀e∈Tabs.l,∃cs ty fr,W.heap[e.1]? =some (.cells cs ty fr)∧e.2 cs) (hl:vs.size=args.length)
 (hv:∀(i:Nat) (a:AV),args[i]? =some a→VR (C0 W) [] a (vs.getD i undef)∧TC W (C0 W) a (vs.getD i undef)∧a.plain=true):
 Calls P f vs W fun e w'=>∃r v aH γ' C',e= .returned v∧R r aH∧VR C' γ' r v∧Below W.heap.size W w':=by
 have hg:∀t,get (eS 0 args) t=(args[t]?).getD .un:=fun t=>by rw [eC];simp
 have hno:∀p b,¬blk [] (eS 0 args) [] vs W p b:=by
  intro p b hp
  cases p with
  |obj s=>simp [blk] at hp
  |cell s i=>obtain ⟨cs,a,b0,h1, -⟩:=hp;simp at h1
  |tmp t=>
   simp only [blk,hg] at hp
   cases ht:args[t]? with
   |none=>rw [ht] at hp;simp [bS] at hp
   |some a=>rw [ht] at hp;simp only [Option.getD_some] at hp;rw [ic _ (gH (hv t a ht).2.2)] at hp;cases hp
 have hs:SR [] args.length (fun b=>b<W.heap.size) [] (C0 W) (eS 0 args) [] vs W:=by
  refine ⟨⟨rfl,fun s b cs hs=>by simp at hs,fun b hne=> ?_,fun s b cs hs=>by simp at hs,fun s b cs us ty fr hs=>by simp at hs⟩,hl,fun t=> ?_,fun p q b hp=>absurd hp (hno p b),fun p b hp=>absurd hp (hno p b),⟨fun b hb=>hb,fun e he=> ?_⟩,fun t l k xs ht=> ?_⟩
  · unfold C0 at hne ⊢
    split at hne
    · rename_i cs ty fr hb
      rw [hb]
      exact ⟨cs,ty,fr,rfl,List.prefix_refl _⟩
    · exact absurd rfl hne
  · rw [hg]
    cases ht:args[t]? with
    |none=>exact ⟨.un ..,by cases vs.getD t undef<;>trivial⟩
    |some a=>exact ⟨(hv t a ht).1,(hv t a ht).2.1⟩
  · obtain ⟨cs0,ty,fr,h2,h5⟩:=htab e he
    have h4:e.1<W.heap.size:=by
     rcases Nat.lt_or_ge e.1 W.heap.size with h3|h3
     · exact h3
     · rw [Array.getElem?_eq_none h3] at h2;cases h2
    exact ⟨h4,cs0,ty,fr,h2,h5⟩
  · rw [hg] at ht
    cases hq:args[t]? with
    |none=>rw [hq] at ht;simp at ht
    |some a=>rw [hq] at ht;exact absurd ht (xB (hv t a hq).2.2 l k xs)
 refine (h.2 _ [] (C0 W) W vs hs).mono ?_
 rintro e w' ⟨r,v,aH,γ',C',rfl,hR, -,hs',hx⟩
 refine ⟨r,v,aH,γ',C',rfl,hR, ?_,hx.out.1,hx.out.2.1,hx.out.2.2,hx.size,fun k hk=>(hx.keep k hk).1⟩
 have:=(hs'.env 0).1
 simpa [get] using this
end Go.Am
end
section
namespace Go.Am
open Go Go.RowKit Go.Deep
variable [Tabs]
theorem K5 {W:World} {b o:Nat} {v:Value} (h:W.cell? ⟨b,o,none⟩=some v):o<(C0 W b).length∧(C0 W b).getD o undef=v:=by
 unfold C0
 unfold World.cell? at h
 simp only at h
 split at h
 · rename_i cs ty fr hb
   rw [hb]
   simp only at h ⊢
   have hlt:o<cs.size:=by
    rcases Nat.lt_or_ge o cs.size with h'|h'
    · exact h'
    · rw [Array.getElem?_eq_none h'] at h;cases h
   rw [Array.getElem?_eq_getElem hlt] at h
   injection h with h
   refine ⟨by simpa using hlt, ?_⟩
   rw [List.getD_eq_getElem?_getD,List.getElem?_eq_getElem (by simpa using hlt)]
   simpa using h
 · cases h
section
variable {H:Type} {enc:TypeId×Value→H} {P:Program} {W:World} {sp:Nat→Bool} {held:Bool}
theorem adL {t e:TypeId} {A:Type} (g:A→AV) {v:Value} {d:DataW H} {ps:List MemPlace} {base:Nat} {r:Reach} (ht:P.underlying t=some (.slice e)) (hc:P.cellsOf e=1) (hval:Value.okWide P W r base t v)
 (h:DataW.Trod enc P W 0 sp held t v d ps)
 (hg:∀x,(g x).cells=[g x]) (he:∀n V y,DataW.trod enc P W 0 sp held n e [V]=some y→V.oneCell'=true∧∃x,VR (C0 W) [] (g x) V):∃xs:List A,VR (C0 W) [] (.sl .n 1 (xs.map g)) v:=by
 have hv:(v= .slice none 0 0)∨∃a len cap,v= .slice (some a) len cap∧a.spot=none:=by
  unfold Value.okWide at hval
  rw [ht] at hval
  simp only [Cell.okWide,ht,Cell.ok] at hval
  cases v with
  |slice a len cap=>
   cases a with
   |none=>cases len<;>cases cap<;>first|exact .inl rfl|exact hval.elim
   |some a=>exact .inr ⟨a,len,cap,rfl,hval.2.2.2.1⟩
  |_=>exact hval.elim
 obtain ⟨fuel,h⟩:=h
 rcases hv with rfl|⟨a,len,cap,rfl,hsp⟩
 · exact ⟨[], .sJ ..⟩
 · rcases open_slice1 ht hc h with ⟨h0, -⟩|⟨a',len',cap',m,n,V,D,Pl,h1,hb,hl,hm,Fc,hx,hall⟩
   · simp [Value.cells] at h0
   · have h1:a'=a∧len'=len∧cap'=cap:=by simpa [Value.cells,eq_comm] using h1
     obtain ⟨rfl,rfl,rfl⟩:=h1
     have hlm:len'≤m:=by rw [Fc];split<;>omega
     have key:∀i,i<len'→∃x,VR (C0 W) [] (g x) (V i):=fun i hi=>(he n (V i) _ (hall i (by omega)).2).2
     obtain ⟨b,o,s⟩:=a'
     simp only at hsp
     subst hsp
     have hcell:∀i,i<len'→o+i<(C0 W b).length∧(C0 W b).getD (o+i) undef=V i:=fun i hi=>by
      have:=(hall i (by omega)).1
      rw [add_eq] at this
      exact K5 this
     by_cases h0:len'=0
     · subst h0;exact ⟨[], .sJ ..⟩
     let f:Nat→A:=fun i=>if hi:i<len' then Classical.choose (key i hi) else Classical.choose (key 0 (by omega))
     have hf:∀i,i<len'→VR (C0 W) [] (g (f i)) (V i):=fun i hi=>by
      show VR (C0 W) [] (g (if hi:i<len' then Classical.choose (key i hi) else Classical.choose (key 0 (by omega)))) (V i)
      rw [dif_pos hi]
      exact Classical.choose_spec (key i hi)
     refine ⟨(List.range len').map f, .sl _ _ _ _ _ _ _ _ (by simp) hl (fun i a hi=> ?_) ?_ (fun q h1 h2=> ?_) fun i a hi j y hj=> ?_⟩
     · rw [List.getElem?_map,List.getElem?_map] at hi
       cases hr:(List.range len')[i]? with
       |none=>rw [hr] at hi;simp at hi
       |some q=>rw [hr] at hi;simp at hi;subst hi;rw [hg];rfl
     · have:=(hcell (len' - 1) (by omega)).1;omega
     · have:=hcell (q - o) (by omega)
       rw [show o+(q - o)=q by omega] at this
       rw [this.2]
       exact (he n (V (q - o)) _ (hall (q - o) (by omega)).2).1
     · rw [List.getElem?_map,List.getElem?_map] at hi
       cases hr:(List.range len')[i]? with
       |none=>rw [hr] at hi;simp at hi
       |some q=>
        rw [hr] at hi
        have hq:=(List.getElem?_eq_some_iff.1 hr)
        obtain ⟨hlt,hq⟩:=hq
        simp at hlt hq
        subst hq
        simp at hi
        subst hi
        rw [hg] at hj
        cases j with
        |zero=>
         simp at hj
         subst hj
         have:=hcell i hlt
         rw [Nat.mul_one,Nat.add_zero,this.2]
         exact hf i hlt
        |succ j=>simp at hj
end
end Go.Am
end
section
namespace Go.Am
open Go Go.RowKit Go.Deep
variable [Tabs]
def CR (W:World) (zq:List AV) (vs:List Value):Prop:=
 zq.length=vs.length∧(∀v∈vs,v.oneCell'=true)∧∀(j:Nat) (a:AV),zq[j]? =some a→VR (C0 W) [] a (vs.getD j undef)
theorem CR.nil {W:World}:CR W [] []:=⟨rfl,by simp,by simp⟩
theorem CR.one {W:World} {a:AV} {V:Value} (h:VR (C0 W) [] a V) (ho:V.oneCell'=true):CR W [a] [V]:=by
 refine ⟨rfl,by simpa using ho,fun j b hj=> ?_⟩
 rcases j with _|j
 · simp at hj;subst hj;simpa using h
 · simp at hj
theorem CR.append {W:World} {zq bs:List AV} {vs ws:List Value} (h:CR W zq vs) (h2:CR W bs ws):CR W (zq++bs) (vs++ws):=by
 refine ⟨by simp [h.1,h2.1],fun v hv=> ?_,fun j a hj=> ?_⟩
 · rcases List.mem_append.1 hv with hv|hv
   · exact h.2.1 v hv
   · exact h2.2.1 v hv
 · rw [List.getElem?_append] at hj
   split at hj
   · rename_i hlt
     have:=h.2.2 j a hj
     rw [List.getD_eq_getElem?_getD,List.getElem?_append_left (by rw [←h.1];exact hlt), ←List.getD_eq_getElem?_getD]
     exact this
   · rename_i hlt
     have:=h2.2.2 _ a hj
     rw [List.getD_eq_getElem?_getD,List.getElem?_append_right (by rw [←h.1];omega), ←List.getD_eq_getElem?_getD, ←h.1]
     exact this
def AV.VL:AV→Bool
 | .sl .n _ _=>true
 | .sl _ _ _| .agg _| .bB _=>false
 |_=>true
def AV.abb:AV→Bool
 | .agg cs=>cs.all AV.VL
 |a=>a.VL
theorem TC.enc {w:World} {C:Nat→List Value} {a:AV} (h:a.abb=true) (v:Value):TC w C a v:=by
 have h1:∀(a:AV) (v:Value),a.VL=true→j8 a v:=by
  intro a v h
  cases a with
  |sl t k xs=>cases t<;>first|exact GN .. |cases h
  |_=>first|(cases h;done)|(cases v<;>trivial)
 cases a with
 |agg cs=>
  cases v with
  |agg vs=>
   intro i a hi
   exact h1 a _ (List.all_eq_true.1 h a (List.mem_of_getElem? hi))
  |_=>trivial
 |sl t k xs=>cases t<;>first|(cases h;done)|(cases v<;>trivial)
 |_=>first|(cases h;done)|(cases v<;>trivial)
section
variable {H:Type} (enc:TypeId×Value→H) (P:Program) (W:World) (sp:Nat→Bool) (held:Bool)
def Op (t:TypeId) {A:Type} (f:A→AV):Prop:=∀n cs y,DataW.trod enc P W 0 sp held n t cs=some y→∃x:A,CR W (f x).cells cs
end
section
variable {H:Type} {enc:TypeId×Value→H} {P:Program} {W:World} {sp:Nat→Bool} {held:Bool}
theorem OF {t:TypeId} {k:IntKind} (ht:P.underlying t=some (.int k)):Op enc P W sp held t (Oa k):=by
 intro n cs y h
 cases n with
 |zero=>simp [DataW.trod] at h
 |succ n=>
  rcases cs with _|⟨V,_|⟨V2,r⟩⟩
  · simp [DataW.trod,ht] at h
  · cases V<;>simp [DataW.trod,ht] at h
    rename_i k' z
    obtain ⟨⟨rfl,hw⟩, -⟩:=h
    exact ⟨z,CR.one (.int ..) rfl⟩
  · simp [DataW.trod,ht] at h
theorem adM {t:TypeId} (ht:P.underlying t=some (.int .u8)):Op enc P W sp held t b8:=by
 intro n cs y h
 cases n with
 |zero=>simp [DataW.trod] at h
 |succ n=>
  rcases cs with _|⟨V,_|⟨V2,r⟩⟩
  · simp [DataW.trod,ht] at h
  · cases V<;>simp [DataW.trod,ht] at h
    rename_i k' z
    obtain ⟨⟨rfl,hw⟩, -⟩:=h
    have hz:0≤z∧z≤255:=by
     simp [Lit.wf,IntKind.min,IntKind.max,IntKind.bits,IntKind.signed] at hw
     omega
    refine ⟨UInt8.ofNat z.toNat,CR.one ?_ rfl⟩
    have:((UInt8.ofNat z.toNat).toNat:Int)=z:=by simp [UInt8.toNat_ofNat];omega
    simp only [b8,this]
    exact .int ..
  · simp [DataW.trod,ht] at h
theorem ac2 {t:TypeId} (ht:P.underlying t=some .bool):Op enc P W sp held t AV.bool:=by
 intro n cs y h
 cases n with
 |zero=>simp [DataW.trod] at h
 |succ n=>
  rcases cs with _|⟨V,_|⟨V2,r⟩⟩
  · simp [DataW.trod,ht] at h
  · cases V<;>simp [DataW.trod,ht] at h
    exact ⟨_,CR.one (.bool ..) rfl⟩
  · simp [DataW.trod,ht] at h
theorem OG {t:TypeId} (ht:P.underlying t=some .string):Op enc P W sp held t AV.str:=by
 intro n cs y h
 cases n with
 |zero=>simp [DataW.trod] at h
 |succ n=>
  rcases cs with _|⟨V,_|⟨V2,r⟩⟩
  · simp [DataW.trod,ht] at h
  · cases V<;>simp [DataW.trod,ht] at h
    rename_i s
    refine ⟨s.data.toList,CR.one ?_ rfl⟩
    have:s=⟨s.data.toList.toArray⟩:=by cases s;simp
    have h2:=VR.str (C:=C0 W) [] s.data.toList
    rwa [←this] at h2
  · simp [DataW.trod,ht] at h
theorem K6 {A:Type} {p:Nat→A→Prop}:∀(n:Nat),(∀i,i<n→∃x,p i x)→∃xs:List A,xs.length=n∧∀(i:Nat) (x:A),xs[i]? =some x→p i x:=by
 intro n
 induction n with
 |zero=>intro _;exact ⟨[],rfl,by simp⟩
 |succ n ih=>
  intro h
  obtain ⟨xs,h1,h2⟩:=ih fun i hi=>h i (by omega)
  obtain ⟨x,hx⟩:=h n (by omega)
  refine ⟨xs++[x],by simp [h1],fun i y hy=> ?_⟩
  rw [List.getElem?_append] at hy
  split at hy
  · exact h2 i y hy
  · rename_i hlt
    have:i=n:=by
     have:=(List.getElem?_eq_some_iff.1 hy).1
     simp at this;omega
    subst this
    rw [h1] at hy;simp at hy;subst hy;exact hx
theorem adN {t e:TypeId} {k:Nat} {A:Type} {f:A→AV} (ht:P.underlying t=some (.slice e)) (hk:P.cellsOf e=k) (hk0:0<k) (hop:Op enc P W sp held e f) (hf:∀x,(f x).cells.length=k):
 Op enc P W sp held t (fun xs:List A=>AV.sl .n k (ml f xs)):=by
 intro n cs y h
 rcases open_slice ht h with ⟨rfl, -⟩|⟨a,len,cap,m,fu,D,Pl,rfl,hb,hl,hm,Fc, -,hx⟩
 · exact ⟨[],CR.one (.sJ ..) rfl⟩
 have hlm:len≤m:=by rw [Fc];split<;>omega
 by_cases h0:len=0
 · subst h0;exact ⟨[],CR.one (.sJ ..) rfl⟩
 subst hk
 have hel:∀i,i<len→∃x:A,∃cs',W.cells? 0 (a.add (i*P.cellsOf e)) (P.cellsOf e)=some cs'∧CR W (f x).cells cs':=fun i hi=>by
  obtain ⟨cs',h1,h2⟩:=hx i (by omega)
  obtain ⟨x,hc⟩:=hop _ _ _ h2
  exact ⟨x,cs',h1,hc⟩
 have hsp:a.spot=none:=by
  obtain ⟨x,cs',h1,hc⟩:=hel 0 (by omega)
  obtain ⟨-,h2,h3⟩:=World.cells?_some h1
  have h4:=h3 0 hk0
  have h5:(a.add (0*P.cellsOf e)).add 0=a:=by simp [Addr.add]
  rw [h5,List.getElem?_eq_getElem (by omega)] at h4
  unfold World.cell? at h4
  split at h4
  · split at h4
    · cases h4
    · rename_i hq;cases hs:a.spot<;>simp_all
  · cases h4
 obtain ⟨b,o,s⟩:=a
 simp only at hsp
 subst hsp
 obtain ⟨xs,hlen,hxs⟩:=K6 len hel
 have hcell:∀(i:Nat) (x:A),xs[i]? =some x→∃cs',CR W (f x).cells cs'∧cs'.length=P.cellsOf e∧∀j,j<P.cellsOf e→o+i*P.cellsOf e+j<(C0 W b).length∧(C0 W b).getD (o+i*P.cellsOf e+j) undef=cs'.getD j undef:=fun i x hi=>by
  obtain ⟨cs',h1,hc⟩:=hxs i x hi
  obtain ⟨-,h2,h3⟩:=World.cells?_some h1
  refine ⟨cs',hc,h2,fun j hj=> ?_⟩
  have h4:=h3 j hj
  rw [add_add,add_eq,List.getElem?_eq_getElem (by omega)] at h4
  have:=K5 h4
  rw [Nat.add_assoc,List.getD_eq_getElem?_getD (l:=cs'),List.getElem?_eq_getElem (by omega)]
  exact this
 refine ⟨xs,CR.one (.sl _ _ _ _ _ _ _ _ (by rw [G8,hlen]) hl (fun i a hi=> ?_) ?_ (fun q h1 h2=> ?_) fun i a hi j y hj=> ?_) rfl⟩
 · rw [ml,List.getElem?_map] at hi
   cases hr:xs[i]? with
   |none=>rw [hr] at hi;simp at hi
   |some x=>rw [hr] at hi;simp at hi;subst hi;exact hf x
 · have Ln:len - 1<xs.length:=by omega
   obtain ⟨cs', -, -,h3⟩:=hcell (len - 1) _ (List.getElem?_eq_getElem Ln)
   have:=(h3 (P.cellsOf e - 1) (by omega)).1
   have h5:len*P.cellsOf e=(len - 1)*P.cellsOf e+P.cellsOf e:=by
    conv=>lhs;rw [show len=(len - 1)+1 by omega,Nat.succ_mul]
   omega
 · have hq:q - o<len*P.cellsOf e:=by omega
   have hi:(q - o) / P.cellsOf e<len:=Nat.div_lt_of_lt_mul (by rw [Nat.mul_comm];exact hq)
   have hj:(q - o) % P.cellsOf e<P.cellsOf e:=Nat.mod_lt _ hk0
   obtain ⟨cs',hc,h2,h3⟩:=hcell ((q - o) / P.cellsOf e) _ (List.getElem?_eq_getElem (by omega))
   have h4:=(h3 _ hj).2
   have h5:o+(q - o) / P.cellsOf e*P.cellsOf e+(q - o) % P.cellsOf e=q:=by
    have:=Nat.div_add_mod (q - o) (P.cellsOf e)
    rw [Nat.mul_comm] at this
    omega
   rw [h5] at h4
   rw [h4,List.getD_eq_getElem?_getD,List.getElem?_eq_getElem (by omega)]
   exact hc.2.1 _ (List.getElem_mem ..)
 · rw [ml,List.getElem?_map] at hi
   cases hr:xs[i]? with
   |none=>rw [hr] at hi;simp at hi
   |some x=>
    rw [hr] at hi;simp at hi;subst hi
    obtain ⟨cs',hc,h2,h3⟩:=hcell i x hr
    have hjl:j<P.cellsOf e:=by rw [←hf x];exact (List.getElem?_eq_some_iff.1 hj).1
    rw [(h3 j hjl).2]
    exact hc.2.2 j y hj
theorem NK {t:TypeId} {fs:Array Field} {A:Type} {f:A→AV} (ht:P.underlying t=some (.struct fs))
 (hb:∀cs:List Value,cs.length=P.cellsOf t→(∀(i:Nat) (fl:Field),fs[i]? =some fl→∃n y,DataW.trod enc P W 0 sp held n fl.type ((cs.drop fl.offset).take (P.cellsOf fl.type))=some y)→∃x,CR W (f x).cells cs):
 Op enc P W sp held t f:=by
 intro n cs y h
 obtain ⟨xs,m, -, -,hl,hlen,hf⟩:=DataW.trod_struct ht h
 refine hb cs hl fun i fl hfl=> ?_
 have hlt:i<xs.length:=by rw [hlen];exact (Array.getElem?_eq_some_iff.1 hfl).1
 exact ⟨m,xs[i],by rw [hf i fl hfl,List.getElem?_eq_getElem hlt]⟩
theorem seg {cs:List Value} {o k:Nat}:(cs.drop o).take k++cs.drop (o+k)=cs.drop o:=by
 rw [←List.drop_drop,List.take_append_drop]
theorem Op.arg1 {t:TypeId} {A:Type} {f:A→AV} (hop:Op enc P W sp held t f) (hf:∀x,(f x).cells=[f x]) {v:Value} {d:DataW H} {ps:List MemPlace} {r:Reach} {base:Nat} (hs:∀cs,¬Value.okWide P W r base t (.agg cs))
 (hval:Value.okWide P W r base t v) (h:DataW.Trod enc P W 0 sp held t v d ps):∃x,VR (C0 W) [] (f x) v:=by
 obtain ⟨fuel,h⟩:=h
 obtain ⟨x,h1, -,h3⟩:=hop _ _ _ h
 rw [hf] at h1 h3
 have hc:v.cells.toList=[v]:=by
  cases v with
  |agg cs=>exact absurd hval (hs cs)
  |_=>rfl
 rw [hc] at h3
 exact ⟨x,by simpa using h3 0 (f x) rfl⟩
theorem Op.ac3 {t:TypeId} {A:Type} {f:A→AV} (hop:Op enc P W sp held t f) {fs:Array Field} (ht:P.underlying t=some (.struct fs)) (hf:∀x,f x= .agg (f x).cells) {v:Value} {d:DataW H} {ps:List MemPlace} {r:Reach} {base:Nat}
 (hval:Value.okWide P W r base t v) (h:DataW.Trod enc P W 0 sp held t v d ps):∃x,VR (C0 W) [] (f x) v:=by
 obtain ⟨fuel,h⟩:=h
 obtain ⟨x,h1, -,h3⟩:=hop _ _ _ h
 unfold Value.okWide at hval
 rw [ht] at hval
 obtain ⟨cs,rfl, -, -⟩:=hval
 refine ⟨x, ?_⟩
 rw [hf x]
 refine .agg _ _ _ (by simpa [Value.cells] using h1) fun i a hi=> ?_
 have:=h3 i a hi
 simpa [Value.cells,Array.getD_eq_getD_getElem?,List.getD_eq_getElem?_getD] using this
theorem E6 {t:TypeId} {k:IntKind} {r:Reach} {base:Nat} (ht:P.underlying t=some (.int k)) (cs:Array Value):¬Value.okWide P W r base t (.agg cs):=by
 simp [Value.okWide,Cell.okWide,Cell.ok,ht]
theorem YZ {t:TypeId} {r:Reach} {base:Nat} (ht:P.underlying t=some .bool) (cs:Array Value):¬Value.okWide P W r base t (.agg cs):=by
 simp [Value.okWide,Cell.okWide,Cell.ok,ht]
theorem abd {t:TypeId} {r:Reach} {base:Nat} (ht:P.underlying t=some .string) (cs:Array Value):¬Value.okWide P W r base t (.agg cs):=by
 simp [Value.okWide,Cell.okWide,Cell.ok,ht]
theorem abp {t e:TypeId} {r:Reach} {base:Nat} (ht:P.underlying t=some (.slice e)) (cs:Array Value):¬Value.okWide P W r base t (.agg cs):=by
 simp [Value.okWide,Cell.okWide,Cell.ok,ht]
theorem E7 {ts:List TypeId} (hl:laidOutB P=true) {W W':World} (hb:Below W.heap.size W W'):∀ {vs:List Value} {ds:List (DataW H)} {ps:List MemPlace},(∀t∈ts,P.readableRec t=true∧t<P.types.size)→
 DataW.TrodAll enc P W 0 (fun _=>true) true ts vs ds ps→(∀x∈ps,x.block<W.heap.size)→DataW.TrodAll enc P W' 0 (fun b=>decide (b<W.heap.size)) true ts vs ds ps:=by
 induction ts with
 |nil=>
  intro vs ds ps _ h _
  cases vs<;>cases ds<;>simp [DataW.TrodAll] at h ⊢
  exact h
 |cons t ts ih=>
  intro vs ds ps ht h hlt
  cases vs<;>cases ds<;>simp only [DataW.TrodAll] at h ⊢
  obtain ⟨p,q,h1,h2,rfl⟩:=h
  exact ⟨p,q,Below.trod hl (ht t (by simp)).1 (ht t (by simp)).2 h1 hb (fun x hx=>hlt x (by simp [hx])),ih (fun t h=>ht t (by simp [h])) h2 (fun x hx=>hlt x (by simp [hx])),rfl⟩
end
end Go.Am
end
section
namespace Go.Proofs.YtboghagbiokafaaGreatDoor
open Go.ChangeShapes Go.WideShapes Go.ChangeAt Go.RowKit Go.Am Go.Proofs.dO
theorem Own.own:ownKnob Tryz.prog.godebug=none:=by kernel_rfl
theorem Own.laidOut:laidOutB Tryz.prog=true:=by kernel_rfl
def ur:List (String×DataW Unit):=[("math/bits.deBruijn32tab",Rows.laid_math_bits_deBruijn32tab),("math/bits.deBruijn64tab",Rows.laid_math_bits_deBruijn64tab),("internal/strconv.uint64pow10",Rows.laid_internal_strconv_uint64pow10),("unicode/utf8.acceptRanges",Rows.laid_unicode_utf8_acceptRanges),("strconv.ErrRange",Rows.laid_strconv_ErrRange),("strconv.ErrSyntax",Rows.laid_strconv_ErrSyntax),("unicode/utf8.first",Rows.laid_unicode_utf8_first)]
noncomputable def zQ (os:Os):World:=
 {World.doorLaid Tryz.prog 4000 os with heap:=(World.doorLaid Tryz.prog 4000 os).heap.modify 2 fun
  | .cells _ t fr=> .cells (Go.Pinned.utf8FirstZ.map fun n:Nat=>Value.int .u8 (n:Int)).toArray t fr
  |o=>o}
set_option maxRecDepth 100000 in
theorem RU (os:Os) (args:Array Value):laidMetH Tryz.prog ur ((zQ os).forCall (fun _ _=>0) ⟨#[],args,[]⟩).memory:=
 laidMetH_of_parts3 (fuel:=8) (laidMet_of_run' 8 (by kernel_rfl) (by kernel_rfl)) (by kernel_rfl) (by kernel_rfl)
set_option maxRecDepth 100000 in
theorem IL (os:Os) (args:Array Value):((zQ os).forCall (fun _ _=>0) ⟨#[],args,[]⟩).Shaped Tryz.prog:=World.shaped_of_RefB (by kernel_rfl) (by kernel_rfl)
end Go.Proofs.YtboghagbiokafaaGreatDoor
end
section
namespace Go.Proofs.YtboghagbiokafaaGreatDoor
open Go.ChangeShapes Go.WideShapes Go.ChangeAt Go.RowKit Go.Am Go.Proofs.dO
theorem GB {t:TypeId} {ms:Array (String×TypeId)} (ht:Tryz.prog.underlying t=some (.interface ms)) {H:Type} {enc:TypeId×Value→H} {W:World} {sp:Nat→Bool} {held:Bool} {fuel:Nat} {cs:List Value} {y:DataW H×List MemPlace}
 (h:DataW.trod enc Tryz.prog W 0 sp held fuel t cs=some y):∃ev,cs=[ev]∧(ev= .nilIface∨∃te pe,ev= .iface te pe):=by
 cases fuel with
 |zero=>simp [DataW.trod] at h
 |succ n=>
  rcases cs with _|⟨v,_|⟨v2,r⟩⟩
  · simp [DataW.trod,ht] at h
  · cases v<;>first|exact ⟨_,rfl, .inl rfl⟩|exact ⟨_,rfl, .inr ⟨_,_,rfl⟩⟩|(exfalso;simp [DataW.trod,ht] at h)
  · cases v<;>simp [DataW.trod,ht] at h
theorem zR {W:World} {name:String} {g:Nat} {cs:Array Value} (hg:Tryz.prog.globalNamed name=some g) (h:W.var? Tryz.prog name=some cs):∃t fr,W.heap[g]? =some (.cells cs t fr):=by
 simp only [World.var?,hg,Option.bind_some] at h
 split at h
 · rename_i c t fr hb
   injection h with h
   subst h
   exact ⟨t,fr,hb⟩
 · cases h
theorem NL {W:World} (hs:W.ShapedOpen Tryz.prog) (h:laidMetH Tryz.prog ur W):∀e∈Tabs.l,∃cs ty fr,W.heap[e.1]? =some (.cells cs ty fr)∧e.2 cs:=by
 rw [MakeChecks.laidMetH_plain _ _ _ (by kernel_rfl)] at h
 obtain ⟨ps,⟨g0,t0,cs0,f0,p0,q0,Wh,ht0,hv0,hd0,⟨g1,t1,Wm,f1,p1,q1,Ws,ht1,hv1,hd1,⟨g2,t2,cs2,f2,p2,q2,SA,ht2,Fb,Jg,⟨g3,t3,cs3,f3,p3,q3,hg3,ht3,hv3,hd3,⟨g4,t4,cs4,f4,p4,q4,hg4,ht4,hv4,hd4,⟨g5,t5,cs5,f5,p5,q5,hg5,ht5,hv5,hd5,_,_⟩,_⟩,_⟩,_⟩,_⟩,_⟩,_⟩:=h
 intro e he
 simp only [Tabs.l,List.mem_cons,List.mem_nil_iff,or_false] at he
 rcases he with rfl|rfl|rfl|rfl
 · obtain ⟨cs,hh,hsz, -⟩:=hs.1 0 #[.int .i64 0] 3 (of_decide_eq_true (by kernel_rfl)) (by kernel_rfl)
   obtain ⟨m,hm⟩:=cell_of_shapedOpen_int (g:=0) (t:=3) (k:= .i64) (zero:= #[.int .i64 0]) hs (of_decide_eq_true (by kernel_rfl)) (by kernel_rfl) rfl (by kernel_rfl) (by kernel_rfl) (by kernel_rfl)
   refine ⟨cs,_,_,hh,m, ?_⟩
   have h1:cs.size=1:=hsz
   apply Array.ext
   · exact h1
   · intro i hi _
     have:i=0:=by omega
     subst this
     simpa [World.cell?,hh,h1] using hm
 · have hg:Tryz.prog.globalNamed "internal/strconv.uint64pow10" =some 1:=by kernel_rfl
   obtain rfl:=Option.some.inj (hg.symm.trans SA)
   obtain rfl:=Option.some.inj ((show (Tryz.prog.globals[1]?).map (·.type)=some 113 by kernel_rfl).symm.trans ht2)
   have hc:cs2.toList=Lib.pow10Tab.map fun z=>Value.int .u64 z:=Lib.cells_of_tab (n:=20) (e:=68) (k:= .u64) Tryz.underlying113 (by kernel_rfl) (by kernel_rfl) (by kernel_rfl) Jg
   obtain ⟨t,fr,hb⟩:=zR hg Fb
   refine ⟨cs2,t,fr,hb, ?_⟩
   simp only [←hc,Array.toArray_toList]
 · have hg:Tryz.prog.globalNamed "strconv.ErrSyntax" =some 4:=by kernel_rfl
   obtain rfl:=Option.some.inj (hg.symm.trans hg5)
   obtain rfl:=Option.some.inj ((show (Tryz.prog.globals[4]?).map (·.type)=some 77 by kernel_rfl).symm.trans ht5)
   obtain ⟨ev,he,hev⟩:=GB Tryz.underlying77 hd5
   obtain ⟨t,fr,hb⟩:=zR hg hv5
   exact ⟨cs5,t,fr,hb,ev,by rw [←Array.toArray_toList (xs:=cs5),he],hev⟩
 · have hg:Tryz.prog.globalNamed "strconv.ErrRange" =some 5:=by kernel_rfl
   obtain rfl:=Option.some.inj (hg.symm.trans hg4)
   obtain rfl:=Option.some.inj ((show (Tryz.prog.globals[5]?).map (·.type)=some 77 by kernel_rfl).symm.trans ht4)
   obtain ⟨ev,he,hev⟩:=GB Tryz.underlying77 hd4
   obtain ⟨t,fr,hb⟩:=zR hg hv4
   exact ⟨cs4,t,fr,hb,ev,by rw [←Array.toArray_toList (xs:=cs4),he],hev⟩
section
variable {H:Type} {enc:TypeId×Value→H}
theorem B9 {a:Assume} {C:Checked} {os:Os} {f:FuncId} {fn:Func} {s:ChangeSpec} {conds:List PathCond} {apart fresh handsOn again:Bool} {X:World→Array Value→Prop}
 (hX:∀(w w':World) (args:Array Value),w.heap=w'.heap→X w args→X w' args)
 (own:ownKnob C.prog.godebug=none) (started:os.Started) (noInit:C.prog.inits.idxOf? f=none) (hfn:C.prog.funcs[f]? =some fn)
 (witness:∃(w:World) (tape:Tape) (i:Input),w.os=os∧(w.forCall tape i).Shaped C.prog∧i.vars=[]∧Input.okWide C.prog (w.forCall tape i) .any w.heap.size f i∧
  ((s.pre enc C.prog fn conds apart (w.forCall tape i).memory i.args∧X (w.forCall tape i).memory i.args)∧sizedMet enc C.prog fn (OpenSpec.ofChange s) apart (w.forCall tape i).memory i.args)∧a.holds C.prog (lone (Frame.enter C.prog f i.args .normal) [] (w.forCall tape i)))
 (contract:∀(W:World) (base:Nat) (args:Array Value) (ds gs:List (DataW H)) (before:List MemPlace),
  (∀(j:Nat) t v,fn.params[j]? =some t→args[j]? =some v→Value.okWide C.prog W .any base t v)→
  DataW.Whole enc C.prog fn.params.toList s.vars apart W args.toList ds gs before→W.ShapedOpen C.prog→X W args→
  Calls C.prog f args W fun e W'=>∃v,e= .returned v∧s.post enc C.prog fn apart fresh handsOn again W args v W'):
 ReturnsInHanded a C os f .any (fun w args=>(s.pre enc C.prog fn conds apart w args∧X w args)∧sizedMet enc C.prog fn (OpenSpec.ofChange s) apart w args) (s.post enc C.prog fn apart fresh handsOn again):=by
 refine returnsInHanded_of_calls own started noInit witness ?_
 rintro w tape i - Yw - ⟨-, -, -,fn2,ac4, -, -, -, -,abe⟩ ⟨⟨⟨ds,gs,before,Yx, -⟩,hx⟩, -⟩ -
 obtain rfl:fn2=fn:=Option.some.inj (ac4.symm.trans hfn)
 refine (contract (w.forCall tape i) _ i.args ds gs before abe (DataW.Whole.of_heap (w':=w.forCall tape i) (by rfl) Yx) Yw (hX _ _ _ (by rfl) hx)).mono ?_
 rintro e W' ⟨v,rfl,hp⟩
 exact ChangeSpec.post_blind hp
end
theorem ac5 {P:Program} {W:World} {r:Reach} {base:Nat} {t:TypeId} {k:IntKind} (ht:P.underlying t=some (.int k)) {C:Nat→List Value} {γ:List Nat} {x:Int} {v:Value} (hv:VR C γ (.int k x) v) (h:Value.okWide P W r base t v):k.has x:=by
 obtain rfl:=hv.cS
 unfold Value.okWide at h
 rw [ht] at h
 unfold Cell.okWide Cell.ok at h
 rw [ht] at h
 exact h.2
end Go.Proofs.YtboghagbiokafaaGreatDoor
end
section
namespace Go.Proofs.YtboghagbiokafaaGreatDoor
open Go.ChangeShapes Go.WideShapes Go.ChangeAt Go.RowKit Go.Am Go.Proofs.dO
abbrev Bd (x:aB):AV:= .agg [(.str x.av),(.str x.domain)]
theorem abf {H:Type} {enc:TypeId×Value→H} {W:World} {sp:Nat→Bool} {held:Bool}:Am.Op enc Tryz.prog W sp held 24 Bd:=by
 refine NK (fs:= #[⟨"Local",9,0,false, "", "",0⟩,⟨"Domain",9,1,false, "", "",16⟩]) (by kernel_rfl) fun cs hl hf=> ?_
 have hl:cs.length=2:=hl.trans (by kernel_rfl)
 obtain ⟨n0,y0,h0⟩:=hf 0 _ rfl
 obtain ⟨x0,c0⟩:=((OG (by kernel_rfl)):Am.Op enc Tryz.prog W sp held 9 AV.str) _ _ _ h0
 have c0:CR W (AV.str x0).cells ((cs.drop 0).take (Tryz.prog.cellsOf 9)):=c0
 rw [show Tryz.prog.cellsOf 9=1 by kernel_rfl] at c0
 obtain ⟨n1,y1,h1⟩:=hf 1 _ rfl
 obtain ⟨x1,c1⟩:=((OG (by kernel_rfl)):Am.Op enc Tryz.prog W sp held 9 AV.str) _ _ _ h1
 have c1:CR W (AV.str x1).cells ((cs.drop 1).take (Tryz.prog.cellsOf 9)):=c1
 rw [show Tryz.prog.cellsOf 9=1 by kernel_rfl] at c1
 refine ⟨aB.mk x0 x1, ?_⟩
 have key:=(c0.append c1)
 have hcs:(cs.drop 0).take 1++((cs.drop 1).take 1)=cs:=by
  rw [List.take_of_length_le (i:=1) (l:=cs.drop 1) (by simp;omega)]
  rw [show cs.drop 1=cs.drop (0+1) from rfl,seg]
  rfl
 have key:CR W _ ((cs.drop 0).take 1++((cs.drop 1).take 1)):=key
 rw [hcs] at key
 exact key
set_option maxRecDepth 100000 in
theorem Ca (os:Os) (started:os.Started) (H:Type) (enc:TypeId×Value→H):
 ReturnsInHanded {} Tryz.checked os 5 .any (fun w args=>(Rows.cmdPathsSpec.pre enc Tryz.prog Tryz.f5 [] false w args∧laidMetH Tryz.prog ur w)∧sizedMet enc Tryz.prog Tryz.f5 (OpenSpec.ofChange Rows.cmdPathsSpec) false w args) (Rows.cmdPathsSpec.post enc Tryz.prog Tryz.f5 false true false false):=by
 refine B9 (C:=Tryz.checked) (X:=fun w _=>laidMetH Tryz.prog ur w) (fun _ _ _ hh h=>h.of_heap hh) Own.own started (by kernel_rfl) Tryz.func5
  (ChangeSpec.witness_shaped (enc:=enc) (C:=Tryz.checked) (os:=os) (X:=fun w _=>laidMetH Tryz.prog ur w) false (zQ os) #[.agg #[.string ⟨#[]⟩, .string ⟨#[]⟩], .int .i64 0, .int .i64 0] 8 rfl (IL os _) (by kernel_rfl) (by kernel_rfl) (by kernel_rfl) (RU os _)) ?_
 intro W base args ds gs before abg hW hS hL
 have hval:∀(j:Nat) t v,Tryz.f5.params[j]? =some t→args[j]? =some v→Value.okWide Tryz.prog W .any base t v:=abg
 have hW':=hW
 obtain ⟨p,q,hA0,hV,rfl,hfz,hnd⟩:=hW
 have hA:DataW.TrodAll enc Tryz.prog W 0 (fun _=>true) true Tryz.f5.params.toList args.toList ds p:=hA0
 have hA1:=hA
 rw [Tryz.params5] at hA hval
 obtain ⟨vs,hvs⟩:∃vs,vs=args.toList:=⟨_,rfl⟩
 rw [←hvs] at hA
 obtain ⟨v0,vs0,d0,ds0,p0,q0,e0,rfl,rfl,h0,hA⟩:=trodAll_cons hA
 obtain ⟨v1,vs1,d1,ds1,p1,q1,e1,rfl,rfl,h1,hA⟩:=trodAll_cons hA
 obtain ⟨v2,vs2,d2,ds2,p2,q2,e2,rfl,rfl,h2,hA⟩:=trodAll_cons hA
 obtain ⟨e3,rfl,rfl⟩:=trodAll_nil hA
 have hargs:args= #[v0,v1,v2]:=by
  apply Array.ext';rw [←hvs,e0,e1,e2,e3]
 subst hargs
 obtain ⟨rfl,rfl⟩:=trodVars_none hV
 obtain ⟨x0,a0⟩:=Op.ac3 (f:=Bd) (fs:= #[⟨"Local",9,0,false, "", "",0⟩,⟨"Domain",9,1,false, "", "",16⟩]) abf (by kernel_rfl) (fun _=>rfl) (hval 0 24 v0 rfl rfl) h0
 obtain ⟨x1,a1⟩:=Op.arg1 (f:=(Oa .i64)) (OF (by kernel_rfl)) (fun _=>rfl) (fun cs=>E6 (k:= .i64) (by kernel_rfl) cs) (hval 1 3 v1 rfl rfl) h1
 obtain ⟨x2,a2⟩:=Op.arg1 (f:=(Oa .i64)) (OF (by kernel_rfl)) (fun _=>rfl) (fun cs=>E6 (k:= .i64) (by kernel_rfl) cs) (hval 2 3 v2 rfl rfl) h2
 have hlt:∀x∈p0++(p1++(p2++([]))),x.block<W.heap.size:=fun x hx=>hW'.lt x (by simpa using hx)
 obtain ⟨F,hF⟩:=F7 x0 x1 x2
 refine ((zP (H0:=[]) hF).row (vs:= #[v0,v1,v2]) (NL hS hL) rfl ?_).mono ?_
 · intro i x hi
   rcases i with _|_|_|i
   · simp at hi;subst hi;exact ⟨a0,TC.enc (by rfl) _,rfl⟩
   · simp at hi;subst hi;exact ⟨a1,TC.enc (by rfl) _,rfl⟩
   · simp at hi;subst hi;exact ⟨a2,TC.enc (by rfl) _,rfl⟩
   · simp at hi
 · rintro e W' ⟨r,v,aH,γ',C',rfl,⟨rfl,rfl⟩,hv,hb⟩
   have hv:=hv.gl
   subst hv
   refine ⟨_,rfl,_,_,_,[],p0++(p1++(p2++([]))),[],hW', ?_, ?_, ?_,hb.frame _,fun h=>by cases h⟩
   · exact trodAll_mk1 (shut_bool (by kernel_rfl) true)
   · exact E7 Own.laidOut hb (of_decide_eq_true (by kernel_rfl)) hA1 hlt
   · exact rfl
theorem Dc:Rows.CmdPathsSaid:=
 OpenClaim.holds_of_wide 5 Tryz.f5 rfl rfl rfl rfl rfl rfl rfl ⟨rfl,rfl,rfl,rfl,rfl⟩ rfl rfl rfl rfl rfl (by kernel_rfl) Tryz.func5 (by kernel_rfl)
  (of_decide_eq_true (by kernel_rfl)) (by unfold Func.isWrapper;first|(rw [if_pos (by decide+kernel)];kernel_rfl)|(rw [if_neg (by decide+kernel)];exact ⟨rfl,rfl⟩))
  (fun os started H enc _=>Ca os started H enc)
theorem cmdPaths_tied:Rows.CmdPathsCardSaid:=
 Claim7.holds_tied_plain_at .later [] [.data, .data, .data, .data, .sentinel, .sentinel, .pinned] true Rows.cmdPathsCard.stood.harness true
  Dc (fun _ h=>by cases h) (by kernel_rfl) (fun _ h=>by cases h) cmdPaths_row_tie rfl ⟨rfl,rfl⟩ (by kernel_rfl) rfl
  (fun f fn hf hfn=>by
   obtain rfl:f=5:=Option.some.inj ((show Tryz.prog.funcNamed Rows.cmdPathsRow.func=some 5 by kernel_rfl).symm.trans hf) |>.symm
   obtain rfl:fn=Tryz.f5:=(Option.some.inj (Tryz.func5.symm.trans hfn)).symm
   exact ⟨by kernel_rfl,fun j t ht=>by
    rw [Tryz.params5] at ht
    have hm:t∈[24,3,3]:=by have:=Array.mem_of_getElem? ht;simpa using this
    have hall:([24,3,3].all fun u=> !Tryz.prog.wantsStandIn u)=true:=by kernel_rfl
    exact (show Tryz.prog.wantsStandIn t=false by simpa using List.all_eq_true.1 hall t hm)⟩)
  (by kernel_rfl)
end Go.Proofs.YtboghagbiokafaaGreatDoor
end
