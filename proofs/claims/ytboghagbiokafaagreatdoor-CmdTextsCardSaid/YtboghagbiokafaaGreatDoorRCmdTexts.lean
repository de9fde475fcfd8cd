/- The law CmdTexts returns true at every input whose tables read as laid; each argument reads behind the call as it did; the tied card. -/
import Derived.Test.YtboghagbiokafaaGreatDoorM4
import Derived.Lib.IndexMore
import Derived.Lib.AtoiTie
import Derived.Below
import Derived.Deep.Slices
import Derived.Carry
import Derived.Test.YtboghagbiokafaaGreatDoorRows
import Derived.ProofKit
import Derived.LaidMore
import Derived.Lib.LaidTab
import Derived.Shelf.Vars
import Derived.HandedShaped
import Derived.Test.YtboghagbiokafaaGreatDoorCards
import Derived.Test.YtboghagbiokafaaGreatDoorTie
import Derived.SevenTiedAt
set_option linter.unusedSimpArgs false
set_option linter.unusedVariables false
set_option linter.unusedSectionVars false
set_option linter.defProp false
section
set_option maxRecDepth 100000
namespace Go.Proofs.cY
open Go Go.Am Go.Proofs
def bY (c:UInt8):Bool:=Ca c||eK c||c==45||c==46||c==91||c==93
def cG (c:UInt8):Bool:=decide (32≤c)&&decide (c≤126)
def dY (c:UInt8):Bool:=Ca c||eK c||([33,35,36,37,38,39,42,43,45,47,61,63,94,95,96,123,124,125,126]:List UInt8).contains c
def gS (c:UInt8):Bool:=c==46||dY c
theorem NI (c:UInt8):mC c=some (dY c):=by
 have:=fH (p:=fun c=>decide (mC c=some (dY c))) (by kernel_rfl) c
 simpa using this
theorem NJ (c:UInt8):dG c=some (bY c):=by
 have:=fH (p:=fun c=>decide (dG c=some (bY c))) (by kernel_rfl) c
 simpa using this
theorem NK (c:UInt8):dR c=some (gS c):=by
 have:=fH (p:=fun c=>decide (dR c=some (gS c))) (by kernel_rfl) c
 simpa using this
structure At (s:List UInt8) (n:Nat) (r:List UInt8):Prop where
 le:n≤s.length
 dr:s.drop n=r
 sm:s.length≤90000
def nx:List UInt8→UInt8
 |[]=>0
 |c::_=>c
theorem At.len {s r:List UInt8} {n:Nat} (h:At s n r):n+r.length=s.length:=by
 rw [←h.dr,List.length_drop];have:=h.le;omega
theorem At.next {s r:List UInt8} {n:Nat} {c:UInt8} (h:At s n (c::r)):At s (n+1) r:=by
 obtain ⟨h1,h2,h3⟩:=drop_cons h.dr
 exact ⟨h1,h3,h.sm⟩
theorem l5 {s r:List UInt8} {n:Nat} (h:At s n r):bw ⟨s,(n:Int),false⟩=some (nx r):=by
 unfold bw
 cases r with
 |nil=>
  have:=h.len
  rw [if_pos (by simp at this ⊢;omega)];rfl
 |cons c r=>
  obtain ⟨h1,h2,h3⟩:=drop_cons h.dr
  rw [if_neg (by simp;omega),bt h2];rfl
theorem tE {s:List UInt8} {n:Int}:bw ⟨s,n,true⟩=some 0:=by simp [bw]
theorem wg {s r:List UInt8} {n:Nat} {c:UInt8} (h:At s n (c::r)):bD ⟨s,(n:Int),false⟩ c=some (true,⟨s,((n+1:Nat):Int),false⟩):=by
 have:=h.len;have:=h.sm
 unfold bD
 rw [l5 h,Option.bind_some]
 simp only [nx]
 rw [if_neg (by simp),wi (by omega)]
theorem tF {s r:List UInt8} {n:Nat} {c:UInt8} (h:At s n r) (hc:nx r≠c):bD ⟨s,(n:Int),false⟩ c=some (false,⟨s,(n:Int),false⟩):=by
 unfold bD
 rw [l5 h,Option.bind_some,if_pos (by simpa using hc)]
theorem ug {s:List UInt8} {n:Int} {c:UInt8} (hc:c≠0):bD ⟨s,n,true⟩ c=some (false,⟨s,n,true⟩):=by
 unfold bD
 rw [tE,Option.bind_some,if_pos (by simpa using fun h=>hc h.symm)]
theorem wG {s r:List UInt8} {n:Nat} {c:UInt8} (h:At s n (c::r)):bl ⟨s,(n:Int),false⟩ c=some ⟨s,((n+1:Nat):Int),false⟩:=by
 unfold bl;simp [wg h]
theorem zX {s r:List UInt8} {n:Nat} {c:UInt8} (h:At s n r) (hc:nx r≠c):bl ⟨s,(n:Int),false⟩ c=some ⟨s,(n:Int),true⟩:=by
 unfold bl;simp [tF h hc]
theorem iK {s:List UInt8} {n:Int} {c:UInt8}:bl ⟨s,n,true⟩ c=some ⟨s,n,true⟩:=by
 unfold bl;simp
theorem Fy {q:UInt8→Bool} {ρ:Type} {body:(UInt8×aA)→Option (St ρ aA (UInt8×aA))} {s:List UInt8} (h0:q 0=false)
 (hb:∀(c:UInt8) (n:Int) (b:Bool),body (c,⟨s,n,b⟩)=if q c=true then (bw ⟨s,IntKind.wrap .i64 (n+1),b⟩).bind fun r9=>some (.cB (r9,⟨s,IntKind.wrap .i64 (n+1),b⟩)) else some (.eg ⟨s,n,b⟩)):
 ∀(r:List UInt8) (n F:Nat),At s n r→r.length<F→iter body F (nx r,⟨s,(n:Int),false⟩)=some (.inr ⟨s,((n+(r.takeWhile q).length:Nat):Int),false⟩):=by
 intro r
 induction r with
 |nil=>
  intro n F h hF
  obtain ⟨G,rfl⟩:=bN hF
  rw [bA (t:=⟨s,(n:Int),false⟩) (by rw [hb,if_neg (by simp [nx,h0])])]
  simp
 |cons c r ih=>
  intro n F h hF
  obtain ⟨G,rfl⟩:=bN hF
  have:=h.len;have:=h.sm
  by_cases hq:q c=true
  · have hst:body (nx (c::r),⟨s,(n:Int),false⟩)=some (.cB (nx r,⟨s,((n+1:Nat):Int),false⟩)):=by
     rw [hb,if_pos (by simpa [nx] using hq),wi (by omega),l5 h.next];rfl
    rw [bW hst,ih (n+1) G h.next (by simp at hF;omega),List.takeWhile_cons,if_pos hq]
    simp only [List.length_cons]
    congr 4
    omega
  · rw [bA (t:=⟨s,(n:Int),false⟩) (by rw [hb,if_neg (by simpa [nx] using hq)]),List.takeWhile_cons,if_neg hq]
    simp
theorem oq (q:UInt8→Bool) (r:List UInt8):(r.takeWhile q).length≤r.length:=(List.takeWhile_prefix q).length_le
theorem At.skip {s r:List UInt8} {n:Nat} (h:At s n r) (q:UInt8→Bool):At s (n+(r.takeWhile q).length) (r.dropWhile q):=by
 have h1:(r.takeWhile q).length≤r.length:=oq _ _
 have h2:=h.len
 refine ⟨by omega, ?_,h.sm⟩
 rw [←List.drop_drop,h.dr]
 conv=>lhs;rw [←List.takeWhile_append_dropWhile (p:=q) (l:=r)]
 rw [List.takeWhile_append_dropWhile]
 conv=>lhs;arg 2;rw [←List.takeWhile_append_dropWhile (p:=q) (l:=r)]
 exact List.drop_left ..
theorem uh {s r:List UInt8} {n:Nat} (h:At s n r) (q:UInt8→Bool):sub s (n:Int) ((n+(r.takeWhile q).length:Nat):Int)=some (r.takeWhile q):=by
 have h1:=(h.skip q).le
 rw [oh (by omega) h1,List.drop_take,h.dr,Nat.add_sub_cancel_left]
 congr 1
 conv=>lhs;arg 2;rw [←List.takeWhile_append_dropWhile (p:=q) (l:=r)]
 exact List.take_left ..
theorem MA {s r:List UInt8} {n F:Nat} (h:At s n r) (hF:s.length+1<F):
 bT F ⟨s,(n:Int),false⟩=some (r.takeWhile bY,⟨s,((n+(r.takeWhile bY).length:Nat):Int), !dy (r.takeWhile bY)⟩):=by
 have h1:=h.len;have h2:=h.sm
 have h3:(r.takeWhile bY).length≤r.length:=oq _ _
 unfold bT
 rw [l5 h,Option.bind_some,Fy (q:=bY) (s:=s) (by decide) (fun c n b=>by simp only [dH,NJ,Option.bind_some]) r n F h (by omega)]
 simp only [Option.bind_some]
 rw [uh h,Option.bind_some]
 unfold dI
 simp only [Bool.false_eq_true,if_false]
 rw [DT (by omega) (by omega)]
 rfl
theorem nh {s:List UInt8} {n F:Nat} (hn:n≤s.length) (hF:0<F):bT F ⟨s,(n:Int),true⟩=some ([],⟨s,(n:Int),true⟩):=by
 obtain ⟨G,rfl⟩:=bN hF
 unfold bT
 rw [tE,Option.bind_some,bA (t:=⟨s,(n:Int),true⟩) (by simp only [dH,NJ,Option.bind_some];rfl)]
 simp only [Option.bind_some]
 rw [oh (Nat.le_refl _) hn,Option.bind_some]
 unfold dI
 simp only [if_true,Option.bind_some]
 congr 2
 simp
def gl (s:List UInt8):Bool:=(aT s).all fun p=>p !=[]&&p.all dY
theorem QV {s:List UInt8} {F:Nat} (hl:s.length≤1000000) (hF:s.length<F):je F s=some (s.all dY):=by
 unfold je
 have hh:=scan (s:=s) (body:=dQ s) (mk:=fun i=>(false,(i:Int))) (p:=dY) (rr:=fun _=>false) (tt:=()) ?_ ?_ ?_ hF
 · cases ha:s.all dY with
   |true=>have:=hh.1 ha;rw [show ((0:Nat):Int)=0 from rfl] at this;rw [this];rfl
   |false=>obtain ⟨j,hj⟩:=hh.2 ha;rw [show ((0:Nat):Int)=0 from rfl] at hj;rw [hj];rfl
 · intro i x hx hp
   have hi:=(List.getElem?_eq_some_iff.1 hx).1
   simp only [dQ]
   rw [if_pos (by simpa using hi),bt hx,Option.bind_some,NI,Option.bind_some,hp,wi (by omega)];rfl
 · intro i x hx hp
   have hi:=(List.getElem?_eq_some_iff.1 hx).1
   simp only [dQ]
   rw [if_pos (by simpa using hi),bt hx,Option.bind_some,NI,Option.bind_some,hp];rfl
 · simp [dQ]
theorem JU {x:List UInt8} {F:Nat} (hl:x.length≤1000000) (hF:x.length<F):j9 F x=some (!(x !=[]&&x.all dY)):=by
 unfold j9 jz
 by_cases hx:x=[]
 · subst hx;rfl
 · rw [if_neg (by simpa using hx),QV hl hF]
   simp [hx]
theorem Fz {s:List UInt8} {F:Nat} (hl:s.length≤90000) (hF:s.length+1<F):k4 F s=some (gl s):=by
 have hn:=wE s
 unfold k4
 rw [rJ (by omega),Option.bind_some]
 unfold eF fF
 have hh:=scan (s:=aT s) (F:=F) (body:=cy F (aT s)) (mk:=fun i=>(0,(i:Int))) (p:=fun p=>p !=[]&&p.all dY) (rr:=fun i=>(i:Int)) (tt:=()) ?_ ?_ ?_ (by omega)
 · unfold gl
   cases ha:(aT s).all fun p=>p !=[]&&p.all dY with
   |true=>have:=hh.1 ha;rw [show ((0:Nat):Int)=0 from rfl] at this;rw [this];rfl
   |false=>obtain ⟨j,hj⟩:=hh.2 ha;rw [show ((0:Nat):Int)=0 from rfl] at hj;rw [hj];simp
 · intro i x hx' hp
   have hi:=(List.getElem?_eq_some_iff.1 hx').1
   have hxl:=k7 s x (List.mem_of_getElem? hx')
   simp only [cy]
   rw [if_pos (by simpa using hi),bt hx',Option.bind_some,JU (by omega) (by omega),Option.bind_some,hp,wi (by omega)];rfl
 · intro i x hx' hp
   have hi:=(List.getElem?_eq_some_iff.1 hx').1
   have hxl:=k7 s x (List.mem_of_getElem? hx')
   simp only [cy]
   rw [if_pos (by simpa using hi),bt hx',Option.bind_some,JU (by omega) (by omega),Option.bind_some,hp];rfl
 · simp [cy]
def qL:List UInt8→Option (List UInt8×List UInt8)
 |[]=>none
 |c::r=>if c=34 then some ([],r)
  else if c=92 then (match r with
   |[]=>none
   |d::r'=>if cG d then (qL r').map fun x=>(d::x.1,x.2) else none)
  else if cG c then (qL r).map fun x=>(c::x.1,x.2) else none
theorem tG (c:UInt8) (r:List UInt8):qL (c::r)=if c=34 then some ([],r)
 else if c=92 then (match r with
  |[]=>none
  |d::r'=>if cG d then (qL r').map fun x=>(d::x.1,x.2) else none)
 else if cG c then (qL r).map fun x=>(c::x.1,x.2) else none:=by
 cases r<;>rfl
theorem Hu (c:UInt8):j7 c=some (cG c):=rfl
theorem adq:cG 0=false:=by decide
theorem aae {s r acc:List UInt8} {n:Nat} (h:At s n (34::r)):bH (acc,⟨s,(n:Int),false⟩)=some (.eg (acc,⟨s,((n+1:Nat):Int),false⟩)):=by
 simp only [bH,cT,Bool.not_false,if_true]
 rw [wg h]
 simp
theorem MB {s r acc:List UInt8} {n:Nat} (h:At s n r) (h1:nx r≠34) (h2:nx r≠92) (ha:acc.length≤90000):bH (acc,⟨s,(n:Int),false⟩)=
 if cG (nx r)=true then some (.cB (acc++[nx r],⟨s,((n+1:Nat):Int),false⟩)) else some (.eg (acc,⟨s,(n:Int),true⟩)):=by
 have:=h.le;have:=h.sm
 simp only [bH,cT,Bool.not_false,if_true]
 rw [tF h h1]
 simp only [Option.bind_some,Bool.not_false,if_true]
 rw [tF h h2]
 simp only [Option.bind_some]
 rw [l5 h]
 simp only [Option.bind_some,Hu]
 cases cG (nx r) with
 |false=>simp
 |true=>
  simp only [Bool.not_true,Bool.false_eq_true,if_false,if_true]
  rw [e5 (by simp;omega) (by omega),Option.bind_some,wi (by omega)]
theorem aaf {s r acc:List UInt8} {n:Nat} (h:At s n (92::r)) (ha:acc.length≤90000):bH (acc,⟨s,(n:Int),false⟩)=
 if cG (nx r)=true then some (.cB (acc++[nx r],⟨s,((n+2:Nat):Int),false⟩)) else some (.eg (acc,⟨s,((n+1:Nat):Int),true⟩)):=by
 have:=h.next.le;have:=h.sm
 simp only [bH,cT,Bool.not_false,if_true]
 rw [tF h (by simp [nx])]
 simp only [Option.bind_some,Bool.not_false,if_true]
 rw [wg h]
 simp only [Option.bind_some]
 rw [l5 h.next]
 simp only [Option.bind_some,Hu]
 cases cG (nx r) with
 |false=>simp
 |true=>
  simp only [Bool.not_true,Bool.false_eq_true,if_false,if_true]
  rw [e5 (by simp;omega) (by omega),Option.bind_some,wi (by omega)]
theorem Hv {s:List UInt8}:∀(k:Nat) (r acc:List UInt8) (n F:Nat),r.length≤k→At s n r→acc.length≤n→r.length<F→
 match qL r with
 |some (b,rest)=>∃n':Nat,iter bH F (acc,⟨s,(n:Int),false⟩)=some (.inr (acc++b,⟨s,(n':Int),false⟩))∧At s n' rest
 |none=>∃acc',∃n':Nat,iter bH F (acc,⟨s,(n:Int),false⟩)=some (.inr (acc',⟨s,((n':Nat):Int),true⟩))∧n'≤s.length:=by
 intro k
 induction k with
 |zero=>
  intro r acc n F hk h ha hF
  have hr:r=[]:=List.length_eq_zero_iff.1 (by omega)
  subst hr
  obtain ⟨G,rfl⟩:=bN hF
  have:=h.le;have:=h.sm
  refine ⟨acc,n,bA ?_,h.le⟩
  rw [MB h (by decide) (by decide) (by omega),if_neg (by decide)]
 |succ k ih=>
  intro r acc n F hk h ha hF
  obtain ⟨G,rfl⟩:=bN (show 0<F by omega)
  have h1:=h.le;have h2:=h.sm
  match r,hk,h,hF with
  |[],hk,h,hF=>exact ⟨acc,n,bA (by rw [MB h (by decide) (by decide) (by omega),if_neg (by decide)]),h.le⟩
  |c::r,hk,h,hF=>
   rw [tG]
   by_cases hc:c=34
   · subst hc
     rw [if_pos rfl]
     exact ⟨n+1,by rw [bA (aae h)];simp,h.next⟩
   · rw [if_neg hc]
     by_cases Ei:c=92
     · subst Ei
       rw [if_pos rfl]
       have hst:=aaf (acc:=acc) h (by omega)
       match r,hk,h,hF,hst with
       |[],hk,h,hF,hst=>exact ⟨acc,n+1,bA (by rw [hst,if_neg (by decide)]),h.next.le⟩
       |d::r',hk,h,hF,hst=>
        cases hv:cG d with
        |false=>simp only [hv,Bool.false_eq_true,if_false];exact ⟨acc,n+1,bA (hst.trans (if_neg (by show ¬cG d=true;rw [hv];decide))),h.next.le⟩
        |true=>
         simp only [if_true]
         have wh:=hst.trans (if_pos (show cG (nx (d::r'))=true from hv))
         have:=ih r' (acc++[d]) (n+2) G (by simp at hk;omega) h.next.next (by simp;omega) (by simp at hF;omega)
         rw [bW wh]
         cases hq:qL r' with
         |none=>rw [hq] at this;simp only [nx,hv,if_true,Option.map_none];exact this
         |some x=>
          obtain ⟨b,rest⟩:=x
          rw [hq] at this
          obtain ⟨n',h3,h4⟩:=this
          simp only [nx,hv,if_true,Option.map_some];exact ⟨n',by rw [h3];simp,h4⟩
     · rw [if_neg Ei]
       have hst:=MB (acc:=acc) h (by simpa [nx] using hc) (by simpa [nx] using Ei) (by omega)
       cases hv:cG c with
       |false=>simp only [hv,Bool.false_eq_true,if_false];exact ⟨acc,n,bA (hst.trans (if_neg (by show ¬cG c=true;rw [hv];decide))),h.le⟩
       |true=>
        simp only [if_true]
        have wh:=hst.trans (if_pos (show cG (nx (c::r))=true from hv))
        have:=ih r (acc++[c]) (n+1) G (by simp at hk;omega) h.next (by simp;omega) (by simp at hF;omega)
        rw [bW wh]
        cases hq:qL r with
        |none=>rw [hq] at this;simp only [nx,hv,if_true,Option.map_none];exact this
        |some x=>
         obtain ⟨b,rest⟩:=x
         rw [hq] at this
         obtain ⟨n',h3,h4⟩:=this
         simp only [nx,hv,if_true,Option.map_some];exact ⟨n',by rw [h3];simp,h4⟩
def Out (s:List UInt8) (o:Option (List UInt8×aA)):Option (List UInt8×List UInt8)→Prop
 |some (b,rest)=>∃n',o=some (b,⟨s,((n':Nat):Int),false⟩)∧At s n' rest
 |none=>∃b n',o=some (b,⟨s,((n':Nat):Int),true⟩)∧n'≤s.length
def iS (r:List UInt8):Option (List UInt8×List UInt8):=
 if nx r=34 then (match qL (r.drop 1) with|some (b,rest)=>if b=[] then none else some (b,rest)|none=>none)
 else if gl (r.takeWhile gS) then some (r.takeWhile gS,r.dropWhile gS) else none
def fC (r:List UInt8):Option (List UInt8×List UInt8):=if dy (r.takeWhile bY) then some (r.takeWhile bY,r.dropWhile bY) else none
theorem Bv {s r:List UInt8} {n F:Nat} (h:At s n r) (hF:s.length+1<F):Out s (bT F ⟨s,(n:Int),false⟩) (fC r):=by
 rw [MA h hF]
 unfold fC
 cases hs:dy (r.takeWhile bY) with
 |true=>exact ⟨_,rfl,h.skip _⟩
 |false=>exact ⟨_,_,rfl,(h.skip bY).le⟩
theorem MC {s r:List UInt8} {n F:Nat} (h:At s n r) (hF:s.length+1<F):Out s (dc F ⟨s,(n:Int),false⟩) (iS r):=by
 have h1:=h.len;have h2:=h.sm
 unfold dc iS
 rw [l5 h,Option.bind_some]
 by_cases hq:nx r=34
 · rw [if_pos (by simpa using hq),if_pos hq]
   cases r with
   |nil=>simp [nx] at hq
   |cons c r=>
    simp only [nx] at hq
    subst hq
    simp only [List.drop_succ_cons,List.drop_zero]
    unfold fV
    rw [wG h]
    simp only [Option.bind_some]
    have:=Hv (s:=s) r.length r [] (n+1) F (Nat.le_refl _) h.next (by simp) (by simp at h1;omega)
    cases hqr:qL r with
    |none=>
     rw [hqr] at this
     obtain ⟨acc,n',h3,h4⟩:=this
     rw [h3]
     simp only [Option.bind_some,dJ,if_true]
     exact ⟨_,_,rfl,h4⟩
    |some x=>
     obtain ⟨b,rest⟩:=x
     rw [hqr] at this
     obtain ⟨n',h3,h4⟩:=this
     rw [h3]
     simp only [Option.bind_some,dJ,Bool.false_eq_true,if_false,List.nil_append]
     by_cases hb:b=[]
     · subst hb
       exact ⟨_,n',rfl,h4.le⟩
     · rw [if_neg hb]
       refine ⟨n', ?_,h4⟩
       have:decide ((b.length:Int)=0)=false:=by simpa using hb
       rw [this]
 · rw [if_neg (by simpa using hq),if_neg hq,Option.bind_some]
   have h3:=oq gS r
   rw [Fy (q:=gS) (s:=s) (by decide) (fun c n b=>by simp only [dS,NK,Option.bind_some]) r n F h (by omega)]
   simp only [Option.bind_some]
   rw [uh h,Option.bind_some]
   unfold dU
   simp only [Bool.false_eq_true,if_false]
   rw [Fz (by omega) (by omega)]
   simp only [Option.bind_some]
   cases hs:gl (r.takeWhile gS) with
   |true=>exact ⟨_,rfl,h.skip _⟩
   |false=>exact ⟨_,_,rfl,(h.skip gS).le⟩
theorem DX {s:List UInt8} {n F:Nat} (hn:n≤s.length) (hF:0<F):∃b,dc F ⟨s,(n:Int),true⟩=some (b,⟨s,(n:Int),true⟩):=by
 obtain ⟨G,rfl⟩:=bN hF
 unfold dc
 rw [tE,Option.bind_some,if_neg (by decide),Option.bind_some,bA (t:=⟨s,(n:Int),true⟩) (by simp only [dS,NK,Option.bind_some];rfl)]
 simp only [Option.bind_some]
 rw [oh (Nat.le_refl _) hn,Option.bind_some]
 unfold dU
 exact ⟨_,rfl⟩
end Go.Proofs.cY
end
section
set_option maxRecDepth 100000
namespace Go.Proofs.cY
open Go Go.Am Go.Proofs
def xj:Nat→List UInt8→Option (List UInt8)
 |0,_=>none
 |k+1,r=>if nx r=64 then (match fC (r.drop 1) with
   |none=>none
   |some (_,r2)=>if nx r2=44 then xj k (r2.drop 1) else if nx r2=58 then some (r2.drop 1) else none) else none
def kP (r:List UInt8):Option (List UInt8):=if nx r=64 then xj (r.length+1) r else some r
def Uo (s:List UInt8) (o:Option aA):Option (List UInt8)→Prop
 |some rest=>∃n':Nat,o=some ⟨s,(n':Int),false⟩∧At s n' rest
 |none=>∃n':Nat,o=some ⟨s,(n':Int),true⟩∧n'≤s.length
theorem gD {r:List UInt8} {c:UInt8} (h:nx r=c) (hc:c≠0):∃t,r=c::t:=by
 cases r with
 |nil=>exact absurd h.symm hc
 |cons a t=>exact ⟨t,by rw [←h];rfl⟩
theorem QW {s r:List UInt8} {n:Nat} {c:UInt8} (h:At s n r) (hc:c≠0):Uo s (bl ⟨s,(n:Int),false⟩ c) (if nx r=c then some (r.drop 1) else none):=by
 by_cases hn:nx r=c
 · obtain ⟨t,rfl⟩:=gD hn hc
   rw [if_pos hn]
   exact ⟨n+1,wG h,h.next⟩
 · rw [if_neg hn]
   exact ⟨n,zX h hn,h.le⟩
theorem uj {r b t:List UInt8} (h:fC r=some (b,t)):t.length≤r.length:=by
 unfold fC at h
 split at h
 · injection h with h;injection h with _ h;subst h;exact (List.dropWhile_suffix _).length_le
 · cases h
theorem aag {s:List UInt8} {n F:Nat} (hn:n≤s.length) (hF:s.length+1<F):bC F (false,⟨s,(n:Int),true⟩)=some (.ret ⟨s,(n:Int),true⟩):=by
 simp only [bC,cw]
 rw [tE]
 simp only [Option.bind_some]
 rw [if_neg (by decide)]
 simp only [Option.bind_some,Bool.not_false,if_true]
 rw [iK]
 simp only [Option.bind_some]
 rw [nh hn (by omega)]
 simp only [Option.bind_some]
 rw [ug (by decide)]
 simp only [Option.bind_some,Bool.not_false,if_true]
 rw [iK]
 rfl
theorem JV {s:List UInt8} {FF:Nat} (A5:s.length+1<FF):∀(k:Nat) (first:Bool) (r:List UInt8) (n F:Nat),At s n r→r.length<k→k≤F→(first=true→nx r=64)→
 ∃o:aA⊕aA,iter (bC FF) F (first,⟨s,(n:Int),false⟩)=some o∧Uo s (some (match o with| .inl x=>x| .inr x=>x)) (xj k r):=by
 intro k
 induction k with
 |zero=>intro first r n F h hk;omega
 |succ k ih=>
  intro first r n F h hk hF Xc
  obtain ⟨G,rfl⟩:=bN (show 0<F by omega)
  have Hs:cw ⟨s,(n:Int),false⟩ first=some true:=by
   unfold cw
   rw [l5 h,Option.bind_some]
   by_cases hx:nx r=64
   · rw [if_pos (by simpa using hx)]
   · rw [if_neg (by simpa using hx)]
     cases first with
     |false=>rfl
     |true=>exact absurd (Xc rfl) hx
  have hb:bC FF (first,⟨s,(n:Int),false⟩)=(bl ⟨s,(n:Int),false⟩ 64).bind fun r8=>(bT FF r8).bind fun x=>(bD x.2 44).bind fun y=>if (!y.1)=true then (bl y.2 58).bind fun mb=>some (.ret mb) else some (.cB (false,y.2)):=by
   simp only [bC]
   rw [Hs]
   rfl
  simp only [xj]
  by_cases hx:nx r=64
  · rw [if_pos hx]
    obtain ⟨t,rfl⟩:=gD hx (by decide)
    simp only [List.drop_succ_cons,List.drop_zero]
    rw [wG h] at hb
    simp only [Option.bind_some] at hb
    have hd:=Bv (F:=FF) h.next A5
    cases MD:fC t with
    |none=>
     rw [MD] at hd
     obtain ⟨b,n',h1,h2⟩:=hd
     rw [h1] at hb
     simp only [Option.bind_some] at hb
     rw [ug (by decide)] at hb
     simp only [Option.bind_some,Bool.not_false,if_true] at hb
     rw [iK] at hb
     exact ⟨_,cK hb,n',rfl,h2⟩
    |some x=>
     obtain ⟨b,r2⟩:=x
     rw [MD] at hd
     obtain ⟨n',h1,h2⟩:=hd
     rw [h1] at hb
     simp only [Option.bind_some] at hb
     have hlen:=uj MD
     by_cases JW:nx r2=44
     · obtain ⟨r3,rfl⟩:=gD JW (by decide)
       simp only [if_pos JW,List.drop_succ_cons,List.drop_zero]
       rw [wg h2] at hb
       simp only [Option.bind_some,Bool.not_true,Bool.false_eq_true,if_false] at hb
       rw [bW hb]
       simp only [List.length_cons] at hk hlen
       exact ih false r3 (n'+1) G h2.next (by omega) (by omega) (fun h=>by cases h)
     · simp only [if_neg JW]
       rw [tF h2 JW] at hb
       simp only [Option.bind_some,Bool.not_false,if_true] at hb
       have hw:=QW (c:=58) h2 (by decide)
       generalize hg:(if nx r2=58 then some (r2.drop 1) else none)=g at hw
       cases g with
       |none=>obtain ⟨m,h3,h4⟩:=hw;rw [h3] at hb;exact ⟨_,cK hb,m,rfl,h4⟩
       |some rest=>obtain ⟨m,h3,h4⟩:=hw;rw [h3] at hb;exact ⟨_,cK hb,m,rfl,h4⟩
  · rw [if_neg hx]
    rw [zX h hx] at hb
    simp only [Option.bind_some] at hb
    rw [nh h.le (by omega)] at hb
    simp only [Option.bind_some] at hb
    rw [ug (by decide)] at hb
    simp only [Option.bind_some,Bool.not_false,if_true] at hb
    rw [iK] at hb
    exact ⟨_,cK hb,n,rfl,h.le⟩
theorem ME {s r:List UInt8} {n F:Nat} (h:At s n r) (hF:s.length+1<F):Uo s (c8 F ⟨s,(n:Int),false⟩) (kP r):=by
 have:=h.len
 unfold c8 kP
 by_cases hx:nx r=64
 · rw [if_pos hx]
   obtain ⟨o,h1,h2⟩:=JV hF (r.length+1) true r n F h (by omega) (by omega) fun _=>hx
   rw [h1]
   cases o with
   |inl x=>exact h2
   |inr x=>exact h2
 · rw [if_neg hx]
   obtain ⟨G,rfl⟩:=bN (show 0<F by omega)
   have hb:bC (G+1) (true,⟨s,(n:Int),false⟩)=some (.eg ⟨s,(n:Int),false⟩):=by
    simp only [bC,cw]
    rw [l5 h,Option.bind_some,if_neg (by simpa using hx)]
    rfl
   rw [bA hb]
   exact ⟨n,rfl,h⟩
theorem JX {s:List UInt8} {n F:Nat} (hF:0<F):c8 F ⟨s,(n:Int),true⟩=some ⟨s,(n:Int),true⟩:=by
 obtain ⟨G,rfl⟩:=bN hF
 unfold c8
 have hb:bC (G+1) (true,⟨s,(n:Int),true⟩)=some (.eg ⟨s,(n:Int),true⟩):=by
  simp only [bC,cw]
  rw [tE,Option.bind_some,if_neg (by decide)]
  rfl
 rw [bA hb]
 rfl
def wj (r:List UInt8):Option (aC×List UInt8):=
 match kP r with
 |none=>none
 |some r1=>match iS r1 with
  |none=>none
  |some (l,r2)=>if nx r2=64 then (match fC (r2.drop 1) with
   |none=>none
   |some (d,r3)=>if nx r3=62 then some (⟨l,d⟩,r3.drop 1) else none) else none
def A6 (s:List UInt8):Option (aC×List UInt8):=
 if nx s=60 then (if nx (s.drop 1)=62 then some (⟨[],[]⟩,s.drop 2) else wj (s.drop 1)) else none
theorem aah {s r:List UInt8} {n F:Nat} (h:At s n r) (hF:s.length+1<F):
 match wj r with
 |some (a,rest)=>∃n':Nat,fj F false ⟨s,(n:Int),false⟩=some (⟨s,(n':Int),false⟩,a)∧At s n' rest
 |none=>∃a,∃n':Nat,fj F false ⟨s,(n:Int),false⟩=some (⟨s,(n':Int),true⟩,a)∧n'≤s.length:=by
 unfold fj
 simp only [Bool.not_false,if_true]
 have bad:∀(m:Nat) (l:List UInt8),m≤s.length→∃a,((bl ⟨s,(m:Int),true⟩ 64).bind fun mB=>(bT F mB).bind fun x=>(bl x.2 62).bind fun iO=>some (iO,aC.mk l x.1))=some ((⟨s,(m:Int),true⟩:aA),a):=by
  intro m l hm
  rw [iK,Option.bind_some,nh hm (by omega),Option.bind_some]
  simp only
  rw [iK]
  exact ⟨_,rfl⟩
 unfold wj
 have hr:=ME h hF
 cases hrl:kP r with
 |none=>
  rw [hrl] at hr
  obtain ⟨n1,h1,h2⟩:=hr
  rw [h1,Option.bind_some]
  obtain ⟨b,h3⟩:=DX (F:=F) h2 (by omega)
  rw [h3,Option.bind_some]
  obtain ⟨a,h4⟩:=bad n1 b h2
  exact ⟨a,n1,h4,h2⟩
 |some r1=>
  rw [hrl] at hr
  obtain ⟨n1,h1,h2⟩:=hr
  rw [h1,Option.bind_some]
  have hl:=MC h2 hF
  cases CC:iS r1 with
  |none=>
   rw [CC] at hl
   obtain ⟨b,n2,h3,h4⟩:=hl
   rw [h3,Option.bind_some]
   obtain ⟨a,h5⟩:=bad n2 b h4
   simp only [CC]
   exact ⟨a,n2,h5,h4⟩
  |some x=>
   obtain ⟨l,r2⟩:=x
   rw [CC] at hl
   obtain ⟨n2,h3,h4⟩:=hl
   rw [h3,Option.bind_some]
   simp only [CC]
   by_cases zY:nx r2=64
   · obtain ⟨t,rfl⟩:=gD zY (by decide)
     rw [wG h4,Option.bind_some]
     simp only [if_pos zY,List.drop_succ_cons,List.drop_zero]
     have hd:=Bv h4.next hF
     cases MD:fC t with
     |none=>
      rw [MD] at hd
      obtain ⟨b,n3,h5,h6⟩:=hd
      rw [h5,Option.bind_some]
      simp only
      rw [iK]
      exact ⟨_,n3,rfl,h6⟩
     |some y=>
      obtain ⟨d,r3⟩:=y
      rw [MD] at hd
      obtain ⟨n3,h5,h6⟩:=hd
      rw [h5,Option.bind_some]
      simp only
      by_cases uk:nx r3=62
      · obtain ⟨u,rfl⟩:=gD uk (by decide)
        rw [wG h6]
        simp only [if_pos uk,List.drop_succ_cons,List.drop_zero]
        exact ⟨_,rfl,h6.next⟩
      · rw [zX h6 uk]
        simp only [if_neg uk]
        exact ⟨_,n3,rfl,h6.le⟩
   · rw [zX h4 zY,Option.bind_some]
     simp only [if_neg zY]
     rw [nh h4.le (by omega),Option.bind_some]
     simp only
     rw [iK]
     exact ⟨_,n2,rfl,h4.le⟩
def esc (l:List UInt8):List UInt8:=l.flatMap fun c=>if c=34∨c=92 then [92,c] else [c]
def so (a:aC):List UInt8:=if gl a.ax then 60::(a.ax++64::(a.domain++[62])) else 60::34::(esc a.ax++34::64::(a.domain++[62]))
def Bw (s:List UInt8):Bool:=s !=[]&&decide (s.length≤64)&&s.all cG
def fD (a:aC):Bool:=decide (a.ax=[])&&decide (a.domain=[])
def gm (a:aC):Bool:=fD a||(Bw a.ax&&e6 a.domain&&decide ((so a).length≤256))
theorem JY (l:List UInt8):(esc l).length≤2*l.length:=by
 induction l with
 |nil=>simp [esc]
 |cons c l ih=>
  simp only [esc,List.flatMap_cons,List.length_append,List.length_cons] at ih ⊢
  split<;>simp only [List.length_cons,List.length_nil]<;>omega
theorem MF {s:List UInt8} {F:Nat} (hl:s.length≤1000000) (hF:s.length<F):gX F s=some (s.all cG):=by
 unfold gX
 have hh:=scan (s:=s) (body:=dz s) (mk:=fun i=>(false,(i:Int))) (p:=cG) (rr:=fun _=>false) (tt:=()) ?_ ?_ ?_ hF
 · cases ha:s.all cG with
   |true=>have:=hh.1 ha;rw [show ((0:Nat):Int)=0 from rfl] at this;rw [this];rfl
   |false=>obtain ⟨j,hj⟩:=hh.2 ha;rw [show ((0:Nat):Int)=0 from rfl] at hj;rw [hj];rfl
 · intro i x hx hp
   have hi:=(List.getElem?_eq_some_iff.1 hx).1
   simp only [dz]
   rw [if_pos (by simpa using hi),bt hx,Option.bind_some,Hu,Option.bind_some,hp,wi (by omega)];rfl
 · intro i x hx hp
   have hi:=(List.getElem?_eq_some_iff.1 hx).1
   simp only [dz]
   rw [if_pos (by simpa using hi),bt hx,Option.bind_some,Hu,Option.bind_some,hp];rfl
 · simp [dz]
theorem Up {s:List UInt8} {F:Nat} (hF:s.length<F):mT F s=some (Bw s):=by
 unfold mT lF Bw
 by_cases h:s=[]
 · subst h;rfl
 · by_cases h2:s.length≤64
   · rw [if_pos (by simpa using h),if_pos (by simp;omega),MF (by omega) hF]
     simp [h,h2]
   · rw [if_pos (by simpa using h),if_neg (by simp;omega)]
     simp [h2]
theorem MG {a:aC} (hl:a.ax.length≤80000):∀(r:List UInt8) (i F:Nat) (b:List UInt8),a.ax.drop i=r→i+r.length=a.ax.length→b.length≤2*i+1→r.length<F→
 iter (ga a) F (b,(i:Int))=some (.inr (b++esc r)):=by
 intro r
 induction r with
 |nil=>
  intro i F b hd hi hb hF
  obtain ⟨G,rfl⟩:=bN hF
  rw [bA (t:=b) (by simp only [ga];rw [if_neg (by simp at hi ⊢;omega)])]
  simp [esc]
 |cons c r ih=>
  intro i F b hd hi hb hF
  obtain ⟨G,rfl⟩:=bN (show 0<F by omega)
  obtain ⟨h1,h2,h3⟩:=drop_cons hd
  simp only [List.length_cons] at hi hF
  have hst:ga a (b,(i:Int))=some (.cB (b++(if c=34∨c=92 then [92,c] else [c]),((i+1:Nat):Int))):=by
   simp only [ga,mK]
   rw [if_pos (by simpa using h1),bt h2]
   simp only [Option.bind_some]
   by_cases Hw:c=34
   · subst Hw
     simp only [decide_true,if_true,Option.bind_some,true_or]
     rw [e5 (by simp;omega) (by omega),Option.bind_some,e5 (by simp;omega) (by omega),Option.bind_some,wi (by omega)]
     simp
   · by_cases MH:c=92
     · subst MH
       rw [if_neg (by decide)]
       simp only [decide_true,Option.bind_some,if_true,or_true]
       rw [e5 (by simp;omega) (by omega),Option.bind_some,e5 (by simp;omega) (by omega),Option.bind_some,wi (by omega)]
       simp
     · rw [if_neg (by simpa using Hw)]
       simp only [Option.bind_some]
       rw [if_neg (by simpa using MH),e5 (by simp;omega) (by omega),Option.bind_some,wi (by omega),if_neg (by simp [Hw,MH])]
  rw [bW hst,ih (i+1) G _ h3 (by omega) (by split<;>simp<;>omega) (by omega)]
  simp [esc]
theorem JZ {a:aC} {F:Nat} (hl:a.ax.length≤80000) (hd:a.domain.length≤80000) (hF:a.ax.length+1<F):mE F a=some (so a):=by
 have he:=JY a.ax
 unfold mE so
 rw [Fz (by omega) hF,Option.bind_some]
 cases gl a.ax with
 |true=>
  simp only [Bool.not_true,Bool.false_eq_true,if_false,if_true]
  rw [gR (by simp;omega),Option.bind_some,gR (by simp;omega),Option.bind_some,gR (by simp;omega),Option.bind_some,gR (by simp;omega),Option.bind_some]
  simp
 |false=>
  simp only [Bool.not_false,if_true,Bool.false_eq_true,if_false]
  rw [show (([34]:List UInt8),(0:Int))=(([34]:List UInt8),((0:Nat):Int)) from rfl,MG hl a.ax 0 F [34] (by simp) (by simp) (by simp) (by omega)]
  simp only [Option.bind_some]
  rw [e5 (by simp;omega) (by omega),Option.bind_some,gR (by simp;omega),Option.bind_some,gR (by simp;omega),Option.bind_some,gR (by simp;omega),Option.bind_some,gR (by simp;omega),Option.bind_some]
  simp
theorem A7 {a:aC} {F:Nat} (hl:a.ax.length≤80000) (hd:a.domain.length≤80000) (hF:a.ax.length+a.domain.length+1<F):k5 F a=some (gm a):=by
 unfold k5 lH mD gm
 simp only [Option.bind_some]
 cases hn:fD a with
 |true=>rw [fD] at hn;rw [hn];rfl
 |false=>
  rw [fD] at hn
  rw [hn]
  simp only [Bool.false_eq_true,if_false,Bool.false_or]
  rw [Up (by omega),Option.bind_some]
  cases hlb:Bw a.ax with
  |false=>rfl
  |true=>
   simp only [if_true,Bool.true_and]
   rw [Ui (by omega) (by omega),Option.bind_some]
   cases hdb:e6 a.domain with
   |false=>rfl
   |true=>
    simp only [if_true,Bool.true_and]
    rw [JZ hl hd (by omega)]
    simp
    omega
theorem Xd (a:aC):mD a=some (fD a):=rfl
def iP (s:List UInt8):aC×List UInt8×Int:=
 match A6 s with
 |none=>(⟨[],[]⟩,[],3)
 |some (a,rest)=>if gm a then (a,rest,0) else (⟨[],[]⟩,[],5)
theorem At.zero {s:List UInt8} (h:s.length≤90000):At s 0 s:=⟨Nat.zero_le _,rfl,h⟩
theorem aai {s:List UInt8} {a:aC} {rest:List UInt8} {n:Nat} {t:List UInt8}:True:=trivial
end Go.Proofs.cY
end
section
set_option maxRecDepth 100000
namespace Go.Proofs.cY
open Go Go.Am Go.Proofs
theorem Xe:∀(k:Nat) (r b rest:List UInt8),r.length≤k→qL r=some (b,rest)→b.length+rest.length≤r.length:=by
 intro k
 induction k with
 |zero=>
  intro r b rest hk h
  have hr:r=[]:=List.length_eq_zero_iff.1 (by omega)
  subst hr;cases h
 |succ k ih=>
  intro r b rest hk h
  match r,hk,h with
  |[],hk,h=>cases h
  |c::r,hk,h=>
   rw [tG] at h
   simp only [List.length_cons] at hk ⊢
   split at h
   · injection h with h;injection h with h1 h2;subst h1 h2;simp
   · split at h
     · match r,hk,h with
       |[],hk,h=>cases h
       |d::r',hk,h=>
        simp only at h
        split at h
        · simp only [Option.map_eq_some_iff] at h
          obtain ⟨⟨b',rest'⟩,h1,h2⟩:=h
          injection h2 with h2 h3
          subst h2 h3
          have:=ih r' b' rest' (by simp at hk;omega) h1
          simp;omega
        · cases h
     · split at h
       · simp only [Option.map_eq_some_iff] at h
         obtain ⟨⟨b',rest'⟩,h1,h2⟩:=h
         injection h2 with h2 h3
         subst h2 h3
         have:=ih r b' rest' (by omega) h1
         simp;omega
       · cases h
theorem zZ (q:UInt8→Bool) (r:List UInt8):(r.dropWhile q).length≤r.length:=(List.dropWhile_suffix q).length_le
theorem wm {r b t:List UInt8} (h:iS r=some (b,t)):b.length≤r.length∧t.length≤r.length:=by
 unfold iS at h
 split at h
 · split at h
   · rename_i b' rest' hq
     have:=Xe _ _ _ _ (Nat.le_refl _) hq
     have hd:(r.drop 1).length≤r.length:=by simp
     split at h
     · cases h
     · injection h with h;injection h with h1 h2;subst h1 h2;omega
   · cases h
 · split at h
   · injection h with h;injection h with h1 h2;subst h1 h2
     exact ⟨oq _ _,zZ _ _⟩
   · cases h
theorem E4 {r b t:List UInt8} (h:fC r=some (b,t)):b.length≤r.length:=by
 unfold fC at h
 split at h
 · injection h with h;injection h with h1 _;subst h1;exact oq _ _
 · cases h
theorem QX:∀(k:Nat) (r r':List UInt8),xj k r=some r'→r'.length≤r.length:=by
 intro k
 induction k with
 |zero=>intro r r' h;cases h
 |succ k ih=>
  intro r r' h
  simp only [xj] at h
  split at h
  · split at h
    · cases h
    · rename_i b r2 hd
      have h1:=uj hd
      have h2:(r.drop 1).length≤r.length:=by simp
      have h3:(r2.drop 1).length≤r2.length:=by simp
      split at h
      · have:=ih _ _ h;omega
      · split at h
        · injection h with h;subst h;omega
        · cases h
  · cases h
theorem wo {r r':List UInt8} (h:kP r=some r'):r'.length≤r.length:=by
 unfold kP at h
 split at h
 · exact QX _ _ _ h
 · injection h with h;subst h;exact Nat.le_refl _
theorem QY {r rest:List UInt8} {a:aC} (h:wj r=some (a,rest)):a.ax.length≤r.length∧a.domain.length≤r.length:=by
 unfold wj at h
 split at h
 · cases h
 · rename_i r1 hr
   have h1:=wo hr
   split at h
   · cases h
   · rename_i l r2 hl
     have h2:=wm hl
     split at h
     · split at h
       · cases h
       · rename_i d r3 hd
         have h3:=E4 hd
         have h4:(r2.drop 1).length≤r2.length:=by simp
         split at h
         · injection h with h;injection h with h5 _;subst h5;simp only;omega
         · cases h
     · cases h
theorem Uq {s:List UInt8} {F:Nat} (hs:s.length≤40000) (hF:2*s.length+10<F):o5 F s=some (iP s):=by
 have hz:=At.zero (s:=s) (by omega)
 have MI:gm ⟨[],[]⟩=true:=by simp [gm,fD]
 unfold o5 iP A6
 rw [show (aA.mk s 0 false)=⟨s,((0:Nat):Int),false⟩ from rfl]
 by_cases E5:nx s=60
 · obtain ⟨r,rfl⟩:=gD E5 (by decide)
   rw [wG hz,Option.bind_some,if_pos E5]
   simp only [List.drop_succ_cons,List.drop_zero]
   have h1:=hz.next
   by_cases uk:nx r=62
   · obtain ⟨t,rfl⟩:=gD uk (by decide)
     rw [wg h1,if_pos uk]
     simp only [Option.bind_some,fj,Bool.not_true,Bool.false_eq_true,if_false]
     rw [A7 (a:=⟨[],[]⟩) (by simp) (by simp) (by simp;omega),MI]
     simp only [Option.bind_some,Bool.not_true,Bool.false_eq_true,if_false,kA]
     rw [fB h1.next.le]
     simp
   · rw [tF h1 uk,if_neg uk]
     simp only [Option.bind_some]
     have hp:=aah (F:=F) h1 (by omega)
     cases hb:wj r with
     |none=>
      rw [hb] at hp
      obtain ⟨a,n',h2,h3⟩:=hp
      rw [h2]
      rfl
     |some x=>
      obtain ⟨a,rest⟩:=x
      rw [hb] at hp
      obtain ⟨n',h2,h3⟩:=hp
      obtain ⟨N1,nW⟩:=QY hb
      simp only [List.length_cons] at hs hF
      rw [h2]
      simp only [Option.bind_some,Bool.false_eq_true,if_false]
      rw [A7 (by omega) (by omega) (by omega),Option.bind_some]
      cases hr:gm a with
      |false=>simp
      |true=>
       simp only [Bool.not_true,Bool.false_eq_true,if_false,kA,if_true]
       rw [fB h3.le,h3.dr]
       rfl
 · rw [zX hz E5,Option.bind_some,if_neg E5,ug (by decide)]
   simp only [Option.bind_some,fj,Bool.not_false,if_true]
   rw [JX (by omega),Option.bind_some]
   obtain ⟨b,h3⟩:=DX (s:=s) (n:=0) (F:=F) (Nat.zero_le _) (by omega)
   rw [h3]
   simp only [Option.bind_some]
   rw [iK,Option.bind_some,nh (Nat.zero_le _) (by omega)]
   simp only [Option.bind_some]
   rw [iK]
   simp
def acG (s:List UInt8):aC×Int:=if (iP s).2.2=0∧(iP s).2.1≠[] then (⟨[],[]⟩,3) else ((iP s).1,(iP s).2.2)
theorem NL {q:UInt8→Bool} {l:List UInt8} {x:UInt8} (hx:q x=false) (h:∀c∈l,q c=true) (t:List UInt8):(l++x::t).takeWhile q=l∧(l++x::t).dropWhile q=x::t:=by
 induction l with
 |nil=>simp [hx]
 |cons c l ih=>
  obtain ⟨h1,h2⟩:=ih fun y hy=>h y (by simp [hy])
  have:=h c (by simp)
  simp [this,h1,h2]
theorem DY (c:UInt8):dY c=true→gS c=true∧c≠62∧c≠64∧c≠34:=by
 have:=fH (p:=fun c=> !dY c||(gS c&&c !=62&&c !=64&&c !=34)) (by kernel_rfl) c
 intro h
 rw [h] at this
 simp at this
 exact ⟨this.1.1.1,this.1.1.2,this.1.2,this.2⟩
theorem MJ {l:List UInt8} (h:gl l=true):∀c∈l,gS c=true:=by
 intro c hc
 rcases yK l c hc with rfl|⟨p,hp,js⟩
 · decide
 · have:=List.all_eq_true.1 h p hp
   simp only [Bool.and_eq_true] at this
   exact (DY c (List.all_eq_true.1 this.2 c js)).1
theorem J0 {l:List UInt8} (h:gl l=true):∃c t,l=c::t∧dY c=true:=by
 cases l with
 |nil=>simp [gl,aT] at h
 |cons c t=>
  refine ⟨c,t,rfl, ?_⟩
  unfold gl at h
  simp only [aT] at h
  by_cases hc:c=46
  · rw [if_pos hc] at h;simp at h
  · rw [if_neg hc] at h
    cases hs:aT t with
    |nil=>exact absurd hs (gb t)
    |cons x y=>rw [hs] at h;simp at h;exact h.1.1
theorem Ur (c:UInt8):(v8 c=true→bY c=true)∧(eK c=true→bY c=true):=by
 have:=fH (p:=fun c=>(!v8 c||bY c)&&(!eK c||bY c)) (by kernel_rfl) c
 simp at this
 exact ⟨fun h=>by simpa [h] using this.1,fun h=>by simpa [h] using this.2⟩
theorem MK {l:List UInt8} {x:UInt8} (h:l.getLast?=some x):l.dropLast++[x]=l:=by
 have hne:l≠[]:=by intro h0;subst h0;cases h
 have h2:=List.dropLast_concat_getLast hne
 rw [List.getLast?_eq_some_getLast hne] at h
 injection h with h
 rw [←h];exact h2
theorem J1 {d:List UInt8} (h:nM d=true):d=91::(inner d++[93]):=by
 simp only [nM,Bool.and_eq_true,decide_eq_true_eq,beq_iff_eq] at h
 cases d with
 |nil=>simp at h
 |cons c r=>
  obtain ⟨⟨h1,h2⟩,h3⟩:=h
  simp at h2
  subst h2
  cases r with
  |nil=>simp at h1
  |cons a t=>
   rw [List.getLast?_cons_cons] at h3
   simp only [inner,List.drop_succ_cons,List.drop_zero]
   rw [MK h3]
theorem ML {d:List UInt8} (h:e6 d=true):∀c∈d,bY c=true:=by
 intro c hc
 simp only [e6,Bool.and_eq_true] at h
 have hs:=h.1.2
 unfold dy at hs
 by_cases hi:nM d=true
 · rw [if_pos hi] at hs
   simp only [Bool.and_eq_true] at hs
   rw [J1 hi] at hc
   rcases List.mem_cons.1 hc with rfl|hc
   · decide
   · rcases List.mem_append.1 hc with hc|hc
     · rcases yK _ c hc with rfl|⟨p,hp,js⟩
       · decide
       · exact (Ur c).2 (List.all_eq_true.1 (p9 (List.all_eq_true.1 hs.2 p hp)).2.1 c js)
     · simp at hc;subst hc;decide
 · rw [if_neg hi] at hs
   rcases yK _ c hc with rfl|⟨p,hp,js⟩
   · decide
   · have:=List.all_eq_true.1 hs p hp
     simp only [fJ,Bool.and_eq_true] at this
     exact (Ur c).1 (List.all_eq_true.1 this.2 c js)
theorem z1 {d:List UInt8} (h:e6 d=true) {x:UInt8} (hx:bY x=false) (t:List UInt8):fC (d++x::t)=some (d,x::t):=by
 obtain ⟨h1,h2⟩:=NL hx (ML h) t
 unfold fC
 rw [h1,h2,if_pos]
 simp only [e6,Bool.and_eq_true] at h
 exact h.1.2
theorem Xf {l:List UInt8} (h:l.all cG=true) (rest:List UInt8):qL (esc l++34::rest)=some (l,rest):=by
 induction l with
 |nil=>simp [esc,tG]
 |cons c l ih=>
  simp only [List.all_cons,Bool.and_eq_true] at h
  have ih:=ih h.2
  simp only [esc,List.flatMap_cons,List.append_assoc] at ih ⊢
  by_cases hc:c=34∨c=92
  · rw [if_pos hc]
    simp only [List.cons_append,List.nil_append]
    rw [tG,if_neg (by decide),if_pos rfl]
    simp only [h.1,if_true,ih,Option.map_some]
  · rw [if_neg hc]
    simp only [List.cons_append,List.nil_append]
    rw [tG,if_neg fun h=>hc (.inl h),if_neg fun h=>hc (.inr h)]
    simp only [h.1,if_true,ih,Option.map_some]
theorem QZ {a:aC} (hn:fD a=false) (h:gm a=true) (more:List UInt8):∃r,so a=60::r∧nx r≠62∧nx r≠64∧(∀r',kP r'=some (r++more)→wj r'=some (a,more)):=by
 simp only [gm,hn,Bool.false_or,Bool.and_eq_true] at h
 obtain ⟨⟨hl,hd⟩, -⟩:=h
 simp only [Bw,Bool.and_eq_true] at hl
 unfold so
 cases hp:gl a.ax with
 |true=>
  obtain ⟨c,t,ht,hc⟩:=J0 hp
  obtain ⟨-,uk,zY,Hw⟩:=DY c hc
  refine ⟨a.ax++64::(a.domain++[62]),by simp, ?_, ?_, ?_⟩
  · rw [ht];simpa [nx] using uk
  · rw [ht];simpa [nx] using zY
  · intro r' hr'
    have e:(a.ax++64::(a.domain++[62]))++more=a.ax++64::(a.domain++62::more):=by simp
    obtain ⟨h1,h2⟩:=NL (q:=gS) (x:=64) (by decide) (MJ hp) (a.domain++62::more)
    unfold wj
    rw [hr',e]
    have Us:iS (a.ax++64::(a.domain++62::more))=some (a.ax,64::(a.domain++62::more)):=by
     unfold iS
     rw [if_neg (by rw [ht];simpa [nx] using Hw),h1,h2,if_pos hp]
    simp only [Us]
    rw [if_pos (show nx (64::(a.domain++62::more))=64 from rfl)]
    simp only [List.drop_succ_cons,List.drop_zero]
    rw [z1 hd (by decide)]
    rfl
 |false=>
  refine ⟨34::(esc a.ax++34::64::(a.domain++[62])),by simp,by simp [nx],by simp [nx], ?_⟩
  intro r' hr'
  have e:(34::(esc a.ax++34::64::(a.domain++[62])))++more=34::(esc a.ax++34::64::(a.domain++62::more)):=by simp
  unfold wj
  rw [hr',e]
  have Us:iS (34::(esc a.ax++34::64::(a.domain++62::more)))=some (a.ax,64::(a.domain++62::more)):=by
   unfold iS
   rw [if_pos (show nx (34::(esc a.ax++34::64::(a.domain++62::more)))=34 from rfl)]
   simp only [List.drop_succ_cons,List.drop_zero]
   rw [Xf hl.2]
   simp only
   rw [if_neg (by simpa using hl.1.1)]
  simp only [Us]
  rw [if_pos (show nx (64::(a.domain++62::more))=64 from rfl)]
  simp only [List.drop_succ_cons,List.drop_zero]
  rw [z1 hd (by decide)]
  rfl
theorem aaj {a:aC} (hn:fD a=false) (h:gm a=true) (more:List UInt8):iP (so a++more)=(a,more,0):=by
 obtain ⟨r,hr,uk,zY,hb⟩:=QZ hn h more
 have acj:r≠[]:=by
  intro kV
  subst kV
  unfold so at hr
  split at hr
  · injection hr with _ hr;simp at hr
  · injection hr with _ hr;simp at hr
 have hnx:nx (r++more)=nx r:=by
  cases r with
  |nil=>exact absurd rfl acj
  |cons=>rfl
 unfold iP A6
 rw [hr,List.cons_append,if_pos (show nx (60::(r++more))=60 from rfl)]
 simp only [List.drop_succ_cons,List.drop_zero]
 rw [if_neg (by rw [hnx];exact uk),hb (r++more) (by unfold kP;rw [if_neg (by rw [hnx];exact zY)])]
 simp only
 rw [if_pos h]
theorem aaz {a:aC} {F:Nat} (hl:a.ax.length≤40000) (hd:a.domain.length≤40000) (hF:a.ax.length+a.domain.length+1<F):k6 F a=some (if fD a then [60,62] else if gm a then so a else []):=by
 unfold k6
 rw [Xd,Option.bind_some]
 cases fD a with
 |true=>rfl
 |false=>
  simp only [Bool.false_eq_true,if_false]
  rw [A7 (by omega) (by omega) hF,Option.bind_some]
  cases gm a with
  |false=>rfl
  |true=>
   simp only [Bool.not_true,Bool.false_eq_true,if_false,if_true]
   rw [JZ (by omega) (by omega) (by omega)]
   rfl
end Go.Proofs.cY
end
section
namespace Go.Am
open Go
def sr {α A ρ:Type} (step:A→α→Except ρ A):A→List α→Except ρ A
 |a,[]=> .ok a
 |a,x::r=>match step a x with
  | .ok a'=>sr step a' r
  | .error e=> .error e
theorem lp {α ρ τ σ A:Type} {s:List α} {body:σ→Option (St ρ τ σ)} {mk:A→Nat→σ} {step:A→α→Except ρ A} {tt:A→τ} (I:A→Nat→Prop)
 (h1:∀a i x,s[i]? =some x→I a i→match step a x with
  | .ok a'=>body (mk a i)=some (.cB (mk a' (i+1)))∧I a' (i+1)
  | .error r=>body (mk a i)=some (.ret r))
 (h3:∀a,I a s.length→body (mk a s.length)=some (.eg (tt a))) {F:Nat} {a:A} (hF:s.length<F) (h0:I a 0):
 iter body F (mk a 0)=some (match sr step a s with| .ok a'=> .inr (tt a')| .error r=> .inl r)∧∀a',sr step a s= .ok a'→I a' s.length:=by
 suffices h:∀(r:List α) (i F:Nat) (a:A),s.drop i=r→i+r.length=s.length→r.length<F→I a i→
  iter body F (mk a i)=some (match sr step a r with| .ok a'=> .inr (tt a')| .error r=> .inl r)∧∀a',sr step a r= .ok a'→I a' s.length from h s 0 F a rfl (by simp) hF h0
 intro r
 induction r with
 |nil=>
  intro i F a hd hl hF h0
  obtain ⟨G,rfl⟩:=bN hF
  have:i=s.length:=by simpa using hl
  subst this
  exact ⟨bA (h3 a h0),fun a' h=>by cases h;exact h0⟩
 |cons x r ih=>
  intro i F a hd hl hF h0
  obtain ⟨G,rfl⟩:=bN hF
  obtain ⟨hi,hx,hr⟩:=drop_cons hd
  simp only [List.length_cons] at hl hF
  have:=h1 a i x hx h0
  simp only [sr]
  cases hs:step a x with
  |ok a'=>
   rw [hs] at this
   rw [bW this.1]
   exact ih (i+1) G a' hr (by omega) (by omega) this.2
  |error e=>
   rw [hs] at this
   rw [cK this]
   exact ⟨rfl,fun a' h=>by cases h⟩
theorem lpo {α ρ τ σ A:Type} {s:List α} {body:σ→Option (St ρ τ σ)} {mk:A→Nat→σ} {step:A→α→A} {tt:A→τ} (I:A→Nat→Prop)
 (h1:∀a i x,s[i]? =some x→I a i→body (mk a i)=some (.cB (mk (step a x) (i+1)))∧I (step a x) (i+1))
 (h3:∀a,I a s.length→body (mk a s.length)=some (.eg (tt a))) {F:Nat} {a:A} (hF:s.length<F) (h0:I a 0):
 iter body F (mk a 0)=some (.inr (tt (s.foldl step a)))∧I (s.foldl step a) s.length:=by
 have key:∀(r:List α) (a:A),sr (ρ:=ρ) (fun a x=> .ok (step a x)) a r= .ok (r.foldl step a):=by
  intro r
  induction r with
  |nil=>intro a;rfl
  |cons x r ih=>intro a;simp only [sr,List.foldl_cons];exact ih _
 have:=lp (s:=s) (body:=body) (mk:=mk) (step:=fun a x=> .ok (step a x)) (tt:=tt) I (fun a i x hx h=>h1 a i x hx h) h3 hF h0
 rw [key] at this
 exact ⟨this.1,this.2 _ rfl⟩
theorem adr {a b:Int} (h0:0≤a) (h1:a≤4000000000000000000) (h2:0≤b) (h3:b≤4000000000000000000):IntKind.wrap .i64 (a+b)=a+b:=wr (by omega) (by omega)
theorem Q0 {n:Nat} (h:n≤1000000000):IntKind.wrap .i64 ((n:Int)+1)=((n+1:Nat):Int):=by rw [wr (by omega) (by omega)];simp
theorem Ut {α ρ τ σ:Type} {s:List α} {body:σ→Option (St ρ τ σ)} {mk:Nat→σ} {p:α→Bool} {rr:Nat→ρ} {tt:τ}
 (h1:∀i x,s[i]? =some x→p x=true→body (mk i)=some (.cB (mk (i+1)))) (h2:∀i x,s[i]? =some x→p x=false→body (mk i)=some (.ret (rr i)))
 (h3:body (mk s.length)=some (.eg tt)) {F:Nat} (hF:s.length<F):
 (s.all p=true→iter body F (mk 0)=some (.inr tt))∧(s.all p=false→∃j,iter body F (mk 0)=some (.inl (rr j))):=by
 suffices h:∀(r:List α) (i F:Nat),s.drop i=r→i+r.length=s.length→r.length<F→
  (r.all p=true→iter body F (mk i)=some (.inr tt))∧(r.all p=false→∃j,iter body F (mk i)=some (.inl (rr j))) from h s 0 F rfl (by simp) hF
 intro r
 induction r with
 |nil=>
  intro i F hd hl hF
  obtain ⟨G,rfl⟩:=bN hF
  have:i=s.length:=by simpa using hl
  subst this
  exact ⟨fun _=>bA h3,fun h=>by simp at h⟩
 |cons x r ih=>
  intro i F hd hl hF
  obtain ⟨G,rfl⟩:=bN hF
  obtain ⟨hi,hx,hr⟩:=drop_cons hd
  simp only [List.length_cons] at hl hF
  cases hp:p x with
  |true=>
   rw [bW (h1 i x hx hp)]
   simp only [List.all_cons,hp,Bool.true_and]
   exact ih (i+1) G hr (by omega) (by omega)
  |false=>
   rw [cK (h2 i x hx hp)]
   simp only [List.all_cons,hp,Bool.false_and]
   exact ⟨fun h=>by simp at h,fun _=>⟨i,rfl⟩⟩
end Go.Am
end
section
set_option maxRecDepth 100000
namespace Go.Proofs.cY
open Go Go.Am Go.Proofs
def low (c:UInt8):UInt8:=if (decide (65≤c)&&decide (c≤90))=true then c+32 else c
def Bf (s:List UInt8) (i:Nat):List UInt8:=(s.map low).take i++s.drop i
theorem wH {s:List UInt8} {i:Nat} (hi:i≤s.length) (j:Nat):(Bf s i)[j]? =if j<i then (s.map low)[j]? else s[j]? :=by
 unfold Bf
 have hl:((s.map low).take i).length=i:=by simp;omega
 by_cases h:j<i
 · rw [if_pos h,List.getElem?_append_left (by omega),List.getElem?_take_of_lt h]
 · rw [if_neg h,List.getElem?_append_right (by omega),hl,List.getElem?_drop]
   congr 1;omega
theorem Cm {s:List UInt8} {i:Nat} (hi:i≤s.length):(Bf s i).length=s.length:=by
 unfold Bf;simp;omega
theorem Hx {s:List UInt8} {i:Nat} (hi:i<s.length) {c:UInt8} (hc:s[i]? =some c):(Bf s i).set i (low c)=Bf s (i+1):=by
 apply List.ext_getElem?
 intro j
 rw [List.getElem?_set,wH (by omega),wH (by omega),Cm (by omega)]
 by_cases h:i=j
 · subst h
   rw [if_pos rfl,if_pos hi,if_pos (by omega),List.getElem?_map,hc];rfl
 · rw [if_neg h]
   by_cases h2:j<i
   · rw [if_pos h2,if_pos (by omega)]
   · rw [if_neg h2,if_neg (by omega)]
theorem NM (s:List UInt8):Bf s s.length=s.map low:=by
 unfold Bf;rw [List.drop_length,List.append_nil,List.take_of_length_le (by simp)]
theorem Xg (c:UInt8) (h:(decide (65≤c)&&decide (c≤90))=true):c ||| 32=low c:=by
 have:=fH (p:=fun c=> !(decide (65≤c)&&decide (c≤90))||(c ||| 32==low c)) (by kernel_rfl) c
 rw [h] at this
 simpa using this
theorem Hy {n i:Nat} (h:i<n):Al n (i:Int)=some i:=by unfold Al;rw [if_pos (by omega)];simp
theorem J2 {xs:List UInt8} {j:Nat} {c:UInt8} (h:j<xs.length):Fo xs j c=some (xs.set j c):=by unfold Fo;rw [if_pos h]
theorem NN {s:List UInt8} {i:Nat} {c:UInt8} (hi:i<s.length) (hc:s[i]? =some c) (h:¬(decide (65≤c)&&decide (c≤90))=true):Bf s i=Bf s (i+1):=by
 rw [←Hx hi hc]
 have hl:low c=c:=by unfold low;rw [if_neg h]
 rw [hl]
 apply List.ext_getElem?
 intro j
 rw [List.getElem?_set,wH (by omega),Cm (by omega)]
 by_cases h:i=j
 · subst h;rw [if_pos rfl,if_pos hi,if_neg (by omega),hc]
 · rw [if_neg h]
theorem aak {s:List UInt8} {F:Nat} (hs:s.length≤2100) (hF:s.length<F):fT F s=some (s.map low):=by
 have DU:∀(m i G:Nat),i+m=s.length→m<G→iter (fy s) G ((i:Int),Bf s i)=some (.inr (s.map low)):=by
  intro m
  induction m with
  |zero=>
   intro i G hi hG
   obtain ⟨G,rfl⟩:=bN hG
   have:i=s.length:=by omega
   subst this
   rw [←NM s]
   exact bA (by simp only [fy];rw [if_neg (by simp)])
  |succ m ih=>
   intro i G hi hG
   obtain ⟨G,rfl⟩:=bN (show 0<G by omega)
   have hil:i<s.length:=by omega
   have hc:s[i]? =some s[i]:=List.getElem?_eq_getElem hil
   have hst:fy s ((i:Int),Bf s i)=some (.cB (((i+1:Nat):Int),Bf s (i+1))):=by
    simp only [fy]
    rw [if_pos (by simpa using hil),Hy hil,Option.bind_some,wH (by omega),if_neg (by omega),hc,Option.bind_some,wi (by omega)]
    by_cases h:(decide (65≤s[i])&&decide (s[i]≤90))=true
    · rw [if_pos h,J2 (by rw [Cm (by omega)];exact hil),Xg _ h,Hx hil hc];rfl
    · rw [if_neg h,NN hil hc h]
   rw [bW hst]
   exact ih (i+1) G (by omega) (by omega)
 unfold fT
 rw [show ((0:Int),s)=(((0:Nat):Int),Bf s 0) by simp [Bf],DU s.length 0 F (by omega) hF]
 simp only [Option.bind_some]
 rw [om (j:=s.length) (by simp),List.take_of_length_le (by simp)]
 rfl
def cg (sep:List UInt8):List UInt8→Option (List UInt8×List UInt8)
 |[]=>none
 |c::r=>if sep.isPrefixOf (c::r) then some ([],(c::r).drop sep.length) else (cg sep r).map fun p=>(c::p.1,p.2)
theorem Q1 {sep:List UInt8} (hs:sep≠[]):∀s:List UInt8,(cg sep s=none∧Lib.index s sep= -1)∨∃i:Nat,Lib.index s sep=(i:Int)∧cg sep s=some (s.take i,s.drop (i+sep.length)):=by
 intro s
 induction s with
 |nil=>left;exact ⟨rfl,by unfold Lib.index;cases sep with|nil=>exact absurd rfl hs|cons=>rfl⟩
 |cons c r ih=>
  unfold Lib.index cg
  by_cases hp:sep.isPrefixOf (c::r)=true
  · right;exact ⟨0,by rw [if_pos hp];rfl,by rw [if_pos hp];simp⟩
  · rw [if_neg hp,if_neg hp]
    rcases ih with ⟨h1,h2⟩|⟨i,h1,h2⟩
    · left;rw [h1,h2];simp
    · right
      refine ⟨i+1, ?_, ?_⟩
      · rw [h1,if_neg (by simp<;>omega)];simp
      · rw [h2];simp [List.take_succ_cons,Nat.add_right_comm]
theorem Xh {sep:List UInt8} (hs:sep≠[]) (s:List UInt8):Lib.cut s sep=match cg sep s with|some (a,b)=>(a,b,true)|none=>(s,[],false):=by
 unfold Lib.cut
 rcases Q1 hs s with ⟨h1,h2⟩|⟨i,h1,h2⟩
 · rw [h1,h2,if_neg (by omega)]
 · rw [h2,h1,if_pos (by omega)];simp
theorem Xi {s sep:List UInt8} (hs:sep≠[]) (hl:s.length≤1000000000):strings_Cut s sep=some (match cg sep s with|some (a,b)=>(a,b,true)|none=>(s,[],false)):=by
 unfold strings_Cut
 rw [if_pos (by omega),Xh hs]
end Go.Proofs.cY
end
section
set_option maxRecDepth 100000
namespace Go.Proofs.cY
open Go Go.Am Go.Proofs
def nb (c:UInt8):Bool:= !decide (c=32)
theorem Q2:∀t:List UInt8,cg [32] t=if t.dropWhile nb=[] then none else some (t.takeWhile nb,(t.dropWhile nb).drop 1):=by
 intro t
 induction t with
 |nil=>rfl
 |cons c r ih=>
  by_cases h:c=32
  · subst h;simp [cg,nb,List.dropWhile,List.takeWhile,List.isPrefixOf]
  · have h1:([32]:List UInt8).isPrefixOf (c::r)=false:=by simp [List.isPrefixOf,Ne.symm h]
    have h2:nb c=true:=by simp [nb,h]
    rw [cg,h1,ih]
    simp only [Bool.false_eq_true,if_false,List.dropWhile_cons,List.takeWhile_cons,h2,if_true]
    split<;>rfl
theorem MM {t:List UInt8} (h:t.length≤1000000000):strings_Cut t [32]=some (t.takeWhile nb,(t.dropWhile nb).drop 1,decide (t.dropWhile nb≠[])):=by
 rw [Xi (by simp) h,Q2]
 by_cases hd:t.dropWhile nb=[]
 · rw [if_pos hd]
   have:=List.takeWhile_append_dropWhile (p:=nb) (l:=t)
   rw [hd,List.append_nil] at this
   simp [hd,this]
 · rw [if_neg hd];simp [hd]
theorem FA {t:List UInt8}:sub t ((t.takeWhile nb).length:Int) (t.length:Int)=some (t.dropWhile nb):=by
 have h:(t.takeWhile nb).length≤t.length:=(List.takeWhile_prefix nb).length_le
 rw [fB h]
 have:=List.takeWhile_append_dropWhile (p:=nb) (l:=t)
 conv=>lhs;rw [←this]
 rw [List.drop_append];simp
def wl:Nat→List UInt8
 |1=>[104,101,108,111]|2=>[101,104,108,111]|3=>[109,97,105,108]|4=>[114,99,112,116]|5=>[100,97,116,97]
 |6=>[114,115,101,116]|7=>[110,111,111,112]|8=>[113,117,105,116]|9=>[118,114,102,121]|_=>[]
def wu:Nat→List UInt8
 |1=>[72,69,76,79]|2=>[69,72,76,79]|3=>[77,65,73,76]|4=>[82,67,80,84]|5=>[68,65,84,65]
 |6=>[82,83,69,84]|7=>[78,79,79,80]|8=>[81,85,73,84]|9=>[86,82,70,89]|_=>[]
def xk (s:List UInt8):Nat→Nat→Option Nat
 |0,_=>none
 |n+1,k=>if wl k=s then some k else xk s n (k+1)
def um (s:List UInt8):Nat:=(xk s 9 1).getD 0
theorem NO {s:List UInt8} {body:Int×Int→Option (St Int Unit (Int×Int))}
 (h:∀k:Nat,1≤k→k≤9→body (0,(k:Int))=some (if wl k=s then .ret (k:Int) else .cB (0,((k+1:Nat):Int)))) (he:body (0,10)=some (.eg ())):
 ∀(n k G:Nat),k+n=10→1≤k→n<G→iter body G (0,(k:Int))=some (match xk s n k with|some j=> .inl (j:Int)|none=> .inr ()):=by
 intro n
 induction n with
 |zero=>
  intro k G hk h1 hG
  obtain ⟨G,rfl⟩:=bN hG
  obtain rfl:k=10:=by omega
  exact bA he
 |succ n ih=>
  intro k G hk h1 hG
  obtain ⟨G,rfl⟩:=bN hG
  have hb:=h k h1 (by omega)
  by_cases hw:wl k=s
  · rw [if_pos hw] at hb
    rw [cK hb];simp [xk,hw]
  · rw [if_neg hw] at hb
    rw [bW hb,ih (k+1) G (by omega) (by omega) (by omega)]
    simp [xk,hw]
theorem Uu {s:List UInt8}:∀(n k j:Nat),xk s n k=some j→k≤j∧j<k+n:=by
 intro n
 induction n with
 |zero=>intro k j h;cases h
 |succ n ih=>
  intro k j h
  unfold xk at h
  split at h
  · injection h with h;omega
  · have:=ih _ _ h;omega
theorem FB (s:List UInt8):um s≤9:=by
 unfold um
 cases h:xk s 9 1 with
 |none=>simp
 |some j=>have:=Uu _ _ _ h;simp;omega
theorem Hz {p:Nat→Prop} (h:p 1∧p 2∧p 3∧p 4∧p 5∧p 6∧p 7∧p 8∧p 9) {k:Nat} (h1:1≤k) (h2:k≤9):p k:=by
 obtain ⟨a1,a2,a3,a4,a5,a6,a7,a8,a9⟩:=h
 have:k=1∨k=2∨k=3∨k=4∨k=5∨k=6∨k=7∨k=8∨k=9:=by omega
 rcases this with rfl|rfl|rfl|rfl|rfl|rfl|rfl|rfl|rfl<;>assumption
abbrev Z:aH:=aH.mk 0 ([]:List UInt8) (aC.mk ([]:List UInt8) ([]:List UInt8)) 0
abbrev A0:aC:=aC.mk ([]:List UInt8) ([]:List UInt8)
def ff (w s:List UInt8):Bool:=decide (w.length≤s.length)&&decide ((s.take w.length).map low=w)
abbrev l6:List UInt8:=[32,102,114,111,109,58]
abbrev Cb:List UInt8:=[32,116,111,58]
abbrev HA:List UInt8:=[32,115,105,122,101,61]
def blk (c:UInt8):Bool:=c==32
def su (w s:List UInt8):aC×List UInt8×Bool:=
 if ff w s then ((iP ((s.drop w.length).dropWhile blk)).1,(iP ((s.drop w.length).dropWhile blk)).2.1,decide ((iP ((s.drop w.length).dropWhile blk)).2.2=0)) else (A0,[],false)
def sw (s:List UInt8):Option Nat:=if ff HA s=true∧s.drop 6≠[]∧(s.drop 6).length≤9∧(s.drop 6).all eK=true then some (Br (s.drop 6)) else none
def DZ (s:List UInt8):aH×Int:=
 if (su l6 s).2.2=true then
  (if (su l6 s).2.1=[] then (aH.mk 3 [] (su l6 s).1 (-1),0)
  else if (su l6 s).2.1.head?=some 32 then (match sw (su l6 s).2.1 with|some n=>(aH.mk 3 [] (su l6 s).1 (n:Int),0)|none=>(Z,555))
  else (Z,501)) else (Z,501)
def D0 (s:List UInt8):aH×Int:=
 if (su Cb s).2.2=true∧fD (su Cb s).1=false then
  (if (su Cb s).2.1=[] then (aH.mk 4 [] (su Cb s).1 0,0)
  else if (su Cb s).2.1.head?=some 32 then (Z,555) else (Z,501)) else (Z,501)
def de (s:List UInt8):List UInt8:=(s.reverse.dropWhile blk).reverse
def MN (k:Nat) (rest:List UInt8):aH×Int:=
 if k=0 then (Z,500) else if k=3 then DZ rest else if k=4 then D0 rest else
 if k=1∨k=2 then (if e6 (rest.drop 1)=true then (aH.mk k (rest.drop 1) A0 0,0) else (Z,501)) else
 if k=5∨k=6∨k=8 then (if rest=[] then (aH.mk k [] A0 0,0) else (Z,501)) else
 if k=9∧rest=[] then (Z,501) else (aH.mk k (rest.drop 1) A0 0,0)
def NP (s:List UInt8):aH×Int:=
 if s.all cG=true then MN (um (((de s).takeWhile nb).map low)) ((de s).dropWhile nb) else (Z,500)
theorem Q3 (s:List UInt8):Lib.trimRightB s 32=de s:=rfl
theorem D1 (s:List UInt8):(de s).length≤s.length:=by
 unfold de
 have:=(List.dropWhile_suffix (l:=s.reverse) blk).length_le
 simpa using this
theorem Bx (t:List UInt8):(t.dropWhile nb).length≤t.length:=(List.dropWhile_suffix nb).length_le
theorem J3 {s:List UInt8}:de s=[]∨∃u c,de s=u++[c]∧c≠32:=by
 unfold de
 cases h:s.reverse.dropWhile blk with
 |nil=>left;rfl
 |cons c r=>
  right
  refine ⟨r.reverse,c,by simp, ?_⟩
  have:=List.head?_dropWhile_not blk s.reverse
  rw [h] at this
  simpa [blk] using this
theorem J4 {s:List UInt8} (h:(de s).dropWhile nb≠[]):((de s).dropWhile nb).drop 1≠[]:=by
 intro h1
 cases hd:(de s).dropWhile nb with
 |nil=>exact h hd
 |cons c r=>
  rw [hd] at h1
  simp at h1
  subst h1
  have hc:c=32:=by
   have:=List.head?_dropWhile_not nb (de s)
   rw [hd] at this
   simpa [nb] using this
  subst hc
  have J5:=List.takeWhile_append_dropWhile (p:=nb) (l:=de s)
  rw [hd] at J5
  rcases J3 (s:=s) with h2|⟨u,c,h2,h3⟩
  · rw [h2] at J5;simp at J5
  · rw [h2] at J5
    have:=congrArg List.getLast? J5
    simp at this
    exact h3 this.symm
theorem MO {t:List UInt8} (h:t.dropWhile nb≠[]):∃r,t.dropWhile nb=32::r:=by
 cases hd:t.dropWhile nb with
 |nil=>exact absurd hd h
 |cons c r=>
  have:=List.head?_dropWhile_not nb t
  rw [hd] at this
  have hc:c=32:=by simpa [nb] using this
  exact ⟨r,by rw [hc]⟩
theorem HB:∀(l:List UInt8) (a:Nat),l.all eK=true→Lib.decFrom a l=some (l.foldl (fun a c=>10*a+(c.toNat - 48)) a):=by
 intro l
 induction l with
 |nil=>intro a _;rfl
 |cons c r ih=>
  intro a h
  simp only [List.all_cons,Bool.and_eq_true] at h
  have hc:48≤c.toNat∧c.toNat≤57:=by
   have:=h.1
   unfold eK at this
   simp only [Bool.and_eq_true,decide_eq_true_eq] at this
   exact ⟨this.1,this.2⟩
  rw [Lib.decFrom,Lib.digitVal,if_pos hc]
  simp only
  rw [ih _ h.2]
  simp only [List.foldl_cons]
  rw [Nat.mul_comm a 10]
theorem Q4 {d:List UInt8} (h0:d≠[]) (h1:d.length≤18) (h2:d.all eK=true):Lib.atoiAll d= .ok (Br d:Int):=by
 rw [Lib.atoiAll_short d h1]
 cases d with
 |nil=>exact absurd rfl h0
 |cons c r=>
  have hd:=HB (c::r) 0 h2
  simp only [List.all_cons,Bool.and_eq_true] at h2
  have hc:48≤c.toNat:=by
   have:=h2.1
   unfold eK at this
   simp only [Bool.and_eq_true,decide_eq_true_eq] at this
   exact this.1
  have e1:(c==45)=false:=by
   rw [beq_eq_false_iff_ne];rintro rfl;revert hc;decide
  have e2:(c==43)=false:=by
   rw [beq_eq_false_iff_ne];rintro rfl;revert hc;decide
  unfold Lib.atoi Lib.decNat
  simp only [e1,e2,Bool.false_eq_true,if_false,List.isEmpty_cons,hd]
  rfl
theorem ack:∀(l:List UInt8) (a:Nat),l.all eK=true→l.foldl (fun a c=>10*a+(c.toNat - 48)) a<(a+1)*10 ^ l.length:=by
 intro l
 induction l with
 |nil=>intro a _;simp
 |cons c r ih=>
  intro a h
  simp only [List.all_cons,Bool.and_eq_true] at h
  have hc:c.toNat≤57:=by
   have:=h.1
   unfold eK at this
   simp only [Bool.and_eq_true,decide_eq_true_eq] at this
   exact this.2
  simp only [List.foldl_cons,List.length_cons]
  have:=ih (10*a+(c.toNat - 48)) h.2
  refine Nat.lt_of_lt_of_le this ?_
  have e:(a+1)*10 ^ (r.length+1)=(10*a+10)*10 ^ r.length:=by rw [Nat.pow_succ];rw [Nat.mul_comm (10 ^ r.length) 10, ←Nat.mul_assoc];congr 1;omega
  rw [e]
  exact Nat.mul_le_mul_right _ (by omega)
theorem NQ {q:UInt8→Bool}:∀ {l:List UInt8},l.dropWhile q=[]↔∀c∈l,q c=true:=by
 intro l
 induction l with
 |nil=>simp
 |cons c r ih=>
  by_cases h:q c=true
  · simp [List.dropWhile_cons,h,ih]
  · simp [List.dropWhile_cons,h]
theorem Xj {q:UInt8→Bool}:∀ {l:List UInt8},∀c∈l.takeWhile q,q c=true:=by
 intro l
 induction l with
 |nil=>intro c h;cases h
 |cons d r ih=>
  intro c h
  by_cases hd:q d=true
  · simp only [List.takeWhile_cons,hd,if_true,List.mem_cons] at h
    rcases h with rfl|h
    · exact hd
    · exact ih c h
  · simp only [List.takeWhile_cons,hd] at h;cases h
theorem D2 {d:List UInt8}:Lib.trimS d kX=[]↔d.all eK=true:=by
 have hD:∀c:UInt8,kX.contains c=eK c:=by
  intro c
  have:=fH (p:=fun c=>decide (kX.contains c=eK c)) (by decide) c
  simpa using this
 have h1:Lib.trimS d kX=((d.reverse.dropWhile eK).reverse).dropWhile eK:=by
  unfold Lib.trimS Lib.trimLeftS Lib.trimRightS
  have:(fun x=>kX.contains x)=eK:=funext hD
  simp only [this]
 rw [h1]
 constructor
 · intro h
   rw [NQ] at h
   rw [List.all_eq_true]
   intro c hc
   have hsp:=List.takeWhile_append_dropWhile (p:=eK) (l:=d.reverse)
   have hm:c∈d.reverse:=by simpa using hc
   rw [←hsp,List.mem_append] at hm
   rcases hm with hm|hm
   · exact Xj c hm
   · exact h c (by simpa using hm)
 · intro h
   have:d.reverse.dropWhile eK=[]:=by
    rw [NQ]
    intro c hc
    exact List.all_eq_true.1 h c (by simpa using hc)
   rw [this];rfl
end Go.Proofs.cY
end
section
set_option maxRecDepth 100000
namespace Go.Proofs.cY
open Go Go.Am Go.Proofs
theorem HC {s:List UInt8} {F:Nat} (hs:s.length≤2100) (hF:s.length<F):fT F s=some (s.map low):=aak hs hF
theorem Xk:∀k:Nat,1≤k→k≤9→ow (k:Int)=some (wu k):=fun k h1 h2=>
 Hz (p:=fun k=>ow (k:Int)=some (wu k)) (by decide) h1 h2
theorem Xl:∀k:Nat,1≤k→k≤9→(wu k).map low=wl k∧(wu k).length=4:=fun k h1 h2=>
 Hz (p:=fun k=>(wu k).map low=wl k∧(wu k).length=4) (by decide) h1 h2
theorem Xm {s:List UInt8} {F:Nat} (hF:20≤F):sE F s=some (um s:Int):=by
 unfold sE um
 have:=NO (s:=s) (body:=jv F s) ?_ ?_ 9 1 F rfl (by omega) (by omega)
 · rw [show ((0:Int),(1:Int))=(0,((1:Nat):Int)) from rfl,this]
   cases xk s 9 1 with
   |none=>rfl
   |some j=>rfl
 · intro k h1 h2
   obtain ⟨e1,e2⟩:=Xl k h1 h2
   simp only [jv]
   rw [if_pos (by simp;omega),Xk k h1 h2]
   simp only [Option.bind_some]
   rw [HC (by omega) (by omega),e1]
   simp only [Option.bind_some]
   by_cases h:wl k=s
   · simp [h]
   · rw [if_neg (by simpa using h),if_neg h,Q0 (by omega)]
 · simp only [jv]
   rw [if_neg (by decide)]
theorem Uv {s:List UInt8}:fS s [32]=some (s.dropWhile blk):=by
 unfold fS;rw [if_pos rfl];rfl
theorem Uw {s:List UInt8} (h:s.length≤1000000000):fq s [32]=some (de s):=by
 unfold fq;rw [if_pos ⟨rfl,h⟩,Q3]
theorem Ux {w s:List UInt8} {F:Nat} (hw:w.length≤100) (hF:200<F):lI F s w=some (!ff w s):=by
 unfold lI ff
 by_cases h:s.length<w.length
 · rw [if_pos (by simp;omega)]
   simp [show ¬w.length≤s.length by omega]
 · rw [if_neg (by simp;omega),om (by omega)]
   simp only [Option.bind_some]
   rw [HC (by simp;omega) (by simp;omega)]
   simp [show w.length≤s.length by omega]
theorem NR {w s:List UInt8} {F:Nat} (hw:w.length≤100) (hs:s.length≤3000) (hF:7000<F):ox F s w=some (su w s):=by
 unfold ox su
 rw [Ux hw (by omega)]
 simp only [Option.bind_some]
 cases h:ff w s with
 |false=>simp
 |true=>
  have hl:w.length≤s.length:=by
   unfold ff at h;simp only [Bool.and_eq_true,decide_eq_true_eq] at h;exact h.1
  simp only [Bool.not_true,Bool.false_eq_true,if_false,if_true]
  rw [fB hl]
  simp only [Option.bind_some]
  rw [Uv]
  simp only [Option.bind_some]
  have h1:=zZ blk (s.drop w.length)
  have h2:(s.drop w.length).length≤s.length:=by simp
  rw [Uq (by omega) (by omega)]
  rfl
theorem Xn {s:List UInt8} {F:Nat} (hs:s.length≤3000) (hF:7000<F):∃n,sP F s=some (n,(sw s).isSome)∧∀v,sw s=some v→n=(v:Int):=by
 unfold sP sw
 have h1:lJ F s=some (!ff HA s):=by
  unfold lJ ff
  by_cases h:s.length<6
  · rw [if_pos (by simp;omega)]
    simp [show ¬6≤s.length by omega]
  · rw [if_neg (by simp;omega),show (6:Int)=((6:Nat):Int) from rfl,om (by omega)]
    simp only [Option.bind_some]
    rw [HC (by simp;omega) (by simp;omega)]
    simp [show 6≤s.length by omega]
 rw [h1]
 simp only [Option.bind_some]
 cases h:ff HA s with
 |false=>exact ⟨0,by simp,by simp⟩
 |true=>
  have hl:6≤s.length:=by
   unfold ff at h;simp only [Bool.and_eq_true,decide_eq_true_eq] at h;simpa using h.1
  simp only [Bool.not_true,Bool.false_eq_true,if_false]
  rw [show (6:Int)=((6:Nat):Int) from rfl,fB hl]
  simp only [Option.bind_some]
  generalize hd:s.drop 6=d
  have MD:d.length≤3000:=by rw [←hd];simp;omega
  unfold strconv_Atoi
  rw [if_pos (by omega)]
  simp only [Option.bind_some]
  unfold oa
  by_cases hg:d≠[]∧d.length≤9∧d.all eK=true
  · obtain ⟨g1,g2,g3⟩:=hg
    rw [Q4 g1 (by omega) g3]
    simp only [Bool.not_false,if_true]
    unfold iG
    rw [if_pos (by simp;omega),if_pos ⟨rfl,by omega⟩]
    simp only [Option.bind_some]
    rw [D2.2 g3,if_pos ⟨trivial,g1,g2,g3⟩]
    exact ⟨_,rfl,fun v hv=>by injection hv with hv;rw [hv]⟩
  · have hn:¬(True∧d≠[]∧d.length≤9∧d.all eK=true):=fun h=>hg h.2
    simp only [if_neg hn]
    have key:∀n:Int,∃m:Int,((if decide ((d.length:Int)≤9)=true then (iG d ([48,49,50,51,52,53,54,55,56,57]:List UInt8)).bind fun r9=>some (n,(decide (r9=([]:List UInt8)))) else some (n,false)):Option (Int×Bool))=
     some (m,decide (d=[])&&decide (d.length≤9)):=by
     intro n
     by_cases h9:d.length≤9
     · rw [if_pos (by simp;omega)]
       unfold iG
       rw [if_pos ⟨rfl,by omega⟩]
       simp only [Option.bind_some]
       refine ⟨n, ?_⟩
       congr 2
       rw [Bool.eq_iff_iff]
       simp only [decide_eq_true_eq,Bool.and_eq_true]
       rw [D2]
       constructor
       · intro h3
         refine ⟨?_,h9⟩
         rcases Classical.em (d=[]) with h0|h0
         · exact h0
         · exact absurd ⟨h0,h9,h3⟩ hg
       · rintro ⟨rfl, -⟩;rfl
     · rw [if_neg (by simp;omega)]
       exact ⟨n,by simp [h9]⟩
    rcases xu:Lib.atoiAll d with v|_|_
    · simp only [Bool.not_false,if_true]
      obtain ⟨m,hm⟩:=key v
      rw [hm]
      have hd0:d≠[]:=by
       rintro rfl;rw [show Lib.atoiAll []=Go.Lib.NumEnd.syntax from rfl] at xu;cases xu
      exact ⟨m,by simp [hd0],fun v h=>by cases h⟩
    · simp only [Bool.not_true,Bool.false_eq_true,if_false]
      exact ⟨_,rfl,fun v h=>by cases h⟩
    · simp only [Bool.not_true,Bool.false_eq_true,if_false]
      exact ⟨_,rfl,fun v h=>by cases h⟩
theorem D3 {w s:List UInt8}:(su w s).2.1.length≤s.length:=by
 unfold su
 split
 · have h1:=zZ blk (s.drop w.length)
   have h2:(s.drop w.length).length≤s.length:=by simp
   have:((iP ((s.drop w.length).dropWhile blk)).2.1).length≤((s.drop w.length).dropWhile blk).length:=by
    generalize (s.drop w.length).dropWhile blk=t
    unfold iP
    cases h:A6 t with
    |none=>simp
    |some p=>
     obtain ⟨a,rest⟩:=p
     have:rest.length≤t.length:=by
      unfold A6 at h
      split at h
      · split at h
        · injection h with h;injection h with _ h;rw [←h];simp
        · have hb:=h
          unfold wj at hb
          cases hr:kP (t.drop 1) with
          |none=>rw [hr] at hb;cases hb
          |some r1=>
           rw [hr] at hb
           have l1:=wo hr
           simp only at hb
           cases hl:iS r1 with
           |none=>rw [hl] at hb;cases hb
           |some p=>
            obtain ⟨l,r2⟩:=p
            rw [hl] at hb
            have l2:=(wm hl).2
            simp only at hb
            split at hb
            · cases hd:fC (r2.drop 1) with
              |none=>rw [hd] at hb;cases hb
              |some p=>
               obtain ⟨d,r3⟩:=p
               rw [hd] at hb
               have l3:=uj hd
               simp only at hb
               split at hb
               · injection hb with hb;injection hb with _ hb
                 rw [←hb];simp at l1 l3 ⊢;omega
               · cases hb
            · cases hb
      · cases h
     simp only
     split
     · exact this
     · simp
   show (iP _).2.1.length≤s.length
   omega
 · simp
theorem Xo {s:List UInt8} {F:Nat} (hs:s.length≤3000) (hF:7000<F):sQ F s=some (DZ s):=by
 unfold sQ DZ
 rw [NR (by decide) hs hF]
 simp only [Option.bind_some]
 have hl:=D3 (w:=l6) (s:=s)
 generalize su l6 s=p at hl ⊢
 obtain ⟨a,r,ok⟩:=p
 simp only at hl ⊢
 unfold ob oc
 by_cases h0:r=[]
 · subst h0
   cases ok<;>simp
 · obtain ⟨n,h1,h2⟩:=Xn (s:=r) (F:=F) (by omega) hF
   rw [if_pos (by simpa using h0),h1]
   simp only [Option.bind_some]
   cases ok with
   |false=>simp
   |true=>
    cases r with
    |nil=>exact absurd rfl h0
    |cons c t=>
     rw [show idx (c::t) 0=some c by simp [idx]]
     by_cases hc:c=32
     · subst hc
       cases hz:sw (32::t) with
       |none=>simp
       |some v=>simp [h2 v hz]
     · simp [hc]
theorem Xp {s:List UInt8} {F:Nat} (hs:s.length≤3000) (hF:7000<F):sS F s=some (D0 s):=by
 unfold sS D0
 rw [NR (by decide) hs hF]
 simp only [Option.bind_some]
 generalize su Cb s=p
 obtain ⟨a,r,ok⟩:=p
 simp only
 unfold od
 cases ok with
 |false=>simp
 |true=>
  cases hn:fD a with
  |true=>
   have hn2:=hn
   unfold fD at hn2
   rw [hn2];simp
  |false=>
   have hn2:=hn
   unfold fD at hn2
   rw [hn2]
   cases r with
   |nil=>simp
   |cons c t=>
    rw [show idx (c::t) 0=some c by simp [idx]]
    by_cases hc:c=32
    · simp [hc]
    · simp [hc]
theorem HD (x:UInt8):(if decide (x<32)=true then some true else some (decide (126<x)))=some (!cG x):=by
 have:=fH (p:=fun x=>decide ((if decide (x<32)=true then some true else some (decide (126<x)))=some (!cG x))) (by kernel_rfl) x
 simpa using this
theorem Xq {s:List UInt8} {F:Nat} (hs:s.length≤100000) (hF:s.length<F):iter (fk s) F (0,Z)=some (if s.all cG=true then .inr Z else .inl (Z,500)):=by
 have hh:=Ut (s:=s) (body:=fk s) (mk:=fun i=>((i:Int),Z)) (p:=cG) (rr:=fun _=>(Z,500)) (tt:=Z) ?_ ?_ ?_ hF
 · cases h:s.all cG with
   |true=>have:=hh.1 h;simpa using this
   |false=>obtain ⟨_,this⟩:=hh.2 h;simpa using this
 · intro i c hc hp
   have hi:=(List.getElem?_eq_some_iff.1 hc).1
   simp only [fk,kB]
   rw [if_pos (by simpa using hi),bt hc]
   simp only [Option.bind_some]
   rw [HD c]
   simp only [Option.bind_some,hp,Bool.not_true,Bool.false_eq_true,if_false]
   rw [Q0 (by omega)]
 · intro i c hc hp
   have hi:=(List.getElem?_eq_some_iff.1 hc).1
   simp only [fk,kB]
   rw [if_pos (by simpa using hi),bt hc]
   simp only [Option.bind_some]
   rw [HD c]
   simp [hp]
 · simp only [fk]
   rw [if_neg (by simp)]
theorem Uy {s:List UInt8} {F:Nat} (hs:s.length≤2050) (hF:7000<F):gO F s=some (NP s):=by
 unfold gO NP
 rw [Xq (by omega) (by omega)]
 simp only [Option.bind_some]
 cases hv:s.all cG with
 |false=>simp
 |true=>
  simp only [if_true]
  have ht:=D1 s
  rw [Uw (by omega)]
  simp only [Option.bind_some]
  rw [MM (by omega)]
  simp only [Option.bind_some]
  have hw:((de s).takeWhile nb).length≤(de s).length:=(List.takeWhile_prefix nb).length_le
  have hd:=Bx (de s)
  rw [HC (by omega) (by omega)]
  simp only [Option.bind_some]
  rw [Xm (by omega)]
  simp only [Option.bind_some]
  rw [FA]
  simp only [Option.bind_some]
  have hk:=FB (((de s).takeWhile nb).map low)
  have hne:=J4 (s:=s)
  generalize um (((de s).takeWhile nb).map low)=k at hk ⊢
  generalize hr:(de s).dropWhile nb=r at hd hne ⊢
  unfold MN
  by_cases h0:k=0
  · subst h0;simp
  · rw [if_neg (by simp;omega),if_neg h0]
    by_cases h3:k=3
    · subst h3
      rw [if_pos (by simp),if_pos rfl,Xo (by omega) hF];rfl
    · rw [if_neg (by simp;omega),if_neg h3]
      by_cases h4:k=4
      · subst h4
        rw [if_pos (by simp),if_pos rfl,Xp (by omega) hF];rfl
      · rw [if_neg (by simp;omega),if_neg h4]
        have Uz:gN F (r.drop 1)=some (e6 (r.drop 1)):=Ui (by simp;omega) (by simp;omega)
        have Q5:r.drop 1=[]↔r=[]:=⟨fun h=>Classical.byContradiction fun h2=>hne h2 h,fun h=>by rw [h];rfl⟩
        unfold mL mN mM
        clear hne hd
        generalize r.drop 1=q at Uz Q5 ⊢
        have hk9:k=1∨k=2∨k=5∨k=6∨k=7∨k=8∨k=9:=by omega
        rcases hk9 with rfl|rfl|rfl|rfl|rfl|rfl|rfl
        · simp [Uz];cases e6 q<;>simp
        · simp [Uz];cases e6 q<;>simp
        · by_cases kV:r=[]<;>simp [kV,Q5]
        · by_cases kV:r=[]<;>simp [kV,Q5]
        · simp
        · by_cases kV:r=[]<;>simp [kV,Q5]
        · by_cases kV:r=[]<;>simp [kV,Q5]
end Go.Proofs.cY
end
section
set_option maxRecDepth 100000
namespace Go.Proofs.cY
open Go Go.Am Go.Proofs
theorem MP (n:Nat):(List.range 256).all (fun m=>decide (gP (n+30) (UInt8.ofNat m)=some (dY (UInt8.ofNat m))))=true:=by kernel_rfl
theorem J6 {F:Nat} (hF:30≤F) (c:UInt8):gP F c=some (dY c):=by
 obtain ⟨n,rfl⟩:∃n,F=n+30:=⟨F - 30,by omega⟩
 have:=fH (p:=fun c=>decide (gP (n+30) c=some (dY c))) (MP n) c
 simpa using this
def pr:Bool→List UInt8→Bool
 |_,[]=>true
 |p,c::r=>(if c=46 then p&&decide (r≠[]) else dY c)&&pr (decide (c≠46)) r
theorem J7 {F:Nat} {s:List UInt8} (hs:s.length≤90000) (A5:30≤F):∀(r:List UInt8) (i G:Nat) (p:Bool),s.drop i=r→i+r.length=s.length→r.length<G→
 (if 0<i then ∃x,s[i - 1]? =some x∧p= !decide (x=46) else p=false)→iter (eT F s) G (i:Int)=some (if pr p r then .inr () else .inl false):=by
 intro r
 induction r with
 |nil=>
  intro i G p hd hi hG hp
  obtain ⟨G,rfl⟩:=bN hG
  rw [bA (t:=()) (by simp only [eT];rw [if_neg (by simp at hi ⊢;omega)])]
  rfl
 |cons c r ih=>
  intro i G p hd hi hG hp
  obtain ⟨G,rfl⟩:=bN (show 0<G by omega)
  obtain ⟨h1,h2,h3⟩:=drop_cons hd
  simp only [List.length_cons] at hi hG
  have Hs:iy s (i:Int)=some (decide (c=46)&&p&&decide (r≠[])):=by
   unfold iy
   rw [bt h2,Option.bind_some]
   by_cases hc:c=46
   · rw [if_pos (by simpa using hc)]
     by_cases h0:0<i
     · rw [if_pos h0] at hp
       obtain ⟨x,hx,hpx⟩:=hp
       rw [if_pos (by simpa using h0),wi (by omega)]
       by_cases hr:r=[]
       · rw [if_neg (by subst hr;simp at hi ⊢;omega)];simp [hr]
       · rw [if_pos (by have:0<r.length:=List.length_pos_iff.2 hr
                        simp;omega),wr (by omega) (by omega),show (i:Int) - 1=((i - 1:Nat):Int) by omega,bt hx,Option.bind_some,hpx]
         simp [hc,hr]
     · rw [if_neg h0] at hp
       rw [if_neg (by simpa using h0),hp];simp
   · rw [if_neg (by simpa using hc)];simp [hc]
  have hst:eT F s (i:Int)=if (if c=46 then p&&decide (r≠[]) else dY c)=true then some (.cB ((i+1:Nat):Int)) else some (.ret false):=by
   simp only [eT]
   rw [if_pos (by simpa using h1),Hs,Option.bind_some]
   unfold kJ
   rw [bt h2]
   simp only [Option.bind_some,J6 A5]
   by_cases hc:c=46
   · have h46:dY c=false:=by subst hc;decide
     simp only [hc,decide_true,Bool.true_and,if_true]
     subst hc
     cases hpp:(p&&decide (r≠[])) with
     |true=>simp only [Bool.not_true,Bool.false_eq_true,if_false,Option.bind_some,if_true];rw [wi (by omega)]
     |false=>simp only [Bool.not_false,if_true,Option.bind_some,h46,Bool.false_eq_true,if_false]
   · simp only [hc,decide_false,Bool.false_and,Bool.not_false,if_true,if_false,Option.bind_some]
     cases dY c with
     |true=>simp only [Bool.not_true,Bool.false_eq_true,if_false,if_true];rw [wi (by omega)]
     |false=>simp
  have hpr:pr p (c::r)=((if c=46 then p&&decide (r≠[]) else dY c)&&pr (decide (c≠46)) r):=rfl
  rw [hpr]
  obtain ⟨q,hq⟩:∃q,q=(if c=46 then p&&decide (r≠[]) else dY c):=⟨_,rfl⟩
  rw [←hq] at hst ⊢
  cases q with
  |false=>
   have wh:=hst.trans (if_neg (by decide))
   rw [cK wh]
   simp
  |true=>
   have wh:=hst.trans (if_pos rfl)
   rw [bW wh,ih (i+1) G (decide (c≠46)) h3 (by omega) (by omega) (by rw [if_pos (by omega)];exact ⟨c,by simpa using h2,by simp⟩)]
   simp
theorem Q6:∀(r:List UInt8) (p:Bool),r≠[]→pr p r=match aT r with|[]=>false|h::t=>h.all dY&&(p||h !=[])&&t.all fun q=>q !=[]&&q.all dY:=by
 intro r
 induction r with
 |nil=>intro p h;exact absurd rfl h
 |cons c r ih=>
  intro p _
  simp only [pr,aT]
  by_cases hc:c=46
  · simp only [if_pos hc]
    by_cases hr:r=[]
    · subst hr;simp [aT]
    · have h2:=ih false hr
      have hd:decide (c≠46)=false:=by simpa using hc
      rw [hd,h2]
      cases hs:aT r with
      |nil=>exact absurd hs (gb r)
      |cons h t=>
       simp only [hr,ne_eq,not_false_eq_true,decide_true,Bool.and_true,List.all_nil,Bool.true_and,List.all_cons,Bool.false_or]
       cases p<;>cases h.all dY<;>cases (h !=[])<;>simp
  · simp only [if_neg hc]
    have hd:decide (c≠46)=true:=by simpa using hc
    rw [hd]
    by_cases hr:r=[]
    · subst hr;simp [aT,pr]
    · rw [ih true hr]
      cases hs:aT r with
      |nil=>exact absurd hs (gb r)
      |cons h t=>
       simp only [List.all_cons,Bool.true_or,Bool.and_true]
       have:(c::h !=[])=true:=rfl
       rw [this]
       cases dY c<;>cases p<;>simp
theorem J8 {F:Nat} {s:List UInt8} (hs:s.length≤80000) (hF:s.length+30<F):jI F s=some (gl s):=by
 unfold jI
 rw [show (0:Int)=((0:Nat):Int) from rfl,J7 (by omega) (by omega) s 0 F false rfl (by simp) (by omega) (by simp)]
 simp only [Option.bind_some]
 by_cases h:s=[]
 · subst h;simp [pr,gl,aT]
 · rw [Q6 s false h]
   unfold gl
   cases hsp:aT s with
   |nil=>exact absurd hsp (gb s)
   |cons a t=>
    simp only [Bool.false_or,List.all_cons]
    cases h1:a.all dY<;>cases h2:(a !=[])<;>cases h3:(t.all fun q=>q !=[]&&q.all dY)<;>simp [h]
theorem MQ (x:UInt8):(if decide (x<32)=true then some true else some (decide (126<x)))=some (!cG x):=by
 have:=fH (p:=fun x=>decide ((if decide (x<32)=true then some true else some (decide (126<x)))=some (!cG x))) (by kernel_rfl) x
 exact of_decide_eq_true this
theorem UA {s:List UInt8} {F:Nat} (hF:65<F):lR F s=some (Bw s):=by
 unfold lR Bw
 by_cases h:s=[]
 · subst h;rfl
 · by_cases h2:64<s.length
   · rw [if_pos (by simp;omega),decide_eq_false (by omega)];simp
   · rw [if_neg (by simp [h];omega),decide_eq_true (by omega)]
     have hh:=scan (s:=s) (F:=F) (body:=eW s) (mk:=fun i=>(i:Int)) (p:=cG) (rr:=fun _=>false) (tt:=()) ?_ ?_ ?_ (by omega)
     · cases ha:s.all cG with
       |true=>have:=hh.1 ha;rw [show ((0:Nat):Int)=0 from rfl] at this;rw [this];simp [h]
       |false=>obtain ⟨j,hj⟩:=hh.2 ha;rw [show ((0:Nat):Int)=0 from rfl] at hj;rw [hj];simp
     · intro i x hx hp
       have hi:=(List.getElem?_eq_some_iff.1 hx).1
       simp only [eW,iC]
       rw [if_pos (by simpa using hi),bt hx,Option.bind_some,MQ,Option.bind_some,hp,wi (by omega)];rfl
     · intro i x hx hp
       have hi:=(List.getElem?_eq_some_iff.1 hx).1
       simp only [eW,iC]
       rw [if_pos (by simpa using hi),bt hx,Option.bind_some,MQ,Option.bind_some,hp];rfl
     · simp [eW]
theorem Cn {s:List UInt8} {F:Nat} (hF:99010<F):cW F s=some (e6 s):=by
 by_cases h:s.length≤99000
 · exact aad h (by omega)
 · unfold cW e6
   rw [if_pos (by simp;omega),decide_eq_false (by omega)]
   rfl
theorem MR {a:aC} (hl:a.ax.length≤80000):∀(r:List UInt8) (i F:Nat) (b:List UInt8),a.ax.drop i=r→i+r.length=a.ax.length→b.length≤2*i+2→r.length<F→
 iter (fA a) F (b,(i:Int))=some (.inr (b++esc r)):=by
 intro r
 induction r with
 |nil=>
  intro i F b hd hi hb hF
  obtain ⟨G,rfl⟩:=bN hF
  rw [bA (t:=b) (by simp only [fA];rw [if_neg (by simp at hi ⊢;omega)])]
  simp [esc]
 |cons c r ih=>
  intro i F b hd hi hb hF
  obtain ⟨G,rfl⟩:=bN (show 0<F by omega)
  obtain ⟨h1,h2,h3⟩:=drop_cons hd
  simp only [List.length_cons] at hi hF
  have hst:fA a (b,(i:Int))=some (.cB (b++(if c=34∨c=92 then [92,c] else [c]),((i+1:Nat):Int))):=by
   simp only [fA,lS]
   rw [if_pos (by simpa using h1),bt h2]
   simp only [Option.bind_some]
   by_cases Hw:c=34
   · subst Hw
     simp only [decide_true,if_true,Option.bind_some,true_or]
     rw [e5 (by simp;omega) (by omega),Option.bind_some,e5 (by simp;omega) (by omega),Option.bind_some,wi (by omega)]
     simp
   · by_cases MH:c=92
     · subst MH
       rw [if_neg (by decide)]
       simp only [decide_true,Option.bind_some,if_true,or_true]
       rw [e5 (by simp;omega) (by omega),Option.bind_some,e5 (by simp;omega) (by omega),Option.bind_some,wi (by omega)]
       simp
     · rw [if_neg (by simpa using Hw)]
       simp only [Option.bind_some]
       rw [if_neg (by simpa using MH),e5 (by simp;omega) (by omega),Option.bind_some,wi (by omega),if_neg (by simp [Hw,MH])]
  rw [bW hst,ih (i+1) G _ h3 (by omega) (by split<;>simp<;>omega) (by omega)]
  simp [esc]
theorem Xr {a:aC} {F:Nat} (hn:fD a=false) (hl:a.ax.length≤80000) (hd:a.domain.length≤80000) (hF:a.ax.length+30<F):mZ F a=some (so a):=by
 have he:=JY a.ax
 unfold mZ so
 rw [fD] at hn
 rw [hn,J8 hl hF]
 simp only [Bool.false_eq_true,if_false,Option.bind_some]
 cases gl a.ax with
 |true=>
  simp only [if_true]
  rw [gR (by simp;omega),Option.bind_some,gR (by simp;omega),Option.bind_some,gR (by simp;omega),Option.bind_some,gR (by simp;omega),Option.bind_some]
  simp
 |false=>
  simp only [Bool.false_eq_true,if_false]
  rw [show (([60,34]:List UInt8),(0:Int))=(([60,34]:List UInt8),((0:Nat):Int)) from rfl,MR hl a.ax 0 F [60,34] (by simp) (by simp) (by simp) (by omega)]
  simp only [Option.bind_some]
  try unfold lT
  rw [e5 (by simp;omega) (by omega),Option.bind_some,gR (by simp;omega),Option.bind_some,gR (by simp;omega),Option.bind_some,gR (by simp;omega),Option.bind_some]
  simp
theorem UB {a:aC} {F:Nat} (hl:a.ax.length≤80000) (hd:a.domain.length≤80000) (hF:99010<F):lU F a=some (gm a):=by
 unfold lU kK gm
 cases hn:fD a with
 |true=>rw [fD] at hn;rw [hn];rfl
 |false=>
  have hn':=hn
  rw [fD] at hn
  rw [hn]
  simp only [Bool.false_eq_true,if_false,Bool.false_or]
  rw [UA (by omega),Option.bind_some]
  cases hlb:Bw a.ax with
  |false=>rfl
  |true=>
   simp only [if_true,Bool.true_and]
   rw [Cn hF,Option.bind_some]
   cases hdb:e6 a.domain with
   |false=>rfl
   |true=>
    simp only [if_true,Bool.true_and]
    rw [Xr hn' hl hd (by omega)]
    simp
    omega
end Go.Proofs.cY
end
section
set_option maxRecDepth 100000
namespace Go.Proofs.cY
open Go Go.Am Go.Proofs
theorem D4 {s r:List UInt8} {n:Nat} (h:At s n r):gB (n:Int) s=some (match r with|[]=>false|c::_=>bY c):=by
 unfold gB
 cases r with
 |nil=>have:=h.len;rw [if_neg (by simp at this ⊢;omega)]
 |cons c r=>
  obtain ⟨h1,h2,h3⟩:=drop_cons h.dr
  rw [if_pos (by simpa using h1),bt h2,Option.bind_some,tB,Option.bind_some,tC]
  simp only [bY]
  cases Ca c<;>cases eK c<;>simp
  by_cases h45:c=45
  · simp [h45]
  · by_cases h46:c=46
    · simp [h46]
    · by_cases h91:c=91
      · simp [h91]
      · simp [h45,h46,h91]
        by_cases h93:c=93
        · simp [h93]
        · simp [h45,h46,h91,h93]
theorem HF {s:List UInt8}:∀(r:List UInt8) (n G:Nat),At s n r→r.length<G→iter (eD s) G (n:Int)=some (.inr ((n+(r.takeWhile bY).length:Nat):Int)):=by
 intro r
 induction r with
 |nil=>
  intro n G h hG
  obtain ⟨G,rfl⟩:=bN hG
  rw [bA (t:=(n:Int)) (by simp only [eD];rw [D4 h];rfl)]
  simp
 |cons c r ih=>
  intro n G h hG
  obtain ⟨G,rfl⟩:=bN hG
  have:=h.len;have:=h.sm
  by_cases hq:bY c=true
  · rw [bW (s':=((n+1:Nat):Int)) (by simp only [eD];rw [D4 h];simp only [hq,Option.bind_some,if_true];rw [wi (by omega)]),ih (n+1) G h.next (by simp at hG;omega),List.takeWhile_cons,if_pos hq]
    simp only [List.length_cons]
    congr 3
    omega
  · rw [bA (t:=(n:Int)) (by simp only [eD];rw [D4 h];simp only [hq,Option.bind_some];rfl),List.takeWhile_cons,if_neg hq]
    simp
theorem FC {s:List UInt8} {F:Nat} (hs:s.length≤90000) (hF:s.length<F):iH F s=some (((s.takeWhile bY).length:Nat):Int):=by
 unfold iH
 rw [show (0:Int)=((0:Nat):Int) from rfl,HF s 0 F (At.zero hs) hF]
 simp
theorem UD {x:List UInt8} {F:Nat} (hx:x.length≤90000) (hF:x.length<F):((fO x).bind fun t15=>if t15=true then some (.ret false) else ((iter (dj x) F 0).bind fun W3=>match W3 with| .inr ()=>some (.cB 0)| .inl JH=>some (.ret JH)))=(some (if fJ x then .cB 0 else .ret false):Option (St Bool Unit Int)):=by
 unfold fO fJ
 cases x with
 |nil=>simp
 |cons c r=>
  obtain ⟨y,hy⟩:=we c r
  rw [if_neg (by simp),show idx (c::r) 0=some c by simp [idx],Option.bind_some,tD hy (by omega),hy]
  by_cases h1:c=45
  · simp [h1]
  · by_cases h2:y=45
    · simp [h1,h2]
    · have hh:=scan (s:=c::r) (body:=dj (c::r)) (mk:=fun i=>(i:Int)) (p:=v8) (rr:=fun _=>false) (tt:=()) ?_ ?_ ?_ hF
      · simp only [Option.bind_some,h1,h2,decide_false,Bool.false_eq_true,if_false]
        cases ha:(c::r).all v8 with
        |true=>have:=hh.1 ha;rw [show ((0:Nat):Int)=0 from rfl] at this;rw [this];simp [h1,h2]
        |false=>obtain ⟨j,hj⟩:=hh.2 ha;rw [show ((0:Nat):Int)=0 from rfl] at hj;rw [hj];simp [h1,h2]
      · intro i z hz hp
        have hi:=(List.getElem?_eq_some_iff.1 hz).1
        simp only [dj,ie]
        rw [if_pos (by simp at hi ⊢;omega),bt hz,Option.bind_some,tB,Option.bind_some,tC,Option.bind_some,wi (by omega)]
        simp only [v8] at hp
        cases h1:Ca z<;>cases h2:eK z<;>simp [h1,h2] at hp ⊢
        exact hp
      · intro i z hz hp
        have hi:=(List.getElem?_eq_some_iff.1 hz).1
        simp only [dj,ie]
        rw [if_pos (by simp at hi ⊢;omega),bt hz,Option.bind_some,tB,Option.bind_some,tC,Option.bind_some]
        simp only [v8] at hp
        cases h1:Ca z<;>cases h2:eK z<;>simp [h1,h2] at hp ⊢
        exact hp
      · simp [dj]
theorem J9 {F:Nat} {s:List UInt8} (hl:s.length≤80000) (A5:s.length+10<F):∀(r cur:List UInt8) (a i G:Nat),(∀c∈cur,c≠46)→s.drop a=cur++r→a+cur.length=i→i+r.length=s.length→r.length+1<G→
 iter (dm F s) G ((a:Int),(i:Int))=some (if (aT (cur++r)).all fJ then .inr () else .inl false):=by
 have uQ:∀(cur r:List UInt8) (a i:Nat),s.drop a=cur++r→a+cur.length=i→(s.take i).drop a=cur:=by
  intro cur r a i h hi
  rw [List.drop_take,h, ←hi,Nat.add_sub_cancel_left,List.take_left' rfl]
 have piece:∀(cur r:List UInt8) (a i:Nat),s.drop a=cur++r→a+cur.length=i→i≤s.length→eS (i:Int) s=some false→dm F s ((a:Int),(i:Int))=if fJ cur=true then some (.cB (((i+1:Nat):Int),((i+1:Nat):Int))) else some (.ret false):=by
  intro cur r a i h hi Kx MS
  have hcl:cur.length≤s.length:=by omega
  have hsp:=UD (x:=cur) (F:=F) (by omega) (by omega)
  simp only [dm]
  rw [if_pos (by simp;omega),MS,Option.bind_some]
  simp only [Bool.false_eq_true,if_false]
  rw [oh (by omega) Kx,uQ cur r a i h hi,Option.bind_some,wi (by omega)]
  cases hp3:fO cur with
  |none=>rw [hp3] at hsp;cases hsp
  |some b=>
   rw [hp3] at hsp
   simp only [Option.bind_some] at hsp ⊢
   cases b with
   |true=>
    simp only [if_true] at hsp ⊢
    cases hlb:fJ cur with
    |true=>rw [hlb] at hsp;simp at hsp
    |false=>simp
   |false=>
    simp only [Bool.false_eq_true,if_false] at hsp ⊢
    cases hit:iter (dj cur) F 0 with
    |none=>rw [hit] at hsp;cases hsp
    |some o=>
     rw [hit] at hsp
     cases o with
     |inl b=>
      cases hlb:fJ cur with
      |true=>rw [hlb] at hsp;simp at hsp
      |false=>rw [hlb] at hsp;simp at hsp ⊢;exact hsp
     |inr u=>
      cases hlb:fJ cur with
      |true=>simp
      |false=>rw [hlb] at hsp;simp at hsp
 intro r
 induction r with
 |nil=>
  intro cur a i G hc hd ha hi hG
  obtain ⟨G,rfl⟩:=bN (show 0<G by omega)
  obtain ⟨G,rfl⟩:=bN (show 0<G by simp at hG;omega)
  have hie:i=s.length:=by simpa using hi
  have hst:=piece cur [] a i hd ha (by omega) (by unfold eS;rw [if_neg (by simp;omega)])
  rw [List.append_nil,Bq hc]
  cases hx:fJ cur with
  |false=>rw [hx] at hst;rw [cK (by rw [hst];rfl)];simp [hx]
  |true=>
   rw [hx] at hst
   rw [bW (by rw [hst];rfl),bA (t:=()) (by simp only [dm];rw [if_neg (by simp;omega)])]
   simp [hx]
 |cons c r ih=>
  intro cur a i G hc hd ha hi hG
  obtain ⟨G,rfl⟩:=bN (show 0<G by omega)
  simp only [List.length_cons] at hi hG
  have hci:s[i]? =some c:=by
   have:(s.drop a)[cur.length]? =some c:=by rw [hd];simp
   rw [List.getElem?_drop,ha] at this;exact this
  have MS:eS (i:Int) s=some (!decide (c=46)):=by unfold eS;rw [if_pos (by simp;omega),bt hci];rfl
  by_cases DV:c=46
  · subst DV
    have hst:=piece cur _ a i hd ha (by omega) (by rw [MS];simp)
    rw [Bp hc]
    cases hx:fJ cur with
    |false=>rw [hx] at hst;rw [cK (by rw [hst];rfl)];simp [hx]
    |true=>
     rw [hx] at hst
     rw [bW (by rw [hst];rfl)]
     have hd':s.drop (i+1)=r:=by
      have:(s.drop a).drop (cur.length+1)=r:=by rw [hd,List.drop_append];simp
      rw [List.drop_drop] at this
      rw [←this];congr 1;omega
     have:=ih [] (i+1) (i+1) G (by simp) (by simpa using hd') (by simp) (by omega) (by omega)
     rw [List.nil_append] at this
     rw [this]
     simp [hx]
  · have hst:dm F s ((a:Int),(i:Int))=some (.cB ((a:Int),((i+1:Nat):Int))):=by
     simp only [dm]
     rw [if_pos (by simp;omega),MS,Option.bind_some]
     simp only [DV,decide_false,Bool.not_false,if_true]
     rw [wi (by omega)]
    rw [bW hst]
    have:=ih (cur++[c]) a (i+1) G (by intro y hy;rcases List.mem_append.1 hy with h|h;exact hc y h;simp at h;subst h;exact DV) (by rw [hd];simp) (by simp;omega) (by omega) (by omega)
    rw [this]
    simp
theorem MT {s:List UInt8} (hi:nM s=true) (h:dy s=true):e6 s=true:=by
 have hf:=J1 hi
 unfold e6
 rw [h]
 unfold dy at h
 rw [if_pos hi] at h
 simp only [Bool.and_eq_true,decide_eq_true_eq] at h
 have hsum:=four h.1 fun p hp=>(p9 (List.all_eq_true.1 h.2 p hp)).1
 have htot:=Bu (inner s)
 have hlen:s.length=(inner s).length+2:=by rw [hf];simp [inner]
 have h63:((aT s).all fun p=>decide (p.length≤63))=true:=by
  rw [List.all_eq_true]
  intro p hp
  have:=k7 _ p hp
  simp only [decide_eq_true_eq];omega
 rw [h63,decide_eq_true (by omega)]
 rfl
theorem Ka {s:List UInt8} {F:Nat} (hl:s.length≤80000) (hF:99010<F):jG F s=some (dy s):=by
 unfold jG
 rw [Cn hF,Option.bind_some]
 cases hd:e6 s with
 |true=>
  simp only [e6,Bool.and_eq_true] at hd
  rw [hd.1.2];rfl
 |false=>
  simp only [Bool.false_eq_true,if_false]
  cases s with
  |nil=>simp [ic,dy,nM,aT,fJ]
  |cons c r=>
   unfold ic
   rw [if_neg (by simp),show idx (c::r) 0=some c by simp [idx]]
   simp only [Option.bind_some]
   by_cases hc:c=91
   · subst hc
     simp only [decide_true,if_true]
     cases hs:dy (91::r) with
     |false=>rfl
     |true=>
      by_cases hi:nM (91::r)=true
      · rw [MT hi hs] at hd;cases hd
      · unfold dy at hs
        rw [if_neg hi,DW] at hs;cases hs
   · rw [if_neg (by simpa using hc),show ((0:Int),(0:Int))=(((0:Nat):Int),((0:Nat):Int)) from rfl,J9 hl (by omega) (c::r) [] 0 0 F (by simp) (by simp) (by simp) (by simp) (by omega)]
     have hin:nM (c::r)=false:=Xb (by simpa using hc)
     unfold dy
     rw [hin,List.nil_append]
     cases (aT (c::r)).all fJ<;>rfl
end Go.Proofs.cY
end
section
set_option maxRecDepth 100000
namespace Go.Proofs.cY
open Go Go.Am Go.Proofs
theorem mI {s r:List UInt8} {n:Nat} (h:At s n r):(r=[]∧n=s.length)∨(∃c t,r=c::t∧n<s.length∧s[n]? =some c):=by
 cases r with
 |nil=>have:=h.len;exact .inl ⟨rfl,by simpa using this⟩
 |cons c t=>obtain ⟨h1,h2,h3⟩:=drop_cons h.dr;exact .inr ⟨c,t,rfl,h1,h2⟩
theorem NS {a b:Nat} (h:a+b≤1000000000):IntKind.wrap .i64 ((a:Int)+(b:Int))=((a+b:Nat):Int):=by rw [wr (by omega) (by omega)];simp
theorem D5 {s r:List UInt8} {n:Nat} (h:At s n r):ij (n:Int) s=some (decide (nx r=64)):=by
 unfold ij
 rcases mI h with ⟨rfl,h1⟩|⟨c,t,rfl,h1,h2⟩
 · rw [if_neg (by simp;omega)];simp [nx]
 · rw [if_pos (by simpa using h1),bt h2];rfl
theorem E6 {s:List UInt8} {F:Nat} (hs:s.length≤2100) (A5:99010<F):∀(k:Nat) (r:List UInt8) (i G:Nat),At s i r→r.length<k→k≤G→
 match xj k r with
 |some rest=>∃n:Nat,iter (dn F s) G (i:Int)=some (.inl (n:Int))∧At s n rest
 |none=>iter (dn F s) G (i:Int)=some (.inl (-1))∨iter (dn F s) G (i:Int)=some (.inr ()):=by
 intro k
 induction k with
 |zero=>intro r i G h hk;omega
 |succ k ih=>
  intro r i G h hk hG
  obtain ⟨G,rfl⟩:=bN (show 0<G by omega)
  have hle:=h.le
  by_cases hx:nx r=64
  · obtain ⟨t,rfl⟩:=gD hx (by decide)
    have h1:=h.next
    have N1:=h1.len
    have UE:=oq bY t
    have A8:=h1.skip bY
    simp only [xj]
    rw [if_pos hx]
    simp only [List.drop_succ_cons,List.drop_zero]
    have hb:dn F s (i:Int)=if (!dy (t.takeWhile bY))=true then some (.ret (-1)) else
     (iu (i:Int) (((t.takeWhile bY).length:Nat):Int) s).bind fun t15=>if t15=true then some (.ret (IntKind.wrap .i64 ((IntKind.wrap .i64 ((IntKind.wrap .i64 ((i:Int)+1))+(((t.takeWhile bY).length:Nat):Int)))+1)))
     else (iw s (i:Int) (((t.takeWhile bY).length:Nat):Int)).bind fun t18=>if t18=true then some (.ret (-1)) else some (.cB (IntKind.wrap .i64 ((IntKind.wrap .i64 ((IntKind.wrap .i64 ((i:Int)+1))+(((t.takeWhile bY).length:Nat):Int)))+1))):=by
     simp only [dn]
     rw [D5 h,Option.bind_some,if_pos (by simpa using hx),show IntKind.wrap .i64 ((i:Int)+1)=((i+1:Nat):Int) from wi (by omega),fB h1.le,h1.dr,Option.bind_some,FC (by omega) (by omega),Option.bind_some,NS (by omega),uh h1,Option.bind_some,Ka (by omega) A5,Option.bind_some]
    rw [show IntKind.wrap .i64 ((i:Int)+1)=((i+1:Nat):Int) from wi (by omega),NS (by omega),wi (by omega)] at hb
    unfold iu iw at hb
    rw [show IntKind.wrap .i64 ((i:Int)+1)=((i+1:Nat):Int) from wi (by omega),NS (by omega)] at hb
    unfold fC
    cases hsh:dy (t.takeWhile bY) with
    |false=>
     rw [hsh] at hb
     exact .inl (cK (by rw [hb];rfl))
    |true=>
     rw [hsh] at hb
     simp only [Bool.not_true,Bool.false_eq_true,if_false,if_true] at hb ⊢
     rcases mI A8 with ⟨hr2,h5⟩|⟨c,u,hr2,h5,h6⟩
     · rw [hr2]
       rw [if_neg (by simp;omega)] at hb
       simp only [Option.bind_some,Bool.false_eq_true,if_false] at hb
       rw [if_pos (by simp;omega)] at hb
       simp only [Option.bind_some,if_true] at hb
       rw [if_neg (by simp [nx]),if_neg (by simp [nx])]
       exact .inl (cK hb)
     · rw [hr2] at A8 ⊢
       rw [if_pos (by simp;omega),bt h6] at hb
       simp only [Option.bind_some] at hb
       by_cases h58:c=58
       · subst h58
         rw [if_pos (by decide)] at hb
         rw [if_neg (show nx (58::u)≠44 by simp [nx]),if_pos (show nx (58::u)=58 from rfl)]
         exact ⟨_,cK hb,A8.next⟩
       · rw [if_neg (by simpa using h58),if_neg (by simp;omega)] at hb
         simp only [Option.bind_some] at hb
         by_cases JW:c=44
         · subst JW
           rw [if_neg (by decide)] at hb
           rw [if_pos (show nx (44::u)=44 from rfl)]
           simp only [List.drop_succ_cons,List.drop_zero]
           have hlu:=A8.len
           have:=ih u (i+1+(t.takeWhile bY).length+1) G A8.next (by simp only [List.length_cons] at hk hlu N1;omega) (by omega)
           rw [bW hb]
           exact this
         · rw [if_pos (by simpa using JW)] at hb
           rw [if_neg (show nx (c::u)≠44 from JW),if_neg (show nx (c::u)≠58 from h58)]
           exact .inl (cK hb)
  · simp only [xj]
    rw [if_neg hx]
    exact .inr (bA (by simp only [dn];rw [D5 h,Option.bind_some,if_neg (by simpa using hx)]))
theorem UH {s:List UInt8} {F:Nat} (hs:s.length≤2100) (hF:99010<F):match kP s with
 |some rest=>∃n:Nat,jH F s=some (n:Int)∧At s n rest
 |none=>jH F s=some (-1):=by
 have hz:=At.zero (s:=s) (by omega)
 have Hs:ig s=some (!decide (nx s=64)):=by
  unfold ig
  cases s with
  |nil=>simp [nx]
  |cons c r=>rw [if_neg (by simp),show idx (c::r) 0=some c by simp [idx]];rfl
 unfold kP jH
 rw [Hs,Option.bind_some]
 by_cases hx:nx s=64
 · rw [if_pos hx,if_neg (by simp [hx])]
   have:=E6 hs hF (s.length+1) s 0 F hz (by omega) (by omega)
   rw [show (0:Int)=((0:Nat):Int) from rfl]
   cases hg:xj (s.length+1) s with
   |none=>
    rw [hg] at this
    rcases this with h|h
    · simp only [hg];rw [h];rfl
    · simp only [hg];rw [h];rfl
   |some rest=>
    rw [hg] at this
    obtain ⟨n,h1,h2⟩:=this
    simp only [hg]
    exact ⟨n,by rw [h1];rfl,h2⟩
 · rw [if_neg hx,if_pos (by simp [hx])]
   exact ⟨0,rfl,hz⟩
theorem z6 {s r:List UInt8} {n:Nat} (h:At s n r):fP (n:Int) s=some (match r with|[]=>false|c::_=> !decide (c=34)):=by
 unfold fP
 rcases mI h with ⟨rfl,h1⟩|⟨c,t,rfl,h1,h2⟩
 · rw [if_neg (by simp;omega)]
 · rw [if_pos (by simpa using h1),bt h2];rfl
theorem Kb {s r:List UInt8} {n:Nat} (h:At s n r):eU s (n:Int)=some (match r with|[]=>true|c::_=> !cG c):=by
 unfold eU
 rcases mI h with ⟨rfl,h1⟩|⟨c,t,rfl,h1,h2⟩
 · rw [if_pos (by simp;omega)]
 · rw [if_neg (by simp;omega),bt h2,Option.bind_some];exact MQ c
theorem Q7 {s:List UInt8}:∀(k:Nat) (r acc:List UInt8) (n F:Nat),r.length≤k→At s n r→acc.length≤n→r.length<F→
 match qL r with
 |some (b,rest)=>∃n':Nat,iter (bO s) F (acc,(n:Int))=some (.inr (acc++b,(n':Int)))∧At s n' (34::rest)
 |none=>iter (bO s) F (acc,(n:Int))=some (.inl ([], -1))∨∃acc',iter (bO s) F (acc,(n:Int))=some (.inr (acc',(s.length:Int))):=by
 intro k
 induction k with
 |zero=>
  intro r acc n F hk h ha hF
  have hr:r=[]:=List.length_eq_zero_iff.1 (by omega)
  subst hr
  obtain ⟨G,rfl⟩:=bN hF
  have hn:n=s.length:=by have:=h.len;simpa using this
  subst hn
  exact .inr ⟨acc,bA (by simp only [bO];rw [z6 h];rfl)⟩
 |succ k ih=>
  intro r acc n F hk h ha hF
  obtain ⟨G,rfl⟩:=bN (show 0<F by omega)
  have h1:=h.le;have h2:=h.sm
  match r,hk,h,hF with
  |[],hk,h,hF=>
   have hn:n=s.length:=by have:=h.len;simpa using this
   subst hn
   exact .inr ⟨acc,bA (by simp only [bO];rw [z6 h];rfl)⟩
  |c::r,hk,h,hF=>
   rw [tG]
   obtain ⟨-,hc1, -⟩:=drop_cons h.dr
   by_cases hc:c=34
   · subst hc
     rw [if_pos rfl]
     exact ⟨n,by rw [bA (t:=(acc,(n:Int))) (by simp only [bO];rw [z6 h];rfl)];simp,h⟩
   · rw [if_neg hc]
     have MS:fP (n:Int) s=some true:=by rw [z6 h];simp [hc]
     by_cases Ei:c=92
     · subst Ei
       rw [if_pos rfl]
       have hst:bO s (acc,(n:Int))=(eU s ((n+1:Nat):Int)).bind fun t15=>if t15=true then some (.ret (([]:List UInt8),(-1))) else (idx s ((n+1:Nat):Int)).bind fun j8=>(eE 1 acc ([j8]:List UInt8)).bind fun mF=>some (.cB (mF,(IntKind.wrap .i64 (((n+1:Nat):Int)+1)))):=by
        simp only [bO]
        rw [MS]
        simp only [Option.bind_some,if_true]
        rw [bt hc1,Option.bind_some]
        unfold iA
        rw [if_pos (by decide),wi (by omega),Option.bind_some]
       rw [Kb h.next,Option.bind_some] at hst
       match r,hk,h,hF,hst with
       |[],hk,h,hF,hst=>exact .inl (cK hst)
       |d::r',hk,h,hF,hst=>
        obtain ⟨Fi,hd1, -⟩:=drop_cons h.next.dr
        have Kc:bO s (acc,(n:Int))=if (!cG d)=true then some (.ret (([]:List UInt8),(-1))) else (idx s ((n+1:Nat):Int)).bind fun j8=>(eE 1 acc ([j8]:List UInt8)).bind fun mF=>some (.cB (mF,(IntKind.wrap .i64 (((n+1:Nat):Int)+1)))):=hst
        cases hv:cG d with
        |false=>simp only [hv,Bool.false_eq_true,if_false];exact .inl (cK (Kc.trans (if_pos (by rw [hv];rfl))))
        |true=>
         have wh:bO s (acc,(n:Int))=some (.cB (acc++[d],((n+2:Nat):Int))):=by
          rw [Kc,if_neg (by rw [hv];decide)]
          rw [bt hd1,Option.bind_some,e5 (by simp;omega) (by omega),Option.bind_some,wi (by omega)]
         have:=ih r' (acc++[d]) (n+2) G (by simp at hk;omega) h.next.next (by simp;omega) (by simp at hF;omega)
         rw [bW wh]
         cases hq:qL r' with
         |none=>rw [hq] at this;simp only [hv,if_true,hq,Option.map_none];exact this
         |some x=>
          obtain ⟨b,rest⟩:=x
          rw [hq] at this
          obtain ⟨n',h3,h4⟩:=this
          simp only [hv,if_true,hq,Option.map_some]
          exact ⟨n',by rw [h3];simp,h4⟩
     · rw [if_neg Ei]
       have hst:bO s (acc,(n:Int))=(eU s (n:Int)).bind fun t15=>if t15=true then some (.ret (([]:List UInt8),(-1))) else (idx s (n:Int)).bind fun j8=>(eE 1 acc ([j8]:List UInt8)).bind fun mF=>some (.cB (mF,(IntKind.wrap .i64 ((n:Int)+1)))):=by
        simp only [bO]
        rw [MS]
        simp only [Option.bind_some,if_true]
        rw [bt hc1,Option.bind_some]
        unfold iA
        rw [if_neg (by simpa using Ei),Option.bind_some,bt hc1]
       rw [Kb h,Option.bind_some] at hst
       have hlt:=h.next.le
       have Kc:bO s (acc,(n:Int))=if (!cG c)=true then some (.ret (([]:List UInt8),(-1))) else (idx s (n:Int)).bind fun j8=>(eE 1 acc ([j8]:List UInt8)).bind fun mF=>some (.cB (mF,(IntKind.wrap .i64 ((n:Int)+1)))):=hst
       cases hv:cG c with
       |false=>simp only [hv,Bool.false_eq_true,if_false];exact .inl (cK (Kc.trans (if_pos (by rw [hv];rfl))))
       |true=>
        have wh:bO s (acc,(n:Int))=some (.cB (acc++[c],((n+1:Nat):Int))):=by
         rw [Kc,if_neg (by rw [hv];decide)]
         rw [bt hc1,Option.bind_some,e5 (by simp;omega) (by omega),Option.bind_some,wi (by omega)]
        have:=ih r (acc++[c]) (n+1) G (by simp at hk;omega) h.next (by simp;omega) (by simp at hF;omega)
        rw [bW wh]
        cases hq:qL r with
        |none=>rw [hq] at this;simp only [hv,if_true,hq,Option.map_none];exact this
        |some x=>
         obtain ⟨b,rest⟩:=x
         rw [hq] at this
         obtain ⟨n',h3,h4⟩:=this
         simp only [hv,if_true,hq,Option.map_some]
         exact ⟨n',by rw [h3];simp,h4⟩
theorem D6 {s r:List UInt8} {n F:Nat} (hF:30≤F) (h:At s n r):iB F (n:Int) s=some (match r with|[]=>false|c::_=>gS c):=by
 unfold iB
 rcases mI h with ⟨rfl,h1⟩|⟨c,t,rfl,h1,h2⟩
 · rw [if_neg (by simp;omega)]
 · rw [if_pos (by simpa using h1),bt h2,Option.bind_some,J6 hF,Option.bind_some]
   simp only [gS]
   cases dY c<;>by_cases hc:c=46<;>simp [hc]
theorem Kd {s:List UInt8} {F:Nat} (A5:30≤F):∀(r:List UInt8) (n G:Nat),At s n r→r.length<G→iter (eV F s) G (n:Int)=some (.inr ((n+(r.takeWhile gS).length:Nat):Int)):=by
 intro r
 induction r with
 |nil=>
  intro n G h hG
  obtain ⟨G,rfl⟩:=bN hG
  rw [bA (t:=(n:Int)) (by simp only [eV];rw [D6 A5 h];rfl)]
  simp
 |cons c r ih=>
  intro n G h hG
  obtain ⟨G,rfl⟩:=bN hG
  have:=h.len;have:=h.sm
  by_cases hq:gS c=true
  · rw [bW (s':=((n+1:Nat):Int)) (by simp only [eV];rw [D6 A5 h];simp only [hq,Option.bind_some,if_true];rw [wi (by omega)]),ih (n+1) G h.next (by simp at hG;omega),List.takeWhile_cons,if_pos hq]
    simp only [List.length_cons]
    congr 3
    omega
  · rw [bA (t:=(n:Int)) (by simp only [eV];rw [D6 A5 h];simp only [hq,Option.bind_some];rfl),List.takeWhile_cons,if_neg hq]
    simp
theorem Q8 {s:List UInt8} {F:Nat} (hs:s.length≤2100) (hF:99010<F):match iS s with
 |some (b,rest)=>∃n:Nat,jJ F s=some (b,(n:Int))∧At s n rest
 |none=>jJ F s=some ([], -1):=by
 have hz:=At.zero (s:=s) (by omega)
 have Hs:iz s=some (decide (nx s=34)):=by
  unfold iz
  cases s with
  |nil=>simp [nx]
  |cons c r=>rw [if_pos (by simp),show idx (c::r) 0=some c by simp [idx]];rfl
 unfold iS jJ
 rw [Hs,Option.bind_some]
 by_cases hx:nx s=34
 · obtain ⟨t,rfl⟩:=gD hx (by decide)
   rw [if_pos hx,if_pos (by simpa using hx)]
   simp only [List.drop_succ_cons,List.drop_zero]
   have:=Q7 (s:=34::t) t.length t [] 1 F (Nat.le_refl _) hz.next (by simp) (by simp at hs;omega)
   rw [show (([]:List UInt8),(1:Int))=(([]:List UInt8),((1:Nat):Int)) from rfl]
   cases hq:qL t with
   |none=>
    rw [hq] at this
    rcases this with h|⟨acc',h⟩
    · simp only;rw [h];rfl
    · simp only;rw [h]
      simp
   |some x=>
    obtain ⟨b,rest⟩:=x
    rw [hq] at this
    obtain ⟨n',h1,h2⟩:=this
    have hlt:=h2.next.le
    simp only
    rw [h1]
    simp only [Option.bind_some,List.nil_append]
    by_cases hb:b=[]
    · rw [if_pos hb,if_pos (by simp [hb])]
    · rw [if_neg hb,if_neg (by simp [hb];simp at hlt;omega),wi (by omega)]
      exact ⟨n'+1,rfl,h2.next⟩
 · rw [if_neg hx,if_neg (show ¬(decide (nx s=34)=true) by simpa using hx)]
   have UE:=oq gS s
   rw [show (0:Int)=((0:Nat):Int) from rfl,Kd (by omega) s 0 F hz (by omega)]
   simp only [Option.bind_some]
   rw [uh hz,Option.bind_some,J8 (by omega) (by omega),Option.bind_some]
   cases hp:gl (s.takeWhile gS) with
   |false=>simp
   |true=>
    simp only [Bool.not_true,Bool.false_eq_true,if_false,if_true]
    exact ⟨_,rfl,hz.skip _⟩
end Go.Proofs.cY
end
section
set_option maxRecDepth 100000
namespace Go.Proofs.cY
open Go Go.Am Go.Proofs
theorem Q9 (s:List UInt8):ji s=some (!decide (nx s=60)):=by
 unfold ji
 cases s with
 |nil=>simp [nx]
 |cons c r=>rw [if_neg (by simp),show idx (c::r) 0=some c by simp [idx]];rfl
theorem Ra (c:UInt8) (r:List UInt8):jj (c::r)=some (decide (nx r=62)):=by
 unfold jj
 cases r with
 |nil=>simp [nx]
 |cons d t=>rw [if_pos (by simp;omega),show idx (c::d::t) 1=some d by simp [idx]];rfl
theorem Rb {s r:List UInt8} {n:Nat} (h:At s n r):jk (n:Int) s=some (!decide (nx r=64)):=by
 unfold jk
 rw [if_neg (by simp)]
 rcases mI h with ⟨rfl,h1⟩|⟨c,t,rfl,h1,h2⟩
 · rw [if_pos (by simp;omega)];simp [nx]
 · rw [if_neg (by simp;omega),bt h2];rfl
theorem Rc {s:List UInt8} {F:Nat} (hs:s.length≤2100) (hF:99010<F):jl F s (((s.takeWhile bY).length:Nat):Int)=some (!(dy (s.takeWhile bY)&&decide (nx (s.dropWhile bY)=62))):=by
 have hz:=At.zero (s:=s) (by omega)
 have UE:=oq bY s
 have A8:=hz.skip bY
 rw [Nat.zero_add] at A8
 unfold jl
 rw [om UE]
 have ht:s.take (s.takeWhile bY).length=s.takeWhile bY:=by
  conv=>lhs;arg 2;rw [←List.takeWhile_append_dropWhile (p:=bY) (l:=s)]
  exact List.take_left ..
 rw [ht,Option.bind_some,Ka (by omega) hF,Option.bind_some]
 cases dy (s.takeWhile bY) with
 |false=>rfl
 |true=>
  simp only [Bool.not_true,Bool.false_eq_true,if_false,Bool.true_and]
  rcases mI A8 with ⟨hr,h1⟩|⟨c,t,hr,h1,h2⟩
  · rw [hr,if_pos (by simp;omega)];simp [nx]
  · rw [hr,if_neg (by simp;omega),bt h2];rfl
theorem NT {s:List UInt8} {F:Nat} (hs:s.length≤2000) (hF:99010<F):nc F s=some (iP s):=by
 unfold nc iP A6
 rw [Q9,Option.bind_some]
 by_cases E5:nx s=60
 · obtain ⟨r,rfl⟩:=gD E5 (by decide)
   have hz:=At.zero (s:=60::r) (by omega)
   have hrl:r.length≤2000:=by simp at hs;omega
   rw [if_neg (by simp [E5]),Ra,Option.bind_some,if_pos E5]
   simp only [List.drop_succ_cons,List.drop_zero]
   by_cases uk:nx r=62
   · obtain ⟨t,rfl⟩:=gD uk (by decide)
     have MI:gm ⟨[],[]⟩=true:=by simp [gm,fD]
     rw [if_pos (by simpa using uk),if_pos uk,show (2:Int)=((2:Nat):Int) from rfl,fB hz.next.next.le]
     simp only [Option.bind_some,MI,if_true]
     rfl
   · rw [if_neg (show ¬(decide (nx r=62)=true) by simpa using uk),if_neg uk,sub_one rfl,Option.bind_some]
     have hr:=UH (s:=r) (F:=F) (by omega) hF
     unfold wj
     cases UI:kP r with
     |none=>
      rw [UI] at hr
      rw [hr]
      rfl
     |some r1=>
      rw [UI] at hr
      obtain ⟨n,h1,h2⟩:=hr
      have N1:=wo UI
      have hle:=h2.le
      rw [h1,Option.bind_some,if_neg (by simp),show (1:Int)+(n:Int)=((n:Nat):Int)+((1:Nat):Int) by simp;omega,NS (by omega),fB (by simp;omega)]
      have hd:(60::r).drop (n+1)=r1:=by rw [List.drop_succ_cons,h2.dr]
      rw [hd,Option.bind_some]
      have hl:=Q8 (s:=r1) (F:=F) (by omega) hF
      simp only
      cases CC:iS r1 with
      |none=>
       rw [CC] at hl
       rw [hl]
       rfl
      |some x=>
       obtain ⟨l,r2⟩:=x
       rw [CC] at hl
       obtain ⟨n2,h3,h4⟩:=hl
       obtain ⟨ads,acm⟩:=wm CC
       rw [h3]
       simp only [Option.bind_some]
       rw [Rb h4,Option.bind_some]
       by_cases zY:nx r2=64
       · obtain ⟨t,rfl⟩:=gD zY (by decide)
         have htl:t.length≤2000:=by simp at acm;omega
         have UE:=oq bY t
         rw [if_neg (by simp [zY]),wi (by have:=h4.le;omega),fB h4.next.le,h4.next.dr,Option.bind_some,FC (by omega) (by omega),Option.bind_some,Rc (by omega) hF,Option.bind_some,if_pos zY]
         simp only [List.drop_succ_cons,List.drop_zero]
         unfold fC
         cases hsh:dy (t.takeWhile bY) with
         |false=>simp
         |true=>
          simp only [Bool.true_and,if_true]
          by_cases Ke:nx (t.dropWhile bY)=62
          · have hzt:=At.zero (s:=t) (by omega)
            have A8:=hzt.skip bY
            rw [Nat.zero_add] at A8
            obtain ⟨u,hu⟩:=gD Ke (by decide)
            rw [if_neg (by simp [Ke]),if_pos Ke,om UE]
            have ht:t.take (t.takeWhile bY).length=t.takeWhile bY:=by
             conv=>lhs;arg 2;rw [←List.takeWhile_append_dropWhile (p:=bY) (l:=t)]
             exact List.take_left ..
            rw [ht,Option.bind_some,UB (by simp only;omega) (by simp only;omega) hF,Option.bind_some]
            simp only
            cases hR:gm ⟨l,t.takeWhile bY⟩ with
            |false=>simp
            |true=>
             rw [hu] at A8
             unfold lV
             rw [wi (by omega),fB A8.next.le,A8.next.dr,hu]
             simp
          · rw [if_pos (by simp [Ke]),if_neg Ke]
       · rw [if_pos (by simp [zY]),if_neg zY]
 · rw [if_pos (by simp [E5]),if_neg E5]
theorem UJ {s:List UInt8} {F:Nat} (hs:s.length≤2100) (hF:s.length<F):jC F s=some (s.map low):=by
 have DU:∀(m i G:Nat),i+m=s.length→m<G→iter (eO s) G ((i:Int),Bf s i)=some (.inr (s.map low)):=by
  intro m
  induction m with
  |zero=>
   intro i G hi hG
   obtain ⟨G,rfl⟩:=bN hG
   have:i=s.length:=by omega
   subst this
   rw [←NM s]
   exact bA (by simp only [eO];rw [if_neg (by simp)])
  |succ m ih=>
   intro i G hi hG
   obtain ⟨G,rfl⟩:=bN (show 0<G by omega)
   have hil:i<s.length:=by omega
   have hc:s[i]? =some s[i]:=List.getElem?_eq_getElem hil
   have hp:hM s (i:Int) (Bf s i)=some (decide (65≤s[i])&&decide (s[i]≤90)):=by
    unfold hM
    rw [Hy hil,Option.bind_some,wH (by omega),if_neg (by omega),hc,Option.bind_some]
    by_cases h:65≤s[i]<;>simp [h]
   have hst:eO s ((i:Int),Bf s i)=some (.cB (((i+1:Nat):Int),Bf s (i+1))):=by
    simp only [eO]
    rw [if_pos (by simpa using hil),hp,Option.bind_some]
    by_cases h:(decide (65≤s[i])&&decide (s[i]≤90))=true
    · have hl:s[i]+32=low s[i]:=by unfold low;rw [if_pos h]
      rw [if_pos h,Hy hil,Option.bind_some,wH (by omega),if_neg (by omega),hc,Option.bind_some,J2 (by rw [Cm (by omega)];exact hil),hl,Hx hil hc,Option.bind_some,wi (by omega)]
    · rw [if_neg h,NN hil hc h,wi (by omega)]
   rw [bW hst]
   exact ih (i+1) G (by omega) (by omega)
 unfold jC
 rw [show ((0:Int),s)=(((0:Nat):Int),Bf s 0) by simp [Bf],DU s.length 0 F (by omega) hF]
 simp only [Option.bind_some]
 rw [om (j:=s.length) (by simp),List.take_of_length_le (by simp)]
 rfl
end Go.Proofs.cY
end
section
set_option maxRecDepth 100000
namespace Go.Proofs.cY
open Go Go.Am Go.Proofs
theorem Xs {s:List UInt8} {F:Nat} (hF:20≤F):mW F s=some (um s:Int):=by
 unfold mW um
 have:=NO (s:=s) (body:=gw s) ?_ ?_ 9 1 F rfl (by omega) (by omega)
 · rw [show ((0:Int),(1:Int))=(0,((1:Nat):Int)) from rfl,this]
   cases xk s 9 1 with
   |none=>rfl
   |some j=>rfl
 · intro k h1 h2
   simp only [gw]
   rw [if_pos (by simp;omega)]
   have e:idx ([([]:List UInt8),([104,101,108,111]:List UInt8),([101,104,108,111]:List UInt8),([109,97,105,108]:List UInt8),([114,99,112,116]:List UInt8),([100,97,116,97]:List UInt8),([114,115,101,116]:List UInt8),([110,111,111,112]:List UInt8),([113,117,105,116]:List UInt8),([118,114,102,121]:List UInt8)]:List (List UInt8)) (k:Int)=some (wl k):=
    Hz (p:=fun k=>idx ([([]:List UInt8),([104,101,108,111]:List UInt8),([101,104,108,111]:List UInt8),([109,97,105,108]:List UInt8),([114,99,112,116]:List UInt8),([100,97,116,97]:List UInt8),([114,115,101,116]:List UInt8),([110,111,111,112]:List UInt8),([113,117,105,116]:List UInt8),([118,114,102,121]:List UInt8)]:List (List UInt8)) (k:Int)=some (wl k)) (by decide) h1 h2
   rw [e]
   simp only [Option.bind_some]
   by_cases h:wl k=s
   · simp [h]
   · rw [if_neg (by simpa using h),if_neg h,Q0 (by omega)]
 · simp only [gw]
   rw [if_neg (by decide)]
theorem NU:∀(s:List UInt8) (F:Nat),s.length<F→iter dW F s=some (.inr (s.dropWhile blk)):=by
 intro s
 induction s with
 |nil=>
  intro F hF
  obtain ⟨G,rfl⟩:=bN hF
  exact bA (by simp [dW,gA])
 |cons c r ih=>
  intro F hF
  obtain ⟨G,rfl⟩:=bN hF
  have hi:idx (c::r) 0=some c:=by simp [idx]
  by_cases h:c=32
  · subst h
    have:dW (32::r)=some (.cB r):=by
     simp only [dW,gA]
     rw [if_pos (by simp),hi]
     simp only [Option.bind_some,decide_true,if_true]
     rw [sub_one rfl];rfl
    rw [bW this,ih G (by simpa using hF)]
    simp [List.dropWhile_cons,blk]
  · have:dW (c::r)=some (.eg (c::r)):=by
     simp only [dW,gA]
     rw [if_pos (by simp),hi]
     simp [h]
    rw [bA this]
    simp [List.dropWhile_cons,blk,h]
theorem D7 {w s:List UInt8} {F:Nat} (hw:w.length≤100) (hF:200<F):jF F s w=some (ff w s):=by
 unfold jF kI ff
 by_cases h:w.length≤s.length
 · rw [if_pos (by simp;omega),om h]
   simp only [Option.bind_some]
   rw [UJ (by simp;omega) (by simp;omega)]
   simp [h]
 · rw [if_neg (by simp;omega)]
   simp [h]
theorem UL (x:UInt8):(if decide (x<48)=true then some true else some (decide (57<x)))=some (!eK x):=by
 have:=fH (p:=fun x=>decide ((if decide (x<48)=true then some true else some (decide (57<x)))=some (!eK x))) (by kernel_rfl) x
 simpa using this
theorem UM {x:UInt8} (h:eK x=true):(x - 48).toNat=x.toNat - 48∧48≤x.toNat∧x.toNat≤57:=by
 have:=fH (p:=fun x=> !eK x||(decide ((x - 48).toNat=x.toNat - 48)&&(decide (48≤x.toNat)&&decide (x.toNat≤57)))) (by kernel_rfl) x
 simpa [h] using this
theorem MU {d:List UInt8} {F:Nat} (hd:d.length≤9) (hF:20<F):iter (eJ d) F (0,0)=some (if d.all eK=true then .inr (Br d:Int) else .inl (0,false)):=by
 have hh:=lp (s:=d) (body:=eJ d) (mk:=fun (a:Nat) i=>((a:Int),(i:Int))) (tt:=fun a=>(a:Int))
  (step:=fun a c=>if eK c=true then .ok (10*a+(c.toNat - 48)) else .error (0,false)) (fun a i=>i≤9∧a<10 ^ i) ?_ ?_ (F:=F) (a:=0) (by omega) (by simp)
 · rw [show ((0:Int),(0:Int))=(((0:Nat):Int),((0:Nat):Int)) from rfl,hh.1]
   have key:∀(l:List UInt8) (a:Nat),sr (fun (a:Nat) (c:UInt8)=>if eK c=true then Except.ok (ε:=Int×Bool) (10*a+(c.toNat - 48)) else .error (0,false)) a l=
    if l.all eK=true then .ok (l.foldl (fun a c=>10*a+(c.toNat - 48)) a) else .error (0,false):=by
    intro l
    induction l with
    |nil=>intro a;rfl
    |cons c r ih=>
     intro a
     simp only [sr,List.all_cons,List.foldl_cons]
     by_cases h:eK c=true
     · simp only [h,if_true,ih,Bool.true_and]
     · simp [h]
   rw [key]
   cases d.all eK<;>rfl
 · intro a i c hc hI
   have hi:=(List.getElem?_eq_some_iff.1 hc).1
   have hb:eJ d ((a:Int),(i:Int))=if eK c=true then some (.cB ((IntKind.wrap .i64 ((IntKind.wrap .i64 (10*(a:Int)))+(IntKind.wrap .i64 ((c - 48).toNat:Int)))),(IntKind.wrap .i64 ((i:Int)+1)))) else some (.ret (0,false)):=by
    simp only [eJ,lW]
    rw [if_pos (by simpa using hi),bt hc]
    simp only [Option.bind_some]
    rw [UL c]
    simp only [Option.bind_some]
    cases eK c<;>simp
   by_cases h:eK c=true
   case neg=>simp only [if_neg h] at hb ⊢;exact hb
   case pos=>
    obtain ⟨e1,e2,e3⟩:=UM h
    have hp:a<10 ^ 9:=Nat.lt_of_lt_of_le hI.2 (Nat.pow_le_pow_right (by omega) hI.1)
    simp only [if_pos h] at hb ⊢
    rw [hb,e1,wr (n:=10*(a:Int)) (by omega) (by omega),wr (n:=((c.toNat - 48:Nat):Int)) (by omega) (by omega),wr (by omega) (by omega),Q0 (by omega)]
    refine ⟨by simp,by omega, ?_⟩
    rw [Nat.pow_succ];omega
 · intro a hI
   simp only [eJ]
   rw [if_neg (by simp)]
theorem NV {s:List UInt8} {F:Nat} (hs:s.length≤3000) (hF:7000<F):∃n,ng F s=some (n,(sw s).isSome)∧∀v,sw s=some v→n=(v:Int):=by
 unfold ng sw
 rw [D7 (by decide) (by omega)]
 simp only [Option.bind_some]
 cases h:ff HA s with
 |false=>exact ⟨0,by simp,by simp⟩
 |true=>
  have hl:6≤s.length:=by
   unfold ff at h;simp only [Bool.and_eq_true,decide_eq_true_eq] at h;simpa using h.1
  simp only [Bool.not_true,Bool.false_eq_true,if_false]
  rw [show (6:Int)=((6:Nat):Int) from rfl,fB hl]
  simp only [Option.bind_some]
  generalize s.drop 6=d
  by_cases h1:d=[]∨9<d.length
  · rw [if_pos (by simp only [Bool.or_eq_true,decide_eq_true_eq];exact h1.imp id (by omega)),if_neg (by rintro ⟨-,g1,g2, -⟩;rcases h1 with h1|h1;exact g1 h1;omega)]
    exact ⟨0,rfl,fun v h=>by cases h⟩
  · have hd:d≠[]:=fun h=>h1 (.inl h)
    have h9:d.length≤9:=by omega
    rw [if_neg (by simp [hd];omega),MU h9 (by omega)]
    by_cases ha:d.all eK=true
    · simp only [if_pos ha,Option.bind_some]
      rw [if_pos ⟨trivial,hd,h9,ha⟩]
      exact ⟨_,rfl,fun v h=>by injection h with h;rw [h]⟩
    · simp only [if_neg ha,Option.bind_some]
      rw [if_neg (by rintro ⟨-, -, -,g⟩;exact ha g)]
      exact ⟨_,rfl,fun v h=>by cases h⟩
theorem UN {s:List UInt8} {F:Nat} (hs:s.length≤2000) (hF:99010<F):jo F 3 s=some (DZ s):=by
 unfold jo jm
 rw [if_neg (by decide)]
 simp only [Option.bind_some]
 rw [D7 (by decide) (by omega)]
 simp only [Option.bind_some]
 unfold DZ su
 cases h:ff l6 s with
 |false=>simp
 |true=>
  have hl:l6.length≤s.length:=by
   unfold ff at h;simp only [Bool.and_eq_true,decide_eq_true_eq] at h;exact h.1
  simp only [Bool.not_true,Bool.false_eq_true,if_false,if_true]
  rw [fB hl]
  simp only [Option.bind_some]
  unfold mY
  have h1:=zZ blk (s.drop l6.length)
  have h2:(s.drop l6.length).length≤s.length:=by simp
  rw [NU _ F (by omega)]
  simp only [Option.bind_some]
  rw [NT (by omega) hF]
  simp only [Option.bind_some]
  have nW:=D3 (w:=l6) (s:=s)
  unfold su at nW
  rw [h] at nW
  simp only [if_true] at nW
  generalize iP ((s.drop l6.length).dropWhile blk)=p at nW ⊢
  obtain ⟨a,r,e⟩:=p
  simp only at nW ⊢
  by_cases he:e=0
  · subst he
    simp only [decide_true,Bool.not_true,Bool.false_or,if_true]
    rw [if_neg (by simp)]
    unfold jn
    simp only [decide_true,if_true,Option.bind_some]
    cases r with
    |nil=>simp
    |cons c t=>
     rw [if_neg (by simp),if_neg (by simp)]
     obtain ⟨n,g1,g2⟩:=NV (s:=c::t) (F:=F) (by omega) (by omega)
     rw [g1]
     simp only [Option.bind_some,Bool.and_true]
     cases hz:sw (c::t) with
     |some v=>
      have hc:c=32:=by
       unfold sw at hz
       split at hz
       · rename_i hz0;have:=hz0.1
         unfold ff at this
         simp only [Bool.and_eq_true,decide_eq_true_eq,List.length_cons,List.take_succ_cons,List.map_cons,List.cons.injEq] at this
         have h3:=this.2.1
         have h4:=fH (p:=fun c=> !decide (low c=32)||decide (c=32)) (by kernel_rfl) c
         simpa [h3] using h4
       · cases hz
      subst hc
      simp [g2 v hz]
     |none=>
      simp only [Option.isSome_none,Bool.false_eq_true,if_false]
      rw [show idx (c::t) 0=some c by simp [idx]]
      by_cases hc:c=32<;>simp [hc]
  · simp [he]
theorem UO {s:List UInt8} {F:Nat} (hs:s.length≤2000) (hF:99010<F):jo F 4 s=some (D0 s):=by
 unfold jo jm
 rw [if_pos (by decide)]
 simp only [Option.bind_some]
 rw [D7 (by decide) (by omega)]
 simp only [Option.bind_some]
 unfold D0 su
 cases h:ff Cb s with
 |false=>simp
 |true=>
  have hl:Cb.length≤s.length:=by
   unfold ff at h;simp only [Bool.and_eq_true,decide_eq_true_eq] at h;exact h.1
  simp only [Bool.not_true,Bool.false_eq_true,if_false,if_true]
  rw [fB hl]
  simp only [Option.bind_some]
  unfold mY
  have h1:=zZ blk (s.drop Cb.length)
  have h2:(s.drop Cb.length).length≤s.length:=by simp
  rw [NU _ F (by omega)]
  simp only [Option.bind_some]
  rw [NT (by omega) hF]
  simp only [Option.bind_some]
  have nW:=D3 (w:=Cb) (s:=s)
  unfold su at nW
  rw [h] at nW
  simp only [if_true] at nW
  generalize iP ((s.drop Cb.length).dropWhile blk)=p at nW ⊢
  obtain ⟨a,r,e⟩:=p
  simp only at nW ⊢
  by_cases he:e=0
  · subst he
    cases hn:fD a with
    |true=>
     have hn2:=hn
     unfold fD at hn2
     simp only [Bool.and_eq_true,decide_eq_true_eq] at hn2
     simp [hn2.1,hn2.2]
    |false=>
     have hn2:=hn
     unfold fD at hn2
     simp only [hn2,decide_true,Bool.not_true,Bool.false_or,if_true,Bool.and_false]
     rw [if_neg (by simp)]
     unfold jn
     rw [if_neg (by decide)]
     simp only [Option.bind_some]
     cases r with
     |nil=>simp
     |cons c t=>
      rw [if_neg (by simp),if_pos (by simp),if_neg (by simp)]
      obtain ⟨n,g1,g2⟩:=NV (s:=c::t) (F:=F) (by omega) (by omega)
      rw [g1]
      simp only [Option.bind_some]
      rw [if_neg (by simp),show idx (c::t) 0=some c by simp [idx]]
      by_cases hc:c=32<;>simp [hc]
  · simp [he]
theorem Xt {s:List UInt8} {F:Nat} (hs:s.length≤100000) (hF:s.length<F):iter (ef s) F (0,Z)=some (if s.all cG=true then .inr Z else .inl (Z,500)):=by
 have hh:=Ut (s:=s) (body:=ef s) (mk:=fun i=>((i:Int),Z)) (p:=cG) (rr:=fun _=>(Z,500)) (tt:=Z) ?_ ?_ ?_ hF
 · cases h:s.all cG with
   |true=>have:=hh.1 h;simpa using this
   |false=>obtain ⟨_,this⟩:=hh.2 h;simpa using this
 · intro i c hc hp
   have hi:=(List.getElem?_eq_some_iff.1 hc).1
   simp only [ef,iD]
   rw [if_pos (by simpa using hi),bt hc]
   simp only [Option.bind_some]
   rw [HD c]
   simp only [Option.bind_some,hp,Bool.not_true,Bool.false_eq_true,if_false]
   rw [Q0 (by omega)]
 · intro i c hc hp
   have hi:=(List.getElem?_eq_some_iff.1 hc).1
   simp only [ef,iD]
   rw [if_pos (by simpa using hi),bt hc]
   simp only [Option.bind_some]
   rw [HD c]
   simp [hp]
 · simp only [ef]
   rw [if_neg (by simp)]
theorem UP:∀(r:List UInt8) (F:Nat),r.length≤100000→r.length<F→iter dw F r.reverse=some (.inr (r.dropWhile blk).reverse):=by
 intro r
 induction r with
 |nil=>
  intro F _ hF
  obtain ⟨G,rfl⟩:=bN hF
  exact bA (by simp [dw,fQ])
 |cons c r ih=>
  intro F hl hF
  obtain ⟨G,rfl⟩:=bN hF
  simp only [List.length_cons] at hl hF
  have hlen:IntKind.wrap .i64 (((r.reverse++[c]).length:Int) - 1)=(r.length:Int):=by rw [wr (by simp<;>omega) (by simp<;>omega)];simp
  have hi:idx (r.reverse++[c]) (r.length:Int)=some c:=by rw [zW];simp
  rw [List.reverse_cons]
  have hp:fQ (r.reverse++[c])=some (decide (c=32)):=by
   unfold fQ
   rw [if_pos (by simp),hlen,hi];rfl
  by_cases h:c=32
  · subst h
    have:dw (r.reverse++[32])=some (.cB r.reverse):=by
     simp only [dw]
     rw [hp]
     simp only [Option.bind_some,decide_true,if_true]
     rw [hlen,om (by simp)]
     simp
    rw [bW this,ih G (by omega) (by omega)]
    simp [List.dropWhile_cons,blk]
  · have:dw (r.reverse++[c])=some (.eg (r.reverse++[c])):=by
     simp only [dw]
     rw [hp]
     simp [h]
    rw [bA this]
    simp [List.dropWhile_cons,blk,h]
theorem MV {t:List UInt8} (ht:t.length≤100000):∀(r:List UInt8) (i F:Nat),t.drop i=r→i+r.length=t.length→r.length<F→iter (dx t) F (i:Int)=some (.inr ((i+(r.takeWhile nb).length:Nat):Int)):=by
 intro r
 induction r with
 |nil=>
  intro i F hd hl hF
  obtain ⟨G,rfl⟩:=bN hF
  refine bA ?_
  simp only [dx,fR]
  rw [if_neg (by simp at hl ⊢;omega)]
  simp
 |cons c r ih=>
  intro i F hd hl hF
  obtain ⟨G,rfl⟩:=bN hF
  obtain ⟨hi,hx,hr⟩:=drop_cons hd
  simp only [List.length_cons] at hl hF
  by_cases h:c=32
  · have:dx t (i:Int)=some (.eg (i:Int)):=by
     simp only [dx,fR]
     rw [if_pos (by simpa using hi),bt hx]
     simp [h]
    rw [bA this];simp [List.takeWhile_cons,nb,h]
  · have:dx t (i:Int)=some (.cB ((i+1:Nat):Int)):=by
     simp only [dx,fR]
     rw [if_pos (by simpa using hi),bt hx]
     simp only [Option.bind_some,h,decide_false,Bool.not_false,if_true]
     rw [Q0 (by omega)]
    rw [bW this,ih (i+1) G hr (by omega) (by omega)]
    simp [List.takeWhile_cons,nb,h];omega
theorem UQ {s:List UInt8} {F:Nat} (hs:s.length≤2000) (hF:99010<F):lZ F s=some (NP s):=by
 unfold lZ NP
 rw [Xt (by omega) (by omega)]
 simp only [Option.bind_some]
 cases hv:s.all cG with
 |false=>simp
 |true=>
  simp only [if_true]
  have ht:=D1 s
  have h2:=UP s.reverse F (by simp;omega) (by simp;omega)
  rw [List.reverse_reverse] at h2
  rw [h2]
  simp only [Option.bind_some]
  rw [show ((s.reverse.dropWhile blk).reverse)=de s from rfl]
  have h3:=MV (t:=de s) (by omega) (de s) 0 F rfl (by simp) (by omega)
  rw [show (0:Int)=((0:Nat):Int) from rfl,h3]
  simp only [Option.bind_some,Nat.zero_add]
  have hw:((de s).takeWhile nb).length≤(de s).length:=(List.takeWhile_prefix nb).length_le
  have hd:=Bx (de s)
  rw [show ((0:Nat):Int)=0 from rfl,om hw]
  simp only [Option.bind_some]
  have htk:(de s).take ((de s).takeWhile nb).length=(de s).takeWhile nb:=(List.prefix_iff_eq_take.1 (List.takeWhile_prefix nb)).symm
  rw [htk,UJ (by omega) (by omega)]
  simp only [Option.bind_some]
  rw [Xs (by omega)]
  simp only [Option.bind_some]
  rw [FA]
  simp only [Option.bind_some]
  have hk:=FB (((de s).takeWhile nb).map low)
  have hne:=J4 (s:=s)
  have hhd:=MO (t:=de s)
  generalize um (((de s).takeWhile nb).map low)=k at hk ⊢
  generalize hr:(de s).dropWhile nb=r at hd hne hhd ⊢
  unfold MN
  by_cases h0:k=0
  · subst h0;simp
  · rw [if_neg (by simp;omega),if_neg h0]
    have Q5:r.drop 1=[]↔r=[]:=⟨fun h=>Classical.byContradiction fun h2=>hne h2 h,fun h=>by rw [h];rfl⟩
    unfold kL kM kN kO
    have hsub:r≠[]→sub r 1 (r.length:Int)=some (r.drop 1):=fun h=>by
     obtain ⟨t,e⟩:=hhd h
     rw [e,sub_one rfl];rfl
    have hdn:e6 []=false:=rfl
    have hk9:k=1∨k=2∨k=3∨k=4∨k=5∨k=6∨k=7∨k=8∨k=9:=by omega
    rcases hk9 with rfl|rfl|rfl|rfl|rfl|rfl|rfl|rfl|rfl
    · by_cases kV:r=[]
      · subst kV;simp [hdn]
      · have hq:=hsub kV
        rw [hq]
        have KB:cW F (r.drop 1)=some (e6 (r.drop 1)):=Cn hF
        generalize r.drop 1=q at KB ⊢
        simp [kV,KB];cases e6 q<;>simp
    · by_cases kV:r=[]
      · subst kV;simp [hdn]
      · have hq:=hsub kV
        rw [hq]
        have KB:cW F (r.drop 1)=some (e6 (r.drop 1)):=Cn hF
        generalize r.drop 1=q at KB ⊢
        simp [kV,KB];cases e6 q<;>simp
    · have:=UN (s:=r) (F:=F) (by omega) hF
      simp [this]
    · have:=UO (s:=r) (F:=F) (by omega) hF
      simp [this]
    · by_cases kV:r=[]<;>simp [kV]
    · by_cases kV:r=[]<;>simp [kV]
    · by_cases kV:r=[]
      · subst kV;simp
      · rw [hsub kV];generalize r.drop 1=q;simp [kV]
    · by_cases kV:r=[]<;>simp [kV]
    · by_cases kV:r=[]
      · subst kV;simp
      · rw [hsub kV];generalize r.drop 1=q;simp [kV]
end Go.Proofs.cY
end
section
set_option maxRecDepth 100000
namespace Go.Proofs.cY
open Go Go.Am Go.Proofs
open Nat renaming reduceEqDiff→nA,reduceLT→nB,reduceLeDiff→nC,reduceAdd→nD,reduceSub→nE,reduceMul→nF,reduceBEq→nG
set_option maxHeartbeats 2000000
abbrev ni:av:=(.rg [(aj 22 (.ld (.t 3) (some 5))),(aj 23 (.ld (.t 5) (some 5))),(aj 24 (.seq [.i, .s, .s, .s, .i] false (.t 22) (.t 23))),(au 25 24),(ay 26 (.mv (.t 4)) 25 true),(ay 27 (.mv (.t 6)) 25 true),(ay 28 (.bin .eql (.t 26) (.t 27)) 25 true),(aj 29 (.pick (.t 25) (.t 28) (.c (.bool false)))),(aR 2 29)])
abbrev z7:av:=(.seq (.rg [(aj 2 (.aO (.c (.bool false))))]) (.seq (.seq (.rg [(aj 7 (.call (.c (.fn 7 [])) [])),(aj 8 (.un .not (.t 7)))]) (.cond (.t 8) (.seq (.rg [(aj 2 (.aO (.c (.bool false))))]) .ret) .skip)) (.seq (.seq (.rg [(au 9 0),(aj 10 (.lens (.t 9))),(aj 11 (.bin .gtr (.t 10) (.c (.int .i64 2000))))]) (.cond (.t 11) (.seq (.rg [(aj 2 (.aO (.c (.bool true))))]) .ret) .skip)) (.seq (.rg [(au 13 0),(aj 14 (.call (.c (.fn 8 [])) [(.t 13)])),(au 12 14),(aj 15 (.ext (.t 12) 0)),(aj 16 (.ext (.t 12) 1)),(aj 3 (.alloc [(.int .i64 0),(.str []),(.str []),(.str []),(.int .i64 0)])),(cZ (.st (.t 3) (.t 15) 5)),(aR 4 16)]) (.seq (.rg [(au 18 0),(aj 19 (.call (.c (.fn 9 [])) [(.t 18)])),(au 17 19),(aj 20 (.ext (.t 17) 0)),(aj 21 (.ext (.t 17) 1)),(aj 5 (.alloc [(.int .i64 0),(.str []),(.str []),(.str []),(.int .i64 0)])),(cZ (.st (.t 5) (.t 20) 5)),(aR 6 21)]) (.seq (.sem (erase ni)) .ret))))))
theorem z8:bQ Tryz.prog 3 30 [(.tmp 2)] (erase z7):=⟨Tryz.f3,_,rfl,by decide,rfl,by kernel_rfl,rfl,rfl⟩
abbrev rK:List Nat:=[0,2,3,4,5,6,8,11]
def kQ (F:Nat) (s1:List UInt8):Option (Bool):=
 (oe F).bind fun r2=>
 (if (!r2) then
  some false
 else
  (if (decide (2000<(s1.length:Int))) then
   some true
  else
   (gO F s1).bind fun (r3,r4)=>
   (lZ F s1).bind fun (r5,r6)=>
   some ((decide (r3.kind=r5.kind)&&(decide (r3.arg=r5.arg)&&(decide (r3.path.ax=r5.path.ax)&&(decide (r3.path.domain=r5.path.domain)&&decide (r3.size=r5.size)))))&&(decide (r4=r6)))))
theorem vb {q7:Nat} {r4:Int} {q8:Nat} {r6:Int} {r3:aH} {r5:aH} {H0 H:AH} (hfr:Fr H0 H0.length [] H) (ai:H[q7]? =some [(.int .i64 r3.kind),(.str r3.arg),(.str r3.path.ax),(.str r3.path.domain),(.int .i64 r3.size)]) (aS:H[q8]? =some [(.int .i64 r5.kind),(.str r5.arg),(.str r5.path.ax),(.str r5.path.domain),(.int .i64 r5.size)]) (dZ:H0.length≤q7) (hi1:H0.length≤q8) (hi2:q7≠q8) {K:Exit→Env→AH→Prop}
 (kn:∀H':AH,Fr H0 H0.length [] H'→H'[q7]? =some [(.int .i64 r3.kind),(.str r3.arg),(.str r3.path.ax),(.str r3.path.domain),(.int .i64 r3.size)]→H'[q8]? =some [(.int .i64 r5.kind),(.str r5.arg),(.str r5.path.ax),(.str r5.path.domain),(.int .i64 r5.size)]→K .normal [(2,(.bool ((decide (r3.kind=r5.kind)&&(decide (r3.arg=r5.arg)&&(decide (r3.path.ax=r5.path.ax)&&(decide (r3.path.domain=r5.path.domain)&&decide (r3.size=r5.size)))))&&(decide (r4=r6)))))] H'):
 AX Tryz.prog rK 30 H0.length (erase ni) K [(2,(.bool false)),(3,(.ptr q7 0)),(4,(.int .i64 r4)),(5,(.ptr q8 0)),(6,(.int .i64 r6))] H:=by
 refine b7 fun K' hK=> ?_
 have hle:=hfr.le
 have aM:=aQ ai
 have mG:=aQ aS
 refine az (aI ai aS) ?_
 refine nj (fun cc=> ?_) fun cc=> ?_
 · refine az (aI cc (aI ai aS)) ?_
   exact hK _ _ _ _ _ (fI cc) ak (kn _ hfr (ai.trans rfl) (aS.trans rfl))
 · refine az (aI cc (aI ai aS)) ?_
   exact hK _ _ _ _ _ (fI cc) ak (kn _ hfr (ai.trans rfl) (aS.trans rfl))
theorem yL {F:Nat} {s1:List UInt8} {H0:AH} {aP:Bool} (h:kQ F s1=some aP):
 aF Tryz.prog 3 [(.str s1)] H0 fun v H'=>v=(.bool aP)∧H'=H0:=by
 refine nk z8 rK [] fun hcl K0 aN H hH hfr=> ?_
 clear hH
 have hle:=hfr.le
 rw [kQ.eq_1] at h
 refine ei ?_
 obtain ⟨r2,hy1,h⟩:=aq h
 refine bE ak (BU hy1) ?_
 refine ei ?_
 refine bn h (fun hy2 h=> ?_) fun hy2 h=> ?_
 · refine ei ?_
   obtain rfl:=aB h
   exact aN _ _ _ bk (aV hfr hcl (aX bf (.bool false)) bg aZ ⟨rfl,rfl⟩)
 · refine ei ?_
   refine bn h (fun hy3 h=> ?_) fun hy3 h=> ?_
   · refine ei ?_
     obtain rfl:=aB h
     exact aN _ _ _ bk (aV hfr hcl (aX bf (.bool true)) bg aZ ⟨rfl,rfl⟩)
   · refine ei ?_
     obtain ⟨⟨r3,r4⟩,hy4,h⟩:=aq h
     dsimp only at h
     refine bE ak (kC hy4) ?_
     refine ei ?_
     obtain ⟨⟨r5,r6⟩,bM,h⟩:=aq h
     dsimp only at h
     refine bE ak (B9 bM) ?_
     refine ei ?_
     obtain ⟨q8,aal⟩:∃q:Nat,(H.length+1)=q:=⟨_,rfl⟩
     try rw [aal]
     obtain ⟨q7,Ms⟩:∃q:Nat,H.length=q:=⟨_,rfl⟩
     try rw [Ms]
     try rw [show q7+1=q8 from by omega]
     refine bB ak (vb (q7:=q7) (r4:=r4) (q8:=q8) (r6:=r6) (r3:=r3) (r5:=r5) (cj _ (Fr.app (cj _ (Fr.app hfr)))) (mz (BA cD)) cD ct ct ct ?_)
     intro H hfr ai aS
     have hle:=hfr.le
     have aM:=aQ ai
     have mG:=aQ aS
     refine az (aI ai aS) ?_
     obtain rfl:=aB h
     exact aN _ _ _ bk (aV hfr hcl (aX bf (.bool ((decide (r3.kind=r5.kind)&&(decide (r3.arg=r5.arg)&&(decide (r3.path.ax=r5.path.ax)&&(decide (r3.path.domain=r5.path.domain)&&decide (r3.size=r5.size)))))&&(decide (r4=r6))))) bg aZ ⟨rfl,rfl⟩)
end Go.Proofs.cY
end
section
set_option maxRecDepth 100000
namespace Go.Proofs.cY
open Go Go.Am Go.Proofs
theorem UR (n:Nat):oe (n+100)=some true:=by kernel_rfl
theorem E7 (s:List UInt8):∃F,kQ F s=some true:=by
 refine ⟨100000+100, ?_⟩
 unfold kQ
 rw [UR]
 simp only [Option.bind_some,Bool.not_true,Bool.false_eq_true,if_false]
 by_cases h:2000<s.length
 · rw [if_pos (by simp;omega)]
 · rw [if_neg (by simp;omega),Uy (by omega) (by omega)]
   simp only [Option.bind_some]
   rw [UQ (by omega) (by omega)]
   simp
end Go.Proofs.cY
end
section
namespace Go.Am
open Go Go.RowKit
variable [Tabs]
def C0 (W:World) (b:Nat):List Value:=match W.heap[b]? with
 |some (.cells cs _ _)=>cs.toList
 |_=>[]
theorem aF.row {P:Program} {f:Nat} {args:List AV} {R:AV→AH→Prop} (h:aF P f args [] R) {W:World} {vs:Array Value} (htab:∀e∈Tabs.l,∃cs ty fr,W.heap[e.1]? =some (.cells cs ty fr)∧e.2 cs) (hl:vs.size=args.length)
 (hv:∀(i:Nat) (a:AV),args[i]? =some a→VR (C0 W) [] a (vs.getD i undef)∧TC W (C0 W) a (vs.getD i undef)∧a.plain=true):
 Calls P f vs W fun e w'=>∃r v aE γ' C',e= .returned v∧R r aE∧VR C' γ' r v∧Below W.heap.size W w':=by
 have hg:∀t,get (e4 0 args) t=(args[t]?).getD .un:=fun t=>by rw [eA];simp
 have hno:∀p b,¬blk [] (e4 0 args) [] vs W p b:=by
  intro p b hp
  cases p with
  |obj s=>simp [blk] at hp
  |cell s i=>obtain ⟨cs,a,b0,h1, -⟩:=hp;simp at h1
  |tmp t=>
   simp only [blk,hg] at hp
   cases ht:args[t]? with
   |none=>rw [ht] at hp;simp [bS] at hp
   |some a=>rw [ht] at hp;simp only [Option.getD_some] at hp;rw [iE _ (gJ (hv t a ht).2.2)] at hp;cases hp
 have hs:SR [] args.length (fun b=>b<W.heap.size) [] (C0 W) (e4 0 args) [] vs W:=by
  refine ⟨⟨rfl,fun s b cs hs=>by simp at hs,fun b hne=> ?_,fun s b cs hs=>by simp at hs,fun s b cs us ty fr hs=>by simp at hs⟩,hl,fun t=> ?_,fun p q b hp=>absurd hp (hno p b),fun p b hp=>absurd hp (hno p b),⟨fun b hb=>hb,fun e he=> ?_⟩,fun t l k xs ht=> ?_⟩
  · unfold C0 at hne ⊢
    split at hne
    · rename_i cs ty fr hb
      rw [hb]
      exact ⟨cs,ty,fr,rfl,List.prefix_refl _⟩
    · exact absurd rfl hne
  · rw [hg]
    cases ht:args[t]? with
    |none=>exact ⟨.un ..,by cases vs.getD t undef<;>trivial⟩
    |some a=>exact ⟨(hv t a ht).1,(hv t a ht).2.1⟩
  · obtain ⟨cs0,ty,fr,h2,h5⟩:=htab e he
    have h4:e.1<W.heap.size:=by
     rcases Nat.lt_or_ge e.1 W.heap.size with h3|h3
     · exact h3
     · rw [Array.getElem?_eq_none h3] at h2;cases h2
    exact ⟨h4,cs0,ty,fr,h2,h5⟩
  · rw [hg] at ht
    cases hq:args[t]? with
    |none=>rw [hq] at ht;simp at ht
    |some a=>rw [hq] at ht;exact absurd ht (wA (hv t a hq).2.2 l k xs)
 refine (h.2 _ [] (C0 W) W vs hs).mono ?_
 rintro e w' ⟨r,v,aE,γ',C',rfl,hR, -,hs',hx⟩
 refine ⟨r,v,aE,γ',C',rfl,hR, ?_,hx.out.1,hx.out.2.1,hx.out.2.2,hx.size,fun k hk=>(hx.keep k hk).1⟩
 have:=(hs'.env 0).1
 simpa [get] using this
end Go.Am
end
section
namespace Go.Am
open Go Go.RowKit Go.Deep
variable [Tabs]
theorem Kf {W:World} {b o:Nat} {v:Value} (h:W.cell? ⟨b,o,none⟩=some v):o<(C0 W b).length∧(C0 W b).getD o undef=v:=by
 unfold C0
 unfold World.cell? at h
 simp only at h
 split at h
 · rename_i cs ty fr hb
   rw [hb]
   simp only at h ⊢
   have hlt:o<cs.size:=by
    rcases Nat.lt_or_ge o cs.size with h'|h'
    · exact h'
    · rw [Array.getElem?_eq_none h'] at h;cases h
   rw [Array.getElem?_eq_getElem hlt] at h
   injection h with h
   refine ⟨by simpa using hlt, ?_⟩
   rw [List.getD_eq_getElem?_getD,List.getElem?_eq_getElem (by simpa using hlt)]
   simpa using h
 · cases h
section
variable {H:Type} {enc:TypeId×Value→H} {P:Program} {W:World} {sp:Nat→Bool} {held:Bool}
theorem ac4 {t e:TypeId} {A:Type} (g:A→AV) {v:Value} {d:DataW H} {ps:List MemPlace} {base:Nat} {r:Reach} (ht:P.underlying t=some (.slice e)) (hc:P.cellsOf e=1) (hval:Value.okWide P W r base t v)
 (h:DataW.Trod enc P W 0 sp held t v d ps)
 (hg:∀x,(g x).cells=[g x]) (he:∀n V y,DataW.trod enc P W 0 sp held n e [V]=some y→V.oneCell'=true∧∃x,VR (C0 W) [] (g x) V):∃xs:List A,VR (C0 W) [] (.sl .n 1 (xs.map g)) v:=by
 have hv:(v= .slice none 0 0)∨∃a len cap,v= .slice (some a) len cap∧a.spot=none:=by
  unfold Value.okWide at hval
  rw [ht] at hval
  simp only [Cell.okWide,ht,Cell.ok] at hval
  cases v with
  |slice a len cap=>
   cases a with
   |none=>cases len<;>cases cap<;>first|exact .inl rfl|exact hval.elim
   |some a=>exact .inr ⟨a,len,cap,rfl,hval.2.2.2.1⟩
  |_=>exact hval.elim
 obtain ⟨fuel,h⟩:=h
 rcases hv with rfl|⟨a,len,cap,rfl,hsp⟩
 · exact ⟨[], .rM ..⟩
 · rcases open_slice1 ht hc h with ⟨h0, -⟩|⟨a',len',cap',m,n,V,D,Pl,h1,hb,hl,hm,Ed,hx,hall⟩
   · simp [Value.cells] at h0
   · have h1:a'=a∧len'=len∧cap'=cap:=by simpa [Value.cells,eq_comm] using h1
     obtain ⟨rfl,rfl,rfl⟩:=h1
     have hlm:len'≤m:=by rw [Ed];split<;>omega
     have key:∀i,i<len'→∃x,VR (C0 W) [] (g x) (V i):=fun i hi=>(he n (V i) _ (hall i (by omega)).2).2
     obtain ⟨b,o,s⟩:=a'
     simp only at hsp
     subst hsp
     have hcell:∀i,i<len'→o+i<(C0 W b).length∧(C0 W b).getD (o+i) undef=V i:=fun i hi=>by
      have:=(hall i (by omega)).1
      rw [add_eq] at this
      exact Kf this
     by_cases h0:len'=0
     · subst h0;exact ⟨[], .rM ..⟩
     let f:Nat→A:=fun i=>if hi:i<len' then Classical.choose (key i hi) else Classical.choose (key 0 (by omega))
     have hf:∀i,i<len'→VR (C0 W) [] (g (f i)) (V i):=fun i hi=>by
      show VR (C0 W) [] (g (if hi:i<len' then Classical.choose (key i hi) else Classical.choose (key 0 (by omega)))) (V i)
      rw [dif_pos hi]
      exact Classical.choose_spec (key i hi)
     refine ⟨(List.range len').map f, .sl _ _ _ _ _ _ _ _ (by simp) hl (fun i a hi=> ?_) ?_ (fun q h1 h2=> ?_) fun i a hi j y hj=> ?_⟩
     · rw [List.getElem?_map,List.getElem?_map] at hi
       cases hr:(List.range len')[i]? with
       |none=>rw [hr] at hi;simp at hi
       |some q=>rw [hr] at hi;simp at hi;subst hi;rw [hg];rfl
     · have:=(hcell (len' - 1) (by omega)).1;omega
     · have:=hcell (q - o) (by omega)
       rw [show o+(q - o)=q by omega] at this
       rw [this.2]
       exact (he n (V (q - o)) _ (hall (q - o) (by omega)).2).1
     · rw [List.getElem?_map,List.getElem?_map] at hi
       cases hr:(List.range len')[i]? with
       |none=>rw [hr] at hi;simp at hi
       |some q=>
        rw [hr] at hi
        have hq:=(List.getElem?_eq_some_iff.1 hr)
        obtain ⟨hlt,hq⟩:=hq
        simp at hlt hq
        subst hq
        simp at hi
        subst hi
        rw [hg] at hj
        cases j with
        |zero=>
         simp at hj
         subst hj
         have:=hcell i hlt
         rw [Nat.mul_one,Nat.add_zero,this.2]
         exact hf i hlt
        |succ j=>simp at hj
end
end Go.Am
end
section
namespace Go.Am
open Go Go.RowKit Go.Deep
variable [Tabs]
def CR (W:World) (zq:List AV) (vs:List Value):Prop:=
 zq.length=vs.length∧(∀v∈vs,v.oneCell'=true)∧∀(j:Nat) (a:AV),zq[j]? =some a→VR (C0 W) [] a (vs.getD j undef)
theorem CR.nil {W:World}:CR W [] []:=⟨rfl,by simp,by simp⟩
theorem CR.one {W:World} {a:AV} {V:Value} (h:VR (C0 W) [] a V) (ho:V.oneCell'=true):CR W [a] [V]:=by
 refine ⟨rfl,by simpa using ho,fun j b hj=> ?_⟩
 rcases j with _|j
 · simp at hj;subst hj;simpa using h
 · simp at hj
theorem CR.append {W:World} {zq bs:List AV} {vs ws:List Value} (h:CR W zq vs) (h2:CR W bs ws):CR W (zq++bs) (vs++ws):=by
 refine ⟨by simp [h.1,h2.1],fun v hv=> ?_,fun j a hj=> ?_⟩
 · rcases List.mem_append.1 hv with hv|hv
   · exact h.2.1 v hv
   · exact h2.2.1 v hv
 · rw [List.getElem?_append] at hj
   split at hj
   · rename_i hlt
     have:=h.2.2 j a hj
     rw [List.getD_eq_getElem?_getD,List.getElem?_append_left (by rw [←h.1];exact hlt), ←List.getD_eq_getElem?_getD]
     exact this
   · rename_i hlt
     have:=h2.2.2 _ a hj
     rw [List.getD_eq_getElem?_getD,List.getElem?_append_right (by rw [←h.1];omega), ←List.getD_eq_getElem?_getD, ←h.1]
     exact this
def AV.UT:AV→Bool
 | .sl .n _ _=>true
 | .sl _ _ _| .agg _| .bz _=>false
 |_=>true
def AV.aam:AV→Bool
 | .agg cs=>cs.all AV.UT
 |a=>a.UT
theorem TC.enc {w:World} {C:Nat→List Value} {a:AV} (h:a.aam=true) (v:Value):TC w C a v:=by
 have h1:∀(a:AV) (v:Value),a.UT=true→k8 a v:=by
  intro a v h
  cases a with
  |sl t k xs=>cases t<;>first|exact FQ .. |cases h
  |_=>first|(cases h;done)|(cases v<;>trivial)
 cases a with
 |agg cs=>
  cases v with
  |agg vs=>
   intro i a hi
   exact h1 a _ (List.all_eq_true.1 h a (List.mem_of_getElem? hi))
  |_=>trivial
 |sl t k xs=>cases t<;>first|(cases h;done)|(cases v<;>trivial)
 |_=>first|(cases h;done)|(cases v<;>trivial)
section
variable {H:Type} (enc:TypeId×Value→H) (P:Program) (W:World) (sp:Nat→Bool) (held:Bool)
def Op (t:TypeId) {A:Type} (f:A→AV):Prop:=∀n cs y,DataW.trod enc P W 0 sp held n t cs=some y→∃x:A,CR W (f x).cells cs
end
section
variable {H:Type} {enc:TypeId×Value→H} {P:Program} {W:World} {sp:Nat→Bool} {held:Bool}
theorem acH {t:TypeId} {k:IntKind} (ht:P.underlying t=some (.int k)):Op enc P W sp held t (XE k):=by
 intro n cs y h
 cases n with
 |zero=>simp [DataW.trod] at h
 |succ n=>
  rcases cs with _|⟨V,_|⟨V2,r⟩⟩
  · simp [DataW.trod,ht] at h
  · cases V<;>simp [DataW.trod,ht] at h
    rename_i k' z
    obtain ⟨⟨rfl,hw⟩, -⟩:=h
    exact ⟨z,CR.one (.int ..) rfl⟩
  · simp [DataW.trod,ht] at h
theorem ac5 {t:TypeId} (ht:P.underlying t=some (.int .u8)):Op enc P W sp held t b8:=by
 intro n cs y h
 cases n with
 |zero=>simp [DataW.trod] at h
 |succ n=>
  rcases cs with _|⟨V,_|⟨V2,r⟩⟩
  · simp [DataW.trod,ht] at h
  · cases V<;>simp [DataW.trod,ht] at h
    rename_i k' z
    obtain ⟨⟨rfl,hw⟩, -⟩:=h
    have hz:0≤z∧z≤255:=by
     simp [Lit.wf,IntKind.min,IntKind.max,IntKind.bits,IntKind.signed] at hw
     omega
    refine ⟨UInt8.ofNat z.toNat,CR.one ?_ rfl⟩
    have:((UInt8.ofNat z.toNat).toNat:Int)=z:=by simp [UInt8.toNat_ofNat];omega
    simp only [b8,this]
    exact .int ..
  · simp [DataW.trod,ht] at h
theorem acn {t:TypeId} (ht:P.underlying t=some .bool):Op enc P W sp held t AV.bool:=by
 intro n cs y h
 cases n with
 |zero=>simp [DataW.trod] at h
 |succ n=>
  rcases cs with _|⟨V,_|⟨V2,r⟩⟩
  · simp [DataW.trod,ht] at h
  · cases V<;>simp [DataW.trod,ht] at h
    exact ⟨_,CR.one (.bool ..) rfl⟩
  · simp [DataW.trod,ht] at h
theorem Xu {t:TypeId} (ht:P.underlying t=some .string):Op enc P W sp held t AV.str:=by
 intro n cs y h
 cases n with
 |zero=>simp [DataW.trod] at h
 |succ n=>
  rcases cs with _|⟨V,_|⟨V2,r⟩⟩
  · simp [DataW.trod,ht] at h
  · cases V<;>simp [DataW.trod,ht] at h
    rename_i s
    refine ⟨s.data.toList,CR.one ?_ rfl⟩
    have:s=⟨s.data.toList.toArray⟩:=by cases s;simp
    have h2:=VR.str (C:=C0 W) [] s.data.toList
    rwa [←this] at h2
  · simp [DataW.trod,ht] at h
theorem Kg {A:Type} {p:Nat→A→Prop}:∀(n:Nat),(∀i,i<n→∃x,p i x)→∃xs:List A,xs.length=n∧∀(i:Nat) (x:A),xs[i]? =some x→p i x:=by
 intro n
 induction n with
 |zero=>intro _;exact ⟨[],rfl,by simp⟩
 |succ n ih=>
  intro h
  obtain ⟨xs,h1,h2⟩:=ih fun i hi=>h i (by omega)
  obtain ⟨x,hx⟩:=h n (by omega)
  refine ⟨xs++[x],by simp [h1],fun i y hy=> ?_⟩
  rw [List.getElem?_append] at hy
  split at hy
  · exact h2 i y hy
  · rename_i hlt
    have:i=n:=by
     have:=(List.getElem?_eq_some_iff.1 hy).1
     simp at this;omega
    subst this
    rw [h1] at hy;simp at hy;subst hy;exact hx
theorem ac6 {t e:TypeId} {k:Nat} {A:Type} {f:A→AV} (ht:P.underlying t=some (.slice e)) (hk:P.cellsOf e=k) (hk0:0<k) (hop:Op enc P W sp held e f) (hf:∀x,(f x).cells.length=k):
 Op enc P W sp held t (fun xs:List A=>AV.sl .n k (ml f xs)):=by
 intro n cs y h
 rcases open_slice ht h with ⟨rfl, -⟩|⟨a,len,cap,m,fu,D,Pl,rfl,hb,hl,hm,Ed, -,hx⟩
 · exact ⟨[],CR.one (.rM ..) rfl⟩
 have hlm:len≤m:=by rw [Ed];split<;>omega
 by_cases h0:len=0
 · subst h0;exact ⟨[],CR.one (.rM ..) rfl⟩
 subst hk
 have hel:∀i,i<len→∃x:A,∃cs',W.cells? 0 (a.add (i*P.cellsOf e)) (P.cellsOf e)=some cs'∧CR W (f x).cells cs':=fun i hi=>by
  obtain ⟨cs',h1,h2⟩:=hx i (by omega)
  obtain ⟨x,hc⟩:=hop _ _ _ h2
  exact ⟨x,cs',h1,hc⟩
 have hsp:a.spot=none:=by
  obtain ⟨x,cs',h1,hc⟩:=hel 0 (by omega)
  obtain ⟨-,h2,h3⟩:=World.cells?_some h1
  have h4:=h3 0 hk0
  have h5:(a.add (0*P.cellsOf e)).add 0=a:=by simp [Addr.add]
  rw [h5,List.getElem?_eq_getElem (by omega)] at h4
  unfold World.cell? at h4
  split at h4
  · split at h4
    · cases h4
    · rename_i hq;cases hs:a.spot<;>simp_all
  · cases h4
 obtain ⟨b,o,s⟩:=a
 simp only at hsp
 subst hsp
 obtain ⟨xs,hlen,hxs⟩:=Kg len hel
 have hcell:∀(i:Nat) (x:A),xs[i]? =some x→∃cs',CR W (f x).cells cs'∧cs'.length=P.cellsOf e∧∀j,j<P.cellsOf e→o+i*P.cellsOf e+j<(C0 W b).length∧(C0 W b).getD (o+i*P.cellsOf e+j) undef=cs'.getD j undef:=fun i x hi=>by
  obtain ⟨cs',h1,hc⟩:=hxs i x hi
  obtain ⟨-,h2,h3⟩:=World.cells?_some h1
  refine ⟨cs',hc,h2,fun j hj=> ?_⟩
  have h4:=h3 j hj
  rw [add_add,add_eq,List.getElem?_eq_getElem (by omega)] at h4
  have:=Kf h4
  rw [Nat.add_assoc,List.getD_eq_getElem?_getD (l:=cs'),List.getElem?_eq_getElem (by omega)]
  exact this
 refine ⟨xs,CR.one (.sl _ _ _ _ _ _ _ _ (by rw [Ga,hlen]) hl (fun i a hi=> ?_) ?_ (fun q h1 h2=> ?_) fun i a hi j y hj=> ?_) rfl⟩
 · rw [ml,List.getElem?_map] at hi
   cases hr:xs[i]? with
   |none=>rw [hr] at hi;simp at hi
   |some x=>rw [hr] at hi;simp at hi;subst hi;exact hf x
 · have Kw:len - 1<xs.length:=by omega
   obtain ⟨cs', -, -,h3⟩:=hcell (len - 1) _ (List.getElem?_eq_getElem Kw)
   have:=(h3 (P.cellsOf e - 1) (by omega)).1
   have h5:len*P.cellsOf e=(len - 1)*P.cellsOf e+P.cellsOf e:=by
    conv=>lhs;rw [show len=(len - 1)+1 by omega,Nat.succ_mul]
   omega
 · have hq:q - o<len*P.cellsOf e:=by omega
   have hi:(q - o) / P.cellsOf e<len:=Nat.div_lt_of_lt_mul (by rw [Nat.mul_comm];exact hq)
   have hj:(q - o) % P.cellsOf e<P.cellsOf e:=Nat.mod_lt _ hk0
   obtain ⟨cs',hc,h2,h3⟩:=hcell ((q - o) / P.cellsOf e) _ (List.getElem?_eq_getElem (by omega))
   have h4:=(h3 _ hj).2
   have h5:o+(q - o) / P.cellsOf e*P.cellsOf e+(q - o) % P.cellsOf e=q:=by
    have:=Nat.div_add_mod (q - o) (P.cellsOf e)
    rw [Nat.mul_comm] at this
    omega
   rw [h5] at h4
   rw [h4,List.getD_eq_getElem?_getD,List.getElem?_eq_getElem (by omega)]
   exact hc.2.1 _ (List.getElem_mem ..)
 · rw [ml,List.getElem?_map] at hi
   cases hr:xs[i]? with
   |none=>rw [hr] at hi;simp at hi
   |some x=>
    rw [hr] at hi;simp at hi;subst hi
    obtain ⟨cs',hc,h2,h3⟩:=hcell i x hr
    have hjl:j<P.cellsOf e:=by rw [←hf x];exact (List.getElem?_eq_some_iff.1 hj).1
    rw [(h3 j hjl).2]
    exact hc.2.2 j y hj
theorem aan {t:TypeId} {fs:Array Field} {A:Type} {f:A→AV} (ht:P.underlying t=some (.struct fs))
 (hb:∀cs:List Value,cs.length=P.cellsOf t→(∀(i:Nat) (fl:Field),fs[i]? =some fl→∃n y,DataW.trod enc P W 0 sp held n fl.type ((cs.drop fl.offset).take (P.cellsOf fl.type))=some y)→∃x,CR W (f x).cells cs):
 Op enc P W sp held t f:=by
 intro n cs y h
 obtain ⟨xs,m, -, -,hl,hlen,hf⟩:=DataW.trod_struct ht h
 refine hb cs hl fun i fl hfl=> ?_
 have hlt:i<xs.length:=by rw [hlen];exact (Array.getElem?_eq_some_iff.1 hfl).1
 exact ⟨m,xs[i],by rw [hf i fl hfl,List.getElem?_eq_getElem hlt]⟩
theorem seg {cs:List Value} {o k:Nat}:(cs.drop o).take k++cs.drop (o+k)=cs.drop o:=by
 rw [←List.drop_drop,List.take_append_drop]
theorem Op.arg1 {t:TypeId} {A:Type} {f:A→AV} (hop:Op enc P W sp held t f) (hf:∀x,(f x).cells=[f x]) {v:Value} {d:DataW H} {ps:List MemPlace} {r:Reach} {base:Nat} (hs:∀cs,¬Value.okWide P W r base t (.agg cs))
 (hval:Value.okWide P W r base t v) (h:DataW.Trod enc P W 0 sp held t v d ps):∃x,VR (C0 W) [] (f x) v:=by
 obtain ⟨fuel,h⟩:=h
 obtain ⟨x,h1, -,h3⟩:=hop _ _ _ h
 rw [hf] at h1 h3
 have hc:v.cells.toList=[v]:=by
  cases v with
  |agg cs=>exact absurd hval (hs cs)
  |_=>rfl
 rw [hc] at h3
 exact ⟨x,by simpa using h3 0 (f x) rfl⟩
theorem Op.adt {t:TypeId} {A:Type} {f:A→AV} (hop:Op enc P W sp held t f) {fs:Array Field} (ht:P.underlying t=some (.struct fs)) (hf:∀x,f x= .agg (f x).cells) {v:Value} {d:DataW H} {ps:List MemPlace} {r:Reach} {base:Nat}
 (hval:Value.okWide P W r base t v) (h:DataW.Trod enc P W 0 sp held t v d ps):∃x,VR (C0 W) [] (f x) v:=by
 obtain ⟨fuel,h⟩:=h
 obtain ⟨x,h1, -,h3⟩:=hop _ _ _ h
 unfold Value.okWide at hval
 rw [ht] at hval
 obtain ⟨cs,rfl, -, -⟩:=hval
 refine ⟨x, ?_⟩
 rw [hf x]
 refine .agg _ _ _ (by simpa [Value.cells] using h1) fun i a hi=> ?_
 have:=h3 i a hi
 simpa [Value.cells,Array.getD_eq_getD_getElem?,List.getD_eq_getElem?_getD] using this
theorem aao {t:TypeId} {k:IntKind} {r:Reach} {base:Nat} (ht:P.underlying t=some (.int k)) (cs:Array Value):¬Value.okWide P W r base t (.agg cs):=by
 simp [Value.okWide,Cell.okWide,Cell.ok,ht]
theorem XY {t:TypeId} {r:Reach} {base:Nat} (ht:P.underlying t=some .bool) (cs:Array Value):¬Value.okWide P W r base t (.agg cs):=by
 simp [Value.okWide,Cell.okWide,Cell.ok,ht]
theorem MW {t:TypeId} {r:Reach} {base:Nat} (ht:P.underlying t=some .string) (cs:Array Value):¬Value.okWide P W r base t (.agg cs):=by
 simp [Value.okWide,Cell.okWide,Cell.ok,ht]
theorem aaA {t e:TypeId} {r:Reach} {base:Nat} (ht:P.underlying t=some (.slice e)) (cs:Array Value):¬Value.okWide P W r base t (.agg cs):=by
 simp [Value.okWide,Cell.okWide,Cell.ok,ht]
theorem D8 {ts:List TypeId} (hl:laidOutB P=true) {W W':World} (hb:Below W.heap.size W W'):∀ {vs:List Value} {ds:List (DataW H)} {ps:List MemPlace},(∀t∈ts,P.readableRec t=true∧t<P.types.size)→
 DataW.TrodAll enc P W 0 (fun _=>true) true ts vs ds ps→(∀x∈ps,x.block<W.heap.size)→DataW.TrodAll enc P W' 0 (fun b=>decide (b<W.heap.size)) true ts vs ds ps:=by
 induction ts with
 |nil=>
  intro vs ds ps _ h _
  cases vs<;>cases ds<;>simp [DataW.TrodAll] at h ⊢
  exact h
 |cons t ts ih=>
  intro vs ds ps ht h hlt
  cases vs<;>cases ds<;>simp only [DataW.TrodAll] at h ⊢
  obtain ⟨p,q,h1,h2,rfl⟩:=h
  exact ⟨p,q,Below.trod hl (ht t (by simp)).1 (ht t (by simp)).2 h1 hb (fun x hx=>hlt x (by simp [hx])),ih (fun t h=>ht t (by simp [h])) h2 (fun x hx=>hlt x (by simp [hx])),rfl⟩
end
end Go.Am
end
section
namespace Go.Proofs.YtboghagbiokafaaGreatDoor
open Go.ChangeShapes Go.WideShapes Go.ChangeAt Go.RowKit Go.Am Go.Proofs.cY
theorem Own.own:ownKnob Tryz.prog.godebug=none:=by kernel_rfl
theorem Own.laidOut:laidOutB Tryz.prog=true:=by kernel_rfl
def tH:List (String×DataW Unit):=[("math/bits.deBruijn32tab",Rows.laid_math_bits_deBruijn32tab),("math/bits.deBruijn64tab",Rows.laid_math_bits_deBruijn64tab),("internal/strconv.uint64pow10",Rows.laid_internal_strconv_uint64pow10),("unicode/utf8.acceptRanges",Rows.laid_unicode_utf8_acceptRanges),("strconv.ErrRange",Rows.laid_strconv_ErrRange),("strconv.ErrSyntax",Rows.laid_strconv_ErrSyntax),("unicode/utf8.first",Rows.laid_unicode_utf8_first)]
noncomputable def yM (os:Os):World:=
 {World.doorLaid Tryz.prog 4000 os with heap:=(World.doorLaid Tryz.prog 4000 os).heap.modify 2 fun
  | .cells _ t fr=> .cells (Go.Pinned.utf8FirstZ.map fun n:Nat=>Value.int .u8 (n:Int)).toArray t fr
  |o=>o}
set_option maxRecDepth 100000 in
theorem Rd (os:Os) (args:Array Value):laidMetH Tryz.prog tH ((yM os).forCall (fun _ _=>0) ⟨#[],args,[]⟩).memory:=
 laidMetH_of_parts3 (fuel:=8) (laidMet_of_run' 8 (by kernel_rfl) (by kernel_rfl)) (by kernel_rfl) (by kernel_rfl)
set_option maxRecDepth 100000 in
theorem HG (os:Os) (args:Array Value):((yM os).forCall (fun _ _=>0) ⟨#[],args,[]⟩).Shaped Tryz.prog:=World.shaped_of_RefB (by kernel_rfl) (by kernel_rfl)
end Go.Proofs.YtboghagbiokafaaGreatDoor
end
section
namespace Go.Proofs.YtboghagbiokafaaGreatDoor
open Go.ChangeShapes Go.WideShapes Go.ChangeAt Go.RowKit Go.Am Go.Proofs.cY
theorem FD {t:TypeId} {ms:Array (String×TypeId)} (ht:Tryz.prog.underlying t=some (.interface ms)) {H:Type} {enc:TypeId×Value→H} {W:World} {sp:Nat→Bool} {held:Bool} {fuel:Nat} {cs:List Value} {y:DataW H×List MemPlace}
 (h:DataW.trod enc Tryz.prog W 0 sp held fuel t cs=some y):∃ev,cs=[ev]∧(ev= .nilIface∨∃te pe,ev= .iface te pe):=by
 cases fuel with
 |zero=>simp [DataW.trod] at h
 |succ n=>
  rcases cs with _|⟨v,_|⟨v2,r⟩⟩
  · simp [DataW.trod,ht] at h
  · cases v<;>first|exact ⟨_,rfl, .inl rfl⟩|exact ⟨_,rfl, .inr ⟨_,_,rfl⟩⟩|(exfalso;simp [DataW.trod,ht] at h)
  · cases v<;>simp [DataW.trod,ht] at h
theorem yN {W:World} {name:String} {g:Nat} {cs:Array Value} (hg:Tryz.prog.globalNamed name=some g) (h:W.var? Tryz.prog name=some cs):∃t fr,W.heap[g]? =some (.cells cs t fr):=by
 simp only [World.var?,hg,Option.bind_some] at h
 split at h
 · rename_i c t fr hb
   injection h with h
   subst h
   exact ⟨t,fr,hb⟩
 · cases h
theorem MX {W:World} (hs:W.ShapedOpen Tryz.prog) (h:laidMetH Tryz.prog tH W):∀e∈Tabs.l,∃cs ty fr,W.heap[e.1]? =some (.cells cs ty fr)∧e.2 cs:=by
 rw [MakeChecks.laidMetH_plain _ _ _ (by kernel_rfl)] at h
 obtain ⟨ps,⟨g0,t0,cs0,f0,p0,q0,Vo,ht0,hv0,hd0,⟨g1,t1,Vs,f1,p1,q1,Vy,ht1,hv1,hd1,⟨g2,t2,cs2,f2,p2,q2,RR,ht2,Ec,Ie,⟨g3,t3,cs3,f3,p3,q3,hg3,ht3,hv3,hd3,⟨g4,t4,cs4,f4,p4,q4,hg4,ht4,hv4,hd4,⟨g5,t5,cs5,f5,p5,q5,hg5,ht5,hv5,hd5,_,_⟩,_⟩,_⟩,_⟩,_⟩,_⟩,_⟩:=h
 intro e he
 simp only [Tabs.l,List.mem_cons,List.mem_nil_iff,or_false] at he
 rcases he with rfl|rfl|rfl|rfl
 · obtain ⟨cs,hh,hsz, -⟩:=hs.1 0 #[.int .i64 0] 3 (of_decide_eq_true (by kernel_rfl)) (by kernel_rfl)
   obtain ⟨m,hm⟩:=cell_of_shapedOpen_int (g:=0) (t:=3) (k:= .i64) (zero:= #[.int .i64 0]) hs (of_decide_eq_true (by kernel_rfl)) (by kernel_rfl) rfl (by kernel_rfl) (by kernel_rfl) (by kernel_rfl)
   refine ⟨cs,_,_,hh,m, ?_⟩
   have h1:cs.size=1:=hsz
   apply Array.ext
   · exact h1
   · intro i hi _
     have:i=0:=by omega
     subst this
     simpa [World.cell?,hh,h1] using hm
 · have hg:Tryz.prog.globalNamed "internal/strconv.uint64pow10" =some 1:=by kernel_rfl
   obtain rfl:=Option.some.inj (hg.symm.trans RR)
   obtain rfl:=Option.some.inj ((show (Tryz.prog.globals[1]?).map (·.type)=some 113 by kernel_rfl).symm.trans ht2)
   have hc:cs2.toList=Lib.pow10Tab.map fun z=>Value.int .u64 z:=Lib.cells_of_tab (n:=20) (e:=68) (k:= .u64) Tryz.underlying113 (by kernel_rfl) (by kernel_rfl) (by kernel_rfl) Ie
   obtain ⟨t,fr,hb⟩:=yN hg Ec
   refine ⟨cs2,t,fr,hb, ?_⟩
   simp only [←hc,Array.toArray_toList]
 · have hg:Tryz.prog.globalNamed "strconv.ErrSyntax" =some 4:=by kernel_rfl
   obtain rfl:=Option.some.inj (hg.symm.trans hg5)
   obtain rfl:=Option.some.inj ((show (Tryz.prog.globals[4]?).map (·.type)=some 77 by kernel_rfl).symm.trans ht5)
   obtain ⟨ev,he,hev⟩:=FD Tryz.underlying77 hd5
   obtain ⟨t,fr,hb⟩:=yN hg hv5
   exact ⟨cs5,t,fr,hb,ev,by rw [←Array.toArray_toList (xs:=cs5),he],hev⟩
 · have hg:Tryz.prog.globalNamed "strconv.ErrRange" =some 5:=by kernel_rfl
   obtain rfl:=Option.some.inj (hg.symm.trans hg4)
   obtain rfl:=Option.some.inj ((show (Tryz.prog.globals[5]?).map (·.type)=some 77 by kernel_rfl).symm.trans ht4)
   obtain ⟨ev,he,hev⟩:=FD Tryz.underlying77 hd4
   obtain ⟨t,fr,hb⟩:=yN hg hv4
   exact ⟨cs4,t,fr,hb,ev,by rw [←Array.toArray_toList (xs:=cs4),he],hev⟩
section
variable {H:Type} {enc:TypeId×Value→H}
theorem A9 {a:Assume} {C:Checked} {os:Os} {f:FuncId} {fn:Func} {s:ChangeSpec} {conds:List PathCond} {apart fresh handsOn again:Bool} {X:World→Array Value→Prop}
 (hX:∀(w w':World) (args:Array Value),w.heap=w'.heap→X w args→X w' args)
 (own:ownKnob C.prog.godebug=none) (started:os.Started) (noInit:C.prog.inits.idxOf? f=none) (hfn:C.prog.funcs[f]? =some fn)
 (witness:∃(w:World) (tape:Tape) (i:Input),w.os=os∧(w.forCall tape i).Shaped C.prog∧i.vars=[]∧Input.okWide C.prog (w.forCall tape i) .any w.heap.size f i∧
  ((s.pre enc C.prog fn conds apart (w.forCall tape i).memory i.args∧X (w.forCall tape i).memory i.args)∧sizedMet enc C.prog fn (OpenSpec.ofChange s) apart (w.forCall tape i).memory i.args)∧a.holds C.prog (lone (Frame.enter C.prog f i.args .normal) [] (w.forCall tape i)))
 (contract:∀(W:World) (base:Nat) (args:Array Value) (ds gs:List (DataW H)) (before:List MemPlace),
  (∀(j:Nat) t v,fn.params[j]? =some t→args[j]? =some v→Value.okWide C.prog W .any base t v)→
  DataW.Whole enc C.prog fn.params.toList s.vars apart W args.toList ds gs before→W.ShapedOpen C.prog→X W args→
  Calls C.prog f args W fun e W'=>∃v,e= .returned v∧s.post enc C.prog fn apart fresh handsOn again W args v W'):
 ReturnsInHanded a C os f .any (fun w args=>(s.pre enc C.prog fn conds apart w args∧X w args)∧sizedMet enc C.prog fn (OpenSpec.ofChange s) apart w args) (s.post enc C.prog fn apart fresh handsOn again):=by
 refine returnsInHanded_of_calls own started noInit witness ?_
 rintro w tape i - Xv - ⟨-, -, -,fn2,aco, -, -, -, -,aap⟩ ⟨⟨⟨ds,gs,before,Xw, -⟩,hx⟩, -⟩ -
 obtain rfl:fn2=fn:=Option.some.inj (aco.symm.trans hfn)
 refine (contract (w.forCall tape i) _ i.args ds gs before aap (DataW.Whole.of_heap (w':=w.forCall tape i) (by rfl) Xw) Xv (hX _ _ _ (by rfl) hx)).mono ?_
 rintro e W' ⟨v,rfl,hp⟩
 exact ChangeSpec.post_blind hp
end
theorem acp {P:Program} {W:World} {r:Reach} {base:Nat} {t:TypeId} {k:IntKind} (ht:P.underlying t=some (.int k)) {C:Nat→List Value} {γ:List Nat} {x:Int} {v:Value} (hv:VR C γ (.int k x) v) (h:Value.okWide P W r base t v):k.has x:=by
 obtain rfl:=hv.cQ
 unfold Value.okWide at h
 rw [ht] at h
 unfold Cell.okWide Cell.ok at h
 rw [ht] at h
 exact h.2
end Go.Proofs.YtboghagbiokafaaGreatDoor
end
section
namespace Go.Proofs.YtboghagbiokafaaGreatDoor
open Go.ChangeShapes Go.WideShapes Go.ChangeAt Go.RowKit Go.Am Go.Proofs.cY
set_option maxRecDepth 100000 in
theorem Ba (os:Os) (started:os.Started) (H:Type) (enc:TypeId×Value→H):
 ReturnsInHanded {} Tryz.checked os 3 .any (fun w args=>(Rows.cmdTextsSpec.pre enc Tryz.prog Tryz.f3 [] false w args∧laidMetH Tryz.prog tH w)∧sizedMet enc Tryz.prog Tryz.f3 (OpenSpec.ofChange Rows.cmdTextsSpec) false w args) (Rows.cmdTextsSpec.post enc Tryz.prog Tryz.f3 false true false false):=by
 refine A9 (C:=Tryz.checked) (X:=fun w _=>laidMetH Tryz.prog tH w) (fun _ _ _ hh h=>h.of_heap hh) Own.own started (by kernel_rfl) Tryz.func3
  (ChangeSpec.witness_shaped (enc:=enc) (C:=Tryz.checked) (os:=os) (X:=fun w _=>laidMetH Tryz.prog tH w) false (yM os) #[.string ⟨#[]⟩] 8 rfl (HG os _) (by kernel_rfl) (by kernel_rfl) (by kernel_rfl) (Rd os _)) ?_
 intro W base args ds gs before aaq hW hS hL
 have hval:∀(j:Nat) t v,Tryz.f3.params[j]? =some t→args[j]? =some v→Value.okWide Tryz.prog W .any base t v:=aaq
 have hW':=hW
 obtain ⟨p,q,hA0,hV,rfl,hfz,hnd⟩:=hW
 have hA:DataW.TrodAll enc Tryz.prog W 0 (fun _=>true) true Tryz.f3.params.toList args.toList ds p:=hA0
 have hA1:=hA
 rw [Tryz.params3] at hA hval
 obtain ⟨vs,hvs⟩:∃vs,vs=args.toList:=⟨_,rfl⟩
 rw [←hvs] at hA
 obtain ⟨v0,vs0,d0,ds0,p0,q0,e0,rfl,rfl,h0,hA⟩:=trodAll_cons hA
 obtain ⟨e1,rfl,rfl⟩:=trodAll_nil hA
 have hargs:args= #[v0]:=by
  apply Array.ext';rw [←hvs,e0,e1]
 subst hargs
 obtain ⟨rfl,rfl⟩:=trodVars_none hV
 obtain ⟨x0,a0⟩:=Op.arg1 (f:=AV.str) (Xu (by kernel_rfl)) (fun _=>rfl) (fun cs=>MW (by kernel_rfl) cs) (hval 0 9 v0 rfl rfl) h0
 have hlt:∀x∈p0++([]),x.block<W.heap.size:=fun x hx=>hW'.lt x (by simpa using hx)
 obtain ⟨F,hF⟩:=E7 x0
 refine ((yL (H0:=[]) hF).row (vs:= #[v0]) (MX hS hL) rfl ?_).mono ?_
 · intro i x hi
   rcases i with _|i
   · simp at hi;subst hi;exact ⟨a0,TC.enc (by rfl) _,rfl⟩
   · simp at hi
 · rintro e W' ⟨r,v,aE,γ',C',rfl,⟨rfl,rfl⟩,hv,hb⟩
   have hv:=hv.gq
   subst hv
   refine ⟨_,rfl,_,_,_,[],p0++([]),[],hW', ?_, ?_, ?_,hb.frame _,fun h=>by cases h⟩
   · exact trodAll_mk1 (shut_bool (by kernel_rfl) true)
   · exact D8 Own.laidOut hb (of_decide_eq_true (by kernel_rfl)) hA1 hlt
   · exact rfl
theorem Cc:Rows.CmdTextsSaid:=
 OpenClaim.holds_of_wide 3 Tryz.f3 rfl rfl rfl rfl rfl rfl rfl ⟨rfl,rfl,rfl,rfl,rfl⟩ rfl rfl rfl rfl rfl (by kernel_rfl) Tryz.func3 (by kernel_rfl)
  (of_decide_eq_true (by kernel_rfl)) (by unfold Func.isWrapper;first|(rw [if_pos (by decide+kernel)];kernel_rfl)|(rw [if_neg (by decide+kernel)];exact ⟨rfl,rfl⟩))
  (fun os started H enc _=>Ba os started H enc)
theorem cmdTexts_tied:Rows.CmdTextsCardSaid:=
 Claim7.holds_tied_plain_at .later [] [.data, .data, .data, .data, .sentinel, .sentinel, .pinned] true Rows.cmdTextsCard.stood.harness true
  Cc (fun _ h=>by cases h) (by kernel_rfl) (fun _ h=>by cases h) cmdTexts_row_tie rfl ⟨rfl,rfl⟩ (by kernel_rfl) rfl
  (fun f fn hf hfn=>by
   obtain rfl:f=3:=Option.some.inj ((show Tryz.prog.funcNamed Rows.cmdTextsRow.func=some 3 by kernel_rfl).symm.trans hf) |>.symm
   obtain rfl:fn=Tryz.f3:=(Option.some.inj (Tryz.func3.symm.trans hfn)).symm
   exact ⟨by kernel_rfl,fun j t ht=>by
    rw [Tryz.params3] at ht
    have hm:t∈[9]:=by have:=Array.mem_of_getElem? ht;simpa using this
    have hall:([9].all fun u=> !Tryz.prog.wantsStandIn u)=true:=by kernel_rfl
    exact (show Tryz.prog.wantsStandIn t=false by simpa using List.all_eq_true.1 hall t hm)⟩)
  (by kernel_rfl)
end Go.Proofs.YtboghagbiokafaaGreatDoor
end
