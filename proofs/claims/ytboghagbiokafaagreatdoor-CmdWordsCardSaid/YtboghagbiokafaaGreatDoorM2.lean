import Derived.Test.YtboghagbiokafaaGreatDoorM1
import Derived.Scope
import Derived.Lib.SlBytesConst
import Derived.OrdersHeld
set_option linter.unusedSimpArgs false
set_option linter.unusedVariables false
set_option linter.unusedSectionVars false
set_option linter.defProp false
section
namespace Go.Am
open Go
variable [Tabs]
section
variable {P:Program} {L:List Nat} {N:Nat} {F:Nat→Prop} {γ:List Nat} {C C':Nat→List Value} {e:Env} {ah:AH} {ts:Array Value} {ds:List Deferred} {w w':World} {m:Bool}
variable {e':Env} {aE:AH}
def fc.mY:fc→Bool
 | .call _ _=>true
 | .kB _ _ _ _=>true
 | .nq _ _=>true
 |_=>false
theorem Ke {o:Oper} {op:fc} (h:SR L N F γ C e ah ts w) (hd:∀x,o.dst=some x→x<N) (hc:cop P o=some op) (eA:op.mY=false)
 (hm:m=true∨((∀x n,op≠ .ld x n)∧∀x,op≠ .jH .bs x))
 (hev:bH L ⟨o.dst,op,none⟩ e ah=some (e',aE)):bp m P L N F γ C o ts ds w e' aE:=by
 obtain ⟨d,o,ty,pos,af,g⟩:=o
 simp only at hd hev
 cases o with
 |move x=>
  simp only [cop,Option.map_eq_some_iff] at hc
  obtain ⟨a,ha,rfl⟩:=hc
  simp only [bH,Option.some.injEq,Prod.mk.injEq] at hev
  obtain ⟨rfl,rfl⟩:=hev
  exact Xu h hd ha
 |assign x=>
  simp only [cop,Option.map_eq_some_iff] at hc
  obtain ⟨a,ha,rfl⟩:=hc
  exact Uf h hd ha hev
 |pick c a b=>
  simp only [cop] at hc
  split at hc
  · rename_i c' a' b' h1 h2 h3
    injection hc with hc;subst hc
    exact QJ h hd h1 h2 h3 hev
  · cases hc
 |alloc t=>
  simp only [cop,Option.map_eq_some_iff] at hc
  obtain ⟨a,ha,rfl⟩:=hc
  exact Nv h hd ha hev
 |box t x=>
  simp only [cop,Option.map_eq_some_iff] at hc
  obtain ⟨a,ha,rfl⟩:=hc
  exact UA h hd ha hev
 |build t parts=>
  simp only [cop] at hc
  split at hc
  case h_3=>cases hc
  case h_2=>
   rename_i mm el hu
   split at hc
   case h_2=>cases hc
   rename_i z ps hz hp
   split at hc
   case isFalse=>cases hc
   rename_i hall
   split at hc
   · rename_i iw
     simp only [Option.map_eq_some_iff] at hc
     obtain ⟨z',hz',rfl⟩:=hc
     refine Ct h hd hu hz hp hall ?_
     rw [←hev]
     simp only [bH]
     rw [HL e ps z iw,hz']
     rfl
   · injection hc with hc;subst hc
     exact Ct h hd hu hz hp hall hev
  rename_i fs hu
  split at hc
  case h_2=>cases hc
  rename_i z ps hz hp
  split at hc
  case isFalse=>cases hc
  rename_i hall
  injection hc with hc;subst hc
  exact NB h hd hu hz hp hall hev
 |buildSlice t n parts=>
  simp only [cop] at hc
  split at hc
  case h_2=>cases hc
  rename_i el hel
  split at hc
  case isFalse=>cases hc
  rename_i hh
  obtain ⟨h1,h2,h3⟩:=hh
  simp only [Option.map_eq_some_iff] at hc
  obtain ⟨zq,ha,rfl⟩:=hc
  refine UL h hd ?_ h1 h2 h3 ha hev
  unfold DY at hel
  split at hel
  · rename_i e hu;injection hel with hel;subst hel;exact hu
  · cases hel
 |load t x=>
  simp only [cop] at hc
  split at hc
  case isFalse=>cases hc
  rename_i ht
  simp only [Option.map_eq_some_iff] at hc
  obtain ⟨a,ha,rfl⟩:=hc
  obtain rfl:m=true:=hm.resolve_right (fun h=>h.1 _ _ rfl)
  exact Xw h hd ha ht hev
 |store t a x=>
  simp only [cop] at hc
  split at hc
  case h_2=>cases hc
  rename_i a' x' ha hx
  split at hc
  case isFalse=>cases hc
  rename_i ht
  simp only [Bool.and_eq_true,Option.isNone_iff_eq_none] at ht
  obtain ⟨ht,rfl⟩:=ht
  injection hc with hc;subst hc
  exact XF h ha hx ht hev
 |nilCheck x=>
  simp only [cop,Option.map_eq_some_iff] at hc
  obtain ⟨a,ha,rfl⟩:=hc
  exact Ug h hd ha hev
 |fieldAddr t x f=>
  simp only [cop] at hc
  split at hc
  case h_2=>cases hc
  rename_i x' fd hx hf
  split at hc
  case isTrue=>cases hc
  rename_i hs
  injection hc with hc;subst hc
  exact Uh h hd hx hf hs hev
 |field t x f=>
  simp only [cop] at hc
  split at hc
  case h_2=>cases hc
  rename_i x' fd hx hf
  split at hc
  case isFalse=>cases hc
  rename_i hs
  injection hc with hc;subst hc
  exact QL h hd hx hf hs hev
 |binOp UN t x y n4=>
  simp only [cop] at hc
  split at hc
  case h_3=>cases hc
  case h_2=>
   rename_i x' hx hy
   split at hc
   · rename_i ms hu
     injection hc with hc;subst hc;exact Q2 h hd hx hu rfl hev
   · rename_i ms hu
     injection hc with hc;subst hc;exact Q2 h hd hx hu rfl hev
   · injection hc with hc;subst hc;cases eA
   · injection hc with hc;subst hc;cases eA
   · cases hc
  rename_i x' y' hx hy
  split at hc
  · rename_i fs hu
    split at hc
    case h_2=>cases hc
    rename_i ks hk
    split at hc
    · injection hc with hc;subst hc;exact MD h hd hx hy hu hk rfl hev
    · injection hc with hc;subst hc;exact MD h hd hx hy hu hk rfl hev
    · cases hc
  · injection hc with hc;subst hc;exact MC h hd hx hy hev
  · injection hc with hc;subst hc;exact MC h hd hx hy hev
  · rename_i hu
    split at hc
    · injection hc with hc;subst hc;exact QM h hd hx hy hu rfl hev
    · injection hc with hc;subst hc;exact QM h hd hx hy hu rfl hev
    · cases hc
  · rename_i u hu
    split at hc
    · injection hc with hc;subst hc;exact QN h hd hx hy hu rfl hev
    · injection hc with hc;subst hc;exact QN h hd hx hy hu rfl hev
    · cases hc
  · cases hc
 |unOp UN t x=>
  simp only [cop,Option.map_eq_some_iff] at hc
  obtain ⟨a,ha,rfl⟩:=hc
  exact Xx h hd ha hev
 |convert s t x=>
  simp only [cop] at hc
  split at hc
  case h_2=>cases hc
  rename_i hh x' mZ hx
  injection hc with hc;subst hc
  exact UB h hd hx mZ (hm.imp id fun q=>by rintro rfl;exact q.2 _ rfl) hev
 |makeFunc fn first cs=>
  cases fn with
  |func f=>
   simp only [cop] at hc
   split at hc
   case isFalse=>cases hc
   rename_i hf
   simp only [Option.map_eq_some_iff] at hc
   obtain ⟨a,ha,rfl⟩:=hc
   exact Uo h hd hf ha hev
  |_=>simp [cop] at hc
 |slice t x lo hi mx=>
  simp only [cop] at hc
  split at hc
  case h_2=>cases hc
  rename_i x' lo' hi' XA hx hlo hhi Nu
  split at hc
  · rename_i hu
    split at hc
    · injection hc with hc;subst hc
      have:mx=none:=by
       cases mx with
       |none=>rfl
       |some y=>simp only [nX] at Nu;cases hy:bw y<;>rw [hy] at Nu<;>simp at Nu
      subst this
      exact Uw h hd hx hlo hhi hu hev
    · cases hc
  · rename_i el hu
    split at hc
    case isFalse=>cases hc
    rename_i ht
    injection hc with hc;subst hc
    exact Ux h hd hx hlo hhi Nu hu ht hev
  · cases hc
 |indexAddr t x i=>
  simp only [cop] at hc
  split at hc
  case h_3=>cases hc
  case h_2=>
   rename_i x' i' hel hx hi
   split at hc
   case h_2=>cases hc
   rename_i mm el hu
   split at hc
   case isFalse=>cases hc
   rename_i ht
   injection hc with hc;subst hc
   exact Ut h hd hx hi hu ht hev
  rename_i el x' i' hel hx hi
  split at hc
  case isFalse=>cases hc
  rename_i ht
  injection hc with hc;subst hc
  unfold DY at hel
  split at hel
  · rename_i e hu;injection hel with hel;subst hel;exact Us h hd hx hi hu ht hev
  · cases hel
 |index t x i=>
  simp only [cop] at hc
  split at hc
  case h_2=>cases hc
  rename_i x' i' hu hx hi
  injection hc with hc;subst hc
  exact Ur h hd hx hi hu hev
 |extract x i=>
  simp only [cop,Option.map_eq_some_iff] at hc
  obtain ⟨a,ha,rfl⟩:=hc
  exact Up h hd ha hev
 |call c=>
  obtain ⟨callee,args,argTypes⟩:=c
  simp only [cop] at hc
  split at hc
  · rename_i x t h1 h2
    have e1:args= #[x]:=by rw [←Array.toArray_toList (xs:=args),h1]
    have e2:argTypes= #[t]:=by rw [←Array.toArray_toList (xs:=argTypes),h2]
    subst e1;subst e2
    split at hc
    · rename_i x' hu hx;injection hc with hc;subst hc;exact QO h hd hx hu hev
    · rename_i s x' hu hx;injection hc with hc;subst hc;exact Uq h hd hx hu hev
    · cases hc
  · rename_i x y t u h1 h2
    have e1:args= #[x,y]:=by rw [←Array.toArray_toList (xs:=args),h1]
    have e2:argTypes= #[t,u]:=by rw [←Array.toArray_toList (xs:=argTypes),h2]
    subst e1;subst e2
    split at hc
    case h_2=>cases hc
    rename_i x' y' _ _ hx hy
    split at hc
    case isFalse=>cases hc
    rename_i htu
    injection hc with hc;subst hc
    obtain ⟨rfl, -⟩:=htu
    exact Q3 (mx:=true) h hd hx hy hev
  · rename_i x y t u h1 h2
    have e1:args= #[x,y]:=by rw [←Array.toArray_toList (xs:=args),h1]
    have e2:argTypes= #[t,u]:=by rw [←Array.toArray_toList (xs:=argTypes),h2]
    subst e1;subst e2
    split at hc
    case h_2=>cases hc
    rename_i x' y' _ _ hx hy
    split at hc
    case isFalse=>cases hc
    rename_i htu
    injection hc with hc;subst hc
    obtain ⟨rfl, -⟩:=htu
    exact Q3 (mx:=false) h hd hx hy hev
  · rename_i x y t u h1 h2
    have e1:args= #[x,y]:=by rw [←Array.toArray_toList (xs:=args),h1]
    have e2:argTypes= #[t,u]:=by rw [←Array.toArray_toList (xs:=argTypes),h2]
    subst e1;subst e2
    split at hc
    case h_2=>cases hc
    rename_i el x' hel hx
    have ht:P.underlying t=some (.slice el):=by
     unfold DY at hel
     split at hel
     · rename_i e hu;injection hel with hel;subst hel;exact hu
     · cases hel
    split at hc
    · rename_i s y' hu hy
      split at hc
      case isFalse=>cases hc
      rename_i hz
      injection hc with hc;subst hc
      exact UI h hd hx hy ht hu hz hev
    · rename_i y' hu hy
      split at hc
      case isFalse=>cases hc
      rename_i hz
      injection hc with hc;subst hc
      exact Q6 h hd hx hy ht hu hz.2 hz.1 hev
    · cases hc
  · split at hc
    · injection hc with hc;subst hc;cases eA
    · cases hc
  · cases hc
 |_=>simp [cop] at hc
theorem UO {o:Oper} {op:fc} (h:SR L N F γ C e ah ts w) (hd:∀x,o.dst=some x→x<N) (hc:dS P m o=some op) (eA:op.mY=false)
 (hev:bH L ⟨o.dst,op,none⟩ e ah=some (e',aE)):bp m P L N F γ C o ts ds w e' aE:=by
 cases m with
 |true=>exact Ke h hd (by simpa [dS] using hc) eA (.inl rfl) hev
 |false=>
  simp only [dS,Bool.false_eq_true,if_false,Option.map_eq_some_iff] at hc
  obtain ⟨op',ho,rfl⟩:=hc
  by_cases Bv:∃x,op'= .jH .bs x
  · obtain ⟨x,rfl⟩:=Bv
    obtain ⟨d,oo,ty,pos,af,g⟩:=o
    cases oo with
    |convert s t y=>
     simp only [cop] at ho
     split at ho
     case h_2=>cases ho
     rename_i hh x' mZ hx
     injection ho with ho
     injection ho with e1 e2
     subst e1;subst e2
     exact QZ h hd hx mZ hev
    |makeFunc fn first cs=>
     cases fn with
     |func f=>simp only [cop] at ho;split at ho<;>simp at ho
     |_=>simp [cop] at ho
    |_=>
     exfalso
     simp only [cop] at ho
     first
      |cases ho;done
      |(simp at ho;done)
      |(repeat' (split at ho))<;>(first|(cases ho;done)|(simp at ho;done))
  by_cases hl:∃x n,op'= .ld x n
  · obtain ⟨x,n,rfl⟩:=hl
    obtain ⟨d,oo,ty,pos,af,g⟩:=o
    cases oo with
    |load t y=>
     simp only [cop] at ho
     split at ho
     case isFalse=>cases ho
     rename_i ht
     simp only [Option.map_eq_some_iff] at ho
     obtain ⟨a,ha,he⟩:=ho
     injection he with e1 e2
     subst e1;subst e2
     exact MB h hd ha ht hev
    |makeFunc fn first cs=>
     cases fn with
     |func f=>simp only [cop] at ho;split at ho<;>simp at ho
     |_=>simp [cop] at ho
    |_=>
     exfalso
     simp only [cop] at ho
     first
      |cases ho;done
      |(simp at ho;done)
      |(repeat' (split at ho))<;>(first|(cases ho;done)|(simp at ho;done))
  · have:op'.J0=op':=by
     cases op' with
     |ld x n=>exact absurd ⟨_,_,rfl⟩ hl
     |jH hh x=>cases hh<;>first|rfl|exact absurd ⟨_,rfl⟩ Bv
     |_=>rfl
    rw [this] at eA hev
    exact Ke h hd ho eA (.inr ⟨fun x n he=>hl ⟨x,n,he⟩,fun x he=>Bv ⟨x,he⟩⟩) hev
theorem Rf {o:Oper} {x':Ar} (hc:cop P o=some (.aO x')):∃x,o=⟨o.dst, .assign x,o.type,o.pos,o.after,o.guard⟩∧cR P o.type x=some x':=by
 obtain ⟨d,oo,ty,pos,af,g⟩:=o
 cases oo with
 |assign y=>
  simp only [cop,Option.map_eq_some_iff] at hc
  obtain ⟨a,ha,he⟩:=hc
  injection he with he
  subst he
  exact ⟨y,rfl,ha⟩
 |makeFunc fn first cs=>
  cases fn with
  |func f=>simp only [cop] at hc;split at hc<;>simp at hc
  |_=>simp [cop] at hc
 |_=>
  exfalso
  simp only [cop] at hc
  first
   |cases hc;done
   |(simp at hc;done)
   |(repeat' (split at hc))<;>(first|(cases hc;done)|(simp at hc;done))
theorem Cu {o:Oper} {k b:Nat} {x' y':Ar} (hop:cop P o=some (.app k b x' y')):
 ∃x y t u el s,o=⟨o.dst, .call {callee:= .builtin .append,args:= #[x,y],argTypes:= #[t,u]},o.type,o.pos,o.after,o.guard⟩∧cR P t x=some x'∧cR P u y=some y'∧
  P.underlying t=some (.slice el)∧P.underlying u=some (.slice s)∧(zeroOf P el).map List.length=some (cB P el)∧k=cB P el∧b=Fp P el:=by
 obtain ⟨d,oo,ty,pos,af,g⟩:=o
 cases oo with
 |call c=>
  obtain ⟨callee,args,argTypes⟩:=c
  simp only [cop] at hop
  split at hop
  · split at hop<;>simp at hop
  · split at hop
    · split at hop<;>simp at hop
    · cases hop
  · split at hop
    · split at hop<;>simp at hop
    · cases hop
  · rename_i x y t u h1 h2
    have e1:args= #[x,y]:=by rw [←Array.toArray_toList (xs:=args),h1]
    have e2:argTypes= #[t,u]:=by rw [←Array.toArray_toList (xs:=argTypes),h2]
    subst e1;subst e2
    split at hop
    case h_2=>cases hop
    rename_i el x2 hel hx
    have ht:P.underlying t=some (.slice el):=by
     unfold DY at hel
     split at hel
     · rename_i e hu;injection hel with hel;subst hel;exact hu
     · cases hel
    split at hop
    · rename_i s y2 hu hy
      split at hop
      case isFalse=>cases hop
      rename_i hz
      injection hop with hop
      injection hop with q1 q2 q3 q4
      subst q1;subst q2;subst q3;subst q4
      exact ⟨x,y,t,u,el,s,rfl,hx,hy,ht,hu,hz,rfl,rfl⟩
    · split at hop<;>simp at hop
    · cases hop
  · split at hop<;>simp at hop
  · cases hop
 |makeFunc fn first cs=>
  cases fn with
  |func f=>simp only [cop] at hop;split at hop<;>simp at hop
  |_=>simp [cop] at hop
 |_=>
  exfalso
  simp only [cop] at hop
  first
   |cases hop;done
   |(simp at hop;done)
   |(repeat' (split at hop))<;>(first|(cases hop;done)|(simp at hop;done))
theorem MI {o:Oper} {neq:Bool} {x':Ar} (hop:cop P o=some (.nq neq x')):
 ∃op t x n4 el,o=⟨o.dst, .binOp op t x (.const (.slice none 0 0)) n4,o.type,o.pos,o.after,o.guard⟩∧bw x=some x'∧P.underlying t=some (.slice el)∧op=if neq then .neq else .eql:=by
 obtain ⟨d,oo,ty,pos,af,g⟩:=o
 cases oo with
 |binOp op t x y n4=>
  simp only [cop] at hop
  split at hop
  case h_3=>cases hop
  case h_2=>
   rename_i x2 hx hy
   split at hop
   · cases hop
   · cases hop
   · rename_i el hu
     injection hop with hop;injection hop with h1 h2;subst h1;subst h2
     exact ⟨_,t,x,n4,el,rfl,hx,hu,rfl⟩
   · rename_i el hu
     injection hop with hop;injection hop with h1 h2;subst h1;subst h2
     exact ⟨_,t,x,n4,el,rfl,hx,hu,rfl⟩
   · cases hop
  exfalso
  (repeat' (split at hop))<;>(first|(cases hop;done)|(simp at hop;done))
 |makeFunc fn first cs=>
  cases fn with
  |func f=>simp only [cop] at hop;split at hop<;>simp at hop
  |_=>simp [cop] at hop
 |_=>
  exfalso
  simp only [cop] at hop
  first
   |cases hop;done
   |(simp at hop;done)
   |(repeat' (split at hop))<;>(first|(cases hop;done)|(simp at hop;done))
theorem UP {op:fc} {n:Bool} {x:Ar} (h:op.J0= .nq n x):op= .nq n x:=by
 cases op with
 |jH hh x=>cases hh<;>cases h
 |ld x n=>cases h
 |_=>exact h
theorem Rg {op:fc} {k b:Nat} {x y:Ar} (h:op.J0= .app k b x y):op= .app k b x y:=by
 cases op with
 |jH hh x=>cases hh<;>cases h
 |ld x n=>cases h
 |_=>exact h
theorem Rh {op:fc} {x:Ar} (h:op.J0= .aO x):op= .aO x:=by
 cases op with
 |jH hh x=>cases hh<;>cases h
 |ld x n=>cases h
 |_=>exact h
theorem Ab {o:Oper} {k b:Nat} {x y:Ar} (hc:dS P m o=some (.app k b x y)):cop P o=some (.app k b x y):=by
 cases m with
 |true=>simpa [dS] using hc
 |false=>
  simp only [dS,Bool.false_eq_true,if_false,Option.map_eq_some_iff] at hc
  obtain ⟨op',ho,hE⟩:=hc
  rw [ho,Rg hE]
theorem NF {o:Oper} {x:Ar} (hc:dS P m o=some (.aO x)):cop P o=some (.aO x):=by
 cases m with
 |true=>simpa [dS] using hc
 |false=>
  simp only [dS,Bool.false_eq_true,if_false,Option.map_eq_some_iff] at hc
  obtain ⟨op',ho,hE⟩:=hc
  rw [ho,Rh hE]
theorem HM {o:Oper} {n:Bool} {x:Ar} (hc:dS P m o=some (.nq n x)):cop P o=some (.nq n x):=by
 cases m with
 |true=>simpa [dS] using hc
 |false=>
  simp only [dS,Bool.false_eq_true,if_false,Option.map_eq_some_iff] at hc
  obtain ⟨op',ho,hE⟩:=hc
  rw [ho,UP hE]
theorem FJ {o:Oper} {n:Bool} {x:Ar} {K:Env→AH→Prop} (h:SR L N F γ C e ah ts w) (hd:∀x,o.dst=some x→x<N) (hc:dS P m o=some (fc.er (.nq n x)))
 (hk:Cf L o.dst n x e ah K):∃e' aE,K e' aE∧bp m P L N F γ C o ts ds w e' aE:=by
 obtain ⟨op,t,x0,n4,el,ho,hx,hu,hop⟩:=MI (HM hc)
 rw [ho]
 exact XH (d:=o.dst) h hd hx hu hop hk
theorem E4 {o:Oper} {k b:Nat} {x y:Ar} {K:Env→AH→Prop} (h:SR L N F γ C e ah ts w) (hd:∀x,o.dst=some x→x<N) (hc:dS P m o=some (fc.er (.kB k b x y)))
 (hk:nW L o.dst k b x y e ah K):∃e' aE,K e' aE∧bp m P L N F γ C o ts ds w e' aE:=by
 obtain ⟨x0,y0,t,u,el,s,ho,hx,hy,ht,hu,hz,rfl,rfl⟩:=Cu (Ab hc)
 rw [ho]
 exact Rc (d:=o.dst) h hd hx hy ht hu hz hk
theorem HN {o:Oper} {k:Nat} {x:Ar} (h:SR L N F γ C e ah ts w) (hd:∀x,o.dst=some x→x<N) (hc:dS P m o=some (fc.er (.z7 k x)))
 (hev:bH L ⟨o.dst, .z7 k x,none⟩ e ah=some (e',aE)):bp m P L N F γ C o ts ds w e' aE:=by
 obtain ⟨x0,ho,hx⟩:=Rf (NF hc)
 rw [ho]
 exact Uu (d:=o.dst) h hd hx hev
theorem E5 {op:fc} {f:Ar} {zq:List Ar} (h:op.J0= .call f zq):op= .call f zq:=by
 cases op with
 |jH hh x=>cases hh<;>cases h
 |ld x n=>cases h
 |_=>exact h
theorem aak {op:fc} {f:Ar} {zq:List Ar} (h:op.er= .call f zq):op= .call f zq:=by
 cases op with
 |qf x=>cases h
 |kB=>cases h
 |z7=>cases h
 |_=>exact h
theorem FK {o:Oper} {op:fc} (h:SR L N F γ C e ah ts w) (hd:∀x,o.dst=some x→x<N) (hc:cop P o=some op.er) (eA:op.mY=false)
 (hev:bH L ⟨o.dst,op,none⟩ e ah=some (e',aE)):bp true P L N F γ C o ts ds w e' aE:=by
 by_cases hx:∃x,op= .qf x
 · obtain ⟨x,rfl⟩:=hx
   obtain ⟨d,oo,ty,pos,af,g⟩:=o
   have hc:cop P ⟨d,oo,ty,pos,af,g⟩=some (.jH .sb x):=hc
   cases oo with
   |convert s t y=>
    simp only [cop] at hc
    split at hc
    case h_2=>cases hc
    rename_i hh x' mZ hx
    injection hc with hc
    injection hc with e1 e2
    subst e1;subst e2
    exact Q0 h hd hx mZ hev
   |makeFunc fn first cs=>
    cases fn with
    |func f=>simp only [cop] at hc;split at hc<;>simp at hc
    |_=>simp [cop] at hc
   |_=>
    exfalso
    simp only [cop] at hc
    first
     |cases hc;done
     |(simp at hc;done)
     |(repeat' (split at hc))<;>(first|(cases hc;done)|(simp at hc;done))
 · by_cases hy:∃k x,op= .z7 k x
   · obtain ⟨k,x,rfl⟩:=hy
     exact HN (m:=true) h hd (by simpa [dS] using hc) hev
   have:op.er=op:=by
    cases op<;>first|rfl|exact absurd ⟨_,rfl⟩ hx|exact absurd ⟨_,_,rfl⟩ hy|cases eA|rfl
   rw [this] at hc
   exact Ke h hd hc eA (.inl rfl) hev
theorem HO {o:Oper} {op:fc} (h:SR L N F γ C e ah ts w) (hd:∀x,o.dst=some x→x<N) (hc:dS P m o=some op.er) (eA:op.mY=false)
 (hev:bH L ⟨o.dst,op,none⟩ e ah=some (e',aE)):bp m P L N F γ C o ts ds w e' aE:=by
 cases m with
 |true=>exact FK h hd (by simpa [dS] using hc) eA hev
 |false=>
  by_cases hx:∃x,op= .qf x
  · obtain ⟨x,rfl⟩:=hx
    simp only [dS,Bool.false_eq_true,if_false,Option.map_eq_some_iff] at hc
    obtain ⟨op',ho,hE⟩:=hc
    have hE:op'.J0= .jH .sb x:=hE
    have:op'= .jH .sb x:=by
     cases op' with
     |jH hh y=>cases hh<;>first|exact hE|cases hE
     |ld y n=>cases hE
     |_=>exact hE
    subst this
    obtain ⟨v,w',γ',C',h1,h2,h3,h4,h5,h6⟩:=FK (op:= .qf x) (ds:=ds) h hd ho rfl hev
    refine ⟨v,w',γ',C',h1,h2,h3,h4,h5,fun hq=> ?_⟩
    exfalso
    obtain ⟨d,oo,ty,pos,af,g⟩:=o
    cases oo with
    |convert s t y=>
     simp only [cop] at ho
     split at ho
     case h_2=>cases ho
     rename_i hh x' mZ hx
     injection ho with ho
     injection ho with e1 e2
     subst e1
     unfold Fs at mZ
     split at mZ
     · cases mZ
     · cases mZ
     · rename_i el hs ht
       simp [dQ,ht] at hq
     · split at mZ
       · split at mZ<;>cases mZ
       · cases mZ
     · cases mZ
    |makeFunc fn first cs=>
     cases fn with
     |func f=>simp only [cop] at ho;split at ho<;>simp at ho
     |_=>simp [cop] at ho
    |_=>
     simp only [cop] at ho
     first
      |cases ho;done
      |(simp at ho;done)
      |(repeat' (split at ho))<;>(first|(cases ho;done)|(simp at ho;done))
  · by_cases hy:∃k x,op= .z7 k x
    · obtain ⟨k,x,rfl⟩:=hy
      exact HN h hd hc hev
    have:op.er=op:=by
     cases op<;>first|rfl|exact absurd ⟨_,rfl⟩ hx|exact absurd ⟨_,_,rfl⟩ hy|cases eA|rfl
    rw [this] at hc
    exact UO h hd hc eA hev
theorem vl (L:List Nat) (d:Option Nat) (op:fc) (g:Option (Nat×Bool)) (e:Env) (ah:AH):bH L ⟨d,op,g⟩ e ah=bH L ⟨d,op,none⟩ e ah:=by
 cases op<;>rfl
def iy (P:Program) (f:Nat):Bool:=match P.funcs[f]? with
 |some fn=>fn.body.isSome&&fn.name != "runtime.NumGoroutine"
 |none=>false
def eE:Nat→List AV→Env
 |_,[]=>[]
 |i,a::r=>(i,a)::eE (i+1) r
theorem dZ:∀(l:List AV) (i t:Nat),get (eE i l) t=if i≤t then (l[t - i]?).getD .un else .un:=by
 intro l
 induction l with
 |nil=>intro i t;simp [eE,get]
 |cons a r ih=>
  intro i t
  simp only [eE,get]
  by_cases h:i=t
  · subst h;simp
  · rw [if_neg h,ih]
    by_cases h1:i≤t
    · obtain ⟨q,hq⟩:∃q,t - i=q+1:=⟨t - i - 1,by omega⟩
      rw [if_pos h1,if_pos (by omega),hq,show t - (i+1)=q by omega];simp
    · rw [if_neg h1,if_neg (by omega)]
def aF (P:Program) (f:Nat) (args:List AV) (ah:AH) (R:AV→AH→Prop):Prop:=
 iy P f=true∧∀(F:Nat→Prop) (γ:List Nat) (C:Nat→List Value) (w:World) (vs:Array Value),SR [] args.length F γ C (eE 0 args) ah vs w→
  Calls P f vs w fun en w'=>∃r v aE γ' C',en= .returned v∧R r aE∧γ <+: γ'∧SR [] 1 F γ' C' [(0,r)] aE #[v] w'∧Ext F C w C' w'
theorem aF.mono {f:Nat} {args:List AV} {ah:AH} {R R':AV→AH→Prop} (h:aF P f args ah R) (hr:∀r aE,R r aE→R' r aE):aF P f args ah R':=
 ⟨h.1,fun F γ C w vs hs=>(h.2 F γ C w vs hs).mono fun _ _ ⟨r,v,aE,γ',C',h1,h2,h3⟩=>⟨r,v,aE,γ',C',h1,hr _ _ h2,h3⟩⟩
def AV.gQ:AV→AV
 | .sl (.fr (.cell _ _)) k xs=> .sl .n k xs
 |a=>a
def vm:Env→Env
 |[]=>[]
 |(i,a)::r=>(i,a.gQ)::vm r
theorem yY (e:Env) (t:Nat):get (vm e) t=(get e t).gQ:=by
 induction e with
 |nil=>rfl
 |cons p r ih=>
  obtain ⟨i,b⟩:=p
  simp only [vm,get]
  by_cases h:i=t<;>simp [h,ih]
theorem Wk.gQ (a:AV):Wk a a.gQ:=by
 cases a with
 |sl t k xs=>
  cases t with
  |fr m=>cases m<;>first|exact .n .. |exact .same _
  |_=>exact .same _
 |_=>exact .same _
theorem Ri (a:AV):a.gQ.bN=a.bN:=by
 cases a with
 |sl t k xs=>
  cases t with
  |fr m=>cases m<;>rfl
  |_=>rfl
 |_=>rfl
theorem NH (a:AV) (v:Value):bO a.gQ v=bO a v:=by
 cases a with
 |sl t k xs=>
  cases t with
  |fr m=>cases m<;>simp [AV.gQ,bO]
  |_=>rfl
 |_=>rfl
theorem UQ {a:AV} {l:Loc} {k:Nat} {xs:List AV} (h:a.gQ= .sl (.fr l) k xs):a= .sl (.fr l) k xs∧∃t,l= .tmp t:=by
 cases a with
 |sl t k' xs'=>
  cases t with
  |fr m=>cases m with
   |tmp u=>simp only [AV.gQ] at h;exact ⟨h,u,by injection h with h;injection h with h;exact h.symm⟩
   |cell s o=>simp [AV.gQ] at h
  |_=>simp [AV.gQ] at h
 |_=>simp [AV.gQ] at h
theorem HP {f:Nat} {zq:List AV} {vs:Array Value} {R:AV→AH→Prop} {d:Option Nat} (h:SR L N F γ C e ah ts w) (hd:∀x,d=some x→x<N) (hac:aF P f zq ah R)
 (hlen:vs.size=zq.length) (has:∀(i:Nat) (a:AV),zq[i]? =some a→VR C γ a (vs.getD i undef)∧TC w C a (vs.getD i undef)∧a.plain=true):
 Calls P f vs w fun en w'=>∃r v aE γ' C',en= .returned v∧R r aE∧γ <+: γ'∧SR L N F γ' C' (Am.aG L (vm e) d r.df) aE (Act.put ⟨ts,ds⟩ d v).tmps w'∧Ext F C w C' w':=by
 let F':Nat→Prop:=fun b=>F b∨∃t,blk γ e ah ts w (.tmp t) b
 have NI:∀t,get (eE 0 zq) t=(zq[t]?).getD .un:=fun t=>by rw [dZ];simp
 have hnot:∀t,(get (eE 0 zq) t).bN=false:=by
  intro t
  rw [NI]
  cases ht:zq[t]? with
  |none=>rfl
  |some a=>exact fY (has t a ht).2.2
 have hsub:∀p b,blk γ (eE 0 zq) ah vs w p b→blk γ e ah ts w p b∧∀t,p≠ .tmp t:=by
  intro p b hp
  cases p with
  |obj s=>exact ⟨hp,by simp⟩
  |cell s i=>exact ⟨hp,by simp⟩
  |tmp t=>simp only [blk] at hp;rw [gA _ (hnot t)] at hp;cases hp
 have hs:SR [] zq.length F' γ C (eE 0 zq) ah vs w:=by
  refine ⟨h.mem,hlen,fun t=> ?_,fun p q b hp hq=>h.dU p q b (hsub p b hp).1 (hsub q b hq).1,fun p b hp=> ?_,⟨fun b hb=> ?_,fun e he=>by obtain ⟨h1,h2⟩:=h.jF.Hw e he;exact ⟨.inl h1,h2⟩⟩,fun t l k xs ht=> ?_⟩
  · rw [NI]
    cases ht:zq[t]? with
    |none=>exact ⟨.un ..,by cases vs.getD t undef<;>trivial⟩
    |some a=>exact ⟨(has t a ht).1,(has t a ht).2.1⟩
  · rintro (hF|⟨t,ht⟩)
    · exact h.nf p b (hsub p b hp).1 hF
    · exact (hsub p b hp).2 t (h.dU p (.tmp t) b (hsub p b hp).1 ht)
  · rcases hb with hF|⟨t,ht⟩
    · exact h.jF.lt b hF
    · exact fF h ht
  · rw [NI] at ht
    cases hq:zq[t]? with
    |none=>rw [hq] at ht;simp at ht
    |some a=>rw [hq] at ht;exact absurd ht (wz (has t a hq).2.2 l k xs)
 refine (hac.2 F' γ C w vs hs).mono ?_
 rintro en w' ⟨r,v,aE,γ',C',rfl,hR,hγ,jK,hx⟩
 refine ⟨r,v,aE,γ',C',rfl,hR,hγ, ?_,⟨hx.pre,fun b hb=>hx.keep b (.inl hb),hx.size,hx.out⟩⟩
 have hg:∀(s b:Nat),γ[s]? =some b→γ'[s]? =some b:=by
  intro s b hs
  obtain ⟨q,rfl⟩:=hγ
  rw [List.getElem?_append_left (List.getElem?_eq_some_iff.1 hs).1];exact hs
 have hown:∀t b,bO (get e t) (ts.getD t undef)=some b→F' b:=fun t b hb=> .inr ⟨t,hb⟩
 have hbk:∀p b,blk γ' (vm e) aE ts w' p b→(∃t,p= .tmp t∧blk γ e ah ts w (.tmp t) b)∨((∀t,p≠ .tmp t)∧blk γ' [(0,r)] aE #[v] w' p b):=by
  intro p b hp
  cases p with
  |obj s=>exact .inr ⟨by simp,hp⟩
  |cell s i=>exact .inr ⟨by simp,hp⟩
  |tmp t=>simp only [blk,yY,NH] at hp;exact .inl ⟨t,rfl,hp⟩
 have h2:SR L N F γ' C' (vm e) aE ts w':=by
  refine ⟨jK.mem,h.sz,fun t=> ?_,fun p q b hp hq=> ?_,fun p b hp=> ?_,h.jF.keep hx.size (fun b hb=>(hx.keep b (.inl hb)).1),fun t l k xs ht=> ?_⟩
  · rw [yY]
    refine ⟨(Wk.gQ _).vr ((h.env t).1.mono hx.pre _ hg),(Wk.gQ _).tc ((h.env t).2.mono fun b hb=> ?_)⟩
    exact hx.keep b (hown t b hb)
  · rcases hbk p b hp with ⟨t,rfl,h1⟩|⟨h1,h2⟩<;>rcases hbk q b hq with ⟨u,rfl,h3⟩|⟨h3,h4⟩
    · exact h.dU _ _ b h1 h3
    · exact absurd (hown t b h1) (jK.nf q b h4)
    · exact absurd (hown u b h3) (jK.nf p b h2)
    · exact jK.dU p q b h2 h4
  · rcases hbk p b hp with ⟨t,rfl,h1⟩|⟨h1,h2⟩
    · exact h.nf _ b h1
    · exact fun hF=>jK.nf p b h2 (.inl hF)
  · rw [yY] at ht
    obtain ⟨h1,u,rfl⟩:=UQ ht
    have:=h.fr t _ k xs h1
    exact ⟨this.1,fun hu=>this.2 (by rw [yY,Ri] at hu;exact hu)⟩
 have hr:=jK.env 0
 simp only [get,if_true] at hr
 have hv0:(#[v]:Array Value).getD 0 undef=v:=rfl
 rw [hv0] at hr
 by_cases ho:r.bN=true
 · cases r with
   |sl t k xs=>
    cases t with
    |own=>
     simp only [AV.df]
     refine h2.rZ hd hr.1 hr.2 fun b hb=> ?_
     have hb0:blk γ' [(0, .sl .own k xs)] aE #[v] w' (.tmp 0) b:=hb
     refine ⟨fun hF=>jK.nf _ b hb0 (.inl hF),fun p hp=> ?_⟩
     rcases hbk p b hp with ⟨t,rfl,h1⟩|⟨h1,h3⟩
     · exact jK.nf _ b hb0 (hown t b h1)
     · exact h1 0 (jK.dU p (.tmp 0) b h3 hb0)
    |_=>cases ho
   |_=>cases ho
 · have ho':r.bN=false:=by simpa using ho
   exact h2.aG hd ((Wk.df r).vr hr.1) ((Wk.df r).tc hr.2) (MA ho') (fun l k xs hl=>absurd hl (J1 r l k xs))
end
end Go.Am
end
section
namespace Go.Am
open Go
variable [Tabs]
def yZ (P:Program) (L:List Nat) (o:aL) (e:Env) (ah:AH) (K:Env→AH→Prop):Prop:=
 match o.op with
 | .call f zq=>
   match ev e f with
   | .fn f caps=>aS caps=true∧aF P f (zq.map (fun x=>(ev e x).sh)++caps.map AV.s1) ah fun r aE=>K (aG L (vm e) o.d r.df) aE
   |_=>False
 | .kB k b x y=>nW L o.d k b x y e ah K
 | .nq n x=>Cf L o.d n x e ah K
 |_=>match bH L o e ah with
  |some (e',aE)=>K e' aE
  |none=>False
def n7 (e:Env):Option Nat→Env
 |some d=>put e d (.bx [])
 |none=>e
def dV (P:Program) (L:List Nat):List aL→Env→AH→(Env→AH→Prop)→Prop
 |[],e,ah,K=>K e ah
 |o::r,e,ah,K=>match fH e o with
  |some true=>yZ P L o e ah fun e ah=>dV P L r e ah K
  |some false=>dV P L r (n7 e o.d) ah K
  |none=>False
def jG (N:Nat):List aL→Bool
 |[]=>true
 |o::r=>(match o.d with|some d=>decide (d<N)|none=>true)&&(match o.op with| .lit y _=>decide (y<N)|_=>true)&&jG N r
theorem MJ (N:Nat):∀zq:List aL,jG N (zq.map aL.er)=jG N zq:=by
 intro zq
 induction zq with
 |nil=>rfl
 |cons o r ih=>
  obtain ⟨d,op,g⟩:=o
  simp only [List.map_cons,jG,ih,aL.er]
  cases op<;>rfl
def NG:Exit→Prop
 | .goto _=>False
 |_=>True
def AW (P:Program) (L:List Nat) (N n0:Nat) (c:Code) (Q:Exit→Env→AH→Prop) (e:Env) (ah:AH):Prop:=
 ∀(F:Nat→Prop) (γ:List Nat) (C:Nat→List Value) (ts:Array Value) (w:World),SR L N F γ C e ah ts w→n0≤γ.length→
  c.wp P (fun x a' w'=>a'.defers=[]∧NG x∧∃e' aE γ' C',Q x e' aE∧γ.take n0 <+: γ'∧SR L N F γ' C' e' aE a'.tmps w'∧Ext F C w C' w') ⟨ts,[]⟩ w
section
variable {P:Program} {L:List Nat} {N n0:Nat} {F:Nat→Prop} {γ:List Nat} {C C':Nat→List Value} {e:Env} {ah:AH} {ts:Array Value} {w w':World}
variable {e':Env} {aE:AH}
theorem E6 {γ γ':List Nat} {n:Nat} (h:γ <+: γ'):γ.take n <+: γ':=(List.take_prefix n γ).trans h
theorem n8 {γ γ' γ'':List Nat} {n:Nat} (h0:n≤γ.length) (h:γ.take n <+: γ') (h':γ'.take n <+: γ''):γ.take n <+: γ'':=by
 obtain ⟨r,rfl⟩:=h
 have:(γ.take n++r).take n=γ.take n:=by
  rw [List.take_append_of_le_length (by simp;omega),List.take_take,Nat.min_self]
 rwa [this] at h'
theorem HQ {γ γ':List Nat} {n:Nat} (h0:n≤γ.length) (h:γ.take n <+: γ'):n≤γ'.length:=by
 have:=h.length_le;simp at this;omega
theorem AW.mono {c:Code} {Q Q':Exit→Env→AH→Prop} (h:AW P L N n0 c Q e ah) (hq:∀x e ah,Q x e ah→Q' x e ah):AW P L N n0 c Q' e ah:=
 fun F γ C ts w hs hn=>wp_mono (h F γ C ts w hs hn) fun _ _ _ ⟨hd,hg,e',aE,γ',C',h1,h2⟩=>⟨hd,hg,e',aE,γ',C',hq _ _ _ h1,h2⟩
theorem AW.skip {Q:Exit→Env→AH→Prop} (h:Q .normal e ah):AW P L N n0 .skip Q e ah:=
 fun F γ C ts w hs hn=>wp_skip ⟨rfl,trivial,e,ah,γ,C,h,List.take_prefix _ _,hs,Ext.refl ..⟩
theorem AW.label {Q:Exit→Env→AH→Prop} {l:Nat} (h:Q .normal e ah):AW P L N n0 (.label l) Q e ah:=
 fun F γ C ts w hs hn=>wp_label ⟨rfl,trivial,e,ah,γ,C,h,List.take_prefix _ _,hs,Ext.refl ..⟩
theorem AW.ret {Q:Exit→Env→AH→Prop} (h:Q .ret e ah):AW P L N n0 .ret Q e ah:=
 fun F γ C ts w hs hn=>wp_ret ⟨rfl,trivial,e,ah,γ,C,h,List.take_prefix _ _,hs,Ext.refl ..⟩
theorem AW.exit {Q:Exit→Env→AH→Prop} {i:Nat} (h:Q (.exit i) e ah):AW P L N n0 (.exit i) Q e ah:=
 fun F γ C ts w hs hn=>wp_exit ⟨rfl,trivial,e,ah,γ,C,h,List.take_prefix _ _,hs,Ext.refl ..⟩
theorem AW.seq {a b:Code} {Q:Exit→Env→AH→Prop} (h:AW P L N n0 a (fun x e ah=>match x with| .normal=>AW P L N n0 b Q e ah|x=>Q x e ah) e ah):AW P L N n0 (.seq a b) Q e ah:=by
 intro F γ C ts w hs hn
 refine wp_seq (wp_mono (h F γ C ts w hs hn) ?_)
 rintro x ⟨ts',ds'⟩ w' ⟨rfl,hg,e',aE,γ',C',h1,h2,h3,h4⟩
 cases x with
 |normal=>
  refine wp_mono (h1 F γ' C' ts' w' h3 (HQ hn h2)) ?_
  rintro x ⟨Rj,ds2⟩ w2 ⟨rfl,hg,e2,si,γ2,C2,g1,g2,g3,g4⟩
  exact ⟨rfl,hg,e2,si,γ2,C2,g1,n8 hn h2 g2,g3,h4.trans g4⟩
 |_=>exact ⟨rfl,hg,e',aE,γ',C',h1,h2,h3,h4⟩
theorem AW.cond {c:Operand} {c':Ar} {a b:Code} {t:Bool} {Q:Exit→Env→AH→Prop} (hc:bw c=some c') (ht:ev e c'= .bool t) (h:AW P L N n0 (if t then a else b) Q e ah):
 AW P L N n0 (.cond c a b) Q e ah:=by
 intro F γ C ts w hs hn
 have:=(bL (ds:=[]) hs hc).1
 rw [ht] at this
 exact wp_cond (t:=t) this.fI (h F γ C ts w hs hn)
theorem AW.blk {c:Code} {i:Nat} {Q:Exit→Env→AH→Prop} (h:AW P L N n0 c (fun x e ah=>match x with| .exit j=>if j=i then Q .normal e ah else Q (.exit j) e ah|x=>Q x e ah) e ah):
 AW P L N n0 (.block i c) Q e ah:=by
 intro F γ C ts w hs hn
 refine wp_block (wp_mono (h F γ C ts w hs hn) ?_)
 rintro x a w' ⟨hd,hg,e',aE,γ',C',h1,h2⟩
 cases x with
 |exit j=>
  simp only [Exit.inBlock] at h1 ⊢
  by_cases hj:j=i
  · rw [if_pos hj] at h1 ⊢;exact ⟨hd,trivial,e',aE,γ',C',h1,h2⟩
  · rw [if_neg hj] at h1 ⊢;exact ⟨hd,trivial,e',aE,γ',C',h1,h2⟩
 |_=>exact ⟨hd,hg,e',aE,γ',C',h1,h2⟩
theorem AW.loop {c:Code} {Q:Exit→Env→AH→Prop} (I:Nat→Env→AH→Prop) {k0:Nat}
 (round:∀k e ah,I k e ah→AW P L N n0 c (fun x e' aE=>match x with| .normal=>∃k',k'<k∧I k' e' aE|x=>Q x e' aE) e ah) (h0:I k0 e ah):AW P L N n0 (.loop c) Q e ah:=by
 intro F γ C ts w hs hn
 refine wp_loop_ghost (fun k a w'=>a.defers=[]∧∃e' aE γ' C',I k e' aE∧γ.take n0 <+: γ'∧SR L N F γ' C' e' aE a.tmps w'∧Ext F C w C' w') k0
  ⟨rfl,e,ah,γ,C,h0,List.take_prefix _ _,hs,Ext.refl ..⟩ ?_
 rintro k ⟨Cw,ds1⟩ w1 ⟨rfl,e1,bQ,γ1,C1,h1,h2,h3,h4⟩
 refine wp_mono (round k e1 bQ h1 F γ1 C1 Cw w1 h3 (HQ hn h2)) ?_
 rintro x ⟨Rj,ds2⟩ w2 ⟨rfl,hg,e2,si,γ2,C2,g1,g2,g3,g4⟩
 cases x with
 |normal=>obtain ⟨k',hk',hI⟩:=g1;exact ⟨k',hk',rfl,e2,si,γ2,C2,hI,n8 hn h2 g2,g3,h4.trans g4⟩
 |_=>exact ⟨rfl,hg,e2,si,γ2,C2,g1,n8 hn h2 g2,g3,h4.trans g4⟩
theorem AW.scope {c:Code} {Q:Exit→Env→AH→Prop} (h:AW P L N n0 c Q e ah):AW P L N n0 (.scope c) Q e ah:=
 fun F γ C ts w hs hn=>wp_scope_straight (wp_mono (h F γ C ts w hs hn) fun x _ _ h=>by cases x<;>first|exact h|exact h.2.1.elim)
theorem AW.weak {c:Code} {Q:Exit→Env→AH→Prop} {e1:Env} (hw:∀t,Wk (get e t) (get e1 t)) (h:AW P L N n0 c Q e1 ah):AW P L N n0 c Q e ah:=
 fun F γ C ts w hs hn=>h F γ C ts w (hs.wk hw) hn
theorem gB {ops:Array Oper} {o:Oper} {g:Option (Nat×Bool)} {d:Option Nat} {op:fc} {b:Bool} (h:SR L N F γ C e ah ts w) (hg:fV ops o.guard=some g) (hb:fH e ⟨d,op,g⟩=some b):
 Region.wanted o (yielded ops ts)=b:=by
 unfold Region.wanted
 cases ho:o.guard with
 |none=>
  rw [ho] at hg
  simp only [fV,Option.some.injEq] at hg
  subst hg
  simp only [fH,Option.some.injEq] at hb
  exact hb
 |some jw=>
  obtain ⟨j,want⟩:=jw
  rw [ho] at hg
  simp only [fV,Option.map_eq_some_iff] at hg
  obtain ⟨t,ht,rfl⟩:=hg
  simp only [fH] at hb
  split at hb
  · rename_i b' he
    have hv:=(h.env t).1
    rw [he] at hv
    have hv:=hv.fI
    have hy:yielded ops ts j=some b':=by
     unfold yielded
     rw [ht]
     simp only [Option.bind_some]
     have:ts[t]? =some (.bool b'):=by
      rw [Array.getD_eq_getD_getElem?] at hv
      cases hq:ts[t]? with
      |none=>rw [hq] at hv;simp [undef] at hv
      |some v=>rw [hq] at hv;simp at hv;rw [hv]
     rw [this]
    simp only [hy]
    simp only [Option.some.injEq] at hb
    rw [←hb]
    simp
  · rename_i he
    have hv:=(h.env t).1
    rw [he] at hv
    obtain ⟨vs,hv, -⟩:=hv.u0
    have hy:yielded ops ts j=none:=by
     unfold yielded
     rw [ht]
     simp only [Option.bind_some]
     rw [Array.getD_eq_getD_getElem?] at hv
     cases hq:ts[t]? with
     |none=>rfl
     |some v=>rw [hq] at hv;simp at hv;rw [hv]
    simp only [hy]
    simp only [Option.some.injEq] at hb
    exact hb
  · cases hb
  · cases hb
theorem E7 (h:SR L N F γ C e ah ts w):∀(tys:List TypeId) (l:List Operand) (zq:List Ar),xl P tys l=some zq→zq.length=l.length∧
 ∀(i:Nat) (x:Operand) (a:Ar),l[i]? =some x→zq[i]? =some a→VR C γ (ev e a) (Act.eval ⟨ts,[]⟩ x)∧TC w C (ev e a) (Act.eval ⟨ts,[]⟩ x):=by
 intro tys l
 induction l generalizing tys with
 |nil=>intro zq hc;cases tys<;>(simp [xl] at hc;subst hc;simp)
 |cons x r ih=>
  intro zq hc
  cases tys with
  |nil=>simp [xl] at hc
  |cons t tys=>
   simp only [xl] at hc
   split at hc
   case h_2=>cases hc
   rename_i a zq' ha has
   simp only [Option.some.injEq] at hc
   subst hc
   obtain ⟨h1,h2⟩:=ih tys zq' has
   refine ⟨by simp [h1],fun j y b hy hb=> ?_⟩
   cases j with
   |zero=>simp at hy hb;subst hy;subst hb;exact e6 h ha
   |succ j=>exact h2 j y b (by simpa using hy) (by simpa using hb)
theorem Cy {f:Nat} (hf:iy P f=true) {d:Option Nat} {x:Operand} {args:Array Operand} {tys:Array TypeId} {ty:TypeId} {pos:String} {af:Array Edge} {g:Option (Nat×Bool)} {caps:Array Value} {ρ:Operand→Value}
 (hx:ρ x= .func (.func f) #[] caps):
 (execOp ρ ⟨d, .call {callee:= .value x,args:=args,argTypes:=tys},ty,pos,af,g⟩).run P w= .ok (.enter f (args.map ρ++caps)) w:=by
 unfold iy at hf
 split at hf
 case h_2=>cases hf
 rename_i fn hfn
 simp only [Bool.and_eq_true,bne_iff_ne] at hf
 obtain ⟨h1,h2⟩:=hf
 have h3:fn.body.isNone=false:=by cases hb:fn.body<;>simp_all
 have h4:(fn.name== "runtime.NumGoroutine")=false:=by simpa using h2
 have h5:fn.body≠none:=by intro h0;rw [h0] at h1;cases h1
 simp [execOp,resolve,Deferred.ofValue,hx,invoke,callFunc,program,Sem.run,hfn,h2,h5]
theorem Ac {o:Oper} {f:Ar} {vn:List Ar} (hop:cop P o=some (.call f vn)):
 ∃x args tys,o=⟨o.dst, .call {callee:= .value x,args:=args,argTypes:=tys},o.type,o.pos,o.after,o.guard⟩∧bw x=some f∧xl P tys.toList args.toList=some vn:=by
 obtain ⟨d,oo,ty,pos,af,gd⟩:=o
 cases oo with
 |call c=>
  obtain ⟨callee,args,tys⟩:=c
  simp only [cop] at hop
  split at hop
  · split at hop<;>simp at hop
  · split at hop
    · split at hop
      · simp at hop
      · cases hop
    · cases hop
  · split at hop
    · split at hop
      · simp at hop
      · cases hop
    · cases hop
  · split at hop
    · split at hop
      · split at hop<;>simp at hop
      · split at hop<;>simp at hop
      · cases hop
    · cases hop
  · rename_i x
    split at hop
    · rename_i f2 as2 h1 h2
      injection hop with hop
      injection hop with e1 e2
      subst e1;subst e2
      exact ⟨x,args,tys,rfl,h1,h2⟩
    · cases hop
  · cases hop
 |makeFunc fn first cs=>
  cases fn with
  |func f=>simp only [cop] at hop;split at hop<;>simp at hop
  |_=>simp [cop] at hop
 |_=>
  exfalso
  simp only [cop] at hop
  first
   |cases hop;done
   |(simp at hop;done)
   |(repeat' (split at hop))<;>(first|(cases hop;done)|(simp at hop;done))
theorem Cz (hs:SR L N F γ C e ah ts w) {vn:List Ar} {caps:List AV} {args:Array Operand} {vs:Array Value} (hfl:aS caps=true) (hcl:caps.length=vs.size)
 (mZ:∀(i:Nat) (a:AV),caps[i]? =some a→VR C γ a (vs.getD i undef)) (c1:vn.length=args.toList.length)
 (c2:∀(i:Nat) (x:Operand) (a:Ar),args.toList[i]? =some x→vn[i]? =some a→VR C γ (ev e a) (Act.eval ⟨ts,[]⟩ x)∧TC w C (ev e a) (Act.eval ⟨ts,[]⟩ x)):
 ∀(i:Nat) (a:AV),(vn.map (fun x=>(ev e x).sh)++caps.map AV.s1)[i]? =some a→
  VR C γ a ((args.map (Act.eval ⟨ts,[]⟩)++vs).getD i undef)∧TC w C a ((args.map (Act.eval ⟨ts,[]⟩)++vs).getD i undef)∧a.plain=true:=by
 intro i a hi
 by_cases hlt:i<vn.length
 · rw [List.getElem?_append_left (by simpa using hlt),List.getElem?_map,List.getElem?_eq_getElem hlt] at hi
   obtain rfl:(ev e vn[i]).sh=a:=by simpa using hi
   have HI:i<args.toList.length:=by omega
   have:=c2 i _ _ (List.getElem?_eq_getElem HI) (List.getElem?_eq_getElem hlt)
   have hgd:(args.map (Act.eval ⟨ts,[]⟩)++vs).getD i undef=Act.eval ⟨ts,[]⟩ args.toList[i]:=by
    rw [Array.length_toList] at HI
    simp [Array.getD_eq_getD_getElem?,Array.getElem?_append,HI]
   rw [hgd]
   exact ⟨(Wk.sh _).vr this.1,(Wk.sh _).tc this.2,sg _⟩
 · rw [List.getElem?_append_right (by simpa using hlt),List.getElem?_map] at hi
   simp only [List.length_map] at hi
   cases D5:caps[i - vn.length]? with
   |none=>rw [D5] at hi;simp at hi
   |some b=>
    rw [D5] at hi
    obtain rfl:b.s1=a:=by simpa using hi
    have hgd:(args.map (Act.eval ⟨ts,[]⟩)++vs).getD i undef=vs.getD (i - vn.length) undef:=by
     have c1':vn.length=args.size:=by simpa using c1
     simp only [Array.getD_eq_getD_getElem?]
     rw [Array.getElem?_append_right (by simp;omega)]
     simp [c1']
    rw [hgd]
    exact ⟨(Wk.jt (Wk.s1 _)).vr (mZ _ _ D5),QK b (iu hfl D5) _,EZ b⟩
theorem HR {o:Oper} {a:fc} (h:My P o=some a):cop P o=some a∨a= .bad:=by
 unfold My at h
 cases hc:cop P o with
 |none=>rw [hc] at h;injection h with h;exact .inr h.symm
 |some b=>rw [hc] at h;exact .inl h
theorem UR {op:fc} (h:op.er= .bad):op= .bad:=by cases op<;>first|rfl|cases h
theorem Bc {ops:Array Oper} {l:List Oper} {zq:List aL} (h:iV P ops l=some zq):(l=[]∧zq=[])∨
 (∃o o2 r a zq',l=o::o2::r∧kG P o o2=some a∧iV P ops r=some zq'∧zq=a::zq')∨
 (∃o o2 r ag zq',l=o::o2::r∧Hu P ops o o2=some ag∧iV P ops r=some zq'∧zq=ag++zq')∨
 ∃o r op g zq',l=o::r∧(cop P o=some op∨op= .bad)∧fV ops o.guard=some g∧iV P ops r=some zq'∧zq=⟨o.dst,op,g⟩::zq':=by
 cases l with
 |nil=>simp only [iV,Option.some.injEq] at h;exact .inl ⟨rfl,h.symm⟩
 |cons o r=>
  cases r with
  |nil=>
   simp only [iV] at h
   split at h
   case h_2=>cases h
   rename_i a g h1 h2
   injection h with h
   exact .inr (.inr (.inr ⟨o,[],a,g,[],rfl,HR h1,h2,rfl,h.symm⟩))
  |cons o2 r=>
   rw [iV] at h
   split at h
   · rename_i a ha
     simp only [Option.map_eq_some_iff] at h
     obtain ⟨zq',h1,rfl⟩:=h
     exact .inr (.inl ⟨o,o2,r,a,zq',rfl,ha,h1,rfl⟩)
   · split at h
     · rename_i ag hag
       simp only [Option.map_eq_some_iff] at h
       obtain ⟨zq',h1,rfl⟩:=h
       exact .inr (.inr (.inl ⟨o,o2,r,ag,zq',rfl,hag,h1,rfl⟩))
     · split at h
       case h_2=>cases h
       rename_i a g zq' h1 h2 h3
       injection h with h
       exact .inr (.inr (.inr ⟨o,o2::r,a,g,zq',rfl,HR h1,h2,h3,h.symm⟩))
theorem MK {a b:aL} {y:Nat} {bs:List UInt8} (h:a.er=b) (hb:b.op= .lit y bs):a=b:=by
 obtain ⟨d,op,g⟩:=a
 subst h
 cases op<;>first|rfl|(simp [aL.er,fc.er] at hb)
theorem CA {o o2:Oper} {a:aL} (h:kG P o o2=some a):∃y bs,a.op= .lit y bs:=by
 unfold kG at h
 split at h
 case h_2=>cases h
 split at h
 case isFalse=>cases h
 split at h
 case h_2=>cases h
 split at h
 case h_2=>cases h
 split at h
 case isFalse=>cases h
 split at h
 case h_2=>cases h
 simp only [Option.map_eq_some_iff] at h
 obtain ⟨bs, -,rfl⟩:=h
 exact ⟨_,_,rfl⟩
theorem Ad {ops:Array Oper} {o o2:Oper} {ag:List aL} (h:Hu P ops o o2=some ag):∃d y bs t w g,ag=[⟨some y, .mv (.c .un),some (t,w)⟩,⟨d, .lit y bs,some (t,w)⟩]∧t≠y∧
 kG P (bare o) (bare o2)=some ⟨d, .lit y bs,g⟩∧fV ops o.guard=some (some (t,w))∧fV ops o2.guard=some (some (t,w)):=by
 unfold Hu at h
 split at h
 case isFalse=>cases h
 rename_i hg
 split at h
 case h_2=>cases h
 rename_i x t w d y bs g h1 h2 h3
 split at h
 · cases h
 · rename_i hty
   injection h with h
   exact ⟨d,y,bs,t,w,g,h.symm,hty,h3,h2,by rw [←hg];exact h2⟩
theorem XI {a b:aL} {x:Ar} (h:a.er=b) (hb:b.op= .mv x):a=b:=by
 obtain ⟨d,op,g⟩:=a
 subst h
 cases op<;>first|rfl|(simp [aL.er,fc.er] at hb)
theorem FM {ops:Array Oper} {l:List Oper} {zq:List aL} (h:iV P ops l=some (zq.map aL.er)):(l=[]∧zq=[])∨
 (∃o o2 r a zq',l=o::o2::r∧kG P o o2=some a∧iV P ops r=some (zq'.map aL.er)∧zq=a::zq')∨
 (∃o o2 r ag zq',l=o::o2::r∧Hu P ops o o2=some ag∧iV P ops r=some (zq'.map aL.er)∧zq=ag++zq')∨
 ∃o r op g zq',l=o::r∧(cop P o=some op.er∨op= .bad)∧fV ops o.guard=some g∧iV P ops r=some (zq'.map aL.er)∧zq=⟨o.dst,op,g⟩::zq':=by
 rcases Bc h with ⟨h1,h2⟩|⟨o,o2,r,a,zq',h1,h2,h3,h4⟩|⟨o,o2,r,ag,zq',h1,h2,h3,h4⟩|⟨o,r,op,g,zq',h1,h2,h3,h4,h5⟩
 · exact .inl ⟨h1,by simpa using h2⟩
 · cases zq with
   |nil=>simp at h4
   |cons x xs=>
    simp only [List.map_cons,List.cons.injEq] at h4
    obtain ⟨y,bs,hl⟩:=CA h2
    have:=MK h4.1 hl
    subst this
    exact .inr (.inl ⟨o,o2,r,x,xs,h1,h2,by rw [h3,h4.2],rfl⟩)
 · obtain ⟨d,y,bs,t,w,g,rfl, -⟩:=Ad h2
   cases zq with
   |nil=>simp at h4
   |cons x xs=>
    cases xs with
    |nil=>simp at h4
    |cons x2 xs=>
     simp only [List.map_cons,List.cons_append,List.nil_append,List.cons.injEq] at h4
     have e1:=XI h4.1 rfl
     have e2:=MK h4.2.1 rfl
     subst e1;subst e2
     exact .inr (.inr (.inl ⟨o,o2,r,_,xs,h1,h2,by rw [h3,h4.2.2],rfl⟩))
 · cases zq with
   |nil=>simp at h5
   |cons x xs=>
    simp only [List.map_cons,List.cons.injEq] at h5
    obtain ⟨d,op',g'⟩:=x
    obtain ⟨h6,h7⟩:=h5
    simp only [aL.er] at h6
    injection h6 with e1 e2 e3
    subst e1;subst e2;subst e3
    exact .inr (.inr (.inr ⟨o,r,op',g',xs,h1,h2.imp id UR,h3,by rw [h4,h7],rfl⟩))
theorem HS {ops:Array Oper} {o o2:Oper} {l:List Oper} {a:aL} {zq:List aL} {K:Env→AH→Prop} {Q:Exit→Act→World→Prop} (fU:kG P (bare o) (bare o2)=some a)
 (hw1:Region.wanted o (yielded ops ts)=true) (Cp:∀y bs v,a.op= .lit y bs→Region.wanted o2 (yielded ops ((⟨ts,[]⟩:Act).put (some y) v).tmps)=true) (hd:jG N (a::zq)=true)
 (hs:SR L N F γ C e ah ts w) (hk:dV P L (a::zq) e ah K)
 (next:∀e1 bQ C1 Cw w1,dV P L zq e1 bQ K→jG N zq=true→SR L N F γ C1 e1 bQ Cw w1→Ext F C w C1 w1→wpList P ops Q l ⟨Cw,[]⟩ w1):wpList P ops Q (o::o2::l) ⟨ts,[]⟩ w:=by
 obtain ⟨d1,op1,ty1,pos1,af1,g1⟩:=o
 obtain ⟨d2,UN,n4,pos2,af2,g2⟩:=o2
 unfold kG bare at fU
 split at fU
 case h_2=>cases fU
 rename_i t n parts s d x y h1 h2 h3
 simp only at h1 h2 h3
 subst h1;subst h2;subst h3
 split at fU
 case isFalse=>cases fU
 rename_i hcs
 obtain ⟨rfl,rfl,rfl,UT,Rk,hyd,hn,hn2⟩:=hcs
 split at fU
 case h_2=>cases fU
 rename_i el hel
 split at fU
 case h_2=>cases fU
 rename_i hu8
 split at fU
 case isFalse=>cases fU
 rename_i hsz
 split at fU
 case h_2=>cases fU
 rename_i vn aal
 simp only [Option.map_eq_some_iff] at fU
 obtain ⟨bs,Ka,rfl⟩:=fU
 have Cp:=fun v=>Cp _ _ v rfl
 simp only [jG,Bool.and_eq_true] at hd
 obtain ⟨⟨hd1,HT⟩,hd3⟩:=hd
 have hy:x<N:=by simpa using HT
 have iJ:∀z,d2=some z→z<N:=by
  intro z hz
  rw [hz] at hd1
  simpa using hd1
 simp only [dV,fH,yZ,bH] at hk
 have ht:P.underlying d=some (.slice el):=by
  unfold DY at hel
  split at hel
  · rename_i h;injection hel with hel;subst hel;exact h
  · cases hel
 obtain ⟨q1,q2⟩:=Q9 Ka e
 obtain ⟨r,hrs,hrun,key⟩:=E3 (ds:=[]) (d:=d2) hs iJ ht hn (by rw [hsz.1];omega) hsz.2 aal (by rw [hsz.1];exact q2)
 obtain ⟨C',k1,k2⟩:=key (r.size,r.size+1) (.inr rfl)
 rw [q1,hsz.1] at k1
 have k3:=k1.Ba (d:=x) (a:= .un) (v:= .slice (some ⟨w.heap.size,0,none⟩) n n) hy (.un ..) trivial rfl (by simp)
 unfold wpList
 rw [if_pos hw1]
 refine .inl ?_
 unfold Oper.wp
 have e1:(execOp (Act.eval ⟨ts,[]⟩) ⟨some x, .buildSlice d n parts,ty1,pos1,af1,g1⟩).run P w= .ok (.value (.slice (some ⟨w.heap.size,0,none⟩) n n)) (w.alloc (.cells r el)):=by
  simp [execOp,hrun]
 rw [e1]
 simp only [Oper.upon]
 unfold wpList
 rw [if_pos (Cp _)]
 refine .inl ?_
 unfold Oper.wp
 have hlt:x<ts.size:=by rw [hs.sz];exact hy
 have e2:(execOp (Act.eval ((⟨ts,[]⟩:Act).put (some x) (.slice (some ⟨w.heap.size,0,none⟩) n n))) ⟨d2, .convert d d (.tmp x),n4,pos2,af2,g2⟩).run P (w.alloc (.cells r el))= .ok (.value (.slice (some ⟨w.heap.size,0,none⟩) n n)) (w.alloc (.cells r el (r.size,r.size+1))):=by
  have hev:Act.eval ((⟨ts,[]⟩:Act).put (some x) (.slice (some ⟨w.heap.size,0,none⟩) n n)) (.tmp x)= .slice (some ⟨w.heap.size,0,none⟩) n n:=by
   simp [Act.eval,Act.put,hlt]
  have:=Lib.run_convert_bytes_const (P:=P) w d el r n n ht hu8
  simp only [execOp,hev,Sem.run_bind,this,Result.andThen_ok,Sem.run_pure]
 rw [e2]
 simp only [Oper.upon]
 rw [←SR.Cr ts [] hyd]
 have hput:(((⟨ts,[]⟩:Act).put d2 (.slice (some ⟨w.heap.size,0,none⟩) n n)).put (some x) (.slice (some ⟨w.heap.size,0,none⟩) n n))=
  ⟨(((⟨ts,[]⟩:Act).put d2 (.slice (some ⟨w.heap.size,0,none⟩) n n)).tmps).setIfInBounds x (.slice (some ⟨w.heap.size,0,none⟩) n n),[]⟩:=by
  cases d2<;>rfl
 rw [hput]
 exact next _ _ C' _ _ hk hd3 k3 k2
theorem UU {ops:Array Oper} {o o2:Oper} {l:List Oper} {a:aL} {zq:List aL} {K:Env→AH→Prop} {Q:Exit→Act→World→Prop} (fU:kG P o o2=some a) (hd:jG N (a::zq)=true)
 (hs:SR L N F γ C e ah ts w) (hk:dV P L (a::zq) e ah K)
 (next:∀e1 bQ C1 Cw w1,dV P L zq e1 bQ K→jG N zq=true→SR L N F γ C1 e1 bQ Cw w1→Ext F C w C1 w1→wpList P ops Q l ⟨Cw,[]⟩ w1):wpList P ops Q (o::o2::l) ⟨ts,[]⟩ w:=by
 have hg:o.guard=none∧o2.guard=none:=by
  unfold kG at fU
  split at fU
  case h_2=>cases fU
  split at fU
  case isFalse=>cases fU
  rename_i hcs
  exact ⟨by simpa using hcs.2.2.2.1,by simpa using hcs.2.2.2.2.1⟩
 have e1:bare o=o:=by obtain ⟨d,op,ty,pos,af,g⟩:=o;simp only at hg;simp [bare,hg.1]
 have e2:bare o2=o2:=by obtain ⟨d,op,ty,pos,af,g⟩:=o2;simp only at hg;simp [bare,hg.2]
 exact HS (by rw [e1,e2];exact fU) (by simp [Region.wanted,hg.1]) (fun _ _ _ _=>by simp [Region.wanted,hg.2]) hd hs hk next
theorem Rl {ops:Array Oper}:∀(n:Nat) (l:List Oper) (zq:List aL) (e:Env) (ah:AH) (K:Env→AH→Prop) (F:Nat→Prop) (γ:List Nat) (C:Nat→List Value) (ts:Array Value) (w:World)
 (Q:Exit→Act→World→Prop),l.length≤n→iV P ops l=some (zq.map aL.er)→jG N zq=true→SR L N F γ C e ah ts w→dV P L zq e ah K→
 (∀e' aE γ' C' ts' w',K e' aE→γ <+: γ'→SR L N F γ' C' e' aE ts' w'→Ext F C w C' w'→Q .normal ⟨ts',[]⟩ w')→wpList P ops Q l ⟨ts,[]⟩ w:=by
 intro n
 induction n with
 |zero=>
  intro l zq e ah K F γ C ts w Q hn hc hd hs hk hq
  obtain rfl:l=[]:=List.eq_nil_of_length_eq_zero (by omega)
  simp only [iV,Option.some.injEq] at hc
  obtain rfl:zq=[]:=by simpa using hc.symm
  exact wpList_nil (hq e ah γ C ts w hk (List.prefix_refl _) hs (Ext.refl ..))
 |succ n ih=>
  intro l zq e ah K F γ C ts w Q hn hc hd hs hk hq
  rcases FM hc with ⟨rfl,rfl⟩|⟨o,o2,l,a,zq',rfl,fU,has,rfl⟩|⟨o,o2,l,ag,zq',rfl,fU,has,rfl⟩|⟨o,l,op,g,zq',rfl,hop,hg,has,rfl⟩
  · exact wpList_nil (hq e ah γ C ts w hk (List.prefix_refl _) hs (Ext.refl ..))
  · exact UU fU hd hs hk fun e1 bQ C1 Cw w1 z8 hd1 hs1 hx1=>ih l zq' e1 bQ K F γ C1 Cw w1 Q (by simp at hn;omega) has hd1 hs1 z8
     fun e' aE γ' C' ts' w' g1 g2 g3 g4=>hq e' aE γ' C' ts' w' g1 g2 g3 (hx1.trans g4)
  · obtain ⟨d,y,bs,tg,want,g0,rfl,hty,hlo,UT,Rk⟩:=Ad fU
    have hd:jG N [⟨some y, .mv (.c .un),some (tg,want)⟩,⟨d, .lit y bs,some (tg,want)⟩]=true∧jG N zq'=true:=by
     simp only [List.cons_append,List.nil_append,jG,Bool.and_eq_true,Bool.and_true] at hd ⊢
     exact ⟨⟨hd.1,hd.2.1⟩,hd.2.2⟩
    have hyN:y<N:=by
     have:=hd.1
     simp only [jG,Bool.and_eq_true] at this
     simpa using this.1.1
    have aam:∀v,SR L N F γ C (put e y .un) ah (ts.setIfInBounds y v) w:=fun v=>hs.Ba hyN (.un ..) trivial rfl (by simp)
    have hge:∀a,get (put e y a) tg=get e tg:=fun a=>by rw [eD,if_neg hty]
    have yT:∀a (d d2:Option Nat) (op UN:fc),fH (put e y a) ⟨d,op,some (tg,want)⟩=fH e ⟨d2,UN,some (tg,want)⟩:=fun a _ _ _ _=>by simp only [fH,hge]
    rw [List.cons_append,List.cons_append,List.nil_append] at hk
    simp only [dV] at hk
    split at hk
    · rename_i tA
      have hw1:=gB hs UT tA
      have e0:aG L e (some y) (cp L (.c .un) (ev e (.c .un)))=put e y .un:=by
       simp only [ev,cp,aG];split<;>rfl
      simp only [yZ,bH] at hk
      rw [e0,yT .un d (some y) (.lit y bs) (.mv (.c .un)),tA] at hk
      simp only at hk
      have hk3:dV P L (⟨d, .lit y bs,g0⟩::zq') (put e y .un) ah K:=by
       have h0:g0=none:=by
        unfold kG at hlo
        split at hlo
        case h_2=>cases hlo
        split at hlo
        case isFalse=>cases hlo
        split at hlo
        case h_2=>cases hlo
        split at hlo
        case h_2=>cases hlo
        split at hlo
        case isFalse=>cases hlo
        split at hlo
        case h_2=>cases hlo
        simp only [Option.map_eq_some_iff] at hlo
        obtain ⟨_, -,hlo⟩:=hlo
        injection hlo with _ _ h3
        exact h3.symm
       subst h0
       exact hk
      refine HS hlo hw1 (fun y' bs' v h=> ?_) (by
       have h1:=hd.1
       simp only [jG,Bool.and_eq_true] at h1 ⊢
       exact ⟨h1.2.1,hd.2⟩) (hs.rY (.un _)) hk3 fun e1 bQ C1 Cw w1 z8 hd1 hs1 hx1=>ih l zq' e1 bQ K F γ C1 Cw w1 Q (by simp at hn;omega) has hd1 hs1 z8
       fun e' aE γ' C' ts' w' g1 g2 g3 g4=>hq e' aE γ' C' ts' w' g1 g2 g3 (hx1.trans g4)
      injection h with h1 h2
      subst h1
      exact gB (aam v) Rk (d:=d) (op:= .lit y bs) ((yT .un d (some y) (.lit y bs) (.mv (.c .un))).trans tA)
    · rename_i tA
      have hw1:=gB hs UT tA
      rw [show n7 e (some y)=put e y (.bx []) from rfl,yT (.bx []) d (some y) (.lit y bs) (.mv (.c .un)),tA] at hk
      simp only at hk
      obtain ⟨hdo,hdy⟩:o.dst=some y∧o2.dst=d:=by
       unfold kG bare at hlo
       split at hlo
       case h_2=>cases hlo
       rename_i h1 h2 h3
       simp only at h3
       split at hlo
       case isFalse=>cases hlo
       split at hlo
       case h_2=>cases hlo
       split at hlo
       case h_2=>cases hlo
       split at hlo
       case isFalse=>cases hlo
       split at hlo
       case h_2=>cases hlo
       simp only [Option.map_eq_some_iff] at hlo
       obtain ⟨_, -,hlo⟩:=hlo
       injection hlo with q1 q2 _
       injection q2 with q2 _
       subst q2
       exact ⟨h3,q1⟩
      have hs1:SR L N F γ C (put e y (.bx [])) ah (ts.setIfInBounds y undef) w:=hs.Ba hyN (.bx _ [] #[] rfl (by simp)) (by simp [undef,TC]) rfl (by simp)
      unfold wpList
      rw [if_neg (by rw [hw1];simp)]
      unfold wpList
      have XJ:(⟨ts,[]⟩:Act).put o.dst undef=⟨ts.setIfInBounds y undef,[]⟩:=by rw [hdo];rfl
      rw [XJ]
      have Cp:=gB hs1 Rk (d:=d) (op:= .lit y bs) ((yT (.bx []) d (some y) (.lit y bs) (.mv (.c .un))).trans tA)
      rw [if_neg (by show ¬(Region.wanted o2 (yielded ops (ts.setIfInBounds y undef))=true);rw [Cp];simp)]
      have hput:(⟨ts.setIfInBounds y undef,[]⟩:Act).put o2.dst undef=⟨((⟨ts.setIfInBounds y undef,[]⟩:Act).put o2.dst undef).tmps,[]⟩:=by cases o2.dst<;>rfl
      rw [hput]
      refine ih l zq' _ ah K F γ C _ w Q (by simp at hn;omega) has hd.2 ?_ hk hq
      rw [hdy]
      cases hdd:d with
      |none=>exact hs1
      |some d'=>
       have hdN:d'<N:=by
        have:=hd.1
        simp only [jG,Bool.and_eq_true,hdd] at this
        simpa using this.2.1.1
       exact hs1.Ba hdN (.bx _ [] #[] rfl (by simp)) (by simp [undef,TC]) rfl (by simp)
    · exact hk.elim
  have hn':l.length≤n:=by simp at hn;omega
  simp only [jG,Bool.and_eq_true] at hd
  have iJ:∀x,o.dst=some x→x<N:=by
   intro x hx
   have:=hd.1.1
   rw [hx] at this
   simpa using this
  simp only [dV] at hk
  split at hk
  · rename_i tA
    have hw:=gB hs hg tA
    unfold wpList
    rw [if_pos hw]
    refine .inl ?_
    rcases hop with hop|rfl
    case inr=>exact hk.elim
    by_cases eA:op.mY=true
    · cases op with
      |call f vn=>
       simp only [yZ] at hk
       split at hk
       case h_2=>exact hk.elim
       rename_i f' caps XK
       obtain ⟨hfl,hk⟩:=hk
       obtain ⟨x,args,tys,ho,hx,hargs⟩:=Ac hop
       have h1:=bL (ds:=[]) hs hx
       rw [XK] at h1
       obtain ⟨vs,XL,hcl,mZ⟩:=h1.1.Fv
       obtain ⟨c1,c2⟩:=E7 hs _ _ _ hargs
       have CB:=HP (d:=o.dst) (ds:=[]) (vs:=args.map (Act.eval ⟨ts,[]⟩)++vs) hs iJ hk (by simp [c1,hcl]) (Cz hs hfl hcl mZ c1 c2)
       have Kf:(execOp (Act.eval ⟨ts,[]⟩) o).run P w= .ok (.enter f' (args.map (Act.eval ⟨ts,[]⟩)++vs)) w:=by
        rw [ho];exact Cy hk.1 XL
       unfold Oper.wp
       rw [Kf]
       simp only [Oper.upon]
       refine CB.mono ?_
       rintro en w1 ⟨r,v,bQ,γ1,C1,rfl,hR,hγ,hs1,hx1⟩
       have hput:(⟨ts,[]⟩:Act).put o.dst v=⟨((⟨ts,[]⟩:Act).put o.dst v).tmps,[]⟩:=by cases o.dst<;>rfl
       show wpList P ops Q l ((⟨ts,[]⟩:Act).put o.dst v) w1
       rw [hput]
       exact ih l zq' _ bQ K F γ1 C1 _ w1 Q hn' has hd.2 hs1 hR fun e' aE γ' C' ts' w' g1 g2 g3 g4=>hq e' aE γ' C' ts' w' g1 (hγ.trans g2) g3 (hx1.trans g4)
      |kB k b x y=>
       simp only [yZ] at hk
       obtain ⟨e1,bQ,hk',v,w1,γ1,C1,hr,hγ,hs1,hx1, -, -⟩:=E4 (m:=true) (ds:=[]) hs iJ (by simpa [dS] using hop) hk
       have next:wpList P ops Q l ((⟨ts,[]⟩:Act).put o.dst v) w1:=by
        have hput:(⟨ts,[]⟩:Act).put o.dst v=⟨((⟨ts,[]⟩:Act).put o.dst v).tmps,[]⟩:=by cases o.dst<;>rfl
        rw [hput]
        exact ih l zq' e1 bQ K F γ1 C1 _ w1 Q hn' has hd.2 hs1 hk' fun e' aE γ' C' ts' w' g1 g2 g3 g4=>hq e' aE γ' C' ts' w' g1 (hγ.trans g2) g3 (hx1.trans g4)
       unfold Oper.wp
       rcases hr with hr|⟨hr,rfl⟩<;>rw [hr]<;>exact next
      |nq n x=>
       simp only [yZ] at hk
       obtain ⟨e1,bQ,hk',v,w1,γ1,C1,hr,hγ,hs1,hx1, -, -⟩:=FJ (m:=true) (ds:=[]) hs iJ (by simpa [dS] using hop) hk
       have next:wpList P ops Q l ((⟨ts,[]⟩:Act).put o.dst v) w1:=by
        have hput:(⟨ts,[]⟩:Act).put o.dst v=⟨((⟨ts,[]⟩:Act).put o.dst v).tmps,[]⟩:=by cases o.dst<;>rfl
        rw [hput]
        exact ih l zq' e1 bQ K F γ1 C1 _ w1 Q hn' has hd.2 hs1 hk' fun e' aE γ' C' ts' w' g1 g2 g3 g4=>hq e' aE γ' C' ts' w' g1 (hγ.trans g2) g3 (hx1.trans g4)
       unfold Oper.wp
       rcases hr with hr|⟨hr,rfl⟩<;>rw [hr]<;>exact next
      |_=>cases eA
    · have qj:op.mY=false:=by simpa using eA
      have hk':match bH L ⟨o.dst,op,g⟩ e ah with|some (e',aE)=>dV P L zq' e' aE K|none=>False:=by
       cases op<;>first|exact hk|cases qj
      rw [vl] at hk'
      cases hev:bH L ⟨o.dst,op,none⟩ e ah with
      |none=>rw [hev] at hk';exact hk'.elim
      |some ea=>
       obtain ⟨e1,bQ⟩:=ea
       rw [hev] at hk'
       obtain ⟨v,w1,γ1,C1,hr,hγ,hs1,hx1, -, -⟩:=FK (ds:=[]) hs iJ hop qj hev
       have next:wpList P ops Q l ((⟨ts,[]⟩:Act).put o.dst v) w1:=by
        have hput:(⟨ts,[]⟩:Act).put o.dst v=⟨((⟨ts,[]⟩:Act).put o.dst v).tmps,[]⟩:=by cases o.dst<;>rfl
        rw [hput]
        exact ih l zq' e1 bQ K F γ1 C1 _ w1 Q hn' has hd.2 hs1 hk' fun e' aE γ' C' ts' w' g1 g2 g3 g4=>hq e' aE γ' C' ts' w' g1 (hγ.trans g2) g3 (hx1.trans g4)
       unfold Oper.wp
       rcases hr with hr|⟨hr,rfl⟩<;>rw [hr]<;>exact next
  · rename_i tA
    have hw:=gB hs hg tA
    unfold wpList
    rw [if_neg (by rw [hw];simp)]
    have hput:(⟨ts,[]⟩:Act).put o.dst undef=⟨((⟨ts,[]⟩:Act).put o.dst undef).tmps,[]⟩:=by cases o.dst<;>rfl
    rw [hput]
    refine ih l zq' _ ah K F γ C _ w Q hn' has hd.2 ?_ hk hq
    cases ho:o.dst with
    |none=>exact hs
    |some d=>exact hs.Ba (iJ d ho) (.bx _ [] #[] rfl (by simp)) (by simp [undef,TC]) rfl (by simp)
  · exact hk.elim
theorem UW {ops:Array Oper} (l:List Oper) (zq:List aL) (e:Env) (ah:AH) (K:Env→AH→Prop) (F:Nat→Prop) (γ:List Nat) (C:Nat→List Value) (ts:Array Value) (w:World)
 (Q:Exit→Act→World→Prop) (hc:iV P ops l=some (zq.map aL.er)) (hd:jG N zq=true) (hs:SR L N F γ C e ah ts w) (hk:dV P L zq e ah K)
 (hq:∀e' aE γ' C' ts' w',K e' aE→γ <+: γ'→SR L N F γ' C' e' aE ts' w'→Ext F C w C' w'→Q .normal ⟨ts',[]⟩ w'):wpList P ops Q l ⟨ts,[]⟩ w:=
 Rl l.length l zq e ah K F γ C ts w Q (Nat.le_refl _) hc hd hs hk hq
end
end Go.Am
end
section
namespace Go.Am
open Go
variable [Tabs]
section
variable {P:Program} {ops:Array Oper} {Q:Exit→Act→World→Prop} {md:Region.Mode} {S:World→Prop} {D:Nat→Bool}
def wpS (P:Program) (ops:Array Oper) (Q:Exit→Act→World→Prop) (S:World→Prop) (D:Nat→Bool):Nat→Array Bool→Act→World→Prop
 |0,listed,a,w=>Region.ready .any ops listed=[]∧Q .normal a w
 |n+1,listed,a,w=>(Region.ready .any ops listed=[]→Q .normal a w)∧
  ∀i∈Region.ready .any ops listed,wpOp P ops Q i (fun a' w'=>(D i=false→S w')∧wpS P ops Q S D n (listed.setIfInBounds i true) a' w') a w
theorem wpS.any:∀ {n:Nat} {listed:Array Bool} {a:Act} {w:World},wpS P ops Q S D n listed a w→wpAny P .any ops Q n listed a w
 |0,_,_,_,h=>h
 |_+1,_,_,_,h=>⟨h.1,fun i hi=>wpOp_mono (fun _ _ h'=>h'.2.any) (h.2 i hi)⟩
theorem wpS.mono {S':World→Prop} (hS:∀w,S' w→S w):∀ {n:Nat} {listed:Array Bool} {a:Act} {w:World},wpS P ops Q S' D n listed a w→wpS P ops Q S D n listed a w
 |0,_,_,_,h=>h
 |_+1,_,_,_,h=>⟨h.1,fun i hi=>wpOp_mono (fun _ _ h'=>⟨fun hd=>hS _ (h'.1 hd),h'.2.mono hS⟩) (h.2 i hi)⟩
theorem gl {listed:Array Bool} {i j:Nat} (h:(listed.setIfInBounds i true).getD j true=false):listed.getD j true=false:=by
 by_cases hij:i=j
 · subst hij
   by_cases hlt:i<listed.size
   · simp [hlt] at h
   · simp [Array.getElem?_eq_none (Nat.le_of_not_lt hlt)] at h
 · rwa [getD_set_ne true hij] at h
theorem Bd:∀ {n:Nat} {listed:Array Bool} {a:Act} {w:World},(∀j,listed.getD j true=false→D j=true)→wpAny P .any ops Q n listed a w→wpS P ops Q S D n listed a w
 |0,_,_,_,_,h=>h
 |_+1,listed,_,_,hD,h=>⟨h.1,fun i hi=>wpOp_mono (fun _ _ h'=>⟨fun hd=>Bool.noConfusion ((hD i (mem_ready.1 hi).1).symm.trans hd),Bd (fun j hj=>hD j (gl hj)) h'⟩) (h.2 i hi)⟩
theorem Kg {i:Nat} {oi:Oper} {v:Value} (hi:ops[i]? =some oi) (hsel:∀(j:Nat) (o:Oper) cs b,ops[j]? =some o→o.op≠ .select cs b)
 (hQ:∀c a w,¬Q (.panic c) a w) (W:Nat→Prop):
 ∀(n:Nat) (listed:Array Bool) (a:Act) (w:World),
  (∀j oj,ops[j]? =some oj→j≠i→listed.getD j true=false→(∀e∈oj.after,Region.binds .any e=true→e.on≠i)→oi.apart ops oj=true)→
  (∀j,W j→listed.getD j true=false∧∃oj,ops[j]? =some oj∧∃e∈oj.after,Region.binds .any e=true∧(e.on=i∨W e.on))→(∀j,j<ops.size→D j=true→listed.getD j true=false→W j)→
  i∈Region.ready .any ops listed→YieldsIf P ops S oi v a→S w→
  wpS P ops Q S D n (listed.setIfInBounds i true) (a.put oi.dst v) w→wpS P ops Q S D (n+1) listed a w:=by
 intro n
 induction n with
 |zero=>
  intro listed a w _ _ _ hr hy hS H
  refine ⟨fun h=>(by rw [h] at hr;cases hr),fun j hj=> ?_⟩
  by_cases hji:j=i
  · subst hji;exact hy.wpOp hi hS ⟨fun _=>hS,H⟩
  · have:=ready_mono hj hji
    rw [H.1] at this
    cases this
 |succ n ih=>
  intro listed a w hfree vo hDW hr hy hS H
  refine ⟨fun h=>(by rw [h] at hr;cases hr),fun j hj=> ?_⟩
  by_cases hji:j=i
  · subst hji;exact hy.wpOp hi hS ⟨fun _=>hS,H⟩
  · have h1:=H.2 j (ready_mono hj hji)
    obtain ⟨WZ,oj,Kh,hall⟩:=mem_ready.1 hj
    have hun:∀k,listed.getD k true=false→listed.getD k false=false:=fun k hk=>by
     rcases Nat.lt_or_ge k listed.size with h'|h'
     · simp [h'] at hk ⊢;exact hk
     · simp [Array.getElem?_eq_none h'] at hk
    have hnot:∀e∈oj.after,Region.binds .any e=true→listed.getD e.on true=false→False:=fun e he hb hu=>by
     have h1:=hall e he hb
     rw [hun _ hu] at h1
     cases h1
    have hni:∀e∈oj.after,Region.binds .any e=true→e.on≠i:=fun e he hb heq=>hnot e he hb (by rw [heq];exact (mem_ready.1 hr).1)
    have hWj:¬W j:=by
     intro hw
     obtain ⟨-,oj',ML,e,he,hb,h0⟩:=vo j hw
     rw [Kh] at ML
     injection ML with ML
     subst ML
     rcases h0 with h0|h0
     · exact hni e he hb h0
     · exact hnot e he hb (vo _ h0).1
    have XM:D j=false:=by
     cases hd:D j with
     |false=>rfl
     |true=>exact absurd (hDW j (Array.getElem?_eq_some_iff.1 Kh).1 hd WZ) hWj
    have h2:=wpOp_putIf Kh (hfree j oj Kh hji WZ hni) (fun cs b=>hsel i oi cs b hi) (fun cs b=>hsel j oj cs b Kh) (fun c a w hq=>(hQ c _ w hq).elim) hy h1
    refine wpOp_mono (fun a' w' h3=> ?_) h2
    have hS':=h3.2.1 XM
    refine ⟨fun _=>hS',ih (listed.setIfInBounds j true) a' w' ?_ ?_ ?_ (ready_mono hr (Ne.symm hji)) h3.1 hS' ?_⟩
    · exact fun k ok hk hki XN hno=>hfree k ok hk hki (gl XN) hno
    · intro k hk
      obtain ⟨h5,h6⟩:=vo k hk
      refine ⟨?_,h6⟩
      rw [getD_set_ne true (fun h7=>hWj (by rw [h7];exact hk))]
      exact h5
    · exact fun k hk hd XN=>hDW k hk hd (gl XN)
    · rw [Array.setIfInBounds_comm _ _ hji]
      exact h3.2.2
end
section
variable {P:Program} {L:List Nat} {N n0:Nat} {F:Nat→Prop} {γ:List Nat} {C C':Nat→List Value} {e:Env} {ah:AH} {ts:Array Value} {w w':World} {m:Bool}
variable {e':Env} {aE:AH} {ops:Array Oper} {Q:Exit→Act→World→Prop}
theorem KA.trans {γ':List Nat} {w2:World} (hg:∀(s b:Nat),γ[s]? =some b→γ'[s]? =some b) (hC:∀b,C b <+: C' b) (h:KA m γ C w w') (h':KA m γ' C' w' w2):KA m γ C w w2:=
 ⟨fun b i hi=>(h'.1 b i (Nat.lt_of_lt_of_le hi (hC b).length_le)).trans (h.1 b i hi),fun hm s b hs=>(h'.2 hm s b (hg s b hs)).trans (h.2 hm s b hs)⟩
theorem Rm {γ γ':List Nat} (h:γ <+: γ') {s b:Nat} (hs:γ[s]? =some b):γ'[s]? =some b:=by
 obtain ⟨q,rfl⟩:=h
 rw [List.getElem?_append_left (List.getElem?_eq_some_iff.1 hs).1];exact hs
theorem KA.FN {e ah ts e' aE ts'} {γ':List Nat} (h:SR L N F γ C e ah ts w) (h':SR L N F γ' C' e' aE ts' w') (hx:Ext F C w C' w')
 (ho:m=true→∀(s b:Nat),γ[s]? =some b→w'.heap[b]? =w.heap[b]?):KA m γ C w w':=by
 refine ⟨fun b i hi=> ?_,ho⟩
 rw [nR h hi,nR h' (Nat.lt_of_lt_of_le hi (hx.pre b).length_le),fX (hx.pre b) hi]
theorem Ae (a:Act) (d:Option Nat) (v:Value) (h:a.defers=[]):a.put d v=⟨(a.put d v).tmps,[]⟩:=by
 obtain ⟨ts,ds⟩:=a
 simp only at h
 subst h
 cases d<;>rfl
theorem HU {o:Oper} {i:Nat} {op:fc} {g:Option (Nat×Bool)} {zq:List aL} {K:Env→AH→Prop} {R:Act→World→Prop} (hi:ops[i]? =some o) (hop:dS P m o=some op.er) (hg:fV ops o.guard=some g)
 (iJ:∀x,o.dst=some x→x<N) (hs:SR L N F γ C e ah ts w) (hk:dV P L (⟨o.dst,op,g⟩::zq) e ah K)
 (next:∀v e' aE γ' C' w',dV P L zq e' aE K→γ <+: γ'→SR L N F γ' C' e' aE ((⟨ts,[]⟩:Act).put o.dst v).tmps w'→Ext F C w C' w'→(EY P m o=true→KA m γ C w w')→R ((⟨ts,[]⟩:Act).put o.dst v) w'):
 wpOp P ops Q i R ⟨ts,[]⟩ w:=by
 unfold wpOp
 simp only [hi]
 simp only [dV] at hk
 split at hk
 · rename_i tA
   rw [if_pos (gB hs hg tA)]
   refine .inl ?_
   by_cases eA:op.mY=true
   · cases op with
     |call f vn=>
      have hop:cop P o=some (.call f vn):=by
       cases m with
       |true=>simpa [dS,fc.er] using hop
       |false=>
        simp only [dS,Bool.false_eq_true,if_false,Option.map_eq_some_iff] at hop
        obtain ⟨op',h1,h2⟩:=hop
        rw [h1,E5 h2]
      simp only [yZ] at hk
      split at hk
      case h_2=>exact hk.elim
      rename_i f' caps XK
      obtain ⟨hfl,hk⟩:=hk
      obtain ⟨x,args,tys,ho,hx,hargs⟩:=Ac hop
      have h1:=bL (ds:=[]) hs hx
      rw [XK] at h1
      obtain ⟨vs,XL,hcl,mZ⟩:=h1.1.Fv
      obtain ⟨c1,c2⟩:=E7 hs _ _ _ hargs
      have CB:=HP (d:=o.dst) (ds:=[]) (vs:=args.map (Act.eval ⟨ts,[]⟩)++vs) hs iJ hk (by simp [c1,hcl]) (Cz hs hfl hcl mZ c1 c2)
      have Kf:(execOp (Act.eval ⟨ts,[]⟩) o).run P w= .ok (.enter f' (args.map (Act.eval ⟨ts,[]⟩)++vs)) w:=by
       rw [ho];exact Cy hk.1 XL
      unfold Oper.wp
      rw [Kf]
      simp only [Oper.upon]
      refine CB.mono ?_
      rintro en w1 ⟨r,v,bQ,γ1,C1,rfl,hR,hγ,hs1,hx1⟩
      refine next v _ bQ γ1 C1 w1 hR hγ hs1 hx1 fun hst=>KA.FN hs hs1 hx1 fun hm=> ?_
      rw [ho] at hst
      simp [EY,dQ,fW,yO,hm] at hst
     |kB k b x y=>
      simp only [yZ] at hk
      obtain ⟨e1,bQ,hk',v,w1,γ1,C1,hr,hγ,hs1,hx1,hst, -⟩:=E4 (ds:=[]) hs iJ hop hk
      have nx:=next v e1 bQ γ1 C1 w1 hk' hγ hs1 hx1 fun h=>KA.FN hs hs1 hx1 fun hm=>by
       refine hst ?_
       obtain ⟨_,_,_,_,_,_,ho, -⟩:=Cu (Ab hop)
       rw [ho] at h
       simp [EY,dQ,fW,hm] at h
      unfold Oper.wp
      rcases hr with hr|⟨hr,rfl⟩<;>rw [hr]<;>exact nx
     |nq n x=>
      simp only [yZ] at hk
      obtain ⟨e1,bQ,hk',v,w1,γ1,C1,hr,hγ,hs1,hx1,hst, -⟩:=FJ (ds:=[]) hs iJ hop hk
      have nx:=next v e1 bQ γ1 C1 w1 hk' hγ hs1 hx1 fun h=>KA.FN hs hs1 hx1 fun hm=>by
       refine hst ?_
       obtain ⟨_,_,_,_,_,ho, -⟩:=MI (HM hop)
       rw [ho];rfl
      unfold Oper.wp
      rcases hr with hr|⟨hr,rfl⟩<;>rw [hr]<;>exact nx
     |_=>cases eA
   · have qj:op.mY=false:=by simpa using eA
     have hk':match bH L ⟨o.dst,op,g⟩ e ah with|some (e',aE)=>dV P L zq e' aE K|none=>False:=by
      cases op<;>first|exact hk|cases qj
     rw [vl] at hk'
     cases hev:bH L ⟨o.dst,op,none⟩ e ah with
     |none=>rw [hev] at hk';exact hk'.elim
     |some ea=>
      obtain ⟨e1,bQ⟩:=ea
      rw [hev] at hk'
      obtain ⟨v,w1,γ1,C1,hr,hγ,hs1,hx1,hst, -⟩:=HO (ds:=[]) hs iJ hop qj hev
      have nx:=next v e1 bQ γ1 C1 w1 hk' hγ hs1 hx1 fun h=>KA.FN hs hs1 hx1 fun hm=>by
       refine hst ?_
       cases FH:fW o.op with
       |false=>rfl
       |true=>
        exfalso
        cases ho:o.op with
        |call c=>
         rw [ho] at FH
         obtain ⟨ce,_,_⟩:=c
         cases ce with
         |builtin b=>cases b<;>simp [fW] at FH;simp [EY,dQ,fW,ho,hm] at h
         |_=>simp [fW] at FH
        |store a b c=>simp [EY,dQ,fW,ho,hm] at h
        |_=>rw [ho] at FH;simp [fW] at FH
      unfold Oper.wp
      rcases hr with hr|⟨hr,rfl⟩<;>rw [hr]<;>exact nx
 · rename_i tA
   have hw:=gB hs hg tA
   rw [if_neg (by rw [hw];simp)]
   refine next undef _ ah γ C w hk (List.prefix_refl _) ?_ (Ext.refl ..) fun _=>KA.refl ..
   cases ho:o.dst with
   |none=>exact hs
   |some d=>exact hs.Ba (iJ d ho) (.bx _ [] #[] rfl (by simp)) (by simp [undef,TC]) rfl (by simp)
 · exact hk.elim
theorem NJ {o:Oper} {op:fc} {g:Option (Nat×Bool)} {zq:List aL} {K:Env→AH→Prop} (hq:dQ P o.op=true) (hop:dS P m o=some op.er) (hg:fV ops o.guard=some g)
 (iJ:∀x,o.dst=some x→x<N) (hs:SR L N F γ C e ah ts w) (hk:dV P L (⟨o.dst,op,g⟩::zq) e ah K):
 ∃v e' aE,YieldsIf P ops (KA m γ C w) o v ⟨ts,[]⟩∧dV P L zq e' aE K∧SR L N F γ C e' aE ((⟨ts,[]⟩:Act).put o.dst v).tmps w:=by
 simp only [dV] at hk
 split at hk
 · rename_i tA
   have hw:=gB hs hg tA
   by_cases hnq:∃n x,op= .nq n x
   · obtain ⟨n,x,rfl⟩:=hnq
     simp only [yZ] at hk
     obtain ⟨e1,bQ,hk',v,w1,γ1,C1,hr,hγ,hs1,hx1,hst,XO⟩:=FJ (ds:=[]) hs iJ hop hk
     obtain ⟨rfl,rfl,rfl,hrun⟩:=XO hq
     exact ⟨v,e1,bQ, .inl ⟨hw,hrun⟩,hk',hs1⟩
   have qj:op.mY=false:=by
    cases op with
    |call f vn=>
     exfalso
     have hop:cop P o=some (.call f vn):=by
      cases m with
      |true=>simpa [dS,fc.er] using hop
      |false=>
       simp only [dS,Bool.false_eq_true,if_false,Option.map_eq_some_iff] at hop
       obtain ⟨op',h1,h2⟩:=hop
       rw [h1,E5 h2]
     obtain ⟨x,args,tys,ho, -, -⟩:=Ac hop
     rw [ho] at hq
     simp [dQ] at hq
    |kB k b x y=>
     exfalso
     obtain ⟨_,_,_,_,_,_,ho, -⟩:=Cu (Ab hop)
     rw [ho] at hq
     simp [dQ] at hq
    |nq n x=>exact absurd ⟨_,_,rfl⟩ hnq
    |_=>rfl
   have hk':match bH L ⟨o.dst,op,g⟩ e ah with|some (e',aE)=>dV P L zq e' aE K|none=>False:=by
    cases op<;>first|exact hk|cases qj
   rw [vl] at hk'
   cases hev:bH L ⟨o.dst,op,none⟩ e ah with
   |none=>rw [hev] at hk';exact hk'.elim
   |some ea=>
    obtain ⟨e1,bQ⟩:=ea
    rw [hev] at hk'
    obtain ⟨v,w1,γ1,C1,hr,hγ,hs1,hx1,hst,XO⟩:=HO (ds:=[]) hs iJ hop qj hev
    obtain ⟨rfl,rfl,rfl,hrun⟩:=XO hq
    exact ⟨v,e1,bQ, .inl ⟨hw,hrun⟩,hk',hs1⟩
 · rename_i tA
   refine ⟨undef,_,ah, .inr ⟨gB hs hg tA,rfl⟩,hk, ?_⟩
   cases ho:o.dst with
   |none=>exact hs
   |some d=>exact hs.Ba (iJ d ho) (.bx _ [] #[] rfl (by simp)) (by simp [undef,TC]) rfl (by simp)
 · exact hk.elim
theorem Ki:∀(l r:List (Bool×Nat)) (zq:List aL),eT P ops (l++r)=some zq→∃a1 a2,eT P ops l=some a1∧eT P ops r=some a2∧zq=a1++a2:=by
 intro l
 induction l with
 |nil=>intro r zq h;exact ⟨[],zq,rfl,h,rfl⟩
 |cons p l ih=>
  intro r zq h
  obtain ⟨m,i⟩:=p
  simp only [List.cons_append,eT] at h
  split at h
  case h_2=>cases h
  rename_i o ho
  split at h
  case h_2=>cases h
  rename_i a g zq' h1 h2 h3
  injection h with h
  obtain ⟨a1,a2,g1,g2,rfl⟩:=ih r zq' h3
  exact ⟨⟨o.dst,a,g⟩::a1,a2,by simp [eT,ho,h1,h2,g1],g2,by rw [←h];rfl⟩
theorem HV (l r:List (Bool×Nat)) (zq:List aL) (h:eT P ops (l++r)=some (zq.map aL.er)):∃a1 a2,eT P ops l=some (a1.map aL.er)∧eT P ops r=some (a2.map aL.er)∧zq=a1++a2:=by
 obtain ⟨b1,b2,h1,h2,h3⟩:=Ki _ _ _ h
 obtain ⟨a1,a2,rfl,rfl,rfl⟩:=List.map_eq_append_iff.1 h3
 exact ⟨a1,a2,h1,h2,rfl⟩
theorem NK:∀(l r:List aL) (e:Env) (ah:AH) (K:Env→AH→Prop),dV P L (l++r) e ah K=dV P L l e ah fun e ah=>dV P L r e ah K:=by
 intro l
 induction l with
 |nil=>intros;rfl
 |cons o l ih=>
  intro r e ah K
  simp only [List.cons_append,dV,ih]
theorem Rn:∀(l r:List aL),jG N (l++r)=true→jG N l=true∧jG N r=true:=by
 intro l
 induction l with
 |nil=>intro r h;exact ⟨rfl,h⟩
 |cons o l ih=>
  intro r h
  simp only [List.cons_append,jG,Bool.and_eq_true] at h ⊢
  obtain ⟨h1,h2⟩:=ih r h.2
  exact ⟨⟨h.1,h1⟩,h2⟩
theorem MM {o:Oper} {a:fc} {g:Option (Nat×Bool)} {zq:List aL} (h:jG N (⟨o.dst,a,g⟩::zq)=true):(∀x,o.dst=some x→x<N)∧jG N zq=true:=by
 simp only [jG,Bool.and_eq_true] at h
 refine ⟨fun x hx=> ?_,h.2⟩
 have:=h.1.1
 rw [hx] at this
 simpa using this
theorem Be {i:Nat} {r:List (Bool×Nat)} {zq:List aL} (h:eT P ops ((m,i)::r)=some zq):
 ∃o a g zq',ops[i]? =some o∧dS P m o=some a∧fV ops o.guard=some g∧eT P ops r=some zq'∧zq=⟨o.dst,a,g⟩::zq':=by
 simp only [eT] at h
 split at h
 case h_2=>cases h
 rename_i o ho
 split at h
 case h_2=>cases h
 rename_i a g zq' h1 h2 h3
 injection h with h
 exact ⟨o,a,g,zq',ho,h1,h2,h3,h.symm⟩
theorem y8 {i:Nat} {r:List (Bool×Nat)} {zq:List aL} (h:eT P ops ((m,i)::r)=some (zq.map aL.er)):
 ∃o a g zq',ops[i]? =some o∧dS P m o=some (fc.er a)∧fV ops o.guard=some g∧eT P ops r=some (zq'.map aL.er)∧zq=⟨o.dst,a,g⟩::zq':=by
 obtain ⟨o,a,g,zq',h1,h2,h3,h4,h5⟩:=Be h
 cases zq with
 |nil=>simp at h5
 |cons x xs=>
  simp only [List.map_cons,List.cons.injEq] at h5
  obtain ⟨d,op',g'⟩:=x
  obtain ⟨h6,h7⟩:=h5
  simp only [aL.er] at h6
  injection h6 with e1 e2 e3
  subst e1;subst e2;subst e3
  exact ⟨o,op',g',xs,h1,h2,h3,by rw [h4,h7],rfl⟩
theorem NL {D:Nat→Bool} (hsel:Region.noSelect ops=true) (hQ:∀c a w,¬Q (.panic c) a w):∀(l:List Nat) (zq:List aL) (e:Env) (ah:AH) (γ:List Nat) (C:Nat→List Value) (ts:Array Value) (w:World) (listed:Array Bool) (n:Nat)
 (K:Env→AH→Prop),eT P ops (l.map fun i=>(m,i))=some (zq.map aL.er)→jG N zq=true→SR L N F γ C e ah ts w→dV P L zq e ah K→uZ P ops m D l listed=true→
 (∀e' aE γ' C' ts' w',K e' aE→γ <+: γ'→SR L N F γ' C' e' aE ts' w'→Ext F C w C' w'→wpS P ops Q (KA m γ' C' w') D n (l.foldl (fun a i=>a.setIfInBounds i true) listed) ⟨ts',[]⟩ w')→
 wpS P ops Q (KA m γ C w) D (l.length+n) listed ⟨ts,[]⟩ w:=by
 intro l
 induction l with
 |nil=>
  intro zq e ah γ C ts w listed n K hc hd hs hk hst cont
  simp only [List.map_nil,eT,Option.some.injEq] at hc
  obtain rfl:zq=[]:=by simpa using hc.symm
  have:=cont e ah γ C ts w hk (List.prefix_refl _) hs (Ext.refl ..)
  simpa using this
 |cons i l ih=>
  intro zq e ah γ C ts w listed n K hc hd hs hk hst cont
  obtain ⟨o,a,g,zq',ho,hop,hg,has,rfl⟩:=y8 hc
  obtain ⟨iJ,hd'⟩:=MM hd
  simp only [uZ,ho,Bool.and_eq_true,Bool.or_eq_true] at hst
  obtain ⟨hst,CC⟩:=hst
  have hlen:(i::l).length+n=(l.length+n)+1:=by simp;omega
  rw [hlen]
  rcases hst with ⟨⟨⟨⟨hq,hDi⟩,hr⟩,hfree⟩,vo⟩|⟨hok,hr⟩
  · obtain ⟨v,e1,bQ,hy,z8,hs1⟩:=NJ hq hop hg iJ hs hk
    refine Kg ho (Region.noSelect_spec hsel) hQ (fun j=>j∈Hv ops i) _ listed _ w (Region.free_spec ho hfree) (fun j hj=> ?_) (fun j hj XM hju=> ?_) (by simpa using hr) hy (KA.refl ..) ?_
    · simp only [Fu,Ft,Bool.and_eq_true,List.all_eq_true] at vo
      obtain ⟨h1,h2⟩:=vo.1 j hj
      refine ⟨by simpa using h1, ?_⟩
      split at h2
      · rename_i oj Kh
        obtain ⟨x,hx,hb⟩:=Array.any_eq_true'.1 h2
        simp only [Bool.and_eq_true,Bool.or_eq_true,beq_iff_eq,List.contains_iff_mem] at hb
        exact ⟨oj,Kh,x,hx,hb.1,hb.2⟩
      · cases h2
    · simp only [Fu,Ft,Bool.and_eq_true,List.all_eq_true,List.mem_range] at vo
      have:=vo.2 j hj
      simpa [XM,hju] using this
    · rw [Ae _ _ _ rfl]
      exact ih zq' e1 bQ γ C _ w _ n K has hd' hs1 z8 CC cont
  · have hr:Region.ready .any ops listed=[i]:=by simpa using hr
    refine ⟨fun h=>(by rw [hr] at h;cases h),fun j hj=> ?_⟩
    rw [hr] at hj
    obtain rfl:j=i:=by simpa using hj
    refine HU ho hop hg iJ hs hk fun v e1 bQ γ1 C1 w1 z8 hγ hs1 hx1 hka=>⟨fun _=>hka hok, ?_⟩
    rw [Ae _ _ _ rfl]
    refine (ih zq' e1 bQ γ1 C1 _ w1 _ n K has hd' hs1 z8 CC fun e' aE γ' C' ts' w' g1 g2 g3 g4=> ?_).mono fun w2 h2=>(hka hok).trans (fun s b hs=>Rm hγ hs) hx1.pre h2
    exact cont e' aE γ' C' ts' w' g1 (hγ.trans g2) g3 (hx1.trans g4)
theorem D6:∀(l:List Nat) (listed:Array Bool) (j:Nat),(l.foldl (fun a i=>a.setIfInBounds i true) listed).getD j true=false→listed.getD j true=false∧j∉l:=by
 intro l
 induction l with
 |nil=>intro listed j h;exact ⟨h,by simp⟩
 |cons i l ih=>
  intro listed j h
  obtain ⟨h1,h2⟩:=ih _ j h
  refine ⟨gl h1, ?_⟩
  rw [List.mem_cons,not_or]
  refine ⟨fun hj=> ?_,h2⟩
  subst hj
  by_cases hlt:j<listed.size
  · simp [hlt] at h1
  · have:=gl h1
    simp [Array.getElem?_eq_none (Nat.le_of_not_lt hlt)] at this
theorem Kj (hsel:Region.noSelect ops=true) (hQ:∀c a w,¬Q (.panic c) a w):∀(st:List (Bool×List Nat)) (zq:List aL) (e:Env) (ah:AH) (γ:List Nat) (C:Nat→List Value) (ts:Array Value) (w:World) (listed:Array Bool)
 (K:Env→AH→Prop),eT P ops (rD st)=some (zq.map aL.er)→jG N zq=true→SR L N F γ C e ah ts w→dV P L zq e ah K→nQ P ops st listed=true→
 (∀e' aE γ' C' ts' w',K e' aE→γ <+: γ'→SR L N F γ' C' e' aE ts' w'→Ext F C w C' w'→Q .normal ⟨ts',[]⟩ w')→
 wpAny P .any ops Q (rD st).length listed ⟨ts,[]⟩ w:=by
 intro st
 induction st with
 |nil=>
  intro zq e ah γ C ts w listed K hc hd hs hk hst cont
  simp only [rD,eT,Option.some.injEq] at hc
  obtain rfl:zq=[]:=by simpa using hc.symm
  exact ⟨by simpa [nQ] using hst,cont e ah γ C ts w hk (List.prefix_refl _) hs (Ext.refl ..)⟩
 |cons s st ih=>
  intro zq e ah γ C ts w listed K hc hd hs hk hst cont
  obtain ⟨m,l⟩:=s
  simp only [rD] at hc ⊢
  obtain ⟨a1,a2,hc1,NM,rfl⟩:=HV _ _ _ hc
  obtain ⟨hd1,HT⟩:=Rn _ _ hd
  rw [NK] at hk
  unfold nQ at hst
  rw [Bool.and_eq_true] at hst
  obtain ⟨hst,CC⟩:=hst
  have key:∀(Q':Nat→Bool),uZ P ops m Q' l listed=true→(∀j,Q' j= !l.contains j)→wpAny P .any ops Q (l.map (fun i=>(m,i))++rD st).length listed ⟨ts,[]⟩ w:=by
   intro D aan hD
   rw [List.length_append,List.length_map]
   refine (NL hsel hQ l a1 e ah γ C ts w listed _ _ hc1 hd1 hs hk aan fun e' aE γ' C' ts' w' g1 g2 g3 g4=> ?_).any
   refine Bd (fun j hj=> ?_) (ih a2 e' aE γ' C' ts' w' _ K NM HT g3 g1 CC fun e2 si γ2 C2 Rj w2 q1 q2 q3 q4=>cont e2 si γ2 C2 Rj w2 q1 (g2.trans q2) q3 (g4.trans q4))
   rw [hD]
   simpa using (D6 l listed j hj).2
  split at hst
  · rename_i i
    simp only [Bool.and_eq_true,beq_iff_eq] at hst
    obtain ⟨rfl,hr⟩:=hst
    obtain ⟨o,a,g,zq',ho,hop,hg,has,rfl⟩:=y8 hc1
    simp only [List.map_nil,eT,Option.some.injEq] at has
    obtain rfl:zq'=[]:=by simpa using has.symm
    obtain ⟨iJ, -⟩:=MM hd1
    refine ⟨fun h=>(by rw [hr] at h;cases h),fun j hj=> ?_⟩
    rw [hr] at hj
    obtain rfl:j=i:=by simpa using hj
    refine HU ho hop hg iJ hs hk fun v e1 bQ γ1 C1 w1 z8 hγ hs1 hx1 hka=> ?_
    rw [Ae _ _ _ rfl]
    exact ih a2 e1 bQ γ1 C1 _ w1 _ K NM HT hs1 z8 CC fun e2 si γ2 C2 Rj w2 q1 q2 q3 q4=>cont e2 si γ2 C2 Rj w2 q1 (hγ.trans q2) q3 (hx1.trans q4)
  · exact key _ hst fun _=>rfl
theorem NN {st:List (Bool×List Nat)} (h:sched P ops=some st):nQ P ops st (Array.replicate ops.size false)=true∧(rD st).length=ops.size:=by
 have:yQ P ops st=true:=by
  unfold sched at h
  split at h
  · rename_i s hs
    injection h with h;subst h
    exact (Option.filter_eq_some_iff.1 hs).2
  · exact (Option.filter_eq_some_iff.1 h).2
 simpa [yQ] using this
theorem AW.drawn {id:Nat} {st:List (Bool×List Nat)} {zq:List aL} {Q:Exit→Env→AH→Prop} (hm:P.follows .mixedOrders=true) (hsel:Region.noSelect ops=true) (hst:sched P ops=some st) (hc:eT P ops (rD st)=some (zq.map aL.er))
 (hd:jG N zq=true) (h:dV P L zq e ah fun e ah=>Q .normal (keep L e) ah):AW P L N n0 (.region id ops true) Q e ah:=by
 intro F γ C ts w hs hn
 obtain ⟨h1,h2⟩:=NN hst
 refine wp_mono (Q:=fun x a' w'=>x= .normal∧a'.defers=[]∧NG x∧∃e' aE γ' C',Q x e' aE∧γ.take n0 <+: γ'∧SR L N F γ' C' e' aE a'.tmps w'∧Ext F C w C' w') ?_ (fun _ _ _ h=>h.2)
 refine wp_region_any hm ?_
 have hw0:∀b,b<w.heap.size→({w with drawn:=w.drawn+1}:World).heap[b]? =w.heap[b]? :=fun _ _=>rfl
 obtain ⟨hs1,hx1⟩:=hs.grow (w':= {w with drawn:=w.drawn+1}) (C':=C) hw0 (Nat.le_refl _) (fun _ _=>rfl) (fun b hb hne=>absurd (vi hs hb) hne)
 have Bg:=fun q=>Kj (Q:=fun x a' w'=>x= .normal∧a'.defers=[]∧NG x∧∃e' aE γ' C',Q x e' aE∧γ.take n0 <+: γ'∧SR L N F γ' C' e' aE a'.tmps w'∧Ext F C w C' w') hsel (fun c a w hq=>by cases hq.1) st zq e ah γ C ts _ _ _ hc hd hs1 h h1 q
 rw [h2] at Bg
 refine Bg fun e' aE γ' C' ts' w' q1 q2 q3 q4=> ?_
 exact ⟨rfl,rfl,trivial,keep L e',aE,γ',C',q1,E6 q2,q3.keep L,hx1.trans q4⟩
end
end Go.Am
end
section
namespace Go.Am
open Go
variable [Tabs]
def pX (N:Nat):av→Bool
 | .rg ops=>jG N ops
 | .seq a b| .cond _ a b=>pX N a&&pX N b
 | .blk _ c| .loop c=>pX N c
 |_=>true
def AX (P:Program) (L:List Nat) (N n0:Nat) (c:av) (Q:Exit→Env→AH→Prop) (e:Env) (ah:AH):Prop:=
 ∀c',bJ P c'=some c→AW P L N n0 c' Q e ah
def iU (P:Program) (L:List Nat) (N n0:Nat):av→(Exit→Env→AH→Prop)→Env→AH→Prop
 | .skip,Q,e,ah=>Q .normal e ah
 | .ret,Q,e,ah=>Q .ret e ah
 | .exit i,Q,e,ah=>Q (.exit i) e ah
 | .rg ops,Q,e,ah=>dV P L ops e ah fun e ah=>Q .normal (keep L e) ah
 | .seq a b,Q,e,ah=>iU P L N n0 a (fun x e ah=>match x with| .normal=>iU P L N n0 b Q e ah|x=>Q x e ah) e ah
 | .cond c a b,Q,e,ah=>match ev e c with
   | .bool t=>if t then iU P L N n0 a Q e ah else iU P L N n0 b Q e ah
   |_=>False
 | .blk i c,Q,e,ah=>iU P L N n0 c (fun x e ah=>match x with| .exit j=>if j=i then Q .normal e ah else Q (.exit j) e ah|x=>Q x e ah) e ah
 | .loop c,Q,e,ah=>AX P L N n0 (.loop c) Q e ah
 | .sem c,Q,e,ah=>AX P L N n0 c Q e ah
section
variable {P:Program} {L:List Nat} {N n0:Nat} {e:Env} {ah:AH}
theorem AW.region {id:Nat} {ops:Array Oper} {zq:List aL} {Q:Exit→Env→AH→Prop} (hc:iV P ops ops.toList=some (zq.map aL.er)) (hd:jG N zq=true)
 (h:dV P L zq e ah fun e ah=>Q .normal (keep L e) ah):AW P L N n0 (.region id ops false) Q e ah:=by
 intro F γ C ts w hs hn
 refine wp_region_list (UW ops.toList zq e ah _ F γ C ts w _ hc hd hs h ?_)
 intro e' aE γ' C' ts' w' hq hγ hs' hx
 exact ⟨rfl,trivial,keep L e',aE,γ',C',hq,E6 hγ,hs'.keep L,hx⟩
theorem nS:∀(c':Code) (c:av) (Q:Exit→Env→AH→Prop) (e:Env) (ah:AH),bJ P c'=some (erase c)→pX N (erase c)=true→iU P L N n0 c Q e ah→AW P L N n0 c' Q e ah:=by
 intro c'
 induction c' with
 |skip=>
  intro c Q e ah hc ho h
  cases c with
  |sem c0=>exact h _ hc
  |skip=>exact AW.skip h
  |_=>simp [bJ,erase] at hc
 |label l=>
  intro c Q e ah hc ho h
  cases c with
  |sem c0=>exact h _ hc
  |skip=>exact AW.label h
  |_=>simp [bJ,erase] at hc
 |ret=>
  intro c Q e ah hc ho h
  cases c with
  |sem c0=>exact h _ hc
  |ret=>exact AW.ret h
  |_=>simp [bJ,erase] at hc
 |exit i=>
  intro c Q e ah hc ho h
  cases c with
  |sem c0=>exact h _ hc
  |exit j=>simp [bJ,erase] at hc;subst hc;exact AW.exit h
  |_=>simp [bJ,erase] at hc
 |region id ops draw=>
  intro c Q e ah hc ho h
  cases c with
  |sem c0=>exact h _ hc
  |rg zq=>
   simp only [bJ,erase] at hc
   cases draw with
   |true=>
    simp only [if_true] at hc
    split at hc
    case isFalse=>cases hc
    rename_i hmn
    simp only [Bool.and_eq_true] at hmn
    split at hc
    case h_2=>cases hc
    rename_i st hst
    simp only [Option.map_eq_some_iff] at hc
    obtain ⟨zq',has,he⟩:=hc
    injection he with he
    subst he
    exact AW.drawn hmn.1 hmn.2 hst has (by simpa only [erase,pX,MJ] using ho) h
   |false=>
    simp only [Bool.false_eq_true,if_false,Option.map_eq_some_iff] at hc
    obtain ⟨zq',has,he⟩:=hc
    injection he with he
    subst he
    exact AW.region has (by simpa only [erase,pX,MJ] using ho) h
  |_=>simp only [bJ,erase] at hc;repeat' (split at hc)<;>simp at hc
 |seq a b CD CE=>
  intro c Q e ah hc ho h
  cases c with
  |sem c0=>exact h _ hc
  |seq x y=>
   simp only [bJ,erase] at hc
   split at hc
   case h_2=>cases hc
   rename_i a' b' ha hb
   injection hc with hc
   injection hc with h1 h2
   subst h1;subst h2
   simp only [erase,pX,Bool.and_eq_true] at ho
   refine AW.seq ((CD x _ e ah ha ho.1 h).mono fun x e ah hx=> ?_)
   cases x with
   |normal=>exact CE y _ e ah hb ho.2 hx
   |_=>exact hx
  |_=>simp only [bJ,erase] at hc;split at hc<;>simp at hc
 |cond c0 a b CD CE=>
  intro c Q e ah hc ho h
  cases c with
  |sem c0=>exact h _ hc
  |cond c2 x y=>
   simp only [bJ,erase] at hc
   split at hc
   case h_2=>cases hc
   rename_i c1 a' b' h1 ha hb
   injection hc with hc
   injection hc with g0 g1 g2
   subst g0;subst g1;subst g2
   simp only [erase,pX,Bool.and_eq_true] at ho
   simp only [iU] at h
   split at h
   case h_2=>exact h.elim
   rename_i t ht
   refine AW.cond h1 ht ?_
   cases t with
   |true=>exact CD x Q e ah ha ho.1 h
   |false=>exact CE y Q e ah hb ho.2 h
  |_=>simp only [bJ,erase] at hc;split at hc<;>simp at hc
 |block i c0 ih=>
  intro c Q e ah hc ho h
  cases c with
  |sem c0=>exact h _ hc
  |blk j x=>
   simp only [bJ,erase,Option.map_eq_some_iff] at hc
   obtain ⟨a,ha,he⟩:=hc
   injection he with h1 h2
   subst h1;subst h2
   exact AW.blk (ih x _ e ah ha ho h)
  |_=>simp [bJ,erase] at hc
 |loop c0 ih=>
  intro c Q e ah hc ho h
  cases c with
  |sem c0=>exact h _ hc
  |loop x=>exact h _ hc
  |_=>simp [bJ,erase] at hc
 |rangeFunc=>intro c Q e ah hc;simp [bJ] at hc
 |goto=>intro c Q e ah hc;simp [bJ] at hc
 |scope c0 ih=>intro c Q e ah hc ho h;exact AW.scope (ih c Q e ah hc ho h)
 |refuse=>intro c Q e ah hc;simp [bJ] at hc
theorem Af {o:Oper} {x:Ar} (h:cop P o=some (.qf x)):False:=by
 obtain ⟨d,oo,ty,pos,af,gd⟩:=o
 cases oo with
 |makeFunc fn first cs=>
  cases fn with
  |func f=>simp only [cop] at h;split at h<;>simp at h
  |_=>simp [cop] at h
 |call c=>
  obtain ⟨callee,args,tys⟩:=c
  simp only [cop] at h
  (repeat' (split at h))<;>(first|(cases h;done)|(simp at h;done))
 |_=>
  simp only [cop] at h
  first
   |cases h;done
   |(simp at h;done)
   |(repeat' (split at h))<;>(first|(cases h;done)|(simp at h;done))
theorem xq {o:Oper} {k b:Nat} {x y:Ar} (h:cop P o=some (.kB k b x y)):False:=by
 obtain ⟨d,oo,ty,pos,af,gd⟩:=o
 cases oo with
 |makeFunc fn first cs=>
  cases fn with
  |func f=>simp only [cop] at h;split at h<;>simp at h
  |_=>simp [cop] at h
 |call c=>
  obtain ⟨callee,args,tys⟩:=c
  simp only [cop] at h
  (repeat' (split at h))<;>(first|(cases h;done)|(simp at h;done))
 |_=>
  simp only [cop] at h
  first
   |cases h;done
   |(simp at h;done)
   |(repeat' (split at h))<;>(first|(cases h;done)|(simp at h;done))
theorem Ag {o:Oper} {k:Nat} {x:Ar} (h:cop P o=some (.z7 k x)):False:=by
 obtain ⟨d,oo,ty,pos,af,gd⟩:=o
 cases oo with
 |makeFunc fn first cs=>
  cases fn with
  |func f=>simp only [cop] at h;split at h<;>simp at h
  |_=>simp [cop] at h
 |call c=>
  obtain ⟨callee,args,tys⟩:=c
  simp only [cop] at h
  (repeat' (split at h))<;>(first|(cases h;done)|(simp at h;done))
 |_=>
  simp only [cop] at h
  first
   |cases h;done
   |(simp at h;done)
   |(repeat' (split at h))<;>(first|(cases h;done)|(simp at h;done))
theorem UY {o:Oper} {op:fc} (h:cop P o=some op):op.er=op:=by
 cases op with
 |qf x=>exact (Af h).elim
 |kB=>exact (xq h).elim
 |z7=>exact (Ag h).elim
 |_=>rfl
theorem Ro {m:Bool} {o:Oper} {op:fc} (h:dS P m o=some op):op.er=op:=by
 cases op with
 |qf x=>
  exfalso
  cases m with
  |true=>exact Af (by simpa [dS] using h)
  |false=>
   simp only [dS,Bool.false_eq_true,if_false,Option.map_eq_some_iff] at h
   obtain ⟨op',h1,h2⟩:=h
   cases op' with
   |jH hh y=>cases hh<;>cases h2
   |ld y n=>cases h2
   |qf y=>exact Af h1
   |_=>cases h2
 |kB=>
  exfalso
  cases m with
  |true=>exact xq (by simpa [dS] using h)
  |false=>
   simp only [dS,Bool.false_eq_true,if_false,Option.map_eq_some_iff] at h
   obtain ⟨op',h1,h2⟩:=h
   cases op' with
   |jH hh y=>cases hh<;>cases h2
   |ld y n=>cases h2
   |kB=>exact xq h1
   |_=>cases h2
 |z7=>
  exfalso
  cases m with
  |true=>exact Ag (by simpa [dS] using h)
  |false=>
   simp only [dS,Bool.false_eq_true,if_false,Option.map_eq_some_iff] at h
   obtain ⟨op',h1,h2⟩:=h
   cases op' with
   |jH hh y=>cases hh<;>cases h2
   |ld y n=>cases h2
   |z7=>exact Ag h1
   |_=>cases h2
 |_=>rfl
theorem Rp {ops:Array Oper}:∀(n:Nat) (l:List Oper) (zq:List aL),l.length≤n→iV P ops l=some zq→zq.map aL.er=zq:=by
 intro n
 induction n with
 |zero=>
  intro l zq hn h
  obtain rfl:l=[]:=List.eq_nil_of_length_eq_zero (by omega)
  simp only [iV,Option.some.injEq] at h;subst h;rfl
 |succ n ih=>
  intro l zq hn h
  rcases Bc h with ⟨rfl,rfl⟩|⟨o,o2,r,a,zq',rfl,h2,h3,rfl⟩|⟨o,o2,r,ag,zq',rfl,h2,h3,rfl⟩|⟨o,r,op,g,zq',rfl,h2,h3,h4,rfl⟩
  · rfl
  · obtain ⟨y,bs,hl⟩:=CA h2
    obtain ⟨d,op,g⟩:=a
    simp only at hl;subst hl
    simp only [List.map_cons,ih r zq' (by simp at hn;omega) h3];rfl
  · obtain ⟨d,y,bs,t,w,g,rfl, -⟩:=Ad h2
    simp only [List.cons_append,List.nil_append,List.map_cons,ih r zq' (by simp at hn;omega) h3];rfl
  · have he:op.er=op:=by
     rcases h2 with h2|rfl
     · exact UY h2
     · rfl
    simp only [List.map_cons,ih r zq' (by simp at hn;omega) h4,aL.er,he]
theorem NO {ops:Array Oper}:∀(l:List (Bool×Nat)) (zq:List aL),eT P ops l=some zq→zq.map aL.er=zq:=by
 intro l
 induction l with
 |nil=>intro zq h;simp only [eT,Option.some.injEq] at h;subst h;rfl
 |cons p r ih=>
  intro zq h
  obtain ⟨m,i⟩:=p
  obtain ⟨o,a,g,zq',h1,h2,h3,h4,rfl⟩:=Be h
  simp only [List.map_cons,ih zq' h4,aL.er,Ro h2]
theorem iz:∀(c':Code) (c:av),bJ P c'=some c→erase c=c:=by
 intro c'
 induction c' with
 |skip=>intro c hc;simp [bJ] at hc;subst hc;rfl
 |label l=>intro c hc;simp [bJ] at hc;subst hc;rfl
 |ret=>intro c hc;simp [bJ] at hc;subst hc;rfl
 |exit i=>intro c hc;simp [bJ] at hc;subst hc;rfl
 |region id ops draw=>
  intro c hc
  simp only [bJ] at hc
  cases draw with
  |true=>
   simp only [if_true] at hc
   split at hc
   · split at hc
     · simp only [Option.map_eq_some_iff] at hc;obtain ⟨zq,has,rfl⟩:=hc;simp only [erase,NO _ _ has]
     · cases hc
   · cases hc
  |false=>simp only [Bool.false_eq_true,if_false,Option.map_eq_some_iff] at hc;obtain ⟨zq,has,rfl⟩:=hc;simp only [erase,Rp _ _ _ (Nat.le_refl _) has]
 |seq a b CD CE=>
  intro c hc
  simp only [bJ] at hc
  split at hc
  case h_2=>cases hc
  rename_i a' b' ha hb
  injection hc with hc
  subst hc
  simp only [erase,CD _ ha,CE _ hb]
 |cond c0 a b CD CE=>
  intro c hc
  simp only [bJ] at hc
  split at hc
  case h_2=>cases hc
  rename_i c1 a' b' h1 ha hb
  injection hc with hc
  subst hc
  simp only [erase,CD _ ha,CE _ hb]
 |block i c0 ih=>intro c hc;simp only [bJ,Option.map_eq_some_iff] at hc;obtain ⟨a,ha,rfl⟩:=hc;simp only [erase,ih _ ha]
 |loop c0 ih=>intro c hc;simp only [bJ,Option.map_eq_some_iff] at hc;obtain ⟨a,ha,rfl⟩:=hc;rfl
 |rangeFunc=>intro c hc;simp [bJ] at hc
 |goto=>intro c hc;simp [bJ] at hc
 |scope c0 ih=>intro c hc;exact ih c hc
 |refuse=>intro c hc;simp [bJ] at hc
inductive It where
 |ops (r:List aL)
 |keep
 |code (c:av)
 |blk (i:Nat)
def U (P:Program) (L:List Nat) (N n0:Nat):List It→(Exit→Env→AH→Prop)→Exit→Env→AH→Prop
 |[],Q,x,e,ah=>Q x e ah
 | .code c::t,Q, .normal,e,ah=>iU P L N n0 c (fun x e ah=>U P L N n0 t Q x e ah) e ah
 | .ops r::t,Q, .normal,e,ah=>dV P L r e ah fun e ah=>U P L N n0 t Q .normal e ah
 | .keep::t,Q, .normal,e,ah=>U P L N n0 t Q .normal (keep L e) ah
 | .blk i::t,Q, .exit j,e,ah=>if j=i then U P L N n0 t Q .normal e ah else U P L N n0 t Q (.exit j) e ah
 | .blk _::t,Q,x,e,ah=>U P L N n0 t Q x e ah
 | .code _::t,Q,x,e,ah=>U P L N n0 t Q x e ah
 | .ops _::t,Q,x,e,ah=>U P L N n0 t Q x e ah
 | .keep::t,Q,x,e,ah=>U P L N n0 t Q x e ah
def UK (P:Program) (L:List Nat) (N n0 f:Nat) (zq:List AV) (d:Option Nat) (r:List aL) (t:List It) (Q:Exit→Env→AH→Prop) (e:Env) (ah:AH):Prop:=
 aF P f zq ah fun v aE=>U P L N n0 (.ops r::t) Q .normal (aG L (vm e) d v.df) aE
def UF (P:Program) (L:List Nat) (N n0:Nat) (zq:List Ar) (d:Option Nat) (r:List aL) (t:List It) (Q:Exit→Env→AH→Prop) (e:Env) (ah:AH):AV→Prop
 | .fn f caps=>if aS caps then UK P L N n0 f (zq.map (fun x=>(ev e x).sh)++caps.map AV.s1) d r t Q e ah else False
 |_=>False
def US (P:Program) (L:List Nat) (N n0:Nat) (r:List aL) (t:List It) (Q:Exit→Env→AH→Prop):Option (Env×AH)→Prop
 |some (e,ah)=>U P L N n0 (.ops r::t) Q .normal e ah
 |none=>False
def UG (P:Program) (L:List Nat) (N n0:Nat) (o:aL) (r:List aL) (t:List It) (Q:Exit→Env→AH→Prop) (e:Env) (ah:AH):Option Bool→Prop
 |some true=>match o.op with
  | .call f zq=>UF P L N n0 zq o.d r t Q e ah (ev e f)
  | .kB k b x y=>nW L o.d k b x y e ah fun e ah=>U P L N n0 (.ops r::t) Q .normal e ah
  | .nq n x=>Cf L o.d n x e ah fun e ah=>U P L N n0 (.ops r::t) Q .normal e ah
  |_=>US P L N n0 r t Q (bH L o e ah)
 |some false=>U P L N n0 (.ops r::t) Q .normal (n7 e o.d) ah
 |none=>False
def UC (P:Program) (L:List Nat) (N n0:Nat) (a b:av) (t:List It) (Q:Exit→Env→AH→Prop) (e:Env) (ah:AH):AV→Prop
 | .bool true=>U P L N n0 (.code a::t) Q .normal e ah
 | .bool false=>U P L N n0 (.code b::t) Q .normal e ah
 |_=>False
def UX (P:Program) (L:List Nat) (N n0:Nat) (c:av) (t:List It) (Q:Exit→Env→AH→Prop) (e:Env) (ah:AH):Prop:=
 AX P L N n0 c (fun x e ah=>U P L N n0 t Q x e ah) e ah
variable {t:List It} {Q:Exit→Env→AH→Prop} {x:Exit}
@[simp] theorem XP:U P L N n0 [] Q x e ah=Q x e ah:=rfl
@[simp] theorem UZ:U P L N n0 (.code .skip::t) Q .normal e ah=U P L N n0 t Q .normal e ah:=rfl
@[simp] theorem XQ:U P L N n0 (.code .ret::t) Q .normal e ah=U P L N n0 t Q .ret e ah:=rfl
@[simp] theorem U0 {i:Nat}:U P L N n0 (.code (.exit i)::t) Q .normal e ah=U P L N n0 t Q (.exit i) e ah:=rfl
theorem Rq (b:av):(fun x e ah=>match x with| .normal=>iU P L N n0 b (fun x e ah=>U P L N n0 t Q x e ah) e ah|x=>U P L N n0 t Q x e ah)=fun x e ah=>U P L N n0 (.code b::t) Q x e ah:=by
 funext x e ah
 cases x<;>rfl
@[simp] theorem XR {a b:av}:U P L N n0 (.code (.seq a b)::t) Q .normal e ah=U P L N n0 (.code a:: .code b::t) Q .normal e ah:=by
  simp only [U,iU]
  exact congrArg (fun K=>iU P L N n0 a K e ah) (Rq b)
@[simp] theorem XS {i:Nat} {c:av}:U P L N n0 (.code (.blk i c)::t) Q .normal e ah=U P L N n0 (.code c:: .blk i::t) Q .normal e ah:=by
  have:(fun x e ah=>match x with| .exit j=>if j=i then U P L N n0 t Q .normal e ah else U P L N n0 t Q (.exit j) e ah|x=>U P L N n0 t Q x e ah)=fun x e ah=>U P L N n0 (.blk i::t) Q x e ah:=by
   funext x e ah
   cases x<;>rfl
  exact congrArg (fun K=>iU P L N n0 c K e ah) this
@[simp] theorem aao {ops:List aL}:U P L N n0 (.code (.rg ops)::t) Q .normal e ah=U P L N n0 (.ops ops:: .keep::t) Q .normal e ah:=rfl
@[simp] theorem U1 {c:av}:U P L N n0 (.code (.loop c)::t) Q .normal e ah=UX P L N n0 (.loop c) t Q e ah:=rfl
@[simp] theorem XT {c:av}:U P L N n0 (.code (.sem c)::t) Q .normal e ah=UX P L N n0 c t Q e ah:=rfl
@[simp] theorem U2 {c:Ar} {a b:av}:U P L N n0 (.code (.cond c a b)::t) Q .normal e ah=UC P L N n0 a b t Q e ah (ev e c):=by
  simp only [U,iU]
  cases ev e c with
  |bool t=>cases t<;>rfl
  |_=>rfl
@[simp] theorem U3:U P L N n0 (.keep::t) Q .normal e ah=U P L N n0 t Q .normal (keep L e) ah:=rfl
@[simp] theorem Rr {i:Nat}:U P L N n0 (.blk i::t) Q .normal e ah=U P L N n0 t Q .normal e ah:=rfl
@[simp] theorem Rs {i:Nat}:U P L N n0 (.blk i::t) Q .ret e ah=U P L N n0 t Q .ret e ah:=rfl
@[simp] theorem Rt {i j:Nat}:U P L N n0 (.blk i::t) Q (.exit j) e ah=if j=i then U P L N n0 t Q .normal e ah else U P L N n0 t Q (.exit j) e ah:=rfl
@[simp] theorem NP {c:av}:U P L N n0 (.code c::t) Q .ret e ah=U P L N n0 t Q .ret e ah:=by cases c<;>rfl
@[simp] theorem NQ {c:av} {j:Nat}:U P L N n0 (.code c::t) Q (.exit j) e ah=U P L N n0 t Q (.exit j) e ah:=by cases c<;>rfl
@[simp] theorem Kk:U P L N n0 (.ops []::t) Q .normal e ah=U P L N n0 t Q .normal e ah:=rfl
@[simp] theorem XU {o:aL} {r:List aL}:U P L N n0 (.ops (o::r)::t) Q .normal e ah=UG P L N n0 o r t Q e ah (fH e o):=by
  simp only [U,dV]
  cases fH e o with
  |none=>rfl
  |some b=>
   cases b with
   |false=>rfl
   |true=>
    obtain ⟨d,op,g⟩:=o
    cases op with
    |call f zq=>
     simp only [yZ,UG]
     cases ev e f with
     |fn f' caps=>
      simp only [UF,UK]
      by_cases hf:aS caps=true
      · simp only [hf,if_true,true_and];rfl
      · simp [hf]
     |_=>rfl
    |kB k b x y=>rfl
    |nq n x=>rfl
    |_=>
     simp only [yZ,UG,US]
     cases bH L ⟨d,_,g⟩ e ah with
     |none=>rfl
     |some ea=>obtain ⟨e',aE⟩:=ea;rfl
@[simp] theorem Ru {r:List aL} {e':Env} {aE:AH}:US P L N n0 r t Q (some (e',aE))=U P L N n0 (.ops r::t) Q .normal e' aE:=rfl
@[simp] theorem NR {o:aL} {r:List aL}:UG P L N n0 o r t Q e ah (some false)=U P L N n0 (.ops r::t) Q .normal (n7 e o.d) ah:=rfl
@[simp] theorem Rv {a b:av}:UC P L N n0 a b t Q e ah (.bool true)=U P L N n0 (.code a::t) Q .normal e ah:=rfl
@[simp] theorem NS {a b:av}:UC P L N n0 a b t Q e ah (.bool false)=U P L N n0 (.code b::t) Q .normal e ah:=rfl
@[simp] theorem XV {zq:List Ar} {d:Option Nat} {r:List aL} {f:Nat} {caps:List AV}:UF P L N n0 zq d r t Q e ah (.fn f caps)=
 if aS caps then UK P L N n0 f (zq.map (fun x=>(ev e x).sh)++caps.map AV.s1) d r t Q e ah else False:=rfl
theorem ZZ {a b:av} {v:Bool} (h1:v=true→U P L N n0 (.code a::t) Q .normal e ah) (h2:v=false→U P L N n0 (.code b::t) Q .normal e ah):UC P L N n0 a b t Q e ah (.bool v):=by
 cases v
 · exact h2 rfl
 · exact h1 rfl
theorem ab9 {f:Nat} {zq:List AV} {d:Option Nat} {r:List aL} {R:AV→AH→Prop} (h:aF P f zq ah R) (hk:∀v aE,R v aE→U P L N n0 (.ops r::t) Q .normal (aG L (vm e) d v.df) aE):
 UK P L N n0 f zq d r t Q e ah:=h.mono hk
theorem aap {c:av} (I:Nat→Env→AH→Prop) {k0:Nat} (ho:pX N c=true)
 (round:∀k e ah,I k e ah→U P L N n0 [.code c] (fun x e' aE=>match x with| .normal=>∃k',k'<k∧I k' e' aE|x=>U P L N n0 t Q x e' aE) .normal e ah) (h0:I k0 e ah):
 UX P L N n0 (.loop c) t Q e ah:=by
 intro c'
 induction c' with
 |loop c0 _=>
  intro bV
  simp only [bJ,Option.map_eq_some_iff] at bV
  obtain ⟨a,ha,he⟩:=bV
  injection he with he
  subst he
  exact AW.loop I (fun k e ah hI=>nS c0 a _ e ah (by rw [iz c0 a ha];exact ha) (by rw [iz c0 a ha];exact ho) (round k e ah hI)) h0
 |scope c0 ih=>exact fun bV=>AW.scope (ih bV)
 |region id ops draw=>intro bV;simp only [bJ] at bV;repeat' (split at bV)<;>simp at bV
 |block i c0=>intro bV;simp only [bJ,Option.map_eq_some_iff] at bV;obtain ⟨a, -,h⟩:=bV;cases h
 |seq a b=>intro bV;simp only [bJ] at bV;split at bV<;>simp at bV
 |cond a b c=>intro bV;simp only [bJ] at bV;split at bV<;>simp at bV
 |_=>intro bV;simp [bJ] at bV
end
end Go.Am
end
section
namespace Go.Am
open Go
variable [Tabs]
def AV.ew:AV→Bool
 | .bx _=>true
 |_=>false
def fJ (P:Program) (e:Env) (ah:AH):List ResultVar→Option (List AV)
 |[]=>some []
 | .tmp t::r=>if (get e t).ew then none else match fJ P e ah r with
   |some vs=>some (get e t::vs)
   |none=>none
 | .cell a ty::r=>if tok P ty then
  match get e a with
  | .ptr s o=>match ah[s]? with
    |some cs=>match jI (tn P ty) s o cs,fJ P e ah r with
     |some v,some vs=>some (v.sh::vs)
     |_,_=>none
    |none=>none
  |_=>none
   else none
def fin:List AV→AV
 |[a]=>a.df
 |l=> .bx (l.map AV.sh)
inductive Cl (n:Nat):AV→Prop
 |ptr (s o):s<n→Cl n (.ptr s o)
 |fn (f cs):(∀a∈cs,Cl n a)→Cl n (.fn f cs)
 |agg (cs):(∀a∈cs,Cl n a)→Cl n (.agg cs)
 |bx (cs):(∀a∈cs,Cl n a)→Cl n (.bx cs)
 |v (x):Cl n (.v x)
 |int (k i):Cl n (.int k i)
 |bool (b):Cl n (.bool b)
 |str (l):Cl n (.str l)
 |sl (t k xs):Cl n (.sl t k xs)
 |ep (e o):Cl n (.ep e o)
 |cv (s k o m):s<n→Cl n (.cv s k o m)
 |qh (s k):Cl n (.ck s k 0 0)
 |ck (s k m c):s<n→Cl n (.ck s k m c)
 |dF:Cl n .dF
 |un:Cl n .un
@[simp] theorem U4 {n s k o m:Nat}:Cl n (.cv s k o m)↔s<n:=⟨fun h=>by cases h;assumption, .cv _ _ _ _⟩
@[simp] theorem abT {n:Nat}:Cl n .dF:= .dF
@[simp] theorem U5 {n s o:Nat}:Cl n (.ptr s o)↔s<n:=⟨fun h=>by cases h;assumption, .ptr _ _⟩
@[simp] theorem XW {n f:Nat} {cs:List AV}:Cl n (.fn f cs)↔∀a∈cs,Cl n a:=⟨fun h=>by cases h;assumption, .fn _ _⟩
@[simp] theorem U6 {n:Nat} {cs:List AV}:Cl n (.agg cs)↔∀a∈cs,Cl n a:=⟨fun h=>by cases h;assumption, .agg _⟩
@[simp] theorem U7 {n:Nat} {cs:List AV}:Cl n (.bx cs)↔∀a∈cs,Cl n a:=⟨fun h=>by cases h;assumption, .bx _⟩
@[simp] theorem acG {n:Nat} {x:Value}:Cl n (.v x):= .v _
@[simp] theorem abU {n:Nat} {k:IntKind} {i:Int}:Cl n (.int k i):= .int ..
@[simp] theorem aaq {n:Nat} {b:Bool}:Cl n (.bool b):= .bool _
@[simp] theorem abV {n:Nat} {l:List UInt8}:Cl n (.str l):= .str _
@[simp] theorem acd {n:Nat} {t:Tg} {k:Nat} {xs:List AV}:Cl n (.sl t k xs):= .sl ..
@[simp] theorem ace {n:Nat} {e:AV} {o:Nat}:Cl n (.ep e o):= .ep ..
@[simp] theorem acH {n:Nat}:Cl n .un:= .un
def ko (n:Nat) (ah:AH):Prop:=∀(s:Nat) (cs:List AV),ah[s]? =some cs→∀a∈cs,Cl n a
def Kl (P:Program) (n:Nat) (rs:List ResultVar) (R:AV→AH→Prop) (x:Exit) (e:Env) (ah:AH):Prop:=
 (x= .normal∨x= .ret)∧match fJ P e ah rs with
  |some vs=>Cl n (fin vs)∧ko n (ah.take n)∧n≤ah.length∧R (fin vs) (ah.take n)
  |none=>False
section
variable {P:Program} {L:List Nat} {N n0:Nat} {F:Nat→Prop} {γ:List Nat} {C C':Nat→List Value} {e:Env} {ah:AH} {ts:Array Value} {w w':World}
theorem VR.take {a:AV} {v:Value} {n:Nat} (h:VR C γ a v):Cl n a→VR C (γ.take n) a v:=by
 induction h with
 |v _ _ hs=>intro _;exact .v _ _ hs
 |un=>intro _;exact .un ..
 |int=>intro _;exact .int ..
 |bool=>intro _;exact .bool ..
 |str=>intro _;exact .str ..
 |ptr _ s o b hb=>intro hn;exact .ptr _ _ _ _ (by rw [List.getElem?_take_of_lt (U5.1 hn)];exact hb)
 |cv _ s k o n b c hb hn'=>intro hn;exact .cv _ _ _ _ _ _ _ (by rw [List.getElem?_take_of_lt (U4.1 hn)];exact hb) hn'
 |qh=>intro _;exact .qh ..
 |ck _ s k n b c hb hn'=>
  intro hn
  cases hn with
  |qh=>exact .qh ..
  |ck _ _ _ _ hs=>exact .ck _ _ _ _ _ _ (by rw [List.getElem?_take_of_lt hs];exact hb) hn'
 |dF=>intro _;exact .dF ..
 |rE=>intro _;exact .rE ..
 |sl _ _ _ _ b o n c hn' hc hk hl ho hx=>intro _;exact .sl _ _ _ _ _ _ _ _ hn' hc hk hl ho hx
 |ep _ _ _ b p hl hx=>intro _;exact .ep _ _ _ _ _ hl hx
 |agg _ cs vs hl hx ih=>intro hn;exact .agg _ _ _ hl fun i a hi=>ih i a hi (U6.1 hn a (List.mem_of_getElem? hi))
 |bx _ cs vs hl hx ih=>intro hn;exact .bx _ _ _ hl fun i a hi=>ih i a hi (U7.1 hn a (List.mem_of_getElem? hi))
 |fn _ f cs vs hl hx ih=>intro hn;exact .fn _ _ _ _ hl fun i a hi=>ih i a hi (XW.1 hn a (List.mem_of_getElem? hi))
theorem VR.cl {a:AV} {v:Value} (h:VR C γ a v):Cl γ.length a:=by
 have mem:∀ {cs:List AV} {a:AV},a∈cs→∃i:Nat,cs[i]? =some a:=fun ha=>by
  obtain ⟨i,hi,rfl⟩:=List.getElem_of_mem ha;exact ⟨i,List.getElem?_eq_getElem hi⟩
 induction h with
 |ptr _ s o b hb=>exact .ptr _ _ (List.getElem?_eq_some_iff.1 hb).1
 |agg _ cs vs hl hx ih=>exact .agg _ fun a ha=>by obtain ⟨i,hi⟩:=mem ha;exact ih i a hi
 |bx _ cs vs hl hx ih=>exact .bx _ fun a ha=>by obtain ⟨i,hi⟩:=mem ha;exact ih i a hi
 |fn _ f cs vs hl hx ih=>exact .fn _ _ fun a ha=>by obtain ⟨i,hi⟩:=mem ha;exact ih i a hi
 |cv _ s k o n b c hb _=>exact .cv _ _ _ _ (List.getElem?_eq_some_iff.1 hb).1
 |qh=>exact .qh ..
 |ck _ s k n b c hb _=>exact .ck _ _ _ _ (List.getElem?_eq_some_iff.1 hb).1
 |dF=>exact .dF
 |v=>exact .v _
 |un=>exact .un
 |int=>exact .int ..
 |bool=>exact .bool _
 |str=>exact .str _
 |rE=>exact .sl ..
 |sl=>exact .sl ..
 |ep=>exact .ep ..
theorem Km (h:SR L N F γ C e ah ts w) {a s o:Nat} {ty:TypeId} (ht:tok P ty=true) (hp:get e a= .ptr s o) {cs:List AV} (hs:ah[s]? =some cs) {v:AV} (hl:jI (tn P ty) s o cs=some v):
 ∃u ad,ts.getD a undef= .pointer (some ad)∧(loadVar ty ad).run P w= .ok u w∧VR C γ v.sh u∧TC w C v.sh u:=by
 have hv:=(h.env a).1
 rw [hp] at hv
 obtain ⟨b,hb,hv⟩:=hv.gU
 obtain ⟨vs,tv,hh,hsz,hcell⟩:=h.mem.obj s b cs hs hb
 have vb:=dm hh
 cases hn:tn P ty with
 |some n=>
  simp only [hn,jI] at hl
  split at hl
  case isFalse=>cases hl
  rename_i hq
  obtain ⟨hq,hfl⟩:=hq
  injection hl with hl
  subst hl
  obtain ⟨r,hr,hrs,hrc⟩:=(run_load (w:=w) ht (b:=b) (o:=o)).1 n hn (fun j hj=>by
   rw [vb];exact ⟨_,Array.getElem?_eq_getElem (by omega)⟩)
  obtain rfl:r=vs.extract o (o+n):=by
   apply Array.ext_getElem?
   intro j
   by_cases hj:j<n
   · rw [hrc j hj,vb,Array.getElem?_extract,if_pos (by omega)]
   · rw [Array.getElem?_eq_none (by omega),Array.getElem?_eq_none (by simp;omega)]
  refine ⟨_,_,hv,hr, ?_, ?_⟩
  · exact (Wk.sh _).vr ((Wk.mX _ Wk.br _).vr (Cn hsz (fun i a hi=>(hcell i a hi).1) hq))
  · exact (Wk.sh _).tc ((Wk.mX _ Wk.br _).tc (u9 hsz (fun i a hi hin=>yS (hcell _ a hi).2 (iu hfl (i:=i) (by rw [List.getElem?_take_of_lt hin,List.getElem?_drop];exact hi))) hq))
 |none=>
  simp only [hn,jI] at hl
  have ve:∀c,cs[o]? =some c→w.cell? ⟨b,o,none⟩=some (vs.getD o undef):=by
   intro c iw
   have hlt:o<vs.size:=Nat.lt_of_lt_of_le (List.getElem?_eq_some_iff.1 iw).1 hsz
   rw [vb];simp [Array.getD_eq_getD_getElem?,Array.getElem?_eq_getElem hlt]
  split at hl
  · rename_i k xs iw
    injection hl with hl
    subst hl
    have hr:=(run_load (w:=w) ht (b:=b) (o:=o)).2 _ hn (ve _ iw)
    exact ⟨_,_,hv,hr,(hcell o _ iw).1.iT _,by simp only [AV.sh,AV.br,Tg.sh];cases (vs.getD o undef)<;>trivial⟩
  · rename_i c hno iw
    split at hl
    case isFalse=>cases hl
    rename_i hfl
    injection hl with hl
    subst hl
    have hr:=(run_load (w:=w) ht (b:=b) (o:=o)).2 _ hn (ve _ iw)
    refine ⟨_,_,hv,hr, ?_, ?_⟩
    · exact (Wk.sh _).vr ((Wk.jt (Wk.br c)).vr (hcell o _ iw).1)
    · exact (Wk.sh _).tc (B7 (yS (hcell o _ iw).2 hfl))
  · cases hl
theorem U8 (h:SR L N F γ C e ah ts w):∀(rs:List ResultVar) (vs:List AV),fJ P e ah rs=some vs→
 ∃us:List Value,(rs.mapM fun| .tmp t=>pure (ts.getD t undef)| .cell a t=>do loadVar t (←asAddr (ts.getD a undef)):Sem (List Value)).run P w= .ok us w∧us.length=vs.length∧
  (∀(i:Nat) (a:AV),vs[i]? =some a→VR C γ a (us.getD i undef)∧TC w C a (us.getD i undef))∧
  (∀(i:Nat) (a:AV) (b:Nat),vs[i]? =some a→bO a (us.getD i undef)=some b→∃t,blk γ e ah ts w (.tmp t) b)∧∀(i:Nat) (a:AV),vs[i]? =some a→a.ew=false:=by
 intro rs
 induction rs with
 |nil=>intro vs hr;simp [fJ] at hr;subst hr;exact ⟨[],rfl,rfl,by simp,by simp,by simp⟩
 |cons r rs ih=>
  intro vs hr
  cases r with
  |tmp t=>
   simp only [fJ] at hr
   split at hr
   case isTrue=>cases hr
   rename_i hnt
   split at hr
   case h_2=>cases hr
   rename_i vs' hvs
   injection hr with hr
   subst hr
   obtain ⟨us,h1,h2,h3,h4,h5⟩:=ih vs' hvs
   refine ⟨ts.getD t undef::us, ?_,by simp [h2],fun i a hi=> ?_,fun i a b hi hb=> ?_,fun i a hi=>by
    cases i with
    |zero=>simp at hi;subst hi;simpa using hnt
    |succ i=>exact h5 i a (by simpa using hi)⟩
   · simp only [List.mapM_cons,Sem.run_bind,Sem.run_pure,Result.andThen_ok,h1]
   · cases i with
     |zero=>simp at hi;subst hi;exact h.env t
     |succ i=>exact h3 i a (by simpa using hi)
   · cases i with
     |zero=>simp at hi;subst hi;exact ⟨t,hb⟩
     |succ i=>exact h4 i a b (by simpa using hi) hb
  |cell a ty=>
   simp only [fJ] at hr
   split at hr
   case isFalse=>cases hr
   rename_i ht
   split at hr
   case h_2=>cases hr
   rename_i s o hp
   split at hr
   case h_2=>cases hr
   rename_i cs hs
   split at hr
   case h_2=>cases hr
   rename_i v vs' hv hvs
   injection hr with hr
   subst hr
   obtain ⟨us,h1,h2,h3,h4,h5⟩:=ih vs' hvs
   obtain ⟨u,ad,g1,g2,g3,g4⟩:=Km (P:=P) h ht hp hs hv
   have hnt:v.sh.ew=false:=by
    unfold jI at hv
    split at hv
    · split at hv<;>simp at hv;subst hv;rfl
    · split at hv
      · injection hv with hv;subst hv;rfl
      · split at hv<;>simp at hv
        rename_i c _ _ hf
        subst hv
        cases c<;>first|rfl|cases hf
      · cases hv
   refine ⟨u::us, ?_,by simp [h2],fun i a hi=> ?_,fun i a b hi hb=> ?_,fun i a hi=>by
    cases i with
    |zero=>simp at hi;subst hi;exact hnt
    |succ i=>exact h5 i a (by simpa using hi)⟩
   · have hA:(asAddr (ts.getD a undef)).run P w= .ok ad w:=by rw [g1];rfl
     simp only [List.mapM_cons,Sem.run_bind,hA,Sem.run_pure,Result.andThen_ok,g2,h1]
   · cases i with
     |zero=>simp at hi;subst hi;exact ⟨g3,g4⟩
     |succ i=>exact h3 i a (by simpa using hi)
   · cases i with
     |zero=>simp at hi;subst hi;rw [gA _ (fY (sg v))] at hb;cases hb
     |succ i=>exact h4 i a b (by simpa using hi) hb
def W0 (P:Program) (n0:Nat) (rs:List ResultVar) (R:AV→AH→Prop) (x:Exit) (e:Env) (ah:AH):Prop:=
 (∃m,n0≤m∧Kl P m rs R x e ah)∨((x= .normal∨x= .ret)∧match fJ P e ah rs with
  |some vs=>R (fin vs) ah
  |none=>False)
theorem aF.MN {f:Nat} {fn:Func} {c:Code} {ac:av} {args:List AV} {R:AV→AH→Prop} (L:List Nat) (hf:P.funcs[f]? =some fn) (hname:fn.name≠ "runtime.NumGoroutine") (hb:fn.body=some c)
 (hc:bJ P c=some ac) (ho:pX fn.ntmps ac=true) (hN:args.length≤fn.ntmps)
 (h:ko ah.length ah→(∀a∈args,∀s o,a= .ptr s o→s<ah.length)→AX P L fn.ntmps ah.length ac (W0 P ah.length fn.results.toList R) (eE 0 args) ah):aF P f args ah R:=by
 refine ⟨by simp [iy,hf,hb,hname],fun F γ C w vs hs=> ?_⟩
 have hlen:=hs.mem.len
 have hcl:ko ah.length ah:=by
  intro s cs HW
  have hlt:s<γ.length:=by rw [hlen];exact (List.getElem?_eq_some_iff.1 HW).1
  obtain ⟨us,ty, -,hsz,hcell⟩:=hs.mem.obj s _ cs HW (List.getElem?_eq_getElem hlt)
  intro a ha
  obtain ⟨i,hi,rfl⟩:=List.getElem_of_mem ha
  rw [←hlen]
  exact (hcell i _ (List.getElem?_eq_getElem hi)).1.cl
 have hargs:∀a∈args,∀s o,a= .ptr s o→s<ah.length:=by
  intro a ha s o he
  obtain ⟨i,hi,rfl⟩:=List.getElem_of_mem ha
  have:=(hs.env i).1
  rw [dZ] at this
  simp only [Nat.zero_le,if_true,Nat.sub_zero,List.getElem?_eq_getElem hi,Option.getD_some,he] at this
  obtain ⟨b,hb, -⟩:=this.gU
  rw [←hlen];exact (List.getElem?_eq_some_iff.1 hb).1
 have hU:=h hcl hargs
 have hW:AW P L fn.ntmps ah.length c (W0 P ah.length fn.results.toList R) (eE 0 args) ah:=hU c hc
 have hvs:vs.size=args.length:=hs.sz
 have hs2:SR L fn.ntmps F γ C (eE 0 args) ah (vs++Array.replicate (fn.ntmps - vs.size) undef) w:=by
  have hg:∀t,t<vs.size→(vs++Array.replicate (fn.ntmps - vs.size) undef).getD t undef=vs.getD t undef:=by
   intro t ht;simp [Array.getD_eq_getD_getElem?,Array.getElem?_append,ht]
  have hx:∀t,¬t<vs.size→get (eE 0 args) t= .un:=by
   intro t ht;rw [dZ];simp only [Nat.zero_le,if_true,Nat.sub_zero];rw [List.getElem?_eq_none (by omega)];rfl
  have hbk:∀p b,blk γ (eE 0 args) ah (vs++Array.replicate (fn.ntmps - vs.size) undef) w p b→blk γ (eE 0 args) ah vs w p b:=by
   intro p b hp
   cases p with
   |obj s=>exact hp
   |cell s i=>exact hp
   |tmp t=>
    by_cases ht:t<vs.size
    · simp only [blk,hg t ht] at hp ⊢;exact hp
    · simp only [blk,hx t ht,bO] at hp;cases hp
  refine ⟨hs.mem,by simp;omega,fun t=> ?_,fun p q b hp hq=>hs.dU p q b (hbk p b hp) (hbk q b hq),fun p b hp=>hs.nf p b (hbk p b hp),hs.jF,fun t l k xs htl=> ?_⟩
  · by_cases ht:t<vs.size
    · rw [hg t ht];exact hs.env t
    · rw [hx t ht];exact ⟨.un ..,by generalize (vs++Array.replicate (fn.ntmps - vs.size) undef).getD t undef=v;cases v<;>trivial⟩
  · by_cases ht:t<vs.size
    · have:=hs.fr t l k xs htl
      cases l with
      |tmp u=>have:=this.1;simp at this
      |cell s o=>intro cs a b h1 h2 h3 h4;rw [hg t ht];exact this cs a b h1 h2 h3 h4
    · rw [hx t ht] at htl;cases htl
 refine calls_of_wp hf hb (wp_mono (hW F γ C _ w hs2 (by omega)) ?_)
 rintro x ⟨ts',ds'⟩ w' ⟨rfl, -,e',aE,γ',C',XX,hγ,hs',aar⟩
 have hx:x= .normal∨x= .ret:=by
  rcases XX with ⟨m, -,h, -⟩|⟨h, -⟩<;>exact h
 obtain ⟨vp,J4⟩:∃vp,fJ P e' aE fn.results.toList=some vp:=by
  rcases XX with ⟨m, -, -,h⟩|⟨-,h⟩
  · split at h
    · rename_i vs hv;exact ⟨vs,hv⟩
    · exact h.elim
  · split at h
    · rename_i vs hv;exact ⟨vs,hv⟩
    · exact h.elim
 obtain ⟨us,u1,u2,u3,u4,u5⟩:=U8 (P:=P) hs' _ _ J4
 have hres:(results fn ts').run P w'= .ok (if us.length=1 then us.getD 0 undef else .tuple us.toArray) w':=by
  unfold results
  rw [Array.mapM_eq_mapM_toList,map_eq_pure_bind]
  simp only [Sem.run_bind,Sem.run_pure]
  refine (congrArg (fun r=>Result.andThen (Result.andThen r fun (a:List Value) w'=> .ok a.toArray w') fun (a:Array Value) w'=> .ok (if h:a.size=1 then a[0] else Value.tuple a) w') u1).trans ?_
  simp only [Result.andThen_ok]
  by_cases h1:us.length=1
  · rw [if_pos h1]
    have:us.toArray.size=1:=by simpa using h1
    rw [dif_pos this]
    simp [List.getD_eq_getElem?_getD,h1]
  · rw [if_neg h1]
    have:¬us.toArray.size=1:=by simpa using h1
    rw [dif_neg this]
 generalize hv:(if us.length=1 then us.getD 0 undef else .tuple us.toArray)=v at hres
 have Bg:VR C' γ' (fin vp) v∧TC w' C' (fin vp) v∧(∀b,bO (fin vp) v=some b→∃t,blk γ' e' aE ts' w' (.tmp t) b)∧∀l k xs,fin vp≠ .sl (.fr l) k xs:=by
  by_cases h1:us.length=1
  · rw [if_pos h1] at hv
    obtain ⟨a,rfl⟩:∃a,vp=[a]:=by
     cases vp with
     |nil=>rw [h1] at u2;simp at u2
     |cons a r=>cases r with
      |nil=>exact ⟨a,rfl⟩
      |cons b r=>rw [h1] at u2;simp at u2
    have h3:=u3 0 a rfl
    rw [hv] at h3
    refine ⟨(Wk.df a).vr h3.1,(Wk.df a).tc h3.2,fun b hb=>u4 0 a b rfl ?_,fun l k xs=>J1 a l k xs⟩
    rw [hv];exact (Wk.df a).own hb
  · rw [if_neg h1] at hv
    have hf:fin vp= .bx (vp.map AV.sh):=by
     cases vp with
     |nil=>rfl
     |cons a r=>cases r with
      |nil=>exact absurd (by simpa using u2) h1
      |cons b r=>rfl
    rw [hf]
    subst hv
    refine ⟨.bx _ _ _ (by simp [u2]) fun i a hi=> ?_,fun i a hi=> ?_,fun b hb=>by simp [bO] at hb,by simp⟩
    · rw [List.getElem?_map] at hi
      cases hq:vp[i]? with
      |none=>rw [hq] at hi;simp at hi
      |some y=>
       rw [hq] at hi
       obtain rfl:y.sh=a:=by simpa using hi
       have:=(Wk.sh y).vr (u3 i y hq).1
       rwa [←fZ]
    · rw [List.getElem?_map] at hi
      cases hq:vp[i]? with
      |none=>rw [hq] at hi;simp at hi
      |some y=>
       rw [hq] at hi
       obtain rfl:y.sh=a:=by simpa using hi
       have h3:=(Wk.sh y).tc (u3 i y hq).2
       have h4:=(Wk.sh y).vr (u3 i y hq).1
       rw [←fZ]
       show Fy y.sh (us.getD i undef)
       have h5:y.sh.ew=false:=by have:=u5 i y hq;cases y<;>first|rfl|cases this
       generalize us.getD i undef=u at h3 h4
       generalize hz:y.sh=z at h3 h4 h5
       cases z with
       |agg cs=>obtain ⟨vs,rfl, -⟩:=h4.k8;exact h3
       |bx cs=>cases h5
       |sl t k xs=>cases t<;>cases u<;>first|trivial|exact h3|(exfalso;cases y<;>simp [AV.sh,AV.br] at hz;done)|skip
       |_=>cases u<;>trivial
 obtain ⟨m,hm,hrc,aas,acI,hRR⟩:∃m,ah.length≤m∧Cl m (fin vp)∧ko m (aE.take m)∧m≤aE.length∧R (fin vp) (aE.take m):=by
  rcases XX with ⟨m,hm, -,h⟩|⟨-,h⟩
  · rw [J4] at h
    exact ⟨m,hm,h⟩
  · rw [J4] at h
    have hl:aE.take aE.length=aE:=List.take_length
    refine ⟨aE.length, ?_, ?_, ?_,Nat.le_refl _,by rw [hl];exact h⟩
    · rw [←hs'.mem.len]
      have:=hγ.length_le
      rw [←hlen,List.take_length] at this
      omega
    · rw [←hs'.mem.len];exact Bg.1.cl
    · rw [hl]
      intro s cs HW
      have hlt:s<γ'.length:=by rw [hs'.mem.len];exact (List.getElem?_eq_some_iff.1 HW).1
      obtain ⟨us',ty', -,acJ,B9⟩:=hs'.mem.obj s _ cs HW (List.getElem?_eq_getElem hlt)
      intro a ha
      obtain ⟨i,hi,rfl⟩:=List.getElem_of_mem ha
      rw [←hs'.mem.len]
      exact (B9 i _ (List.getElem?_eq_getElem hi)).1.cl
 have hm0:ah.length≤m:=hm
 have hlen':=hs'.mem.len
 have hpre:γ <+: γ'.take m:=by
  rw [←hlen,List.take_length] at hγ
  obtain ⟨q,rfl⟩:=hγ
  rw [List.take_append]
  rw [List.take_of_length_le (l:=γ) (i:=m) (by omega)]
  exact List.prefix_append _ _
 have hbp:bodyPost P fn (fun en w'=>∃r v aE γ' C',en= .returned v∧R r aE∧γ <+: γ'∧SR [] 1 F γ' C' [(0,r)] aE #[v] w'∧Ext F C w C' w') x ⟨ts',[]⟩ w':=by
  have key:∃v',(results fn ts').run P w'= .ok v' w'∧∃r v aE γ' C',Ending.returned v'= .returned v∧R r aE∧γ <+: γ'∧SR [] 1 F γ' C' [(0,r)] aE #[v] w'∧Ext F C w C' w':=by
   refine ⟨v,hres,fin vp,v,aE.take m,γ'.take m,C',rfl,hRR,hpre, ?_,aar⟩
   have hgt:∀(s b:Nat),(γ'.take m)[s]? =some b→γ'[s]? =some b∧s<m:=by
    intro s b hsb
    by_cases U9:s<m
    · rw [List.getElem?_take_of_lt U9] at hsb;exact ⟨hsb,U9⟩
    · rw [List.getElem?_eq_none (by simp;omega)] at hsb;cases hsb
   have xu:∀(s:Nat) (cs:List AV),(aE.take m)[s]? =some cs→aE[s]? =some cs:=by
    intro s cs hsb
    by_cases U9:s<m
    · rwa [List.getElem?_take_of_lt U9] at hsb
    · rw [List.getElem?_eq_none (by simp;omega)] at hsb;cases hsb
   have hbk:∀p b,blk (γ'.take m) [(0,fin vp)] (aE.take m) #[v] w' p b→(∃t,p= .tmp 0∧blk γ' e' aE ts' w' (.tmp t) b)∨((∀t,p≠ .tmp t)∧blk γ' e' aE ts' w' p b):=by
    intro p b hp
    cases p with
    |obj s=>exact .inr ⟨by simp,(hgt s b hp).1⟩
    |cell s i=>
     obtain ⟨cs,a,b0,g1,g2,g3,g4⟩:=hp
     exact .inr ⟨by simp,cs,a,b0,xu s cs g1,g2,(hgt s b0 g3).1,g4⟩
    |tmp t=>
     simp only [blk,get] at hp
     by_cases ht:0=t
     · subst ht
       simp only [if_true] at hp
       obtain ⟨t,ht⟩:=Bg.2.2.1 b hp
       exact .inl ⟨t,rfl,ht⟩
     · rw [if_neg ht] at hp;simp [bO] at hp
   refine ⟨⟨by simp [hlen'],fun s b cs g1 g2=> ?_,hs'.mem.u7,fun s b cs g1 g0 hsb=>hs'.mem.ua s b cs (xu s cs g1) g0 (hgt s b hsb).1,fun s b cs us ty fr g1 hsb hh=>hs'.mem.Cj s b cs us ty fr (xu s cs g1) (hgt s b hsb).1 hh⟩,rfl,fun t=> ?_,fun p q b hp hq=> ?_,fun p b hp=> ?_,hs'.jF,fun t l k xs htl=> ?_⟩
   · obtain ⟨vs,ty,q1,q2,q3⟩:=hs'.mem.obj s b cs (xu s cs g1) (hgt s b g2).1
     exact ⟨vs,ty,q1,q2,fun i a hi=>⟨(q3 i a hi).1.take (aas s cs g1 a (List.mem_of_getElem? hi)),(q3 i a hi).2⟩⟩
   · by_cases ht:0=t
     · subst ht
       simp only [get,if_true]
       exact ⟨Bg.1.take hrc,Bg.2.1⟩
     · simp only [get,if_neg ht]
       exact ⟨.un ..,by generalize (#[v]:Array Value).getD t undef=u;cases u<;>trivial⟩
   · rcases hbk p b hp with ⟨t,rfl,h1⟩|⟨h1,h2⟩<;>rcases hbk q b hq with ⟨u,rfl,h3⟩|⟨h3,h4⟩
     · rfl
     · exact absurd (hs'.dU _ _ b h1 h4) (fun e=>h3 t e.symm)
     · exact absurd (hs'.dU _ _ b h2 h3) (h1 u)
     · exact hs'.dU p q b h2 h4
   · rcases hbk p b hp with ⟨t,rfl,h1⟩|⟨h1,h2⟩
     · exact hs'.nf _ b h1
     · exact hs'.nf p b h2
   · by_cases ht:0=t
     · subst ht
       simp only [get,if_true] at htl
       exact absurd htl (Bg.2.2.2 l k xs)
     · simp only [get,if_neg ht] at htl;cases htl
  rcases hx with rfl|rfl
  · exact ⟨rfl,key⟩
  · exact ⟨rfl,key⟩
 exact hbp
theorem AX.up {c:av} {Q Q':Exit→Env→AH→Prop} {e:Env} {ah:AH} {n0:Nat} (h:AX P L N n0 c Q e ah) (hq:∀x e ah,Q x e ah→Q' x e ah):AX P L N n0 c Q' e ah:=fun c' bV=>(h c' bV).mono hq
theorem aF.enter {f:Nat} {fn:Func} {c:Code} {ac:av} {args:List AV} {R:AV→AH→Prop} (L:List Nat) (m:Nat) (hf:P.funcs[f]? =some fn) (hname:fn.name≠ "runtime.NumGoroutine") (hb:fn.body=some c)
 (hc:bJ P c=some ac) (ho:pX fn.ntmps ac=true) (hN:args.length≤fn.ntmps) (hm:ah.length≤m)
 (h:ko ah.length ah→(∀a∈args,∀s o,a= .ptr s o→s<ah.length)→U P L fn.ntmps ah.length [.code ac] (Kl P m fn.results.toList R) .normal (eE 0 args) ah):aF P f args ah R:=
 aF.MN L hf hname hb hc ho hN fun h1 h2=>AX.up (fun c' bV=>nS c' ac _ _ _ (by rw [iz c ac hc];exact bV) (by rw [iz c ac hc];exact ho) (h h1 h2)) fun x e H hR=> .inl ⟨m,hm,hR⟩
end
end Go.Am
end
section
namespace Go.Am
open Go
variable [Tabs]
def bM (P:Program) (f N:Nat) (rs:List ResultVar) (ac:av):Prop:=
 ∃fn c,P.funcs[f]? =some fn∧fn.name≠ "runtime.NumGoroutine" ∧fn.body=some c∧bJ P c=some ac∧fn.ntmps=N∧fn.results.toList=rs
theorem aF.go {P:Program} {f N:Nat} {rs:List ResultVar} {ac:av} (hF:bM P f N rs ac) {args:List AV} {ah:AH} {R:AV→AH→Prop} (L:List Nat) (m:Nat)
 (ho:pX N ac=true) (hN:args.length≤N) (hm:ah.length≤m)
 (h:ko ah.length ah→(∀a∈args,∀s o,a= .ptr s o→s<ah.length)→U P L N ah.length [.code ac] (Kl P m rs R) .normal (eE 0 args) ah):aF P f args ah R:=by
 obtain ⟨fn,c,h1,h2,h3,h4,rfl,rfl⟩:=hF
 exact aF.enter L m h1 h2 h3 h4 ho hN hm h
section
variable {P:Program} {L:List Nat} {N n0:Nat} {e:Env} {ah:AH} {t:List It} {Q:Exit→Env→AH→Prop} {r:List aL} {d:Option Nat} {g:Option (Nat×Bool)}
def XY (want:Bool):AV→Option Bool
 | .bool b=>some (b==want)
 | .bx []=>some false
 |_=>none
theorem Va {op:fc}:fH e ⟨d,op,none⟩=some true:=rfl
theorem Vb {op:fc} {x:Nat} {want:Bool}:fH e ⟨d,op,some (x,want)⟩=XY want (get e x):=by
 simp only [fH]
 cases get e x with
 |bx cs=>cases cs<;>rfl
 |_=>rfl
theorem Vc {want:Bool}:XY want (.bx [])=some false:=rfl
theorem NT {b want:Bool}:XY want (.bool b)=some (b==want):=rfl
theorem aat {x:Ar}:UG P L N n0 ⟨d, .mv x,g⟩ r t Q e ah (some true)=U P L N n0 (It.ops r::t) Q Exit.normal (aG L e d (cp L x (ev e x))) ah:=rfl
def iK (P:Program) (L:List Nat) (N n0:Nat) (e:Env) (ah:AH) (d:Option Nat) (r:List aL) (t:List It) (Q:Exit→Env→AH→Prop) (x:Ar):AV→Prop
 | .sl .own k xs=>match x with
   | .t y=>U P L N n0 (.ops r::t) Q .normal (aG L (put e y (.sl .n k xs)) d (.sl .own k xs)) ah
   | .c a=>U P L N n0 (.ops r::t) Q .normal (aG L e d (cp L (.c a) (.sl .own k xs))) ah
 |a=>U P L N n0 (.ops r::t) Q .normal (aG L e d (cp L x a)) ah
theorem XZ {x:Ar}:UG P L N n0 ⟨d, .aO x,g⟩ r t Q e ah (some true)=iK P L N n0 e ah d r t Q x (ev e x):=by
 simp only [UG,bH]
 cases h:ev e x with
 |sl tg k xs=>cases tg<;>cases x<;>rfl
 |_=>rfl
def Kn (L:List Nat) (e:Env) (ah:AH) (d:Option Nat) (a b:Ar):AV→Option (Env×AH)
 | .bool t=>some (aG L e d (if t then (ev e a).sh else (ev e b).sh),ah)
 |_=>none
theorem Vd {c a b:Ar}:UG P L N n0 ⟨d, .pick c a b,g⟩ r t Q e ah (some true)=US P L N n0 r t Q (Kn L e ah d a b (ev e c)):=by
 simp only [UG,bH];cases ev e c<;>rfl
theorem Rw {cs:List AV}:UG P L N n0 ⟨d, .alloc cs,g⟩ r t Q e ah (some true)=U P L N n0 (.ops r::t) Q .normal (aG L e d (.ptr ah.length 0)) (ah++[cs]):=rfl
theorem X0 {x:Ar}:UG P L N n0 ⟨d, .box x,g⟩ r t Q e ah (some true)=US P L N n0 r t Q (if bU (ev e x).cells then some (aG L e d (.ptr ah.length 0),ah++[(ev e x).cells.map AV.br]) else none):=rfl
theorem Rx {z:List AV} {ps:List (Nat×Nat×Ar)}:UG P L N n0 ⟨d, .build z ps,g⟩ r t Q e ah (some true)=US P L N n0 r t Q ((fill e z ps).map fun cs=>(aG L e d (.agg cs),ah)):=rfl
theorem X1 {k:Nat} {ps:List Ar}:UG P L N n0 ⟨d, .rX k ps,g⟩ r t Q e ah (some true)=US P L N n0 r t Q (if ps.all (fun p=>(ev e p).cells.length=k&&bU (ev e p).cells&&fz (ev e p).cells) then some (aG L e d (.sl .ex k (ps.map fun p=>(ev e p).s0)),ah) else none):=rfl
theorem acf {y:Nat} {bs:List UInt8}:UG P L N n0 ⟨d, .lit y bs,g⟩ r t Q e ah (some true)=U P L N n0 (It.ops r::t) Q Exit.normal (put (aG L e d (.sl .ex 1 (bs.map b8))) y .un) ah:=rfl
def Ry (L:List Nat) (e:Env) (ah:AH) (d:Option Nat):AV→Option (Env×AH)
 | .ptr s p=>some (aG L e d (.ptr s p),ah)
 | .ep a p=>some (aG L e d (.ep a p),ah)
 |_=>none
theorem X2 {x:Ar}:UG P L N n0 ⟨d, .gG x,g⟩ r t Q e ah (some true)=US P L N n0 r t Q (Ry L e ah d (ev e x)):=by
 simp only [UG,bH];cases ev e x<;>rfl
def Rz (L:List Nat) (e:Env) (ah:AH) (d:Option Nat) (q:Nat):AV→Option (Env×AH)
 | .ptr s p=>some (aG L e d (.ptr s (p+q)),ah)
 | .ep a p=>some (aG L e d (.ep a (p+q)),ah)
 |_=>none
theorem X3 {x:Ar} {q:Nat}:UG P L N n0 ⟨d, .cM x q,g⟩ r t Q e ah (some true)=US P L N n0 r t Q (Rz L e ah d q (ev e x)):=by
 simp only [UG,bH];cases ev e x<;>rfl
theorem abW {x:Ar} {q:Nat} {n:Option Nat}:UG P L N n0 ⟨d, .EV x q n,g⟩ r t Q e ah (some true)=US P L N n0 r t Q (bH L ⟨d, .EV x q n,none⟩ e ah):=by simp only [UG,vl L d _ g]
def Ve (L:List Nat) (d:Option Nat) (n:Option Nat) (s p:Nat) (e:Env) (ah:AH):Option (List AV)→Option (Env×AH)
 |some cs=>(jI n s p cs).map fun a=>(aG L e d a,ah)
 |none=>none
def NU (L:List Nat) (d:Option Nat) (e:Env) (ah:AH):Option AV→Option (Env×AH)
 |some c=>if c.flat then some (aG L e d c.s1,ah) else none
 |none=>none
def FO (L:List Nat) (d:Option Nat) (n:Option Nat) (e:Env) (ah:AH):AV→Option (Env×AH)
 | .ptr s p=>Ve L d n s p e ah (ah[s]?)
 | .ep a p=>match n with
   |some n=>if p+n≤a.cells.length∧aS ((a.cells.drop p).take n) then some (aG L e d (.agg (((a.cells.drop p).take n).map AV.s1)),ah) else none
   |none=>NU L d e ah (a.cells[p]?)
 |_=>none
theorem aau {x:Ar} {n:Option Nat}:UG P L N n0 ⟨d, .ld x n,g⟩ r t Q e ah (some true)=US P L N n0 r t Q (FO L d n e ah (ev e x)):=by
 simp only [UG,bH]
 cases ev e x with
 |ptr s p=>simp only [FO,Ve];cases ah[s]? <;>rfl
 |ep a p=>cases n with
  |some n=>rfl
  |none=>simp only [FO,NU];cases a.cells[p]? <;>rfl
 |_=>rfl
def dD (s o:Nat):Option AV→Option AV
 |some (.sl .own k xs)=>some (.sl (.fr (.cell s o)) k xs)
 |some a=>if a.flat then some a.br else none
 |none=>none
theorem bD {s o:Nat} {cs:List AV}:jI none s o cs=dD s o (cs[o]?):=by
 simp only [jI,dD]
 cases cs[o]? with
 |none=>rfl
 |some a=>cases a with
  |sl t k xs=>cases t<;>rfl
  |_=>rfl
theorem bE {n s o:Nat} {cs:List AV}:jI (some n) s o cs=if o+n≤cs.length∧aS ((cs.drop o).take n) then some (.agg (((cs.drop o).take n).map AV.br)) else none:=rfl
theorem acg {x:Ar} {n:Option Nat}:UG P L N n0 ⟨d, .DZ x n,g⟩ r t Q e ah (some true)=US P L N n0 r t Q (bH L ⟨d, .DZ x n,none⟩ e ah):=by simp only [UG,vl L d _ g]
theorem acK {a x:Ar} {n:Nat}:UG P L N n0 ⟨d, .st a x n,g⟩ r t Q e ah (some true)=US P L N n0 r t Q (bH L ⟨none, .st a x n,none⟩ e ah):=by simp only [UG,bH]
theorem X4 {op:BinOp} {x y:Ar}:UG P L N n0 ⟨d, .bin op x y,g⟩ r t Q e ah (some true)=US P L N n0 r t Q ((bt op (ev e x) (ev e y)).map fun a=>(aG L e d a,ah)):=rfl
theorem aav {neq:Bool} {x y:Ar}:UG P L N n0 ⟨d, .bq neq x y,g⟩ r t Q e ah (some true)=US P L N n0 r t Q ((JW (ev e x) (ev e y)).map fun b=>(aG L e d (.bool (if neq then !b else b)),ah)):=rfl
theorem aaw {neq:Bool} {x y:Ar}:UG P L N n0 ⟨d, .pq neq x y,g⟩ r t Q e ah (some true)=US P L N n0 r t Q ((JX (ev e x) (ev e y)).map fun b=>(aG L e d (.bool (if neq then !b else b)),ah)):=rfl
def W3 (L:List Nat) (e:Env) (ah:AH) (d:Option Nat) (ks:List Pk) (neq:Bool):AV→AV→Option (Env×AH)
 | .agg zq, .agg bs=>(b6 ks zq bs).map fun b=>(aG L e d (.bool (if neq then !b else b)),ah)
 |_,_=>none
theorem X5 {ks:List Pk} {neq:Bool} {x y:Ar}:UG P L N n0 ⟨d, .seq ks neq x y,g⟩ r t Q e ah (some true)=US P L N n0 r t Q (W3 L e ah d ks neq (ev e x) (ev e y)):=by
 simp only [UG,bH];cases ev e x<;>cases ev e y<;>rfl
theorem aax {op:UnOp} {x:Ar}:UG P L N n0 ⟨d, .un op x,g⟩ r t Q e ah (some true)=US P L N n0 r t Q ((JZ op (ev e x)).map fun a=>(aG L e d a,ah)):=rfl
def MO (L:List Nat) (e:Env) (ah:AH) (d:Option Nat) (p n:Nat) (cs:List AV):Option (Env×AH):=
 if p+n≤cs.length then (bytesOf ((cs.drop p).take n)).map fun l=>(aG L e d (.str l),ah) else none
def RA (L:List Nat) (e:Env) (ah:AH) (d:Option Nat) (p n:Nat):Option (List AV)→Option (Env×AH)
 |some cs=>MO L e ah d p n cs
 |none=>none
def CF (L:List Nat) (e:Env) (ah:AH) (d:Option Nat) (h:Cv):AV→Option (Env×AH)
 | .cv s k p n=>match h with
   | .bs=>if k=1 then RA L e ah d p n (ah[s]?) else none
   |h=>(eM h (.cv s k p n)).map fun a=>(aG L e d a,ah)
 |a=>(eM h a).map fun a=>(aG L e d a,ah)
theorem X6 {h:Cv} {x:Ar}:UG P L N n0 ⟨d, .jH h x,g⟩ r t Q e ah (some true)=US P L N n0 r t Q (CF L e ah d h (ev e x)):=by
 simp only [UG,bH]
 congr 1
 cases ev e x with
 |cv s k p n=>
  cases h with
  |bs=>
   simp only [CF]
   split
   · cases ah[s]? <;>rfl
   · rfl
  |_=>rfl
 |_=>cases h<;>rfl
theorem Vf {x:Ar}:UG P L N n0 ⟨d, .Hs x,g⟩ r t Q e ah (some true)=US P L N n0 r t Q ((eM .bs (ev e x)).map fun a=>(aG L e d a,ah)):=rfl
def RB (L:List Nat) (e:Env) (ah:AH) (d:Option Nat):AV→Option (Env×AH)
 | .str l=>some (aG L e d (.cv ah.length 1 0 l.length),ah++[l.map b8])
 |_=>none
theorem Vg {x:Ar}:UG P L N n0 ⟨d, .qf x,g⟩ r t Q e ah (some true)=US P L N n0 r t Q (RB L e ah d (ev e x)):=by
 simp only [UG,bH];cases ev e x<;>rfl
theorem aay {neq:Bool} {x y:Ar}:UG P L N n0 ⟨d, .iq neq x y,g⟩ r t Q e ah (some true)=US P L N n0 r t Q ((JY (ev e x) (ev e y)).map fun b=>(aG L e d (.bool (if neq then !b else b)),ah)):=rfl
theorem aaz {mx:Bool} {x y:Ar}:UG P L N n0 ⟨d, .mm mx x y,g⟩ r t Q e ah (some true)=US P L N n0 r t Q ((Ht mx (ev e x) (ev e y)).map fun a=>(aG L e d a,ah)):=rfl
theorem X7 {f:Nat} {cs:List Ar}:UG P L N n0 ⟨d, .Uc f cs,g⟩ r t Q e ah (some true)=U P L N n0 (It.ops r::t) Q Exit.normal (aG L e d (.fn f (cs.map (ev e)))) ah:=rfl
def uc:AV→Option Nat
 | .int _ i=>if 0≤i then some i.toNat else none
 |_=>none
theorem ach {dflt:Nat}:kj e dflt none=some dflt:=rfl
theorem RC {dflt:Nat} {x:Ar}:kj e dflt (some x)=uc (ev e x):=by
 simp only [kj];cases ev e x<;>rfl
def MP (L:List Nat) (e:Env) (ah:AH) (d:Option Nat) (l:List UInt8):Option Nat→Option Nat→Option (Env×AH)
 |some i,some j=>if i≤j∧j≤l.length then some (aG L e d (.str ((l.take j).drop i)),ah) else none
 |_,_=>none
def MQ (L:List Nat) (e:Env) (ah:AH) (d:Option Nat) (lo hi:Option Ar):AV→Option (Env×AH)
 | .str l=>MP L e ah d l (kj e 0 lo) (kj e l.length hi)
 |_=>none
theorem X8 {x:Ar} {lo hi:Option Ar}:UG P L N n0 ⟨d, .gj x lo hi,g⟩ r t Q e ah (some true)=US P L N n0 r t Q (MQ L e ah d lo hi (ev e x)):=by
 simp only [UG,bH]
 cases ev e x with
 |str l=>simp only [MQ,MP];cases kj e 0 lo<;>cases kj e l.length hi<;>rfl
 |_=>rfl
def MR (L:List Nat) (e:Env) (ah:AH) (d:Option Nat) (k k':Nat) (xs:List AV):Option Nat→Option Nat→Option (Env×AH)
 |some i,some j=>if k'=k∧i≤j∧j≤xs.length then some (aG L e d (.sl .n k ((xs.take j).drop i)),ah) else none
 |_,_=>none
def MS (L:List Nat) (e:Env) (ah:AH) (d:Option Nat) (k:Nat) (lo hi:Option Ar):AV→Option (Env×AH)
 | .sl _ k' xs=>MR L e ah d k k' xs (kj e 0 lo) (kj e xs.length hi)
 |_=>none
theorem X9 {k:Nat} {x:Ar} {lo hi:Option Ar}:UG P L N n0 ⟨d, .slc k x lo hi none,g⟩ r t Q e ah (some true)=US P L N n0 r t Q (MS L e ah d k lo hi (ev e x)):=by
 simp only [UG,bH]
 cases ev e x with
 |sl t k' xs=>simp only [MS,MR];cases kj e 0 lo<;>cases kj e xs.length hi<;>rfl
 |_=>rfl
def FP (L:List Nat) (e:Env) (ah:AH) (d:Option Nat) (k k':Nat) (xs:List AV):Option Nat→Option Nat→Option Nat→Option (Env×AH)
 |some i,some j,some m=>if k'=k∧i≤j∧j=m∧m≤xs.length then some (aG L e d (.sl .ex k ((xs.take j).drop i)),ah) else none
 |_,_,_=>none
def FQ (L:List Nat) (e:Env) (ah:AH) (d:Option Nat) (k:Nat) (lo:Option Ar) (hi m:Ar):AV→Option (Env×AH)
 | .sl _ k' xs=>FP L e ah d k k' xs (kj e 0 lo) (kj e xs.length (some hi)) (kj e 0 (some m))
 |_=>none
theorem Vh {k:Nat} {x:Ar} {lo:Option Ar} {hi m:Ar}:UG P L N n0 ⟨d, .slc k x lo (some hi) (some m),g⟩ r t Q e ah (some true)=US P L N n0 r t Q (FQ L e ah d k lo hi m (ev e x)):=by
 simp only [UG,bH]
 cases ev e x with
 |sl t k' xs=>
  simp only [FQ,FP]
  cases kj e 0 lo with
  |none=>rfl
  |some i=>
   cases kj e xs.length (some hi) with
   |none=>rfl
   |some j=>
    simp only [Option.isNone_some,Bool.false_eq_true,if_false]
    cases kj e 0 (some m)<;>rfl
 |_=>rfl
def MT (L:List Nat) (e:Env) (ah:AH) (d:Option Nat) (k k':Nat):Option AV→Option (Env×AH)
 |some a=>if k'=k then some (aG L e d (.ep a 0),ah) else none
 |none=>none
def y9 (L:List Nat) (e:Env) (ah:AH) (d:Option Nat) (k:Nat):AV→AV→Option (Env×AH)
 | .sl _ k' xs, .int _ i=>if 0≤i then MT L e ah d k k' (xs[i.toNat]?) else none
 | .cv s k' p n, .int _ i=>if 0≤i∧i<n∧k'=k then some (aG L e d (.ptr s (p+i.toNat*k)),ah) else none
 | .ck s k' n _, .int _ i=>if 0≤i∧i<n∧k'=k then some (aG L e d (.ptr s (i.toNat*k)),ah) else none
 |_,_=>none
def HX (L:List Nat) (e:Env) (ah:AH) (d:Option Nat) (k m:Nat):AV→AV→Option (Env×AH)
 | .ptr s p, .int _ i=>if 0≤i∧i<m then some (aG L e d (.ptr s (p+i.toNat*k)),ah) else none
 | .ep a p, .int _ i=>if 0≤i∧i<m then some (aG L e d (.ep a (p+i.toNat*k)),ah) else none
 |_,_=>none
theorem Ya {k m:Nat} {x i:Ar}:UG P L N n0 ⟨d, .Ud k m x i,g⟩ r t Q e ah (some true)=US P L N n0 r t Q (HX L e ah d k m (ev e x) (ev e i)):=by
 simp only [UG,bH]
 cases ev e x with
 |ptr s p=>cases ev e i<;>rfl
 |ep a p=>cases ev e i<;>rfl
 |_=>cases ev e i<;>rfl
def MU (L:List Nat) (e:Env) (ah:AH) (d:Option Nat) (u k:Nat) (xs:List AV):AV→Option (Env×AH)
 | .sl .own k2 zs=>if k2=k then some (aG L (put e u (.sl .n k2 zs)) d (.sl .own k xs),ah) else none
 |_=>none
def HY (L:List Nat) (e:Env) (ah:AH) (d:Option Nat) (k:Nat):AV→Option (Env×AH)
 | .sl .ex k' []=>if k'=k then some (aG L e d (.ck 0 k 0 0),ah) else none
 | .ck s k' n c=>some (aG L e d (.ck s k' n c),ah)
 | .sl (.fr (.tmp u)) k' xs=>MU L e ah d u k' xs (get e u)
 |_=>none
theorem Yb {k:Nat} {x:Ar}:UG P L N n0 ⟨d, .z7 k x,g⟩ r t Q e ah (some true)=US P L N n0 r t Q (HY L e ah d k (ev e x)):=by
 simp only [UG,bH]
 cases ev e x with
 |sl t k' xs=>cases t<;>cases xs<;>rfl
 |_=>rfl
theorem Yc {k:Nat} {x i:Ar}:UG P L N n0 ⟨d, .uG k x i,g⟩ r t Q e ah (some true)=US P L N n0 r t Q (y9 L e ah d k (ev e x) (ev e i)):=by
 simp only [UG,bH]
 cases ev e x with
 |sl t k' xs=>cases ev e i with
  |int ki n=>simp only [y9,MT];cases xs[n.toNat]? <;>rfl
  |_=>rfl
 |cv s k' p n=>cases ev e i<;>rfl
 |ck s k' n c=>cases ev e i<;>rfl
 |_=>cases ev e i<;>rfl
def RD (L:List Nat) (e:Env) (ah:AH) (d:Option Nat):Option UInt8→Option (Env×AH)
 |some c=>some (aG L e d (b8 c),ah)
 |none=>none
def HZ (L:List Nat) (e:Env) (ah:AH) (d:Option Nat):AV→AV→Option (Env×AH)
 | .str l, .int _ i=>if 0≤i then RD L e ah d (l[i.toNat]?) else none
 |_,_=>none
theorem Yd {x i:Ar}:UG P L N n0 ⟨d, .ixs x i,g⟩ r t Q e ah (some true)=US P L N n0 r t Q (HZ L e ah d (ev e x) (ev e i)):=by
 simp only [UG,bH]
 cases ev e x with
 |str l=>cases ev e i with
  |int ki n=>simp only [HZ,RD];cases l[n.toNat]? <;>rfl
  |_=>rfl
 |_=>cases ev e i<;>rfl
theorem abX {l:List UInt8} {i j:Nat}:MP L e ah d l (some i) (some j)=if i≤j∧j≤l.length then some (aG L e d (.str ((l.take j).drop i)),ah) else none:=rfl
theorem abY {k k' i j:Nat} {xs:List AV}:MR L e ah d k k' xs (some i) (some j)=if k'=k∧i≤j∧j≤xs.length then some (aG L e d (.sl .n k ((xs.take j).drop i)),ah) else none:=rfl
theorem aaA {k k' i j m:Nat} {xs:List AV}:FP L e ah d k k' xs (some i) (some j) (some m)=if k'=k∧i≤j∧j=m∧m≤xs.length then some (aG L e d (.sl .ex k ((xs.take j).drop i)),ah) else none:=rfl
theorem abZ {k k':Nat} {a:AV}:MT L e ah d k k' (some a)=if k'=k then some (aG L e d (.ep a 0),ah) else none:=rfl
theorem ab0 {c:UInt8}:RD L e ah d (some c)=some (aG L e d (b8 c),ah):=rfl
theorem Ye {n:Option Nat} {s p:Nat} {cs:List AV}:Ve L d n s p e ah (some cs)=(jI n s p cs).map fun a=>(aG L e d a,ah):=rfl
theorem Yf {c:AV}:NU L d e ah (some c)=if c.flat then some (aG L e d c.s1,ah) else none:=rfl
theorem ab1 {α:Type} {c:Prop} [Decidable c] {x:Option α} (h:c):(if c then x else none)=x:=by rw [if_pos h]
theorem aaB {α:Type} {c:Prop} [Decidable c] {x:Option α} (h:¬c):(if c then none else x)=x:=by rw [if_neg h]
theorem aci {x:Ar} {i:Nat}:UG P L N n0 ⟨d, .ext x i,g⟩ r t Q e ah (some true)=US P L N n0 r t Q (bH L ⟨d, .ext x i,none⟩ e ah):=by simp only [UG,vl L d _ g]
theorem acj {x:Ar}:UG P L N n0 ⟨d, .len x,g⟩ r t Q e ah (some true)=US P L N n0 r t Q (bH L ⟨d, .len x,none⟩ e ah):=by simp only [UG,vl L d _ g]
theorem ab2 {x:Ar}:UG P L N n0 ⟨d, .lens x,g⟩ r t Q e ah (some true)=US P L N n0 r t Q (bH L ⟨d, .lens x,none⟩ e ah):=by simp only [UG,vl L d _ g]
def RE (L:List Nat) (e:Env) (ah:AH) (d:Option Nat) (k b:Nat) (x:Ar):AV→Option (Env×AH)
 | .sl _ k' ys=>if k'=k then w5 L e ah d k b x ys else none
 |_=>none
theorem Yg {k b:Nat} {x y:Ar}:UG P L N n0 ⟨d, .app k b x y,g⟩ r t Q e ah (some true)=US P L N n0 r t Q (RE L e ah d k b x (ev e y)):=by
 simp only [UG,bH];cases ev e y<;>rfl
def RF (L:List Nat) (e:Env) (ah:AH) (d:Option Nat) (b:Nat) (x:Ar):AV→Option (Env×AH)
 | .str l=>w5 L e ah d 1 b x (l.map b8)
 |_=>none
theorem Vi {b:Nat} {x y:Ar}:UG P L N n0 ⟨d, .apps b x y,g⟩ r t Q e ah (some true)=US P L N n0 r t Q (RF L e ah d b x (ev e y)):=by
 simp only [UG,bH];cases ev e y<;>rfl
theorem Vj {f:Ar} {zq:List Ar}:UG P L N n0 ⟨d, .call f zq,g⟩ r t Q e ah (some true)=UF P L N n0 zq d r t Q e ah (ev e f):=rfl
theorem aaC {o:aL} {b:Bool}:UG P L N n0 o r t Q e ah (some b)=if b then (UG P L N n0 o r t Q e ah (some true)) else U P L N n0 (.ops r::t) Q .normal (n7 e o.d) ah:=by
 cases b<;>rfl
theorem Z0 {o:aL} {b:Bool} (h1:b=true→UG P L N n0 o r t Q e ah (some true)) (h2:b=false→U P L N n0 (.ops r::t) Q .normal (n7 e o.d) ah):UG P L N n0 o r t Q e ah (some b):=by
 cases b
 · exact h2 rfl
 · exact h1 rfl
end
end Go.Am
namespace Go.Am
open Go
variable [Tabs]
theorem ko.set {n:Nat} {ah:AH} (h:ko n ah) {s:Nat} {cs:List AV} (hc:∀a∈cs,Cl n a):ko n (ah.set s cs):=by
 intro t ds ht a ha
 rw [List.getElem?_set] at ht
 split at ht
 · split at ht
   · injection ht with ht;subst ht;exact hc a ha
   · cases ht
 · exact h t ds ht a ha
theorem Kl.old {P:Program} {n:Nat} {rs:List ResultVar} {R:AV→AH→Prop} {x:Exit} {e:Env} {ah:AH} {vs:List AV} (hx:x= .normal∨x= .ret) (hr:fJ P e ah rs=some vs)
 (hc:Cl n (fin vs)) (hh:ko n ah) (hn:ah.length=n) (h:R (fin vs) ah):Kl P n rs R x e ah:=by
 refine ⟨hx, ?_⟩
 rw [hr]
 have:ah.take n=ah:=List.take_of_length_le (by omega)
 simp only [this]
 exact ⟨hc,hh,by omega,h⟩
theorem w64 {n:Int} (h1: -9223372036854775808≤n) (h2:n≤9223372036854775807):IntKind.wrap .i64 n=n:=by
 simp only [IntKind.wrap,IntKind.bits,IntKind.signed,Bool.true_and,decide_eq_true_eq,Int.reducePow,Nat.reduceSub,ge_iff_le]
 split<;>omega
theorem w8 {n:Int} (h1:0≤n) (h2:n≤255):IntKind.wrap .u8 n=n:=by
 simp only [IntKind.wrap,IntKind.bits,IntKind.signed,Bool.false_and,if_false,Bool.false_eq_true]
 omega
theorem W4 {j:Nat}:((j:Int)+1).toNat=j+1:=by omega
theorem ack {P:Program} {L:List Nat} {N n0:Nat} {t:List It} {Q:Exit→Env→AH→Prop} {r:List aL} {c:Prop} [Decidable c] {x:Option (Env×AH)} (h:c):
 US P L N n0 r t Q (if c then x else none)=US P L N n0 r t Q x:=by rw [if_pos h]
theorem map_if {α β:Type} {f:α→β} {c:Prop} [Decidable c] {x:Option α} (h:c):Option.map f (if c then x else none)=Option.map f x:=by rw [if_pos h]
theorem H6 {L:List Nat} {d:Option Nat} {k b:Nat} {x y:Ar} {e:Env} {ah:AH} {K K':Env→AH→Prop} (h:nW L d k b x y e ah K) (hk:∀e ah,K e ah→K' e ah):nW L d k b x y e ah K':=by
 unfold nW at h ⊢
 split at h
 · obtain ⟨h1,h2,h3,h4,h5,h6⟩:=h
   refine ⟨h1,h2,h3,h4,h5, ?_⟩
   rcases h6 with ⟨g1,g2,g3⟩|⟨cs,g1,g2,g3,g4,g5,g6,g7⟩
   · exact .inl ⟨g1,g2,fun c hc=>hk _ _ (g3 c hc)⟩
   · exact .inr ⟨cs,g1,g2,g3,g4,g5,fun h=>hk _ _ (g6 h),fun h c hc=>hk _ _ (g7 h c hc)⟩
 · exact h
theorem NV {L:List Nat} {d:Option Nat} {n:Bool} {x:Ar} {e:Env} {ah:AH} {K K':Env→AH→Prop} (h:Cf L d n x e ah K) (hk:∀e ah,K e ah→K' e ah):Cf L d n x e ah K':=by
 unfold Cf at h ⊢
 split at h
 · exact ⟨fun h0 b=>hk _ _ (h.1 h0 b),fun h0=>hk _ _ (h.2 h0)⟩
 · exact h
theorem Ko {P:Program} {L:List Nat}:∀(l:List aL) {K K':Env→AH→Prop} {e:Env} {ah:AH},dV P L l e ah K→(∀e ah,K e ah→K' e ah)→dV P L l e ah K':=by
 intro l
 induction l with
 |nil=>intro K K' e ah h hk;exact hk _ _ h
 |cons o r ih=>
  intro K K' e ah h hk
  simp only [dV] at h ⊢
  split at h
  · rename_i hg
    obtain ⟨d,op,g⟩:=o
    cases op with
    |call f zq=>
     simp only [yZ] at h ⊢
     split at h
     · exact ⟨h.1,h.2.mono fun v aE h=>ih h hk⟩
     · exact h
    |kB k b x y=>
     have h':nW L d k b x y e ah (fun e ah=>dV P L r e ah K):=h
     exact H6 h' fun e ah h=>ih h hk
    |nq n x=>
     have h':Cf L d n x e ah (fun e ah=>dV P L r e ah K):=h
     exact NV h' fun e ah h=>ih h hk
    |_=>
     simp only [yZ] at h ⊢
     split at h
     · exact ih h hk
     · exact h
  · exact ih h hk
  · exact h
theorem H7 {P:Program} {L:List Nat} {N n0:Nat}:∀(c:av) {Q Q':Exit→Env→AH→Prop} {e:Env} {ah:AH},iU P L N n0 c Q e ah→(∀x e ah,Q x e ah→Q' x e ah)→iU P L N n0 c Q' e ah:=by
 intro c
 induction c with
 |skip=>intro Q Q' e ah h hq;exact hq _ _ _ h
 |ret=>intro Q Q' e ah h hq;exact hq _ _ _ h
 |exit i=>intro Q Q' e ah h hq;exact hq _ _ _ h
 |rg ops=>intro Q Q' e ah h hq;exact Ko ops h fun e ah h=>hq _ _ _ h
 |seq a b CD CE=>
  intro Q Q' e ah h hq
  refine CD h fun x e ah h=> ?_
  cases x with
  |normal=>exact CE h hq
  |_=>exact hq _ _ _ h
 |cond c a b CD CE=>
  intro Q Q' e ah h hq
  simp only [iU] at h ⊢
  split at h
  · split at h
    · rename_i h1;rw [if_pos h1];exact CD h hq
    · rename_i h1;rw [if_neg h1];exact CE h hq
  · exact h.elim
 |blk i c ih=>
  intro Q Q' e ah h hq
  refine ih h fun x e ah h=> ?_
  cases x with
  |exit j=>
   simp only at h ⊢
   split at h
   · rename_i h1;rw [if_pos h1];exact hq _ _ _ h
   · rename_i h1;rw [if_neg h1];exact hq _ _ _ h
  |_=>exact hq _ _ _ h
 |loop c ih=>
  intro Q Q' e ah h hq
  exact fun c' bV=>(h c' bV).mono hq
 |sem c ih=>
  intro Q Q' e ah h hq
  exact fun c' bV=>(h c' bV).mono hq
theorem Vk {P:Program} {L:List Nat} {N n0:Nat} {c:av} {Q Q':Exit→Env→AH→Prop} {e:Env} {ah:AH} (h:U P L N n0 [.code c] Q .normal e ah) (hq:∀x e ah,Q x e ah→Q' x e ah):U P L N n0 [.code c] Q' .normal e ah:=
 H7 c h hq
theorem RG {e e2:Env} (h:∀p∈e2,p.2= .un∨Am.get e p.1=p.2∨∃t k xs,Am.get e p.1= .sl t k xs∧p.2= .sl .n k xs):∀t,Wk (Am.get e t) (Am.get e2 t):=by
 intro t
 have key:∀e2:Env,Am.get e2 t= .un∨∃p∈e2,p.1=t∧Am.get e2 t=p.2:=by
  intro e2
  induction e2 with
  |nil=>exact .inl rfl
  |cons p r ih=>
   obtain ⟨i,a⟩:=p
   simp only [Am.get]
   split
   · rename_i h;exact .inr ⟨(i,a),by simp,h,rfl⟩
   · rcases ih with h|⟨p,hp,h1,h2⟩
     · exact .inl h
     · exact .inr ⟨p,List.mem_cons_of_mem _ hp,h1,h2⟩
 rcases key e2 with h0|⟨p,hp,rfl,h2⟩
 · rw [h0];exact .un _
 · rw [h2]
   rcases h p hp with h3|h3|⟨tg,k,xs,h3,h4⟩
   · rw [h3];exact .un _
   · rw [h3];exact .same _
   · rw [h3,h4];exact .n ..
def Ah (e e2:Env):Prop:=∀p∈e2,p.2= .un∨Am.get e p.1=p.2∨∃t k xs,Am.get e p.1= .sl t k xs∧p.2= .sl .n k xs
theorem NW {P:Program} {L:List Nat} {N n0:Nat} {e:Env} {ah:AH} {t:List It} {Q:Exit→Env→AH→Prop} {c:av} (J:Nat→Env→AH→Prop) (k0:Nat) (e0:Env) (ho:pX N c=true)
 (hw:∀p∈e0,p.2= .un∨Am.get e p.1=p.2∨∃t k xs,Am.get e p.1= .sl t k xs∧p.2= .sl .n k xs) (h0:J k0 e0 ah)
 (round:∀k e ah,J k e ah→U P L N n0 [.code c] (fun x e' aE=>match x with
  | .normal=>∃k' e2,k'<k∧(∀p∈e2,p.2= .un∨Am.get e' p.1=p.2∨∃t k xs,Am.get e' p.1= .sl t k xs∧p.2= .sl .n k xs)∧J k' e2 aE
  |x=>U P L N n0 t Q x e' aE) .normal e ah):
 UX P L N n0 (.loop c) t Q e ah:=by
 intro c'
 induction c' with
 |loop c0 _=>
  intro bV
  simp only [bJ,Option.map_eq_some_iff] at bV
  obtain ⟨a,ha,he⟩:=bV
  injection he with he
  subst he
  refine AW.loop (fun k e ah=>∃e1,(∀t,Wk (Am.get e t) (Am.get e1 t))∧J k e1 ah) (k0:=k0) ?_ ⟨e0,RG hw,h0⟩
  rintro k e ah ⟨e1,hw1,hJ⟩
  refine AW.weak hw1 (nS c0 a _ e1 ah (by rw [iz c0 a ha];exact ha) (by rw [iz c0 a ha];exact ho) ?_)
  have:=round k e1 ah hJ
  refine Vk this fun x e' aE h=> ?_
  cases x with
  |normal=>obtain ⟨k',e2,h1,h2,h3⟩:=h;exact ⟨k',h1,e2,RG h2,h3⟩
  |_=>exact h
 |scope c0 ih=>exact fun bV=>AW.scope (ih bV)
 |region id ops draw=>intro bV;simp only [bJ] at bV;repeat' (split at bV)<;>simp at bV
 |block i c0=>intro bV;simp only [bJ,Option.map_eq_some_iff] at bV;obtain ⟨a, -,h⟩:=bV;cases h
 |seq a b=>intro bV;simp only [bJ] at bV;split at bV<;>simp at bV
 |cond a b c=>intro bV;simp only [bJ] at bV;split at bV<;>simp at bV
 |_=>intro bV;simp [bJ] at bV
theorem Z1 {P:Program} {L:List Nat} {N n0:Nat} {e:Env} {ah:AH} {t:List It} {Q:Exit→Env→AH→Prop} {c:av} (J:Nat→Env→AH→Prop) (k0:Nat) (e0:Env) (ho:pX N c=true)
 (hw:Ah e e0) (h0:J k0 e0 ah)
 (round:∀(K:Exit→Env→AH→Prop) k e ah,J k e ah→(∀k' e' e2 aE,k'<k→Ah e' e2→J k' e2 aE→K .normal e' aE)→(∀e' aE,U P L N n0 t Q .ret e' aE→K .ret e' aE)→
  (∀i e' aE,U P L N n0 t Q (.exit i) e' aE→K (.exit i) e' aE)→U P L N n0 [.code c] K .normal e ah):UX P L N n0 (.loop c) t Q e ah:=
 NW J k0 e0 ho hw h0 fun k e ah hJ=>round _ k e ah hJ (fun k' e' e2 aE h1 h2 h3=>⟨k',e2,h1,h2,h3⟩) (fun _ _ h=>h) (fun _ _ _ h=>h)
theorem Ah.nil {e:Env}:Ah e []:=by intro p hp;cases hp
theorem Ah.same {e r:Env} {i:Nat} {a:AV} (h:Am.get e i=a) (hr:Ah e r):Ah e ((i,a)::r):=by
 intro p hp
 rcases List.mem_cons.1 hp with rfl|hp
 · exact .inr (.inl h)
 · exact hr p hp
theorem Ah.un {e r:Env} {i:Nat} (hr:Ah e r):Ah e ((i, .un)::r):=by
 intro p hp
 rcases List.mem_cons.1 hp with rfl|hp
 · exact .inl rfl
 · exact hr p hp
theorem Ah.sl {e r:Env} {i k:Nat} {tg:Tg} {xs:List AV} (h:Am.get e i= .sl tg k xs) (hr:Ah e r):Ah e ((i, .sl .n k xs)::r):=by
 intro p hp
 rcases List.mem_cons.1 hp with rfl|hp
 · exact .inr (.inr ⟨_,_,_,h,rfl⟩)
 · exact hr p hp
theorem aF.weak {P:Program} {f:Nat} {args args':List AV} {ah:AH} {R:AV→AH→Prop} (hl:args'.length=args.length) (hw:∀(i:Nat) (a a':AV),args[i]? =some a→args'[i]? =some a'→Wk a a') (h:aF P f args' ah R):
 aF P f args ah R:=by
 refine ⟨h.1,fun F γ C w vs hs=>h.2 F γ C w vs ?_⟩
 rw [hl]
 refine hs.wk fun t=> ?_
 rw [dZ,dZ]
 simp only [Nat.zero_le,if_true,Nat.sub_zero]
 cases h1:args[t]? with
 |none=>
  have:args'[t]? =none:=by
   rw [List.getElem?_eq_none_iff] at h1 ⊢
   omega
  rw [this];exact .same _
 |some a=>
  have hlt:t<args'.length:=by rw [hl];exact (List.getElem?_eq_some_iff.1 h1).1
  rw [List.getElem?_eq_getElem hlt]
  exact hw t a _ h1 (List.getElem?_eq_getElem hlt)
theorem H8:∀l:List UInt8,bytesOf (l.map b8)=some l:=by
 intro l
 induction l with
 |nil=>rfl
 |cons c r ih=>
  simp only [List.map_cons,b8,bytesOf]
  rw [ih]
  simp
theorem NX {ah:AH} {i:Nat} {x:List AV} (h:ah[i]? =some x):ah.set i x=ah:=by
 have hlt:=(List.getElem?_eq_some_iff.1 h).1
 apply List.ext_getElem?
 intro j
 rw [List.getElem?_set]
 split
 · rename_i hj;subst hj;simp only [h,ite_eq_left_iff];try exact fun h0=>absurd hlt h0
 · rfl
theorem Kl.new {P:Program} {n:Nat} {rs:List ResultVar} {R:AV→AH→Prop} {x:Exit} {e:Env} {ah aE:AH} {vs:List AV} (hx:x= .normal∨x= .ret) (hr:fJ P e ah rs=some vs) (ht:ah.take n=aE)
 (hc:Cl n (fin vs)) (hh:ko n aE) (hn:n≤ah.length) (h:R (fin vs) aE):Kl P n rs R x e ah:=by
 refine ⟨hx, ?_⟩
 rw [hr]
 simp only [ht]
 exact ⟨hc,hh,hn,h⟩
theorem Ai {P:Program} {e:Env} {ah:AH}:fJ P e ah []=some []:=rfl
theorem wB {P:Program} {e:Env} {ah:AH} {t:Nat} {rs:List ResultVar} {a:AV} {vs:List AV} (h:Am.get e t=a) (ht:a.ew=false) (hr:fJ P e ah rs=some vs):fJ P e ah (.tmp t::rs)=some (a::vs):=by
 subst h
 simp only [fJ,ht,hr,Bool.false_eq_true,if_false]
theorem bh {P:Program} {e:Env} {ah:AH} {a:Nat} {ty:TypeId} {n:Option Nat} {rs:List ResultVar} {s o:Nat} {cs vs:List AV} {v:AV} (ht:tok P ty=true) (hn:tn P ty=n) (h:Am.get e a= .ptr s o) (hs:ah[s]? =some cs)
 (hl:jI n s o cs=some v) (hr:fJ P e ah rs=some vs):fJ P e ah (.cell a ty::rs)=some (v.sh::vs):=by
 subst hn
 simp only [fJ,ht,if_true,h,hs,hl,hr]
theorem aF.wkR {P:Program} {f:Nat} {args:List AV} {ah:AH} {R R':AV→AH→Prop} (h:aF P f args ah R) (hr:∀r aE,R r aE→∃r',Wk r r'∧R' r' aE):aF P f args ah R':=by
 refine ⟨h.1,fun F γ C w vs hs=>(h.2 F γ C w vs hs).mono ?_⟩
 rintro en w' ⟨r,v,aE,γ',C',rfl,h1,h2,h3,h4⟩
 obtain ⟨r',g1,g2⟩:=hr r aE h1
 refine ⟨r',v,aE,γ',C',rfl,g2,h2,h3.wk fun t=> ?_,h4⟩
 simp only [Am.get]
 split
 · exact g1
 · exact .same _
theorem Cl.up {n:Nat} {a:AV} (h:Cl n a) {m:Nat} (hm:n≤m):Cl m a:=by
 induction h with
 |ptr s o hs=>exact .ptr _ _ (by omega)
 |fn f cs _ ih=>exact .fn _ _ fun a ha=>ih a ha
 |agg cs _ ih=>exact .agg _ fun a ha=>ih a ha
 |bx cs _ ih=>exact .bx _ fun a ha=>ih a ha
 |v=>exact .v _
 |int=>exact .int ..
 |bool=>exact .bool _
 |str=>exact .str _
 |sl=>exact .sl ..
 |ep=>exact .ep ..
 |cv s k o n hs=>exact .cv _ _ _ _ (by omega)
 |qh=>exact .qh ..
 |ck s k o n hs=>exact .ck _ _ _ _ (by omega)
 |dF=>exact .dF
 |un=>exact .un
theorem ko.up {n m:Nat} {ah:AH} (h:ko n ah) (hm:n≤m):ko m ah:=fun s cs hs a ha=>(h s cs hs a ha).up hm
theorem ko.app {n:Nat} {ah si:AH} (h:ko n ah) (h2:ko n si):ko n (ah++si):=by
 intro s cs hs a ha
 rw [List.getElem?_append] at hs
 split at hs
 · exact h s cs hs a ha
 · exact h2 _ cs hs a ha
theorem ko.one {n:Nat} {cs:List AV} (h:∀a∈cs,Cl n a):ko n [cs]:=by
 intro s ds hs a ha
 rcases s with _|s
 · simp at hs;subst hs;exact h a ha
 · simp at hs
end Go.Am
end
section
namespace Go.Am
open Go
variable [Tabs]
def W1 (a a':AV):Prop:=a'=a∨∃t k xs,a= .sl t k xs∧a'= .sl .n k xs
def gm:List AV→List AV→Prop
 |[],[]=>True
 |a::r,a'::r'=>W1 a a'∧gm r r'
 |_,_=>False
theorem gm.len:∀ {cs cs':List AV},gm cs cs'→cs'.length=cs.length:=by
 intro cs
 induction cs with
 |nil=>intro cs' h;cases cs' with|nil=>rfl|cons=>exact h.elim
 |cons a r ih=>intro cs' h;cases cs' with|nil=>exact h.elim|cons a' r'=>simp [ih h.2]
theorem gm.get:∀ {cs cs':List AV},gm cs cs'→∀(i:Nat) (a a':AV),cs[i]? =some a→cs'[i]? =some a'→W1 a a':=by
 intro cs
 induction cs with
 |nil=>intro cs' _ i a a' h;simp at h
 |cons a r ih=>
  intro cs' h i b b' h1 h2
  cases cs' with
  |nil=>exact h.elim
  |cons a' r'=>
   rcases i with _|i
   · simp at h1 h2;subst h1;subst h2;exact h.1
   · exact ih h.2 i b b' (by simpa using h1) (by simpa using h2)
def W2 (a a':AV):Prop:=W1 a a'∨∃ds ds',a= .agg ds∧a'= .agg ds'∧gm ds ds'
def nc:List AV→List AV→Prop
 |[],[]=>True
 |a::r,a'::r'=>W2 a a'∧nc r r'
 |_,_=>False
theorem nc.len:∀ {cs cs':List AV},nc cs cs'→cs'.length=cs.length:=by
 intro cs
 induction cs with
 |nil=>intro cs' h;cases cs' with|nil=>rfl|cons=>exact h.elim
 |cons a r ih=>intro cs' h;cases cs' with|nil=>exact h.elim|cons a' r'=>simp [ih h.2]
theorem nc.get:∀ {cs cs':List AV},nc cs cs'→∀(i:Nat) (a a':AV),cs[i]? =some a→cs'[i]? =some a'→W2 a a':=by
 intro cs
 induction cs with
 |nil=>intro cs' _ i a a' h;simp at h
 |cons a r ih=>
  intro cs' h i b b' h1 h2
  cases cs' with
  |nil=>exact h.elim
  |cons a' r'=>
   rcases i with _|i
   · simp at h1 h2;subst h1;subst h2;exact h.1
   · exact ih h.2 i b b' (by simpa using h1) (by simpa using h2)
theorem W2.wk {a a':AV} (h:W2 a a'):Wk a a':=by
 rcases h with (rfl|⟨t,k,xs,rfl,rfl⟩)|⟨ds,ds',rfl,rfl,h⟩
 · exact .same _
 · exact .n ..
 · exact .agg _ _ h.len h.get
theorem W2.tcy {a a':AV} {v:Value} (h:W2 a a') (ht:Fy a v):Fy a' v:=by
 rcases h with (rfl|⟨t,k,xs,rfl,rfl⟩)|⟨ds,ds',rfl,rfl,h⟩
 · exact ht
 · exact QH ..
 · cases v with
   |agg vs=>
    intro i a' hi
    have hlt:i<ds.length:=by rw [←h.len];exact (List.getElem?_eq_some_iff.1 hi).1
    rcases h.get i _ _ (List.getElem?_eq_getElem hlt) hi with e|⟨t,k,xs,e1,rfl⟩
    · rw [e];exact ht i _ (List.getElem?_eq_getElem hlt)
    · exact Fz ..
   |_=>trivial
inductive Wx:AV→AV→Prop
 |wk (a a'):Wk a a'→(∀l k xs,a'≠ .sl (.fr l) k xs)→Wx a a'
 |own (k xs):Wx (.sl .ex k xs) (.sl .own k xs)
 |MV (cs cs'):nc cs cs'→Wx (.bx cs) (.bx cs')
def vq (cs cs':List AV):Prop:=cs'.length=cs.length∧∀(i:Nat) (a a':AV),cs[i]? =some a→cs'[i]? =some a'→Wx a a'
def fK (ah aE:AH):Prop:=aE.length=ah.length∧∀(s:Nat) (cs':List AV),aE[s]? =some cs'→∃cs,ah[s]? =some cs∧(cs'=cs∨vq cs cs')
def WS (e:Env) (ah:AH) (e1:Env) (bQ:AH):Prop:=(∀t,Wx (get e t) (get e1 t))∧fK ah bQ
theorem Wx.vr {C:Nat→List Value} {γ:List Nat} {a a':AV} {v:Value} (hw:Wx a a') (h:VR C γ a v):VR C γ a' v:=by
 cases hw with
 |wk _ _ hk=>exact hk.vr h
 |own=>exact h.iT _
 |MV cs cs' hc=>
  obtain ⟨vs,rfl,hs,hv⟩:=h.u0
  refine .bx _ _ _ (by rw [hc.len];exact hs) fun i a' hi=> ?_
  have hlt:i<cs.length:=by rw [←hc.len];exact (List.getElem?_eq_some_iff.1 hi).1
  exact (hc.get i _ _ (List.getElem?_eq_getElem hlt) hi).wk.vr (hv i _ (List.getElem?_eq_getElem hlt))
theorem Wx.tc {w:World} {C:Nat→List Value} {γ:List Nat} {a a':AV} {v:Value} (hw:Wx a a') (hv:VR C γ a v) (h:TC w C a v):TC w C a' v:=by
 cases hw with
 |wk _ _ hk=>exact hk.tc h
 |own k xs=>
  obtain ⟨ad,c,rfl, -⟩:=hv.eF
  exact .inl h
 |MV cs cs' hc=>
  obtain ⟨vs,rfl, -, -⟩:=hv.u0
  intro i a' hi
  have hlt:i<cs.length:=by rw [←hc.len];exact (List.getElem?_eq_some_iff.1 hi).1
  exact (hc.get i _ _ (List.getElem?_eq_getElem hlt) hi).tcy (h i _ (List.getElem?_eq_getElem hlt))
theorem Wx.bO {w:World} {C:Nat→List Value} {γ:List Nat} {a a':AV} {v:Value} {b:Nat} (hw:Wx a a') (hv:VR C γ a v) (ht:TC w C a v) (h:bO a' v=some b):Am.bO a v=some b:=by
 cases hw with
 |wk _ _ hk=>exact hk.own h
 |own k xs=>
  obtain ⟨ad,c,rfl, -⟩:=hv.eF
  have hc:c=xs.length:=ht
  subst hc
  cases ad<;>simp [Am.bO] at h
 |MV=>simp [Am.bO] at h
theorem SR.wx {L N F γ C e ah ts w} (h:SR L N F γ C e ah ts w) {e':Env} {aE:AH} (hw:WS e ah e' aE):SR L N F γ C e' aE ts w:=by
 obtain ⟨he,hl,hh⟩:=hw
 have hb:∀p b,blk γ e' aE ts w p b→blk γ e ah ts w p b:=by
  intro p b hp
  cases p with
  |obj s=>exact hp
  |tmp t=>exact (he t).bO (h.env t).1 (h.env t).2 hp
  |cell s i=>
   obtain ⟨cs',a',b0,h1,h2,h3,h4⟩:=hp
   obtain ⟨cs,g1,g2⟩:=hh s cs' h1
   rcases g2 with rfl|⟨g2,g3⟩
   · exact ⟨_,a',b0,g1,h2,h3,h4⟩
   · have hlt:i<cs.length:=by rw [←g2];exact (List.getElem?_eq_some_iff.1 h2).1
     have h0:cs[i]? =some cs[i]:=List.getElem?_eq_getElem hlt
     refine ⟨cs,cs[i],b0,g1,h0,h3, ?_⟩
     obtain ⟨vs,ty,q1,q2,q3⟩:=h.mem.obj s b0 cs g1 h3
     have hc:(w.cell? ⟨b0,i,none⟩).getD undef=vs.getD i undef:=by
      rw [dm q1];simp [Array.getD_eq_getD_getElem?]
     rw [hc] at h4 ⊢
     exact (g3 i _ _ h0 h2).bO (q3 i _ h0).1 (q3 i _ h0).2 h4
 refine ⟨⟨by rw [h.mem.len,hl],fun s b cs' h1 h2=> ?_,h.mem.u7,fun s b cs' h1 hne h2=> ?_,fun s b cs' us ty fr h1 h2 h3=> ?_⟩,h.sz,fun t=>⟨(he t).vr (h.env t).1,(he t).tc (h.env t).1 (h.env t).2⟩,fun p q b hp hq=>h.dU p q b (hb p b hp) (hb q b hq),
  fun p b hp=>h.nf p b (hb p b hp),h.jF,fun t l k xs ht=> ?_⟩
 · obtain ⟨cs,g1,g2⟩:=hh s cs' h1
   obtain ⟨vs,ty,q1,q2,q3⟩:=h.mem.obj s b cs g1 h2
   rcases g2 with rfl|⟨g2,g3⟩
   · exact ⟨vs,ty,q1,q2,q3⟩
   · refine ⟨vs,ty,q1,by omega,fun i a' hi=> ?_⟩
     have hlt:i<cs.length:=by rw [←g2];exact (List.getElem?_eq_some_iff.1 hi).1
     have h0:cs[i]? =some cs[i]:=List.getElem?_eq_getElem hlt
     exact ⟨(g3 i _ _ h0 hi).vr (q3 i _ h0).1,(g3 i _ _ h0 hi).tc (q3 i _ h0).1 (q3 i _ h0).2⟩
 · obtain ⟨cs,g1,g2⟩:=hh s cs' h1
   refine h.mem.ua s b cs g1 ?_ h2
   rintro rfl
   rcases g2 with rfl|⟨g2, -⟩
   · exact hne rfl
   · exact hne (List.eq_nil_of_length_eq_zero g2)
 · obtain ⟨cs,g1,g2⟩:=hh s cs' h1
   have hl':cs'.length=cs.length:=by
    rcases g2 with rfl|⟨g2, -⟩
    · rfl
    · exact g2
   rw [hl']
   exact h.mem.Cj s b cs us ty fr g1 h2 h3
 · exfalso
   have:=he t
   rw [ht] at this
   generalize get e t=a at this
   cases this with
   |wk _ _ _ hn=>exact hn l k xs rfl
theorem fK.refl (ah:AH):fK ah ah:=⟨rfl,fun s cs h=>⟨cs,h, .inl rfl⟩⟩
theorem fK.set {ah:AH} {q:Nat} {cs cs':List AV} (hq:ah[q]? =some cs) (hc:vq cs cs'):fK ah (ah.set q cs'):=by
 refine ⟨by simp,fun s ds hs=> ?_⟩
 rw [List.getElem?_set] at hs
 split at hs
 · rename_i h;subst h
   split at hs
   · injection hs with hs;subst hs;exact ⟨cs,hq, .inr hc⟩
   · cases hs
 · exact ⟨ds,hs, .inl rfl⟩
theorem Wx.un (a:AV):Wx a .un:= .wk _ _ (.un _) (by simp)
theorem Wx.n {t:Tg} {k:Nat} {xs:List AV}:Wx (.sl t k xs) (.sl .n k xs):= .wk _ _ (.n ..) (by simp)
theorem Wx.same {a:AV} (h:∀l k xs,a≠ .sl (.fr l) k xs):Wx a a:= .wk _ _ (.same _) h
theorem Wx.int {k:IntKind} {i:Int}:Wx (.int k i) (.int k i):= .same (by simp)
theorem Wx.b8 {c:UInt8}:Wx (b8 c) (b8 c):= .same (by simp [Am.b8])
theorem Wx.bool {b:Bool}:Wx (.bool b) (.bool b):= .same (by simp)
theorem Wx.str {l:List UInt8}:Wx (.str l) (.str l):= .same (by simp)
theorem Wx.ptr {s o:Nat}:Wx (.ptr s o) (.ptr s o):= .same (by simp)
theorem Wx.v {x:Value}:Wx (.v x) (.v x):= .same (by simp)
theorem Wx.fn {f:Nat} {cs:List AV}:Wx (.fn f cs) (.fn f cs):= .same (by simp)
theorem Wx.ep {a:AV} {o:Nat}:Wx (.ep a o) (.ep a o):= .same (by simp)
theorem Wx.ex {k:Nat} {xs:List AV}:Wx (.sl .ex k xs) (.sl .ex k xs):= .same (by simp)
theorem Wx.nn {k:Nat} {xs:List AV}:Wx (.sl .n k xs) (.sl .n k xs):= .same (by simp)
theorem Wx.oo {k:Nat} {xs:List AV}:Wx (.sl .own k xs) (.sl .own k xs):= .same (by simp)
theorem Wx.agg {cs cs':List AV} (h:gm cs cs'):Wx (.agg cs) (.agg cs'):= .wk _ _ (.agg _ _ h.len h.get) (by simp)
theorem Wx.bx {cs cs':List AV} (h:gm cs cs'):Wx (.bx cs) (.bx cs'):= .wk _ _ (.bx _ _ h.len h.get) (by simp)
theorem Wx.aaD {cs cs':List AV} (h:nc cs cs'):Wx (.bx cs) (.bx cs'):= .MV _ _ h
theorem nc.nil:nc [] []:=trivial
theorem nc.same {a:AV} {r r':List AV} (h:nc r r'):nc (a::r) (a::r'):=⟨.inl (.inl rfl),h⟩
theorem nc.n {t:Tg} {k:Nat} {xs:List AV} {r r':List AV} (h:nc r r'):nc (.sl t k xs::r) (.sl .n k xs::r'):=⟨.inl (.inr ⟨_,_,_,rfl,rfl⟩),h⟩
theorem nc.agg {ds ds':List AV} {r r':List AV} (hd:gm ds ds') (h:nc r r'):nc (.agg ds::r) (.agg ds'::r'):=⟨.inr ⟨_,_,rfl,rfl,hd⟩,h⟩
theorem gm.nil:gm [] []:=trivial
theorem gm.same {a:AV} {r r':List AV} (h:gm r r'):gm (a::r) (a::r'):=⟨.inl rfl,h⟩
theorem gm.n {t:Tg} {k:Nat} {xs:List AV} {r r':List AV} (h:gm r r'):gm (.sl t k xs::r) (.sl .n k xs::r'):=⟨.inr ⟨_,_,_,rfl,rfl⟩,h⟩
theorem vq.nil:vq [] []:=⟨rfl,fun i a a' h=>by simp at h⟩
theorem vq.cons {a a':AV} {r r':List AV} (h:Wx a a') (hr:vq r r'):vq (a::r) (a'::r'):=by
 refine ⟨by simp [hr.1],fun i b b' h1 h2=> ?_⟩
 rcases i with _|i
 · simp at h1 h2;subst h1;subst h2;exact h
 · exact hr.2 i b b' (by simpa using h1) (by simpa using h2)
def WE (e e1:Env):Prop:=∀p∈e1,Wx (Am.get e p.1) p.2
theorem WE.nil {e:Env}:WE e []:=by intro p hp;cases hp
theorem WE.cons {e r:Env} {i:Nat} {a:AV} (h:Wx (Am.get e i) a) (hr:WE e r):WE e ((i,a)::r):=by
 intro p hp
 rcases List.mem_cons.1 hp with rfl|hp
 · exact h
 · exact hr p hp
theorem WE.all {e e1:Env} (h:WE e e1):∀t,Wx (Am.get e t) (Am.get e1 t):=by
 intro t
 have key:∀e1:Env,Am.get e1 t= .un∨∃p∈e1,p.1=t∧Am.get e1 t=p.2:=by
  intro e1
  induction e1 with
  |nil=>exact .inl rfl
  |cons p r ih=>
   obtain ⟨i,a⟩:=p
   simp only [Am.get]
   split
   · rename_i h;exact .inr ⟨(i,a),by simp,h,rfl⟩
   · rcases ih with h|⟨p,hp,h1,h2⟩
     · exact .inl h
     · exact .inr ⟨p,List.mem_cons_of_mem _ hp,h1,h2⟩
 rcases key e1 with h0|⟨p,hp,rfl,h2⟩
 · rw [h0];exact Wx.un _
 · rw [h2];exact h p hp
section
variable {P:Program} {L:List Nat} {N n0:Nat} {e:Env} {ah:AH} {t:List It} {Q K:Exit→Env→AH→Prop} {r:List aL} {d:Option Nat}
theorem AW.FR {c:Code} {e1:Env} {bQ:AH} (hw:WS e ah e1 bQ) (h:AW P L N n0 c Q e1 bQ):AW P L N n0 c Q e ah:=
 fun F γ C ts w hs hn=>h F γ C ts w (hs.wx hw) hn
theorem AW.closed {c:Code} (h:AW P L N n0 c (fun x e ah=>Q x e ah∨∃e1 bQ,WS e ah e1 bQ∧Q x e1 bQ) e ah):AW P L N n0 c Q e ah:=by
 intro F γ C ts w hs hn
 refine wp_mono (h F γ C ts w hs hn) ?_
 rintro x a w' ⟨hd,hg,e',aE,γ',C',h1,h2,h3,h4⟩
 rcases h1 with h1|⟨e1,bQ,hw,h1⟩
 · exact ⟨hd,hg,e',aE,γ',C',h1,h2,h3,h4⟩
 · exact ⟨hd,hg,e1,bQ,γ',C',h1,h2,h3.wx hw,h4⟩
theorem AX.weak {c:av} {e1:Env} {bQ:AH} (he:WE e e1) (hh:fK ah bQ) (h:AX P L N n0 c Q e1 bQ):AX P L N n0 c Q e ah:=
 fun c' bV=>AW.FR ⟨he.all,hh⟩ (h c' bV)
theorem AX.mono {c:av} {Q':Exit→Env→AH→Prop} (h:AX P L N n0 c Q e ah) (hq:∀x e ah,Q x e ah→Q' x e ah):AX P L N n0 c Q' e ah:=
 fun c' bV=>(h c' bV).mono hq
theorem AX.go {m c:av} (hm:erase m=c) (ho:pX N c=true)
 (h:∀K':Exit→Env→AH→Prop,(∀x e ah e1 bQ,WE e e1→fK ah bQ→K x e1 bQ→K' x e ah)→U P L N n0 [.code m] K' .normal e ah):AX P L N n0 c K e ah:=by
 subst hm
 intro c' bV
 refine AW.closed (nS c' m _ e ah bV ho (h _ ?_))
 intro x e ah e1 bQ h1 h2 h3
 exact .inr ⟨e1,bQ,⟨h1.all,h2⟩,h3⟩
theorem Yh {c:av} (h:AX P L N n0 c (fun x e ah=>U P L N n0 t Q x e ah) e ah):UX P L N n0 c t Q e ah:=h
inductive St (ρ τ σ:Type) where
 |ret (r:ρ)
 |dW (t:τ)
 |cU (s:σ)
def iter {ρ τ σ:Type} (body:σ→Option (St ρ τ σ)):Nat→σ→Option (ρ⊕τ)
 |0,_=>none
 |n+1,s=>match body s with
  |none=>none
  |some (.ret r)=>some (.inl r)
  |some (.dW t)=>some (.inr t)
  |some (.cU s')=>iter body n s'
theorem AX.iter {ρ τ σ:Type} {body:σ→Option (St ρ τ σ)} {m c:av} (hm:erase m=c) (ho:pX N c=true) (J:σ→Env→AH→Prop) {F:Nat} {s0:σ} {o:ρ⊕τ} (hit:Am.iter body F s0=some o) (h0:J s0 e ah)
 (round:∀(K':Exit→Env→AH→Prop) s st e ah,J s e ah→body s=some st→
  (∀s',st= .cU s'→∀e' aE e1 bQ,WE e' e1→fK aE bQ→J s' e1 bQ→K' .normal e' aE)→
  (∀t,st= .dW t→o= .inr t)→(∀r,st= .ret r→o= .inl r)→
  (∀x e' aE e1 bQ,x≠ .normal→WE e' e1→fK aE bQ→K x e1 bQ→K' x e' aE)→U P L N n0 [.code m] K' .normal e ah):AX P L N n0 (.loop c) K e ah:=by
 subst hm
 intro c'
 induction c' with
 |loop c0 _=>
  intro bV
  simp only [bJ,Option.map_eq_some_iff] at bV
  obtain ⟨a,ha,he⟩:=bV
  injection he with he
  subst he
  refine AW.loop (fun k e ah=>∃s e1 bQ,WS e ah e1 bQ∧J s e1 bQ∧Am.iter body k s=some o∨(J s e ah∧Am.iter body k s=some o)) (k0:=F) ?_ ⟨s0,e,ah, .inr ⟨h0,hit⟩⟩
  have main:∀k s e ah,J s e ah→Am.iter body k s=some o→AW P L N n0 c0 (fun x e' aE=>match x with
   | .normal=>∃k',k'<k∧∃s e1 bQ,WS e' aE e1 bQ∧J s e1 bQ∧Am.iter body k' s=some o∨(J s e' aE∧Am.iter body k' s=some o)|x=>K x e' aE) e ah:=by
   intro k s e ah hJ hk
   cases k with
   |zero=>simp [Am.iter] at hk
   |succ k=>
    cases hb:body s with
    |none=>simp [Am.iter,hb] at hk
    |some st=>
     simp only [Am.iter,hb] at hk
     refine AW.closed (nS c0 m _ e ah ha ho (round _ s st e ah hJ hb ?_ ?_ ?_ ?_))
     · rintro s' rfl e' aE e1 bQ g1 g2 g3
       exact .inl ⟨k,Nat.lt_succ_self k,s',e1,bQ, .inl ⟨⟨g1.all,g2⟩,g3,hk⟩⟩
     · rintro t rfl;simp only [Option.some.injEq] at hk;exact hk.symm
     · rintro r rfl;simp only [Option.some.injEq] at hk;exact hk.symm
     · intro x e' aE e1 bQ hx g1 g2 g3
       cases x with
       |normal=>exact absurd rfl hx
       |_=>exact .inr ⟨e1,bQ,⟨g1.all,g2⟩,g3⟩
  rintro k e ah ⟨s,e1,bQ,⟨hw,hJ,hk⟩|⟨hJ,hk⟩⟩
  · exact AW.FR hw (main k s e1 bQ hJ hk)
  · exact main k s e ah hJ hk
 |scope c0 ih=>exact fun bV=>AW.scope (ih bV)
 |region id ops draw=>intro bV;simp only [bJ] at bV;repeat' (split at bV)<;>simp at bV
 |block i c0=>intro bV;simp only [bJ,Option.map_eq_some_iff] at bV;obtain ⟨a, -,h⟩:=bV;cases h
 |seq a b=>intro bV;simp only [bJ] at bV;split at bV<;>simp at bV
 |cond a b c=>intro bV;simp only [bJ] at bV;split at bV<;>simp at bV
 |_=>intro bV;simp [bJ] at bV
theorem aF.wkx {f:Nat} {args:List AV} {ah:AH} {R R':AV→AH→Prop} (h:aF P f args ah R) (hr:∀r aE,R r aE→∃r' CG,Wx r r'∧fK aE CG∧R' r' CG):aF P f args ah R':=by
 refine ⟨h.1,fun F γ C w vs hs=>(h.2 F γ C w vs hs).mono ?_⟩
 rintro en w' ⟨r,v,aE,γ',C',rfl,h1,h2,h3,h4⟩
 obtain ⟨r',CG,g1,g2,g3⟩:=hr r aE h1
 refine ⟨r',v,CG,γ',C',rfl,g3,h2,h3.wx ⟨fun t=> ?_,g2⟩,h4⟩
 simp only [Am.get]
 split
 · exact g1
 · exact Wx.un _
def WL:List AV→List AV→Prop
 |[],[]=>True
 |a::r,a'::r'=>Wx a a'∧WL r r'
 |_,_=>False
theorem WL.nil:WL [] []:=trivial
theorem WL.cons {a a':AV} {r r':List AV} (h:Wx a a') (hr:WL r r'):WL (a::r) (a'::r'):=⟨h,hr⟩
theorem WL.len:∀ {zq zq':List AV},WL zq zq'→zq'.length=zq.length:=by
 intro zq
 induction zq with
 |nil=>intro zq' h;cases zq' with|nil=>rfl|cons=>exact h.elim
 |cons a r ih=>intro zq' h;cases zq' with|nil=>exact h.elim|cons a' r'=>simp [ih h.2]
theorem WL.get:∀ {zq zq':List AV},WL zq zq'→∀(i:Nat) (a a':AV),zq[i]? =some a→zq'[i]? =some a'→Wx a a':=by
 intro zq
 induction zq with
 |nil=>intro zq' _ i a a' h;simp at h
 |cons a r ih=>
  intro zq' h i b b' h1 h2
  cases zq' with
  |nil=>exact h.elim
  |cons a' r'=>
   rcases i with _|i
   · simp at h1 h2;subst h1;subst h2;exact h.1
   · exact ih h.2 i b b' (by simpa using h1) (by simpa using h2)
theorem aF.FR {f:Nat} {args args':List AV} {ah bQ:AH} {R:AV→AH→Prop} (hw:WL args args') (hh:fK ah bQ) (h:aF P f args' bQ R):aF P f args ah R:=by
 refine ⟨h.1,fun F γ C w vs hs=>h.2 F γ C w vs ?_⟩
 rw [hw.len]
 refine hs.wx ⟨fun t=> ?_,hh⟩
 rw [dZ,dZ]
 simp only [Nat.zero_le,if_true,Nat.sub_zero]
 cases h1:args[t]? with
 |none=>
  have:args'[t]? =none:=by
   rw [List.getElem?_eq_none_iff] at h1 ⊢
   rw [hw.len];exact h1
  rw [this];exact Wx.un _
 |some a=>
  have hlt:t<args'.length:=by rw [hw.len];exact (List.getElem?_eq_some_iff.1 h1).1
  rw [List.getElem?_eq_getElem hlt]
  exact hw.get t a _ h1 (List.getElem?_eq_getElem hlt)
theorem W5 {f:Nat} {zq zq':List AV} {bQ:AH} {R:AV→AH→Prop} (h:aF P f zq' bQ R) (hw:WL zq zq') (hh:fK ah bQ) (hk:∀v aE,R v aE→U P L N n0 (.ops r::t) Q .normal (aG L (vm e) d v.df) aE):
 UK P L N n0 f zq d r t Q e ah:=(h.FR hw hh).mono hk
def vt (P:Program) (ah:AH) (rs:List ResultVar) (R:AV→AH→Prop) (e':Env) (H:AH):Prop:=
 ∃vs r' aE,fJ P e' H rs=some vs∧Wx (fin vs) r'∧R r' aE∧
  ((Cl ah.length (fin vs)∧ko ah.length (H.take ah.length)∧ah.length≤H.length∧fK (H.take ah.length) aE)∨fK H aE)
theorem aF.Yi {f:Nat} {rs:List ResultVar} {ac m:av} (hF:bM P f N rs ac) (hm:erase m=ac) {args:List AV} {R:AV→AH→Prop} (L:List Nat)
 (ho:pX N ac=true) (hN:args.length≤N)
 (h:ko ah.length ah→∀K:Exit→Env→AH→Prop,(∀x e' H,x= .normal∨x= .ret→vt P ah rs R e' H→K x e' H)→
  AX P L N ah.length ac K (eE 0 args) ah):aF P f args ah R:=by
 refine aF.wkx (R:=fun r aE=>∃r' CG,Wx r r'∧fK aE CG∧R r' CG) ?_ (fun r aE h=>h)
 obtain ⟨fn,c,h1,h2,h3,h4,rfl,rfl⟩:=hF
 refine aF.MN L h1 h2 h3 h4 ho hN ?_
 intro hcl hargs
 refine h hcl _ ?_
 rintro x e' H hx ⟨vs,r',aE,g1,g2,g3,⟨g4,g5,g6,g7⟩|g4⟩
 · refine .inl ⟨ah.length,Nat.le_refl _,hx, ?_⟩
   rw [g1]
   exact ⟨g4,g5,g6,r',aE,g2,g7,g3⟩
 · refine .inr ⟨hx, ?_⟩
   rw [g1]
   exact ⟨r',aE,g2,g4,g3⟩
end
end Go.Am
end
section
namespace Go.Am
open Go
variable [Tabs]
def idx {α:Type} (l:List α) (i:Int):Option α:=if 0≤i then l[i.toNat]? else none
def sub {α:Type} (l:List α) (i j:Int):Option (List α):=if 0≤i∧i≤j∧j≤l.length then some ((l.take j.toNat).drop i.toNat) else none
def eN {α:Type} (b:Nat) (xs ys:List α):Option (List α):=if (xs.length+ys.length)*b≤140737488355328∧xs.length+ys.length≤4611686018427387904 then some (xs++ys) else none
def cat (l m:List UInt8):Option (List UInt8):=if l.length+m.length≤9223372036854775807 then some (l++m) else none
def ml {α:Type} (f:α→AV) (xs:List α):List AV:=xs.map f
def dv (k:IntKind) (i j:Int):Option Int:=if j=0 then none else some (k.wrap (i.tdiv j))
def rm (k:IntKind) (i j:Int):Option Int:=if j=0 then none else some (i.tmod j)
def shl (k:IntKind) (i j:Int):Int:=k.wrap (i*2 ^ (min j.toNat k.bits))
def shr (k:IntKind) (i j:Int):Int:=i.fdiv (2 ^ (min j.toNat k.bits))
def RH (k:IntKind) (i j:Int):Int:=k.wrap (BitVec.ofInt k.bits i &&& BitVec.ofInt k.bits j).toNat
def Yj (k:IntKind) (i j:Int):Int:=k.wrap (BitVec.ofInt k.bits i ||| BitVec.ofInt k.bits j).toNat
def RI (k:IntKind) (i j:Int):Int:=k.wrap (BitVec.ofInt k.bits i ^^^ BitVec.ofInt k.bits j).toNat
def RJ (k:IntKind) (i:Int):AV:= .int k i
theorem aq {α β:Type} {o:Option α} {f:α→Option β} {r:β} (h:o.bind f=some r):∃x,o=some x∧f x=some r:=Option.bind_eq_some_iff.1 h
theorem ifb {β:Type} {B:Bool} {x y:Option β} {r:β} (h:(if B=true then x else y)=some r):(B=true∧x=some r)∨(B=false∧y=some r):=by
 cases B
 · exact .inr ⟨rfl,h⟩
 · exact .inl ⟨rfl,h⟩
theorem FT {β:Type} {p:Prop} [Decidable p] {x:Option β} {r:β} (h:(if p then x else none)=some r):p∧x=some r:=by
 split at h
 · exact ⟨by assumption,h⟩
 · cases h
theorem MW {α:Type} (f:α→AV) (l:List α) (i:Int):idx (ml f l) i=(idx l i).map f:=by
 unfold idx ml;split<;>simp
theorem FU {α:Type} (f:α→AV) (l:List α) (i j:Int):sub (ml f l) i j=(sub l i j).map (ml f):=by
 unfold sub ml;simp only [List.length_map];split<;>simp [List.map_take,List.map_drop,ml]
theorem FV {α:Type} (f:α→AV) (l:List α):(ml f l).length=l.length:=by simp [ml]
theorem kW {α:Type} {f:α→AV} {b:Nat} {xs ys zs:List α} (h:eN b xs ys=some zs):eN b (ml f xs) (ml f ys)=some (ml f zs):=by
 unfold eN at h ⊢
 simp only [FV]
 obtain ⟨hc,h⟩:=FT h
 rw [if_pos hc]
 injection h with h
 subst h
 simp [ml]
theorem Bh (l:List UInt8):bytesOf (ml b8 l)=some l:=H8 l
section
variable {P:Program} {L:List Nat} {N n0:Nat} {e:Env} {ah:AH} {t:List It} {Q:Exit→Env→AH→Prop} {r:List aL} {d:Option Nat} {g:Option (Nat×Bool)}
theorem Yk {y:Nat} {bs:List UInt8}:UG P L N n0 ⟨d, .lit y bs,g⟩ r t Q e ah (some true)=U P L N n0 (It.ops r::t) Q Exit.normal (put (aG L e d (.sl .ex 1 (ml b8 bs))) y .un) ah:=rfl
theorem MX {l:List UInt8} {k:IntKind} {i:Int}:HZ L e ah d (.str l) (.int k i)=(idx l i).map fun c=>(aG L e d (b8 c),ah):=by
 simp only [HZ,idx]
 split
 · cases l[i.toNat]? <;>rfl
 · rfl
theorem MY {tg:Tg} {k:Nat} {xs:List AV} {ki:IntKind} {i:Int}:y9 L e ah d k (.sl tg k xs) (.int ki i)=(idx xs i).map fun a=>(aG L e d (.ep a 0),ah):=by
 simp only [y9,idx]
 split
 · cases xs[i.toNat]? <;>simp [MT]
 · rfl
def bI (e:Env) (dflt:Int):Option Ar→AV
 |none=> .int .i64 dflt
 |some x=>ev e x
def MZ (L:List Nat) (e:Env) (ah:AH) (d:Option Nat) (l:List UInt8):AV→AV→Option (Env×AH)
 | .int _ i, .int _ j=>(sub l i j).map fun m=>(aG L e d (.str m),ah)
 |_,_=>none
theorem FW {n:Nat} {x:Option Ar}:kj e n x=uc (bI e n x):=by
 cases x with
 |none=>simp [kj,bI,uc]
 |some x=>simp only [RC,bI]
theorem CH {x:Option Ar}:kj e 0 x=uc (bI e 0 x):=FW (n:=0)
theorem Z2 {k:IntKind} {i:Int}:uc (.int k i)=if 0≤i then some i.toNat else none:=rfl
theorem CI {α:Type} (l:List α) (i j:Int):sub l i j=if 0≤i then if 0≤j then if i.toNat≤j.toNat∧j.toNat≤l.length then some ((l.take j.toNat).drop i.toNat) else none else none else none:=by
 unfold sub
 by_cases h1:0≤i
 · by_cases h2:0≤j
   · simp only [if_pos h1,if_pos h2]
     have:(0≤i∧i≤j∧j≤(l.length:Int))↔(i.toNat≤j.toNat∧j.toNat≤l.length):=by omega
     simp only [this]
   · rw [if_neg (by omega)];simp [h2]
 · rw [if_neg (by omega)];simp [h1]
theorem Vl {l:List UInt8} {lo hi:Option Ar}:MQ L e ah d lo hi (.str l)=MZ L e ah d l (bI e 0 lo) (bI e l.length hi):=by
 simp only [MQ,CH,FW]
 generalize bI e 0 lo=a
 generalize bI e l.length hi=b
 cases a with
 |int k i=>
  cases b with
  |int k' j=>
   simp only [uc,MZ,CI]
   by_cases h1:0≤i<;>by_cases h2:0≤j<;>simp only [h1,h2,if_true,if_false,MP,Option.map_none]
   split<;>rfl
  |_=>simp only [uc,MZ];split<;>rfl
 |_=>cases b<;>rfl
def M0 (L:List Nat) (e:Env) (ah:AH) (d:Option Nat) (k:Nat) (xs:List AV):AV→AV→Option (Env×AH)
 | .int _ i, .int _ j=>(sub xs i j).map fun ys=>(aG L e d (.sl .n k ys),ah)
 |_,_=>none
theorem Vm {tg:Tg} {k:Nat} {xs:List AV} {lo hi:Option Ar}:MS L e ah d k lo hi (.sl tg k xs)=M0 L e ah d k xs (bI e 0 lo) (bI e xs.length hi):=by
 simp only [MS,CH,FW]
 generalize bI e 0 lo=a
 generalize bI e xs.length hi=b
 cases a with
 |int k i=>
  cases b with
  |int k' j=>
   simp only [uc,M0,CI]
   by_cases h1:0≤i<;>by_cases h2:0≤j<;>simp only [h1,h2,if_true,if_false,MR,Option.map_none,true_and]
   split<;>rfl
  |_=>simp only [uc,M0];split<;>rfl
 |_=>cases b<;>rfl
def Bi {α:Type} (l:List α) (i j m:Int):Option (List α):=if j=m then sub l i j else none
theorem H9 {α:Type} (f:α→AV) (l:List α) (i j m:Int):Bi (ml f l) i j m=(Bi l i j m).map (ml f):=by
 unfold Bi;split
 · exact FU ..
 · rfl
def CJ (L:List Nat) (e:Env) (ah:AH) (d:Option Nat) (k:Nat) (xs:List AV):AV→AV→AV→Option (Env×AH)
 | .int _ i, .int _ j, .int _ m=>(Bi xs i j m).map fun ys=>(aG L e d (.sl .ex k ys),ah)
 |_,_,_=>none
theorem RL {tg:Tg} {k:Nat} {xs:List AV} {lo:Option Ar} {hi m:Ar}:FQ L e ah d k lo hi m (.sl tg k xs)=CJ L e ah d k xs (bI e 0 lo) (ev e hi) (ev e m):=by
 simp only [FQ,CH,RC]
 generalize bI e 0 lo=a
 generalize ev e hi=b
 generalize ev e m=c
 cases a with
 |int k i=>
  cases b with
  |int k' j=>
   cases c with
   |int k'' l=>
    simp only [uc,CJ,Bi,CI]
    by_cases h1:0≤i<;>by_cases h2:0≤j<;>by_cases h3:0≤l<;>by_cases h4:j=l<;>simp only [h1,h2,h3,h4,if_true,if_false,FP,Option.map_none,true_and]
    all_goals first
     |rfl
     |(exfalso;omega)
     |(subst h4;split<;>rename_i q<;>split<;>rename_i q2<;>first|rfl|(exfalso;omega))
     |(split<;>first|rfl|(exfalso;omega))
   |_=>simp only [uc,CJ];repeat' split
       all_goals first|rfl|skip
  |_=>simp only [uc,CJ];repeat' split
      all_goals first|rfl|skip
 |_=>cases b<;>cases c<;>rfl
theorem Vn {tg:Tg} {k b:Nat} {x:Ar} {ys:List AV}:RE L e ah d k b x (.sl tg k ys)=w5 L e ah d k b x ys:=by simp [RE]
theorem RM {b:Nat} {x:Ar} {l:List UInt8}:RF L e ah d b x (.str l)=w5 L e ah d 1 b x (ml b8 l):=rfl
def rH (L:List Nat) (e:Env) (ah:AH) (d:Option Nat) (k:Nat) (x:Ar) (xs zs:List AV):Tg→Option (Env×AH)
 | .ex=>some (aG L e d (.sl .own k zs),ah)
 | .own=>match x with
   | .t x=>some (aG L (put e x (.sl .n k xs)) d (.sl .own k zs),ah)
   |_=>none
 | .fr (.tmp t)=>match get e t with
   | .sl .own k' us=>if k'=k then some (aG L (put e t (.sl .n k' us)) d (.sl .own k zs),ah) else none
   |_=>none
 | .fr (.cell s q)=>match ah[s]? with
   |some cs=>match cs[q]? with
    |some (.sl .own k' us)=>if k'=k then (over cs q [.sl .n k' us]).map fun cs=>(aG L e d (.sl .own k zs),ah.set s cs) else none
    |_=>none
   |none=>none
 | .n=>none
def CK (L:List Nat) (e:Env) (ah:AH) (d:Option Nat) (k:Nat) (x:Ar) (xs:List AV) (tg:Tg):Option (List AV)→Option (Env×AH)
 |some zs=>rH L e ah d k x xs zs tg
 |none=>none
theorem RN {L:List Nat} {e:Env} {ah:AH} {d:Option Nat} {k:Nat} {x:Ar} {xs zs:List AV} {tg:Tg}:CK L e ah d k x xs tg (some zs)=rH L e ah d k x xs zs tg:=rfl
def FX (L:List Nat) (e:Env) (ah:AH) (d:Option Nat) (k b:Nat) (x:Ar) (ys:List AV):AV→Option (Env×AH)
 | .sl tg k' xs=>if k'=k then CK L e ah d k x xs tg (eN b xs ys) else none
 |_=>none
theorem Vo {k b:Nat} {x:Ar} {ys:List AV}:w5 L e ah d k b x ys=FX L e ah d k b x ys (ev e x):=by
 simp only [w5]
 cases ev e x with
 |sl tg k' xs=>
  simp only [FX,eN]
  by_cases h1:k'=k
  · subst h1
    simp only [true_and,if_true]
    by_cases h2:(xs.length+ys.length)*b≤140737488355328∧xs.length+ys.length≤4611686018427387904
    · simp only [if_pos h2,CK]
      cases tg with
      |fr l=>cases l with
       |tmp u=>
        simp only [rH]
        cases get e u with
        |sl Vp k2 zs=>cases Vp<;>rfl
        |_=>rfl
       |cell s q=>
        simp only [rH]
        cases ah[s]? with
        |none=>rfl
        |some cs=>
         simp only []
         cases cs[q]? with
         |none=>rfl
         |some a=>cases a with
          |sl Vp k2 zs=>cases Vp<;>rfl
          |_=>rfl
      |own=>cases x<;>rfl
      |_=>rfl
    · simp only [if_neg h2,CK]
  · simp [h1]
 |_=>rfl
end
theorem RO {k:IntKind} {i j:Int}:bt .add (.int k i) (.int k j)=some (.int k (k.wrap (i+j))):=by simp [bt,cz]
theorem RP {k:IntKind} {i j:Int}:bt .sub (.int k i) (.int k j)=some (.int k (k.wrap (i - j))):=by simp [bt,cz]
theorem Yl {k:IntKind} {i j:Int}:bt .mul (.int k i) (.int k j)=some (.int k (k.wrap (i*j))):=by simp [bt,cz]
theorem Ym {k:IntKind} {i j:Int}:bt .quo (.int k i) (.int k j)=(dv k i j).map (.int k):=by simp [bt,cz,dv];split<;>rfl
theorem RQ {k:IntKind} {i j:Int}:bt .rem (.int k i) (.int k j)=(rm k i j).map (.int k):=by simp [bt,cz,rm];split<;>rfl
theorem RR {k:IntKind} {i j:Int}:bt .and (.int k i) (.int k j)=some (.int k (RH k i j)):=by simp [bt,cz,RH]
theorem W6 {k:IntKind} {i j:Int}:bt .or (.int k i) (.int k j)=some (.int k (Yj k i j)):=by simp [bt,cz,Yj]
theorem RS {k:IntKind} {i j:Int}:bt .xor (.int k i) (.int k j)=some (.int k (RI k i j)):=by simp [bt,cz,RI]
theorem acm {k k':IntKind} {i j:Int}:bt .shl (.int k i) (.int k' j)=if j<0 then none else some (.int k (shl k i j)):=by simp [bt,shl]
theorem acn {k k':IntKind} {i j:Int}:bt .shr (.int k i) (.int k' j)=if j<0 then none else some (.int k (shr k i j)):=by simp [bt,shr]
theorem RT {k:IntKind} {i j:Int}:bt .eql (.int k i) (.int k j)=some (.bool (decide (i=j))):=by simp [bt,cz]
theorem RU {k:IntKind} {i j:Int}:bt .neq (.int k i) (.int k j)=some (.bool (!decide (i=j))):=by simp [bt,cz]
theorem RV {k:IntKind} {i j:Int}:bt .lss (.int k i) (.int k j)=some (.bool (decide (i<j))):=by simp [bt,cz]
theorem RW {k:IntKind} {i j:Int}:bt .leq (.int k i) (.int k j)=some (.bool (decide (i≤j))):=by simp [bt,cz]
theorem RX {k:IntKind} {i j:Int}:bt .gtr (.int k i) (.int k j)=some (.bool (decide (j<i))):=by simp [bt,cz]
theorem RY {k:IntKind} {i j:Int}:bt .geq (.int k i) (.int k j)=some (.bool (decide (j≤i))):=by simp [bt,cz]
theorem Vq {k k':IntKind} {i:Int}:bt .shr (.int k i) (.int k' 1)=some (.int k (shr k i 1)):=by simp [bt,shr]
theorem Vr {k k':IntKind} {i:Int}:bt .shl (.int k i) (.int k' 1)=some (.int k (shl k i 1)):=by simp [bt,shl]
theorem Vs {k k':IntKind} {i:Int}:bt .shr (.int k i) (.int k' 2)=some (.int k (shr k i 2)):=by simp [bt,shr]
theorem Vt {k k':IntKind} {i:Int}:bt .shl (.int k i) (.int k' 2)=some (.int k (shl k i 2)):=by simp [bt,shl]
theorem Vu {k k':IntKind} {i:Int}:bt .shr (.int k i) (.int k' 3)=some (.int k (shr k i 3)):=by simp [bt,shr]
theorem Vv {k k':IntKind} {i:Int}:bt .shl (.int k i) (.int k' 3)=some (.int k (shl k i 3)):=by simp [bt,shl]
theorem Vw {k k':IntKind} {i:Int}:bt .shr (.int k i) (.int k' 4)=some (.int k (shr k i 4)):=by simp [bt,shr]
theorem Vx {k k':IntKind} {i:Int}:bt .shl (.int k i) (.int k' 4)=some (.int k (shl k i 4)):=by simp [bt,shl]
theorem Vy {k k':IntKind} {i:Int}:bt .shr (.int k i) (.int k' 5)=some (.int k (shr k i 5)):=by simp [bt,shr]
theorem Vz {k k':IntKind} {i:Int}:bt .shl (.int k i) (.int k' 5)=some (.int k (shl k i 5)):=by simp [bt,shl]
theorem VA {k k':IntKind} {i:Int}:bt .shr (.int k i) (.int k' 6)=some (.int k (shr k i 6)):=by simp [bt,shr]
theorem VB {k k':IntKind} {i:Int}:bt .shl (.int k i) (.int k' 6)=some (.int k (shl k i 6)):=by simp [bt,shl]
theorem VC {k k':IntKind} {i:Int}:bt .shr (.int k i) (.int k' 7)=some (.int k (shr k i 7)):=by simp [bt,shr]
theorem VD {k k':IntKind} {i:Int}:bt .shl (.int k i) (.int k' 7)=some (.int k (shl k i 7)):=by simp [bt,shl]
theorem VE {k k':IntKind} {i:Int}:bt .shr (.int k i) (.int k' 8)=some (.int k (shr k i 8)):=by simp [bt,shr]
theorem VF {k k':IntKind} {i:Int}:bt .shl (.int k i) (.int k' 8)=some (.int k (shl k i 8)):=by simp [bt,shl]
theorem RZ {k k':IntKind} {i:Int}:bt .shr (.int k i) (.int k' 16)=some (.int k (shr k i 16)):=by simp [bt,shr]
theorem R0 {k k':IntKind} {i:Int}:bt .shl (.int k i) (.int k' 16)=some (.int k (shl k i 16)):=by simp [bt,shl]
theorem R1 {k k':IntKind} {i:Int}:bt .shr (.int k i) (.int k' 24)=some (.int k (shr k i 24)):=by simp [bt,shr]
theorem R2 {k k':IntKind} {i:Int}:bt .shl (.int k i) (.int k' 24)=some (.int k (shl k i 24)):=by simp [bt,shl]
theorem Yn {l m:List UInt8}:bt .add (.str l) (.str m)=(cat l m).map .str:=by simp only [bt,cat];split<;>rfl
theorem Yo {l m:List UInt8}:bt .eql (.str l) (.str m)=some (.bool (decide (l=m))):=rfl
theorem Yp {l m:List UInt8}:bt .neq (.str l) (.str m)=some (.bool (!decide (l=m))):=rfl
theorem R3 (n:Int):IntKind.wrap .u8 n=((UInt8.ofInt n).toNat:Int):=by
 have:(UInt8.ofInt n).toNat=(n % 256).toNat:=by
  rw [UInt8.ofInt]
  simp
  omega
 rw [this]
 simp only [IntKind.wrap,IntKind.bits,IntKind.signed,Bool.false_and,if_false,Bool.false_eq_true]
 omega
theorem VG (a b:UInt8):IntKind.wrap .u8 ((a.toNat:Int)+b.toNat)=((a+b).toNat:Int):=by
 have h1:=a.toNat_lt
 have h2:=b.toNat_lt
 simp only [IntKind.wrap,IntKind.bits,IntKind.signed,Bool.false_and,if_false,Bool.false_eq_true,UInt8.toNat_add]
 omega
theorem VH (a b:UInt8):IntKind.wrap .u8 ((a.toNat:Int) - b.toNat)=((a - b).toNat:Int):=by
 have h1:=a.toNat_lt
 have h2:=b.toNat_lt
 simp only [IntKind.wrap,IntKind.bits,IntKind.signed,Bool.false_and,if_false,Bool.false_eq_true,UInt8.toNat_sub]
 omega
theorem FY (a:UInt8):IntKind.wrap .u8 (a.toNat:Int)=(a.toNat:Int):=by
 have h1:=a.toNat_lt
 simp only [IntKind.wrap,IntKind.bits,IntKind.signed,Bool.false_and,if_false,Bool.false_eq_true]
 omega
theorem ofInt8 (a:UInt8):BitVec.ofInt 8 (a.toNat:Int)=a.toBitVec:=by
 apply BitVec.eq_of_toNat_eq;simp
theorem Yq {a b:UInt8}:bt .add (b8 a) (b8 b)=some (b8 (a+b)):=by simp only [b8];rw [RO,VG]
theorem Yr {a b:UInt8}:bt .sub (b8 a) (b8 b)=some (b8 (a - b)):=by simp only [b8];rw [RP,VH]
theorem Ys {a b:UInt8}:bt .and (b8 a) (b8 b)=some (b8 (a &&& b)):=by
 simp only [b8];rw [RR,RH]
 have:((BitVec.ofInt IntKind.u8.bits (a.toNat:Int) &&& BitVec.ofInt IntKind.u8.bits (b.toNat:Int)).toNat:Int)=((a &&& b).toNat:Int):=by
  simp only [IntKind.bits,ofInt8];rfl
 rw [this,FY]
theorem aaE {a b:UInt8}:bt .or (b8 a) (b8 b)=some (b8 (a ||| b)):=by
 simp only [b8];rw [W6,Yj]
 have:((BitVec.ofInt IntKind.u8.bits (a.toNat:Int) ||| BitVec.ofInt IntKind.u8.bits (b.toNat:Int)).toNat:Int)=((a ||| b).toNat:Int):=by
  simp only [IntKind.bits,ofInt8];rfl
 rw [this,FY]
theorem Yt {a b:UInt8}:bt .xor (b8 a) (b8 b)=some (b8 (a ^^^ b)):=by
 simp only [b8];rw [RS,RI]
 have:((BitVec.ofInt IntKind.u8.bits (a.toNat:Int) ^^^ BitVec.ofInt IntKind.u8.bits (b.toNat:Int)).toNat:Int)=((a ^^^ b).toNat:Int):=by
  simp only [IntKind.bits,ofInt8];rfl
 rw [this,FY]
theorem Yu {a b:UInt8}:bt .rem (b8 a) (b8 b)=if b=0 then none else some (b8 (a % b)):=by
 simp only [b8];rw [RQ,rm]
 by_cases h:b=0
 · subst h;simp
 · have h2:¬(b.toNat:Int)=0:=by
    intro h0;apply h;apply UInt8.toNat_inj.1;simp;omega
   rw [if_neg h,if_neg h2]
   simp only [Option.map_some,UInt8.toNat_mod]
   rw [Int.tmod_eq_emod_of_nonneg (by omega)]
   simp
theorem Yv {a b:UInt8}:bt .eql (b8 a) (b8 b)=some (.bool (decide (a=b))):=by
 simp only [b8];rw [RT];simp [←UInt8.toNat_inj,Int.ofNat_inj]
theorem Yw {a b:UInt8}:bt .neq (b8 a) (b8 b)=some (.bool (!decide (a=b))):=by
 simp only [b8];rw [RU];simp [←UInt8.toNat_inj,Int.ofNat_inj]
theorem Yx {a b:UInt8}:bt .lss (b8 a) (b8 b)=some (.bool (decide (a<b))):=by
 simp only [b8];rw [RV];simp [UInt8.lt_iff_toNat_lt]
theorem Yy {a b:UInt8}:bt .leq (b8 a) (b8 b)=some (.bool (decide (a≤b))):=by
 simp only [b8];rw [RW];simp [UInt8.le_iff_toNat_le]
theorem Yz {a b:UInt8}:bt .gtr (b8 a) (b8 b)=some (.bool (decide (b<a))):=by
 simp only [b8];rw [RX];simp [UInt8.lt_iff_toNat_lt]
theorem YA {a b:UInt8}:bt .geq (b8 a) (b8 b)=some (.bool (decide (b≤a))):=by
 simp only [b8];rw [RY];simp [UInt8.le_iff_toNat_le]
theorem aaF {k:IntKind} {c:UInt8}:eM (.int k) (b8 c)=some (.int k (k.wrap c.toNat)):=rfl
theorem aaG {k:IntKind} {i:Int}:eM (.int .u8) (.int k i)=some (b8 (UInt8.ofInt i)):=by simp only [eM,b8,R3]
theorem aaH {c:UInt8}:eM (.int .u8) (b8 c)=some (b8 c):=by simp only [eM,b8,FY]
theorem aaI {k':IntKind} {i:Int}:eM (.int .i8) (.int k' i)=some (.int .i8 (IntKind.wrap .i8 i)):=rfl
theorem YB {k':IntKind} {i:Int}:eM (.int .i16) (.int k' i)=some (.int .i16 (IntKind.wrap .i16 i)):=rfl
theorem YC {k':IntKind} {i:Int}:eM (.int .i32) (.int k' i)=some (.int .i32 (IntKind.wrap .i32 i)):=rfl
theorem YD {k':IntKind} {i:Int}:eM (.int .i64) (.int k' i)=some (.int .i64 (IntKind.wrap .i64 i)):=rfl
theorem YE {k':IntKind} {i:Int}:eM (.int .u16) (.int k' i)=some (.int .u16 (IntKind.wrap .u16 i)):=rfl
theorem YF {k':IntKind} {i:Int}:eM (.int .u32) (.int k' i)=some (.int .u32 (IntKind.wrap .u32 i)):=rfl
theorem YG {k':IntKind} {i:Int}:eM (.int .u64) (.int k' i)=some (.int .u64 (IntKind.wrap .u64 i)):=rfl
theorem aaJ {l:List UInt8}:eM .same (.str l)=some (.str l):=rfl
theorem aaK {l:List UInt8}:eM .sb (.str l)=some (.sl .own 1 (ml b8 l)):=rfl
theorem aaL {tg:Tg} {xs:List AV}:eM .bs (.sl tg 1 xs)=(bytesOf xs).map .str:=rfl
theorem YH {k:IntKind} {i:Int}:JZ .neg (.int k i)=some (.int k (k.wrap (0 - i))):=rfl
theorem YI {b:Bool}:JZ .not (.bool b)=some (.bool !b):=rfl
def aaM (k:IntKind) (i:Int):Int:=k.wrap (BitVec.ofInt k.bits (if k.signed then -1 else k.max) ^^^ BitVec.ofInt k.bits i).toNat
theorem YJ {k:IntKind} {i:Int}:JZ .xor (.int k i)=some (.int k (aaM k i)):=rfl
theorem F0:bytesOf []=some []:=rfl
theorem Kp {c:UInt8} {r:List AV}:bytesOf (b8 c::r)=(bytesOf r).map (c:: ·):=by
 simp [b8,bytesOf]
theorem Q_i {ks:List Pk} {k:IntKind} {i j:Int} {zq bs:List AV}:b6 (.i::ks) (.int k i::zq) (.int k j::bs)=(b6 ks zq bs).map (decide (i=j)&& ·):=by simp [b6]
theorem Q_s {ks:List Pk} {l m:List UInt8} {zq bs:List AV}:b6 (.s::ks) (.str l::zq) (.str m::bs)=(b6 ks zq bs).map (decide (l=m)&& ·):=rfl
theorem Q_b {ks:List Pk} {x y:Bool} {zq bs:List AV}:b6 (.b::ks) (.bool x::zq) (.bool y::bs)=(b6 ks zq bs).map ((x==y)&& ·):=rfl
theorem Q_n:b6 [] [] []=some true:=rfl
theorem aaN {x y:Bool}:JW (.bool x) (.bool y)=some (x==y):=rfl
theorem aaO {s o:Nat}:JX (.ptr s o) (.v (.pointer none))=some false:=rfl
theorem aaP {s o:Nat}:JX (.v (.pointer none)) (.ptr s o)=some false:=rfl
theorem aaQ:JX (.v (.pointer none)) (.v (.pointer none))=some true:=rfl
section
variable {P:Program} {L:List Nat} {N n0:Nat} {e:Env} {ah:AH} {t:List It} {Q:Exit→Env→AH→Prop} {r:List aL} {d:Option Nat}
theorem cu {c:UInt8}:(b8 c).br=b8 c:=rfl
theorem W7 {c:UInt8}:(b8 c).sh=b8 c:=rfl
theorem acL {c:UInt8}:(b8 c).s1=b8 c:=rfl
theorem acM {c:UInt8}:(b8 c).s0=b8 c:=rfl
theorem W8 {c:UInt8}:(b8 c).df=b8 c:=rfl
theorem aco {c:UInt8}:(b8 c).gQ=b8 c:=rfl
theorem acp {c:UInt8}:(b8 c).pW=b8 c:=rfl
theorem ab3 {c:UInt8} {l:Loc}:(b8 c).dR l=b8 c:=rfl
theorem acq {c:UInt8}:(b8 c).bN=false:=rfl
theorem bS {c:UInt8}:(b8 c).flat=true:=rfl
theorem acr {c:UInt8}:(b8 c).gT=true:=rfl
theorem acN {c:UInt8}:(b8 c).np=true:=rfl
theorem aaR {c:UInt8}:(b8 c).cells=[b8 c]:=rfl
theorem acs {c:UInt8}:(b8 c).ew=false:=rfl
theorem acO {c:UInt8} {x:Ar}:cp L x (b8 c)=b8 c:=rfl
theorem acu {c:UInt8} {x:Ar}:iK P L N n0 e ah d r t Q x (b8 c)=U P L N n0 (.ops r::t) Q .normal (aG L e d (b8 c)) ah:=rfl
theorem M1 {n:Nat} {c:UInt8}:Cl n (b8 c):= .int ..
theorem YK {l:List UInt8} {c:UInt8}:HZ L e ah d (.str l) (b8 c)=(idx l c.toNat).map fun c=>(aG L e d (b8 c),ah):=MX
theorem YL {tg:Tg} {k:Nat} {xs:List AV} {c:UInt8}:y9 L e ah d k (.sl tg k xs) (b8 c)=(idx xs c.toNat).map fun a=>(aG L e d (.ep a 0),ah):=MY
theorem acv {s o:Nat} {c:UInt8}:dD s o (some (b8 c))=some (b8 c):=rfl
theorem YM {c:UInt8}:NU L d e ah (some (b8 c))=some (aG L e d (b8 c),ah):=rfl
end
theorem h_eq {H:AH} {q:Nat} {c:List AV} (h:q<H.length):(H.set q c)[q]? =some c:=List.getElem?_set_self h
theorem W9 {H:AH} {s q:Nat} {c:List AV} (h:s≠q):(H.set s c)[q]? =H[q]? :=List.getElem?_set_ne h
theorem R4 {H T:AH} {q:Nat} (h:q<H.length):(H++T)[q]? =H[q]? :=List.getElem?_append_left h
theorem YN {H:AH} {c:List AV}:(H++[c])[H.length]? =some c:=by simp
theorem M3 {H:AH} {q:Nat} {c:List AV} (h:q=H.length):(H++[c])[q]? =some c:=by subst h;simp
theorem aR {H:AH} {q:Nat} {c:List AV} (h:H[q]? =some c):q<H.length:=(List.getElem?_eq_some_iff.1 h).1
theorem za {H:AH} {q:Nat} {c:List AV}:(H.set q c).length=H.length:=List.length_set
theorem zb {H:AH} {c:List AV}:(H++[c]).length=H.length+1:=by simp
structure Fr (ah:AH) (n0:Nat) (S:List Nat) (H:AH):Prop where
 le:n0≤H.length
 eq:∀j,j<n0→j∉S→H[j]? =ah[j]?
theorem Fr.refl (ah:AH) (S:List Nat):Fr ah ah.length S ah:=⟨Nat.le_refl _,fun _ _ _=>rfl⟩
theorem Fr.set {ah H:AH} {n0 s:Nat} {S:List Nat} {c:List AV} (h:Fr ah n0 S H) (hs:s∈S∨n0≤s):Fr ah n0 S (H.set s c):=by
 refine ⟨by simpa using h.le,fun j hj CL=> ?_⟩
 rw [List.getElem?_set_ne,h.eq j hj CL]
 rintro rfl
 rcases hs with hs|hs
 · exact CL hs
 · omega
theorem Fr.app {ah H T:AH} {n0:Nat} {S:List Nat} (h:Fr ah n0 S H):Fr ah n0 S (H++T):=by
 have:=h.le
 exact ⟨by simp;omega,fun j hj CL=>by rw [List.getElem?_append_left (by omega),h.eq j hj CL]⟩
theorem Fr.Xa {ah H:AH} (h:Fr ah ah.length [] H):H.take ah.length=ah:=by
 apply List.ext_getElem?
 intro j
 by_cases hj:j<ah.length
 · rw [List.getElem?_take_of_lt hj,h.eq j hj (by simp)]
 · rw [List.getElem?_eq_none (by simp;omega),List.getElem?_eq_none (by omega)]
theorem Fr.Xb {ah H:AH} {s:Nat} {c:List AV} (h:Fr ah ah.length [s] H) (hs:H[s]? =some c) (hl:s<ah.length):H.take ah.length=ah.set s c:=by
 apply List.ext_getElem?
 intro j
 by_cases hj:j<ah.length
 · rw [List.getElem?_take_of_lt hj]
   by_cases he:j=s
   · subst he;rw [hs,List.getElem?_set_self hl]
   · rw [List.getElem?_set_ne (Ne.symm he),h.eq j hj (by simpa using he)]
 · rw [List.getElem?_eq_none (by simp;omega),List.getElem?_eq_none (by simp;omega)]
theorem Fr.Xc {ah H:AH} {s s2:Nat} {c c2:List AV} (h:Fr ah ah.length [s,s2] H) (hs:H[s]? =some c) (hs2:H[s2]? =some c2) (hl:s<ah.length) (Bv:s2<ah.length) (hne:s≠s2):H.take ah.length=(ah.set s c).set s2 c2:=by
 apply List.ext_getElem?
 intro j
 by_cases hj:j<ah.length
 · rw [List.getElem?_take_of_lt hj]
   by_cases he:j=s2
   · subst he;rw [hs2,List.getElem?_set_self (by simpa using Bv)]
   · rw [List.getElem?_set_ne (Ne.symm he)]
     by_cases YO:j=s
     · subst YO;rw [hs,List.getElem?_set_self hl]
     · rw [List.getElem?_set_ne (Ne.symm YO),h.eq j hj (by simp;exact ⟨YO,he⟩)]
 · rw [List.getElem?_eq_none (by simp;omega),List.getElem?_eq_none (by simp;omega)]
end Go.Am
end
section
namespace Go.Am
open Go
variable [Tabs]
def dB:Bool→AV
 |true=> .dF
 |false=> .v .nilIface
def M4 (L:List Nat) (e:Env) (ah:AH) (d:Option Nat):AV→Option (Env×AH)
 | .sl _ _ xs=>some (aG L e d (.int .i64 xs.length),ah)
 | .cv _ _ _ n=>some (aG L e d (.int .i64 n),ah)
 | .ck _ _ n _=>some (aG L e d (.int .i64 n),ah)
 |_=>none
def R5 (L:List Nat) (e:Env) (ah:AH) (d:Option Nat):AV→Option (Env×AH)
 | .str l=>some (aG L e d (.int .i64 l.length),ah)
 |_=>none
def R6 (L:List Nat) (e:Env) (ah:AH) (d:Option Nat):Option AV→Option (Env×AH)
 |some a=>some (aG L e d a.sh,ah)
 |none=>none
def R7 (L:List Nat) (e:Env) (ah:AH) (d:Option Nat) (i:Nat):AV→Option (Env×AH)
 | .bx cs=>R6 L e ah d (cs[i]?)
 |_=>none
def Kq (L:List Nat) (e:Env) (ah:AH) (d:Option Nat):Option AV→Option (Env×AH)
 |some a=>some (aG L e d a.br,ah)
 |none=>none
def F1 (L:List Nat) (e:Env) (ah:AH) (d:Option Nat) (q:Nat):Option Nat→AV→Option (Env×AH)
 |some n, .agg cs=>if q+n≤cs.length then some (aG L e d (.agg (((cs.drop q).take n).map AV.br)),ah) else none
 |none, .agg cs=>Kq L e ah d (cs[q]?)
 |_,_=>none
def R8 (L:List Nat) (e:Env) (ah:AH) (d:Option Nat) (n:Option Nat):AV→Option (Env×AH)
 | .ep a p=>FO L d n e ah (.ep a p)
 |_=>none
theorem R9 {z:Value}:AV.br (.v z)=(.v z:AV):=rfl
theorem Kr {k:IntKind} {i:Int}:AV.br (.int k i)=(.int k i:AV):=rfl
theorem Ia {b:Bool}:AV.br (.bool b)=(.bool b:AV):=rfl
theorem Ks {l:List UInt8}:AV.br (.str l)=(.str l:AV):=rfl
theorem Kt {s o:Nat}:AV.br (.ptr s o)=(.ptr s o:AV):=rfl
theorem NY {a:AV} {o:Nat}:AV.br (.ep a o)=(.ep a o:AV):=rfl
theorem NZ {f:Nat} {cs:List AV}:AV.br (.fn f cs)=(.fn f cs:AV):=rfl
theorem N0:AV.br (.un)=(.un:AV):=rfl
theorem N1 {c:UInt8}:AV.br (b8 c)=(b8 c:AV):=rfl
theorem N2 {k:Nat} {xs:List AV}:AV.br (.sl .n k xs)=(.sl .n k xs:AV):=rfl
theorem Ku {k:Nat} {xs:List AV}:AV.br (.sl .ex k xs)=(.sl .ex k xs:AV):=rfl
theorem Ib {k:Nat} {xs:List AV}:AV.br (.sl .own k xs)=(.sl .n k xs:AV):=rfl
theorem Kv {l:Loc} {k:Nat} {xs:List AV}:AV.br (.sl (.fr l) k xs)=(.sl .n k xs:AV):=rfl
theorem Kw {cs:List AV}:AV.br (.agg cs)=(.agg cs:AV):=rfl
theorem Kx {cs:List AV}:AV.br (.bx cs)=(.bx cs:AV):=rfl
theorem Ky {q0 k0 o0 m0:Nat}:AV.br (.cv q0 k0 o0 m0)=(.cv q0 k0 o0 m0:AV):=rfl
theorem Kz {q0 k0 m0 c0:Nat}:AV.br (.ck q0 k0 m0 c0)=(.ck q0 k0 m0 c0:AV):=rfl
theorem KB:AV.br (.dF)=(.dF:AV):=rfl
theorem N3 {eb:Bool}:AV.br (dB eb)=(dB eb:AV):=by cases eb<;>rfl
theorem VI {z:Value}:AV.sh (.v z)=(.v z:AV):=rfl
theorem N4 {k:IntKind} {i:Int}:AV.sh (.int k i)=(.int k i:AV):=rfl
theorem KC {b:Bool}:AV.sh (.bool b)=(.bool b:AV):=rfl
theorem N5 {l:List UInt8}:AV.sh (.str l)=(.str l:AV):=rfl
theorem N6 {s o:Nat}:AV.sh (.ptr s o)=(.ptr s o:AV):=rfl
theorem Sa {a:AV} {o:Nat}:AV.sh (.ep a o)=(.ep a o:AV):=rfl
theorem Sb {f:Nat} {cs:List AV}:AV.sh (.fn f cs)=(.fn f cs:AV):=rfl
theorem Sc:AV.sh (.un)=(.un:AV):=rfl
theorem Sd {c:UInt8}:AV.sh (b8 c)=(b8 c:AV):=rfl
theorem Se {k:Nat} {xs:List AV}:AV.sh (.sl .n k xs)=(.sl .n k xs:AV):=rfl
theorem N7 {k:Nat} {xs:List AV}:AV.sh (.sl .ex k xs)=(.sl .ex k xs:AV):=rfl
theorem KD {k:Nat} {xs:List AV}:AV.sh (.sl .own k xs)=(.sl .n k xs:AV):=rfl
theorem N8 {l:Loc} {k:Nat} {xs:List AV}:AV.sh (.sl (.fr l) k xs)=(.sl .n k xs:AV):=rfl
theorem N9 {cs:List AV}:AV.sh (.agg cs)=(.agg (cs.map AV.br):AV):=rfl
theorem Oa {cs:List AV}:AV.sh (.bx cs)=(.bx (cs.map AV.br):AV):=rfl
theorem Ob {q0 k0 o0 m0:Nat}:AV.sh (.cv q0 k0 o0 m0)=(.cv q0 k0 o0 m0:AV):=rfl
theorem Oc {q0 k0 m0 c0:Nat}:AV.sh (.ck q0 k0 m0 c0)=(.ck q0 k0 m0 c0:AV):=rfl
theorem Od:AV.sh (.dF)=(.dF:AV):=rfl
theorem Sf {eb:Bool}:AV.sh (dB eb)=(dB eb:AV):=by cases eb<;>rfl
theorem VJ {z:Value}:AV.s1 (.v z)=(.v z:AV):=rfl
theorem Oe {k:IntKind} {i:Int}:AV.s1 (.int k i)=(.int k i:AV):=rfl
theorem KE {b:Bool}:AV.s1 (.bool b)=(.bool b:AV):=rfl
theorem Og {l:List UInt8}:AV.s1 (.str l)=(.str l:AV):=rfl
theorem Oh {s o:Nat}:AV.s1 (.ptr s o)=(.ptr s o:AV):=rfl
theorem Sg {a:AV} {o:Nat}:AV.s1 (.ep a o)=(.ep a o:AV):=rfl
theorem Sh {f:Nat} {cs:List AV}:AV.s1 (.fn f cs)=(.fn f cs:AV):=rfl
theorem Si:AV.s1 (.un)=(.un:AV):=rfl
theorem Sj {c:UInt8}:AV.s1 (b8 c)=(b8 c:AV):=rfl
theorem Sk {k:Nat} {xs:List AV}:AV.s1 (.sl .n k xs)=(.sl .n k xs:AV):=rfl
theorem Oi {k:Nat} {xs:List AV}:AV.s1 (.sl .ex k xs)=(.sl .n k xs:AV):=rfl
theorem KF {k:Nat} {xs:List AV}:AV.s1 (.sl .own k xs)=(.sl .n k xs:AV):=rfl
theorem Oj {l:Loc} {k:Nat} {xs:List AV}:AV.s1 (.sl (.fr l) k xs)=(.sl .n k xs:AV):=rfl
theorem Ok {cs:List AV}:AV.s1 (.agg cs)=(.agg cs:AV):=rfl
theorem Ol {cs:List AV}:AV.s1 (.bx cs)=(.bx cs:AV):=rfl
theorem Om {q0 k0 o0 m0:Nat}:AV.s1 (.cv q0 k0 o0 m0)=(.cv q0 k0 o0 m0:AV):=rfl
theorem On {q0 k0 m0 c0:Nat}:AV.s1 (.ck q0 k0 m0 c0)=(.ck q0 k0 m0 c0:AV):=rfl
theorem Oo:AV.s1 (.dF)=(.dF:AV):=rfl
theorem Sl {eb:Bool}:AV.s1 (dB eb)=(dB eb:AV):=by cases eb<;>rfl
theorem VK {z:Value}:AV.s0 (.v z)=(.v z:AV):=rfl
theorem Oq {k:IntKind} {i:Int}:AV.s0 (.int k i)=(.int k i:AV):=rfl
theorem KG {b:Bool}:AV.s0 (.bool b)=(.bool b:AV):=rfl
theorem Ot {l:List UInt8}:AV.s0 (.str l)=(.str l:AV):=rfl
theorem Ou {s o:Nat}:AV.s0 (.ptr s o)=(.ptr s o:AV):=rfl
theorem Sm {a:AV} {o:Nat}:AV.s0 (.ep a o)=(.ep a o:AV):=rfl
theorem Sn {f:Nat} {cs:List AV}:AV.s0 (.fn f cs)=(.fn f cs:AV):=rfl
theorem So:AV.s0 (.un)=(.un:AV):=rfl
theorem Sp {c:UInt8}:AV.s0 (b8 c)=(b8 c:AV):=rfl
theorem Sq {k:Nat} {xs:List AV}:AV.s0 (.sl .n k xs)=(.sl .n k xs:AV):=rfl
theorem Ov {k:Nat} {xs:List AV}:AV.s0 (.sl .ex k xs)=(.sl .n k xs:AV):=rfl
theorem KH {k:Nat} {xs:List AV}:AV.s0 (.sl .own k xs)=(.sl .n k xs:AV):=rfl
theorem Ox {l:Loc} {k:Nat} {xs:List AV}:AV.s0 (.sl (.fr l) k xs)=(.sl .n k xs:AV):=rfl
theorem Oy {cs:List AV}:AV.s0 (.agg cs)=(.agg (cs.map AV.s1):AV):=rfl
theorem Oz {cs:List AV}:AV.s0 (.bx cs)=(.bx cs:AV):=rfl
theorem OA {q0 k0 o0 m0:Nat}:AV.s0 (.cv q0 k0 o0 m0)=(.cv q0 k0 o0 m0:AV):=rfl
theorem OB {q0 k0 m0 c0:Nat}:AV.s0 (.ck q0 k0 m0 c0)=(.ck q0 k0 m0 c0:AV):=rfl
theorem OC:AV.s0 (.dF)=(.dF:AV):=rfl
theorem Sr {eb:Bool}:AV.s0 (dB eb)=(dB eb:AV):=by cases eb<;>rfl
theorem VL {z:Value}:AV.df (.v z)=(.v z:AV):=rfl
theorem OD {k:IntKind} {i:Int}:AV.df (.int k i)=(.int k i:AV):=rfl
theorem KI {b:Bool}:AV.df (.bool b)=(.bool b:AV):=rfl
theorem OE {l:List UInt8}:AV.df (.str l)=(.str l:AV):=rfl
theorem OF {s o:Nat}:AV.df (.ptr s o)=(.ptr s o:AV):=rfl
theorem Ss {a:AV} {o:Nat}:AV.df (.ep a o)=(.ep a o:AV):=rfl
theorem Su {f:Nat} {cs:List AV}:AV.df (.fn f cs)=(.fn f cs:AV):=rfl
theorem Sv:AV.df (.un)=(.un:AV):=rfl
theorem Sw {c:UInt8}:AV.df (b8 c)=(b8 c:AV):=rfl
theorem Sx {k:Nat} {xs:List AV}:AV.df (.sl .n k xs)=(.sl .n k xs:AV):=rfl
theorem OG {k:Nat} {xs:List AV}:AV.df (.sl .ex k xs)=(.sl .ex k xs:AV):=rfl
theorem KJ {k:Nat} {xs:List AV}:AV.df (.sl .own k xs)=(.sl .own k xs:AV):=rfl
theorem OH {l:Loc} {k:Nat} {xs:List AV}:AV.df (.sl (.fr l) k xs)=(.sl .n k xs:AV):=rfl
theorem OI {cs:List AV}:AV.df (.agg cs)=(.agg cs:AV):=rfl
theorem OJ {cs:List AV}:AV.df (.bx cs)=(.bx cs:AV):=rfl
theorem OK {q0 k0 o0 m0:Nat}:AV.df (.cv q0 k0 o0 m0)=(.cv q0 k0 o0 m0:AV):=rfl
theorem OL {q0 k0 m0 c0:Nat}:AV.df (.ck q0 k0 m0 c0)=(.ck q0 k0 m0 c0:AV):=rfl
theorem OM:AV.df (.dF)=(.dF:AV):=rfl
theorem Sy {eb:Bool}:AV.df (dB eb)=(dB eb:AV):=by cases eb<;>rfl
theorem KK {z:Value}:AV.bN (.v z)=false:=rfl
theorem F2 {k:IntKind} {i:Int}:AV.bN (.int k i)=false:=rfl
theorem D7 {b:Bool}:AV.bN (.bool b)=false:=rfl
theorem F3 {l:List UInt8}:AV.bN (.str l)=false:=rfl
theorem F4 {s o:Nat}:AV.bN (.ptr s o)=false:=rfl
theorem Ic {a:AV} {o:Nat}:AV.bN (.ep a o)=false:=rfl
theorem Ie {f:Nat} {cs:List AV}:AV.bN (.fn f cs)=false:=rfl
theorem Ig:AV.bN (.un)=false:=rfl
theorem Ih {c:UInt8}:AV.bN (b8 c)=false:=rfl
theorem Ii {k:Nat} {xs:List AV}:AV.bN (.sl .n k xs)=false:=rfl
theorem F5 {k:Nat} {xs:List AV}:AV.bN (.sl .ex k xs)=false:=rfl
theorem D8 {k:Nat} {xs:List AV}:AV.bN (.sl .own k xs)=true:=rfl
theorem F6 {l:Loc} {k:Nat} {xs:List AV}:AV.bN (.sl (.fr l) k xs)=false:=rfl
theorem F7 {cs:List AV}:AV.bN (.agg cs)=false:=rfl
theorem F8 {cs:List AV}:AV.bN (.bx cs)=false:=rfl
theorem F9 {q0 k0 o0 m0:Nat}:AV.bN (.cv q0 k0 o0 m0)=false:=rfl
theorem Ga {q0 k0 m0 c0:Nat}:AV.bN (.ck q0 k0 m0 c0)=false:=rfl
theorem Gb:AV.bN (.dF)=false:=rfl
theorem Ij {eb:Bool}:AV.bN (dB eb)=false:=by cases eb<;>rfl
theorem Sz {z:Value}:AV.pW (.v z)=(.v z:AV):=rfl
theorem KL {k:IntKind} {i:Int}:AV.pW (.int k i)=(.int k i:AV):=rfl
theorem Ik {b:Bool}:AV.pW (.bool b)=(.bool b:AV):=rfl
theorem KM {l:List UInt8}:AV.pW (.str l)=(.str l:AV):=rfl
theorem KN {s o:Nat}:AV.pW (.ptr s o)=(.ptr s o:AV):=rfl
theorem ON {a:AV} {o:Nat}:AV.pW (.ep a o)=(.ep a o:AV):=rfl
theorem OO {f:Nat} {cs:List AV}:AV.pW (.fn f cs)=(.fn f cs:AV):=rfl
theorem OP:AV.pW (.un)=(.un:AV):=rfl
theorem OQ {c:UInt8}:AV.pW (b8 c)=(b8 c:AV):=rfl
theorem OR {k:Nat} {xs:List AV}:AV.pW (.sl .n k xs)=(.sl .n k xs:AV):=rfl
theorem KO {k:Nat} {xs:List AV}:AV.pW (.sl .ex k xs)=(.sl .ex k xs:AV):=rfl
theorem Il {k:Nat} {xs:List AV}:AV.pW (.sl .own k xs)=(.sl .n k xs:AV):=rfl
theorem KP {l:Loc} {k:Nat} {xs:List AV}:AV.pW (.sl (.fr l) k xs)=(.sl (.fr l) k xs:AV):=rfl
theorem KQ {cs:List AV}:AV.pW (.agg cs)=(.agg cs:AV):=rfl
theorem KR {cs:List AV}:AV.pW (.bx cs)=(.bx cs:AV):=rfl
theorem KS {q0 k0 o0 m0:Nat}:AV.pW (.cv q0 k0 o0 m0)=(.cv q0 k0 o0 m0:AV):=rfl
theorem KT {q0 k0 m0 c0:Nat}:AV.pW (.ck q0 k0 m0 c0)=(.ck q0 k0 m0 c0:AV):=rfl
theorem KU:AV.pW (.dF)=(.dF:AV):=rfl
theorem OS {eb:Bool}:AV.pW (dB eb)=(dB eb:AV):=by cases eb<;>rfl
theorem OT {z:Value} {l0:Loc}:AV.dR l0 (.v z)=(.v z:AV):=rfl
theorem Im {k:IntKind} {i:Int} {l0:Loc}:AV.dR l0 (.int k i)=(.int k i:AV):=rfl
theorem Gc {b:Bool} {l0:Loc}:AV.dR l0 (.bool b)=(.bool b:AV):=rfl
theorem Io {l:List UInt8} {l0:Loc}:AV.dR l0 (.str l)=(.str l:AV):=rfl
theorem Ip {s o:Nat} {l0:Loc}:AV.dR l0 (.ptr s o)=(.ptr s o:AV):=rfl
theorem KV {a:AV} {o:Nat} {l0:Loc}:AV.dR l0 (.ep a o)=(.ep a o:AV):=rfl
theorem KW {f:Nat} {cs:List AV} {l0:Loc}:AV.dR l0 (.fn f cs)=(.fn f cs:AV):=rfl
theorem KX {l0:Loc}:AV.dR l0 (.un)=(.un:AV):=rfl
theorem KY {c:UInt8} {l0:Loc}:AV.dR l0 (b8 c)=(b8 c:AV):=rfl
theorem KZ {k:Nat} {xs:List AV} {l0:Loc}:AV.dR l0 (.sl .n k xs)=(.sl .n k xs:AV):=rfl
theorem Iq {k:Nat} {xs:List AV} {l0:Loc}:AV.dR l0 (.sl .ex k xs)=(.sl .ex k xs:AV):=rfl
theorem Gd {k:Nat} {xs:List AV} {l0:Loc}:AV.dR l0 (.sl .own k xs)=(.sl .own k xs:AV):=rfl
theorem Ir {l:Loc} {k:Nat} {xs:List AV} {l0:Loc}:AV.dR l0 (.sl (.fr l) k xs)=if l=l0 then .sl .n k xs else .sl (.fr l) k xs:=rfl
theorem Is {cs:List AV} {l0:Loc}:AV.dR l0 (.agg cs)=(.agg cs:AV):=rfl
theorem Iu {cs:List AV} {l0:Loc}:AV.dR l0 (.bx cs)=(.bx cs:AV):=rfl
theorem Iv {q0 k0 o0 m0:Nat} {l0:Loc}:AV.dR l0 (.cv q0 k0 o0 m0)=(.cv q0 k0 o0 m0:AV):=rfl
theorem Iw {q0 k0 m0 c0:Nat} {l0:Loc}:AV.dR l0 (.ck q0 k0 m0 c0)=(.ck q0 k0 m0 c0:AV):=rfl
theorem Ix {l0:Loc}:AV.dR l0 (.dF)=(.dF:AV):=rfl
theorem K1 {eb:Bool} {l0:Loc}:AV.dR l0 (dB eb)=(dB eb:AV):=by cases eb<;>rfl
theorem SA {z:Value}:AV.gQ (.v z)=(.v z:AV):=rfl
theorem K2 {k:IntKind} {i:Int}:AV.gQ (.int k i)=(.int k i:AV):=rfl
theorem Iy {b:Bool}:AV.gQ (.bool b)=(.bool b:AV):=rfl
theorem K3 {l:List UInt8}:AV.gQ (.str l)=(.str l:AV):=rfl
theorem K4 {s o:Nat}:AV.gQ (.ptr s o)=(.ptr s o:AV):=rfl
theorem OU {a:AV} {o:Nat}:AV.gQ (.ep a o)=(.ep a o:AV):=rfl
theorem OV {f:Nat} {cs:List AV}:AV.gQ (.fn f cs)=(.fn f cs:AV):=rfl
theorem OW:AV.gQ (.un)=(.un:AV):=rfl
theorem OX {c:UInt8}:AV.gQ (b8 c)=(b8 c:AV):=rfl
theorem OY {k:Nat} {xs:List AV}:AV.gQ (.sl .n k xs)=(.sl .n k xs:AV):=rfl
theorem K5 {k:Nat} {xs:List AV}:AV.gQ (.sl .ex k xs)=(.sl .ex k xs:AV):=rfl
theorem Iz {k:Nat} {xs:List AV}:AV.gQ (.sl .own k xs)=(.sl .own k xs:AV):=rfl
theorem K6 {cs:List AV}:AV.gQ (.agg cs)=(.agg cs:AV):=rfl
theorem K7 {cs:List AV}:AV.gQ (.bx cs)=(.bx cs:AV):=rfl
theorem K8 {q0 k0 o0 m0:Nat}:AV.gQ (.cv q0 k0 o0 m0)=(.cv q0 k0 o0 m0:AV):=rfl
theorem K9 {q0 k0 m0 c0:Nat}:AV.gQ (.ck q0 k0 m0 c0)=(.ck q0 k0 m0 c0:AV):=rfl
theorem La:AV.gQ (.dF)=(.dF:AV):=rfl
theorem OZ {eb:Bool}:AV.gQ (dB eb)=(dB eb:AV):=by cases eb<;>rfl
theorem SB {a b k:Nat} {xs:List AV}:AV.gQ (.sl (.fr (.cell a b)) k xs)= .sl .n k xs:=rfl
theorem SC {a k:Nat} {xs:List AV}:AV.gQ (.sl (.fr (.tmp a)) k xs)= .sl (.fr (.tmp a)) k xs:=rfl
theorem Lb {z:Value}:AV.cells (.v z)=[.v z]:=rfl
theorem Ge {k:IntKind} {i:Int}:AV.cells (.int k i)=[.int k i]:=rfl
theorem D9 {b:Bool}:AV.cells (.bool b)=[.bool b]:=rfl
theorem Gf {l:List UInt8}:AV.cells (.str l)=[.str l]:=rfl
theorem Gg {s o:Nat}:AV.cells (.ptr s o)=[.ptr s o]:=rfl
theorem IA {a:AV} {o:Nat}:AV.cells (.ep a o)=[.ep a o]:=rfl
theorem IB {f:Nat} {cs:List AV}:AV.cells (.fn f cs)=[.fn f cs]:=rfl
theorem IC:AV.cells (.un)=[.un]:=rfl
theorem ID {c:UInt8}:AV.cells (b8 c)=[b8 c]:=rfl
theorem IE {k:Nat} {xs:List AV}:AV.cells (.sl .n k xs)=[.sl .n k xs]:=rfl
theorem Gh {k:Nat} {xs:List AV}:AV.cells (.sl .ex k xs)=[.sl .ex k xs]:=rfl
theorem Ea {k:Nat} {xs:List AV}:AV.cells (.sl .own k xs)=[.sl .own k xs]:=rfl
theorem Gi {l:Loc} {k:Nat} {xs:List AV}:AV.cells (.sl (.fr l) k xs)=[.sl (.fr l) k xs]:=rfl
theorem Gj {cs:List AV}:AV.cells (.agg cs)=cs:=rfl
theorem Gk {cs:List AV}:AV.cells (.bx cs)=[.bx cs]:=rfl
theorem Gl {q0 k0 o0 m0:Nat}:AV.cells (.cv q0 k0 o0 m0)=[.cv q0 k0 o0 m0]:=rfl
theorem Gm {q0 k0 m0 c0:Nat}:AV.cells (.ck q0 k0 m0 c0)=[.ck q0 k0 m0 c0]:=rfl
theorem Gn:AV.cells (.dF)=[.dF]:=rfl
theorem IF {eb:Bool}:AV.cells (dB eb)=[dB eb]:=by cases eb<;>rfl
theorem SD {z:Value}:AV.gT (.v z)=true:=rfl
theorem Lc {k:IntKind} {i:Int}:AV.gT (.int k i)=true:=rfl
theorem IG {b:Bool}:AV.gT (.bool b)=true:=rfl
theorem Ld {l:List UInt8}:AV.gT (.str l)=true:=rfl
theorem Le {s o:Nat}:AV.gT (.ptr s o)=true:=rfl
theorem O0 {a:AV} {o:Nat}:AV.gT (.ep a o)=true:=rfl
theorem O1 {f:Nat} {cs:List AV}:AV.gT (.fn f cs)=true:=rfl
theorem O2:AV.gT (.un)=false:=rfl
theorem O3 {c:UInt8}:AV.gT (b8 c)=true:=rfl
theorem O4 {k:Nat} {xs:List AV}:AV.gT (.sl .n k xs)=true:=rfl
theorem Lf {k:Nat} {xs:List AV}:AV.gT (.sl .ex k xs)=true:=rfl
theorem II {k:Nat} {xs:List AV}:AV.gT (.sl .own k xs)=true:=rfl
theorem Lg {l:Loc} {k:Nat} {xs:List AV}:AV.gT (.sl (.fr l) k xs)=true:=rfl
theorem Lh {cs:List AV}:AV.gT (.agg cs)=false:=rfl
theorem Li {cs:List AV}:AV.gT (.bx cs)=false:=rfl
theorem Lj {q0 k0 o0 m0:Nat}:AV.gT (.cv q0 k0 o0 m0)=true:=rfl
theorem Ll {q0 k0 m0 c0:Nat}:AV.gT (.ck q0 k0 m0 c0)=true:=rfl
theorem Lm:AV.gT (.dF)=true:=rfl
theorem O5 {eb:Bool}:AV.gT (dB eb)=true:=by cases eb<;>rfl
theorem O6 {z:Value}:AV.flat (.v z)=true:=rfl
theorem IJ {k:IntKind} {i:Int}:AV.flat (.int k i)=true:=rfl
theorem Gp {b:Bool}:AV.flat (.bool b)=true:=rfl
theorem IK {l:List UInt8}:AV.flat (.str l)=true:=rfl
theorem IL {s o:Nat}:AV.flat (.ptr s o)=true:=rfl
theorem Ln {a:AV} {o:Nat}:AV.flat (.ep a o)=true:=rfl
theorem Lo {f:Nat} {cs:List AV}:AV.flat (.fn f cs)=true:=rfl
theorem Lp:AV.flat (.un)=true:=rfl
theorem Lq {c:UInt8}:AV.flat (b8 c)=true:=rfl
theorem Lr {k:Nat} {xs:List AV}:AV.flat (.sl .n k xs)=true:=rfl
theorem IM {k:Nat} {xs:List AV}:AV.flat (.sl .ex k xs)=true:=rfl
theorem Gq {k:Nat} {xs:List AV}:AV.flat (.sl .own k xs)=true:=rfl
theorem IN {l:Loc} {k:Nat} {xs:List AV}:AV.flat (.sl (.fr l) k xs)=true:=rfl
theorem IP {cs:List AV}:AV.flat (.agg cs)=false:=rfl
theorem IQ {cs:List AV}:AV.flat (.bx cs)=false:=rfl
theorem IT {q0 k0 o0 m0:Nat}:AV.flat (.cv q0 k0 o0 m0)=true:=rfl
theorem IU {q0 k0 m0 c0:Nat}:AV.flat (.ck q0 k0 m0 c0)=true:=rfl
theorem IV:AV.flat (.dF)=true:=rfl
theorem Ls {eb:Bool}:AV.flat (dB eb)=true:=by cases eb<;>rfl
theorem VM {z:Value}:AV.np (.v z)=true:=rfl
theorem O7 {k:IntKind} {i:Int}:AV.np (.int k i)=true:=rfl
theorem Lt {b:Bool}:AV.np (.bool b)=true:=rfl
theorem O8 {l:List UInt8}:AV.np (.str l)=true:=rfl
theorem O9 {s o:Nat}:AV.np (.ptr s o)=false:=rfl
theorem SE {a:AV} {o:Nat}:AV.np (.ep a o)=true:=rfl
theorem SF {f:Nat} {cs:List AV}:AV.np (.fn f cs)=cs.isEmpty:=rfl
theorem SG:AV.np (.un)=true:=rfl
theorem SH {c:UInt8}:AV.np (b8 c)=true:=rfl
theorem SI {k:Nat} {xs:List AV}:AV.np (.sl .n k xs)=true:=rfl
theorem Pa {k:Nat} {xs:List AV}:AV.np (.sl .ex k xs)=true:=rfl
theorem Lu {k:Nat} {xs:List AV}:AV.np (.sl .own k xs)=true:=rfl
theorem Pb {l:Loc} {k:Nat} {xs:List AV}:AV.np (.sl (.fr l) k xs)=true:=rfl
theorem Pc {cs:List AV}:AV.np (.agg cs)=false:=rfl
theorem Pd {cs:List AV}:AV.np (.bx cs)=false:=rfl
theorem Pe {q0 k0 o0 m0:Nat}:AV.np (.cv q0 k0 o0 m0)=false:=rfl
theorem Pf {q0 k0 m0 c0:Nat}:AV.np (.ck q0 k0 m0 c0)=false:=rfl
theorem Pg:AV.np (.dF)=true:=rfl
theorem SJ {eb:Bool}:AV.np (dB eb)=true:=by cases eb<;>rfl
theorem Lv {z:Value}:AV.ew (.v z)=false:=rfl
theorem Gr {k:IntKind} {i:Int}:AV.ew (.int k i)=false:=rfl
theorem Eb {b:Bool}:AV.ew (.bool b)=false:=rfl
theorem Gs {l:List UInt8}:AV.ew (.str l)=false:=rfl
theorem Gt {s o:Nat}:AV.ew (.ptr s o)=false:=rfl
theorem IW {a:AV} {o:Nat}:AV.ew (.ep a o)=false:=rfl
theorem IX {f:Nat} {cs:List AV}:AV.ew (.fn f cs)=false:=rfl
theorem IY:AV.ew (.un)=false:=rfl
theorem IZ {c:UInt8}:AV.ew (b8 c)=false:=rfl
theorem I0 {k:Nat} {xs:List AV}:AV.ew (.sl .n k xs)=false:=rfl
theorem Gu {k:Nat} {xs:List AV}:AV.ew (.sl .ex k xs)=false:=rfl
theorem Ec {k:Nat} {xs:List AV}:AV.ew (.sl .own k xs)=false:=rfl
theorem Gv {l:Loc} {k:Nat} {xs:List AV}:AV.ew (.sl (.fr l) k xs)=false:=rfl
theorem Gw {cs:List AV}:AV.ew (.agg cs)=false:=rfl
theorem Gx {cs:List AV}:AV.ew (.bx cs)=true:=rfl
theorem Gy {q0 k0 o0 m0:Nat}:AV.ew (.cv q0 k0 o0 m0)=false:=rfl
theorem Gz {q0 k0 m0 c0:Nat}:AV.ew (.ck q0 k0 m0 c0)=false:=rfl
theorem GA:AV.ew (.dF)=false:=rfl
theorem I1 {eb:Bool}:AV.ew (dB eb)=false:=by cases eb<;>rfl
theorem VN {L:List Nat} {x:Ar} {z:Value}:cp L x (.v z)= .v z:=rfl
theorem Ph {L:List Nat} {x:Ar} {k:IntKind} {i:Int}:cp L x (.int k i)= .int k i:=rfl
theorem Lw {L:List Nat} {x:Ar} {b:Bool}:cp L x (.bool b)= .bool b:=rfl
theorem Pj {L:List Nat} {x:Ar} {l:List UInt8}:cp L x (.str l)= .str l:=rfl
theorem Pm {L:List Nat} {x:Ar} {s o:Nat}:cp L x (.ptr s o)= .ptr s o:=rfl
theorem SK {L:List Nat} {x:Ar} {a:AV} {o:Nat}:cp L x (.ep a o)= .ep a o:=rfl
theorem SL {L:List Nat} {x:Ar} {f:Nat} {cs:List AV}:cp L x (.fn f cs)= .fn f cs:=rfl
theorem SM {L:List Nat} {x:Ar}:cp L x (.un)= .un:=rfl
theorem SN {L:List Nat} {x:Ar} {c:UInt8}:cp L x (b8 c)=b8 c:=rfl
theorem SO {L:List Nat} {x:Ar} {k:Nat} {xs:List AV}:cp L x (.sl .n k xs)= .sl .n k xs:=rfl
theorem Pn {L:List Nat} {x:Ar} {k:Nat} {xs:List AV}:cp L x (.sl .ex k xs)= .sl .ex k xs:=rfl
theorem Po {L:List Nat} {x:Ar} {l:Loc} {k:Nat} {xs:List AV}:cp L x (.sl (.fr l) k xs)= .sl (.fr l) k xs:=rfl
theorem Pp {L:List Nat} {x:Ar} {cs:List AV}:cp L x (.agg cs)= .agg (cs.map AV.br):=rfl
theorem Pq {L:List Nat} {x:Ar} {cs:List AV}:cp L x (.bx cs)= .bx (cs.map AV.br):=rfl
theorem Pr {L:List Nat} {x:Ar} {q0 k0 o0 m0:Nat}:cp L x (.cv q0 k0 o0 m0)= .cv q0 k0 o0 m0:=rfl
theorem Pt {L:List Nat} {x:Ar} {q0 k0 m0 c0:Nat}:cp L x (.ck q0 k0 m0 c0)= .ck q0 k0 m0 c0:=rfl
theorem Pu {L:List Nat} {x:Ar}:cp L x (.dF)= .dF:=rfl
theorem SP {L:List Nat} {x:Ar} {eb:Bool}:cp L x (dB eb)=dB eb:=by cases eb<;>rfl
theorem SQ {L:List Nat} {u k:Nat} {xs:List AV}:cp L (.t u) (.sl .own k xs)=if L.contains u then .sl (.fr (.tmp u)) k xs else .sl .n k xs:=rfl
theorem SS {L:List Nat} {a:AV} {k:Nat} {xs:List AV}:cp L (.c a) (.sl .own k xs)= .sl .n k xs:=rfl
theorem SU {P:Program} {L:List Nat} {N n0:Nat} {e:Env} {ah:AH} {t:List It} {Q:Exit→Env→AH→Prop} {r:List aL} {d:Option Nat} {x:Ar} {z:Value}:iK P L N n0 e ah d r t Q x (.v z)=U P L N n0 (.ops r::t) Q .normal (aG L e d (cp L x (.v z))) ah:=rfl
theorem Lx {P:Program} {L:List Nat} {N n0:Nat} {e:Env} {ah:AH} {t:List It} {Q:Exit→Env→AH→Prop} {r:List aL} {d:Option Nat} {x:Ar} {k:IntKind} {i:Int}:iK P L N n0 e ah d r t Q x (.int k i)=U P L N n0 (.ops r::t) Q .normal (aG L e d (cp L x (.int k i))) ah:=rfl
theorem I2 {P:Program} {L:List Nat} {N n0:Nat} {e:Env} {ah:AH} {t:List It} {Q:Exit→Env→AH→Prop} {r:List aL} {d:Option Nat} {x:Ar} {b:Bool}:iK P L N n0 e ah d r t Q x (.bool b)=U P L N n0 (.ops r::t) Q .normal (aG L e d (cp L x (.bool b))) ah:=rfl
theorem Ly {P:Program} {L:List Nat} {N n0:Nat} {e:Env} {ah:AH} {t:List It} {Q:Exit→Env→AH→Prop} {r:List aL} {d:Option Nat} {x:Ar} {l:List UInt8}:iK P L N n0 e ah d r t Q x (.str l)=U P L N n0 (.ops r::t) Q .normal (aG L e d (cp L x (.str l))) ah:=rfl
theorem Lz {P:Program} {L:List Nat} {N n0:Nat} {e:Env} {ah:AH} {t:List It} {Q:Exit→Env→AH→Prop} {r:List aL} {d:Option Nat} {x:Ar} {s o:Nat}:iK P L N n0 e ah d r t Q x (.ptr s o)=U P L N n0 (.ops r::t) Q .normal (aG L e d (cp L x (.ptr s o))) ah:=rfl
theorem Pv {P:Program} {L:List Nat} {N n0:Nat} {e:Env} {ah:AH} {t:List It} {Q:Exit→Env→AH→Prop} {r:List aL} {d:Option Nat} {x:Ar} {a:AV} {o:Nat}:iK P L N n0 e ah d r t Q x (.ep a o)=U P L N n0 (.ops r::t) Q .normal (aG L e d (cp L x (.ep a o))) ah:=rfl
theorem Pw {P:Program} {L:List Nat} {N n0:Nat} {e:Env} {ah:AH} {t:List It} {Q:Exit→Env→AH→Prop} {r:List aL} {d:Option Nat} {x:Ar} {f:Nat} {cs:List AV}:iK P L N n0 e ah d r t Q x (.fn f cs)=U P L N n0 (.ops r::t) Q .normal (aG L e d (cp L x (.fn f cs))) ah:=rfl
theorem Px {P:Program} {L:List Nat} {N n0:Nat} {e:Env} {ah:AH} {t:List It} {Q:Exit→Env→AH→Prop} {r:List aL} {d:Option Nat} {x:Ar}:iK P L N n0 e ah d r t Q x (.un)=U P L N n0 (.ops r::t) Q .normal (aG L e d (cp L x (.un))) ah:=rfl
theorem Py {P:Program} {L:List Nat} {N n0:Nat} {e:Env} {ah:AH} {t:List It} {Q:Exit→Env→AH→Prop} {r:List aL} {d:Option Nat} {x:Ar} {c:UInt8}:iK P L N n0 e ah d r t Q x (b8 c)=U P L N n0 (.ops r::t) Q .normal (aG L e d (cp L x (b8 c))) ah:=rfl
theorem Pz {P:Program} {L:List Nat} {N n0:Nat} {e:Env} {ah:AH} {t:List It} {Q:Exit→Env→AH→Prop} {r:List aL} {d:Option Nat} {x:Ar} {k:Nat} {xs:List AV}:iK P L N n0 e ah d r t Q x (.sl .n k xs)=U P L N n0 (.ops r::t) Q .normal (aG L e d (cp L x (.sl .n k xs))) ah:=rfl
theorem LA {P:Program} {L:List Nat} {N n0:Nat} {e:Env} {ah:AH} {t:List It} {Q:Exit→Env→AH→Prop} {r:List aL} {d:Option Nat} {x:Ar} {k:Nat} {xs:List AV}:iK P L N n0 e ah d r t Q x (.sl .ex k xs)=U P L N n0 (.ops r::t) Q .normal (aG L e d (cp L x (.sl .ex k xs))) ah:=rfl
theorem LB {P:Program} {L:List Nat} {N n0:Nat} {e:Env} {ah:AH} {t:List It} {Q:Exit→Env→AH→Prop} {r:List aL} {d:Option Nat} {x:Ar} {l:Loc} {k:Nat} {xs:List AV}:iK P L N n0 e ah d r t Q x (.sl (.fr l) k xs)=U P L N n0 (.ops r::t) Q .normal (aG L e d (cp L x (.sl (.fr l) k xs))) ah:=rfl
theorem LC {P:Program} {L:List Nat} {N n0:Nat} {e:Env} {ah:AH} {t:List It} {Q:Exit→Env→AH→Prop} {r:List aL} {d:Option Nat} {x:Ar} {cs:List AV}:iK P L N n0 e ah d r t Q x (.agg cs)=U P L N n0 (.ops r::t) Q .normal (aG L e d (cp L x (.agg cs))) ah:=rfl
theorem LD {P:Program} {L:List Nat} {N n0:Nat} {e:Env} {ah:AH} {t:List It} {Q:Exit→Env→AH→Prop} {r:List aL} {d:Option Nat} {x:Ar} {cs:List AV}:iK P L N n0 e ah d r t Q x (.bx cs)=U P L N n0 (.ops r::t) Q .normal (aG L e d (cp L x (.bx cs))) ah:=rfl
theorem LF {P:Program} {L:List Nat} {N n0:Nat} {e:Env} {ah:AH} {t:List It} {Q:Exit→Env→AH→Prop} {r:List aL} {d:Option Nat} {x:Ar} {q0 k0 o0 m0:Nat}:iK P L N n0 e ah d r t Q x (.cv q0 k0 o0 m0)=U P L N n0 (.ops r::t) Q .normal (aG L e d (cp L x (.cv q0 k0 o0 m0))) ah:=rfl
theorem LG {P:Program} {L:List Nat} {N n0:Nat} {e:Env} {ah:AH} {t:List It} {Q:Exit→Env→AH→Prop} {r:List aL} {d:Option Nat} {x:Ar} {q0 k0 m0 c0:Nat}:iK P L N n0 e ah d r t Q x (.ck q0 k0 m0 c0)=U P L N n0 (.ops r::t) Q .normal (aG L e d (cp L x (.ck q0 k0 m0 c0))) ah:=rfl
theorem LH {P:Program} {L:List Nat} {N n0:Nat} {e:Env} {ah:AH} {t:List It} {Q:Exit→Env→AH→Prop} {r:List aL} {d:Option Nat} {x:Ar}:iK P L N n0 e ah d r t Q x (.dF)=U P L N n0 (.ops r::t) Q .normal (aG L e d (cp L x (.dF))) ah:=rfl
theorem PA {P:Program} {L:List Nat} {N n0:Nat} {e:Env} {ah:AH} {t:List It} {Q:Exit→Env→AH→Prop} {r:List aL} {d:Option Nat} {x:Ar} {eb:Bool}:iK P L N n0 e ah d r t Q x (dB eb)=U P L N n0 (.ops r::t) Q .normal (aG L e d (cp L x (dB eb))) ah:=by cases eb<;>rfl
theorem PB {P:Program} {L:List Nat} {N n0:Nat} {e:Env} {ah:AH} {t:List It} {Q:Exit→Env→AH→Prop} {r:List aL} {d:Option Nat} {y k:Nat} {xs:List AV}:iK P L N n0 e ah d r t Q (.t y) (.sl .own k xs)=U P L N n0 (.ops r::t) Q .normal (aG L (put e y (.sl .n k xs)) d (.sl .own k xs)) ah:=rfl
theorem PD {P:Program} {L:List Nat} {N n0:Nat} {e:Env} {ah:AH} {t:List It} {Q:Exit→Env→AH→Prop} {r:List aL} {d:Option Nat} {a:AV} {k:Nat} {xs:List AV}:iK P L N n0 e ah d r t Q (.c a) (.sl .own k xs)=U P L N n0 (.ops r::t) Q .normal (aG L e d (cp L (.c a) (.sl .own k xs))) ah:=rfl
theorem PF {L:List Nat} {e:Env} {ah:AH} {d:Option Nat} {a b:Ar}:Kn L e ah d a b (.bool true)=some (aG L e d (ev e a).sh,ah):=rfl
theorem PG {L:List Nat} {e:Env} {ah:AH} {d:Option Nat} {a b:Ar}:Kn L e ah d a b (.bool false)=some (aG L e d (ev e b).sh,ah):=rfl
theorem LI {L:List Nat} {e:Env} {ah:AH} {d:Option Nat} {s o:Nat}:Ry L e ah d (.ptr s o)=some (aG L e d (.ptr s o),ah):=rfl
theorem PI {L:List Nat} {e:Env} {ah:AH} {d:Option Nat} {a:AV} {o:Nat}:Ry L e ah d (.ep a o)=some (aG L e d (.ep a o),ah):=rfl
theorem LJ {L:List Nat} {e:Env} {ah:AH} {d:Option Nat} {q s o:Nat}:Rz L e ah d q (.ptr s o)=some (aG L e d (.ptr s (o+q)),ah):=rfl
theorem PJ {L:List Nat} {e:Env} {ah:AH} {d:Option Nat} {q o:Nat} {a:AV}:Rz L e ah d q (.ep a o)=some (aG L e d (.ep a (o+q)),ah):=rfl
theorem PK {L:List Nat} {e:Env} {ah:AH} {d:Option Nat} {n:Option Nat} {s o:Nat}:FO L d n e ah (.ptr s o)=Ve L d n s o e ah (ah[s]?):=rfl
theorem SV {L:List Nat} {e:Env} {ah:AH} {d:Option Nat} {o:Nat} {a:AV}:FO L d none e ah (.ep a o)=NU L d e ah (a.cells[o]?):=rfl
theorem SW {L:List Nat} {e:Env} {ah:AH} {d:Option Nat} {n o:Nat} {a:AV}:FO L d (some n) e ah (.ep a o)=if o+n≤a.cells.length∧aS ((a.cells.drop o).take n) then some (aG L e d (.agg (((a.cells.drop o).take n).map AV.s1)),ah) else none:=rfl
theorem SX {s1 o1:Nat} {z:Value}:dD s1 o1 (some (.v z))=some (AV.br (.v z)):=rfl
theorem LK {s1 o1:Nat} {k:IntKind} {i:Int}:dD s1 o1 (some (.int k i))=some (AV.br (.int k i)):=rfl
theorem I3 {s1 o1:Nat} {b:Bool}:dD s1 o1 (some (.bool b))=some (AV.br (.bool b)):=rfl
theorem LL {s1 o1:Nat} {l:List UInt8}:dD s1 o1 (some (.str l))=some (AV.br (.str l)):=rfl
theorem LM {s1 o1:Nat} {s o:Nat}:dD s1 o1 (some (.ptr s o))=some (AV.br (.ptr s o)):=rfl
theorem PL {s1 o1:Nat} {a:AV} {o:Nat}:dD s1 o1 (some (.ep a o))=some (AV.br (.ep a o)):=rfl
theorem PM {s1 o1:Nat} {f:Nat} {cs:List AV}:dD s1 o1 (some (.fn f cs))=some (AV.br (.fn f cs)):=rfl
theorem PN {s1 o1:Nat}:dD s1 o1 (some (.un))=some (AV.br (.un)):=rfl
theorem PO {s1 o1:Nat} {c:UInt8}:dD s1 o1 (some (b8 c))=some (AV.br (b8 c)):=rfl
theorem PR {s1 o1:Nat} {k:Nat} {xs:List AV}:dD s1 o1 (some (.sl .n k xs))=some (AV.br (.sl .n k xs)):=rfl
theorem LN {s1 o1:Nat} {k:Nat} {xs:List AV}:dD s1 o1 (some (.sl .ex k xs))=some (AV.br (.sl .ex k xs)):=rfl
theorem LO {s o k:Nat} {xs:List AV}:dD s o (some (.sl .own k xs))=some (.sl (.fr (.cell s o)) k xs):=rfl
theorem LP {s1 o1:Nat} {l:Loc} {k:Nat} {xs:List AV}:dD s1 o1 (some (.sl (.fr l) k xs))=some (AV.br (.sl (.fr l) k xs)):=rfl
theorem LQ {s1 o1:Nat} {q0 k0 o0 m0:Nat}:dD s1 o1 (some (.cv q0 k0 o0 m0))=some (AV.br (.cv q0 k0 o0 m0)):=rfl
theorem LR {s1 o1:Nat} {q0 k0 m0 c0:Nat}:dD s1 o1 (some (.ck q0 k0 m0 c0))=some (AV.br (.ck q0 k0 m0 c0)):=rfl
theorem LS {s1 o1:Nat}:dD s1 o1 (some (.dF))=some (AV.br (.dF)):=rfl
theorem PS {s1 o1:Nat} {eb:Bool}:dD s1 o1 (some (dB eb))=some (AV.br (dB eb)):=by cases eb<;>rfl
theorem VO {L:List Nat} {e:Env} {ah:AH} {d:Option Nat} {ks:List Pk} {neq:Bool} {zq bs:List AV}:W3 L e ah d ks neq (.agg zq) (.agg bs)=(b6 ks zq bs).map fun b=>(aG L e d (.bool (if neq then !b else b)),ah):=rfl
theorem VP {L:List Nat} {e:Env} {ah:AH} {d:Option Nat} {l:List UInt8} {k k2:IntKind} {i j:Int}:MZ L e ah d l (.int k i) (.int k2 j)=(sub l i j).map fun m=>(aG L e d (.str m),ah):=rfl
theorem VQ {L:List Nat} {e:Env} {ah:AH} {d:Option Nat} {q:Nat} {xs:List AV} {k k2:IntKind} {i j:Int}:M0 L e ah d q xs (.int k i) (.int k2 j)=(sub xs i j).map fun ys=>(aG L e d (.sl .n q ys),ah):=rfl
theorem SY {L:List Nat} {e:Env} {ah:AH} {d:Option Nat} {q:Nat} {xs:List AV} {k k2 k3:IntKind} {i j m:Int}:CJ L e ah d q xs (.int k i) (.int k2 j) (.int k3 m)=(Bi xs i j m).map fun ys=>(aG L e d (.sl .ex q ys),ah):=rfl
theorem SZ {L:List Nat} {e:Env} {ah:AH} {d:Option Nat} {k b:Nat} {x:Ar} {ys xs:List AV} {tg:Tg}:FX L e ah d k b x ys (.sl tg k xs)=CK L e ah d k x xs tg (eN b xs ys):=by simp [FX]
theorem S0 {L:List Nat} {e:Env} {ah:AH} {d:Option Nat} {k:Nat} {x:Ar} {xs zs:List AV}:rH L e ah d k x xs zs .ex=some (aG L e d (.sl .own k zs),ah):=rfl
theorem PT {L:List Nat} {e:Env} {ah:AH} {d:Option Nat} {k y:Nat} {xs zs:List AV}:rH L e ah d k (.t y) xs zs .own=some (aG L (put e y (.sl .n k xs)) d (.sl .own k zs),ah):=rfl
def YP (L:List Nat) (e:Env) (ah:AH) (d:Option Nat) (k u:Nat) (zs:List AV):AV→Option (Env×AH)
 | .sl .own k' us=>if k'=k then some (aG L (put e u (.sl .n k' us)) d (.sl .own k zs),ah) else none
 |_=>none
def VS (L:List Nat) (e:Env) (ah:AH) (d:Option Nat) (k s q:Nat) (zs cs:List AV):Option AV→Option (Env×AH)
 |some (.sl .own k' us)=>if k'=k then (over cs q [.sl .n k' us]).map fun cs=>(aG L e d (.sl .own k zs),ah.set s cs) else none
 |_=>none
def YQ (L:List Nat) (e:Env) (ah:AH) (d:Option Nat) (k s q:Nat) (zs:List AV):Option (List AV)→Option (Env×AH)
 |some cs=>VS L e ah d k s q zs cs (cs[q]?)
 |none=>none
theorem VT {L:List Nat} {e:Env} {ah:AH} {d:Option Nat} {k u:Nat} {x:Ar} {xs zs:List AV}:rH L e ah d k x xs zs (.fr (.tmp u))=YP L e ah d k u zs (Am.get e u):=by simp only [rH];cases Am.get e u with|sl tg k2 us=>cases tg<;>rfl|_=>rfl
theorem VU {L:List Nat} {e:Env} {ah:AH} {d:Option Nat} {k s q:Nat} {x:Ar} {xs zs:List AV}:rH L e ah d k x xs zs (.fr (.cell s q))=YQ L e ah d k s q zs (ah[s]?):=by simp only [rH];cases ah[s]? with|none=>rfl|some cs=>simp only [YQ];cases cs[q]? with|none=>rfl|some a=>cases a with|sl tg k2 us=>cases tg<;>rfl|_=>rfl
theorem YR {L:List Nat} {e:Env} {ah:AH} {d:Option Nat} {k u:Nat} {zs us:List AV}:YP L e ah d k u zs (.sl .own k us)=some (aG L (put e u (.sl .n k us)) d (.sl .own k zs),ah):=by simp [YP]
theorem YS {L:List Nat} {e:Env} {ah:AH} {d:Option Nat} {k s q:Nat} {zs cs:List AV}:YQ L e ah d k s q zs (some cs)=VS L e ah d k s q zs cs (cs[q]?):=rfl
theorem YT {L:List Nat} {e:Env} {ah:AH} {d:Option Nat} {k s q:Nat} {zs cs us:List AV}:VS L e ah d k s q zs cs (some (.sl .own k us))=(over cs q [.sl .n k us]).map fun cs=>(aG L e d (.sl .own k zs),ah.set s cs):=by simp [VS]
theorem YU:aS []=true:=rfl
theorem YV {a:AV} {r:List AV}:aS (a::r)=(a.flat&&aS r):=rfl
theorem YW:bU []=true:=rfl
theorem aaS {a:AV} {r:List AV}:bU (a::r)=(a.gT&&bU r):=rfl
theorem YX:fz []=true:=rfl
theorem aaT {a:AV} {r:List AV}:fz (a::r)=(a.np&&fz r):=rfl
theorem aaU {t:Nat}:Am.get [] t= .un:=rfl
theorem aaV {i t:Nat} {a:AV} {r:Env}:Am.get ((i,a)::r) t=if i=t then a else Am.get r t:=rfl
theorem aaW {d:Nat} {a:AV}:put [] d a=[(d,a)]:=rfl
theorem aaX {i d:Nat} {a b:AV} {r:Env}:put ((i,b)::r) d a=if i=d then (d,a)::r else if d<i then (d,a)::(i,b)::r else (i,b)::put r d a:=rfl
theorem aaY {L:List Nat}:keep L []=[]:=rfl
theorem aaZ {L:List Nat} {i:Nat} {a:AV} {r:Env}:keep L ((i,a)::r)=if L.contains i then (i,a)::keep L r else keep L r:=rfl
theorem aa0 {l:Loc}:jr l []=[]:=rfl
theorem aa1 {l:Loc} {i:Nat} {a:AV} {r:Env}:jr l ((i,a)::r)=(i,a.dR l)::jr l r:=rfl
theorem aa2:vm []=[]:=rfl
theorem aa3 {i:Nat} {a:AV} {r:Env}:vm ((i,a)::r)=(i,a.gQ)::vm r:=rfl
theorem aa4 {e:Env}:n7 e none=e:=rfl
theorem aa5 {e:Env} {d:Nat}:n7 e (some d)=put e d (.bx []):=rfl
theorem aa6 {L:List Nat} {e:Env} {a:AV}:aG L e none a=e:=rfl
theorem aa7 {L:List Nat} {e:Env} {d:Nat} {a:AV}:aG L e (some d) a=if L.contains d then (if a.bN then put (jr (.tmp d) e) d a else put e d a.df) else put e d a:=rfl
theorem aa8 {i:Nat}:eE i []=[]:=rfl
theorem aa9 {i:Nat} {a:AV} {r:List AV}:eE i (a::r)=(i,a)::eE (i+1) r:=rfl
theorem abb {k:IntKind} {i:Int}:RJ k i= .int k i:=rfl
theorem abd {a b:Nat}:(Loc.tmp a=Loc.tmp b)=(a=b):=by simp
theorem abe {a b c d:Nat}:(Loc.cell a b=Loc.cell c d)=(a=c∧b=d):=by simp
theorem YY {a c d:Nat}:(Loc.tmp a=Loc.cell c d)=False:=by simp
theorem YZ {a c d:Nat}:(Loc.cell c d=Loc.tmp a)=False:=by simp
def tB (e:Env) (ah:AH) (s p n:Nat) (x:Ar) (cs:List AV):AV→Option (Env×AH)
 | .sl .own k xs=>match x with
   | .t y=>if n=1 then (over cs p [.sl .own k xs]).map fun cs=>(jr (.cell s p) (put e y (.sl .n k xs)),ah.set s cs) else none
   | .c a=>if (AV.sl .own k xs).cells.length=n∧bU (AV.sl .own k xs).cells then (over cs p ((AV.sl .own k xs).cells.map AV.br)).map fun cs=>(e,ah.set s cs) else none
 |w=>if w.cells.length=n∧bU w.cells then (over cs p (w.cells.map AV.br)).map fun cs=>(e,ah.set s cs) else none
def VV (e:Env) (ah:AH) (s p n:Nat) (x:Ar):Option (List AV)→Option (Env×AH)
 |some cs=>tB e ah s p n x cs (ev e x)
 |none=>none
def Y0 (e:Env) (ah:AH) (n:Nat) (x:Ar):AV→Option (Env×AH)
 | .ptr s p=>VV e ah s p n x (ah[s]?)
 |_=>none
theorem Xd {P:Program} {L:List Nat} {N n0:Nat} {e:Env} {ah:AH} {t:List It} {Q:Exit→Env→AH→Prop} {r:List aL} {d:Option Nat} {a x:Ar} {n:Nat} {g:Option (Nat×Bool)}:UG P L N n0 ⟨d, .st a x n,g⟩ r t Q e ah (some true)=US P L N n0 r t Q (Y0 e ah n x (ev e a)):=by
 simp only [UG,bH]
 congr 1
 cases ev e a with
 |ptr s p=>
  simp only [Y0]
  cases ah[s]? with
  |none=>rfl
  |some cs=>
   simp only [VV]
   cases ev e x with
   |sl tg k xs=>cases tg<;>cases x<;>rfl
   |_=>rfl
 |_=>rfl
theorem Y1 {e:Env} {ah:AH} {s p n:Nat} {x:Ar}:Y0 e ah n x (.ptr s p)=VV e ah s p n x (ah[s]?):=rfl
theorem Y2 {e:Env} {ah:AH} {s p n:Nat} {x:Ar} {cs:List AV}:VV e ah s p n x (some cs)=tB e ah s p n x cs (ev e x):=rfl
theorem PU {e:Env} {ah:AH} {s p n y k:Nat} {cs xs:List AV}:tB e ah s p n (.t y) cs (.sl .own k xs)=if n=1 then (over cs p [.sl .own k xs]).map fun cs=>(jr (.cell s p) (put e y (.sl .n k xs)),ah.set s cs) else none:=rfl
theorem S1 {e:Env} {ah:AH} {s p n:Nat} {x:Ar} {cs:List AV} {z:Value}:tB e ah s p n x cs (.v z)=if (AV.cells (.v z)).length=n∧bU (AV.cells (.v z)) then (over cs p ((AV.cells (.v z)).map AV.br)).map fun cs=>(e,ah.set s cs) else none:=rfl
theorem LU {e:Env} {ah:AH} {s p n:Nat} {x:Ar} {cs:List AV} {k:IntKind} {i:Int}:tB e ah s p n x cs (.int k i)=if (AV.cells (.int k i)).length=n∧bU (AV.cells (.int k i)) then (over cs p ((AV.cells (.int k i)).map AV.br)).map fun cs=>(e,ah.set s cs) else none:=rfl
theorem I4 {e:Env} {ah:AH} {s p n:Nat} {x:Ar} {cs:List AV} {b:Bool}:tB e ah s p n x cs (.bool b)=if (AV.cells (.bool b)).length=n∧bU (AV.cells (.bool b)) then (over cs p ((AV.cells (.bool b)).map AV.br)).map fun cs=>(e,ah.set s cs) else none:=rfl
theorem LV {e:Env} {ah:AH} {s p n:Nat} {x:Ar} {cs:List AV} {l:List UInt8}:tB e ah s p n x cs (.str l)=if (AV.cells (.str l)).length=n∧bU (AV.cells (.str l)) then (over cs p ((AV.cells (.str l)).map AV.br)).map fun cs=>(e,ah.set s cs) else none:=rfl
theorem LW {e:Env} {ah:AH} {s p n:Nat} {x:Ar} {cs:List AV} {s0 o:Nat}:tB e ah s p n x cs (.ptr s0 o)=if (AV.cells (.ptr s0 o)).length=n∧bU (AV.cells (.ptr s0 o)) then (over cs p ((AV.cells (.ptr s0 o)).map AV.br)).map fun cs=>(e,ah.set s cs) else none:=rfl
theorem PV {e:Env} {ah:AH} {s p n:Nat} {x:Ar} {cs:List AV} {a:AV} {o:Nat}:tB e ah s p n x cs (.ep a o)=if (AV.cells (.ep a o)).length=n∧bU (AV.cells (.ep a o)) then (over cs p ((AV.cells (.ep a o)).map AV.br)).map fun cs=>(e,ah.set s cs) else none:=rfl
theorem PW {e:Env} {ah:AH} {s p n:Nat} {x:Ar} {cs:List AV} {f:Nat} {ds:List AV}:tB e ah s p n x cs (.fn f ds)=if (AV.cells (.fn f ds)).length=n∧bU (AV.cells (.fn f ds)) then (over cs p ((AV.cells (.fn f ds)).map AV.br)).map fun cs=>(e,ah.set s cs) else none:=rfl
theorem PX {e:Env} {ah:AH} {s p n:Nat} {x:Ar} {cs:List AV} {c:UInt8}:tB e ah s p n x cs (b8 c)=if (AV.cells (b8 c)).length=n∧bU (AV.cells (b8 c)) then (over cs p ((AV.cells (b8 c)).map AV.br)).map fun cs=>(e,ah.set s cs) else none:=rfl
theorem PY {e:Env} {ah:AH} {s p n:Nat} {x:Ar} {cs:List AV} {k:Nat} {xs:List AV}:tB e ah s p n x cs (.sl .n k xs)=if (AV.cells (.sl .n k xs)).length=n∧bU (AV.cells (.sl .n k xs)) then (over cs p ((AV.cells (.sl .n k xs)).map AV.br)).map fun cs=>(e,ah.set s cs) else none:=rfl
theorem LX {e:Env} {ah:AH} {s p n:Nat} {x:Ar} {cs:List AV} {k:Nat} {xs:List AV}:tB e ah s p n x cs (.sl .ex k xs)=if (AV.cells (.sl .ex k xs)).length=n∧bU (AV.cells (.sl .ex k xs)) then (over cs p ((AV.cells (.sl .ex k xs)).map AV.br)).map fun cs=>(e,ah.set s cs) else none:=rfl
theorem LY {e:Env} {ah:AH} {s p n:Nat} {x:Ar} {cs:List AV} {l:Loc} {k:Nat} {xs:List AV}:tB e ah s p n x cs (.sl (.fr l) k xs)=if (AV.cells (.sl (.fr l) k xs)).length=n∧bU (AV.cells (.sl (.fr l) k xs)) then (over cs p ((AV.cells (.sl (.fr l) k xs)).map AV.br)).map fun cs=>(e,ah.set s cs) else none:=rfl
theorem LZ {e:Env} {ah:AH} {s p n:Nat} {x:Ar} {cs:List AV} {ds:List AV}:tB e ah s p n x cs (.agg ds)=if (AV.cells (.agg ds)).length=n∧bU (AV.cells (.agg ds)) then (over cs p ((AV.cells (.agg ds)).map AV.br)).map fun cs=>(e,ah.set s cs) else none:=rfl
theorem L0 {e:Env} {ah:AH} {s p n:Nat} {x:Ar} {cs:List AV} {q0 k0 o0 m0:Nat}:tB e ah s p n x cs (.cv q0 k0 o0 m0)=if (AV.cells (.cv q0 k0 o0 m0)).length=n∧bU (AV.cells (.cv q0 k0 o0 m0)) then (over cs p ((AV.cells (.cv q0 k0 o0 m0)).map AV.br)).map fun cs=>(e,ah.set s cs) else none:=rfl
theorem L1 {e:Env} {ah:AH} {s p n:Nat} {x:Ar} {cs:List AV} {q0 k0 m0 c0:Nat}:tB e ah s p n x cs (.ck q0 k0 m0 c0)=if (AV.cells (.ck q0 k0 m0 c0)).length=n∧bU (AV.cells (.ck q0 k0 m0 c0)) then (over cs p ((AV.cells (.ck q0 k0 m0 c0)).map AV.br)).map fun cs=>(e,ah.set s cs) else none:=rfl
theorem L2 {e:Env} {ah:AH} {s p n:Nat} {x:Ar} {cs:List AV}:tB e ah s p n x cs (.dF)=if (AV.cells (.dF)).length=n∧bU (AV.cells (.dF)) then (over cs p ((AV.cells (.dF)).map AV.br)).map fun cs=>(e,ah.set s cs) else none:=rfl
theorem PZ {e:Env} {ah:AH} {s p n:Nat} {x:Ar} {cs:List AV} {eb:Bool}:tB e ah s p n x cs (dB eb)=if (AV.cells (dB eb)).length=n∧bU (AV.cells (dB eb)) then (over cs p ((AV.cells (dB eb)).map AV.br)).map fun cs=>(e,ah.set s cs) else none:=by cases eb<;>rfl
theorem VW {c0:AV} {cs ws:List AV} {o:Nat}:over (c0::cs) o ws=if o+ws.length≤(c0::cs).length then some ((c0::cs).take o++ws++(c0::cs).drop (o+ws.length)) else none:=rfl
theorem abf {e:Env} {cs:List AV}:fill e cs []=some cs:=rfl
def S3 (e:Env) (r:List (Nat×Nat×Ar)):Option (List AV)→Option (List AV)
 |some cs=>fill e cs r
 |none=>none
theorem abg {e:Env} {cs:List AV} {o n:Nat} {x:Ar} {r:List (Nat×Nat×Ar)}:fill e cs ((o,n,x)::r)=if (ev e x).cells.length=n∧bU (ev e x).cells then S3 e r (over cs o ((ev e x).cells.map AV.br)) else none:=by
 simp only [fill]
 split
 · cases over cs o ((ev e x).cells.map AV.br)<;>rfl
 · rfl
theorem abh {e:Env} {cs:List AV} {r:List (Nat×Nat×Ar)}:S3 e r (some cs)=fill e cs r:=rfl
theorem S4 {P:Program} {L:List Nat} {N n0:Nat} {e:Env} {ah:AH} {t:List It} {Q:Exit→Env→AH→Prop} {r:List aL} {d:Option Nat} {x:Ar} {g:Option (Nat×Bool)}:UG P L N n0 ⟨d, .len x,g⟩ r t Q e ah (some true)=US P L N n0 r t Q (M4 L e ah d (ev e x)):=by simp only [UG,bH];cases ev e x<;>rfl
theorem VX {L:List Nat} {e:Env} {ah:AH} {d:Option Nat} {tg:Tg} {k:Nat} {xs:List AV}:M4 L e ah d (.sl tg k xs)=some (aG L e d (.int .i64 xs.length),ah):=rfl
theorem M5 {P:Program} {L:List Nat} {N n0:Nat} {e:Env} {ah:AH} {t:List It} {Q:Exit→Env→AH→Prop} {r:List aL} {d:Option Nat} {x:Ar} {g:Option (Nat×Bool)}:UG P L N n0 ⟨d, .lens x,g⟩ r t Q e ah (some true)=US P L N n0 r t Q (R5 L e ah d (ev e x)):=by simp only [UG,bH];cases ev e x<;>rfl
theorem S5 {L:List Nat} {e:Env} {ah:AH} {d:Option Nat} {l:List UInt8}:R5 L e ah d (.str l)=some (aG L e d (.int .i64 l.length),ah):=rfl
theorem S6 {P:Program} {L:List Nat} {N n0:Nat} {e:Env} {ah:AH} {t:List It} {Q:Exit→Env→AH→Prop} {r:List aL} {d:Option Nat} {x:Ar} {i:Nat} {g:Option (Nat×Bool)}:UG P L N n0 ⟨d, .ext x i,g⟩ r t Q e ah (some true)=US P L N n0 r t Q (R7 L e ah d i (ev e x)):=by simp only [UG,bH];cases ev e x with|bx cs=>simp only [R7];cases cs[i]? <;>rfl|_=>rfl
theorem VY {L:List Nat} {e:Env} {ah:AH} {d:Option Nat} {i:Nat} {cs:List AV}:R7 L e ah d i (.bx cs)=R6 L e ah d (cs[i]?):=rfl
theorem VZ {L:List Nat} {e:Env} {ah:AH} {d:Option Nat} {a:AV}:R6 L e ah d (some a)=some (aG L e d a.sh,ah):=rfl
theorem M6 {P:Program} {L:List Nat} {N n0:Nat} {e:Env} {ah:AH} {t:List It} {Q:Exit→Env→AH→Prop} {r:List aL} {d:Option Nat} {x:Ar} {q:Nat} {n:Option Nat} {g:Option (Nat×Bool)}:UG P L N n0 ⟨d, .EV x q n,g⟩ r t Q e ah (some true)=US P L N n0 r t Q (F1 L e ah d q n (ev e x)):=by
 simp only [UG,bH]
 cases ev e x with
 |agg cs=>
  cases n with
  |some n=>rfl
  |none=>simp only [F1];cases cs[q]? <;>rfl
 |_=>cases n<;>rfl
theorem Y3 {L:List Nat} {e:Env} {ah:AH} {d:Option Nat} {q:Nat} {cs:List AV}:F1 L e ah d q none (.agg cs)=Kq L e ah d (cs[q]?):=rfl
theorem Y4 {L:List Nat} {e:Env} {ah:AH} {d:Option Nat} {a:AV}:Kq L e ah d (some a)=some (aG L e d a.br,ah):=rfl
theorem Y5 {L:List Nat} {e:Env} {ah:AH} {d:Option Nat} {q n:Nat} {cs:List AV}:F1 L e ah d q (some n) (.agg cs)=if q+n≤cs.length then some (aG L e d (.agg (((cs.drop q).take n).map AV.br)),ah) else none:=rfl
theorem S7 {P:Program} {L:List Nat} {N n0:Nat} {e:Env} {ah:AH} {t:List It} {Q:Exit→Env→AH→Prop} {r:List aL} {d:Option Nat} {x:Ar} {n:Option Nat} {g:Option (Nat×Bool)}:UG P L N n0 ⟨d, .DZ x n,g⟩ r t Q e ah (some true)=US P L N n0 r t Q (R8 L e ah d n (ev e x)):=by
 simp only [UG,bH]
 cases ev e x with
 |ep a p=>
  cases n with
  |some n=>rfl
  |none=>simp only [R8,FO,NU];cases a.cells[p]? <;>rfl
 |_=>cases n<;>rfl
theorem Y6 {L:List Nat} {e:Env} {ah:AH} {d:Option Nat} {n:Option Nat} {a:AV} {p:Nat}:R8 L e ah d n (.ep a p)=FO L d n e ah (.ep a p):=rfl
def WA0:=And.intro @R9<|And.intro @Kr<|And.intro @Ia<|And.intro @Ks<|And.intro @Kt<|And.intro @NY<|And.intro @NZ<|And.intro @N0<|And.intro @N1<|And.intro @N2<|And.intro @Ku<|And.intro @Ib<|And.intro @Kv<|And.intro @Kw<|And.intro @Kx<|And.intro @Ky<|And.intro @Kz<|And.intro @KB<|And.intro @N3<|And.intro @VI<|And.intro @N4<|And.intro @KC<|And.intro @N5<|And.intro @N6<|And.intro @Sa<|And.intro @Sb<|And.intro @Sc<|And.intro @Sd<|And.intro @Se<|And.intro @N7<|And.intro @KD<|And.intro @N8<|And.intro @N9<|And.intro @Oa<|And.intro @Ob<|And.intro @Oc<|And.intro @Od<|And.intro @Sf<|And.intro @VJ<|And.intro @Oe<|And.intro @KE<|And.intro @Og<|And.intro @Oh<|And.intro @Sg<|And.intro @Sh<|And.intro @Si<|And.intro @Sj<|And.intro @Sk<|And.intro @Oi<|And.intro @KF<|And.intro @Oj<|And.intro @Ok<|And.intro @Ol<|And.intro @Om<|And.intro @On<|And.intro @Oo<|And.intro @Sl<|And.intro @VK<|And.intro @Oq<|@KG
def WA1:=And.intro @Ot<|And.intro @Ou<|And.intro @Sm<|And.intro @Sn<|And.intro @So<|And.intro @Sp<|And.intro @Sq<|And.intro @Ov<|And.intro @KH<|And.intro @Ox<|And.intro @Oy<|And.intro @Oz<|And.intro @OA<|And.intro @OB<|And.intro @OC<|And.intro @Sr<|And.intro @VL<|And.intro @OD<|And.intro @KI<|And.intro @OE<|And.intro @OF<|And.intro @Ss<|And.intro @Su<|And.intro @Sv<|And.intro @Sw<|And.intro @Sx<|And.intro @OG<|And.intro @KJ<|And.intro @OH<|And.intro @OI<|And.intro @OJ<|And.intro @OK<|And.intro @OL<|And.intro @OM<|And.intro @Sy<|And.intro @KK<|And.intro @F2<|And.intro @D7<|And.intro @F3<|And.intro @F4<|And.intro @Ic<|And.intro @Ie<|And.intro @Ig<|And.intro @Ih<|And.intro @Ii<|And.intro @F5<|And.intro @D8<|And.intro @F6<|And.intro @F7<|And.intro @F8<|And.intro @F9<|And.intro @Ga<|And.intro @Gb<|And.intro @Ij<|And.intro @Sz<|And.intro @KL<|And.intro @Ik<|And.intro @KM<|And.intro @KN<|@ON
def WA2:=And.intro @OO<|And.intro @OP<|And.intro @OQ<|And.intro @OR<|And.intro @KO<|And.intro @Il<|And.intro @KP<|And.intro @KQ<|And.intro @KR<|And.intro @KS<|And.intro @KT<|And.intro @KU<|And.intro @OS<|And.intro @OT<|And.intro @Im<|And.intro @Gc<|And.intro @Io<|And.intro @Ip<|And.intro @KV<|And.intro @KW<|And.intro @KX<|And.intro @KY<|And.intro @KZ<|And.intro @Iq<|And.intro @Gd<|And.intro @Ir<|And.intro @Is<|And.intro @Iu<|And.intro @Iv<|And.intro @Iw<|And.intro @Ix<|And.intro @K1<|And.intro @SA<|And.intro @K2<|And.intro @Iy<|And.intro @K3<|And.intro @K4<|And.intro @OU<|And.intro @OV<|And.intro @OW<|And.intro @OX<|And.intro @OY<|And.intro @K5<|And.intro @Iz<|And.intro @K6<|And.intro @K7<|And.intro @K8<|And.intro @K9<|And.intro @La<|And.intro @OZ<|And.intro @SB<|And.intro @SC<|And.intro @Lb<|And.intro @Ge<|And.intro @D9<|And.intro @Gf<|And.intro @Gg<|And.intro @IA<|And.intro @IB<|@IC
def WA3:=And.intro @ID<|And.intro @IE<|And.intro @Gh<|And.intro @Ea<|And.intro @Gi<|And.intro @Gj<|And.intro @Gk<|And.intro @Gl<|And.intro @Gm<|And.intro @Gn<|And.intro @IF<|And.intro @SD<|And.intro @Lc<|And.intro @IG<|And.intro @Ld<|And.intro @Le<|And.intro @O0<|And.intro @O1<|And.intro @O2<|And.intro @O3<|And.intro @O4<|And.intro @Lf<|And.intro @II<|And.intro @Lg<|And.intro @Lh<|And.intro @Li<|And.intro @Lj<|And.intro @Ll<|And.intro @Lm<|And.intro @O5<|And.intro @O6<|And.intro @IJ<|And.intro @Gp<|And.intro @IK<|And.intro @IL<|And.intro @Ln<|And.intro @Lo<|And.intro @Lp<|And.intro @Lq<|And.intro @Lr<|And.intro @IM<|And.intro @Gq<|And.intro @IN<|And.intro @IP<|And.intro @IQ<|And.intro @IT<|And.intro @IU<|And.intro @IV<|And.intro @Ls<|And.intro @VM<|And.intro @O7<|And.intro @Lt<|And.intro @O8<|And.intro @O9<|And.intro @SE<|And.intro @SF<|And.intro @SG<|And.intro @SH<|And.intro @SI<|@Pa
def WA4:=And.intro @Lu<|And.intro @Pb<|And.intro @Pc<|And.intro @Pd<|And.intro @Pe<|And.intro @Pf<|And.intro @Pg<|And.intro @SJ<|And.intro @Lv<|And.intro @Gr<|And.intro @Eb<|And.intro @Gs<|And.intro @Gt<|And.intro @IW<|And.intro @IX<|And.intro @IY<|And.intro @IZ<|And.intro @I0<|And.intro @Gu<|And.intro @Ec<|And.intro @Gv<|And.intro @Gw<|And.intro @Gx<|And.intro @Gy<|And.intro @Gz<|And.intro @GA<|And.intro @I1<|And.intro @VN<|And.intro @Ph<|And.intro @Lw<|And.intro @Pj<|And.intro @Pm<|And.intro @SK<|And.intro @SL<|And.intro @SM<|And.intro @SN<|And.intro @SO<|And.intro @Pn<|And.intro @Po<|And.intro @Pp<|And.intro @Pq<|And.intro @Pr<|And.intro @Pt<|And.intro @Pu<|And.intro @SP<|And.intro @SQ<|And.intro @SS<|And.intro @SU<|And.intro @Lx<|And.intro @I2<|And.intro @Ly<|And.intro @Lz<|And.intro @Pv<|And.intro @Pw<|And.intro @Px<|And.intro @Py<|And.intro @Pz<|And.intro @LA<|And.intro @LB<|@LC
def WA5:=And.intro @LD<|And.intro @LF<|And.intro @LG<|And.intro @LH<|And.intro @PA<|And.intro @PB<|And.intro @PD<|And.intro @PF<|And.intro @PG<|And.intro @LI<|And.intro @PI<|And.intro @LJ<|And.intro @PJ<|And.intro @PK<|And.intro @SV<|And.intro @SW<|And.intro @SX<|And.intro @LK<|And.intro @I3<|And.intro @LL<|And.intro @LM<|And.intro @PL<|And.intro @PM<|And.intro @PN<|And.intro @PO<|And.intro @PR<|And.intro @LN<|And.intro @LO<|And.intro @LP<|And.intro @LQ<|And.intro @LR<|And.intro @LS<|And.intro @PS<|And.intro @VO<|And.intro @VP<|And.intro @VQ<|And.intro @SY<|And.intro @SZ<|And.intro @S0<|And.intro @PT<|And.intro @VT<|And.intro @VU<|And.intro @YR<|And.intro @YS<|And.intro @YT<|And.intro @YU<|And.intro @YV<|And.intro @YW<|And.intro @aaS<|And.intro @YX<|And.intro @aaT<|And.intro @aaU<|And.intro @aaV<|And.intro @aaW<|And.intro @aaX<|And.intro @aaY<|And.intro @aaZ<|And.intro @aa0<|And.intro @aa1<|@aa2
def WA6:=And.intro @aa3<|And.intro @aa4<|And.intro @aa5<|And.intro @aa6<|And.intro @aa7<|And.intro @aa8<|And.intro @aa9<|And.intro @abb<|And.intro @abd<|And.intro @abe<|And.intro @YY<|And.intro @YZ<|And.intro @Xd<|And.intro @Y1<|And.intro @Y2<|And.intro @PU<|And.intro @S1<|And.intro @LU<|And.intro @I4<|And.intro @LV<|And.intro @LW<|And.intro @PV<|And.intro @PW<|And.intro @PX<|And.intro @PY<|And.intro @LX<|And.intro @LY<|And.intro @LZ<|And.intro @L0<|And.intro @L1<|And.intro @L2<|And.intro @PZ<|And.intro @VW<|And.intro @abf<|And.intro @abg<|And.intro @abh<|And.intro @S4<|And.intro @VX<|And.intro @M5<|And.intro @S5<|And.intro @S6<|And.intro @VY<|And.intro @VZ<|And.intro @M6<|And.intro @Y3<|And.intro @Y4<|And.intro @Y5<|And.intro @S7<|@Y6
end Go.Am
end
section
namespace Go.Am
open Go
variable [Tabs]
def Aj (n:Nat) (i:Int):Option Nat:=if 0≤i∧i<n then some i.toNat else none
def E8 {α:Type} (xs:List α) (j:Nat) (c:α):Option (List α):=if j<xs.length then some (xs.set j c) else none
section
variable {P:Program} {L:List Nat} {e:Env} {ah:AH} {d:Option Nat}
theorem V0 {xs:List UInt8} {j:Nat} {c:UInt8}:over (ml b8 xs) j [b8 c]=(E8 xs j c).map (ml b8):=by
 unfold over E8 ml
 simp only [List.length_map,List.length_cons,List.length_nil]
 by_cases h:j<xs.length
 · rw [if_pos (by omega),if_pos h]
   simp only [Option.map_some,Option.some.injEq,List.map_set]
   rw [List.set_eq_take_append_cons_drop,if_pos (by simpa using h)]
   simp
 · rw [if_neg (by omega),if_neg h];rfl
theorem Y7 {xs:List UInt8} {j:Nat}:(ml b8 xs)[j]? =(xs[j]?).map b8:=by simp [ml]
theorem abi {s n:Nat} {ki:IntKind} {i:Int}:y9 L e ah d 1 (.cv s 1 0 n) (.int ki i)=(Aj n i).map fun j=>(aG L e d (.ptr s j),ah):=by
 simp only [y9,Aj,and_true]
 split<;>simp
theorem Y8 {s k o n:Nat}:M4 L e ah d (.cv s k o n)=some (aG L e d (.int .i64 n),ah):=rfl
theorem S8 {h:Cv} {l:List UInt8}:CF L e ah d h (.str l)=(eM h (.str l)).map fun a=>(aG L e d a,ah):=rfl
theorem S9 {h:Cv} {k:IntKind} {i:Int}:CF L e ah d h (.int k i)=(eM h (.int k i)).map fun a=>(aG L e d a,ah):=rfl
theorem V1 {h:Cv} {c:UInt8}:CF L e ah d h (b8 c)=(eM h (b8 c)).map fun a=>(aG L e d a,ah):=rfl
theorem V3 {h:Cv} {t:Tg} {k:Nat} {xs:List AV}:CF L e ah d h (.sl t k xs)=(eM h (.sl t k xs)).map fun a=>(aG L e d a,ah):=rfl
theorem Ta {s n:Nat}:CF L e ah d .bs (.cv s 1 0 n)=RA L e ah d 0 n (ah[s]?):=rfl
theorem M_s {p n:Nat} {cs:List AV}:RA L e ah d p n (some cs)=MO L e ah d p n cs:=rfl
theorem M_t {n:Nat} {xs:List UInt8}:MO L e ah d 0 n (ml b8 xs)=(sub xs 0 (n:Int)).map fun l=>(aG L e d (.str l),ah):=by
 unfold MO sub
 have hb:bytesOf (((ml b8 xs).drop 0).take n)=some (xs.take n):=by
  have:((ml b8 xs).drop 0).take n=(ml b8 (xs.take n)):=by simp [ml,List.map_take]
  rw [this];exact Bh _
 rw [hb]
 by_cases h:n≤xs.length
 · rw [if_pos (by simp [ml];exact h),if_pos (by omega)];simp
 · rw [if_neg (by simp [ml];omega),if_neg (by omega)];rfl
theorem M_o {l:List UInt8}:RB L e ah d (.str l)=some (aG L e d (.cv ah.length 1 0 l.length),ah++[ml b8 l]):=rfl
theorem Y9:JY .dF (.v .nilIface)=some false:=rfl
theorem Za:JY (.v .nilIface) (.v .nilIface)=some true:=rfl
theorem Zb {b:Bool}:JY (dB b) (.v .nilIface)=some (!b):=by cases b<;>rfl
theorem Zc {k:IntKind} {i j:Int}:Ht true (.int k i) (.int k j)=some (.int k (max i j)):=by simp [Ht]
theorem Zd {k:IntKind} {i j:Int}:Ht false (.int k i) (.int k j)=some (.int k (min i j)):=by simp [Ht]
end
def WM:=And.intro @V0<|And.intro @Y7<|And.intro @abi<|And.intro @Y8<|And.intro @S8<|And.intro @S9<|And.intro @V1<|And.intro @V3<|And.intro @Ta<|And.intro @M_s<|And.intro @M_t<|And.intro @M_o<|And.intro @Y9<|And.intro @Za<|And.intro @Zb<|And.intro @Bool.not_not<|And.intro @Zc<|And.intro @Zd<|And.intro @Vf<|And.intro @Vg<|And.intro @aay @aaz
theorem Wx.cv {s k o n:Nat}:Wx (.cv s k o n) (.cv s k o n):= .same (by simp)
theorem Wx.dF:Wx .dF .dF:= .same (by simp)
theorem Wx.epE {a b:AV} {o:Nat} (h:a=b):Wx (.ep a o) (.ep b o):=by subst h;exact Wx.ep
theorem Wx.err {b:Bool}:Wx (dB b) (dB b):= .same (by cases b<;>simp [dB])
end Go.Am
end
section
namespace Go.Am
open Go
variable [Tabs]
section
variable {P:Program} {L:List Nat} {N n0:Nat} {F:Nat→Prop} {γ:List Nat} {C:Nat→List Value} {e e':Env} {ah:AH} {ts:Array Value} {w:World} {Q K:Exit→Env→AH→Prop}
theorem SR.freeze (h:SR L N F γ C e ah ts w) {s:Nat} {cs ds:List AV} (hs:ah[s]? =some cs) (hne:cs≠[]) (hnp:fz cs=true) (hw:gm cs ds)
 (he:∀t,get e' t=get e t∨∃o,get e t= .ptr s o∧get e' t= .ep (.agg ds) o):∃C',SR L N F γ C' e' (ah.set s []) ts w∧Ext F C w C' w:=by
 have hlt:s<γ.length:=by rw [h.mem.len];exact (List.getElem?_eq_some_iff.1 hs).1
 obtain ⟨b,hb⟩:∃b,γ[s]? =some b:=⟨_,List.getElem?_eq_getElem hlt⟩
 obtain ⟨vs,ty,hh,hsz,hcell⟩:=h.mem.obj s b cs hs hb
 have HB:=h.mem.ua s b cs hs hne hb
 have yV:blk γ e ah ts w (.obj s) b:=hb
 refine ⟨fun x=>if x=b then vs.toList else C x, ?_⟩
 generalize xm:(fun x=>if x=b then vs.toList else C x)=C'
 have c0:C' b=vs.toList:=by rw [←xm];simp
 have c1:∀x,x≠b→C' x=C x:=fun x hx=>by rw [←xm];simp [hx]
 have hpre:∀x,C x <+: C' x:=by
  intro x
  by_cases hx:x=b
  · subst hx;rw [HB];exact List.nil_prefix
  · rw [c1 x hx];exact List.prefix_refl _
 have hset:∀(s':Nat),s'≠s→(ah.set s [])[s']? =ah[s']? :=fun s' hn=>List.getElem?_set_ne (Ne.symm hn)
 have gV:(ah.set s [])[s]? =some []:=List.getElem?_set_self (by rw [←h.mem.len];exact hlt)
 have xo:∀(s':Nat),γ[s']? =some b→s'=s:=fun s' hs'=>by
  have:=h.dU (.obj s') (.obj s) b hs' hb;injection this
 have hbk:∀p x,blk γ e' (ah.set s []) ts w p x→blk γ e ah ts w p x:=by
  intro p x hp
  cases p with
  |obj s'=>exact hp
  |cell s' i=>
   obtain ⟨ds,a,b0,h1,h2,h3,h4⟩:=hp
   by_cases hn:s'=s
   · subst hn;rw [gV] at h1;injection h1 with h1;subst h1;simp at h2
   · rw [hset s' hn] at h1;exact ⟨ds,a,b0,h1,h2,h3,h4⟩
  |tmp t=>
   simp only [blk] at hp ⊢
   rcases he t with h1|⟨o,h1,h2⟩
   · rwa [h1] at hp
   · rw [h2] at hp;simp [bO] at hp
 have nZ:∀(a:AV) (v:Value),TC w C a v→(∀x,bO a v=some x→x≠b)→TC w C' a v:=fun a v ht hn=>ht.mono fun x hx=>⟨rfl,c1 x (hn x hx)⟩
 refine ⟨⟨⟨by simp [h.mem.len],fun s' x ds h1 h2=> ?_,fun x hx=> ?_,fun s' x ds h1 h0 h2=> ?_,fun s' x ds us ty' fr h1 h2 h3=> ?_⟩,h.sz,fun t=> ?_,fun p q x hp hq=>h.dU p q x (hbk p x hp) (hbk q x hq),fun p x hp=>h.nf p x (hbk p x hp),h.jF,fun t l k xs ht=> ?_⟩,
  ⟨hpre,fun x hx=>⟨rfl,c1 x (fun e=>h.nf _ _ yV (e▸hx))⟩,Nat.le_refl _,rfl,rfl,rfl⟩⟩
 · by_cases hn:s'=s
   · subst hn
     rw [gV] at h1;injection h1 with h1;subst h1
     rw [hb] at h2;injection h2 with h2;subst h2
     exact ⟨vs,ty,hh,by simp,by simp⟩
   · rw [hset s' hn] at h1
     obtain ⟨us,ty',g1,g2,g3⟩:=h.mem.obj s' x ds h1 h2
     refine ⟨us,ty',g1,g2,fun i a hi=>⟨(g3 i a hi).1.mono hpre _ (fun _ _ h=>h),nZ _ _ (g3 i a hi).2 fun y hy e=> ?_⟩⟩
     subst e
     obtain ⟨v,hv, -, -⟩:=cellAt h.mem h1 hi h2
     have J8:v=us.getD i undef:=by
      have hlt:i<us.size:=Nat.lt_of_lt_of_le (List.getElem?_eq_some_iff.1 hi).1 g2
      rw [dm g1,Array.getElem?_eq_getElem hlt] at hv
      simp [Array.getD_eq_getD_getElem?,Array.getElem?_eq_getElem hlt,Option.some.inj hv]
     have:blk γ e ah ts w (.cell s' i) y:=⟨ds,a,x,h1,hi,h2,by rw [hv,J8];exact hy⟩
     have:=h.dU _ _ _ this yV
     cases this
 · by_cases Tb:x=b
   · subst Tb;exact ⟨vs,ty.1,ty.2,hh,by rw [c0];exact List.prefix_refl _⟩
   · rw [c1 x Tb] at hx ⊢;exact h.mem.u7 x hx
 · have hn:s'≠s:=by
    rintro rfl
    rw [gV] at h1;injection h1 with h1;exact h0 h1.symm
   rw [hset s' hn] at h1
   rw [c1 x (fun e=>hn (xo s' (e▸h2)))]
   exact h.mem.ua s' x ds h1 h0 h2
 · by_cases hn:s'=s
   · subst hn
     rw [gV] at h1;injection h1 with h1;subst h1
     intro i hi;simp at hi
   · rw [hset s' hn] at h1
     exact h.mem.Cj s' x ds us ty' fr h1 h2 h3
 · rcases he t with h1|⟨o,h1,h2⟩
   · rw [h1]
     refine ⟨(h.env t).1.mono hpre _ (fun _ _ h=>h),nZ _ _ (h.env t).2 fun y hy e=> ?_⟩
     subst e
     have:=h.dU (.tmp t) (.obj s) y hy yV
     cases this
   · have hv:=(h.env t).1
     rw [h1] at hv
     obtain ⟨b',hb',hv⟩:=hv.gU
     rw [hb] at hb';injection hb' with hb';subst hb'
     rw [h2,hv]
     refine ⟨?_,by trivial⟩
     have hep:=VR.ep (C:=C') γ (.agg ds) o b 0 (by rw [c0];simpa [AV.cells,hw.len] using hsz) (fun j a hj=>by
      have hj2:ds[j]? =some a:=hj
      have hjl:j<cs.length:=by rw [←hw.len];exact (List.getElem?_eq_some_iff.1 hj2).1
      have hj':cs[j]? =some cs[j]:=List.getElem?_eq_getElem hjl
      have:=(Wk.jt (hw.get j _ _ hj' hj2)).vr (((hcell j _ hj').1.np (tw hnp hj')).mono hpre [] (fun _ _ h=>h))
      rw [c0,Nat.zero_add]
      have e1:vs.toList.getD j undef=vs.getD j undef:=by simp [List.getD_eq_getElem?_getD,Array.getD_eq_getD_getElem?]
      rw [e1];exact this)
     rwa [Nat.zero_add] at hep
 · rcases he t with h1|⟨o,h1,h2⟩
   · have hf:=h.fr t l k xs (by rw [←h1];exact ht)
     cases l with
     |tmp u=>
      refine ⟨hf.1,fun hu=>hf.2 ?_⟩
      rcases he u with g1|⟨o,g1,g2⟩
      · rwa [g1] at hu
      · rw [g2] at hu;cases hu
     |cell s' o=>
      intro ds a x g1 g2 g3 g4
      by_cases hn:s'=s
      · subst hn;rw [gV] at g1;injection g1 with g1;subst g1;simp at g2
      · rw [hset s' hn] at g1;exact hf ds a x g1 g2 g3 g4
   · rw [h2] at ht;cases ht
theorem AW.freeze {c:Code} {s:Nat} {cs ds:List AV} (hs:ah[s]? =some cs) (hne:cs≠[]) (hnp:fz cs=true) (hw:gm cs ds)
 (he:∀t,get e' t=get e t∨∃o,get e t= .ptr s o∧get e' t= .ep (.agg ds) o) (h:AW P L N n0 c Q e' (ah.set s [])):AW P L N n0 c Q e ah:=by
 intro F γ C ts w jK hn
 obtain ⟨C',h1,h2⟩:=jK.freeze hs hne hnp hw he
 refine wp_mono (h F γ C' ts w h1 hn) ?_
 rintro x a w' ⟨q1,q2,e2,si,γ2,C2,q3,q4,q5,q6⟩
 exact ⟨q1,q2,e2,si,γ2,C2,q3,q4,q5,h2.trans q6⟩
inductive FZ (s:Nat) (cs:List AV):Env→Env→Prop
 |nil:FZ s cs [] []
 |same (i:Nat) (a:AV) (r r':Env):FZ s cs r r'→FZ s cs ((i,a)::r) ((i,a)::r')
 |ep (i o:Nat) (r r':Env):FZ s cs r r'→FZ s cs ((i, .ptr s o)::r) ((i, .ep (.agg cs) o)::r')
theorem FZ.get {s:Nat} {cs:List AV} {e e':Env} (h:FZ s cs e e') (t:Nat):Am.get e' t=Am.get e t∨∃o,Am.get e t= .ptr s o∧Am.get e' t= .ep (.agg cs) o:=by
 induction h with
 |nil=>exact .inl rfl
 |same i a r r' _ ih=>
  simp only [Am.get]
  by_cases hi:i=t
  · simp [hi]
  · simpa [hi] using ih
 |ep i o r r' _ ih=>
  simp only [Am.get]
  by_cases hi:i=t
  · exact .inr ⟨o,by simp [hi],by simp [hi]⟩
  · simpa [hi] using ih
theorem AX.freeze {c:av} {s:Nat} {cs ds:List AV} (hs:ah[s]? =some cs) (hw:gm cs ds) (hne:cs≠[]) (hnp:fz cs=true) (he:FZ s ds e e') (h:AX P L N n0 c K e' (ah.set s [])):AX P L N n0 c K e ah:=
 fun c' bV=>AW.freeze hs hne hnp hw he.get (h c' bV)
end
end Go.Am
end
