import Derived.Test.YtdigbcafimghdaaGreatDoorM1
import Derived.Scope
import Derived.Lib.SlBytesConst
import Derived.OrdersHeld
set_option linter.unusedSimpArgs false
set_option linter.unusedVariables false
set_option linter.unusedSectionVars false
set_option linter.defProp false
section
namespace Go.Am
open Go
variable [Tabs]
section
variable {P:Program} {L:List Nat} {N:Nat} {F:Nat→Prop} {γ:List Nat} {C C':Nat→List Value} {e:Env} {ah:AH} {ts:Array Value} {ds:List Deferred} {w w':World} {m:Bool}
variable {e':Env} {aI:AH}
def fN.oW:fN→Bool
 | .call _ _=>true
 | .mW _ _ _ _=>true
 | .nq _ _=>true
 |_=>false
theorem MA {o:Oper} {op:fN} (h:SR L N F γ C e ah ts w) (hd:∀x,o.dst=some x→x<N) (hc:cop P o=some op) (e8:op.oW=false)
 (hm:m=true∨((∀x n,op≠ .ld x n)∧∀x,op≠ .dX .bs x))
 (hev:bN L ⟨o.dst,op,none⟩ e ah=some (e',aI)):bB m P L N F γ C o ts ds w e' aI:=by
 obtain ⟨d,o,ty,pos,af,g⟩:=o
 simp only at hd hev
 cases o with
 |move x=>
  simp only [cop,Option.map_eq_some_iff] at hc
  obtain ⟨a,ha,rfl⟩:=hc
  simp only [bN,Option.some.injEq,Prod.mk.injEq] at hev
  obtain ⟨rfl,rfl⟩:=hev
  exact aao h hd ha
 |assign x=>
  simp only [cop,Option.map_eq_some_iff] at hc
  obtain ⟨a,ha,rfl⟩:=hc
  exact Xz h hd ha hev
 |pick c a b=>
  simp only [cop] at hc
  split at hc
  · rename_i c' a' b' h1 h2 h3
    injection hc with hc;subst hc
    exact Tp h hd h1 h2 h3 hev
  · cases hc
 |alloc t=>
  simp only [cop,Option.map_eq_some_iff] at hc
  obtain ⟨a,ha,rfl⟩:=hc
  exact Ql h hd ha hev
 |box t x=>
  simp only [cop,Option.map_eq_some_iff] at hc
  obtain ⟨a,ha,rfl⟩:=hc
  exact XV h hd ha hev
 |build t parts=>
  simp only [cop] at hc
  split at hc
  case h_3=>cases hc
  case h_2=>
   rename_i mm el hu
   split at hc
   case h_2=>cases hc
   rename_i z ps hz hp
   split at hc
   case isFalse=>cases hc
   rename_i hall
   split at hc
   · rename_i jG
     simp only [Option.map_eq_some_iff] at hc
     obtain ⟨z',hz',rfl⟩:=hc
     refine Ek h hd hu hz hp hall ?_
     rw [←hev]
     simp only [bN]
     rw [J5 e ps z jG,hz']
     rfl
   · injection hc with hc;subst hc
     exact Ek h hd hu hz hp hall hev
  rename_i fs hu
  split at hc
  case h_2=>cases hc
  rename_i z ps hz hp
  split at hc
  case isFalse=>cases hc
  rename_i hall
  injection hc with hc;subst hc
  exact Qr h hd hu hz hp hall hev
 |buildSlice t n parts=>
  simp only [cop] at hc
  split at hc
  case h_2=>cases hc
  rename_i el hel
  split at hc
  case isFalse=>cases hc
  rename_i hh
  obtain ⟨h1,h2,h3⟩:=hh
  simp only [Option.map_eq_some_iff] at hc
  obtain ⟨zq,ha,rfl⟩:=hc
  refine X2 h hd ?_ h1 h2 h3 ha hev
  unfold D7 at hel
  split at hel
  · rename_i e hu;injection hel with hel;subst hel;exact hu
  · cases hel
 |load t x=>
  simp only [cop] at hc
  split at hc
  case isFalse=>cases hc
  rename_i ht
  simp only [Option.map_eq_some_iff] at hc
  obtain ⟨a,ha,rfl⟩:=hc
  obtain rfl:m=true:=hm.resolve_right (fun h=>h.1 _ _ rfl)
  exact aap h hd ha ht hev
 |store t a x=>
  simp only [cop] at hc
  split at hc
  case h_2=>cases hc
  rename_i a' x' ha hx
  split at hc
  case isFalse=>cases hc
  rename_i ht
  simp only [Bool.and_eq_true,Option.isNone_iff_eq_none] at ht
  obtain ⟨ht,rfl⟩:=ht
  injection hc with hc;subst hc
  exact aas h ha hx ht hev
 |nilCheck x=>
  simp only [cop,Option.map_eq_some_iff] at hc
  obtain ⟨a,ha,rfl⟩:=hc
  exact XA h hd ha hev
 |fieldAddr t x f=>
  simp only [cop] at hc
  split at hc
  case h_2=>cases hc
  rename_i x' fd hx hf
  split at hc
  case isTrue=>cases hc
  rename_i hs
  injection hc with hc;subst hc
  exact XB h hd hx hf hs hev
 |field t x f=>
  simp only [cop] at hc
  split at hc
  case h_2=>cases hc
  rename_i x' fd hx hf
  split at hc
  case isFalse=>cases hc
  rename_i hs
  injection hc with hc;subst hc
  exact Tr h hd hx hf hs hev
 |binOp X4 t x y pV=>
  simp only [cop] at hc
  split at hc
  case h_3=>cases hc
  case h_2=>
   rename_i x' hx hy
   split at hc
   · rename_i ms hu
     injection hc with hc;subst hc;exact TF h hd hx hu rfl hev
   · rename_i ms hu
     injection hc with hc;subst hc;exact TF h hd hx hu rfl hev
   · injection hc with hc;subst hc;cases e8
   · injection hc with hc;subst hc;cases e8
   · cases hc
  rename_i x' y' hx hy
  split at hc
  · rename_i fs hu
    split at hc
    case h_2=>cases hc
    rename_i ks hk
    split at hc
    · injection hc with hc;subst hc;exact Pe h hd hx hy hu hk rfl hev
    · injection hc with hc;subst hc;exact Pe h hd hx hy hu hk rfl hev
    · cases hc
  · injection hc with hc;subst hc;exact Pd h hd hx hy hev
  · injection hc with hc;subst hc;exact Pd h hd hx hy hev
  · rename_i hu
    split at hc
    · injection hc with hc;subst hc;exact Ts h hd hx hy hu rfl hev
    · injection hc with hc;subst hc;exact Ts h hd hx hy hu rfl hev
    · cases hc
  · rename_i u hu
    split at hc
    · injection hc with hc;subst hc;exact Tt h hd hx hy hu rfl hev
    · injection hc with hc;subst hc;exact Tt h hd hx hy hu rfl hev
    · cases hc
  · cases hc
 |unOp X4 t x=>
  simp only [cop,Option.map_eq_some_iff] at hc
  obtain ⟨a,ha,rfl⟩:=hc
  exact aaq h hd ha hev
 |convert s t x=>
  simp only [cop] at hc
  split at hc
  case h_2=>cases hc
  rename_i hh x' oX hx
  injection hc with hc;subst hc
  exact XW h hd hx oX (hm.imp id fun q=>by rintro rfl;exact q.2 _ rfl) hev
 |makeFunc fn first cs=>
  cases fn with
  |func f=>
   simp only [cop] at hc
   split at hc
   case isFalse=>cases hc
   rename_i hf
   simp only [Option.map_eq_some_iff] at hc
   obtain ⟨a,ha,rfl⟩:=hc
   exact XJ h hd hf ha hev
  |_=>simp [cop] at hc
 |slice t x lo hi mx=>
  simp only [cop] at hc
  split at hc
  case h_2=>cases hc
  rename_i x' lo' hi' mx' hx hlo hhi Qk
  split at hc
  · rename_i hu
    split at hc
    · injection hc with hc;subst hc
      have:mx=none:=by
       cases mx with
       |none=>rfl
       |some y=>simp only [pS] at Qk;cases hy:bK y<;>rw [hy] at Qk<;>simp at Qk
      subst this
      exact XR h hd hx hlo hhi hu hev
    · cases hc
  · rename_i el hu
    split at hc
    case isFalse=>cases hc
    rename_i ht
    injection hc with hc;subst hc
    exact XS h hd hx hlo hhi Qk hu ht hev
  · cases hc
 |indexAddr t x i=>
  simp only [cop] at hc
  split at hc
  case h_3=>cases hc
  case h_2=>
   rename_i x' i' hel hx hi
   split at hc
   case h_2=>cases hc
   rename_i mm el hu
   split at hc
   case isFalse=>cases hc
   rename_i ht
   injection hc with hc;subst hc
   exact XO h hd hx hi hu ht hev
  rename_i el x' i' hel hx hi
  split at hc
  case isFalse=>cases hc
  rename_i ht
  injection hc with hc;subst hc
  unfold D7 at hel
  split at hel
  · rename_i e hu;injection hel with hel;subst hel;exact XN h hd hx hi hu ht hev
  · cases hel
 |index t x i=>
  simp only [cop] at hc
  split at hc
  case h_2=>cases hc
  rename_i x' i' hu hx hi
  injection hc with hc;subst hc
  exact XM h hd hx hi hu hev
 |extract x i=>
  simp only [cop,Option.map_eq_some_iff] at hc
  obtain ⟨a,ha,rfl⟩:=hc
  exact XK h hd ha hev
 |call c=>
  obtain ⟨callee,args,argTypes⟩:=c
  simp only [cop] at hc
  split at hc
  · rename_i x t h1 h2
    have e1:args= #[x]:=by rw [←Array.toArray_toList (xs:=args),h1]
    have e2:argTypes= #[t]:=by rw [←Array.toArray_toList (xs:=argTypes),h2]
    subst e1;subst e2
    split at hc
    · rename_i x' hu hx;injection hc with hc;subst hc;exact Tu h hd hx hu hev
    · rename_i s x' hu hx;injection hc with hc;subst hc;exact XL h hd hx hu hev
    · cases hc
  · rename_i x y t u h1 h2
    have e1:args= #[x,y]:=by rw [←Array.toArray_toList (xs:=args),h1]
    have e2:argTypes= #[t,u]:=by rw [←Array.toArray_toList (xs:=argTypes),h2]
    subst e1;subst e2
    split at hc
    case h_2=>cases hc
    rename_i x' y' _ _ hx hy
    split at hc
    case isFalse=>cases hc
    rename_i htu
    injection hc with hc;subst hc
    obtain ⟨rfl, -⟩:=htu
    exact TG (mx:=true) h hd hx hy hev
  · rename_i x y t u h1 h2
    have e1:args= #[x,y]:=by rw [←Array.toArray_toList (xs:=args),h1]
    have e2:argTypes= #[t,u]:=by rw [←Array.toArray_toList (xs:=argTypes),h2]
    subst e1;subst e2
    split at hc
    case h_2=>cases hc
    rename_i x' y' _ _ hx hy
    split at hc
    case isFalse=>cases hc
    rename_i htu
    injection hc with hc;subst hc
    obtain ⟨rfl, -⟩:=htu
    exact TG (mx:=false) h hd hx hy hev
  · rename_i x y t u h1 h2
    have e1:args= #[x,y]:=by rw [←Array.toArray_toList (xs:=args),h1]
    have e2:argTypes= #[t,u]:=by rw [←Array.toArray_toList (xs:=argTypes),h2]
    subst e1;subst e2
    split at hc
    case h_2=>cases hc
    rename_i el x' hel hx
    have ht:P.underlying t=some (.slice el):=by
     unfold D7 at hel
     split at hel
     · rename_i e hu;injection hel with hel;subst hel;exact hu
     · cases hel
    split at hc
    · rename_i s y' hu hy
      split at hc
      case isFalse=>cases hc
      rename_i hz
      injection hc with hc;subst hc
      exact X0 h hd hx hy ht hu hz hev
    · rename_i y' hu hy
      split at hc
      case isFalse=>cases hc
      rename_i hz
      injection hc with hc;subst hc
      exact TJ h hd hx hy ht hu hz.2 hz.1 hev
    · cases hc
  · split at hc
    · injection hc with hc;subst hc;cases e8
    · cases hc
  · cases hc
 |_=>simp [cop] at hc
theorem X5 {o:Oper} {op:fN} (h:SR L N F γ C e ah ts w) (hd:∀x,o.dst=some x→x<N) (hc:dz P m o=some op) (e8:op.oW=false)
 (hev:bN L ⟨o.dst,op,none⟩ e ah=some (e',aI)):bB m P L N F γ C o ts ds w e' aI:=by
 cases m with
 |true=>exact MA h hd (by simpa [dz] using hc) e8 (.inl rfl) hev
 |false=>
  simp only [dz,Bool.false_eq_true,if_false,Option.map_eq_some_iff] at hc
  obtain ⟨op',ho,rfl⟩:=hc
  by_cases Au:∃x,op'= .dX .bs x
  · obtain ⟨x,rfl⟩:=Au
    obtain ⟨d,oo,ty,pos,af,g⟩:=o
    cases oo with
    |convert s t y=>
     simp only [cop] at ho
     split at ho
     case h_2=>cases ho
     rename_i hh x' oX hx
     injection ho with ho
     injection ho with e1 e2
     subst e1;subst e2
     exact TD h hd hx oX hev
    |makeFunc fn first cs=>
     cases fn with
     |func f=>simp only [cop] at ho;split at ho<;>simp at ho
     |_=>simp [cop] at ho
    |_=>
     exfalso
     simp only [cop] at ho
     first
      |cases ho;done
      |(simp at ho;done)
      |(repeat' (split at ho))<;>(first|(cases ho;done)|(simp at ho;done))
  by_cases hl:∃x n,op'= .ld x n
  · obtain ⟨x,n,rfl⟩:=hl
    obtain ⟨d,oo,ty,pos,af,g⟩:=o
    cases oo with
    |load t y=>
     simp only [cop] at ho
     split at ho
     case isFalse=>cases ho
     rename_i ht
     simp only [Option.map_eq_some_iff] at ho
     obtain ⟨a,ha,he⟩:=ho
     injection he with e1 e2
     subst e1;subst e2
     exact Pc h hd ha ht hev
    |makeFunc fn first cs=>
     cases fn with
     |func f=>simp only [cop] at ho;split at ho<;>simp at ho
     |_=>simp [cop] at ho
    |_=>
     exfalso
     simp only [cop] at ho
     first
      |cases ho;done
      |(simp at ho;done)
      |(repeat' (split at ho))<;>(first|(cases ho;done)|(simp at ho;done))
  · have:op'.JS=op':=by
     cases op' with
     |ld x n=>exact absurd ⟨_,_,rfl⟩ hl
     |dX hh x=>cases hh<;>first|rfl|exact absurd ⟨_,rfl⟩ Au
     |_=>rfl
    rw [this] at e8 hev
    exact MA h hd ho e8 (.inr ⟨fun x n he=>hl ⟨x,n,he⟩,fun x he=>Au ⟨x,he⟩⟩) hev
theorem TU {o:Oper} {x':Ar} (hc:cop P o=some (.bf x')):∃x,o=⟨o.dst, .assign x,o.type,o.pos,o.after,o.guard⟩∧cX P o.type x=some x':=by
 obtain ⟨d,oo,ty,pos,af,g⟩:=o
 cases oo with
 |assign y=>
  simp only [cop,Option.map_eq_some_iff] at hc
  obtain ⟨a,ha,he⟩:=hc
  injection he with he
  subst he
  exact ⟨y,rfl,ha⟩
 |makeFunc fn first cs=>
  cases fn with
  |func f=>simp only [cop] at hc;split at hc<;>simp at hc
  |_=>simp [cop] at hc
 |_=>
  exfalso
  simp only [cop] at hc
  first
   |cases hc;done
   |(simp at hc;done)
   |(repeat' (split at hc))<;>(first|(cases hc;done)|(simp at hc;done))
theorem El {o:Oper} {k b:Nat} {x' y':Ar} (hop:cop P o=some (.app k b x' y')):
 ∃x y t u el s,o=⟨o.dst, .call {callee:= .builtin .append,args:= #[x,y],argTypes:= #[t,u]},o.type,o.pos,o.after,o.guard⟩∧cX P t x=some x'∧cX P u y=some y'∧
  P.underlying t=some (.slice el)∧P.underlying u=some (.slice s)∧(zeroOf P el).map List.length=some (cC P el)∧k=cC P el∧b=HC P el:=by
 obtain ⟨d,oo,ty,pos,af,g⟩:=o
 cases oo with
 |call c=>
  obtain ⟨callee,args,argTypes⟩:=c
  simp only [cop] at hop
  split at hop
  · split at hop<;>simp at hop
  · split at hop
    · split at hop<;>simp at hop
    · cases hop
  · split at hop
    · split at hop<;>simp at hop
    · cases hop
  · rename_i x y t u h1 h2
    have e1:args= #[x,y]:=by rw [←Array.toArray_toList (xs:=args),h1]
    have e2:argTypes= #[t,u]:=by rw [←Array.toArray_toList (xs:=argTypes),h2]
    subst e1;subst e2
    split at hop
    case h_2=>cases hop
    rename_i el x2 hel hx
    have ht:P.underlying t=some (.slice el):=by
     unfold D7 at hel
     split at hel
     · rename_i e hu;injection hel with hel;subst hel;exact hu
     · cases hel
    split at hop
    · rename_i s y2 hu hy
      split at hop
      case isFalse=>cases hop
      rename_i hz
      injection hop with hop
      injection hop with q1 q2 q3 q4
      subst q1;subst q2;subst q3;subst q4
      exact ⟨x,y,t,u,el,s,rfl,hx,hy,ht,hu,hz,rfl,rfl⟩
    · split at hop<;>simp at hop
    · cases hop
  · split at hop<;>simp at hop
  · cases hop
 |makeFunc fn first cs=>
  cases fn with
  |func f=>simp only [cop] at hop;split at hop<;>simp at hop
  |_=>simp [cop] at hop
 |_=>
  exfalso
  simp only [cop] at hop
  first
   |cases hop;done
   |(simp at hop;done)
   |(repeat' (split at hop))<;>(first|(cases hop;done)|(simp at hop;done))
theorem Pj {o:Oper} {neq:Bool} {x':Ar} (hop:cop P o=some (.nq neq x')):
 ∃op t x pV el,o=⟨o.dst, .binOp op t x (.const (.slice none 0 0)) pV,o.type,o.pos,o.after,o.guard⟩∧bK x=some x'∧P.underlying t=some (.slice el)∧op=if neq then .neq else .eql:=by
 obtain ⟨d,oo,ty,pos,af,g⟩:=o
 cases oo with
 |binOp op t x y pV=>
  simp only [cop] at hop
  split at hop
  case h_3=>cases hop
  case h_2=>
   rename_i x2 hx hy
   split at hop
   · cases hop
   · cases hop
   · rename_i el hu
     injection hop with hop;injection hop with h1 h2;subst h1;subst h2
     exact ⟨_,t,x,pV,el,rfl,hx,hu,rfl⟩
   · rename_i el hu
     injection hop with hop;injection hop with h1 h2;subst h1;subst h2
     exact ⟨_,t,x,pV,el,rfl,hx,hu,rfl⟩
   · cases hop
  exfalso
  (repeat' (split at hop))<;>(first|(cases hop;done)|(simp at hop;done))
 |makeFunc fn first cs=>
  cases fn with
  |func f=>simp only [cop] at hop;split at hop<;>simp at hop
  |_=>simp [cop] at hop
 |_=>
  exfalso
  simp only [cop] at hop
  first
   |cases hop;done
   |(simp at hop;done)
   |(repeat' (split at hop))<;>(first|(cases hop;done)|(simp at hop;done))
theorem X6 {op:fN} {n:Bool} {x:Ar} (h:op.JS= .nq n x):op= .nq n x:=by
 cases op with
 |dX hh x=>cases hh<;>cases h
 |ld x n=>cases h
 |_=>exact h
theorem TV {op:fN} {k b:Nat} {x y:Ar} (h:op.JS= .app k b x y):op= .app k b x y:=by
 cases op with
 |dX hh x=>cases hh<;>cases h
 |ld x n=>cases h
 |_=>exact h
theorem TW {op:fN} {x:Ar} (h:op.JS= .bf x):op= .bf x:=by
 cases op with
 |dX hh x=>cases hh<;>cases h
 |ld x n=>cases h
 |_=>exact h
theorem TX {o:Oper} {k:Nat} {zs:List Ar} (hop:cop P o=some (.jE k zs)):
 ∃t n parts el,o=⟨o.dst, .buildSlice t n parts,o.type,o.pos,o.after,o.guard⟩∧P.underlying t=some (.slice el)∧parts.size=n∧n*cC P el≤16777216∧(zeroOf P el).isSome=true∧
  l6 P el 0 parts.toList=some zs∧k=cC P el:=by
 obtain ⟨d,oo,ty,pos,af,g⟩:=o
 cases oo with
 |buildSlice t n parts=>
  simp only [cop] at hop
  split at hop
  case h_2=>cases hop
  rename_i el hel
  split at hop
  case isFalse=>cases hop
  rename_i hq
  have ht:P.underlying t=some (.slice el):=by
   unfold D7 at hel
   split at hel
   · rename_i e hu;injection hel with hel;subst hel;exact hu
   · cases hel
  cases hc:l6 P el 0 parts.toList with
  |none=>rw [hc] at hop;cases hop
  |some zs'=>
   rw [hc] at hop
   simp only [Option.map_some,Option.some.injEq,fN.jE.injEq] at hop
   obtain ⟨rfl,rfl⟩:=hop
   exact ⟨t,n,parts,el,rfl,ht,hq.1,hq.2.1,hq.2.2,hc,rfl⟩
 |makeFunc fn first cs=>
  cases fn with
  |func f=>simp only [cop] at hop;split at hop<;>simp at hop
  |_=>simp [cop] at hop
 |call c=>
  obtain ⟨callee,args,tys⟩:=c
  simp only [cop] at hop
  (repeat' (split at hop))<;>(first|(cases hop;done)|(simp at hop;done))
 |_=>
  simp only [cop] at hop
  first
   |cases hop;done
   |(simp at hop;done)
   |(repeat' (split at hop))<;>(first|(cases hop;done)|(simp at hop;done))
theorem TY {op:fN} {k:Nat} {zs:List Ar} (h:op.JS= .jE k zs):op= .jE k zs:=by
 cases op with
 |dX hh x=>cases hh<;>cases h
 |ld x n=>cases h
 |_=>exact h
theorem Qs {o:Oper} {k:Nat} {zs:List Ar} (hc:dz P m o=some (.jE k zs)):cop P o=some (.jE k zs):=by
 cases m with
 |true=>simpa [dz] using hc
 |false=>
  simp only [dz,Bool.false_eq_true,if_false,Option.map_eq_some_iff] at hc
  obtain ⟨op',ho,hE⟩:=hc
  rw [ho,TY hE]
theorem BN {o:Oper} {k b:Nat} {x y:Ar} (hc:dz P m o=some (.app k b x y)):cop P o=some (.app k b x y):=by
 cases m with
 |true=>simpa [dz] using hc
 |false=>
  simp only [dz,Bool.false_eq_true,if_false,Option.map_eq_some_iff] at hc
  obtain ⟨op',ho,hE⟩:=hc
  rw [ho,TV hE]
theorem Qt {o:Oper} {x:Ar} (hc:dz P m o=some (.bf x)):cop P o=some (.bf x):=by
 cases m with
 |true=>simpa [dz] using hc
 |false=>
  simp only [dz,Bool.false_eq_true,if_false,Option.map_eq_some_iff] at hc
  obtain ⟨op',ho,hE⟩:=hc
  rw [ho,TW hE]
theorem J6 {o:Oper} {n:Bool} {x:Ar} (hc:dz P m o=some (.nq n x)):cop P o=some (.nq n x):=by
 cases m with
 |true=>simpa [dz] using hc
 |false=>
  simp only [dz,Bool.false_eq_true,if_false,Option.map_eq_some_iff] at hc
  obtain ⟨op',ho,hE⟩:=hc
  rw [ho,X6 hE]
theorem HW {o:Oper} {n:Bool} {x:Ar} {K:Env→AH→Prop} (h:SR L N F γ C e ah ts w) (hd:∀x,o.dst=some x→x<N) (hc:dz P m o=some (fN.er (.nq n x)))
 (hk:D8 L o.dst n x e ah K):∃e' aI,K e' aI∧bB m P L N F γ C o ts ds w e' aI:=by
 obtain ⟨op,t,x0,pV,el,ho,hx,hu,hop⟩:=Pj (J6 hc)
 rw [ho]
 exact aat (d:=o.dst) h hd hx hu hop hk
theorem Hi {o:Oper} {k b:Nat} {x y:Ar} {K:Env→AH→Prop} (h:SR L N F γ C e ah ts w) (hd:∀x,o.dst=some x→x<N) (hc:dz P m o=some (fN.er (.mW k b x y)))
 (hk:pR L o.dst k b x y e ah K):∃e' aI,K e' aI∧bB m P L N F γ C o ts ds w e' aI:=by
 obtain ⟨x0,y0,t,u,el,s,ho,hx,hy,ht,hu,hz,rfl,rfl⟩:=El (BN hc)
 rw [ho]
 exact TQ (d:=o.dst) h hd hx hy ht hu hz hk
theorem J7 {o:Oper} {k:Nat} {x:Ar} (h:SR L N F γ C e ah ts w) (hd:∀x,o.dst=some x→x<N) (hc:dz P m o=some (fN.er (.BH k x)))
 (hev:bN L ⟨o.dst, .BH k x,none⟩ e ah=some (e',aI)):bB m P L N F γ C o ts ds w e' aI:=by
 obtain ⟨x0,ho,hx⟩:=TU (Qt hc)
 rw [ho]
 exact XP (d:=o.dst) h hd hx hev
theorem Hj {o:Oper} {k:Nat} {zs:List Ar} (h:SR L N F γ C e ah ts w) (hd:∀x,o.dst=some x→x<N) (hc:dz P m o=some (fN.er (.pQ k zs)))
 (hev:bN L ⟨o.dst, .pQ k zs,none⟩ e ah=some (e',aI)):bB m P L N F γ C o ts ds w e' aI:=by
 obtain ⟨t,n,parts,el,ho,ht,hn,hb,hz,hcs,rfl⟩:=TX (Qs hc)
 rw [ho]
 exact TT (d:=o.dst) h hd ht hn hb hz hcs hev
theorem Hl {op:fN} {f:Ar} {zq:List Ar} (h:op.JS= .call f zq):op= .call f zq:=by
 cases op with
 |dX hh x=>cases hh<;>cases h
 |ld x n=>cases h
 |_=>exact h
theorem acZ {op:fN} {f:Ar} {zq:List Ar} (h:op.er= .call f zq):op= .call f zq:=by
 cases op with
 |uU x=>cases h
 |mW=>cases h
 |BH=>cases h
 |pQ=>cases h
 |_=>exact h
theorem HX {o:Oper} {op:fN} (h:SR L N F γ C e ah ts w) (hd:∀x,o.dst=some x→x<N) (hc:cop P o=some op.er) (e8:op.oW=false)
 (hev:bN L ⟨o.dst,op,none⟩ e ah=some (e',aI)):bB true P L N F γ C o ts ds w e' aI:=by
 by_cases hx:∃x,op= .uU x
 · obtain ⟨x,rfl⟩:=hx
   obtain ⟨d,oo,ty,pos,af,g⟩:=o
   have hc:cop P ⟨d,oo,ty,pos,af,g⟩=some (.dX .sb x):=hc
   cases oo with
   |convert s t y=>
    simp only [cop] at hc
    split at hc
    case h_2=>cases hc
    rename_i hh x' oX hx
    injection hc with hc
    injection hc with e1 e2
    subst e1;subst e2
    exact TE h hd hx oX hev
   |makeFunc fn first cs=>
    cases fn with
    |func f=>simp only [cop] at hc;split at hc<;>simp at hc
    |_=>simp [cop] at hc
   |_=>
    exfalso
    simp only [cop] at hc
    first
     |cases hc;done
     |(simp at hc;done)
     |(repeat' (split at hc))<;>(first|(cases hc;done)|(simp at hc;done))
 · by_cases hy:∃k x,op= .BH k x
   · obtain ⟨k,x,rfl⟩:=hy
     exact J7 (m:=true) h hd (by simpa [dz] using hc) hev
   by_cases hz:∃k x,op= .pQ k x
   · obtain ⟨k,x,rfl⟩:=hz
     exact Hj (m:=true) h hd (by simpa [dz] using hc) hev
   have:op.er=op:=by
    cases op<;>first|rfl|exact absurd ⟨_,rfl⟩ hx|exact absurd ⟨_,_,rfl⟩ hy|exact absurd ⟨_,_,rfl⟩ hz|cases e8|rfl
   rw [this] at hc
   exact MA h hd hc e8 (.inl rfl) hev
theorem J8 {o:Oper} {op:fN} (h:SR L N F γ C e ah ts w) (hd:∀x,o.dst=some x→x<N) (hc:dz P m o=some op.er) (e8:op.oW=false)
 (hev:bN L ⟨o.dst,op,none⟩ e ah=some (e',aI)):bB m P L N F γ C o ts ds w e' aI:=by
 cases m with
 |true=>exact HX h hd (by simpa [dz] using hc) e8 hev
 |false=>
  by_cases hx:∃x,op= .uU x
  · obtain ⟨x,rfl⟩:=hx
    simp only [dz,Bool.false_eq_true,if_false,Option.map_eq_some_iff] at hc
    obtain ⟨op',ho,hE⟩:=hc
    have hE:op'.JS= .dX .sb x:=hE
    have:op'= .dX .sb x:=by
     cases op' with
     |dX hh y=>cases hh<;>first|exact hE|cases hE
     |ld y n=>cases hE
     |_=>exact hE
    subst this
    obtain ⟨v,w',γ',C',h1,h2,h3,h4,h5,h6⟩:=HX (op:= .uU x) (ds:=ds) h hd ho rfl hev
    refine ⟨v,w',γ',C',h1,h2,h3,h4,h5,fun hq=> ?_⟩
    exfalso
    obtain ⟨d,oo,ty,pos,af,g⟩:=o
    cases oo with
    |convert s t y=>
     simp only [cop] at ho
     split at ho
     case h_2=>cases ho
     rename_i hh x' oX hx
     injection ho with ho
     injection ho with e1 e2
     subst e1
     unfold HF at oX
     split at oX
     · cases oX
     · cases oX
     · rename_i el hs ht
       simp [dY,ht] at hq
     · split at oX
       · split at oX<;>cases oX
       · cases oX
     · cases oX
    |makeFunc fn first cs=>
     cases fn with
     |func f=>simp only [cop] at ho;split at ho<;>simp at ho
     |_=>simp [cop] at ho
    |_=>
     simp only [cop] at ho
     first
      |cases ho;done
      |(simp at ho;done)
      |(repeat' (split at ho))<;>(first|(cases ho;done)|(simp at ho;done))
  · by_cases hy:∃k x,op= .BH k x
    · obtain ⟨k,x,rfl⟩:=hy
      exact J7 h hd hc hev
    by_cases hz:∃k x,op= .pQ k x
    · obtain ⟨k,x,rfl⟩:=hz
      exact Hj h hd hc hev
    have:op.er=op:=by
     cases op<;>first|rfl|exact absurd ⟨_,rfl⟩ hx|exact absurd ⟨_,_,rfl⟩ hy|exact absurd ⟨_,_,rfl⟩ hz|cases e8|rfl
    rw [this] at hc
    exact X5 h hd hc e8 hev
theorem wo (L:List Nat) (d:Option Nat) (op:fN) (g:Option (Nat×Bool)) (e:Env) (ah:AH):bN L ⟨d,op,g⟩ e ah=bN L ⟨d,op,none⟩ e ah:=by
 cases op<;>rfl
def jH (P:Program) (f:Nat):Bool:=match P.funcs[f]? with
 |some fn=>fn.body.isSome&&fn.name != "runtime.NumGoroutine"
 |none=>false
def fA:Nat→List AV→Env
 |_,[]=>[]
 |i,a::r=>(i,a)::fA (i+1) r
theorem eH:∀(l:List AV) (i t:Nat),get (fA i l) t=if i≤t then (l[t - i]?).getD .un else .un:=by
 intro l
 induction l with
 |nil=>intro i t;simp [fA,get]
 |cons a r ih=>
  intro i t
  simp only [fA,get]
  by_cases h:i=t
  · subst h;simp
  · rw [if_neg h,ih]
    by_cases h1:i≤t
    · obtain ⟨q,hq⟩:∃q,t - i=q+1:=⟨t - i - 1,by omega⟩
      rw [if_pos h1,if_pos (by omega),hq,show t - (i+1)=q by omega];simp
    · rw [if_neg h1,if_neg (by omega)]
def aG (P:Program) (f:Nat) (args:List AV) (ah:AH) (R:AV→AH→Prop):Prop:=
 jH P f=true∧∀(F:Nat→Prop) (γ:List Nat) (C:Nat→List Value) (w:World) (vs:Array Value),SR [] args.length F γ C (fA 0 args) ah vs w→
  Calls P f vs w fun en w'=>∃r v aI γ' C',en= .returned v∧R r aI∧γ <+: γ'∧SR [] 1 F γ' C' [(0,r)] aI #[v] w'∧Ext F C w C' w'
theorem aG.mono {f:Nat} {args:List AV} {ah:AH} {R R':AV→AH→Prop} (h:aG P f args ah R) (hr:∀r aI,R r aI→R' r aI):aG P f args ah R':=
 ⟨h.1,fun F γ C w vs hs=>(h.2 F γ C w vs hs).mono fun _ _ ⟨r,v,aI,γ',C',h1,h2,h3⟩=>⟨r,v,aI,γ',C',h1,hr _ _ h2,h3⟩⟩
def AV.jj:AV→AV
 | .sl (.fr (.cell _ _)) k xs=> .sl .n k xs
 |a=>a
def wq:Env→Env
 |[]=>[]
 |(i,a)::r=>(i,a.jj)::wq r
theorem Av (e:Env) (t:Nat):get (wq e) t=(get e t).jj:=by
 induction e with
 |nil=>rfl
 |cons p r ih=>
  obtain ⟨i,b⟩:=p
  simp only [wq,get]
  by_cases h:i=t<;>simp [h,ih]
theorem Wk.jj (a:AV):Wk a a.jj:=by
 cases a with
 |sl t k xs=>
  cases t with
  |fr m=>cases m<;>first|exact .n .. |exact .same _
  |_=>exact .same _
 |_=>exact .same _
theorem TZ (a:AV):a.jj.bU=a.bU:=by
 cases a with
 |sl t k xs=>
  cases t with
  |fr m=>cases m<;>rfl
  |_=>rfl
 |_=>rfl
theorem Qu (a:AV) (v:Value):bS a.jj v=bS a v:=by
 cases a with
 |sl t k xs=>
  cases t with
  |fr m=>cases m<;>simp [AV.jj,bS]
  |_=>rfl
 |_=>rfl
theorem X7 {a:AV} {l:Loc} {k:Nat} {xs:List AV} (h:a.jj= .sl (.fr l) k xs):a= .sl (.fr l) k xs∧∃t,l= .tmp t:=by
 cases a with
 |sl t k' xs'=>
  cases t with
  |fr m=>cases m with
   |tmp u=>simp only [AV.jj] at h;exact ⟨h,u,by injection h with h;injection h with h;exact h.symm⟩
   |cell s o=>simp [AV.jj] at h
  |_=>simp [AV.jj] at h
 |_=>simp [AV.jj] at h
theorem J9 {f:Nat} {zq:List AV} {vs:Array Value} {R:AV→AH→Prop} {d:Option Nat} (h:SR L N F γ C e ah ts w) (hd:∀x,d=some x→x<N) (hac:aG P f zq ah R)
 (hlen:vs.size=zq.length) (has:∀(i:Nat) (a:AV),zq[i]? =some a→VR C γ a (vs.getD i undef)∧TC w C a (vs.getD i undef)∧a.plain=true):
 Calls P f vs w fun en w'=>∃r v aI γ' C',en= .returned v∧R r aI∧γ <+: γ'∧SR L N F γ' C' (Am.aK L (wq e) d r.df) aI (Act.put ⟨ts,ds⟩ d v).tmps w'∧Ext F C w C' w':=by
 let F':Nat→Prop:=fun b=>F b∨∃t,blk γ e ah ts w (.tmp t) b
 have Qv:∀t,get (fA 0 zq) t=(zq[t]?).getD .un:=fun t=>by rw [eH];simp
 have hnot:∀t,(get (fA 0 zq) t).bU=false:=by
  intro t
  rw [Qv]
  cases ht:zq[t]? with
  |none=>rfl
  |some a=>exact ir (has t a ht).2.2
 have hsub:∀p b,blk γ (fA 0 zq) ah vs w p b→blk γ e ah ts w p b∧∀t,p≠ .tmp t:=by
  intro p b hp
  cases p with
  |obj s=>exact ⟨hp,by simp⟩
  |cell s i=>exact ⟨hp,by simp⟩
  |tmp t=>simp only [blk] at hp;rw [iS _ (hnot t)] at hp;cases hp
 have hs:SR [] zq.length F' γ C (fA 0 zq) ah vs w:=by
  refine ⟨h.mem,hlen,fun t=> ?_,fun p q b hp hq=>h.dK p q b (hsub p b hp).1 (hsub q b hq).1,fun p b hp=> ?_,⟨fun b hb=> ?_,fun e he=>by obtain ⟨h1,h2⟩:=h.kA.JU e he;exact ⟨.inl h1,h2⟩⟩,fun t l k xs ht=> ?_⟩
  · rw [Qv]
    cases ht:zq[t]? with
    |none=>exact ⟨.un ..,by cases vs.getD t undef<;>trivial⟩
    |some a=>exact ⟨(has t a ht).1,(has t a ht).2.1⟩
  · rintro (hF|⟨t,ht⟩)
    · exact h.nf p b (hsub p b hp).1 hF
    · exact (hsub p b hp).2 t (h.dK p (.tmp t) b (hsub p b hp).1 ht)
  · rcases hb with hF|⟨t,ht⟩
    · exact h.kA.lt b hF
    · exact gr h ht
  · rw [Qv] at ht
    cases hq:zq[t]? with
    |none=>rw [hq] at ht;simp at ht
    |some a=>rw [hq] at ht;exact absurd ht (xy (has t a hq).2.2 l k xs)
 refine (hac.2 F' γ C w vs hs).mono ?_
 rintro en w' ⟨r,v,aI,γ',C',rfl,hR,hγ,lu,hx⟩
 refine ⟨r,v,aI,γ',C',rfl,hR,hγ, ?_,⟨hx.pre,fun b hb=>hx.keep b (.inl hb),hx.size,hx.out⟩⟩
 have hg:∀(s b:Nat),γ[s]? =some b→γ'[s]? =some b:=by
  intro s b hs
  obtain ⟨q,rfl⟩:=hγ
  rw [List.getElem?_append_left (List.getElem?_eq_some_iff.1 hs).1];exact hs
 have hown:∀t b,bS (get e t) (ts.getD t undef)=some b→F' b:=fun t b hb=> .inr ⟨t,hb⟩
 have hbk:∀p b,blk γ' (wq e) aI ts w' p b→(∃t,p= .tmp t∧blk γ e ah ts w (.tmp t) b)∨((∀t,p≠ .tmp t)∧blk γ' [(0,r)] aI #[v] w' p b):=by
  intro p b hp
  cases p with
  |obj s=>exact .inr ⟨by simp,hp⟩
  |cell s i=>exact .inr ⟨by simp,hp⟩
  |tmp t=>simp only [blk,Av,Qu] at hp;exact .inl ⟨t,rfl,hp⟩
 have h2:SR L N F γ' C' (wq e) aI ts w':=by
  refine ⟨lu.mem,h.sz,fun t=> ?_,fun p q b hp hq=> ?_,fun p b hp=> ?_,h.kA.keep hx.size (fun b hb=>(hx.keep b (.inl hb)).1),fun t l k xs ht=> ?_⟩
  · rw [Av]
    refine ⟨(Wk.jj _).vr ((h.env t).1.mono hx.pre _ hg),(Wk.jj _).tc ((h.env t).2.mono fun b hb=> ?_)⟩
    exact hx.keep b (hown t b hb)
  · rcases hbk p b hp with ⟨t,rfl,h1⟩|⟨h1,h2⟩<;>rcases hbk q b hq with ⟨u,rfl,h3⟩|⟨h3,h4⟩
    · exact h.dK _ _ b h1 h3
    · exact absurd (hown t b h1) (lu.nf q b h4)
    · exact absurd (hown u b h3) (lu.nf p b h2)
    · exact lu.dK p q b h2 h4
  · rcases hbk p b hp with ⟨t,rfl,h1⟩|⟨h1,h2⟩
    · exact h.nf _ b h1
    · exact fun hF=>lu.nf p b h2 (.inl hF)
  · rw [Av] at ht
    obtain ⟨h1,u,rfl⟩:=X7 ht
    have:=h.fr t _ k xs h1
    exact ⟨this.1,fun hu=>this.2 (by rw [Av,TZ] at hu;exact hu)⟩
 have hr:=lu.env 0
 simp only [get,if_true] at hr
 have hv0:(#[v]:Array Value).getD 0 undef=v:=rfl
 rw [hv0] at hr
 by_cases ho:r.bU=true
 · cases r with
   |sl t k xs=>
    cases t with
    |own=>
     simp only [AV.df]
     refine h2.tw hd hr.1 hr.2 fun b hb=> ?_
     have hb0:blk γ' [(0, .sl .own k xs)] aI #[v] w' (.tmp 0) b:=hb
     refine ⟨fun hF=>lu.nf _ b hb0 (.inl hF),fun p hp=> ?_⟩
     rcases hbk p b hp with ⟨t,rfl,h1⟩|⟨h1,h3⟩
     · exact lu.nf _ b hb0 (hown t b h1)
     · exact h1 0 (lu.dK p (.tmp 0) b h3 hb0)
    |_=>cases ho
   |_=>cases ho
 · have ho':r.bU=false:=by simpa using ho
   exact h2.aK hd ((Wk.df r).vr hr.1) ((Wk.df r).tc hr.2) (Pb ho') (fun l k xs hl=>absurd hl (Mr r l k xs))
end
end Go.Am
end
section
namespace Go.Am
open Go
variable [Tabs]
def Aw (P:Program) (L:List Nat) (o:aQ) (e:Env) (ah:AH) (K:Env→AH→Prop):Prop:=
 match o.op with
 | .call f zq=>
   match ev e f with
   | .fn f caps=>b5 caps=true∧aG P f (zq.map (fun x=>(ev e x).sh)++caps.map AV.s1) ah fun r aI=>K (aK L (wq e) o.d r.df) aI
   |_=>False
 | .mW k b x y=>pR L o.d k b x y e ah K
 | .nq n x=>D8 L o.d n x e ah K
 |_=>match bN L o e ah with
  |some (e',aI)=>K e' aI
  |none=>False
def pY (e:Env):Option Nat→Env
 |some d=>put e d (.bM [])
 |none=>e
def eF (P:Program) (L:List Nat):List aQ→Env→AH→(Env→AH→Prop)→Prop
 |[],e,ah,K=>K e ah
 |o::r,e,ah,K=>match gO e o with
  |some true=>Aw P L o e ah fun e ah=>eF P L r e ah K
  |some false=>eF P L r (pY e o.d) ah K
  |none=>False
def lU (N:Nat):List aQ→Bool
 |[]=>true
 |o::r=>(match o.d with|some d=>decide (d<N)|none=>true)&&(match o.op with| .lit y _=>decide (y<N)|_=>true)&&lU N r
theorem Pm (N:Nat):∀zq:List aQ,lU N (zq.map aQ.er)=lU N zq:=by
 intro zq
 induction zq with
 |nil=>rfl
 |cons o r ih=>
  obtain ⟨d,op,g⟩:=o
  simp only [List.map_cons,lU,ih,aQ.er]
  cases op<;>rfl
def NG:Exit→Prop
 | .goto _=>False
 |_=>True
def AW (P:Program) (L:List Nat) (N n0:Nat) (c:Code) (Q:Exit→Env→AH→Prop) (e:Env) (ah:AH):Prop:=
 ∀(F:Nat→Prop) (γ:List Nat) (C:Nat→List Value) (ts:Array Value) (w:World),SR L N F γ C e ah ts w→n0≤γ.length→
  c.wp P (fun x a' w'=>a'.defers=[]∧NG x∧∃e' aI γ' C',Q x e' aI∧γ.take n0 <+: γ'∧SR L N F γ' C' e' aI a'.tmps w'∧Ext F C w C' w') ⟨ts,[]⟩ w
section
variable {P:Program} {L:List Nat} {N n0:Nat} {F:Nat→Prop} {γ:List Nat} {C C':Nat→List Value} {e:Env} {ah:AH} {ts:Array Value} {w w':World}
variable {e':Env} {aI:AH}
theorem Ho {γ γ':List Nat} {n:Nat} (h:γ <+: γ'):γ.take n <+: γ':=(List.take_prefix n γ).trans h
theorem pZ {γ γ' γ'':List Nat} {n:Nat} (h0:n≤γ.length) (h:γ.take n <+: γ') (h':γ'.take n <+: γ''):γ.take n <+: γ'':=by
 obtain ⟨r,rfl⟩:=h
 have:(γ.take n++r).take n=γ.take n:=by
  rw [List.take_append_of_le_length (by simp;omega),List.take_take,Nat.min_self]
 rwa [this] at h'
theorem Ka {γ γ':List Nat} {n:Nat} (h0:n≤γ.length) (h:γ.take n <+: γ'):n≤γ'.length:=by
 have:=h.length_le;simp at this;omega
theorem AW.mono {c:Code} {Q Q':Exit→Env→AH→Prop} (h:AW P L N n0 c Q e ah) (hq:∀x e ah,Q x e ah→Q' x e ah):AW P L N n0 c Q' e ah:=
 fun F γ C ts w hs hn=>wp_mono (h F γ C ts w hs hn) fun _ _ _ ⟨hd,hg,e',aI,γ',C',h1,h2⟩=>⟨hd,hg,e',aI,γ',C',hq _ _ _ h1,h2⟩
theorem AW.skip {Q:Exit→Env→AH→Prop} (h:Q .normal e ah):AW P L N n0 .skip Q e ah:=
 fun F γ C ts w hs hn=>wp_skip ⟨rfl,trivial,e,ah,γ,C,h,List.take_prefix _ _,hs,Ext.refl ..⟩
theorem AW.label {Q:Exit→Env→AH→Prop} {l:Nat} (h:Q .normal e ah):AW P L N n0 (.label l) Q e ah:=
 fun F γ C ts w hs hn=>wp_label ⟨rfl,trivial,e,ah,γ,C,h,List.take_prefix _ _,hs,Ext.refl ..⟩
theorem AW.ret {Q:Exit→Env→AH→Prop} (h:Q .ret e ah):AW P L N n0 .ret Q e ah:=
 fun F γ C ts w hs hn=>wp_ret ⟨rfl,trivial,e,ah,γ,C,h,List.take_prefix _ _,hs,Ext.refl ..⟩
theorem AW.exit {Q:Exit→Env→AH→Prop} {i:Nat} (h:Q (.exit i) e ah):AW P L N n0 (.exit i) Q e ah:=
 fun F γ C ts w hs hn=>wp_exit ⟨rfl,trivial,e,ah,γ,C,h,List.take_prefix _ _,hs,Ext.refl ..⟩
theorem AW.seq {a b:Code} {Q:Exit→Env→AH→Prop} (h:AW P L N n0 a (fun x e ah=>match x with| .normal=>AW P L N n0 b Q e ah|x=>Q x e ah) e ah):AW P L N n0 (.seq a b) Q e ah:=by
 intro F γ C ts w hs hn
 refine wp_seq (wp_mono (h F γ C ts w hs hn) ?_)
 rintro x ⟨ts',ds'⟩ w' ⟨rfl,hg,e',aI,γ',C',h1,h2,h3,h4⟩
 cases x with
 |normal=>
  refine wp_mono (h1 F γ' C' ts' w' h3 (Ka hn h2)) ?_
  rintro x ⟨T0,ds2⟩ w2 ⟨rfl,hg,e2,rj,γ2,C2,g1,g2,g3,g4⟩
  exact ⟨rfl,hg,e2,rj,γ2,C2,g1,pZ hn h2 g2,g3,h4.trans g4⟩
 |_=>exact ⟨rfl,hg,e',aI,γ',C',h1,h2,h3,h4⟩
theorem AW.cond {c:Operand} {c':Ar} {a b:Code} {t:Bool} {Q:Exit→Env→AH→Prop} (hc:bK c=some c') (ht:ev e c'= .bool t) (h:AW P L N n0 (if t then a else b) Q e ah):
 AW P L N n0 (.cond c a b) Q e ah:=by
 intro F γ C ts w hs hn
 have:=(bW (ds:=[]) hs hc).1
 rw [ht] at this
 exact wp_cond (t:=t) this.gP (h F γ C ts w hs hn)
theorem AW.blk {c:Code} {i:Nat} {Q:Exit→Env→AH→Prop} (h:AW P L N n0 c (fun x e ah=>match x with| .exit j=>if j=i then Q .normal e ah else Q (.exit j) e ah|x=>Q x e ah) e ah):
 AW P L N n0 (.block i c) Q e ah:=by
 intro F γ C ts w hs hn
 refine wp_block (wp_mono (h F γ C ts w hs hn) ?_)
 rintro x a w' ⟨hd,hg,e',aI,γ',C',h1,h2⟩
 cases x with
 |exit j=>
  simp only [Exit.inBlock] at h1 ⊢
  by_cases hj:j=i
  · rw [if_pos hj] at h1 ⊢;exact ⟨hd,trivial,e',aI,γ',C',h1,h2⟩
  · rw [if_neg hj] at h1 ⊢;exact ⟨hd,trivial,e',aI,γ',C',h1,h2⟩
 |_=>exact ⟨hd,hg,e',aI,γ',C',h1,h2⟩
theorem AW.loop {c:Code} {Q:Exit→Env→AH→Prop} (I:Nat→Env→AH→Prop) {k0:Nat}
 (round:∀k e ah,I k e ah→AW P L N n0 c (fun x e' aI=>match x with| .normal=>∃k',k'<k∧I k' e' aI|x=>Q x e' aI) e ah) (h0:I k0 e ah):AW P L N n0 (.loop c) Q e ah:=by
 intro F γ C ts w hs hn
 refine wp_loop_ghost (fun k a w'=>a.defers=[]∧∃e' aI γ' C',I k e' aI∧γ.take n0 <+: γ'∧SR L N F γ' C' e' aI a.tmps w'∧Ext F C w C' w') k0
  ⟨rfl,e,ah,γ,C,h0,List.take_prefix _ _,hs,Ext.refl ..⟩ ?_
 rintro k ⟨Em,ds1⟩ w1 ⟨rfl,e1,b7,γ1,C1,h1,h2,h3,h4⟩
 refine wp_mono (round k e1 b7 h1 F γ1 C1 Em w1 h3 (Ka hn h2)) ?_
 rintro x ⟨T0,ds2⟩ w2 ⟨rfl,hg,e2,rj,γ2,C2,g1,g2,g3,g4⟩
 cases x with
 |normal=>obtain ⟨k',hk',hI⟩:=g1;exact ⟨k',hk',rfl,e2,rj,γ2,C2,hI,pZ hn h2 g2,g3,h4.trans g4⟩
 |_=>exact ⟨rfl,hg,e2,rj,γ2,C2,g1,pZ hn h2 g2,g3,h4.trans g4⟩
theorem AW.scope {c:Code} {Q:Exit→Env→AH→Prop} (h:AW P L N n0 c Q e ah):AW P L N n0 (.scope c) Q e ah:=
 fun F γ C ts w hs hn=>wp_scope_straight (wp_mono (h F γ C ts w hs hn) fun x _ _ h=>by cases x<;>first|exact h|exact h.2.1.elim)
theorem AW.weak {c:Code} {Q:Exit→Env→AH→Prop} {e1:Env} (hw:∀t,Wk (get e t) (get e1 t)) (h:AW P L N n0 c Q e1 ah):AW P L N n0 c Q e ah:=
 fun F γ C ts w hs hn=>h F γ C ts w (hs.wk hw) hn
theorem iT {ops:Array Oper} {o:Oper} {g:Option (Nat×Bool)} {d:Option Nat} {op:fN} {b:Bool} (h:SR L N F γ C e ah ts w) (hg:ie ops o.guard=some g) (hb:gO e ⟨d,op,g⟩=some b):
 Region.wanted o (yielded ops ts)=b:=by
 unfold Region.wanted
 cases ho:o.guard with
 |none=>
  rw [ho] at hg
  simp only [ie,Option.some.injEq] at hg
  subst hg
  simp only [gO,Option.some.injEq] at hb
  exact hb
 |some jw=>
  obtain ⟨j,want⟩:=jw
  rw [ho] at hg
  simp only [ie,Option.map_eq_some_iff] at hg
  obtain ⟨t,ht,rfl⟩:=hg
  simp only [gO] at hb
  split at hb
  · rename_i b' he
    have hv:=(h.env t).1
    rw [he] at hv
    have hv:=hv.gP
    have hy:yielded ops ts j=some b':=by
     unfold yielded
     rw [ht]
     simp only [Option.bind_some]
     have:ts[t]? =some (.bool b'):=by
      rw [Array.getD_eq_getD_getElem?] at hv
      cases hq:ts[t]? with
      |none=>rw [hq] at hv;simp [undef] at hv
      |some v=>rw [hq] at hv;simp at hv;rw [hv]
     rw [this]
    simp only [hy]
    simp only [Option.some.injEq] at hb
    rw [←hb]
    simp
  · rename_i he
    have hv:=(h.env t).1
    rw [he] at hv
    obtain ⟨vs,hv, -⟩:=hv.vW
    have hy:yielded ops ts j=none:=by
     unfold yielded
     rw [ht]
     simp only [Option.bind_some]
     rw [Array.getD_eq_getD_getElem?] at hv
     cases hq:ts[t]? with
     |none=>rfl
     |some v=>rw [hq] at hv;simp at hv;rw [hv]
    simp only [hy]
    simp only [Option.some.injEq] at hb
    exact hb
  · cases hb
  · cases hb
theorem Hp (h:SR L N F γ C e ah ts w):∀(tys:List TypeId) (l:List Operand) (zq:List Ar),yO P tys l=some zq→zq.length=l.length∧
 ∀(i:Nat) (x:Operand) (a:Ar),l[i]? =some x→zq[i]? =some a→VR C γ (ev e a) (Act.eval ⟨ts,[]⟩ x)∧TC w C (ev e a) (Act.eval ⟨ts,[]⟩ x):=by
 intro tys l
 induction l generalizing tys with
 |nil=>intro zq hc;cases tys<;>(simp [yO] at hc;subst hc;simp)
 |cons x r ih=>
  intro zq hc
  cases tys with
  |nil=>simp [yO] at hc
  |cons t tys=>
   simp only [yO] at hc
   split at hc
   case h_2=>cases hc
   rename_i a zq' ha has
   simp only [Option.some.injEq] at hc
   subst hc
   obtain ⟨h1,h2⟩:=ih tys zq' has
   refine ⟨by simp [h1],fun j y b hy hb=> ?_⟩
   cases j with
   |zero=>simp at hy hb;subst hy;subst hb;exact gb h ha
   |succ j=>exact h2 j y b (by simpa using hy) (by simpa using hb)
theorem En {f:Nat} (hf:jH P f=true) {d:Option Nat} {x:Operand} {args:Array Operand} {tys:Array TypeId} {ty:TypeId} {pos:String} {af:Array Edge} {g:Option (Nat×Bool)} {caps:Array Value} {ρ:Operand→Value}
 (hx:ρ x= .func (.func f) #[] caps):
 (execOp ρ ⟨d, .call {callee:= .value x,args:=args,argTypes:=tys},ty,pos,af,g⟩).run P w= .ok (.enter f (args.map ρ++caps)) w:=by
 unfold jH at hf
 split at hf
 case h_2=>cases hf
 rename_i fn hfn
 simp only [Bool.and_eq_true,bne_iff_ne] at hf
 obtain ⟨h1,h2⟩:=hf
 have h3:fn.body.isNone=false:=by cases hb:fn.body<;>simp_all
 have h4:(fn.name== "runtime.NumGoroutine")=false:=by simpa using h2
 have h5:fn.body≠none:=by intro h0;rw [h0] at h1;cases h1
 simp [execOp,resolve,Deferred.ofValue,hx,invoke,callFunc,program,Sem.run,hfn,h2,h5]
theorem BO {o:Oper} {f:Ar} {wu:List Ar} (hop:cop P o=some (.call f wu)):
 ∃x args tys,o=⟨o.dst, .call {callee:= .value x,args:=args,argTypes:=tys},o.type,o.pos,o.after,o.guard⟩∧bK x=some f∧yO P tys.toList args.toList=some wu:=by
 obtain ⟨d,oo,ty,pos,af,gd⟩:=o
 cases oo with
 |call c=>
  obtain ⟨callee,args,tys⟩:=c
  simp only [cop] at hop
  split at hop
  · split at hop<;>simp at hop
  · split at hop
    · split at hop
      · simp at hop
      · cases hop
    · cases hop
  · split at hop
    · split at hop
      · simp at hop
      · cases hop
    · cases hop
  · split at hop
    · split at hop
      · split at hop<;>simp at hop
      · split at hop<;>simp at hop
      · cases hop
    · cases hop
  · rename_i x
    split at hop
    · rename_i f2 as2 h1 h2
      injection hop with hop
      injection hop with e1 e2
      subst e1;subst e2
      exact ⟨x,args,tys,rfl,h1,h2⟩
    · cases hop
  · cases hop
 |makeFunc fn first cs=>
  cases fn with
  |func f=>simp only [cop] at hop;split at hop<;>simp at hop
  |_=>simp [cop] at hop
 |_=>
  exfalso
  simp only [cop] at hop
  first
   |cases hop;done
   |(simp at hop;done)
   |(repeat' (split at hop))<;>(first|(cases hop;done)|(simp at hop;done))
theorem Eo (hs:SR L N F γ C e ah ts w) {wu:List Ar} {caps:List AV} {args:Array Operand} {vs:Array Value} (hfl:b5 caps=true) (hcl:caps.length=vs.size)
 (oX:∀(i:Nat) (a:AV),caps[i]? =some a→VR C γ a (vs.getD i undef)) (c1:wu.length=args.toList.length)
 (c2:∀(i:Nat) (x:Operand) (a:Ar),args.toList[i]? =some x→wu[i]? =some a→VR C γ (ev e a) (Act.eval ⟨ts,[]⟩ x)∧TC w C (ev e a) (Act.eval ⟨ts,[]⟩ x)):
 ∀(i:Nat) (a:AV),(wu.map (fun x=>(ev e x).sh)++caps.map AV.s1)[i]? =some a→
  VR C γ a ((args.map (Act.eval ⟨ts,[]⟩)++vs).getD i undef)∧TC w C a ((args.map (Act.eval ⟨ts,[]⟩)++vs).getD i undef)∧a.plain=true:=by
 intro i a hi
 by_cases hlt:i<wu.length
 · rw [List.getElem?_append_left (by simpa using hlt),List.getElem?_map,List.getElem?_eq_getElem hlt] at hi
   obtain rfl:(ev e wu[i]).sh=a:=by simpa using hi
   have Ei:i<args.toList.length:=by omega
   have:=c2 i _ _ (List.getElem?_eq_getElem Ei) (List.getElem?_eq_getElem hlt)
   have hgd:(args.map (Act.eval ⟨ts,[]⟩)++vs).getD i undef=Act.eval ⟨ts,[]⟩ args.toList[i]:=by
    rw [Array.length_toList] at Ei
    simp [Array.getD_eq_getD_getElem?,Array.getElem?_append,Ei]
   rw [hgd]
   exact ⟨(Wk.sh _).vr this.1,(Wk.sh _).tc this.2,tA _⟩
 · rw [List.getElem?_append_right (by simpa using hlt),List.getElem?_map] at hi
   simp only [List.length_map] at hi
   cases F5:caps[i - wu.length]? with
   |none=>rw [F5] at hi;simp at hi
   |some b=>
    rw [F5] at hi
    obtain rfl:b.s1=a:=by simpa using hi
    have hgd:(args.map (Act.eval ⟨ts,[]⟩)++vs).getD i undef=vs.getD (i - wu.length) undef:=by
     have c1':wu.length=args.size:=by simpa using c1
     simp only [Array.getD_eq_getD_getElem?]
     rw [Array.getElem?_append_right (by simp;omega)]
     simp [c1']
    rw [hgd]
    exact ⟨(Wk.iZ (Wk.s1 _)).vr (oX _ _ F5),Tq b (jF hfl F5) _,G8 b⟩
theorem Kb {o:Oper} {a:fN} (h:O9 P o=some a):cop P o=some a∨a= .bad:=by
 unfold O9 at h
 cases hc:cop P o with
 |none=>rw [hc] at h;injection h with h;exact .inr h.symm
 |some b=>rw [hc] at h;exact .inl h
theorem X8 {op:fN} (h:op.er= .bad):op= .bad:=by cases op<;>first|rfl|cases h
theorem CQ {ops:Array Oper} {l:List Oper} {zq:List aQ} (h:kz P ops l=some zq):(l=[]∧zq=[])∨
 (∃o o2 r a zq',l=o::o2::r∧nj P o o2=some a∧kz P ops r=some zq'∧zq=a::zq')∨
 (∃o o2 r ag zq',l=o::o2::r∧JR P ops o o2=some ag∧kz P ops r=some zq'∧zq=ag++zq')∨
 ∃o r op g zq',l=o::r∧(cop P o=some op∨op= .bad)∧ie ops o.guard=some g∧kz P ops r=some zq'∧zq=⟨o.dst,op,g⟩::zq':=by
 cases l with
 |nil=>simp only [kz,Option.some.injEq] at h;exact .inl ⟨rfl,h.symm⟩
 |cons o r=>
  cases r with
  |nil=>
   simp only [kz] at h
   split at h
   case h_2=>cases h
   rename_i a g h1 h2
   injection h with h
   exact .inr (.inr (.inr ⟨o,[],a,g,[],rfl,Kb h1,h2,rfl,h.symm⟩))
  |cons o2 r=>
   rw [kz] at h
   split at h
   · rename_i a ha
     simp only [Option.map_eq_some_iff] at h
     obtain ⟨zq',h1,rfl⟩:=h
     exact .inr (.inl ⟨o,o2,r,a,zq',rfl,ha,h1,rfl⟩)
   · split at h
     · rename_i ag hag
       simp only [Option.map_eq_some_iff] at h
       obtain ⟨zq',h1,rfl⟩:=h
       exact .inr (.inr (.inl ⟨o,o2,r,ag,zq',rfl,hag,h1,rfl⟩))
     · split at h
       case h_2=>cases h
       rename_i a g zq' h1 h2 h3
       injection h with h
       exact .inr (.inr (.inr ⟨o,o2::r,a,g,zq',rfl,Kb h1,h2,h3,h.symm⟩))
theorem Pn {a b:aQ} {y:Nat} {bs:List UInt8} (h:a.er=b) (hb:b.op= .lit y bs):a=b:=by
 obtain ⟨d,op,g⟩:=a
 subst h
 cases op<;>first|rfl|(simp [aQ.er,fN.er] at hb)
theorem Ep {o o2:Oper} {a:aQ} (h:nj P o o2=some a):∃y bs,a.op= .lit y bs:=by
 unfold nj at h
 split at h
 case h_2=>cases h
 split at h
 case isFalse=>cases h
 split at h
 case h_2=>cases h
 split at h
 case h_2=>cases h
 split at h
 case isFalse=>cases h
 split at h
 case h_2=>cases h
 simp only [Option.map_eq_some_iff] at h
 obtain ⟨bs, -,rfl⟩:=h
 exact ⟨_,_,rfl⟩
theorem BP {ops:Array Oper} {o o2:Oper} {ag:List aQ} (h:JR P ops o o2=some ag):∃d y bs t w g,ag=[⟨some y, .mv (.c .un),some (t,w)⟩,⟨d, .lit y bs,some (t,w)⟩]∧t≠y∧
 nj P (bare o) (bare o2)=some ⟨d, .lit y bs,g⟩∧ie ops o.guard=some (some (t,w))∧ie ops o2.guard=some (some (t,w)):=by
 unfold JR at h
 split at h
 case isFalse=>cases h
 rename_i hg
 split at h
 case h_2=>cases h
 rename_i x t w d y bs g h1 h2 h3
 split at h
 · cases h
 · rename_i hty
   injection h with h
   exact ⟨d,y,bs,t,w,g,h.symm,hty,h3,h2,by rw [←hg];exact h2⟩
theorem aau {a b:aQ} {x:Ar} (h:a.er=b) (hb:b.op= .mv x):a=b:=by
 obtain ⟨d,op,g⟩:=a
 subst h
 cases op<;>first|rfl|(simp [aQ.er,fN.er] at hb)
theorem HY {ops:Array Oper} {l:List Oper} {zq:List aQ} (h:kz P ops l=some (zq.map aQ.er)):(l=[]∧zq=[])∨
 (∃o o2 r a zq',l=o::o2::r∧nj P o o2=some a∧kz P ops r=some (zq'.map aQ.er)∧zq=a::zq')∨
 (∃o o2 r ag zq',l=o::o2::r∧JR P ops o o2=some ag∧kz P ops r=some (zq'.map aQ.er)∧zq=ag++zq')∨
 ∃o r op g zq',l=o::r∧(cop P o=some op.er∨op= .bad)∧ie ops o.guard=some g∧kz P ops r=some (zq'.map aQ.er)∧zq=⟨o.dst,op,g⟩::zq':=by
 rcases CQ h with ⟨h1,h2⟩|⟨o,o2,r,a,zq',h1,h2,h3,h4⟩|⟨o,o2,r,ag,zq',h1,h2,h3,h4⟩|⟨o,r,op,g,zq',h1,h2,h3,h4,h5⟩
 · exact .inl ⟨h1,by simpa using h2⟩
 · cases zq with
   |nil=>simp at h4
   |cons x xs=>
    simp only [List.map_cons,List.cons.injEq] at h4
    obtain ⟨y,bs,hl⟩:=Ep h2
    have:=Pn h4.1 hl
    subst this
    exact .inr (.inl ⟨o,o2,r,x,xs,h1,h2,by rw [h3,h4.2],rfl⟩)
 · obtain ⟨d,y,bs,t,w,g,rfl, -⟩:=BP h2
   cases zq with
   |nil=>simp at h4
   |cons x xs=>
    cases xs with
    |nil=>simp at h4
    |cons x2 xs=>
     simp only [List.map_cons,List.cons_append,List.nil_append,List.cons.injEq] at h4
     have e1:=aau h4.1 rfl
     have e2:=Pn h4.2.1 rfl
     subst e1;subst e2
     exact .inr (.inr (.inl ⟨o,o2,r,_,xs,h1,h2,by rw [h3,h4.2.2],rfl⟩))
 · cases zq with
   |nil=>simp at h5
   |cons x xs=>
    simp only [List.map_cons,List.cons.injEq] at h5
    obtain ⟨d,op',g'⟩:=x
    obtain ⟨h6,h7⟩:=h5
    simp only [aQ.er] at h6
    injection h6 with e1 e2 e3
    subst e1;subst e2;subst e3
    exact .inr (.inr (.inr ⟨o,r,op',g',xs,h1,h2.imp id X8,h3,by rw [h4,h7],rfl⟩))
theorem Kc {ops:Array Oper} {o o2:Oper} {l:List Oper} {a:aQ} {zq:List aQ} {K:Env→AH→Prop} {Q:Exit→Act→World→Prop} (hO:nj P (bare o) (bare o2)=some a)
 (hw1:Region.wanted o (yielded ops ts)=true) (Ef:∀y bs v,a.op= .lit y bs→Region.wanted o2 (yielded ops ((⟨ts,[]⟩:Act).put (some y) v).tmps)=true) (hd:lU N (a::zq)=true)
 (hs:SR L N F γ C e ah ts w) (hk:eF P L (a::zq) e ah K)
 (next:∀e1 b7 C1 Em w1,eF P L zq e1 b7 K→lU N zq=true→SR L N F γ C1 e1 b7 Em w1→Ext F C w C1 w1→wpList P ops Q l ⟨Em,[]⟩ w1):wpList P ops Q (o::o2::l) ⟨ts,[]⟩ w:=by
 obtain ⟨d1,op1,ty1,pos1,af1,g1⟩:=o
 obtain ⟨d2,X4,pV,pos2,af2,g2⟩:=o2
 unfold nj bare at hO
 split at hO
 case h_2=>cases hO
 rename_i t n parts s d x y h1 h2 h3
 simp only at h1 h2 h3
 subst h1;subst h2;subst h3
 split at hO
 case isFalse=>cases hO
 rename_i hcs
 obtain ⟨rfl,rfl,rfl,X9,Kd,hyd,hn,hn2⟩:=hcs
 split at hO
 case h_2=>cases hO
 rename_i el hel
 split at hO
 case h_2=>cases hO
 rename_i hu8
 split at hO
 case isFalse=>cases hO
 rename_i hsz
 split at hO
 case h_2=>cases hO
 rename_i wu ac0
 simp only [Option.map_eq_some_iff] at hO
 obtain ⟨bs,Mx,rfl⟩:=hO
 have Ef:=fun v=>Ef _ _ v rfl
 simp only [lU,Bool.and_eq_true] at hd
 obtain ⟨⟨hd1,Dd⟩,hd3⟩:=hd
 have hy:x<N:=by simpa using Dd
 have jW:∀z,d2=some z→z<N:=by
  intro z hz
  rw [hz] at hd1
  simpa using hd1
 simp only [eF,gO,Aw,bN] at hk
 have ht:P.underlying d=some (.slice el):=by
  unfold D7 at hel
  split at hel
  · rename_i h;injection hel with hel;subst hel;exact h
  · cases hel
 obtain ⟨q1,q2⟩:=TM Mx e
 obtain ⟨r,hrs,hrun, -,key⟩:=BM (ds:=[]) (d:=d2) hs jW ht hn (by rw [hsz.1];omega) hsz.2 ac0 (by rw [hsz.1];exact q2)
 obtain ⟨C',k1,k2⟩:=key (r.size,r.size+1) (.inr rfl)
 rw [q1,hsz.1] at k1
 have k3:=k1.CO (d:=x) (a:= .un) (v:= .slice (some ⟨w.heap.size,0,none⟩) n n) hy (.un ..) trivial rfl (by simp)
 unfold wpList
 rw [if_pos hw1]
 refine .inl ?_
 unfold Oper.wp
 have e1:(execOp (Act.eval ⟨ts,[]⟩) ⟨some x, .buildSlice d n parts,ty1,pos1,af1,g1⟩).run P w= .ok (.value (.slice (some ⟨w.heap.size,0,none⟩) n n)) (w.alloc (.cells r el)):=by
  simp [execOp,hrun]
 rw [e1]
 simp only [Oper.upon]
 unfold wpList
 rw [if_pos (Ef _)]
 refine .inl ?_
 unfold Oper.wp
 have hlt:x<ts.size:=by rw [hs.sz];exact hy
 have e2:(execOp (Act.eval ((⟨ts,[]⟩:Act).put (some x) (.slice (some ⟨w.heap.size,0,none⟩) n n))) ⟨d2, .convert d d (.tmp x),pV,pos2,af2,g2⟩).run P (w.alloc (.cells r el))= .ok (.value (.slice (some ⟨w.heap.size,0,none⟩) n n)) (w.alloc (.cells r el (r.size,r.size+1))):=by
  have hev:Act.eval ((⟨ts,[]⟩:Act).put (some x) (.slice (some ⟨w.heap.size,0,none⟩) n n)) (.tmp x)= .slice (some ⟨w.heap.size,0,none⟩) n n:=by
   simp [Act.eval,Act.put,hlt]
  have:=Lib.run_convert_bytes_const (P:=P) w d el r n n ht hu8
  simp only [execOp,hev,Sem.run_bind,this,Result.andThen_ok,Sem.run_pure]
 rw [e2]
 simp only [Oper.upon]
 rw [←SR.Ej ts [] hyd]
 have hput:(((⟨ts,[]⟩:Act).put d2 (.slice (some ⟨w.heap.size,0,none⟩) n n)).put (some x) (.slice (some ⟨w.heap.size,0,none⟩) n n))=
  ⟨(((⟨ts,[]⟩:Act).put d2 (.slice (some ⟨w.heap.size,0,none⟩) n n)).tmps).setIfInBounds x (.slice (some ⟨w.heap.size,0,none⟩) n n),[]⟩:=by
  cases d2<;>rfl
 rw [hput]
 exact next _ _ C' _ _ hk hd3 k3 k2
theorem Ya {ops:Array Oper} {o o2:Oper} {l:List Oper} {a:aQ} {zq:List aQ} {K:Env→AH→Prop} {Q:Exit→Act→World→Prop} (hO:nj P o o2=some a) (hd:lU N (a::zq)=true)
 (hs:SR L N F γ C e ah ts w) (hk:eF P L (a::zq) e ah K)
 (next:∀e1 b7 C1 Em w1,eF P L zq e1 b7 K→lU N zq=true→SR L N F γ C1 e1 b7 Em w1→Ext F C w C1 w1→wpList P ops Q l ⟨Em,[]⟩ w1):wpList P ops Q (o::o2::l) ⟨ts,[]⟩ w:=by
 have hg:o.guard=none∧o2.guard=none:=by
  unfold nj at hO
  split at hO
  case h_2=>cases hO
  split at hO
  case isFalse=>cases hO
  rename_i hcs
  exact ⟨by simpa using hcs.2.2.2.1,by simpa using hcs.2.2.2.2.1⟩
 have e1:bare o=o:=by obtain ⟨d,op,ty,pos,af,g⟩:=o;simp only at hg;simp [bare,hg.1]
 have e2:bare o2=o2:=by obtain ⟨d,op,ty,pos,af,g⟩:=o2;simp only at hg;simp [bare,hg.2]
 exact Kc (by rw [e1,e2];exact hO) (by simp [Region.wanted,hg.1]) (fun _ _ _ _=>by simp [Region.wanted,hg.2]) hd hs hk next
theorem T3 {ops:Array Oper}:∀(n:Nat) (l:List Oper) (zq:List aQ) (e:Env) (ah:AH) (K:Env→AH→Prop) (F:Nat→Prop) (γ:List Nat) (C:Nat→List Value) (ts:Array Value) (w:World)
 (Q:Exit→Act→World→Prop),l.length≤n→kz P ops l=some (zq.map aQ.er)→lU N zq=true→SR L N F γ C e ah ts w→eF P L zq e ah K→
 (∀e' aI γ' C' ts' w',K e' aI→γ <+: γ'→SR L N F γ' C' e' aI ts' w'→Ext F C w C' w'→Q .normal ⟨ts',[]⟩ w')→wpList P ops Q l ⟨ts,[]⟩ w:=by
 intro n
 induction n with
 |zero=>
  intro l zq e ah K F γ C ts w Q hn hc hd hs hk hq
  obtain rfl:l=[]:=List.eq_nil_of_length_eq_zero (by omega)
  simp only [kz,Option.some.injEq] at hc
  obtain rfl:zq=[]:=by simpa using hc.symm
  exact wpList_nil (hq e ah γ C ts w hk (List.prefix_refl _) hs (Ext.refl ..))
 |succ n ih=>
  intro l zq e ah K F γ C ts w Q hn hc hd hs hk hq
  rcases HY hc with ⟨rfl,rfl⟩|⟨o,o2,l,a,zq',rfl,hO,has,rfl⟩|⟨o,o2,l,ag,zq',rfl,hO,has,rfl⟩|⟨o,l,op,g,zq',rfl,hop,hg,has,rfl⟩
  · exact wpList_nil (hq e ah γ C ts w hk (List.prefix_refl _) hs (Ext.refl ..))
  · exact Ya hO hd hs hk fun e1 b7 C1 Em w1 BJ hd1 hs1 hx1=>ih l zq' e1 b7 K F γ C1 Em w1 Q (by simp at hn;omega) has hd1 hs1 BJ
     fun e' aI γ' C' ts' w' g1 g2 g3 g4=>hq e' aI γ' C' ts' w' g1 g2 g3 (hx1.trans g4)
  · obtain ⟨d,y,bs,tg,want,g0,rfl,hty,hlo,X9,Kd⟩:=BP hO
    have hd:lU N [⟨some y, .mv (.c .un),some (tg,want)⟩,⟨d, .lit y bs,some (tg,want)⟩]=true∧lU N zq'=true:=by
     simp only [List.cons_append,List.nil_append,lU,Bool.and_eq_true,Bool.and_true] at hd ⊢
     exact ⟨⟨hd.1,hd.2.1⟩,hd.2.2⟩
    have hyN:y<N:=by
     have:=hd.1
     simp only [lU,Bool.and_eq_true] at this
     simpa using this.1.1
    have ac1:∀v,SR L N F γ C (put e y .un) ah (ts.setIfInBounds y v) w:=fun v=>hs.CO hyN (.un ..) trivial rfl (by simp)
    have hge:∀a,get (put e y a) tg=get e tg:=fun a=>by rw [fz,if_neg hty]
    have Ao:∀a (d d2:Option Nat) (op X4:fN),gO (put e y a) ⟨d,op,some (tg,want)⟩=gO e ⟨d2,X4,some (tg,want)⟩:=fun a _ _ _ _=>by simp only [gO,hge]
    rw [List.cons_append,List.cons_append,List.nil_append] at hk
    simp only [eF] at hk
    split at hk
    · rename_i uo
      have hw1:=iT hs X9 uo
      have e0:aK L e (some y) (cp L (.c .un) (ev e (.c .un)))=put e y .un:=by
       simp only [ev,cp,aK];split<;>rfl
      simp only [Aw,bN] at hk
      rw [e0,Ao .un d (some y) (.lit y bs) (.mv (.c .un)),uo] at hk
      simp only at hk
      have hk3:eF P L (⟨d, .lit y bs,g0⟩::zq') (put e y .un) ah K:=by
       have h0:g0=none:=by
        unfold nj at hlo
        split at hlo
        case h_2=>cases hlo
        split at hlo
        case isFalse=>cases hlo
        split at hlo
        case h_2=>cases hlo
        split at hlo
        case h_2=>cases hlo
        split at hlo
        case isFalse=>cases hlo
        split at hlo
        case h_2=>cases hlo
        simp only [Option.map_eq_some_iff] at hlo
        obtain ⟨_, -,hlo⟩:=hlo
        injection hlo with _ _ h3
        exact h3.symm
       subst h0
       exact hk
      refine Kc hlo hw1 (fun y' bs' v h=> ?_) (by
       have h1:=hd.1
       simp only [lU,Bool.and_eq_true] at h1 ⊢
       exact ⟨h1.2.1,hd.2⟩) (hs.tu (.un _)) hk3 fun e1 b7 C1 Em w1 BJ hd1 hs1 hx1=>ih l zq' e1 b7 K F γ C1 Em w1 Q (by simp at hn;omega) has hd1 hs1 BJ
       fun e' aI γ' C' ts' w' g1 g2 g3 g4=>hq e' aI γ' C' ts' w' g1 g2 g3 (hx1.trans g4)
      injection h with h1 h2
      subst h1
      exact iT (ac1 v) Kd (d:=d) (op:= .lit y bs) ((Ao .un d (some y) (.lit y bs) (.mv (.c .un))).trans uo)
    · rename_i uo
      have hw1:=iT hs X9 uo
      rw [show pY e (some y)=put e y (.bM []) from rfl,Ao (.bM []) d (some y) (.lit y bs) (.mv (.c .un)),uo] at hk
      simp only at hk
      obtain ⟨hdo,hdy⟩:o.dst=some y∧o2.dst=d:=by
       unfold nj bare at hlo
       split at hlo
       case h_2=>cases hlo
       rename_i h1 h2 h3
       simp only at h3
       split at hlo
       case isFalse=>cases hlo
       split at hlo
       case h_2=>cases hlo
       split at hlo
       case h_2=>cases hlo
       split at hlo
       case isFalse=>cases hlo
       split at hlo
       case h_2=>cases hlo
       simp only [Option.map_eq_some_iff] at hlo
       obtain ⟨_, -,hlo⟩:=hlo
       injection hlo with q1 q2 _
       injection q2 with q2 _
       subst q2
       exact ⟨h3,q1⟩
      have hs1:SR L N F γ C (put e y (.bM [])) ah (ts.setIfInBounds y undef) w:=hs.CO hyN (.bM _ [] #[] rfl (by simp)) (by simp [undef,TC]) rfl (by simp)
      unfold wpList
      rw [if_neg (by rw [hw1];simp)]
      unfold wpList
      have aav:(⟨ts,[]⟩:Act).put o.dst undef=⟨ts.setIfInBounds y undef,[]⟩:=by rw [hdo];rfl
      rw [aav]
      have Ef:=iT hs1 Kd (d:=d) (op:= .lit y bs) ((Ao (.bM []) d (some y) (.lit y bs) (.mv (.c .un))).trans uo)
      rw [if_neg (by show ¬(Region.wanted o2 (yielded ops (ts.setIfInBounds y undef))=true);rw [Ef];simp)]
      have hput:(⟨ts.setIfInBounds y undef,[]⟩:Act).put o2.dst undef=⟨((⟨ts.setIfInBounds y undef,[]⟩:Act).put o2.dst undef).tmps,[]⟩:=by cases o2.dst<;>rfl
      rw [hput]
      refine ih l zq' _ ah K F γ C _ w Q (by simp at hn;omega) has hd.2 ?_ hk hq
      rw [hdy]
      cases hdd:d with
      |none=>exact hs1
      |some d'=>
       have hdN:d'<N:=by
        have:=hd.1
        simp only [lU,Bool.and_eq_true,hdd] at this
        simpa using this.2.1.1
       exact hs1.CO hdN (.bM _ [] #[] rfl (by simp)) (by simp [undef,TC]) rfl (by simp)
    · exact hk.elim
  have hn':l.length≤n:=by simp at hn;omega
  simp only [lU,Bool.and_eq_true] at hd
  have jW:∀x,o.dst=some x→x<N:=by
   intro x hx
   have:=hd.1.1
   rw [hx] at this
   simpa using this
  simp only [eF] at hk
  split at hk
  · rename_i uo
    have hw:=iT hs hg uo
    unfold wpList
    rw [if_pos hw]
    refine .inl ?_
    rcases hop with hop|rfl
    case inr=>exact hk.elim
    by_cases e8:op.oW=true
    · cases op with
      |call f wu=>
       simp only [Aw] at hk
       split at hk
       case h_2=>exact hk.elim
       rename_i f' caps hfv
       obtain ⟨hfl,hk⟩:=hk
       obtain ⟨x,args,tys,ho,hx,hargs⟩:=BO hop
       have h1:=bW (ds:=[]) hs hx
       rw [hfv] at h1
       obtain ⟨vs,T4,hcl,oX⟩:=h1.1.DY
       obtain ⟨c1,c2⟩:=Hp hs _ _ _ hargs
       have Er:=J9 (d:=o.dst) (ds:=[]) (vs:=args.map (Act.eval ⟨ts,[]⟩)++vs) hs jW hk (by simp [c1,hcl]) (Eo hs hfl hcl oX c1 c2)
       have MB:(execOp (Act.eval ⟨ts,[]⟩) o).run P w= .ok (.enter f' (args.map (Act.eval ⟨ts,[]⟩)++vs)) w:=by
        rw [ho];exact En hk.1 T4
       unfold Oper.wp
       rw [MB]
       simp only [Oper.upon]
       refine Er.mono ?_
       rintro en w1 ⟨r,v,b7,γ1,C1,rfl,hR,hγ,hs1,hx1⟩
       have hput:(⟨ts,[]⟩:Act).put o.dst v=⟨((⟨ts,[]⟩:Act).put o.dst v).tmps,[]⟩:=by cases o.dst<;>rfl
       show wpList P ops Q l ((⟨ts,[]⟩:Act).put o.dst v) w1
       rw [hput]
       exact ih l zq' _ b7 K F γ1 C1 _ w1 Q hn' has hd.2 hs1 hR fun e' aI γ' C' ts' w' g1 g2 g3 g4=>hq e' aI γ' C' ts' w' g1 (hγ.trans g2) g3 (hx1.trans g4)
      |mW k b x y=>
       simp only [Aw] at hk
       obtain ⟨e1,b7,hk',v,w1,γ1,C1,hr,hγ,hs1,hx1, -, -⟩:=Hi (m:=true) (ds:=[]) hs jW (by simpa [dz] using hop) hk
       have next:wpList P ops Q l ((⟨ts,[]⟩:Act).put o.dst v) w1:=by
        have hput:(⟨ts,[]⟩:Act).put o.dst v=⟨((⟨ts,[]⟩:Act).put o.dst v).tmps,[]⟩:=by cases o.dst<;>rfl
        rw [hput]
        exact ih l zq' e1 b7 K F γ1 C1 _ w1 Q hn' has hd.2 hs1 hk' fun e' aI γ' C' ts' w' g1 g2 g3 g4=>hq e' aI γ' C' ts' w' g1 (hγ.trans g2) g3 (hx1.trans g4)
       unfold Oper.wp
       rcases hr with hr|⟨hr,rfl⟩<;>rw [hr]<;>exact next
      |nq n x=>
       simp only [Aw] at hk
       obtain ⟨e1,b7,hk',v,w1,γ1,C1,hr,hγ,hs1,hx1, -, -⟩:=HW (m:=true) (ds:=[]) hs jW (by simpa [dz] using hop) hk
       have next:wpList P ops Q l ((⟨ts,[]⟩:Act).put o.dst v) w1:=by
        have hput:(⟨ts,[]⟩:Act).put o.dst v=⟨((⟨ts,[]⟩:Act).put o.dst v).tmps,[]⟩:=by cases o.dst<;>rfl
        rw [hput]
        exact ih l zq' e1 b7 K F γ1 C1 _ w1 Q hn' has hd.2 hs1 hk' fun e' aI γ' C' ts' w' g1 g2 g3 g4=>hq e' aI γ' C' ts' w' g1 (hγ.trans g2) g3 (hx1.trans g4)
       unfold Oper.wp
       rcases hr with hr|⟨hr,rfl⟩<;>rw [hr]<;>exact next
      |_=>cases e8
    · have rO:op.oW=false:=by simpa using e8
      have hk':match bN L ⟨o.dst,op,g⟩ e ah with|some (e',aI)=>eF P L zq' e' aI K|none=>False:=by
       cases op<;>first|exact hk|cases rO
      rw [wo] at hk'
      cases hev:bN L ⟨o.dst,op,none⟩ e ah with
      |none=>rw [hev] at hk';exact hk'.elim
      |some ea=>
       obtain ⟨e1,b7⟩:=ea
       rw [hev] at hk'
       obtain ⟨v,w1,γ1,C1,hr,hγ,hs1,hx1, -, -⟩:=HX (ds:=[]) hs jW hop rO hev
       have next:wpList P ops Q l ((⟨ts,[]⟩:Act).put o.dst v) w1:=by
        have hput:(⟨ts,[]⟩:Act).put o.dst v=⟨((⟨ts,[]⟩:Act).put o.dst v).tmps,[]⟩:=by cases o.dst<;>rfl
        rw [hput]
        exact ih l zq' e1 b7 K F γ1 C1 _ w1 Q hn' has hd.2 hs1 hk' fun e' aI γ' C' ts' w' g1 g2 g3 g4=>hq e' aI γ' C' ts' w' g1 (hγ.trans g2) g3 (hx1.trans g4)
       unfold Oper.wp
       rcases hr with hr|⟨hr,rfl⟩<;>rw [hr]<;>exact next
  · rename_i uo
    have hw:=iT hs hg uo
    unfold wpList
    rw [if_neg (by rw [hw];simp)]
    have hput:(⟨ts,[]⟩:Act).put o.dst undef=⟨((⟨ts,[]⟩:Act).put o.dst undef).tmps,[]⟩:=by cases o.dst<;>rfl
    rw [hput]
    refine ih l zq' _ ah K F γ C _ w Q hn' has hd.2 ?_ hk hq
    cases ho:o.dst with
    |none=>exact hs
    |some d=>exact hs.CO (jW d ho) (.bM _ [] #[] rfl (by simp)) (by simp [undef,TC]) rfl (by simp)
  · exact hk.elim
theorem Yb {ops:Array Oper} (l:List Oper) (zq:List aQ) (e:Env) (ah:AH) (K:Env→AH→Prop) (F:Nat→Prop) (γ:List Nat) (C:Nat→List Value) (ts:Array Value) (w:World)
 (Q:Exit→Act→World→Prop) (hc:kz P ops l=some (zq.map aQ.er)) (hd:lU N zq=true) (hs:SR L N F γ C e ah ts w) (hk:eF P L zq e ah K)
 (hq:∀e' aI γ' C' ts' w',K e' aI→γ <+: γ'→SR L N F γ' C' e' aI ts' w'→Ext F C w C' w'→Q .normal ⟨ts',[]⟩ w'):wpList P ops Q l ⟨ts,[]⟩ w:=
 T3 l.length l zq e ah K F γ C ts w Q (Nat.le_refl _) hc hd hs hk hq
end
end Go.Am
end
section
namespace Go.Am
open Go
variable [Tabs]
section
variable {P:Program} {ops:Array Oper} {Q:Exit→Act→World→Prop} {md:Region.Mode} {S:World→Prop} {D:Nat→Bool}
def wpS (P:Program) (ops:Array Oper) (Q:Exit→Act→World→Prop) (S:World→Prop) (D:Nat→Bool):Nat→Array Bool→Act→World→Prop
 |0,listed,a,w=>Region.ready .any ops listed=[]∧Q .normal a w
 |n+1,listed,a,w=>(Region.ready .any ops listed=[]→Q .normal a w)∧
  ∀i∈Region.ready .any ops listed,wpOp P ops Q i (fun a' w'=>(D i=false→S w')∧wpS P ops Q S D n (listed.setIfInBounds i true) a' w') a w
theorem wpS.any:∀ {n:Nat} {listed:Array Bool} {a:Act} {w:World},wpS P ops Q S D n listed a w→wpAny P .any ops Q n listed a w
 |0,_,_,_,h=>h
 |_+1,_,_,_,h=>⟨h.1,fun i hi=>wpOp_mono (fun _ _ h'=>h'.2.any) (h.2 i hi)⟩
theorem wpS.mono {S':World→Prop} (hS:∀w,S' w→S w):∀ {n:Nat} {listed:Array Bool} {a:Act} {w:World},wpS P ops Q S' D n listed a w→wpS P ops Q S D n listed a w
 |0,_,_,_,h=>h
 |_+1,_,_,_,h=>⟨h.1,fun i hi=>wpOp_mono (fun _ _ h'=>⟨fun hd=>hS _ (h'.1 hd),h'.2.mono hS⟩) (h.2 i hi)⟩
theorem iG {listed:Array Bool} {i j:Nat} (h:(listed.setIfInBounds i true).getD j true=false):listed.getD j true=false:=by
 by_cases hij:i=j
 · subst hij
   by_cases hlt:i<listed.size
   · simp [hlt] at h
   · simp [Array.getElem?_eq_none (Nat.le_of_not_lt hlt)] at h
 · rwa [getD_set_ne true hij] at h
theorem CS:∀ {n:Nat} {listed:Array Bool} {a:Act} {w:World},(∀j,listed.getD j true=false→D j=true)→wpAny P .any ops Q n listed a w→wpS P ops Q S D n listed a w
 |0,_,_,_,_,h=>h
 |_+1,listed,_,_,hD,h=>⟨h.1,fun i hi=>wpOp_mono (fun _ _ h'=>⟨fun hd=>Bool.noConfusion ((hD i (mem_ready.1 hi).1).symm.trans hd),CS (fun j hj=>hD j (iG hj)) h'⟩) (h.2 i hi)⟩
theorem MC {i:Nat} {oi:Oper} {v:Value} (hi:ops[i]? =some oi) (hsel:∀(j:Nat) (o:Oper) cs b,ops[j]? =some o→o.op≠ .select cs b)
 (hQ:∀c a w,¬Q (.panic c) a w) (W:Nat→Prop):
 ∀(n:Nat) (listed:Array Bool) (a:Act) (w:World),
  (∀j oj,ops[j]? =some oj→j≠i→listed.getD j true=false→(∀e∈oj.after,Region.binds .any e=true→e.on≠i)→oi.apart ops oj=true)→
  (∀j,W j→listed.getD j true=false∧∃oj,ops[j]? =some oj∧∃e∈oj.after,Region.binds .any e=true∧(e.on=i∨W e.on))→(∀j,j<ops.size→D j=true→listed.getD j true=false→W j)→
  i∈Region.ready .any ops listed→YieldsIf P ops S oi v a→S w→
  wpS P ops Q S D n (listed.setIfInBounds i true) (a.put oi.dst v) w→wpS P ops Q S D (n+1) listed a w:=by
 intro n
 induction n with
 |zero=>
  intro listed a w _ _ _ hr hy hS H
  refine ⟨fun h=>(by rw [h] at hr;cases hr),fun j hj=> ?_⟩
  by_cases hji:j=i
  · subst hji;exact hy.wpOp hi hS ⟨fun _=>hS,H⟩
  · have:=ready_mono hj hji
    rw [H.1] at this
    cases this
 |succ n ih=>
  intro listed a w hfree wv hDW hr hy hS H
  refine ⟨fun h=>(by rw [h] at hr;cases hr),fun j hj=> ?_⟩
  by_cases hji:j=i
  · subst hji;exact hy.wpOp hi hS ⟨fun _=>hS,H⟩
  · have h1:=H.2 j (ready_mono hj hji)
    obtain ⟨ZV,oj,MD,hall⟩:=mem_ready.1 hj
    have hun:∀k,listed.getD k true=false→listed.getD k false=false:=fun k hk=>by
     rcases Nat.lt_or_ge k listed.size with h'|h'
     · simp [h'] at hk ⊢;exact hk
     · simp [Array.getElem?_eq_none h'] at hk
    have hnot:∀e∈oj.after,Region.binds .any e=true→listed.getD e.on true=false→False:=fun e he hb hu=>by
     have h1:=hall e he hb
     rw [hun _ hu] at h1
     cases h1
    have hni:∀e∈oj.after,Region.binds .any e=true→e.on≠i:=fun e he hb heq=>hnot e he hb (by rw [heq];exact (mem_ready.1 hr).1)
    have hWj:¬W j:=by
     intro hw
     obtain ⟨-,oj',Po,e,he,hb,h0⟩:=wv j hw
     rw [MD] at Po
     injection Po with Po
     subst Po
     rcases h0 with h0|h0
     · exact hni e he hb h0
     · exact hnot e he hb (wv _ h0).1
    have hDj:D j=false:=by
     cases hd:D j with
     |false=>rfl
     |true=>exact absurd (hDW j (Array.getElem?_eq_some_iff.1 MD).1 hd ZV) hWj
    have h2:=wpOp_putIf MD (hfree j oj MD hji ZV hni) (fun cs b=>hsel i oi cs b hi) (fun cs b=>hsel j oj cs b MD) (fun c a w hq=>(hQ c _ w hq).elim) hy h1
    refine wpOp_mono (fun a' w' h3=> ?_) h2
    have hS':=h3.2.1 hDj
    refine ⟨fun _=>hS',ih (listed.setIfInBounds j true) a' w' ?_ ?_ ?_ (ready_mono hr (Ne.symm hji)) h3.1 hS' ?_⟩
    · exact fun k ok hk hki hku hno=>hfree k ok hk hki (iG hku) hno
    · intro k hk
      obtain ⟨h5,h6⟩:=wv k hk
      refine ⟨?_,h6⟩
      rw [getD_set_ne true (fun h7=>hWj (by rw [h7];exact hk))]
      exact h5
    · exact fun k hk hd hku=>hDW k hk hd (iG hku)
    · rw [Array.setIfInBounds_comm _ _ hji]
      exact h3.2.2
end
section
variable {P:Program} {L:List Nat} {N n0:Nat} {F:Nat→Prop} {γ:List Nat} {C C':Nat→List Value} {e:Env} {ah:AH} {ts:Array Value} {w w':World} {m:Bool}
variable {e':Env} {aI:AH} {ops:Array Oper} {Q:Exit→Act→World→Prop}
theorem KA.trans {γ':List Nat} {w2:World} (hg:∀(s b:Nat),γ[s]? =some b→γ'[s]? =some b) (hC:∀b,C b <+: C' b) (h:KA m γ C w w') (h':KA m γ' C' w' w2):KA m γ C w w2:=
 ⟨fun b i hi=>(h'.1 b i (Nat.lt_of_lt_of_le hi (hC b).length_le)).trans (h.1 b i hi),fun hm s b hs=>(h'.2 hm s b (hg s b hs)).trans (h.2 hm s b hs)⟩
theorem T5 {γ γ':List Nat} (h:γ <+: γ') {s b:Nat} (hs:γ[s]? =some b):γ'[s]? =some b:=by
 obtain ⟨q,rfl⟩:=h
 rw [List.getElem?_append_left (List.getElem?_eq_some_iff.1 hs).1];exact hs
theorem KA.HZ {e ah ts e' aI ts'} {γ':List Nat} (h:SR L N F γ C e ah ts w) (h':SR L N F γ' C' e' aI ts' w') (hx:Ext F C w C' w')
 (ho:m=true→∀(s b:Nat),γ[s]? =some b→w'.heap[b]? =w.heap[b]?):KA m γ C w w':=by
 refine ⟨fun b i hi=> ?_,ho⟩
 rw [pN h hi,pN h' (Nat.lt_of_lt_of_le hi (hx.pre b).length_le),ij (hx.pre b) hi]
theorem BQ (a:Act) (d:Option Nat) (v:Value) (h:a.defers=[]):a.put d v=⟨(a.put d v).tmps,[]⟩:=by
 obtain ⟨ts,ds⟩:=a
 simp only at h
 subst h
 cases d<;>rfl
theorem Ke {o:Oper} {i:Nat} {op:fN} {g:Option (Nat×Bool)} {zq:List aQ} {K:Env→AH→Prop} {R:Act→World→Prop} (hi:ops[i]? =some o) (hop:dz P m o=some op.er) (hg:ie ops o.guard=some g)
 (jW:∀x,o.dst=some x→x<N) (hs:SR L N F γ C e ah ts w) (hk:eF P L (⟨o.dst,op,g⟩::zq) e ah K)
 (next:∀v e' aI γ' C' w',eF P L zq e' aI K→γ <+: γ'→SR L N F γ' C' e' aI ((⟨ts,[]⟩:Act).put o.dst v).tmps w'→Ext F C w C' w'→(G7 P m o=true→KA m γ C w w')→R ((⟨ts,[]⟩:Act).put o.dst v) w'):
 wpOp P ops Q i R ⟨ts,[]⟩ w:=by
 unfold wpOp
 simp only [hi]
 simp only [eF] at hk
 split at hk
 · rename_i uo
   rw [if_pos (iT hs hg uo)]
   refine .inl ?_
   by_cases e8:op.oW=true
   · cases op with
     |call f wu=>
      have hop:cop P o=some (.call f wu):=by
       cases m with
       |true=>simpa [dz,fN.er] using hop
       |false=>
        simp only [dz,Bool.false_eq_true,if_false,Option.map_eq_some_iff] at hop
        obtain ⟨op',h1,h2⟩:=hop
        rw [h1,Hl h2]
      simp only [Aw] at hk
      split at hk
      case h_2=>exact hk.elim
      rename_i f' caps hfv
      obtain ⟨hfl,hk⟩:=hk
      obtain ⟨x,args,tys,ho,hx,hargs⟩:=BO hop
      have h1:=bW (ds:=[]) hs hx
      rw [hfv] at h1
      obtain ⟨vs,T4,hcl,oX⟩:=h1.1.DY
      obtain ⟨c1,c2⟩:=Hp hs _ _ _ hargs
      have Er:=J9 (d:=o.dst) (ds:=[]) (vs:=args.map (Act.eval ⟨ts,[]⟩)++vs) hs jW hk (by simp [c1,hcl]) (Eo hs hfl hcl oX c1 c2)
      have MB:(execOp (Act.eval ⟨ts,[]⟩) o).run P w= .ok (.enter f' (args.map (Act.eval ⟨ts,[]⟩)++vs)) w:=by
       rw [ho];exact En hk.1 T4
      unfold Oper.wp
      rw [MB]
      simp only [Oper.upon]
      refine Er.mono ?_
      rintro en w1 ⟨r,v,b7,γ1,C1,rfl,hR,hγ,hs1,hx1⟩
      refine next v _ b7 γ1 C1 w1 hR hγ hs1 hx1 fun hst=>KA.HZ hs hs1 hx1 fun hm=> ?_
      rw [ho] at hst
      simp [G7,dY,ig,Ag,hm] at hst
     |mW k b x y=>
      simp only [Aw] at hk
      obtain ⟨e1,b7,hk',v,w1,γ1,C1,hr,hγ,hs1,hx1,hst, -⟩:=Hi (ds:=[]) hs jW hop hk
      have nx:=next v e1 b7 γ1 C1 w1 hk' hγ hs1 hx1 fun h=>KA.HZ hs hs1 hx1 fun hm=>by
       refine hst ?_
       obtain ⟨_,_,_,_,_,_,ho, -⟩:=El (BN hop)
       rw [ho] at h
       simp [G7,dY,ig,hm] at h
      unfold Oper.wp
      rcases hr with hr|⟨hr,rfl⟩<;>rw [hr]<;>exact nx
     |nq n x=>
      simp only [Aw] at hk
      obtain ⟨e1,b7,hk',v,w1,γ1,C1,hr,hγ,hs1,hx1,hst, -⟩:=HW (ds:=[]) hs jW hop hk
      have nx:=next v e1 b7 γ1 C1 w1 hk' hγ hs1 hx1 fun h=>KA.HZ hs hs1 hx1 fun hm=>by
       refine hst ?_
       obtain ⟨_,_,_,_,_,ho, -⟩:=Pj (J6 hop)
       rw [ho];rfl
      unfold Oper.wp
      rcases hr with hr|⟨hr,rfl⟩<;>rw [hr]<;>exact nx
     |_=>cases e8
   · have rO:op.oW=false:=by simpa using e8
     have hk':match bN L ⟨o.dst,op,g⟩ e ah with|some (e',aI)=>eF P L zq e' aI K|none=>False:=by
      cases op<;>first|exact hk|cases rO
     rw [wo] at hk'
     cases hev:bN L ⟨o.dst,op,none⟩ e ah with
     |none=>rw [hev] at hk';exact hk'.elim
     |some ea=>
      obtain ⟨e1,b7⟩:=ea
      rw [hev] at hk'
      obtain ⟨v,w1,γ1,C1,hr,hγ,hs1,hx1,hst, -⟩:=J8 (ds:=[]) hs jW hop rO hev
      have nx:=next v e1 b7 γ1 C1 w1 hk' hγ hs1 hx1 fun h=>KA.HZ hs hs1 hx1 fun hm=>by
       refine hst ?_
       cases HU:ig o.op with
       |false=>rfl
       |true=>
        exfalso
        cases ho:o.op with
        |call c=>
         rw [ho] at HU
         obtain ⟨ce,_,_⟩:=c
         cases ce with
         |builtin b=>cases b<;>simp [ig] at HU;simp [G7,dY,ig,ho,hm] at h
         |_=>simp [ig] at HU
        |store a b c=>simp [G7,dY,ig,ho,hm] at h
        |_=>rw [ho] at HU;simp [ig] at HU
      unfold Oper.wp
      rcases hr with hr|⟨hr,rfl⟩<;>rw [hr]<;>exact nx
 · rename_i uo
   have hw:=iT hs hg uo
   rw [if_neg (by rw [hw];simp)]
   refine next undef _ ah γ C w hk (List.prefix_refl _) ?_ (Ext.refl ..) fun _=>KA.refl ..
   cases ho:o.dst with
   |none=>exact hs
   |some d=>exact hs.CO (jW d ho) (.bM _ [] #[] rfl (by simp)) (by simp [undef,TC]) rfl (by simp)
 · exact hk.elim
theorem Qw {o:Oper} {op:fN} {g:Option (Nat×Bool)} {zq:List aQ} {K:Env→AH→Prop} (hq:dY P o.op=true) (hop:dz P m o=some op.er) (hg:ie ops o.guard=some g)
 (jW:∀x,o.dst=some x→x<N) (hs:SR L N F γ C e ah ts w) (hk:eF P L (⟨o.dst,op,g⟩::zq) e ah K):
 ∃v e' aI,YieldsIf P ops (KA m γ C w) o v ⟨ts,[]⟩∧eF P L zq e' aI K∧SR L N F γ C e' aI ((⟨ts,[]⟩:Act).put o.dst v).tmps w:=by
 simp only [eF] at hk
 split at hk
 · rename_i uo
   have hw:=iT hs hg uo
   by_cases hnq:∃n x,op= .nq n x
   · obtain ⟨n,x,rfl⟩:=hnq
     simp only [Aw] at hk
     obtain ⟨e1,b7,hk',v,w1,γ1,C1,hr,hγ,hs1,hx1,hst,hqq⟩:=HW (ds:=[]) hs jW hop hk
     obtain ⟨rfl,rfl,rfl,hrun⟩:=hqq hq
     exact ⟨v,e1,b7, .inl ⟨hw,hrun⟩,hk',hs1⟩
   have rO:op.oW=false:=by
    cases op with
    |call f wu=>
     exfalso
     have hop:cop P o=some (.call f wu):=by
      cases m with
      |true=>simpa [dz,fN.er] using hop
      |false=>
       simp only [dz,Bool.false_eq_true,if_false,Option.map_eq_some_iff] at hop
       obtain ⟨op',h1,h2⟩:=hop
       rw [h1,Hl h2]
     obtain ⟨x,args,tys,ho, -, -⟩:=BO hop
     rw [ho] at hq
     simp [dY] at hq
    |mW k b x y=>
     exfalso
     obtain ⟨_,_,_,_,_,_,ho, -⟩:=El (BN hop)
     rw [ho] at hq
     simp [dY] at hq
    |nq n x=>exact absurd ⟨_,_,rfl⟩ hnq
    |_=>rfl
   have hk':match bN L ⟨o.dst,op,g⟩ e ah with|some (e',aI)=>eF P L zq e' aI K|none=>False:=by
    cases op<;>first|exact hk|cases rO
   rw [wo] at hk'
   cases hev:bN L ⟨o.dst,op,none⟩ e ah with
   |none=>rw [hev] at hk';exact hk'.elim
   |some ea=>
    obtain ⟨e1,b7⟩:=ea
    rw [hev] at hk'
    obtain ⟨v,w1,γ1,C1,hr,hγ,hs1,hx1,hst,hqq⟩:=J8 (ds:=[]) hs jW hop rO hev
    obtain ⟨rfl,rfl,rfl,hrun⟩:=hqq hq
    exact ⟨v,e1,b7, .inl ⟨hw,hrun⟩,hk',hs1⟩
 · rename_i uo
   refine ⟨undef,_,ah, .inr ⟨iT hs hg uo,rfl⟩,hk, ?_⟩
   cases ho:o.dst with
   |none=>exact hs
   |some d=>exact hs.CO (jW d ho) (.bM _ [] #[] rfl (by simp)) (by simp [undef,TC]) rfl (by simp)
 · exact hk.elim
theorem ME:∀(l r:List (Bool×Nat)) (zq:List aQ),fT P ops (l++r)=some zq→∃a1 a2,fT P ops l=some a1∧fT P ops r=some a2∧zq=a1++a2:=by
 intro l
 induction l with
 |nil=>intro r zq h;exact ⟨[],zq,rfl,h,rfl⟩
 |cons p l ih=>
  intro r zq h
  obtain ⟨m,i⟩:=p
  simp only [List.cons_append,fT] at h
  split at h
  case h_2=>cases h
  rename_i o ho
  split at h
  case h_2=>cases h
  rename_i a g zq' h1 h2 h3
  injection h with h
  obtain ⟨a1,a2,g1,g2,rfl⟩:=ih r zq' h3
  exact ⟨⟨o.dst,a,g⟩::a1,a2,by simp [fT,ho,h1,h2,g1],g2,by rw [←h];rfl⟩
theorem Kf (l r:List (Bool×Nat)) (zq:List aQ) (h:fT P ops (l++r)=some (zq.map aQ.er)):∃a1 a2,fT P ops l=some (a1.map aQ.er)∧fT P ops r=some (a2.map aQ.er)∧zq=a1++a2:=by
 obtain ⟨b1,b2,h1,h2,h3⟩:=ME _ _ _ h
 obtain ⟨a1,a2,rfl,rfl,rfl⟩:=List.map_eq_append_iff.1 h3
 exact ⟨a1,a2,h1,h2,rfl⟩
theorem Qx:∀(l r:List aQ) (e:Env) (ah:AH) (K:Env→AH→Prop),eF P L (l++r) e ah K=eF P L l e ah fun e ah=>eF P L r e ah K:=by
 intro l
 induction l with
 |nil=>intros;rfl
 |cons o l ih=>
  intro r e ah K
  simp only [List.cons_append,eF,ih]
theorem T6:∀(l r:List aQ),lU N (l++r)=true→lU N l=true∧lU N r=true:=by
 intro l
 induction l with
 |nil=>intro r h;exact ⟨rfl,h⟩
 |cons o l ih=>
  intro r h
  simp only [List.cons_append,lU,Bool.and_eq_true] at h ⊢
  obtain ⟨h1,h2⟩:=ih r h.2
  exact ⟨⟨h.1,h1⟩,h2⟩
theorem Pp {o:Oper} {a:fN} {g:Option (Nat×Bool)} {zq:List aQ} (h:lU N (⟨o.dst,a,g⟩::zq)=true):(∀x,o.dst=some x→x<N)∧lU N zq=true:=by
 simp only [lU,Bool.and_eq_true] at h
 refine ⟨fun x hx=> ?_,h.2⟩
 have:=h.1.1
 rw [hx] at this
 simpa using this
theorem CT {i:Nat} {r:List (Bool×Nat)} {zq:List aQ} (h:fT P ops ((m,i)::r)=some zq):
 ∃o a g zq',ops[i]? =some o∧dz P m o=some a∧ie ops o.guard=some g∧fT P ops r=some zq'∧zq=⟨o.dst,a,g⟩::zq':=by
 simp only [fT] at h
 split at h
 case h_2=>cases h
 rename_i o ho
 split at h
 case h_2=>cases h
 rename_i a g zq' h1 h2 h3
 injection h with h
 exact ⟨o,a,g,zq',ho,h1,h2,h3,h.symm⟩
theorem Ax {i:Nat} {r:List (Bool×Nat)} {zq:List aQ} (h:fT P ops ((m,i)::r)=some (zq.map aQ.er)):
 ∃o a g zq',ops[i]? =some o∧dz P m o=some (fN.er a)∧ie ops o.guard=some g∧fT P ops r=some (zq'.map aQ.er)∧zq=⟨o.dst,a,g⟩::zq':=by
 obtain ⟨o,a,g,zq',h1,h2,h3,h4,h5⟩:=CT h
 cases zq with
 |nil=>simp at h5
 |cons x xs=>
  simp only [List.map_cons,List.cons.injEq] at h5
  obtain ⟨d,op',g'⟩:=x
  obtain ⟨h6,h7⟩:=h5
  simp only [aQ.er] at h6
  injection h6 with e1 e2 e3
  subst e1;subst e2;subst e3
  exact ⟨o,op',g',xs,h1,h2,h3,by rw [h4,h7],rfl⟩
theorem Qy {D:Nat→Bool} (hsel:Region.noSelect ops=true) (hQ:∀c a w,¬Q (.panic c) a w):∀(l:List Nat) (zq:List aQ) (e:Env) (ah:AH) (γ:List Nat) (C:Nat→List Value) (ts:Array Value) (w:World) (listed:Array Bool) (n:Nat)
 (K:Env→AH→Prop),fT P ops (l.map fun i=>(m,i))=some (zq.map aQ.er)→lU N zq=true→SR L N F γ C e ah ts w→eF P L zq e ah K→vV P ops m D l listed=true→
 (∀e' aI γ' C' ts' w',K e' aI→γ <+: γ'→SR L N F γ' C' e' aI ts' w'→Ext F C w C' w'→wpS P ops Q (KA m γ' C' w') D n (l.foldl (fun a i=>a.setIfInBounds i true) listed) ⟨ts',[]⟩ w')→
 wpS P ops Q (KA m γ C w) D (l.length+n) listed ⟨ts,[]⟩ w:=by
 intro l
 induction l with
 |nil=>
  intro zq e ah γ C ts w listed n K hc hd hs hk hst cont
  simp only [List.map_nil,fT,Option.some.injEq] at hc
  obtain rfl:zq=[]:=by simpa using hc.symm
  have:=cont e ah γ C ts w hk (List.prefix_refl _) hs (Ext.refl ..)
  simpa using this
 |cons i l ih=>
  intro zq e ah γ C ts w listed n K hc hd hs hk hst cont
  obtain ⟨o,a,g,zq',ho,hop,hg,has,rfl⟩:=Ax hc
  obtain ⟨jW,hd'⟩:=Pp hd
  simp only [vV,ho,Bool.and_eq_true,Bool.or_eq_true] at hst
  obtain ⟨hst,Es⟩:=hst
  have hlen:(i::l).length+n=(l.length+n)+1:=by simp;omega
  rw [hlen]
  rcases hst with ⟨⟨⟨⟨hq,hDi⟩,hr⟩,hfree⟩,wv⟩|⟨hok,hr⟩
  · obtain ⟨v,e1,b7,hy,BJ,hs1⟩:=Qw hq hop hg jW hs hk
    refine MC ho (Region.noSelect_spec hsel) hQ (fun j=>j∈JT ops i) _ listed _ w (Region.free_spec ho hfree) (fun j hj=> ?_) (fun j hj hDj hju=> ?_) (by simpa using hr) hy (KA.refl ..) ?_
    · simp only [HH,HG,Bool.and_eq_true,List.all_eq_true] at wv
      obtain ⟨h1,h2⟩:=wv.1 j hj
      refine ⟨by simpa using h1, ?_⟩
      split at h2
      · rename_i oj MD
        obtain ⟨x,hx,hb⟩:=Array.any_eq_true'.1 h2
        simp only [Bool.and_eq_true,Bool.or_eq_true,beq_iff_eq,List.contains_iff_mem] at hb
        exact ⟨oj,MD,x,hx,hb.1,hb.2⟩
      · cases h2
    · simp only [HH,HG,Bool.and_eq_true,List.all_eq_true,List.mem_range] at wv
      have:=wv.2 j hj
      simpa [hDj,hju] using this
    · rw [BQ _ _ _ rfl]
      exact ih zq' e1 b7 γ C _ w _ n K has hd' hs1 BJ Es cont
  · have hr:Region.ready .any ops listed=[i]:=by simpa using hr
    refine ⟨fun h=>(by rw [hr] at h;cases h),fun j hj=> ?_⟩
    rw [hr] at hj
    obtain rfl:j=i:=by simpa using hj
    refine Ke ho hop hg jW hs hk fun v e1 b7 γ1 C1 w1 BJ hγ hs1 hx1 hka=>⟨fun _=>hka hok, ?_⟩
    rw [BQ _ _ _ rfl]
    refine (ih zq' e1 b7 γ1 C1 _ w1 _ n K has hd' hs1 BJ Es fun e' aI γ' C' ts' w' g1 g2 g3 g4=> ?_).mono fun w2 h2=>(hka hok).trans (fun s b hs=>T5 hγ hs) hx1.pre h2
    exact cont e' aI γ' C' ts' w' g1 (hγ.trans g2) g3 (hx1.trans g4)
theorem F6:∀(l:List Nat) (listed:Array Bool) (j:Nat),(l.foldl (fun a i=>a.setIfInBounds i true) listed).getD j true=false→listed.getD j true=false∧j∉l:=by
 intro l
 induction l with
 |nil=>intro listed j h;exact ⟨h,by simp⟩
 |cons i l ih=>
  intro listed j h
  obtain ⟨h1,h2⟩:=ih _ j h
  refine ⟨iG h1, ?_⟩
  rw [List.mem_cons,not_or]
  refine ⟨fun hj=> ?_,h2⟩
  subst hj
  by_cases hlt:j<listed.size
  · simp [hlt] at h1
  · have:=iG h1
    simp [Array.getElem?_eq_none (Nat.le_of_not_lt hlt)] at this
theorem MF (hsel:Region.noSelect ops=true) (hQ:∀c a w,¬Q (.panic c) a w):∀(st:List (Bool×List Nat)) (zq:List aQ) (e:Env) (ah:AH) (γ:List Nat) (C:Nat→List Value) (ts:Array Value) (w:World) (listed:Array Bool)
 (K:Env→AH→Prop),fT P ops (sL st)=some (zq.map aQ.er)→lU N zq=true→SR L N F γ C e ah ts w→eF P L zq e ah K→pM P ops st listed=true→
 (∀e' aI γ' C' ts' w',K e' aI→γ <+: γ'→SR L N F γ' C' e' aI ts' w'→Ext F C w C' w'→Q .normal ⟨ts',[]⟩ w')→
 wpAny P .any ops Q (sL st).length listed ⟨ts,[]⟩ w:=by
 intro st
 induction st with
 |nil=>
  intro zq e ah γ C ts w listed K hc hd hs hk hst cont
  simp only [sL,fT,Option.some.injEq] at hc
  obtain rfl:zq=[]:=by simpa using hc.symm
  exact ⟨by simpa [pM] using hst,cont e ah γ C ts w hk (List.prefix_refl _) hs (Ext.refl ..)⟩
 |cons s st ih=>
  intro zq e ah γ C ts w listed K hc hd hs hk hst cont
  obtain ⟨m,l⟩:=s
  simp only [sL] at hc ⊢
  obtain ⟨a1,a2,hc1,hc2,rfl⟩:=Kf _ _ _ hc
  obtain ⟨hd1,Dd⟩:=T6 _ _ hd
  rw [Qx] at hk
  unfold pM at hst
  rw [Bool.and_eq_true] at hst
  obtain ⟨hst,Es⟩:=hst
  have key:∀(Q':Nat→Bool),vV P ops m Q' l listed=true→(∀j,Q' j= !l.contains j)→wpAny P .any ops Q (l.map (fun i=>(m,i))++sL st).length listed ⟨ts,[]⟩ w:=by
   intro D ac2 hD
   rw [List.length_append,List.length_map]
   refine (Qy hsel hQ l a1 e ah γ C ts w listed _ _ hc1 hd1 hs hk ac2 fun e' aI γ' C' ts' w' g1 g2 g3 g4=> ?_).any
   refine CS (fun j hj=> ?_) (ih a2 e' aI γ' C' ts' w' _ K hc2 Dd g3 g1 Es fun e2 rj γ2 C2 T0 w2 q1 q2 q3 q4=>cont e2 rj γ2 C2 T0 w2 q1 (g2.trans q2) q3 (g4.trans q4))
   rw [hD]
   simpa using (F6 l listed j hj).2
  split at hst
  · rename_i i
    simp only [Bool.and_eq_true,beq_iff_eq] at hst
    obtain ⟨rfl,hr⟩:=hst
    obtain ⟨o,a,g,zq',ho,hop,hg,has,rfl⟩:=Ax hc1
    simp only [List.map_nil,fT,Option.some.injEq] at has
    obtain rfl:zq'=[]:=by simpa using has.symm
    obtain ⟨jW, -⟩:=Pp hd1
    refine ⟨fun h=>(by rw [hr] at h;cases h),fun j hj=> ?_⟩
    rw [hr] at hj
    obtain rfl:j=i:=by simpa using hj
    refine Ke ho hop hg jW hs hk fun v e1 b7 γ1 C1 w1 BJ hγ hs1 hx1 hka=> ?_
    rw [BQ _ _ _ rfl]
    exact ih a2 e1 b7 γ1 C1 _ w1 _ K hc2 Dd hs1 BJ Es fun e2 rj γ2 C2 T0 w2 q1 q2 q3 q4=>cont e2 rj γ2 C2 T0 w2 q1 (hγ.trans q2) q3 (hx1.trans q4)
  · exact key _ hst fun _=>rfl
theorem Qz {st:List (Bool×List Nat)} (h:sched P ops=some st):pM P ops st (Array.replicate ops.size false)=true∧(sL st).length=ops.size:=by
 have:Ai P ops st=true:=by
  unfold sched at h
  split at h
  · rename_i s hs
    injection h with h;subst h
    exact (Option.filter_eq_some_iff.1 hs).2
  · exact (Option.filter_eq_some_iff.1 h).2
 simpa [Ai] using this
theorem AW.drawn {id:Nat} {st:List (Bool×List Nat)} {zq:List aQ} {Q:Exit→Env→AH→Prop} (hm:P.follows .mixedOrders=true) (hsel:Region.noSelect ops=true) (hst:sched P ops=some st) (hc:fT P ops (sL st)=some (zq.map aQ.er))
 (hd:lU N zq=true) (h:eF P L zq e ah fun e ah=>Q .normal (keep L e) ah):AW P L N n0 (.region id ops true) Q e ah:=by
 intro F γ C ts w hs hn
 obtain ⟨h1,h2⟩:=Qz hst
 refine wp_mono (Q:=fun x a' w'=>x= .normal∧a'.defers=[]∧NG x∧∃e' aI γ' C',Q x e' aI∧γ.take n0 <+: γ'∧SR L N F γ' C' e' aI a'.tmps w'∧Ext F C w C' w') ?_ (fun _ _ _ h=>h.2)
 refine wp_region_any hm ?_
 have hw0:∀b,b<w.heap.size→({w with drawn:=w.drawn+1}:World).heap[b]? =w.heap[b]? :=fun _ _=>rfl
 obtain ⟨hs1,hx1⟩:=hs.grow (w':= {w with drawn:=w.drawn+1}) (C':=C) hw0 (Nat.le_refl _) (fun _ _=>rfl) (fun b hb hne=>absurd (wh hs hb) hne)
 have lH:=fun q=>MF (Q:=fun x a' w'=>x= .normal∧a'.defers=[]∧NG x∧∃e' aI γ' C',Q x e' aI∧γ.take n0 <+: γ'∧SR L N F γ' C' e' aI a'.tmps w'∧Ext F C w C' w') hsel (fun c a w hq=>by cases hq.1) st zq e ah γ C ts _ _ _ hc hd hs1 h h1 q
 rw [h2] at lH
 refine lH fun e' aI γ' C' ts' w' q1 q2 q3 q4=> ?_
 exact ⟨rfl,rfl,trivial,keep L e',aI,γ',C',q1,Ho q2,q3.keep L,hx1.trans q4⟩
end
end Go.Am
end
section
namespace Go.Am
open Go
variable [Tabs]
def rq (N:Nat):aD→Bool
 | .rg ops=>lU N ops
 | .seq a b| .cond _ a b=>rq N a&&rq N b
 | .blk _ c| .loop c=>rq N c
 |_=>true
def AX (P:Program) (L:List Nat) (N n0:Nat) (c:aD) (Q:Exit→Env→AH→Prop) (e:Env) (ah:AH):Prop:=
 ∀c',bQ P c'=some c→AW P L N n0 c' Q e ah
def kf (P:Program) (L:List Nat) (N n0:Nat):aD→(Exit→Env→AH→Prop)→Env→AH→Prop
 | .skip,Q,e,ah=>Q .normal e ah
 | .ret,Q,e,ah=>Q .ret e ah
 | .exit i,Q,e,ah=>Q (.exit i) e ah
 | .rg ops,Q,e,ah=>eF P L ops e ah fun e ah=>Q .normal (keep L e) ah
 | .seq a b,Q,e,ah=>kf P L N n0 a (fun x e ah=>match x with| .normal=>kf P L N n0 b Q e ah|x=>Q x e ah) e ah
 | .cond c a b,Q,e,ah=>match ev e c with
   | .bool t=>if t then kf P L N n0 a Q e ah else kf P L N n0 b Q e ah
   |_=>False
 | .blk i c,Q,e,ah=>kf P L N n0 c (fun x e ah=>match x with| .exit j=>if j=i then Q .normal e ah else Q (.exit j) e ah|x=>Q x e ah) e ah
 | .loop c,Q,e,ah=>AX P L N n0 (.loop c) Q e ah
 | .sem c,Q,e,ah=>AX P L N n0 c Q e ah
section
variable {P:Program} {L:List Nat} {N n0:Nat} {e:Env} {ah:AH}
theorem AW.region {id:Nat} {ops:Array Oper} {zq:List aQ} {Q:Exit→Env→AH→Prop} (hc:kz P ops ops.toList=some (zq.map aQ.er)) (hd:lU N zq=true)
 (h:eF P L zq e ah fun e ah=>Q .normal (keep L e) ah):AW P L N n0 (.region id ops false) Q e ah:=by
 intro F γ C ts w hs hn
 refine wp_region_list (Yb ops.toList zq e ah _ F γ C ts w _ hc hd hs h ?_)
 intro e' aI γ' C' ts' w' hq hγ hs' hx
 exact ⟨rfl,trivial,keep L e',aI,γ',C',hq,Ho hγ,hs'.keep L,hx⟩
theorem pO:∀(c':Code) (c:aD) (Q:Exit→Env→AH→Prop) (e:Env) (ah:AH),bQ P c'=some (erase c)→rq N (erase c)=true→kf P L N n0 c Q e ah→AW P L N n0 c' Q e ah:=by
 intro c'
 induction c' with
 |skip=>
  intro c Q e ah hc ho h
  cases c with
  |sem c0=>exact h _ hc
  |skip=>exact AW.skip h
  |_=>simp [bQ,erase] at hc
 |label l=>
  intro c Q e ah hc ho h
  cases c with
  |sem c0=>exact h _ hc
  |skip=>exact AW.label h
  |_=>simp [bQ,erase] at hc
 |ret=>
  intro c Q e ah hc ho h
  cases c with
  |sem c0=>exact h _ hc
  |ret=>exact AW.ret h
  |_=>simp [bQ,erase] at hc
 |exit i=>
  intro c Q e ah hc ho h
  cases c with
  |sem c0=>exact h _ hc
  |exit j=>simp [bQ,erase] at hc;subst hc;exact AW.exit h
  |_=>simp [bQ,erase] at hc
 |region id ops draw=>
  intro c Q e ah hc ho h
  cases c with
  |sem c0=>exact h _ hc
  |rg zq=>
   simp only [bQ,erase] at hc
   cases draw with
   |true=>
    simp only [if_true] at hc
    split at hc
    case isFalse=>cases hc
    rename_i hmn
    simp only [Bool.and_eq_true] at hmn
    split at hc
    case h_2=>cases hc
    rename_i st hst
    simp only [Option.map_eq_some_iff] at hc
    obtain ⟨zq',has,he⟩:=hc
    injection he with he
    subst he
    exact AW.drawn hmn.1 hmn.2 hst has (by simpa only [erase,rq,Pm] using ho) h
   |false=>
    simp only [Bool.false_eq_true,if_false,Option.map_eq_some_iff] at hc
    obtain ⟨zq',has,he⟩:=hc
    injection he with he
    subst he
    exact AW.region has (by simpa only [erase,rq,Pm] using ho) h
  |_=>simp only [bQ,erase] at hc;repeat' (split at hc)<;>simp at hc
 |seq a b Et Eu=>
  intro c Q e ah hc ho h
  cases c with
  |sem c0=>exact h _ hc
  |seq x y=>
   simp only [bQ,erase] at hc
   split at hc
   case h_2=>cases hc
   rename_i a' b' ha hb
   injection hc with hc
   injection hc with h1 h2
   subst h1;subst h2
   simp only [erase,rq,Bool.and_eq_true] at ho
   refine AW.seq ((Et x _ e ah ha ho.1 h).mono fun x e ah hx=> ?_)
   cases x with
   |normal=>exact Eu y _ e ah hb ho.2 hx
   |_=>exact hx
  |_=>simp only [bQ,erase] at hc;split at hc<;>simp at hc
 |cond c0 a b Et Eu=>
  intro c Q e ah hc ho h
  cases c with
  |sem c0=>exact h _ hc
  |cond c2 x y=>
   simp only [bQ,erase] at hc
   split at hc
   case h_2=>cases hc
   rename_i c1 a' b' h1 ha hb
   injection hc with hc
   injection hc with g0 g1 g2
   subst g0;subst g1;subst g2
   simp only [erase,rq,Bool.and_eq_true] at ho
   simp only [kf] at h
   split at h
   case h_2=>exact h.elim
   rename_i t ht
   refine AW.cond h1 ht ?_
   cases t with
   |true=>exact Et x Q e ah ha ho.1 h
   |false=>exact Eu y Q e ah hb ho.2 h
  |_=>simp only [bQ,erase] at hc;split at hc<;>simp at hc
 |block i c0 ih=>
  intro c Q e ah hc ho h
  cases c with
  |sem c0=>exact h _ hc
  |blk j x=>
   simp only [bQ,erase,Option.map_eq_some_iff] at hc
   obtain ⟨a,ha,he⟩:=hc
   injection he with h1 h2
   subst h1;subst h2
   exact AW.blk (ih x _ e ah ha ho h)
  |_=>simp [bQ,erase] at hc
 |loop c0 ih=>
  intro c Q e ah hc ho h
  cases c with
  |sem c0=>exact h _ hc
  |loop x=>exact h _ hc
  |_=>simp [bQ,erase] at hc
 |rangeFunc=>intro c Q e ah hc;simp [bQ] at hc
 |goto=>intro c Q e ah hc;simp [bQ] at hc
 |scope c0 ih=>intro c Q e ah hc ho h;exact AW.scope (ih c Q e ah hc ho h)
 |refuse=>intro c Q e ah hc;simp [bQ] at hc
theorem BR {o:Oper} {x:Ar} (h:cop P o=some (.uU x)):False:=by
 obtain ⟨d,oo,ty,pos,af,gd⟩:=o
 cases oo with
 |makeFunc fn first cs=>
  cases fn with
  |func f=>simp only [cop] at h;split at h<;>simp at h
  |_=>simp [cop] at h
 |call c=>
  obtain ⟨callee,args,tys⟩:=c
  simp only [cop] at h
  (repeat' (split at h))<;>(first|(cases h;done)|(simp at h;done))
 |_=>
  simp only [cop] at h
  first
   |cases h;done
   |(simp at h;done)
   |(repeat' (split at h))<;>(first|(cases h;done)|(simp at h;done))
theorem yS {o:Oper} {k b:Nat} {x y:Ar} (h:cop P o=some (.mW k b x y)):False:=by
 obtain ⟨d,oo,ty,pos,af,gd⟩:=o
 cases oo with
 |makeFunc fn first cs=>
  cases fn with
  |func f=>simp only [cop] at h;split at h<;>simp at h
  |_=>simp [cop] at h
 |call c=>
  obtain ⟨callee,args,tys⟩:=c
  simp only [cop] at h
  (repeat' (split at h))<;>(first|(cases h;done)|(simp at h;done))
 |_=>
  simp only [cop] at h
  first
   |cases h;done
   |(simp at h;done)
   |(repeat' (split at h))<;>(first|(cases h;done)|(simp at h;done))
theorem BS {o:Oper} {k:Nat} {x:Ar} (h:cop P o=some (.BH k x)):False:=by
 obtain ⟨d,oo,ty,pos,af,gd⟩:=o
 cases oo with
 |makeFunc fn first cs=>
  cases fn with
  |func f=>simp only [cop] at h;split at h<;>simp at h
  |_=>simp [cop] at h
 |call c=>
  obtain ⟨callee,args,tys⟩:=c
  simp only [cop] at h
  (repeat' (split at h))<;>(first|(cases h;done)|(simp at h;done))
 |_=>
  simp only [cop] at h
  first
   |cases h;done
   |(simp at h;done)
   |(repeat' (split at h))<;>(first|(cases h;done)|(simp at h;done))
theorem yT {o:Oper} {k:Nat} {x:List Ar} (h:cop P o=some (.pQ k x)):False:=by
 obtain ⟨d,oo,ty,pos,af,gd⟩:=o
 cases oo with
 |makeFunc fn first cs=>
  cases fn with
  |func f=>simp only [cop] at h;split at h<;>simp at h
  |_=>simp [cop] at h
 |call c=>
  obtain ⟨callee,args,tys⟩:=c
  simp only [cop] at h
  (repeat' (split at h))<;>(first|(cases h;done)|(simp at h;done))
 |_=>
  simp only [cop] at h
  first
   |cases h;done
   |(simp at h;done)
   |(repeat' (split at h))<;>(first|(cases h;done)|(simp at h;done))
theorem Yc {o:Oper} {op:fN} (h:cop P o=some op):op.er=op:=by
 cases op with
 |uU x=>exact (BR h).elim
 |mW=>exact (yS h).elim
 |BH=>exact (BS h).elim
 |pQ=>exact (yT h).elim
 |_=>rfl
theorem T7 {m:Bool} {o:Oper} {op:fN} (h:dz P m o=some op):op.er=op:=by
 cases op with
 |uU x=>
  exfalso
  cases m with
  |true=>exact BR (by simpa [dz] using h)
  |false=>
   simp only [dz,Bool.false_eq_true,if_false,Option.map_eq_some_iff] at h
   obtain ⟨op',h1,h2⟩:=h
   cases op' with
   |dX hh y=>cases hh<;>cases h2
   |ld y n=>cases h2
   |uU y=>exact BR h1
   |_=>cases h2
 |mW=>
  exfalso
  cases m with
  |true=>exact yS (by simpa [dz] using h)
  |false=>
   simp only [dz,Bool.false_eq_true,if_false,Option.map_eq_some_iff] at h
   obtain ⟨op',h1,h2⟩:=h
   cases op' with
   |dX hh y=>cases hh<;>cases h2
   |ld y n=>cases h2
   |mW=>exact yS h1
   |_=>cases h2
 |BH=>
  exfalso
  cases m with
  |true=>exact BS (by simpa [dz] using h)
  |false=>
   simp only [dz,Bool.false_eq_true,if_false,Option.map_eq_some_iff] at h
   obtain ⟨op',h1,h2⟩:=h
   cases op' with
   |dX hh y=>cases hh<;>cases h2
   |ld y n=>cases h2
   |BH=>exact BS h1
   |_=>cases h2
 |pQ=>
  exfalso
  cases m with
  |true=>exact yT (by simpa [dz] using h)
  |false=>
   simp only [dz,Bool.false_eq_true,if_false,Option.map_eq_some_iff] at h
   obtain ⟨op',h1,h2⟩:=h
   cases op' with
   |dX hh y=>cases hh<;>cases h2
   |ld y n=>cases h2
   |pQ=>exact yT h1
   |_=>cases h2
 |_=>rfl
theorem T8 {ops:Array Oper}:∀(n:Nat) (l:List Oper) (zq:List aQ),l.length≤n→kz P ops l=some zq→zq.map aQ.er=zq:=by
 intro n
 induction n with
 |zero=>
  intro l zq hn h
  obtain rfl:l=[]:=List.eq_nil_of_length_eq_zero (by omega)
  simp only [kz,Option.some.injEq] at h;subst h;rfl
 |succ n ih=>
  intro l zq hn h
  rcases CQ h with ⟨rfl,rfl⟩|⟨o,o2,r,a,zq',rfl,h2,h3,rfl⟩|⟨o,o2,r,ag,zq',rfl,h2,h3,rfl⟩|⟨o,r,op,g,zq',rfl,h2,h3,h4,rfl⟩
  · rfl
  · obtain ⟨y,bs,hl⟩:=Ep h2
    obtain ⟨d,op,g⟩:=a
    simp only at hl;subst hl
    simp only [List.map_cons,ih r zq' (by simp at hn;omega) h3];rfl
  · obtain ⟨d,y,bs,t,w,g,rfl, -⟩:=BP h2
    simp only [List.cons_append,List.nil_append,List.map_cons,ih r zq' (by simp at hn;omega) h3];rfl
  · have he:op.er=op:=by
     rcases h2 with h2|rfl
     · exact Yc h2
     · rfl
    simp only [List.map_cons,ih r zq' (by simp at hn;omega) h4,aQ.er,he]
theorem QA {ops:Array Oper}:∀(l:List (Bool×Nat)) (zq:List aQ),fT P ops l=some zq→zq.map aQ.er=zq:=by
 intro l
 induction l with
 |nil=>intro zq h;simp only [fT,Option.some.injEq] at h;subst h;rfl
 |cons p r ih=>
  intro zq h
  obtain ⟨m,i⟩:=p
  obtain ⟨o,a,g,zq',h1,h2,h3,h4,rfl⟩:=CT h
  simp only [List.map_cons,ih zq' h4,aQ.er,T7 h2]
theorem jI:∀(c':Code) (c:aD),bQ P c'=some c→erase c=c:=by
 intro c'
 induction c' with
 |skip=>intro c hc;simp [bQ] at hc;subst hc;rfl
 |label l=>intro c hc;simp [bQ] at hc;subst hc;rfl
 |ret=>intro c hc;simp [bQ] at hc;subst hc;rfl
 |exit i=>intro c hc;simp [bQ] at hc;subst hc;rfl
 |region id ops draw=>
  intro c hc
  simp only [bQ] at hc
  cases draw with
  |true=>
   simp only [if_true] at hc
   split at hc
   · split at hc
     · simp only [Option.map_eq_some_iff] at hc;obtain ⟨zq,has,rfl⟩:=hc;simp only [erase,QA _ _ has]
     · cases hc
   · cases hc
  |false=>simp only [Bool.false_eq_true,if_false,Option.map_eq_some_iff] at hc;obtain ⟨zq,has,rfl⟩:=hc;simp only [erase,T8 _ _ _ (Nat.le_refl _) has]
 |seq a b Et Eu=>
  intro c hc
  simp only [bQ] at hc
  split at hc
  case h_2=>cases hc
  rename_i a' b' ha hb
  injection hc with hc
  subst hc
  simp only [erase,Et _ ha,Eu _ hb]
 |cond c0 a b Et Eu=>
  intro c hc
  simp only [bQ] at hc
  split at hc
  case h_2=>cases hc
  rename_i c1 a' b' h1 ha hb
  injection hc with hc
  subst hc
  simp only [erase,Et _ ha,Eu _ hb]
 |block i c0 ih=>intro c hc;simp only [bQ,Option.map_eq_some_iff] at hc;obtain ⟨a,ha,rfl⟩:=hc;simp only [erase,ih _ ha]
 |loop c0 ih=>intro c hc;simp only [bQ,Option.map_eq_some_iff] at hc;obtain ⟨a,ha,rfl⟩:=hc;rfl
 |rangeFunc=>intro c hc;simp [bQ] at hc
 |goto=>intro c hc;simp [bQ] at hc
 |scope c0 ih=>intro c hc;exact ih c hc
 |refuse=>intro c hc;simp [bQ] at hc
inductive It where
 |ops (r:List aQ)
 |keep
 |code (c:aD)
 |blk (i:Nat)
def U (P:Program) (L:List Nat) (N n0:Nat):List It→(Exit→Env→AH→Prop)→Exit→Env→AH→Prop
 |[],Q,x,e,ah=>Q x e ah
 | .code c::t,Q, .normal,e,ah=>kf P L N n0 c (fun x e ah=>U P L N n0 t Q x e ah) e ah
 | .ops r::t,Q, .normal,e,ah=>eF P L r e ah fun e ah=>U P L N n0 t Q .normal e ah
 | .keep::t,Q, .normal,e,ah=>U P L N n0 t Q .normal (keep L e) ah
 | .blk i::t,Q, .exit j,e,ah=>if j=i then U P L N n0 t Q .normal e ah else U P L N n0 t Q (.exit j) e ah
 | .blk _::t,Q,x,e,ah=>U P L N n0 t Q x e ah
 | .code _::t,Q,x,e,ah=>U P L N n0 t Q x e ah
 | .ops _::t,Q,x,e,ah=>U P L N n0 t Q x e ah
 | .keep::t,Q,x,e,ah=>U P L N n0 t Q x e ah
def UK (P:Program) (L:List Nat) (N n0 f:Nat) (zq:List AV) (d:Option Nat) (r:List aQ) (t:List It) (Q:Exit→Env→AH→Prop) (e:Env) (ah:AH):Prop:=
 aG P f zq ah fun v aI=>U P L N n0 (.ops r::t) Q .normal (aK L (wq e) d v.df) aI
def UF (P:Program) (L:List Nat) (N n0:Nat) (zq:List Ar) (d:Option Nat) (r:List aQ) (t:List It) (Q:Exit→Env→AH→Prop) (e:Env) (ah:AH):AV→Prop
 | .fn f caps=>if b5 caps then UK P L N n0 f (zq.map (fun x=>(ev e x).sh)++caps.map AV.s1) d r t Q e ah else False
 |_=>False
def US (P:Program) (L:List Nat) (N n0:Nat) (r:List aQ) (t:List It) (Q:Exit→Env→AH→Prop):Option (Env×AH)→Prop
 |some (e,ah)=>U P L N n0 (.ops r::t) Q .normal e ah
 |none=>False
def UG (P:Program) (L:List Nat) (N n0:Nat) (o:aQ) (r:List aQ) (t:List It) (Q:Exit→Env→AH→Prop) (e:Env) (ah:AH):Option Bool→Prop
 |some true=>match o.op with
  | .call f zq=>UF P L N n0 zq o.d r t Q e ah (ev e f)
  | .mW k b x y=>pR L o.d k b x y e ah fun e ah=>U P L N n0 (.ops r::t) Q .normal e ah
  | .nq n x=>D8 L o.d n x e ah fun e ah=>U P L N n0 (.ops r::t) Q .normal e ah
  |_=>US P L N n0 r t Q (bN L o e ah)
 |some false=>U P L N n0 (.ops r::t) Q .normal (pY e o.d) ah
 |none=>False
def UC (P:Program) (L:List Nat) (N n0:Nat) (a b:aD) (t:List It) (Q:Exit→Env→AH→Prop) (e:Env) (ah:AH):AV→Prop
 | .bool true=>U P L N n0 (.code a::t) Q .normal e ah
 | .bool false=>U P L N n0 (.code b::t) Q .normal e ah
 |_=>False
def UX (P:Program) (L:List Nat) (N n0:Nat) (c:aD) (t:List It) (Q:Exit→Env→AH→Prop) (e:Env) (ah:AH):Prop:=
 AX P L N n0 c (fun x e ah=>U P L N n0 t Q x e ah) e ah
variable {t:List It} {Q:Exit→Env→AH→Prop} {x:Exit}
@[simp] theorem aaw:U P L N n0 [] Q x e ah=Q x e ah:=rfl
@[simp] theorem Yd:U P L N n0 (.code .skip::t) Q .normal e ah=U P L N n0 t Q .normal e ah:=rfl
@[simp] theorem aax:U P L N n0 (.code .ret::t) Q .normal e ah=U P L N n0 t Q .ret e ah:=rfl
@[simp] theorem Ye {i:Nat}:U P L N n0 (.code (.exit i)::t) Q .normal e ah=U P L N n0 t Q (.exit i) e ah:=rfl
theorem T9 (b:aD):(fun x e ah=>match x with| .normal=>kf P L N n0 b (fun x e ah=>U P L N n0 t Q x e ah) e ah|x=>U P L N n0 t Q x e ah)=fun x e ah=>U P L N n0 (.code b::t) Q x e ah:=by
 funext x e ah
 cases x<;>rfl
@[simp] theorem aay {a b:aD}:U P L N n0 (.code (.seq a b)::t) Q .normal e ah=U P L N n0 (.code a:: .code b::t) Q .normal e ah:=by
  simp only [U,kf]
  exact congrArg (fun K=>kf P L N n0 a K e ah) (T9 b)
@[simp] theorem aaz {i:Nat} {c:aD}:U P L N n0 (.code (.blk i c)::t) Q .normal e ah=U P L N n0 (.code c:: .blk i::t) Q .normal e ah:=by
  have:(fun x e ah=>match x with| .exit j=>if j=i then U P L N n0 t Q .normal e ah else U P L N n0 t Q (.exit j) e ah|x=>U P L N n0 t Q x e ah)=fun x e ah=>U P L N n0 (.blk i::t) Q x e ah:=by
   funext x e ah
   cases x<;>rfl
  exact congrArg (fun K=>kf P L N n0 c K e ah) this
@[simp] theorem ac3 {ops:List aQ}:U P L N n0 (.code (.rg ops)::t) Q .normal e ah=U P L N n0 (.ops ops:: .keep::t) Q .normal e ah:=rfl
@[simp] theorem Yf {c:aD}:U P L N n0 (.code (.loop c)::t) Q .normal e ah=UX P L N n0 (.loop c) t Q e ah:=rfl
@[simp] theorem aaA {c:aD}:U P L N n0 (.code (.sem c)::t) Q .normal e ah=UX P L N n0 c t Q e ah:=rfl
@[simp] theorem Yg {c:Ar} {a b:aD}:U P L N n0 (.code (.cond c a b)::t) Q .normal e ah=UC P L N n0 a b t Q e ah (ev e c):=by
  simp only [U,kf]
  cases ev e c with
  |bool t=>cases t<;>rfl
  |_=>rfl
@[simp] theorem Yh:U P L N n0 (.keep::t) Q .normal e ah=U P L N n0 t Q .normal (keep L e) ah:=rfl
@[simp] theorem Ua {i:Nat}:U P L N n0 (.blk i::t) Q .normal e ah=U P L N n0 t Q .normal e ah:=rfl
@[simp] theorem Ub {i:Nat}:U P L N n0 (.blk i::t) Q .ret e ah=U P L N n0 t Q .ret e ah:=rfl
@[simp] theorem Uc {i j:Nat}:U P L N n0 (.blk i::t) Q (.exit j) e ah=if j=i then U P L N n0 t Q .normal e ah else U P L N n0 t Q (.exit j) e ah:=rfl
@[simp] theorem QB {c:aD}:U P L N n0 (.code c::t) Q .ret e ah=U P L N n0 t Q .ret e ah:=by cases c<;>rfl
@[simp] theorem QC {c:aD} {j:Nat}:U P L N n0 (.code c::t) Q (.exit j) e ah=U P L N n0 t Q (.exit j) e ah:=by cases c<;>rfl
@[simp] theorem MG:U P L N n0 (.ops []::t) Q .normal e ah=U P L N n0 t Q .normal e ah:=rfl
@[simp] theorem aaB {o:aQ} {r:List aQ}:U P L N n0 (.ops (o::r)::t) Q .normal e ah=UG P L N n0 o r t Q e ah (gO e o):=by
  simp only [U,eF]
  cases gO e o with
  |none=>rfl
  |some b=>
   cases b with
   |false=>rfl
   |true=>
    obtain ⟨d,op,g⟩:=o
    cases op with
    |call f zq=>
     simp only [Aw,UG]
     cases ev e f with
     |fn f' caps=>
      simp only [UF,UK]
      by_cases hf:b5 caps=true
      · simp only [hf,if_true,true_and];rfl
      · simp [hf]
     |_=>rfl
    |mW k b x y=>rfl
    |nq n x=>rfl
    |_=>
     simp only [Aw,UG,US]
     cases bN L ⟨d,_,g⟩ e ah with
     |none=>rfl
     |some ea=>obtain ⟨e',aI⟩:=ea;rfl
@[simp] theorem Ud {r:List aQ} {e':Env} {aI:AH}:US P L N n0 r t Q (some (e',aI))=U P L N n0 (.ops r::t) Q .normal e' aI:=rfl
@[simp] theorem QD {o:aQ} {r:List aQ}:UG P L N n0 o r t Q e ah (some false)=U P L N n0 (.ops r::t) Q .normal (pY e o.d) ah:=rfl
@[simp] theorem Ue {a b:aD}:UC P L N n0 a b t Q e ah (.bool true)=U P L N n0 (.code a::t) Q .normal e ah:=rfl
@[simp] theorem QE {a b:aD}:UC P L N n0 a b t Q e ah (.bool false)=U P L N n0 (.code b::t) Q .normal e ah:=rfl
@[simp] theorem aaC {zq:List Ar} {d:Option Nat} {r:List aQ} {f:Nat} {caps:List AV}:UF P L N n0 zq d r t Q e ah (.fn f caps)=
 if b5 caps then UK P L N n0 f (zq.map (fun x=>(ev e x).sh)++caps.map AV.s1) d r t Q e ah else False:=rfl
theorem acG {a b:aD} {v:Bool} (h1:v=true→U P L N n0 (.code a::t) Q .normal e ah) (h2:v=false→U P L N n0 (.code b::t) Q .normal e ah):UC P L N n0 a b t Q e ah (.bool v):=by
 cases v
 · exact h2 rfl
 · exact h1 rfl
theorem aeU {f:Nat} {zq:List AV} {d:Option Nat} {r:List aQ} {R:AV→AH→Prop} (h:aG P f zq ah R) (hk:∀v aI,R v aI→U P L N n0 (.ops r::t) Q .normal (aK L (wq e) d v.df) aI):
 UK P L N n0 f zq d r t Q e ah:=h.mono hk
theorem ac4 {c:aD} (I:Nat→Env→AH→Prop) {k0:Nat} (ho:rq N c=true)
 (round:∀k e ah,I k e ah→U P L N n0 [.code c] (fun x e' aI=>match x with| .normal=>∃k',k'<k∧I k' e' aI|x=>U P L N n0 t Q x e' aI) .normal e ah) (h0:I k0 e ah):
 UX P L N n0 (.loop c) t Q e ah:=by
 intro c'
 induction c' with
 |loop c0 _=>
  intro cj
  simp only [bQ,Option.map_eq_some_iff] at cj
  obtain ⟨a,ha,he⟩:=cj
  injection he with he
  subst he
  exact AW.loop I (fun k e ah hI=>pO c0 a _ e ah (by rw [jI c0 a ha];exact ha) (by rw [jI c0 a ha];exact ho) (round k e ah hI)) h0
 |scope c0 ih=>exact fun cj=>AW.scope (ih cj)
 |region id ops draw=>intro cj;simp only [bQ] at cj;repeat' (split at cj)<;>simp at cj
 |block i c0=>intro cj;simp only [bQ,Option.map_eq_some_iff] at cj;obtain ⟨a, -,h⟩:=cj;cases h
 |seq a b=>intro cj;simp only [bQ] at cj;split at cj<;>simp at cj
 |cond a b c=>intro cj;simp only [bQ] at cj;split at cj<;>simp at cj
 |_=>intro cj;simp [bQ] at cj
end
end Go.Am
end
section
namespace Go.Am
open Go
variable [Tabs]
def AV.eU:AV→Bool
 | .bM _=>true
 |_=>false
def gR (P:Program) (e:Env) (ah:AH):List ResultVar→Option (List AV)
 |[]=>some []
 | .tmp t::r=>if (get e t).eU then none else match gR P e ah r with
   |some vs=>some (get e t::vs)
   |none=>none
 | .cell a ty::r=>if tok P ty then
  match get e a with
  | .ptr s o=>match ah[s]? with
    |some cs=>match l5 (tn P ty) s o cs,gR P e ah r with
     |some v,some vs=>some (v.sh::vs)
     |_,_=>none
    |none=>none
  |_=>none
   else none
def fin:List AV→AV
 |[a]=>a.df
 |l=> .bM (l.map AV.sh)
inductive Cl (n:Nat):AV→Prop
 |ptr (s o):s<n→Cl n (.ptr s o)
 |fn (f cs):(∀a∈cs,Cl n a)→Cl n (.fn f cs)
 |agg (cs):(∀a∈cs,Cl n a)→Cl n (.agg cs)
 |bM (cs):(∀a∈cs,Cl n a)→Cl n (.bM cs)
 |v (x):Cl n (.v x)
 |int (k i):Cl n (.int k i)
 |bool (b):Cl n (.bool b)
 |str (l):Cl n (.str l)
 |sl (t k xs):Cl n (.sl t k xs)
 |ep (e o):(∀a∈e.cells,Cl n a)→Cl n (.ep e o)
 |cJ (s k o m):s<n→Cl n (.cJ s k o m)
 |rM (s k):Cl n (.cz s k 0 0)
 |cz (s k m c):s<n→Cl n (.cz s k m c)
 |dW:Cl n .dW
 |un:Cl n .un
@[simp] theorem Yi {n s k o m:Nat}:Cl n (.cJ s k o m)↔s<n:=⟨fun h=>by cases h;assumption, .cJ _ _ _ _⟩
@[simp] theorem aeC {n:Nat}:Cl n .dW:= .dW
@[simp] theorem Yj {n s o:Nat}:Cl n (.ptr s o)↔s<n:=⟨fun h=>by cases h;assumption, .ptr _ _⟩
@[simp] theorem aaD {n f:Nat} {cs:List AV}:Cl n (.fn f cs)↔∀a∈cs,Cl n a:=⟨fun h=>by cases h;assumption, .fn _ _⟩
@[simp] theorem Yk {n:Nat} {cs:List AV}:Cl n (.agg cs)↔∀a∈cs,Cl n a:=⟨fun h=>by cases h;assumption, .agg _⟩
@[simp] theorem Yl {n:Nat} {cs:List AV}:Cl n (.bM cs)↔∀a∈cs,Cl n a:=⟨fun h=>by cases h;assumption, .bM _⟩
@[simp] theorem afh {n:Nat} {x:Value}:Cl n (.v x):= .v _
@[simp] theorem aeD {n:Nat} {k:IntKind} {i:Int}:Cl n (.int k i):= .int ..
@[simp] theorem ac5 {n:Nat} {b:Bool}:Cl n (.bool b):= .bool _
@[simp] theorem aeE {n:Nat} {l:List UInt8}:Cl n (.str l):= .str _
@[simp] theorem aeV {n:Nat} {t:Tg} {k:Nat} {xs:List AV}:Cl n (.sl t k xs):= .sl ..
@[simp] theorem aaE {n:Nat} {e:AV} {o:Nat}:Cl n (.ep e o)↔∀a∈e.cells,Cl n a:=⟨fun h=>by cases h;assumption, .ep _ _⟩
@[simp] theorem afi {n:Nat}:Cl n .un:= .un
def mS (n:Nat) (ah:AH):Prop:=∀(s:Nat) (cs:List AV),ah[s]? =some cs→∀a∈cs,Cl n a
def MH (P:Program) (n:Nat) (rs:List ResultVar) (R:AV→AH→Prop) (x:Exit) (e:Env) (ah:AH):Prop:=
 (x= .normal∨x= .ret)∧match gR P e ah rs with
  |some vs=>Cl n (fin vs)∧mS n (ah.take n)∧n≤ah.length∧R (fin vs) (ah.take n)
  |none=>False
section
variable {P:Program} {L:List Nat} {N n0:Nat} {F:Nat→Prop} {γ:List Nat} {C C':Nat→List Value} {e:Env} {ah:AH} {ts:Array Value} {w w':World}
theorem VR.take {a:AV} {v:Value} {n:Nat} (h:VR C γ a v):Cl n a→VR C (γ.take n) a v:=by
 induction h with
 |v _ _ hs=>intro _;exact .v _ _ hs
 |un=>intro _;exact .un ..
 |int=>intro _;exact .int ..
 |bool=>intro _;exact .bool ..
 |str=>intro _;exact .str ..
 |ptr _ s o b hb=>intro hn;exact .ptr _ _ _ _ (by rw [List.getElem?_take_of_lt (Yj.1 hn)];exact hb)
 |cJ _ s k o n b c hb hn'=>intro hn;exact .cJ _ _ _ _ _ _ _ (by rw [List.getElem?_take_of_lt (Yi.1 hn)];exact hb) hn'
 |rM=>intro _;exact .rM ..
 |cz _ s k n b c hb hn'=>
  intro hn
  cases hn with
  |rM=>exact .rM ..
  |cz _ _ _ _ hs=>exact .cz _ _ _ _ _ _ (by rw [List.getElem?_take_of_lt hs];exact hb) hn'
 |dW=>intro _;exact .dW ..
 |sM=>intro _;exact .sM ..
 |sl _ _ _ _ b o n c hn' hc hk hl ho hx=>intro _;exact .sl _ _ _ _ _ _ _ _ hn' hc hk hl ho hx
 |ep _ _ _ b p hl hx ih=>intro hn;exact .ep _ _ _ _ _ hl fun j a hj=>ih j a hj (aaE.1 hn a (List.mem_of_getElem? hj))
 |agg _ cs vs hl hx ih=>intro hn;exact .agg _ _ _ hl fun i a hi=>ih i a hi (Yk.1 hn a (List.mem_of_getElem? hi))
 |bM _ cs vs hl hx ih=>intro hn;exact .bM _ _ _ hl fun i a hi=>ih i a hi (Yl.1 hn a (List.mem_of_getElem? hi))
 |fn _ f cs vs hl hx ih=>intro hn;exact .fn _ _ _ _ hl fun i a hi=>ih i a hi (aaD.1 hn a (List.mem_of_getElem? hi))
theorem VR.cl {a:AV} {v:Value} (h:VR C γ a v):Cl γ.length a:=by
 have mem:∀ {cs:List AV} {a:AV},a∈cs→∃i:Nat,cs[i]? =some a:=fun ha=>by
  obtain ⟨i,hi,rfl⟩:=List.getElem_of_mem ha;exact ⟨i,List.getElem?_eq_getElem hi⟩
 induction h with
 |ptr _ s o b hb=>exact .ptr _ _ (List.getElem?_eq_some_iff.1 hb).1
 |agg _ cs vs hl hx ih=>exact .agg _ fun a ha=>by obtain ⟨i,hi⟩:=mem ha;exact ih i a hi
 |bM _ cs vs hl hx ih=>exact .bM _ fun a ha=>by obtain ⟨i,hi⟩:=mem ha;exact ih i a hi
 |fn _ f cs vs hl hx ih=>exact .fn _ _ fun a ha=>by obtain ⟨i,hi⟩:=mem ha;exact ih i a hi
 |cJ _ s k o n b c hb _=>exact .cJ _ _ _ _ (List.getElem?_eq_some_iff.1 hb).1
 |rM=>exact .rM ..
 |cz _ s k n b c hb _=>exact .cz _ _ _ _ (List.getElem?_eq_some_iff.1 hb).1
 |dW=>exact .dW
 |v=>exact .v _
 |un=>exact .un
 |int=>exact .int ..
 |bool=>exact .bool _
 |str=>exact .str _
 |sM=>exact .sl ..
 |sl=>exact .sl ..
 |ep _ _ _ b p hl hx ih=>exact .ep _ _ fun a ha=>by obtain ⟨i,hi⟩:=mem ha;exact ih i a hi
theorem MI (h:SR L N F γ C e ah ts w) {a s o:Nat} {ty:TypeId} (ht:tok P ty=true) (hp:get e a= .ptr s o) {cs:List AV} (hs:ah[s]? =some cs) {v:AV} (hl:l5 (tn P ty) s o cs=some v):
 ∃u ad,ts.getD a undef= .pointer (some ad)∧(loadVar ty ad).run P w= .ok u w∧VR C γ v.sh u∧TC w C v.sh u:=by
 have hv:=(h.env a).1
 rw [hp] at hv
 obtain ⟨b,hb,hv⟩:=hv.gQ
 obtain ⟨vs,tv,hh,hsz,hcell⟩:=h.mem.obj s b cs hs hb
 have vZ:=dh hh
 cases hn:tn P ty with
 |some n=>
  simp only [hn,l5] at hl
  split at hl
  case isFalse=>cases hl
  rename_i hq
  obtain ⟨hq,hfl⟩:=hq
  injection hl with hl
  subst hl
  obtain ⟨r,hr,hrs,hrc⟩:=(run_load (w:=w) ht (b:=b) (o:=o)).1 n hn (fun j hj=>by
   rw [vZ];exact ⟨_,Array.getElem?_eq_getElem (by omega)⟩)
  obtain rfl:r=vs.extract o (o+n):=by
   apply Array.ext_getElem?
   intro j
   by_cases hj:j<n
   · rw [hrc j hj,vZ,Array.getElem?_extract,if_pos (by omega)]
   · rw [Array.getElem?_eq_none (by omega),Array.getElem?_eq_none (by simp;omega)]
  refine ⟨_,_,hv,hr, ?_, ?_⟩
  · exact (Wk.sh _).vr ((Wk.oV _ Wk.bT _).vr (Ed hsz (fun i a hi=>(hcell i a hi).1) hq))
  · exact (Wk.sh _).tc ((Wk.oV _ Wk.bT _).tc (vY hsz (fun i a hi hin=>Al (hcell _ a hi).2 (jF hfl (i:=i) (by rw [List.getElem?_take_of_lt hin,List.getElem?_drop];exact hi))) hq))
 |none=>
  simp only [hn,l5] at hl
  have v7:∀c,cs[o]? =some c→w.cell? ⟨b,o,none⟩=some (vs.getD o undef):=by
   intro c jG
   have hlt:o<vs.size:=Nat.lt_of_lt_of_le (List.getElem?_eq_some_iff.1 jG).1 hsz
   rw [vZ];simp [Array.getD_eq_getD_getElem?,Array.getElem?_eq_getElem hlt]
  split at hl
  · rename_i k xs jG
    injection hl with hl
    subst hl
    have hr:=(run_load (w:=w) ht (b:=b) (o:=o)).2 _ hn (v7 _ jG)
    exact ⟨_,_,hv,hr,(hcell o _ jG).1.j9 _,by simp only [AV.sh,AV.bT,Tg.sh];cases (vs.getD o undef)<;>trivial⟩
  · rename_i c hno jG
    split at hl
    case isFalse=>cases hl
    rename_i hfl
    injection hl with hl
    subst hl
    have hr:=(run_load (w:=w) ht (b:=b) (o:=o)).2 _ hn (v7 _ jG)
    refine ⟨_,_,hv,hr, ?_, ?_⟩
    · exact (Wk.sh _).vr ((Wk.iZ (Wk.bT c)).vr (hcell o _ jG).1)
    · exact (Wk.sh _).tc (D0 (Al (hcell o _ jG).2 hfl))
  · cases hl
theorem Ym (h:SR L N F γ C e ah ts w):∀(rs:List ResultVar) (vs:List AV),gR P e ah rs=some vs→
 ∃us:List Value,(rs.mapM fun| .tmp t=>pure (ts.getD t undef)| .cell a t=>do loadVar t (←asAddr (ts.getD a undef)):Sem (List Value)).run P w= .ok us w∧us.length=vs.length∧
  (∀(i:Nat) (a:AV),vs[i]? =some a→VR C γ a (us.getD i undef)∧TC w C a (us.getD i undef))∧
  (∀(i:Nat) (a:AV) (b:Nat),vs[i]? =some a→bS a (us.getD i undef)=some b→∃t,blk γ e ah ts w (.tmp t) b)∧∀(i:Nat) (a:AV),vs[i]? =some a→a.eU=false:=by
 intro rs
 induction rs with
 |nil=>intro vs hr;simp [gR] at hr;subst hr;exact ⟨[],rfl,rfl,by simp,by simp,by simp⟩
 |cons r rs ih=>
  intro vs hr
  cases r with
  |tmp t=>
   simp only [gR] at hr
   split at hr
   case isTrue=>cases hr
   rename_i hnt
   split at hr
   case h_2=>cases hr
   rename_i vs' hvs
   injection hr with hr
   subst hr
   obtain ⟨us,h1,h2,h3,h4,h5⟩:=ih vs' hvs
   refine ⟨ts.getD t undef::us, ?_,by simp [h2],fun i a hi=> ?_,fun i a b hi hb=> ?_,fun i a hi=>by
    cases i with
    |zero=>simp at hi;subst hi;simpa using hnt
    |succ i=>exact h5 i a (by simpa using hi)⟩
   · simp only [List.mapM_cons,Sem.run_bind,Sem.run_pure,Result.andThen_ok,h1]
   · cases i with
     |zero=>simp at hi;subst hi;exact h.env t
     |succ i=>exact h3 i a (by simpa using hi)
   · cases i with
     |zero=>simp at hi;subst hi;exact ⟨t,hb⟩
     |succ i=>exact h4 i a b (by simpa using hi) hb
  |cell a ty=>
   simp only [gR] at hr
   split at hr
   case isFalse=>cases hr
   rename_i ht
   split at hr
   case h_2=>cases hr
   rename_i s o hp
   split at hr
   case h_2=>cases hr
   rename_i cs hs
   split at hr
   case h_2=>cases hr
   rename_i v vs' hv hvs
   injection hr with hr
   subst hr
   obtain ⟨us,h1,h2,h3,h4,h5⟩:=ih vs' hvs
   obtain ⟨u,ad,g1,g2,g3,g4⟩:=MI (P:=P) h ht hp hs hv
   have hnt:v.sh.eU=false:=by
    unfold l5 at hv
    split at hv
    · split at hv<;>simp at hv;subst hv;rfl
    · split at hv
      · injection hv with hv;subst hv;rfl
      · split at hv<;>simp at hv
        rename_i c _ _ hf
        subst hv
        cases c<;>first|rfl|cases hf
      · cases hv
   refine ⟨u::us, ?_,by simp [h2],fun i a hi=> ?_,fun i a b hi hb=> ?_,fun i a hi=>by
    cases i with
    |zero=>simp at hi;subst hi;exact hnt
    |succ i=>exact h5 i a (by simpa using hi)⟩
   · have hA:(asAddr (ts.getD a undef)).run P w= .ok ad w:=by rw [g1];rfl
     simp only [List.mapM_cons,Sem.run_bind,hA,Sem.run_pure,Result.andThen_ok,g2,h1]
   · cases i with
     |zero=>simp at hi;subst hi;exact ⟨g3,g4⟩
     |succ i=>exact h3 i a (by simpa using hi)
   · cases i with
     |zero=>simp at hi;subst hi;rw [iS _ (ir (tA v))] at hb;cases hb
     |succ i=>exact h4 i a b (by simpa using hi) hb
def ZW (P:Program) (n0:Nat) (rs:List ResultVar) (R:AV→AH→Prop) (x:Exit) (e:Env) (ah:AH):Prop:=
 (∃m,n0≤m∧MH P m rs R x e ah)∨((x= .normal∨x= .ret)∧match gR P e ah rs with
  |some vs=>R (fin vs) ah
  |none=>False)
theorem aG.Pq {f:Nat} {fn:Func} {c:Code} {ac:aD} {args:List AV} {R:AV→AH→Prop} (L:List Nat) (hf:P.funcs[f]? =some fn) (hname:fn.name≠ "runtime.NumGoroutine") (hb:fn.body=some c)
 (hc:bQ P c=some ac) (ho:rq fn.ntmps ac=true) (hN:args.length≤fn.ntmps)
 (h:mS ah.length ah→(∀a∈args,∀s o,a= .ptr s o→s<ah.length)→AX P L fn.ntmps ah.length ac (ZW P ah.length fn.results.toList R) (fA 0 args) ah):aG P f args ah R:=by
 refine ⟨by simp [jH,hf,hb,hname],fun F γ C w vs hs=> ?_⟩
 have hlen:=hs.mem.len
 have hcl:mS ah.length ah:=by
  intro s cs Kg
  have hlt:s<γ.length:=by rw [hlen];exact (List.getElem?_eq_some_iff.1 Kg).1
  obtain ⟨us,ty, -,hsz,hcell⟩:=hs.mem.obj s _ cs Kg (List.getElem?_eq_getElem hlt)
  intro a ha
  obtain ⟨i,hi,rfl⟩:=List.getElem_of_mem ha
  rw [←hlen]
  exact (hcell i _ (List.getElem?_eq_getElem hi)).1.cl
 have hargs:∀a∈args,∀s o,a= .ptr s o→s<ah.length:=by
  intro a ha s o he
  obtain ⟨i,hi,rfl⟩:=List.getElem_of_mem ha
  have:=(hs.env i).1
  rw [eH] at this
  simp only [Nat.zero_le,if_true,Nat.sub_zero,List.getElem?_eq_getElem hi,Option.getD_some,he] at this
  obtain ⟨b,hb, -⟩:=this.gQ
  rw [←hlen];exact (List.getElem?_eq_some_iff.1 hb).1
 have hU:=h hcl hargs
 have hW:AW P L fn.ntmps ah.length c (ZW P ah.length fn.results.toList R) (fA 0 args) ah:=hU c hc
 have hvs:vs.size=args.length:=hs.sz
 have hs2:SR L fn.ntmps F γ C (fA 0 args) ah (vs++Array.replicate (fn.ntmps - vs.size) undef) w:=by
  have hg:∀t,t<vs.size→(vs++Array.replicate (fn.ntmps - vs.size) undef).getD t undef=vs.getD t undef:=by
   intro t ht;simp [Array.getD_eq_getD_getElem?,Array.getElem?_append,ht]
  have hx:∀t,¬t<vs.size→get (fA 0 args) t= .un:=by
   intro t ht;rw [eH];simp only [Nat.zero_le,if_true,Nat.sub_zero];rw [List.getElem?_eq_none (by omega)];rfl
  have hbk:∀p b,blk γ (fA 0 args) ah (vs++Array.replicate (fn.ntmps - vs.size) undef) w p b→blk γ (fA 0 args) ah vs w p b:=by
   intro p b hp
   cases p with
   |obj s=>exact hp
   |cell s i=>exact hp
   |tmp t=>
    by_cases ht:t<vs.size
    · simp only [blk,hg t ht] at hp ⊢;exact hp
    · simp only [blk,hx t ht,bS] at hp;cases hp
  refine ⟨hs.mem,by simp;omega,fun t=> ?_,fun p q b hp hq=>hs.dK p q b (hbk p b hp) (hbk q b hq),fun p b hp=>hs.nf p b (hbk p b hp),hs.kA,fun t l k xs htl=> ?_⟩
  · by_cases ht:t<vs.size
    · rw [hg t ht];exact hs.env t
    · rw [hx t ht];exact ⟨.un ..,by generalize (vs++Array.replicate (fn.ntmps - vs.size) undef).getD t undef=v;cases v<;>trivial⟩
  · by_cases ht:t<vs.size
    · have:=hs.fr t l k xs htl
      cases l with
      |tmp u=>have:=this.1;simp at this
      |cell s o=>intro cs a b h1 h2 h3 h4;rw [hg t ht];exact this cs a b h1 h2 h3 h4
    · rw [hx t ht] at htl;cases htl
 refine calls_of_wp hf hb (wp_mono (hW F γ C _ w hs2 (by omega)) ?_)
 rintro x ⟨ts',ds'⟩ w' ⟨rfl, -,e',aI,γ',C',hRX,hγ,hs',ac6⟩
 have hx:x= .normal∨x= .ret:=by
  rcases hRX with ⟨m, -,h, -⟩|⟨h, -⟩<;>exact h
 obtain ⟨wz,Mt⟩:∃wz,gR P e' aI fn.results.toList=some wz:=by
  rcases hRX with ⟨m, -, -,h⟩|⟨-,h⟩
  · split at h
    · rename_i vs hv;exact ⟨vs,hv⟩
    · exact h.elim
  · split at h
    · rename_i vs hv;exact ⟨vs,hv⟩
    · exact h.elim
 obtain ⟨us,u1,u2,u3,u4,u5⟩:=Ym (P:=P) hs' _ _ Mt
 have hres:(results fn ts').run P w'= .ok (if us.length=1 then us.getD 0 undef else .tuple us.toArray) w':=by
  unfold results
  rw [Array.mapM_eq_mapM_toList,map_eq_pure_bind]
  simp only [Sem.run_bind,Sem.run_pure]
  refine (congrArg (fun r=>Result.andThen (Result.andThen r fun (a:List Value) w'=> .ok a.toArray w') fun (a:Array Value) w'=> .ok (if h:a.size=1 then a[0] else Value.tuple a) w') u1).trans ?_
  simp only [Result.andThen_ok]
  by_cases h1:us.length=1
  · rw [if_pos h1]
    have:us.toArray.size=1:=by simpa using h1
    rw [dif_pos this]
    simp [List.getD_eq_getElem?_getD,h1]
  · rw [if_neg h1]
    have:¬us.toArray.size=1:=by simpa using h1
    rw [dif_neg this]
 generalize hv:(if us.length=1 then us.getD 0 undef else .tuple us.toArray)=v at hres
 have lH:VR C' γ' (fin wz) v∧TC w' C' (fin wz) v∧(∀b,bS (fin wz) v=some b→∃t,blk γ' e' aI ts' w' (.tmp t) b)∧∀l k xs,fin wz≠ .sl (.fr l) k xs:=by
  by_cases h1:us.length=1
  · rw [if_pos h1] at hv
    obtain ⟨a,rfl⟩:∃a,wz=[a]:=by
     cases wz with
     |nil=>rw [h1] at u2;simp at u2
     |cons a r=>cases r with
      |nil=>exact ⟨a,rfl⟩
      |cons b r=>rw [h1] at u2;simp at u2
    have h3:=u3 0 a rfl
    rw [hv] at h3
    refine ⟨(Wk.df a).vr h3.1,(Wk.df a).tc h3.2,fun b hb=>u4 0 a b rfl ?_,fun l k xs=>Mr a l k xs⟩
    rw [hv];exact (Wk.df a).own hb
  · rw [if_neg h1] at hv
    have hf:fin wz= .bM (wz.map AV.sh):=by
     cases wz with
     |nil=>rfl
     |cons a r=>cases r with
      |nil=>exact absurd (by simpa using u2) h1
      |cons b r=>rfl
    rw [hf]
    subst hv
    refine ⟨.bM _ _ _ (by simp [u2]) fun i a hi=> ?_,fun i a hi=> ?_,fun b hb=>by simp [bS] at hb,by simp⟩
    · rw [List.getElem?_map] at hi
      cases hq:wz[i]? with
      |none=>rw [hq] at hi;simp at hi
      |some y=>
       rw [hq] at hi
       obtain rfl:y.sh=a:=by simpa using hi
       have:=(Wk.sh y).vr (u3 i y hq).1
       rwa [←iu]
    · rw [List.getElem?_map] at hi
      cases hq:wz[i]? with
      |none=>rw [hq] at hi;simp at hi
      |some y=>
       rw [hq] at hi
       obtain rfl:y.sh=a:=by simpa using hi
       have h3:=(Wk.sh y).tc (u3 i y hq).2
       have h4:=(Wk.sh y).vr (u3 i y hq).1
       rw [←iu]
       show HL y.sh (us.getD i undef)
       have h5:y.sh.eU=false:=by have:=u5 i y hq;cases y<;>first|rfl|cases this
       generalize us.getD i undef=u at h3 h4
       generalize hz:y.sh=z at h3 h4 h5
       cases z with
       |agg cs=>obtain ⟨vs,rfl, -⟩:=h4.nW;exact h3
       |bM cs=>cases h5
       |sl t k xs=>cases t<;>cases u<;>first|trivial|exact h3|(exfalso;cases y<;>simp [AV.sh,AV.bT] at hz;done)|skip
       |_=>cases u<;>trivial
 obtain ⟨m,hm,hrc,ac7,afj,hRR⟩:∃m,ah.length≤m∧Cl m (fin wz)∧mS m (aI.take m)∧m≤aI.length∧R (fin wz) (aI.take m):=by
  rcases hRX with ⟨m,hm, -,h⟩|⟨-,h⟩
  · rw [Mt] at h
    exact ⟨m,hm,h⟩
  · rw [Mt] at h
    have hl:aI.take aI.length=aI:=List.take_length
    refine ⟨aI.length, ?_, ?_, ?_,Nat.le_refl _,by rw [hl];exact h⟩
    · rw [←hs'.mem.len]
      have:=hγ.length_le
      rw [←hlen,List.take_length] at this
      omega
    · rw [←hs'.mem.len];exact lH.1.cl
    · rw [hl]
      intro s cs Kg
      have hlt:s<γ'.length:=by rw [hs'.mem.len];exact (List.getElem?_eq_some_iff.1 Kg).1
      obtain ⟨us',ty', -,afk,D2⟩:=hs'.mem.obj s _ cs Kg (List.getElem?_eq_getElem hlt)
      intro a ha
      obtain ⟨i,hi,rfl⟩:=List.getElem_of_mem ha
      rw [←hs'.mem.len]
      exact (D2 i _ (List.getElem?_eq_getElem hi)).1.cl
 have hm0:ah.length≤m:=hm
 have hlen':=hs'.mem.len
 have hpre:γ <+: γ'.take m:=by
  rw [←hlen,List.take_length] at hγ
  obtain ⟨q,rfl⟩:=hγ
  rw [List.take_append]
  rw [List.take_of_length_le (l:=γ) (i:=m) (by omega)]
  exact List.prefix_append _ _
 have hbp:bodyPost P fn (fun en w'=>∃r v aI γ' C',en= .returned v∧R r aI∧γ <+: γ'∧SR [] 1 F γ' C' [(0,r)] aI #[v] w'∧Ext F C w C' w') x ⟨ts',[]⟩ w':=by
  have key:∃v',(results fn ts').run P w'= .ok v' w'∧∃r v aI γ' C',Ending.returned v'= .returned v∧R r aI∧γ <+: γ'∧SR [] 1 F γ' C' [(0,r)] aI #[v] w'∧Ext F C w C' w':=by
   refine ⟨v,hres,fin wz,v,aI.take m,γ'.take m,C',rfl,hRR,hpre, ?_,ac6⟩
   have hgt:∀(s b:Nat),(γ'.take m)[s]? =some b→γ'[s]? =some b∧s<m:=by
    intro s b hsb
    by_cases Yn:s<m
    · rw [List.getElem?_take_of_lt Yn] at hsb;exact ⟨hsb,Yn⟩
    · rw [List.getElem?_eq_none (by simp;omega)] at hsb;cases hsb
   have De:∀(s:Nat) (cs:List AV),(aI.take m)[s]? =some cs→aI[s]? =some cs:=by
    intro s cs hsb
    by_cases Yn:s<m
    · rwa [List.getElem?_take_of_lt Yn] at hsb
    · rw [List.getElem?_eq_none (by simp;omega)] at hsb;cases hsb
   have hbk:∀p b,blk (γ'.take m) [(0,fin wz)] (aI.take m) #[v] w' p b→(∃t,p= .tmp 0∧blk γ' e' aI ts' w' (.tmp t) b)∨((∀t,p≠ .tmp t)∧blk γ' e' aI ts' w' p b):=by
    intro p b hp
    cases p with
    |obj s=>exact .inr ⟨by simp,(hgt s b hp).1⟩
    |cell s i=>
     obtain ⟨cs,a,b0,g1,g2,g3,g4⟩:=hp
     exact .inr ⟨by simp,cs,a,b0,De s cs g1,g2,(hgt s b0 g3).1,g4⟩
    |tmp t=>
     simp only [blk,get] at hp
     by_cases ht:0=t
     · subst ht
       simp only [if_true] at hp
       obtain ⟨t,ht⟩:=lH.2.2.1 b hp
       exact .inl ⟨t,rfl,ht⟩
     · rw [if_neg ht] at hp;simp [bS] at hp
   refine ⟨⟨by simp [hlen'],fun s b cs g1 g2=> ?_,hs'.mem.ue,fun s b cs g1 g0 hsb=>hs'.mem.pU s b cs (De s cs g1) g0 (hgt s b hsb).1,fun s b cs us ty fr g1 hsb hh=>hs'.mem.BI s b cs us ty fr (De s cs g1) (hgt s b hsb).1 hh⟩,rfl,fun t=> ?_,fun p q b hp hq=> ?_,fun p b hp=> ?_,hs'.kA,fun t l k xs htl=> ?_⟩
   · obtain ⟨vs,ty,q1,q2,q3⟩:=hs'.mem.obj s b cs (De s cs g1) (hgt s b g2).1
     exact ⟨vs,ty,q1,q2,fun i a hi=>⟨(q3 i a hi).1.take (ac7 s cs g1 a (List.mem_of_getElem? hi)),(q3 i a hi).2⟩⟩
   · by_cases ht:0=t
     · subst ht
       simp only [get,if_true]
       exact ⟨lH.1.take hrc,lH.2.1⟩
     · simp only [get,if_neg ht]
       exact ⟨.un ..,by generalize (#[v]:Array Value).getD t undef=u;cases u<;>trivial⟩
   · rcases hbk p b hp with ⟨t,rfl,h1⟩|⟨h1,h2⟩<;>rcases hbk q b hq with ⟨u,rfl,h3⟩|⟨h3,h4⟩
     · rfl
     · exact absurd (hs'.dK _ _ b h1 h4) (fun e=>h3 t e.symm)
     · exact absurd (hs'.dK _ _ b h2 h3) (h1 u)
     · exact hs'.dK p q b h2 h4
   · rcases hbk p b hp with ⟨t,rfl,h1⟩|⟨h1,h2⟩
     · exact hs'.nf _ b h1
     · exact hs'.nf p b h2
   · by_cases ht:0=t
     · subst ht
       simp only [get,if_true] at htl
       exact absurd htl (lH.2.2.2 l k xs)
     · simp only [get,if_neg ht] at htl;cases htl
  rcases hx with rfl|rfl
  · exact ⟨rfl,key⟩
  · exact ⟨rfl,key⟩
 exact hbp
theorem AX.up {c:aD} {Q Q':Exit→Env→AH→Prop} {e:Env} {ah:AH} {n0:Nat} (h:AX P L N n0 c Q e ah) (hq:∀x e ah,Q x e ah→Q' x e ah):AX P L N n0 c Q' e ah:=fun c' cj=>(h c' cj).mono hq
theorem aG.enter {f:Nat} {fn:Func} {c:Code} {ac:aD} {args:List AV} {R:AV→AH→Prop} (L:List Nat) (m:Nat) (hf:P.funcs[f]? =some fn) (hname:fn.name≠ "runtime.NumGoroutine") (hb:fn.body=some c)
 (hc:bQ P c=some ac) (ho:rq fn.ntmps ac=true) (hN:args.length≤fn.ntmps) (hm:ah.length≤m)
 (h:mS ah.length ah→(∀a∈args,∀s o,a= .ptr s o→s<ah.length)→U P L fn.ntmps ah.length [.code ac] (MH P m fn.results.toList R) .normal (fA 0 args) ah):aG P f args ah R:=
 aG.Pq L hf hname hb hc ho hN fun h1 h2=>AX.up (fun c' cj=>pO c' ac _ _ _ (by rw [jI c ac hc];exact cj) (by rw [jI c ac hc];exact ho) (h h1 h2)) fun x e H hR=> .inl ⟨m,hm,hR⟩
end
end Go.Am
end
section
namespace Go.Am
open Go
variable [Tabs]
def bz (P:Program) (f N:Nat) (rs:List ResultVar) (ac:aD):Prop:=
 ∃fn c,P.funcs[f]? =some fn∧fn.name≠ "runtime.NumGoroutine" ∧fn.body=some c∧bQ P c=some ac∧fn.ntmps=N∧fn.results.toList=rs
theorem aG.go {P:Program} {f N:Nat} {rs:List ResultVar} {ac:aD} (hF:bz P f N rs ac) {args:List AV} {ah:AH} {R:AV→AH→Prop} (L:List Nat) (m:Nat)
 (ho:rq N ac=true) (hN:args.length≤N) (hm:ah.length≤m)
 (h:mS ah.length ah→(∀a∈args,∀s o,a= .ptr s o→s<ah.length)→U P L N ah.length [.code ac] (MH P m rs R) .normal (fA 0 args) ah):aG P f args ah R:=by
 obtain ⟨fn,c,h1,h2,h3,h4,rfl,rfl⟩:=hF
 exact aG.enter L m h1 h2 h3 h4 ho hN hm h
section
variable {P:Program} {L:List Nat} {N n0:Nat} {e:Env} {ah:AH} {t:List It} {Q:Exit→Env→AH→Prop} {r:List aQ} {d:Option Nat} {g:Option (Nat×Bool)}
def gOf (want:Bool):AV→Option Bool
 | .bool b=>some (b==want)
 | .bM []=>some false
 |_=>none
theorem Yo {op:fN}:gO e ⟨d,op,none⟩=some true:=rfl
theorem Yp {op:fN} {x:Nat} {want:Bool}:gO e ⟨d,op,some (x,want)⟩=gOf want (get e x):=by
 simp only [gO]
 cases get e x with
 |bM cs=>cases cs<;>rfl
 |_=>rfl
theorem Yq {want:Bool}:gOf want (.bM [])=some false:=rfl
theorem QF {b want:Bool}:gOf want (.bool b)=some (b==want):=rfl
theorem ac8 {x:Ar}:UG P L N n0 ⟨d, .mv x,g⟩ r t Q e ah (some true)=U P L N n0 (It.ops r::t) Q Exit.normal (aK L e d (cp L x (ev e x))) ah:=rfl
def jX (P:Program) (L:List Nat) (N n0:Nat) (e:Env) (ah:AH) (d:Option Nat) (r:List aQ) (t:List It) (Q:Exit→Env→AH→Prop) (x:Ar):AV→Prop
 | .sl .own k xs=>match x with
   | .t y=>U P L N n0 (.ops r::t) Q .normal (aK L (put e y (.sl .n k xs)) d (.sl .own k xs)) ah
   | .c a=>U P L N n0 (.ops r::t) Q .normal (aK L e d (cp L (.c a) (.sl .own k xs))) ah
 |a=>U P L N n0 (.ops r::t) Q .normal (aK L e d (cp L x a)) ah
theorem aaF {x:Ar}:UG P L N n0 ⟨d, .bf x,g⟩ r t Q e ah (some true)=jX P L N n0 e ah d r t Q x (ev e x):=by
 simp only [UG,bN]
 cases h:ev e x with
 |sl tg k xs=>cases tg<;>cases x<;>rfl
 |_=>rfl
def MJ (L:List Nat) (e:Env) (ah:AH) (d:Option Nat) (a b:Ar):AV→Option (Env×AH)
 | .bool t=>some (aK L e d (if t then (ev e a).sh else (ev e b).sh),ah)
 |_=>none
theorem Yr {c a b:Ar}:UG P L N n0 ⟨d, .pick c a b,g⟩ r t Q e ah (some true)=US P L N n0 r t Q (MJ L e ah d a b (ev e c)):=by
 simp only [UG,bN];cases ev e c<;>rfl
theorem Uf {cs:List AV}:UG P L N n0 ⟨d, .alloc cs,g⟩ r t Q e ah (some true)=U P L N n0 (.ops r::t) Q .normal (aK L e d (.ptr ah.length 0)) (ah++[cs]):=rfl
theorem aaG {x:Ar}:UG P L N n0 ⟨d, .box x,g⟩ r t Q e ah (some true)=US P L N n0 r t Q (if b6 (ev e x).cells then some (aK L e d (.ptr ah.length 0),ah++[(ev e x).cells.map AV.bT]) else none):=rfl
theorem Ug {z:List AV} {ps:List (Nat×Nat×Ar)}:UG P L N n0 ⟨d, .build z ps,g⟩ r t Q e ah (some true)=US P L N n0 r t Q ((fill e z ps).map fun cs=>(aK L e d (.agg cs),ah)):=rfl
theorem aaH {k:Nat} {ps:List Ar}:UG P L N n0 ⟨d, .jE k ps,g⟩ r t Q e ah (some true)=US P L N n0 r t Q (if ps.all (fun p=>(ev e p).cells.length=k&&b6 (ev e p).cells&&gj (ev e p).cells) then some (aK L e d (.sl .ex k (ps.map fun p=>(ev e p).s0)),ah) else none):=rfl
theorem Ys {k:Nat} {ps:List Ar}:UG P L N n0 ⟨d, .pQ k ps,g⟩ r t Q e ah (some true)=US P L N n0 r t Q (if ps.all (fun p=>(ev e p).cells.length=k&&b6 (ev e p).cells&&gj (ev e p).cells) then some (aK L e d (.cJ ah.length k 0 ps.length),ah++[(ps.map fun p=>(ev e p).cells.map AV.s1).flatten]) else none):=rfl
theorem Uh {k:Nat} {p:Ar}:UG P L N n0 ⟨d, .pQ k [p],g⟩ r t Q e ah (some true)=US P L N n0 r t Q (if [p].all (fun p=>(ev e p).cells.length=k&&b6 (ev e p).cells&&gj (ev e p).cells) then some (aK L e d (.cJ ah.length k 0 1),ah++[(ev e p).cells.map AV.s1]) else none):=by
 have h:([p].map fun p=>(ev e p).cells.map AV.s1).flatten=(ev e p).cells.map AV.s1:=by simp
 rw [Ys,h];rfl
theorem aeW {y:Nat} {bs:List UInt8}:UG P L N n0 ⟨d, .lit y bs,g⟩ r t Q e ah (some true)=U P L N n0 (It.ops r::t) Q Exit.normal (put (aK L e d (.sl .ex 1 (bs.map b8))) y .un) ah:=rfl
def Ui (L:List Nat) (e:Env) (ah:AH) (d:Option Nat):AV→Option (Env×AH)
 | .ptr s p=>some (aK L e d (.ptr s p),ah)
 | .ep a p=>some (aK L e d (.ep a p),ah)
 |_=>none
theorem aaI {x:Ar}:UG P L N n0 ⟨d, .ew x,g⟩ r t Q e ah (some true)=US P L N n0 r t Q (Ui L e ah d (ev e x)):=by
 simp only [UG,bN];cases ev e x<;>rfl
def Uj (L:List Nat) (e:Env) (ah:AH) (d:Option Nat) (q:Nat):AV→Option (Env×AH)
 | .ptr s p=>some (aK L e d (.ptr s (p+q)),ah)
 | .ep a p=>some (aK L e d (.ep a (p+q)),ah)
 |_=>none
theorem aaJ {x:Ar} {q:Nat}:UG P L N n0 ⟨d, .aV x q,g⟩ r t Q e ah (some true)=US P L N n0 r t Q (Uj L e ah d q (ev e x)):=by
 simp only [UG,bN];cases ev e x<;>rfl
theorem aeF {x:Ar} {q:Nat} {n:Option Nat}:UG P L N n0 ⟨d, .G4 x q n,g⟩ r t Q e ah (some true)=US P L N n0 r t Q (bN L ⟨d, .G4 x q n,none⟩ e ah):=by simp only [UG,wo L d _ g]
def Yt (L:List Nat) (d:Option Nat) (n:Option Nat) (s p:Nat) (e:Env) (ah:AH):Option (List AV)→Option (Env×AH)
 |some cs=>(l5 n s p cs).map fun a=>(aK L e d a,ah)
 |none=>none
def QG (L:List Nat) (d:Option Nat) (e:Env) (ah:AH):Option AV→Option (Env×AH)
 |some c=>if c.flat then some (aK L e d c.s1,ah) else none
 |none=>none
def H6 (L:List Nat) (d:Option Nat) (n:Option Nat) (e:Env) (ah:AH):AV→Option (Env×AH)
 | .ptr s p=>Yt L d n s p e ah (ah[s]?)
 | .ep a p=>match n with
   |some n=>if p+n≤a.cells.length∧b5 ((a.cells.drop p).take n) then some (aK L e d (.agg (((a.cells.drop p).take n).map AV.s1)),ah) else none
   |none=>QG L d e ah (a.cells[p]?)
 |_=>none
theorem ac9 {x:Ar} {n:Option Nat}:UG P L N n0 ⟨d, .ld x n,g⟩ r t Q e ah (some true)=US P L N n0 r t Q (H6 L d n e ah (ev e x)):=by
 simp only [UG,bN]
 cases ev e x with
 |ptr s p=>simp only [H6,Yt];cases ah[s]? <;>rfl
 |ep a p=>cases n with
  |some n=>rfl
  |none=>simp only [H6,QG];cases a.cells[p]? <;>rfl
 |_=>rfl
def lV (s o:Nat):Option AV→Option AV
 |some (.sl .own k xs)=>some (.sl (.fr (.cell s o)) k xs)
 |some a=>if a.flat then some a.bT else none
 |none=>none
theorem jl {s o:Nat} {cs:List AV}:l5 none s o cs=lV s o (cs[o]?):=by
 simp only [l5,lV]
 cases cs[o]? with
 |none=>rfl
 |some a=>cases a with
  |sl t k xs=>cases t<;>rfl
  |_=>rfl
theorem jm {n s o:Nat} {cs:List AV}:l5 (some n) s o cs=if o+n≤cs.length∧b5 ((cs.drop o).take n) then some (.agg (((cs.drop o).take n).map AV.bT)) else none:=rfl
theorem aeX {x:Ar} {n:Option Nat}:UG P L N n0 ⟨d, .lZ x n,g⟩ r t Q e ah (some true)=US P L N n0 r t Q (bN L ⟨d, .lZ x n,none⟩ e ah):=by simp only [UG,wo L d _ g]
theorem afl {a x:Ar} {n:Nat}:UG P L N n0 ⟨d, .st a x n,g⟩ r t Q e ah (some true)=US P L N n0 r t Q (bN L ⟨none, .st a x n,none⟩ e ah):=by simp only [UG,bN]
theorem aaK {op:BinOp} {x y:Ar}:UG P L N n0 ⟨d, .bin op x y,g⟩ r t Q e ah (some true)=US P L N n0 r t Q ((bD op (ev e x) (ev e y)).map fun a=>(aK L e d a,ah)):=rfl
theorem ada {neq:Bool} {x y:Ar}:UG P L N n0 ⟨d, .bq neq x y,g⟩ r t Q e ah (some true)=US P L N n0 r t Q ((Mn (ev e x) (ev e y)).map fun b=>(aK L e d (.bool (if neq then !b else b)),ah)):=rfl
theorem adb {neq:Bool} {x y:Ar}:UG P L N n0 ⟨d, .pq neq x y,g⟩ r t Q e ah (some true)=US P L N n0 r t Q ((Mo (ev e x) (ev e y)).map fun b=>(aK L e d (.bool (if neq then !b else b)),ah)):=rfl
def ZX (L:List Nat) (e:Env) (ah:AH) (d:Option Nat) (ks:List Pk) (neq:Bool):AV→AV→Option (Env×AH)
 | .agg zq, .agg bs=>(cr ks zq bs).map fun b=>(aK L e d (.bool (if neq then !b else b)),ah)
 |_,_=>none
theorem aaL {ks:List Pk} {neq:Bool} {x y:Ar}:UG P L N n0 ⟨d, .seq ks neq x y,g⟩ r t Q e ah (some true)=US P L N n0 r t Q (ZX L e ah d ks neq (ev e x) (ev e y)):=by
 simp only [UG,bN];cases ev e x<;>cases ev e y<;>rfl
theorem ade {op:UnOp} {x:Ar}:UG P L N n0 ⟨d, .un op x,g⟩ r t Q e ah (some true)=US P L N n0 r t Q ((Mq op (ev e x)).map fun a=>(aK L e d a,ah)):=rfl
def Pr (L:List Nat) (e:Env) (ah:AH) (d:Option Nat) (p n:Nat) (cs:List AV):Option (Env×AH):=
 if p+n≤cs.length then (bytesOf ((cs.drop p).take n)).map fun l=>(aK L e d (.str l),ah) else none
def Uk (L:List Nat) (e:Env) (ah:AH) (d:Option Nat) (p n:Nat):Option (List AV)→Option (Env×AH)
 |some cs=>Pr L e ah d p n cs
 |none=>none
def Ev (L:List Nat) (e:Env) (ah:AH) (d:Option Nat) (h:Cv):AV→Option (Env×AH)
 | .cJ s k p n=>match h with
   | .bs=>if k=1 then Uk L e ah d p n (ah[s]?) else none
   |h=>(fJ h (.cJ s k p n)).map fun a=>(aK L e d a,ah)
 |a=>(fJ h a).map fun a=>(aK L e d a,ah)
theorem aaM {h:Cv} {x:Ar}:UG P L N n0 ⟨d, .dX h x,g⟩ r t Q e ah (some true)=US P L N n0 r t Q (Ev L e ah d h (ev e x)):=by
 simp only [UG,bN]
 congr 1
 cases ev e x with
 |cJ s k p n=>
  cases h with
  |bs=>
   simp only [Ev]
   split
   · cases ah[s]? <;>rfl
   · rfl
  |_=>rfl
 |_=>cases h<;>rfl
theorem Yu {x:Ar}:UG P L N n0 ⟨d, .vU x,g⟩ r t Q e ah (some true)=US P L N n0 r t Q ((fJ .bs (ev e x)).map fun a=>(aK L e d a,ah)):=rfl
def Ul (L:List Nat) (e:Env) (ah:AH) (d:Option Nat):AV→Option (Env×AH)
 | .str l=>some (aK L e d (.cJ ah.length 1 0 l.length),ah++[l.map b8])
 |_=>none
theorem Yv {x:Ar}:UG P L N n0 ⟨d, .uU x,g⟩ r t Q e ah (some true)=US P L N n0 r t Q (Ul L e ah d (ev e x)):=by
 simp only [UG,bN];cases ev e x<;>rfl
theorem adf {neq:Bool} {x y:Ar}:UG P L N n0 ⟨d, .iq neq x y,g⟩ r t Q e ah (some true)=US P L N n0 r t Q ((Mp (ev e x) (ev e y)).map fun b=>(aK L e d (.bool (if neq then !b else b)),ah)):=rfl
theorem adg {mx:Bool} {x y:Ar}:UG P L N n0 ⟨d, .mm mx x y,g⟩ r t Q e ah (some true)=US P L N n0 r t Q ((JQ mx (ev e x) (ev e y)).map fun a=>(aK L e d a,ah)):=rfl
theorem aaN {f:Nat} {cs:List Ar}:UG P L N n0 ⟨d, .JO f cs,g⟩ r t Q e ah (some true)=U P L N n0 (It.ops r::t) Q Exit.normal (aK L e d (.fn f (cs.map (ev e)))) ah:=rfl
def uV:AV→Option Nat
 | .int _ i=>if 0≤i then some i.toNat else none
 |_=>none
theorem aeY {dflt:Nat}:mR e dflt none=some dflt:=rfl
theorem Um {dflt:Nat} {x:Ar}:mR e dflt (some x)=uV (ev e x):=by
 simp only [mR];cases ev e x<;>rfl
def Pt (L:List Nat) (e:Env) (ah:AH) (d:Option Nat) (l:List UInt8):Option Nat→Option Nat→Option (Env×AH)
 |some i,some j=>if i≤j∧j≤l.length then some (aK L e d (.str ((l.take j).drop i)),ah) else none
 |_,_=>none
def Pu (L:List Nat) (e:Env) (ah:AH) (d:Option Nat) (lo hi:Option Ar):AV→Option (Env×AH)
 | .str l=>Pt L e ah d l (mR e 0 lo) (mR e l.length hi)
 |_=>none
theorem aaO {x:Ar} {lo hi:Option Ar}:UG P L N n0 ⟨d, .JP x lo hi,g⟩ r t Q e ah (some true)=US P L N n0 r t Q (Pu L e ah d lo hi (ev e x)):=by
 simp only [UG,bN]
 cases ev e x with
 |str l=>simp only [Pu,Pt];cases mR e 0 lo<;>cases mR e l.length hi<;>rfl
 |_=>rfl
def Pv (L:List Nat) (e:Env) (ah:AH) (d:Option Nat) (k k':Nat) (xs:List AV):Option Nat→Option Nat→Option (Env×AH)
 |some i,some j=>if k'=k∧i≤j∧j≤xs.length then some (aK L e d (.sl .n k ((xs.take j).drop i)),ah) else none
 |_,_=>none
def Pw (L:List Nat) (e:Env) (ah:AH) (d:Option Nat) (k:Nat) (lo hi:Option Ar):AV→Option (Env×AH)
 | .sl _ k' xs=>Pv L e ah d k k' xs (mR e 0 lo) (mR e xs.length hi)
 |_=>none
theorem aaP {k:Nat} {x:Ar} {lo hi:Option Ar}:UG P L N n0 ⟨d, .slc k x lo hi none,g⟩ r t Q e ah (some true)=US P L N n0 r t Q (Pw L e ah d k lo hi (ev e x)):=by
 simp only [UG,bN]
 cases ev e x with
 |sl t k' xs=>simp only [Pw,Pv];cases mR e 0 lo<;>cases mR e xs.length hi<;>rfl
 |_=>rfl
def H7 (L:List Nat) (e:Env) (ah:AH) (d:Option Nat) (k k':Nat) (xs:List AV):Option Nat→Option Nat→Option Nat→Option (Env×AH)
 |some i,some j,some m=>if k'=k∧i≤j∧j=m∧m≤xs.length then some (aK L e d (.sl .ex k ((xs.take j).drop i)),ah) else none
 |_,_,_=>none
def H8 (L:List Nat) (e:Env) (ah:AH) (d:Option Nat) (k:Nat) (lo:Option Ar) (hi m:Ar):AV→Option (Env×AH)
 | .sl _ k' xs=>H7 L e ah d k k' xs (mR e 0 lo) (mR e xs.length (some hi)) (mR e 0 (some m))
 |_=>none
theorem Yw {k:Nat} {x:Ar} {lo:Option Ar} {hi m:Ar}:UG P L N n0 ⟨d, .slc k x lo (some hi) (some m),g⟩ r t Q e ah (some true)=US P L N n0 r t Q (H8 L e ah d k lo hi m (ev e x)):=by
 simp only [UG,bN]
 cases ev e x with
 |sl t k' xs=>
  simp only [H8,H7]
  cases mR e 0 lo with
  |none=>rfl
  |some i=>
   cases mR e xs.length (some hi) with
   |none=>rfl
   |some j=>
    simp only [Option.isNone_some,Bool.false_eq_true,if_false]
    cases mR e 0 (some m)<;>rfl
 |_=>rfl
def Px (L:List Nat) (e:Env) (ah:AH) (d:Option Nat) (k k':Nat):Option AV→Option (Env×AH)
 |some a=>if k'=k then some (aK L e d (.ep a 0),ah) else none
 |none=>none
def tB (L:List Nat) (e:Env) (ah:AH) (d:Option Nat) (k:Nat):AV→AV→Option (Env×AH)
 | .sl _ k' xs, .int _ i=>if 0≤i then Px L e ah d k k' (xs[i.toNat]?) else none
 | .cJ s k' p n, .int _ i=>if 0≤i∧i<n∧k'=k then some (aK L e d (.ptr s (p+i.toNat*k)),ah) else none
 | .cz s k' n _, .int _ i=>if 0≤i∧i<n∧k'=k then some (aK L e d (.ptr s (i.toNat*k)),ah) else none
 |_,_=>none
def Kh (L:List Nat) (e:Env) (ah:AH) (d:Option Nat) (k m:Nat):AV→AV→Option (Env×AH)
 | .ptr s p, .int _ i=>if 0≤i∧i<m then some (aK L e d (.ptr s (p+i.toNat*k)),ah) else none
 | .ep a p, .int _ i=>if 0≤i∧i<m then some (aK L e d (.ep a (p+i.toNat*k)),ah) else none
 |_,_=>none
theorem aaQ {k m:Nat} {x i:Ar}:UG P L N n0 ⟨d, .Qd k m x i,g⟩ r t Q e ah (some true)=US P L N n0 r t Q (Kh L e ah d k m (ev e x) (ev e i)):=by
 simp only [UG,bN]
 cases ev e x with
 |ptr s p=>cases ev e i<;>rfl
 |ep a p=>cases ev e i<;>rfl
 |_=>cases ev e i<;>rfl
def Py (L:List Nat) (e:Env) (ah:AH) (d:Option Nat) (u k:Nat) (xs:List AV):AV→Option (Env×AH)
 | .sl .own k2 zs=>if k2=k then some (aK L (put e u (.sl .n k2 zs)) d (.sl .own k xs),ah) else none
 |_=>none
def Ki (L:List Nat) (e:Env) (ah:AH) (d:Option Nat) (k:Nat):AV→Option (Env×AH)
 | .sl .ex k' []=>if k'=k then some (aK L e d (.cz 0 k 0 0),ah) else none
 | .cz s k' n c=>some (aK L e d (.cz s k' n c),ah)
 | .sl (.fr (.tmp u)) k' xs=>Py L e ah d u k' xs (get e u)
 |_=>none
theorem aaR {k:Nat} {x:Ar}:UG P L N n0 ⟨d, .BH k x,g⟩ r t Q e ah (some true)=US P L N n0 r t Q (Ki L e ah d k (ev e x)):=by
 simp only [UG,bN]
 cases ev e x with
 |sl t k' xs=>cases t<;>cases xs<;>rfl
 |_=>rfl
theorem aaS {k:Nat} {x i:Ar}:UG P L N n0 ⟨d, .ku k x i,g⟩ r t Q e ah (some true)=US P L N n0 r t Q (tB L e ah d k (ev e x) (ev e i)):=by
 simp only [UG,bN]
 cases ev e x with
 |sl t k' xs=>cases ev e i with
  |int ki n=>simp only [tB,Px];cases xs[n.toNat]? <;>rfl
  |_=>rfl
 |cJ s k' p n=>cases ev e i<;>rfl
 |cz s k' n c=>cases ev e i<;>rfl
 |_=>cases ev e i<;>rfl
def Un (L:List Nat) (e:Env) (ah:AH) (d:Option Nat):Option UInt8→Option (Env×AH)
 |some c=>some (aK L e d (b8 c),ah)
 |none=>none
def Kj (L:List Nat) (e:Env) (ah:AH) (d:Option Nat):AV→AV→Option (Env×AH)
 | .str l, .int _ i=>if 0≤i then Un L e ah d (l[i.toNat]?) else none
 |_,_=>none
theorem aaT {x i:Ar}:UG P L N n0 ⟨d, .ixs x i,g⟩ r t Q e ah (some true)=US P L N n0 r t Q (Kj L e ah d (ev e x) (ev e i)):=by
 simp only [UG,bN]
 cases ev e x with
 |str l=>cases ev e i with
  |int ki n=>simp only [Kj,Un];cases l[n.toNat]? <;>rfl
  |_=>rfl
 |_=>cases ev e i<;>rfl
theorem aeG {l:List UInt8} {i j:Nat}:Pt L e ah d l (some i) (some j)=if i≤j∧j≤l.length then some (aK L e d (.str ((l.take j).drop i)),ah) else none:=rfl
theorem aeH {k k' i j:Nat} {xs:List AV}:Pv L e ah d k k' xs (some i) (some j)=if k'=k∧i≤j∧j≤xs.length then some (aK L e d (.sl .n k ((xs.take j).drop i)),ah) else none:=rfl
theorem adh {k k' i j m:Nat} {xs:List AV}:H7 L e ah d k k' xs (some i) (some j) (some m)=if k'=k∧i≤j∧j=m∧m≤xs.length then some (aK L e d (.sl .ex k ((xs.take j).drop i)),ah) else none:=rfl
theorem aeI {k k':Nat} {a:AV}:Px L e ah d k k' (some a)=if k'=k then some (aK L e d (.ep a 0),ah) else none:=rfl
theorem aeJ {c:UInt8}:Un L e ah d (some c)=some (aK L e d (b8 c),ah):=rfl
theorem aaU {n:Option Nat} {s p:Nat} {cs:List AV}:Yt L d n s p e ah (some cs)=(l5 n s p cs).map fun a=>(aK L e d a,ah):=rfl
theorem aaV {c:AV}:QG L d e ah (some c)=if c.flat then some (aK L e d c.s1,ah) else none:=rfl
theorem aeK {α:Type} {c:Prop} [Decidable c] {x:Option α} (h:c):(if c then x else none)=x:=by rw [if_pos h]
theorem adi {α:Type} {c:Prop} [Decidable c] {x:Option α} (h:¬c):(if c then none else x)=x:=by rw [if_neg h]
theorem aeZ {x:Ar} {i:Nat}:UG P L N n0 ⟨d, .ext x i,g⟩ r t Q e ah (some true)=US P L N n0 r t Q (bN L ⟨d, .ext x i,none⟩ e ah):=by simp only [UG,wo L d _ g]
theorem ae0 {x:Ar}:UG P L N n0 ⟨d, .len x,g⟩ r t Q e ah (some true)=US P L N n0 r t Q (bN L ⟨d, .len x,none⟩ e ah):=by simp only [UG,wo L d _ g]
theorem aeL {x:Ar}:UG P L N n0 ⟨d, .lens x,g⟩ r t Q e ah (some true)=US P L N n0 r t Q (bN L ⟨d, .lens x,none⟩ e ah):=by simp only [UG,wo L d _ g]
def Uo (L:List Nat) (e:Env) (ah:AH) (d:Option Nat) (k b:Nat) (x:Ar):AV→Option (Env×AH)
 | .sl _ k' ys=>if k'=k then yz L e ah d k b x ys else none
 |_=>none
theorem aaW {k b:Nat} {x y:Ar}:UG P L N n0 ⟨d, .app k b x y,g⟩ r t Q e ah (some true)=US P L N n0 r t Q (Uo L e ah d k b x (ev e y)):=by
 simp only [UG,bN];cases ev e y<;>rfl
def Up (L:List Nat) (e:Env) (ah:AH) (d:Option Nat) (b:Nat) (x:Ar):AV→Option (Env×AH)
 | .str l=>yz L e ah d 1 b x (l.map b8)
 |_=>none
theorem Yx {b:Nat} {x y:Ar}:UG P L N n0 ⟨d, .apps b x y,g⟩ r t Q e ah (some true)=US P L N n0 r t Q (Up L e ah d b x (ev e y)):=by
 simp only [UG,bN];cases ev e y<;>rfl
theorem Yy {f:Ar} {zq:List Ar}:UG P L N n0 ⟨d, .call f zq,g⟩ r t Q e ah (some true)=UF P L N n0 zq d r t Q e ah (ev e f):=rfl
theorem adj {o:aQ} {b:Bool}:UG P L N n0 o r t Q e ah (some b)=if b then (UG P L N n0 o r t Q e ah (some true)) else U P L N n0 (.ops r::t) Q .normal (pY e o.d) ah:=by
 cases b<;>rfl
theorem acH {o:aQ} {b:Bool} (h1:b=true→UG P L N n0 o r t Q e ah (some true)) (h2:b=false→U P L N n0 (.ops r::t) Q .normal (pY e o.d) ah):UG P L N n0 o r t Q e ah (some b):=by
 cases b
 · exact h2 rfl
 · exact h1 rfl
end
end Go.Am
namespace Go.Am
open Go
variable [Tabs]
theorem mS.set {n:Nat} {ah:AH} (h:mS n ah) {s:Nat} {cs:List AV} (hc:∀a∈cs,Cl n a):mS n (ah.set s cs):=by
 intro t ds ht a ha
 rw [List.getElem?_set] at ht
 split at ht
 · split at ht
   · injection ht with ht;subst ht;exact hc a ha
   · cases ht
 · exact h t ds ht a ha
theorem MH.old {P:Program} {n:Nat} {rs:List ResultVar} {R:AV→AH→Prop} {x:Exit} {e:Env} {ah:AH} {vs:List AV} (hx:x= .normal∨x= .ret) (hr:gR P e ah rs=some vs)
 (hc:Cl n (fin vs)) (hh:mS n ah) (hn:ah.length=n) (h:R (fin vs) ah):MH P n rs R x e ah:=by
 refine ⟨hx, ?_⟩
 rw [hr]
 have:ah.take n=ah:=List.take_of_length_le (by omega)
 simp only [this]
 exact ⟨hc,hh,by omega,h⟩
theorem w64 {n:Int} (h1: -9223372036854775808≤n) (h2:n≤9223372036854775807):IntKind.wrap .i64 n=n:=by
 simp only [IntKind.wrap,IntKind.bits,IntKind.signed,Bool.true_and,decide_eq_true_eq,Int.reducePow,Nat.reduceSub,ge_iff_le]
 split<;>omega
theorem w8 {n:Int} (h1:0≤n) (h2:n≤255):IntKind.wrap .u8 n=n:=by
 simp only [IntKind.wrap,IntKind.bits,IntKind.signed,Bool.false_and,if_false,Bool.false_eq_true]
 omega
theorem ZY {j:Nat}:((j:Int)+1).toNat=j+1:=by omega
theorem ae1 {P:Program} {L:List Nat} {N n0:Nat} {t:List It} {Q:Exit→Env→AH→Prop} {r:List aQ} {c:Prop} [Decidable c] {x:Option (Env×AH)} (h:c):
 US P L N n0 r t Q (if c then x else none)=US P L N n0 r t Q x:=by rw [if_pos h]
theorem map_if {α β:Type} {f:α→β} {c:Prop} [Decidable c] {x:Option α} (h:c):Option.map f (if c then x else none)=Option.map f x:=by rw [if_pos h]
theorem Kk {L:List Nat} {d:Option Nat} {k b:Nat} {x y:Ar} {e:Env} {ah:AH} {K K':Env→AH→Prop} (h:pR L d k b x y e ah K) (hk:∀e ah,K e ah→K' e ah):pR L d k b x y e ah K':=by
 unfold pR at h ⊢
 split at h
 · obtain ⟨h1,h2,h3,h4,h5,h6⟩:=h
   refine ⟨h1,h2,h3,h4,h5, ?_⟩
   rcases h6 with ⟨g1,g2,g3⟩|⟨cs,g1,g2,g3,g4,g5,g6,g7⟩
   · exact .inl ⟨g1,g2,fun c hc=>hk _ _ (g3 c hc)⟩
   · exact .inr ⟨cs,g1,g2,g3,g4,g5,fun h=>hk _ _ (g6 h),fun h c hc=>hk _ _ (g7 h c hc)⟩
 · exact h
theorem QH {L:List Nat} {d:Option Nat} {n:Bool} {x:Ar} {e:Env} {ah:AH} {K K':Env→AH→Prop} (h:D8 L d n x e ah K) (hk:∀e ah,K e ah→K' e ah):D8 L d n x e ah K':=by
 unfold D8 at h ⊢
 split at h
 · exact ⟨fun h0 b=>hk _ _ (h.1 h0 b),fun h0=>hk _ _ (h.2 h0)⟩
 · exact h
theorem MK {P:Program} {L:List Nat}:∀(l:List aQ) {K K':Env→AH→Prop} {e:Env} {ah:AH},eF P L l e ah K→(∀e ah,K e ah→K' e ah)→eF P L l e ah K':=by
 intro l
 induction l with
 |nil=>intro K K' e ah h hk;exact hk _ _ h
 |cons o r ih=>
  intro K K' e ah h hk
  simp only [eF] at h ⊢
  split at h
  · rename_i hg
    obtain ⟨d,op,g⟩:=o
    cases op with
    |call f zq=>
     simp only [Aw] at h ⊢
     split at h
     · exact ⟨h.1,h.2.mono fun v aI h=>ih h hk⟩
     · exact h
    |mW k b x y=>
     have h':pR L d k b x y e ah (fun e ah=>eF P L r e ah K):=h
     exact Kk h' fun e ah h=>ih h hk
    |nq n x=>
     have h':D8 L d n x e ah (fun e ah=>eF P L r e ah K):=h
     exact QH h' fun e ah h=>ih h hk
    |_=>
     simp only [Aw] at h ⊢
     split at h
     · exact ih h hk
     · exact h
  · exact ih h hk
  · exact h
theorem Kl {P:Program} {L:List Nat} {N n0:Nat}:∀(c:aD) {Q Q':Exit→Env→AH→Prop} {e:Env} {ah:AH},kf P L N n0 c Q e ah→(∀x e ah,Q x e ah→Q' x e ah)→kf P L N n0 c Q' e ah:=by
 intro c
 induction c with
 |skip=>intro Q Q' e ah h hq;exact hq _ _ _ h
 |ret=>intro Q Q' e ah h hq;exact hq _ _ _ h
 |exit i=>intro Q Q' e ah h hq;exact hq _ _ _ h
 |rg ops=>intro Q Q' e ah h hq;exact MK ops h fun e ah h=>hq _ _ _ h
 |seq a b Et Eu=>
  intro Q Q' e ah h hq
  refine Et h fun x e ah h=> ?_
  cases x with
  |normal=>exact Eu h hq
  |_=>exact hq _ _ _ h
 |cond c a b Et Eu=>
  intro Q Q' e ah h hq
  simp only [kf] at h ⊢
  split at h
  · split at h
    · rename_i h1;rw [if_pos h1];exact Et h hq
    · rename_i h1;rw [if_neg h1];exact Eu h hq
  · exact h.elim
 |blk i c ih=>
  intro Q Q' e ah h hq
  refine ih h fun x e ah h=> ?_
  cases x with
  |exit j=>
   simp only at h ⊢
   split at h
   · rename_i h1;rw [if_pos h1];exact hq _ _ _ h
   · rename_i h1;rw [if_neg h1];exact hq _ _ _ h
  |_=>exact hq _ _ _ h
 |loop c ih=>
  intro Q Q' e ah h hq
  exact fun c' cj=>(h c' cj).mono hq
 |sem c ih=>
  intro Q Q' e ah h hq
  exact fun c' cj=>(h c' cj).mono hq
theorem Yz {P:Program} {L:List Nat} {N n0:Nat} {c:aD} {Q Q':Exit→Env→AH→Prop} {e:Env} {ah:AH} (h:U P L N n0 [.code c] Q .normal e ah) (hq:∀x e ah,Q x e ah→Q' x e ah):U P L N n0 [.code c] Q' .normal e ah:=
 Kl c h hq
theorem Uq {e e2:Env} (h:∀p∈e2,p.2= .un∨Am.get e p.1=p.2∨∃t k xs,Am.get e p.1= .sl t k xs∧p.2= .sl .n k xs):∀t,Wk (Am.get e t) (Am.get e2 t):=by
 intro t
 have key:∀e2:Env,Am.get e2 t= .un∨∃p∈e2,p.1=t∧Am.get e2 t=p.2:=by
  intro e2
  induction e2 with
  |nil=>exact .inl rfl
  |cons p r ih=>
   obtain ⟨i,a⟩:=p
   simp only [Am.get]
   split
   · rename_i h;exact .inr ⟨(i,a),by simp,h,rfl⟩
   · rcases ih with h|⟨p,hp,h1,h2⟩
     · exact .inl h
     · exact .inr ⟨p,List.mem_cons_of_mem _ hp,h1,h2⟩
 rcases key e2 with h0|⟨p,hp,rfl,h2⟩
 · rw [h0];exact .un _
 · rw [h2]
   rcases h p hp with h3|h3|⟨tg,k,xs,h3,h4⟩
   · rw [h3];exact .un _
   · rw [h3];exact .same _
   · rw [h3,h4];exact .n ..
def BT (e e2:Env):Prop:=∀p∈e2,p.2= .un∨Am.get e p.1=p.2∨∃t k xs,Am.get e p.1= .sl t k xs∧p.2= .sl .n k xs
theorem QI {P:Program} {L:List Nat} {N n0:Nat} {e:Env} {ah:AH} {t:List It} {Q:Exit→Env→AH→Prop} {c:aD} (J:Nat→Env→AH→Prop) (k0:Nat) (e0:Env) (ho:rq N c=true)
 (hw:∀p∈e0,p.2= .un∨Am.get e p.1=p.2∨∃t k xs,Am.get e p.1= .sl t k xs∧p.2= .sl .n k xs) (h0:J k0 e0 ah)
 (round:∀k e ah,J k e ah→U P L N n0 [.code c] (fun x e' aI=>match x with
  | .normal=>∃k' e2,k'<k∧(∀p∈e2,p.2= .un∨Am.get e' p.1=p.2∨∃t k xs,Am.get e' p.1= .sl t k xs∧p.2= .sl .n k xs)∧J k' e2 aI
  |x=>U P L N n0 t Q x e' aI) .normal e ah):
 UX P L N n0 (.loop c) t Q e ah:=by
 intro c'
 induction c' with
 |loop c0 _=>
  intro cj
  simp only [bQ,Option.map_eq_some_iff] at cj
  obtain ⟨a,ha,he⟩:=cj
  injection he with he
  subst he
  refine AW.loop (fun k e ah=>∃e1,(∀t,Wk (Am.get e t) (Am.get e1 t))∧J k e1 ah) (k0:=k0) ?_ ⟨e0,Uq hw,h0⟩
  rintro k e ah ⟨e1,hw1,hJ⟩
  refine AW.weak hw1 (pO c0 a _ e1 ah (by rw [jI c0 a ha];exact ha) (by rw [jI c0 a ha];exact ho) ?_)
  have:=round k e1 ah hJ
  refine Yz this fun x e' aI h=> ?_
  cases x with
  |normal=>obtain ⟨k',e2,h1,h2,h3⟩:=h;exact ⟨k',h1,e2,Uq h2,h3⟩
  |_=>exact h
 |scope c0 ih=>exact fun cj=>AW.scope (ih cj)
 |region id ops draw=>intro cj;simp only [bQ] at cj;repeat' (split at cj)<;>simp at cj
 |block i c0=>intro cj;simp only [bQ,Option.map_eq_some_iff] at cj;obtain ⟨a, -,h⟩:=cj;cases h
 |seq a b=>intro cj;simp only [bQ] at cj;split at cj<;>simp at cj
 |cond a b c=>intro cj;simp only [bQ] at cj;split at cj<;>simp at cj
 |_=>intro cj;simp [bQ] at cj
theorem acI {P:Program} {L:List Nat} {N n0:Nat} {e:Env} {ah:AH} {t:List It} {Q:Exit→Env→AH→Prop} {c:aD} (J:Nat→Env→AH→Prop) (k0:Nat) (e0:Env) (ho:rq N c=true)
 (hw:BT e e0) (h0:J k0 e0 ah)
 (round:∀(K:Exit→Env→AH→Prop) k e ah,J k e ah→(∀k' e' e2 aI,k'<k→BT e' e2→J k' e2 aI→K .normal e' aI)→(∀e' aI,U P L N n0 t Q .ret e' aI→K .ret e' aI)→
  (∀i e' aI,U P L N n0 t Q (.exit i) e' aI→K (.exit i) e' aI)→U P L N n0 [.code c] K .normal e ah):UX P L N n0 (.loop c) t Q e ah:=
 QI J k0 e0 ho hw h0 fun k e ah hJ=>round _ k e ah hJ (fun k' e' e2 aI h1 h2 h3=>⟨k',e2,h1,h2,h3⟩) (fun _ _ h=>h) (fun _ _ _ h=>h)
theorem BT.nil {e:Env}:BT e []:=by intro p hp;cases hp
theorem BT.same {e r:Env} {i:Nat} {a:AV} (h:Am.get e i=a) (hr:BT e r):BT e ((i,a)::r):=by
 intro p hp
 rcases List.mem_cons.1 hp with rfl|hp
 · exact .inr (.inl h)
 · exact hr p hp
theorem BT.un {e r:Env} {i:Nat} (hr:BT e r):BT e ((i, .un)::r):=by
 intro p hp
 rcases List.mem_cons.1 hp with rfl|hp
 · exact .inl rfl
 · exact hr p hp
theorem BT.sl {e r:Env} {i k:Nat} {tg:Tg} {xs:List AV} (h:Am.get e i= .sl tg k xs) (hr:BT e r):BT e ((i, .sl .n k xs)::r):=by
 intro p hp
 rcases List.mem_cons.1 hp with rfl|hp
 · exact .inr (.inr ⟨_,_,_,h,rfl⟩)
 · exact hr p hp
theorem aG.weak {P:Program} {f:Nat} {args args':List AV} {ah:AH} {R:AV→AH→Prop} (hl:args'.length=args.length) (hw:∀(i:Nat) (a a':AV),args[i]? =some a→args'[i]? =some a'→Wk a a') (h:aG P f args' ah R):
 aG P f args ah R:=by
 refine ⟨h.1,fun F γ C w vs hs=>h.2 F γ C w vs ?_⟩
 rw [hl]
 refine hs.wk fun t=> ?_
 rw [eH,eH]
 simp only [Nat.zero_le,if_true,Nat.sub_zero]
 cases h1:args[t]? with
 |none=>
  have:args'[t]? =none:=by
   rw [List.getElem?_eq_none_iff] at h1 ⊢
   omega
  rw [this];exact .same _
 |some a=>
  have hlt:t<args'.length:=by rw [hl];exact (List.getElem?_eq_some_iff.1 h1).1
  rw [List.getElem?_eq_getElem hlt]
  exact hw t a _ h1 (List.getElem?_eq_getElem hlt)
theorem Km:∀l:List UInt8,bytesOf (l.map b8)=some l:=by
 intro l
 induction l with
 |nil=>rfl
 |cons c r ih=>
  simp only [List.map_cons,b8,bytesOf]
  rw [ih]
  simp
theorem QJ {ah:AH} {i:Nat} {x:List AV} (h:ah[i]? =some x):ah.set i x=ah:=by
 have hlt:=(List.getElem?_eq_some_iff.1 h).1
 apply List.ext_getElem?
 intro j
 rw [List.getElem?_set]
 split
 · rename_i hj;subst hj;simp only [h,ite_eq_left_iff];try exact fun h0=>absurd hlt h0
 · rfl
theorem MH.new {P:Program} {n:Nat} {rs:List ResultVar} {R:AV→AH→Prop} {x:Exit} {e:Env} {ah aI:AH} {vs:List AV} (hx:x= .normal∨x= .ret) (hr:gR P e ah rs=some vs) (ht:ah.take n=aI)
 (hc:Cl n (fin vs)) (hh:mS n aI) (hn:n≤ah.length) (h:R (fin vs) aI):MH P n rs R x e ah:=by
 refine ⟨hx, ?_⟩
 rw [hr]
 simp only [ht]
 exact ⟨hc,hh,hn,h⟩
theorem BU {P:Program} {e:Env} {ah:AH}:gR P e ah []=some []:=rfl
theorem xA {P:Program} {e:Env} {ah:AH} {t:Nat} {rs:List ResultVar} {a:AV} {vs:List AV} (h:Am.get e t=a) (ht:a.eU=false) (hr:gR P e ah rs=some vs):gR P e ah (.tmp t::rs)=some (a::vs):=by
 subst h
 simp only [gR,ht,hr,Bool.false_eq_true,if_false]
theorem gB {P:Program} {e:Env} {ah:AH} {a:Nat} {ty:TypeId} {n:Option Nat} {rs:List ResultVar} {s o:Nat} {cs vs:List AV} {v:AV} (ht:tok P ty=true) (hn:tn P ty=n) (h:Am.get e a= .ptr s o) (hs:ah[s]? =some cs)
 (hl:l5 n s o cs=some v) (hr:gR P e ah rs=some vs):gR P e ah (.cell a ty::rs)=some (v.sh::vs):=by
 subst hn
 simp only [gR,ht,if_true,h,hs,hl,hr]
theorem aG.wkR {P:Program} {f:Nat} {args:List AV} {ah:AH} {R R':AV→AH→Prop} (h:aG P f args ah R) (hr:∀r aI,R r aI→∃r',Wk r r'∧R' r' aI):aG P f args ah R':=by
 refine ⟨h.1,fun F γ C w vs hs=>(h.2 F γ C w vs hs).mono ?_⟩
 rintro en w' ⟨r,v,aI,γ',C',rfl,h1,h2,h3,h4⟩
 obtain ⟨r',g1,g2⟩:=hr r aI h1
 refine ⟨r',v,aI,γ',C',rfl,g2,h2,h3.wk fun t=> ?_,h4⟩
 simp only [Am.get]
 split
 · exact g1
 · exact .same _
theorem Cl.up {n:Nat} {a:AV} (h:Cl n a) {m:Nat} (hm:n≤m):Cl m a:=by
 induction h with
 |ptr s o hs=>exact .ptr _ _ (by omega)
 |fn f cs _ ih=>exact .fn _ _ fun a ha=>ih a ha
 |agg cs _ ih=>exact .agg _ fun a ha=>ih a ha
 |bM cs _ ih=>exact .bM _ fun a ha=>ih a ha
 |v=>exact .v _
 |int=>exact .int ..
 |bool=>exact .bool _
 |str=>exact .str _
 |sl=>exact .sl ..
 |ep e o _ ih=>exact .ep _ _ fun a ha=>ih a ha
 |cJ s k o n hs=>exact .cJ _ _ _ _ (by omega)
 |rM=>exact .rM ..
 |cz s k o n hs=>exact .cz _ _ _ _ (by omega)
 |dW=>exact .dW
 |un=>exact .un
theorem mS.up {n m:Nat} {ah:AH} (h:mS n ah) (hm:n≤m):mS m ah:=fun s cs hs a ha=>(h s cs hs a ha).up hm
theorem mS.app {n:Nat} {ah rj:AH} (h:mS n ah) (h2:mS n rj):mS n (ah++rj):=by
 intro s cs hs a ha
 rw [List.getElem?_append] at hs
 split at hs
 · exact h s cs hs a ha
 · exact h2 _ cs hs a ha
theorem mS.one {n:Nat} {cs:List AV} (h:∀a∈cs,Cl n a):mS n [cs]:=by
 intro s ds hs a ha
 rcases s with _|s
 · simp at hs;subst hs;exact h a ha
 · simp at hs
end Go.Am
end
section
namespace Go.Am
open Go
variable [Tabs]
def W1 (a a':AV):Prop:=a'=a∨∃t k xs,a= .sl t k xs∧a'= .sl .n k xs
def cx:List AV→List AV→Prop
 |[],[]=>True
 |a::r,a'::r'=>W1 a a'∧cx r r'
 |_,_=>False
theorem cx.len:∀ {cs cs':List AV},cx cs cs'→cs'.length=cs.length:=by
 intro cs
 induction cs with
 |nil=>intro cs' h;cases cs' with|nil=>rfl|cons=>exact h.elim
 |cons a r ih=>intro cs' h;cases cs' with|nil=>exact h.elim|cons a' r'=>simp [ih h.2]
theorem cx.get:∀ {cs cs':List AV},cx cs cs'→∀(i:Nat) (a a':AV),cs[i]? =some a→cs'[i]? =some a'→W1 a a':=by
 intro cs
 induction cs with
 |nil=>intro cs' _ i a a' h;simp at h
 |cons a r ih=>
  intro cs' h i b b' h1 h2
  cases cs' with
  |nil=>exact h.elim
  |cons a' r'=>
   rcases i with _|i
   · simp at h1 h2;subst h1;subst h2;exact h.1
   · exact ih h.2 i b b' (by simpa using h1) (by simpa using h2)
def W2 (a a':AV):Prop:=W1 a a'∨∃ds ds',a= .agg ds∧a'= .agg ds'∧cx ds ds'
def oY:List AV→List AV→Prop
 |[],[]=>True
 |a::r,a'::r'=>W2 a a'∧oY r r'
 |_,_=>False
theorem oY.len:∀ {cs cs':List AV},oY cs cs'→cs'.length=cs.length:=by
 intro cs
 induction cs with
 |nil=>intro cs' h;cases cs' with|nil=>rfl|cons=>exact h.elim
 |cons a r ih=>intro cs' h;cases cs' with|nil=>exact h.elim|cons a' r'=>simp [ih h.2]
theorem oY.get:∀ {cs cs':List AV},oY cs cs'→∀(i:Nat) (a a':AV),cs[i]? =some a→cs'[i]? =some a'→W2 a a':=by
 intro cs
 induction cs with
 |nil=>intro cs' _ i a a' h;simp at h
 |cons a r ih=>
  intro cs' h i b b' h1 h2
  cases cs' with
  |nil=>exact h.elim
  |cons a' r'=>
   rcases i with _|i
   · simp at h1 h2;subst h1;subst h2;exact h.1
   · exact ih h.2 i b b' (by simpa using h1) (by simpa using h2)
theorem W2.wk {a a':AV} (h:W2 a a'):Wk a a':=by
 rcases h with (rfl|⟨t,k,xs,rfl,rfl⟩)|⟨ds,ds',rfl,rfl,h⟩
 · exact .same _
 · exact .n ..
 · exact .agg _ _ h.len h.get
theorem W2.tcy {a a':AV} {v:Value} (h:W2 a a') (ht:HL a v):HL a' v:=by
 rcases h with (rfl|⟨t,k,xs,rfl,rfl⟩)|⟨ds,ds',rfl,rfl,h⟩
 · exact ht
 · exact Tm ..
 · cases v with
   |agg vs=>
    intro i a' hi
    have hlt:i<ds.length:=by rw [←h.len];exact (List.getElem?_eq_some_iff.1 hi).1
    rcases h.get i _ _ (List.getElem?_eq_getElem hlt) hi with e|⟨t,k,xs,e1,rfl⟩
    · rw [e];exact ht i _ (List.getElem?_eq_getElem hlt)
    · exact HM ..
   |_=>trivial
inductive Wx:AV→AV→Prop
 |wk (a a'):Wk a a'→(∀l k xs,a'≠ .sl (.fr l) k xs)→Wx a a'
 |own (k xs):Wx (.sl .ex k xs) (.sl .own k xs)
 |Pz (cs cs'):oY cs cs'→Wx (.bM cs) (.bM cs')
def vt (cs cs':List AV):Prop:=cs'.length=cs.length∧∀(i:Nat) (a a':AV),cs[i]? =some a→cs'[i]? =some a'→Wx a a'
def eV (ah aI:AH):Prop:=aI.length=ah.length∧∀(s:Nat) (cs':List AV),aI[s]? =some cs'→∃cs,ah[s]? =some cs∧(cs'=cs∨vt cs cs')
def WS (e:Env) (ah:AH) (e1:Env) (b7:AH):Prop:=(∀t,Wx (get e t) (get e1 t))∧eV ah b7
theorem Wx.vr {C:Nat→List Value} {γ:List Nat} {a a':AV} {v:Value} (hw:Wx a a') (h:VR C γ a v):VR C γ a' v:=by
 cases hw with
 |wk _ _ hk=>exact hk.vr h
 |own=>exact h.j9 _
 |Pz cs cs' hc=>
  obtain ⟨vs,rfl,hs,hv⟩:=h.vW
  refine .bM _ _ _ (by rw [hc.len];exact hs) fun i a' hi=> ?_
  have hlt:i<cs.length:=by rw [←hc.len];exact (List.getElem?_eq_some_iff.1 hi).1
  exact (hc.get i _ _ (List.getElem?_eq_getElem hlt) hi).wk.vr (hv i _ (List.getElem?_eq_getElem hlt))
theorem Wx.tc {w:World} {C:Nat→List Value} {γ:List Nat} {a a':AV} {v:Value} (hw:Wx a a') (hv:VR C γ a v) (h:TC w C a v):TC w C a' v:=by
 cases hw with
 |wk _ _ hk=>exact hk.tc h
 |own k xs=>
  obtain ⟨ad,c,rfl, -⟩:=hv.fE
  exact .inl h
 |Pz cs cs' hc=>
  obtain ⟨vs,rfl, -, -⟩:=hv.vW
  intro i a' hi
  have hlt:i<cs.length:=by rw [←hc.len];exact (List.getElem?_eq_some_iff.1 hi).1
  exact (hc.get i _ _ (List.getElem?_eq_getElem hlt) hi).tcy (h i _ (List.getElem?_eq_getElem hlt))
theorem Wx.bS {w:World} {C:Nat→List Value} {γ:List Nat} {a a':AV} {v:Value} {b:Nat} (hw:Wx a a') (hv:VR C γ a v) (ht:TC w C a v) (h:bS a' v=some b):Am.bS a v=some b:=by
 cases hw with
 |wk _ _ hk=>exact hk.own h
 |own k xs=>
  obtain ⟨ad,c,rfl, -⟩:=hv.fE
  have hc:c=xs.length:=ht
  subst hc
  cases ad<;>simp [Am.bS] at h
 |Pz=>simp [Am.bS] at h
theorem SR.wx {L N F γ C e ah ts w} (h:SR L N F γ C e ah ts w) {e':Env} {aI:AH} (hw:WS e ah e' aI):SR L N F γ C e' aI ts w:=by
 obtain ⟨he,hl,hh⟩:=hw
 have hb:∀p b,blk γ e' aI ts w p b→blk γ e ah ts w p b:=by
  intro p b hp
  cases p with
  |obj s=>exact hp
  |tmp t=>exact (he t).bS (h.env t).1 (h.env t).2 hp
  |cell s i=>
   obtain ⟨cs',a',b0,h1,h2,h3,h4⟩:=hp
   obtain ⟨cs,g1,g2⟩:=hh s cs' h1
   rcases g2 with rfl|⟨g2,g3⟩
   · exact ⟨_,a',b0,g1,h2,h3,h4⟩
   · have hlt:i<cs.length:=by rw [←g2];exact (List.getElem?_eq_some_iff.1 h2).1
     have h0:cs[i]? =some cs[i]:=List.getElem?_eq_getElem hlt
     refine ⟨cs,cs[i],b0,g1,h0,h3, ?_⟩
     obtain ⟨vs,ty,q1,q2,q3⟩:=h.mem.obj s b0 cs g1 h3
     have hc:(w.cell? ⟨b0,i,none⟩).getD undef=vs.getD i undef:=by
      rw [dh q1];simp [Array.getD_eq_getD_getElem?]
     rw [hc] at h4 ⊢
     exact (g3 i _ _ h0 h2).bS (q3 i _ h0).1 (q3 i _ h0).2 h4
 refine ⟨⟨by rw [h.mem.len,hl],fun s b cs' h1 h2=> ?_,h.mem.ue,fun s b cs' h1 hne h2=> ?_,fun s b cs' us ty fr h1 h2 h3=> ?_⟩,h.sz,fun t=>⟨(he t).vr (h.env t).1,(he t).tc (h.env t).1 (h.env t).2⟩,fun p q b hp hq=>h.dK p q b (hb p b hp) (hb q b hq),
  fun p b hp=>h.nf p b (hb p b hp),h.kA,fun t l k xs ht=> ?_⟩
 · obtain ⟨cs,g1,g2⟩:=hh s cs' h1
   obtain ⟨vs,ty,q1,q2,q3⟩:=h.mem.obj s b cs g1 h2
   rcases g2 with rfl|⟨g2,g3⟩
   · exact ⟨vs,ty,q1,q2,q3⟩
   · refine ⟨vs,ty,q1,by omega,fun i a' hi=> ?_⟩
     have hlt:i<cs.length:=by rw [←g2];exact (List.getElem?_eq_some_iff.1 hi).1
     have h0:cs[i]? =some cs[i]:=List.getElem?_eq_getElem hlt
     exact ⟨(g3 i _ _ h0 hi).vr (q3 i _ h0).1,(g3 i _ _ h0 hi).tc (q3 i _ h0).1 (q3 i _ h0).2⟩
 · obtain ⟨cs,g1,g2⟩:=hh s cs' h1
   refine h.mem.pU s b cs g1 ?_ h2
   rintro rfl
   rcases g2 with rfl|⟨g2, -⟩
   · exact hne rfl
   · exact hne (List.eq_nil_of_length_eq_zero g2)
 · obtain ⟨cs,g1,g2⟩:=hh s cs' h1
   have hl':cs'.length=cs.length:=by
    rcases g2 with rfl|⟨g2, -⟩
    · rfl
    · exact g2
   rw [hl']
   exact h.mem.BI s b cs us ty fr g1 h2 h3
 · exfalso
   have:=he t
   rw [ht] at this
   generalize get e t=a at this
   cases this with
   |wk _ _ _ hn=>exact hn l k xs rfl
theorem eV.refl (ah:AH):eV ah ah:=⟨rfl,fun s cs h=>⟨cs,h, .inl rfl⟩⟩
theorem eV.set {ah:AH} {q:Nat} {cs cs':List AV} (hq:ah[q]? =some cs) (hc:vt cs cs'):eV ah (ah.set q cs'):=by
 refine ⟨by simp,fun s ds hs=> ?_⟩
 rw [List.getElem?_set] at hs
 split at hs
 · rename_i h;subst h
   split at hs
   · injection hs with hs;subst hs;exact ⟨cs,hq, .inr hc⟩
   · cases hs
 · exact ⟨ds,hs, .inl rfl⟩
theorem Wx.un (a:AV):Wx a .un:= .wk _ _ (.un _) (by simp)
theorem Wx.n {t:Tg} {k:Nat} {xs:List AV}:Wx (.sl t k xs) (.sl .n k xs):= .wk _ _ (.n ..) (by simp)
theorem Wx.same {a:AV} (h:∀l k xs,a≠ .sl (.fr l) k xs):Wx a a:= .wk _ _ (.same _) h
theorem Wx.int {k:IntKind} {i:Int}:Wx (.int k i) (.int k i):= .same (by simp)
theorem Wx.b8 {c:UInt8}:Wx (b8 c) (b8 c):= .same (by simp [Am.b8])
theorem Wx.bool {b:Bool}:Wx (.bool b) (.bool b):= .same (by simp)
theorem Wx.str {l:List UInt8}:Wx (.str l) (.str l):= .same (by simp)
theorem Wx.ptr {s o:Nat}:Wx (.ptr s o) (.ptr s o):= .same (by simp)
theorem Wx.v {x:Value}:Wx (.v x) (.v x):= .same (by simp)
theorem Wx.fn {f:Nat} {cs:List AV}:Wx (.fn f cs) (.fn f cs):= .same (by simp)
theorem Wx.ep {a:AV} {o:Nat}:Wx (.ep a o) (.ep a o):= .same (by simp)
theorem Wx.ex {k:Nat} {xs:List AV}:Wx (.sl .ex k xs) (.sl .ex k xs):= .same (by simp)
theorem Wx.nn {k:Nat} {xs:List AV}:Wx (.sl .n k xs) (.sl .n k xs):= .same (by simp)
theorem Wx.oo {k:Nat} {xs:List AV}:Wx (.sl .own k xs) (.sl .own k xs):= .same (by simp)
theorem Wx.agg {cs cs':List AV} (h:cx cs cs'):Wx (.agg cs) (.agg cs'):= .wk _ _ (.agg _ _ h.len h.get) (by simp)
theorem Wx.bM {cs cs':List AV} (h:cx cs cs'):Wx (.bM cs) (.bM cs'):= .wk _ _ (.bM _ _ h.len h.get) (by simp)
theorem Wx.adk {cs cs':List AV} (h:oY cs cs'):Wx (.bM cs) (.bM cs'):= .Pz _ _ h
theorem oY.nil:oY [] []:=trivial
theorem oY.same {a:AV} {r r':List AV} (h:oY r r'):oY (a::r) (a::r'):=⟨.inl (.inl rfl),h⟩
theorem oY.n {t:Tg} {k:Nat} {xs:List AV} {r r':List AV} (h:oY r r'):oY (.sl t k xs::r) (.sl .n k xs::r'):=⟨.inl (.inr ⟨_,_,_,rfl,rfl⟩),h⟩
theorem oY.agg {ds ds':List AV} {r r':List AV} (hd:cx ds ds') (h:oY r r'):oY (.agg ds::r) (.agg ds'::r'):=⟨.inr ⟨_,_,rfl,rfl,hd⟩,h⟩
theorem cx.nil:cx [] []:=trivial
theorem cx.same {a:AV} {r r':List AV} (h:cx r r'):cx (a::r) (a::r'):=⟨.inl rfl,h⟩
theorem cx.n {t:Tg} {k:Nat} {xs:List AV} {r r':List AV} (h:cx r r'):cx (.sl t k xs::r) (.sl .n k xs::r'):=⟨.inr ⟨_,_,_,rfl,rfl⟩,h⟩
theorem vt.nil:vt [] []:=⟨rfl,fun i a a' h=>by simp at h⟩
theorem vt.cons {a a':AV} {r r':List AV} (h:Wx a a') (hr:vt r r'):vt (a::r) (a'::r'):=by
 refine ⟨by simp [hr.1],fun i b b' h1 h2=> ?_⟩
 rcases i with _|i
 · simp at h1 h2;subst h1;subst h2;exact h
 · exact hr.2 i b b' (by simpa using h1) (by simpa using h2)
def WE (e e1:Env):Prop:=∀p∈e1,Wx (Am.get e p.1) p.2
theorem WE.nil {e:Env}:WE e []:=by intro p hp;cases hp
theorem WE.cons {e r:Env} {i:Nat} {a:AV} (h:Wx (Am.get e i) a) (hr:WE e r):WE e ((i,a)::r):=by
 intro p hp
 rcases List.mem_cons.1 hp with rfl|hp
 · exact h
 · exact hr p hp
theorem WE.all {e e1:Env} (h:WE e e1):∀t,Wx (Am.get e t) (Am.get e1 t):=by
 intro t
 have key:∀e1:Env,Am.get e1 t= .un∨∃p∈e1,p.1=t∧Am.get e1 t=p.2:=by
  intro e1
  induction e1 with
  |nil=>exact .inl rfl
  |cons p r ih=>
   obtain ⟨i,a⟩:=p
   simp only [Am.get]
   split
   · rename_i h;exact .inr ⟨(i,a),by simp,h,rfl⟩
   · rcases ih with h|⟨p,hp,h1,h2⟩
     · exact .inl h
     · exact .inr ⟨p,List.mem_cons_of_mem _ hp,h1,h2⟩
 rcases key e1 with h0|⟨p,hp,rfl,h2⟩
 · rw [h0];exact Wx.un _
 · rw [h2];exact h p hp
section
variable {P:Program} {L:List Nat} {N n0:Nat} {e:Env} {ah:AH} {t:List It} {Q K:Exit→Env→AH→Prop} {r:List aQ} {d:Option Nat}
theorem AW.H9 {c:Code} {e1:Env} {b7:AH} (hw:WS e ah e1 b7) (h:AW P L N n0 c Q e1 b7):AW P L N n0 c Q e ah:=
 fun F γ C ts w hs hn=>h F γ C ts w (hs.wx hw) hn
theorem AW.closed {c:Code} (h:AW P L N n0 c (fun x e ah=>Q x e ah∨∃e1 b7,WS e ah e1 b7∧Q x e1 b7) e ah):AW P L N n0 c Q e ah:=by
 intro F γ C ts w hs hn
 refine wp_mono (h F γ C ts w hs hn) ?_
 rintro x a w' ⟨hd,hg,e',aI,γ',C',h1,h2,h3,h4⟩
 rcases h1 with h1|⟨e1,b7,hw,h1⟩
 · exact ⟨hd,hg,e',aI,γ',C',h1,h2,h3,h4⟩
 · exact ⟨hd,hg,e1,b7,γ',C',h1,h2,h3.wx hw,h4⟩
theorem AX.weak {c:aD} {e1:Env} {b7:AH} (he:WE e e1) (hh:eV ah b7) (h:AX P L N n0 c Q e1 b7):AX P L N n0 c Q e ah:=
 fun c' cj=>AW.H9 ⟨he.all,hh⟩ (h c' cj)
theorem AX.mono {c:aD} {Q':Exit→Env→AH→Prop} (h:AX P L N n0 c Q e ah) (hq:∀x e ah,Q x e ah→Q' x e ah):AX P L N n0 c Q' e ah:=
 fun c' cj=>(h c' cj).mono hq
theorem AX.go {m c:aD} (hm:erase m=c) (ho:rq N c=true)
 (h:∀K':Exit→Env→AH→Prop,(∀x e ah e1 b7,WE e e1→eV ah b7→K x e1 b7→K' x e ah)→U P L N n0 [.code m] K' .normal e ah):AX P L N n0 c K e ah:=by
 subst hm
 intro c' cj
 refine AW.closed (pO c' m _ e ah cj ho (h _ ?_))
 intro x e ah e1 b7 h1 h2 h3
 exact .inr ⟨e1,b7,⟨h1.all,h2⟩,h3⟩
theorem aaX {c:aD} (h:AX P L N n0 c (fun x e ah=>U P L N n0 t Q x e ah) e ah):UX P L N n0 c t Q e ah:=h
inductive St (ρ τ σ:Type) where
 |ret (r:ρ)
 |fF (t:τ)
 |cK (s:σ)
def iter {ρ τ σ:Type} (body:σ→Option (St ρ τ σ)):Nat→σ→Option (ρ⊕τ)
 |0,_=>none
 |n+1,s=>match body s with
  |none=>none
  |some (.ret r)=>some (.inl r)
  |some (.fF t)=>some (.inr t)
  |some (.cK s')=>iter body n s'
theorem AX.iter {ρ τ σ:Type} {body:σ→Option (St ρ τ σ)} {m c:aD} (hm:erase m=c) (ho:rq N c=true) (J:σ→Env→AH→Prop) {F:Nat} {s0:σ} {o:ρ⊕τ} (hit:Am.iter body F s0=some o) (h0:J s0 e ah)
 (round:∀(K':Exit→Env→AH→Prop) s st e ah,J s e ah→body s=some st→
  (∀s',st= .cK s'→∀e' aI e1 b7,WE e' e1→eV aI b7→J s' e1 b7→K' .normal e' aI)→
  (∀t,st= .fF t→o= .inr t)→(∀r,st= .ret r→o= .inl r)→
  (∀x e' aI e1 b7,x≠ .normal→WE e' e1→eV aI b7→K x e1 b7→K' x e' aI)→U P L N n0 [.code m] K' .normal e ah):AX P L N n0 (.loop c) K e ah:=by
 subst hm
 intro c'
 induction c' with
 |loop c0 _=>
  intro cj
  simp only [bQ,Option.map_eq_some_iff] at cj
  obtain ⟨a,ha,he⟩:=cj
  injection he with he
  subst he
  refine AW.loop (fun k e ah=>∃s e1 b7,WS e ah e1 b7∧J s e1 b7∧Am.iter body k s=some o∨(J s e ah∧Am.iter body k s=some o)) (k0:=F) ?_ ⟨s0,e,ah, .inr ⟨h0,hit⟩⟩
  have main:∀k s e ah,J s e ah→Am.iter body k s=some o→AW P L N n0 c0 (fun x e' aI=>match x with
   | .normal=>∃k',k'<k∧∃s e1 b7,WS e' aI e1 b7∧J s e1 b7∧Am.iter body k' s=some o∨(J s e' aI∧Am.iter body k' s=some o)|x=>K x e' aI) e ah:=by
   intro k s e ah hJ hk
   cases k with
   |zero=>simp [Am.iter] at hk
   |succ k=>
    cases hb:body s with
    |none=>simp [Am.iter,hb] at hk
    |some st=>
     simp only [Am.iter,hb] at hk
     refine AW.closed (pO c0 m _ e ah ha ho (round _ s st e ah hJ hb ?_ ?_ ?_ ?_))
     · rintro s' rfl e' aI e1 b7 g1 g2 g3
       exact .inl ⟨k,Nat.lt_succ_self k,s',e1,b7, .inl ⟨⟨g1.all,g2⟩,g3,hk⟩⟩
     · rintro t rfl;simp only [Option.some.injEq] at hk;exact hk.symm
     · rintro r rfl;simp only [Option.some.injEq] at hk;exact hk.symm
     · intro x e' aI e1 b7 hx g1 g2 g3
       cases x with
       |normal=>exact absurd rfl hx
       |_=>exact .inr ⟨e1,b7,⟨g1.all,g2⟩,g3⟩
  rintro k e ah ⟨s,e1,b7,⟨hw,hJ,hk⟩|⟨hJ,hk⟩⟩
  · exact AW.H9 hw (main k s e1 b7 hJ hk)
  · exact main k s e ah hJ hk
 |scope c0 ih=>exact fun cj=>AW.scope (ih cj)
 |region id ops draw=>intro cj;simp only [bQ] at cj;repeat' (split at cj)<;>simp at cj
 |block i c0=>intro cj;simp only [bQ,Option.map_eq_some_iff] at cj;obtain ⟨a, -,h⟩:=cj;cases h
 |seq a b=>intro cj;simp only [bQ] at cj;split at cj<;>simp at cj
 |cond a b c=>intro cj;simp only [bQ] at cj;split at cj<;>simp at cj
 |_=>intro cj;simp [bQ] at cj
theorem aG.wkx {f:Nat} {args:List AV} {ah:AH} {R R':AV→AH→Prop} (h:aG P f args ah R) (hr:∀r aI,R r aI→∃r' Ew,Wx r r'∧eV aI Ew∧R' r' Ew):aG P f args ah R':=by
 refine ⟨h.1,fun F γ C w vs hs=>(h.2 F γ C w vs hs).mono ?_⟩
 rintro en w' ⟨r,v,aI,γ',C',rfl,h1,h2,h3,h4⟩
 obtain ⟨r',Ew,g1,g2,g3⟩:=hr r aI h1
 refine ⟨r',v,Ew,γ',C',rfl,g3,h2,h3.wx ⟨fun t=> ?_,g2⟩,h4⟩
 simp only [Am.get]
 split
 · exact g1
 · exact Wx.un _
def WL:List AV→List AV→Prop
 |[],[]=>True
 |a::r,a'::r'=>Wx a a'∧WL r r'
 |_,_=>False
theorem WL.nil:WL [] []:=trivial
theorem WL.cons {a a':AV} {r r':List AV} (h:Wx a a') (hr:WL r r'):WL (a::r) (a'::r'):=⟨h,hr⟩
theorem WL.len:∀ {zq zq':List AV},WL zq zq'→zq'.length=zq.length:=by
 intro zq
 induction zq with
 |nil=>intro zq' h;cases zq' with|nil=>rfl|cons=>exact h.elim
 |cons a r ih=>intro zq' h;cases zq' with|nil=>exact h.elim|cons a' r'=>simp [ih h.2]
theorem WL.get:∀ {zq zq':List AV},WL zq zq'→∀(i:Nat) (a a':AV),zq[i]? =some a→zq'[i]? =some a'→Wx a a':=by
 intro zq
 induction zq with
 |nil=>intro zq' _ i a a' h;simp at h
 |cons a r ih=>
  intro zq' h i b b' h1 h2
  cases zq' with
  |nil=>exact h.elim
  |cons a' r'=>
   rcases i with _|i
   · simp at h1 h2;subst h1;subst h2;exact h.1
   · exact ih h.2 i b b' (by simpa using h1) (by simpa using h2)
theorem aG.H9 {f:Nat} {args args':List AV} {ah b7:AH} {R:AV→AH→Prop} (hw:WL args args') (hh:eV ah b7) (h:aG P f args' b7 R):aG P f args ah R:=by
 refine ⟨h.1,fun F γ C w vs hs=>h.2 F γ C w vs ?_⟩
 rw [hw.len]
 refine hs.wx ⟨fun t=> ?_,hh⟩
 rw [eH,eH]
 simp only [Nat.zero_le,if_true,Nat.sub_zero]
 cases h1:args[t]? with
 |none=>
  have:args'[t]? =none:=by
   rw [List.getElem?_eq_none_iff] at h1 ⊢
   rw [hw.len];exact h1
  rw [this];exact Wx.un _
 |some a=>
  have hlt:t<args'.length:=by rw [hw.len];exact (List.getElem?_eq_some_iff.1 h1).1
  rw [List.getElem?_eq_getElem hlt]
  exact hw.get t a _ h1 (List.getElem?_eq_getElem hlt)
theorem ZZ {f:Nat} {zq zq':List AV} {b7:AH} {R:AV→AH→Prop} (h:aG P f zq' b7 R) (hw:WL zq zq') (hh:eV ah b7) (hk:∀v aI,R v aI→U P L N n0 (.ops r::t) Q .normal (aK L (wq e) d v.df) aI):
 UK P L N n0 f zq d r t Q e ah:=(h.H9 hw hh).mono hk
def wA (P:Program) (ah:AH) (rs:List ResultVar) (R:AV→AH→Prop) (e':Env) (H:AH):Prop:=
 ∃vs r' aI,gR P e' H rs=some vs∧Wx (fin vs) r'∧R r' aI∧
  ((Cl ah.length (fin vs)∧mS ah.length (H.take ah.length)∧ah.length≤H.length∧eV (H.take ah.length) aI)∨eV H aI)
theorem aG.goX {f:Nat} {rs:List ResultVar} {ac m:aD} (hF:bz P f N rs ac) (hm:erase m=ac) {args:List AV} {R:AV→AH→Prop} (L:List Nat)
 (ho:rq N ac=true) (hN:args.length≤N)
 (h:mS ah.length ah→∀K:Exit→Env→AH→Prop,(∀x e' H,x= .normal∨x= .ret→wA P ah rs R e' H→K x e' H)→
  AX P L N ah.length ac K (fA 0 args) ah):aG P f args ah R:=by
 refine aG.wkx (R:=fun r aI=>∃r' Ew,Wx r r'∧eV aI Ew∧R r' Ew) ?_ (fun r aI h=>h)
 obtain ⟨fn,c,h1,h2,h3,h4,rfl,rfl⟩:=hF
 refine aG.Pq L h1 h2 h3 h4 ho hN ?_
 intro hcl hargs
 refine h hcl _ ?_
 rintro x e' H hx ⟨vs,r',aI,g1,g2,g3,⟨g4,g5,g6,g7⟩|g4⟩
 · refine .inl ⟨ah.length,Nat.le_refl _,hx, ?_⟩
   rw [g1]
   exact ⟨g4,g5,g6,r',aI,g2,g7,g3⟩
 · refine .inr ⟨hx, ?_⟩
   rw [g1]
   exact ⟨r',aI,g2,g4,g3⟩
end
end Go.Am
end
section
namespace Go.Am
open Go
variable [Tabs]
def idx {α:Type} (l:List α) (i:Int):Option α:=if 0≤i then l[i.toNat]? else none
def sub {α:Type} (l:List α) (i j:Int):Option (List α):=if 0≤i∧i≤j∧j≤l.length then some ((l.take j.toNat).drop i.toNat) else none
def ct {α:Type} (b:Nat) (xs ys:List α):Option (List α):=if (xs.length+ys.length)*b≤140737488355328∧xs.length+ys.length≤4611686018427387904 then some (xs++ys) else none
def cat (l m:List UInt8):Option (List UInt8):=if l.length+m.length≤9223372036854775807 then some (l++m) else none
def ml {α:Type} (f:α→AV) (xs:List α):List AV:=xs.map f
def dv (k:IntKind) (i j:Int):Option Int:=if j=0 then none else some (k.wrap (i.tdiv j))
def rm (k:IntKind) (i j:Int):Option Int:=if j=0 then none else some (i.tmod j)
def shl (k:IntKind) (i j:Int):Int:=k.wrap (i*2 ^ (min j.toNat k.bits))
def shr (k:IntKind) (i j:Int):Int:=i.fdiv (2 ^ (min j.toNat k.bits))
def yB (k:IntKind) (i j:Int):Int:=k.wrap (BitVec.ofInt k.bits i &&& BitVec.ofInt k.bits j).toNat
def Kn (k:IntKind) (i j:Int):Int:=k.wrap (BitVec.ofInt k.bits i ||| BitVec.ofInt k.bits j).toNat
def tC (k:IntKind) (i j:Int):Int:=k.wrap (BitVec.ofInt k.bits i ^^^ BitVec.ofInt k.bits j).toNat
def jY (k:IntKind) (i:Int):AV:= .int k i
theorem ay {α β:Type} {o:Option α} {f:α→Option β} {r:β} (h:o.bind f=some r):∃x,o=some x∧f x=some r:=Option.bind_eq_some_iff.1 h
theorem ifb {β:Type} {B:Bool} {x y:Option β} {r:β} (h:(if B=true then x else y)=some r):(B=true∧x=some r)∨(B=false∧y=some r):=by
 cases B
 · exact .inr ⟨rfl,h⟩
 · exact .inl ⟨rfl,h⟩
theorem Ur {β:Type} {p:Prop} [Decidable p] {x:Option β} {r:β} (h:(if p then x else none)=some r):p∧x=some r:=by
 split at h
 · exact ⟨by assumption,h⟩
 · cases h
theorem PA {α:Type} (f:α→AV) (l:List α) (i:Int):idx (ml f l) i=(idx l i).map f:=by
 unfold idx ml;split<;>simp
theorem Ia {α:Type} (f:α→AV) (l:List α) (i j:Int):sub (ml f l) i j=(sub l i j).map (ml f):=by
 unfold sub ml;simp only [List.length_map];split<;>simp [List.map_take,List.map_drop,ml]
theorem Ib {α:Type} (f:α→AV) (l:List α):(ml f l).length=l.length:=by simp [ml]
theorem dI {α:Type} {f:α→AV} {b:Nat} {xs ys zs:List α} (h:ct b xs ys=some zs):ct b (ml f xs) (ml f ys)=some (ml f zs):=by
 unfold ct at h ⊢
 simp only [Ib]
 obtain ⟨hc,h⟩:=Ur h
 rw [if_pos hc]
 injection h with h
 subst h
 simp [ml]
theorem CU (l:List UInt8):bytesOf (ml b8 l)=some l:=Km l
section
variable {P:Program} {L:List Nat} {N n0:Nat} {e:Env} {ah:AH} {t:List It} {Q:Exit→Env→AH→Prop} {r:List aQ} {d:Option Nat} {g:Option (Nat×Bool)}
theorem aaY {y:Nat} {bs:List UInt8}:UG P L N n0 ⟨d, .lit y bs,g⟩ r t Q e ah (some true)=U P L N n0 (It.ops r::t) Q Exit.normal (put (aK L e d (.sl .ex 1 (ml b8 bs))) y .un) ah:=rfl
theorem PB {l:List UInt8} {k:IntKind} {i:Int}:Kj L e ah d (.str l) (.int k i)=(idx l i).map fun c=>(aK L e d (b8 c),ah):=by
 simp only [Kj,idx]
 split
 · cases l[i.toNat]? <;>rfl
 · rfl
theorem PC {tg:Tg} {k:Nat} {xs:List AV} {ki:IntKind} {i:Int}:tB L e ah d k (.sl tg k xs) (.int ki i)=(idx xs i).map fun a=>(aK L e d (.ep a 0),ah):=by
 simp only [tB,idx]
 split
 · cases xs[i.toNat]? <;>simp [Px]
 · rfl
def bI (e:Env) (dflt:Int):Option Ar→AV
 |none=> .int .i64 dflt
 |some x=>ev e x
def PD (L:List Nat) (e:Env) (ah:AH) (d:Option Nat) (l:List UInt8):AV→AV→Option (Env×AH)
 | .int _ i, .int _ j=>(sub l i j).map fun m=>(aK L e d (.str m),ah)
 |_,_=>none
theorem Ic {n:Nat} {x:Option Ar}:mR e n x=uV (bI e n x):=by
 cases x with
 |none=>simp [mR,bI,uV]
 |some x=>simp only [Um,bI]
theorem Ex {x:Option Ar}:mR e 0 x=uV (bI e 0 x):=Ic (n:=0)
theorem acJ {k:IntKind} {i:Int}:uV (.int k i)=if 0≤i then some i.toNat else none:=rfl
theorem Ey {α:Type} (l:List α) (i j:Int):sub l i j=if 0≤i then if 0≤j then if i.toNat≤j.toNat∧j.toNat≤l.length then some ((l.take j.toNat).drop i.toNat) else none else none else none:=by
 unfold sub
 by_cases h1:0≤i
 · by_cases h2:0≤j
   · simp only [if_pos h1,if_pos h2]
     have:(0≤i∧i≤j∧j≤(l.length:Int))↔(i.toNat≤j.toNat∧j.toNat≤l.length):=by omega
     simp only [this]
   · rw [if_neg (by omega)];simp [h2]
 · rw [if_neg (by omega)];simp [h1]
theorem YA {l:List UInt8} {lo hi:Option Ar}:Pu L e ah d lo hi (.str l)=PD L e ah d l (bI e 0 lo) (bI e l.length hi):=by
 simp only [Pu,Ex,Ic]
 generalize bI e 0 lo=a
 generalize bI e l.length hi=b
 cases a with
 |int k i=>
  cases b with
  |int k' j=>
   simp only [uV,PD,Ey]
   by_cases h1:0≤i<;>by_cases h2:0≤j<;>simp only [h1,h2,if_true,if_false,Pt,Option.map_none]
   split<;>rfl
  |_=>simp only [uV,PD];split<;>rfl
 |_=>cases b<;>rfl
def PF (L:List Nat) (e:Env) (ah:AH) (d:Option Nat) (k:Nat) (xs:List AV):AV→AV→Option (Env×AH)
 | .int _ i, .int _ j=>(sub xs i j).map fun ys=>(aK L e d (.sl .n k ys),ah)
 |_,_=>none
theorem YB {tg:Tg} {k:Nat} {xs:List AV} {lo hi:Option Ar}:Pw L e ah d k lo hi (.sl tg k xs)=PF L e ah d k xs (bI e 0 lo) (bI e xs.length hi):=by
 simp only [Pw,Ex,Ic]
 generalize bI e 0 lo=a
 generalize bI e xs.length hi=b
 cases a with
 |int k i=>
  cases b with
  |int k' j=>
   simp only [uV,PF,Ey]
   by_cases h1:0≤i<;>by_cases h2:0≤j<;>simp only [h1,h2,if_true,if_false,Pv,Option.map_none,true_and]
   split<;>rfl
  |_=>simp only [uV,PF];split<;>rfl
 |_=>cases b<;>rfl
def wB {α:Type} (l:List α) (i j m:Int):Option (List α):=if j=m then sub l i j else none
theorem Ko {α:Type} (f:α→AV) (l:List α) (i j m:Int):wB (ml f l) i j m=(wB l i j m).map (ml f):=by
 unfold wB;split
 · exact Ia ..
 · rfl
def Ez (L:List Nat) (e:Env) (ah:AH) (d:Option Nat) (k:Nat) (xs:List AV):AV→AV→AV→Option (Env×AH)
 | .int _ i, .int _ j, .int _ m=>(wB xs i j m).map fun ys=>(aK L e d (.sl .ex k ys),ah)
 |_,_,_=>none
theorem Us {tg:Tg} {k:Nat} {xs:List AV} {lo:Option Ar} {hi m:Ar}:H8 L e ah d k lo hi m (.sl tg k xs)=Ez L e ah d k xs (bI e 0 lo) (ev e hi) (ev e m):=by
 simp only [H8,Ex,Um]
 generalize bI e 0 lo=a
 generalize ev e hi=b
 generalize ev e m=c
 cases a with
 |int k i=>
  cases b with
  |int k' j=>
   cases c with
   |int k'' l=>
    simp only [uV,Ez,wB,Ey]
    by_cases h1:0≤i<;>by_cases h2:0≤j<;>by_cases h3:0≤l<;>by_cases h4:j=l<;>simp only [h1,h2,h3,h4,if_true,if_false,H7,Option.map_none,true_and]
    all_goals first
     |rfl
     |(exfalso;omega)
     |(subst h4;split<;>rename_i q<;>split<;>rename_i q2<;>first|rfl|(exfalso;omega))
     |(split<;>first|rfl|(exfalso;omega))
   |_=>simp only [uV,Ez];repeat' split
       all_goals first|rfl|skip
  |_=>simp only [uV,Ez];repeat' split
      all_goals first|rfl|skip
 |_=>cases b<;>cases c<;>rfl
theorem YC {tg:Tg} {k b:Nat} {x:Ar} {ys:List AV}:Uo L e ah d k b x (.sl tg k ys)=yz L e ah d k b x ys:=by simp [Uo]
theorem Ut {b:Nat} {x:Ar} {l:List UInt8}:Up L e ah d b x (.str l)=yz L e ah d 1 b x (ml b8 l):=rfl
def sP (L:List Nat) (e:Env) (ah:AH) (d:Option Nat) (k:Nat) (x:Ar) (xs zs:List AV):Tg→Option (Env×AH)
 | .ex=>some (aK L e d (.sl .own k zs),ah)
 | .own=>match x with
   | .t x=>some (aK L (put e x (.sl .n k xs)) d (.sl .own k zs),ah)
   |_=>none
 | .fr (.tmp t)=>match get e t with
   | .sl .own k' us=>if k'=k then some (aK L (put e t (.sl .n k' us)) d (.sl .own k zs),ah) else none
   |_=>none
 | .fr (.cell s q)=>match ah[s]? with
   |some cs=>match cs[q]? with
    |some (.sl .own k' us)=>if k'=k then (over cs q [.sl .n k' us]).map fun cs=>(aK L e d (.sl .own k zs),ah.set s cs) else none
    |_=>none
   |none=>none
 | .n=>none
def EA (L:List Nat) (e:Env) (ah:AH) (d:Option Nat) (k:Nat) (x:Ar) (xs:List AV) (tg:Tg):Option (List AV)→Option (Env×AH)
 |some zs=>sP L e ah d k x xs zs tg
 |none=>none
theorem Uu {L:List Nat} {e:Env} {ah:AH} {d:Option Nat} {k:Nat} {x:Ar} {xs zs:List AV} {tg:Tg}:EA L e ah d k x xs tg (some zs)=sP L e ah d k x xs zs tg:=rfl
def Ie (L:List Nat) (e:Env) (ah:AH) (d:Option Nat) (k b:Nat) (x:Ar) (ys:List AV):AV→Option (Env×AH)
 | .sl tg k' xs=>if k'=k then EA L e ah d k x xs tg (ct b xs ys) else none
 |_=>none
theorem YD {k b:Nat} {x:Ar} {ys:List AV}:yz L e ah d k b x ys=Ie L e ah d k b x ys (ev e x):=by
 simp only [yz]
 cases ev e x with
 |sl tg k' xs=>
  simp only [Ie,ct]
  by_cases h1:k'=k
  · subst h1
    simp only [true_and,if_true]
    by_cases h2:(xs.length+ys.length)*b≤140737488355328∧xs.length+ys.length≤4611686018427387904
    · simp only [if_pos h2,EA]
      cases tg with
      |fr l=>cases l with
       |tmp u=>
        simp only [sP]
        cases get e u with
        |sl YE k2 zs=>cases YE<;>rfl
        |_=>rfl
       |cell s q=>
        simp only [sP]
        cases ah[s]? with
        |none=>rfl
        |some cs=>
         simp only []
         cases cs[q]? with
         |none=>rfl
         |some a=>cases a with
          |sl YE k2 zs=>cases YE<;>rfl
          |_=>rfl
      |own=>cases x<;>rfl
      |_=>rfl
    · simp only [if_neg h2,EA]
  · simp [h1]
 |_=>rfl
end
theorem Uv {k:IntKind} {i j:Int}:bD .add (.int k i) (.int k j)=some (.int k (k.wrap (i+j))):=by simp [bD,cL]
theorem Uw {k:IntKind} {i j:Int}:bD .sub (.int k i) (.int k j)=some (.int k (k.wrap (i - j))):=by simp [bD,cL]
theorem aaZ {k:IntKind} {i j:Int}:bD .mul (.int k i) (.int k j)=some (.int k (k.wrap (i*j))):=by simp [bD,cL]
theorem aa0 {k:IntKind} {i j:Int}:bD .quo (.int k i) (.int k j)=(dv k i j).map (.int k):=by simp [bD,cL,dv];split<;>rfl
theorem Ux {k:IntKind} {i j:Int}:bD .rem (.int k i) (.int k j)=(rm k i j).map (.int k):=by simp [bD,cL,rm];split<;>rfl
theorem Uy {k:IntKind} {i j:Int}:bD .and (.int k i) (.int k j)=some (.int k (yB k i j)):=by simp [bD,cL,yB]
theorem Z0 {k:IntKind} {i j:Int}:bD .or (.int k i) (.int k j)=some (.int k (Kn k i j)):=by simp [bD,cL,Kn]
theorem Uz {k:IntKind} {i j:Int}:bD .xor (.int k i) (.int k j)=some (.int k (tC k i j)):=by simp [bD,cL,tC]
theorem ae2 {k k':IntKind} {i j:Int}:bD .shl (.int k i) (.int k' j)=if j<0 then none else some (.int k (shl k i j)):=by simp [bD,shl]
theorem ae3 {k k':IntKind} {i j:Int}:bD .shr (.int k i) (.int k' j)=if j<0 then none else some (.int k (shr k i j)):=by simp [bD,shr]
theorem UA {k:IntKind} {i j:Int}:bD .eql (.int k i) (.int k j)=some (.bool (decide (i=j))):=by simp [bD,cL]
theorem UB {k:IntKind} {i j:Int}:bD .neq (.int k i) (.int k j)=some (.bool (!decide (i=j))):=by simp [bD,cL]
theorem UD {k:IntKind} {i j:Int}:bD .lss (.int k i) (.int k j)=some (.bool (decide (i<j))):=by simp [bD,cL]
theorem UE {k:IntKind} {i j:Int}:bD .leq (.int k i) (.int k j)=some (.bool (decide (i≤j))):=by simp [bD,cL]
theorem UH {k:IntKind} {i j:Int}:bD .gtr (.int k i) (.int k j)=some (.bool (decide (j<i))):=by simp [bD,cL]
theorem UI {k:IntKind} {i j:Int}:bD .geq (.int k i) (.int k j)=some (.bool (decide (j≤i))):=by simp [bD,cL]
theorem YF {k k':IntKind} {i:Int}:bD .shr (.int k i) (.int k' 1)=some (.int k (shr k i 1)):=by simp [bD,shr]
theorem YG {k k':IntKind} {i:Int}:bD .shl (.int k i) (.int k' 1)=some (.int k (shl k i 1)):=by simp [bD,shl]
theorem YH {k k':IntKind} {i:Int}:bD .shr (.int k i) (.int k' 2)=some (.int k (shr k i 2)):=by simp [bD,shr]
theorem YI {k k':IntKind} {i:Int}:bD .shl (.int k i) (.int k' 2)=some (.int k (shl k i 2)):=by simp [bD,shl]
theorem YJ {k k':IntKind} {i:Int}:bD .shr (.int k i) (.int k' 3)=some (.int k (shr k i 3)):=by simp [bD,shr]
theorem YK {k k':IntKind} {i:Int}:bD .shl (.int k i) (.int k' 3)=some (.int k (shl k i 3)):=by simp [bD,shl]
theorem YL {k k':IntKind} {i:Int}:bD .shr (.int k i) (.int k' 4)=some (.int k (shr k i 4)):=by simp [bD,shr]
theorem YM {k k':IntKind} {i:Int}:bD .shl (.int k i) (.int k' 4)=some (.int k (shl k i 4)):=by simp [bD,shl]
theorem YN {k k':IntKind} {i:Int}:bD .shr (.int k i) (.int k' 5)=some (.int k (shr k i 5)):=by simp [bD,shr]
theorem YO {k k':IntKind} {i:Int}:bD .shl (.int k i) (.int k' 5)=some (.int k (shl k i 5)):=by simp [bD,shl]
theorem YP {k k':IntKind} {i:Int}:bD .shr (.int k i) (.int k' 6)=some (.int k (shr k i 6)):=by simp [bD,shr]
theorem YQ {k k':IntKind} {i:Int}:bD .shl (.int k i) (.int k' 6)=some (.int k (shl k i 6)):=by simp [bD,shl]
theorem YR {k k':IntKind} {i:Int}:bD .shr (.int k i) (.int k' 7)=some (.int k (shr k i 7)):=by simp [bD,shr]
theorem YS {k k':IntKind} {i:Int}:bD .shl (.int k i) (.int k' 7)=some (.int k (shl k i 7)):=by simp [bD,shl]
theorem YT {k k':IntKind} {i:Int}:bD .shr (.int k i) (.int k' 8)=some (.int k (shr k i 8)):=by simp [bD,shr]
theorem YU {k k':IntKind} {i:Int}:bD .shl (.int k i) (.int k' 8)=some (.int k (shl k i 8)):=by simp [bD,shl]
theorem UJ {k k':IntKind} {i:Int}:bD .shr (.int k i) (.int k' 16)=some (.int k (shr k i 16)):=by simp [bD,shr]
theorem UL {k k':IntKind} {i:Int}:bD .shl (.int k i) (.int k' 16)=some (.int k (shl k i 16)):=by simp [bD,shl]
theorem UM {k k':IntKind} {i:Int}:bD .shr (.int k i) (.int k' 24)=some (.int k (shr k i 24)):=by simp [bD,shr]
theorem UN {k k':IntKind} {i:Int}:bD .shl (.int k i) (.int k' 24)=some (.int k (shl k i 24)):=by simp [bD,shl]
theorem aa1 {l m:List UInt8}:bD .add (.str l) (.str m)=(cat l m).map .str:=by simp only [bD,cat];split<;>rfl
theorem aa2 {l m:List UInt8}:bD .eql (.str l) (.str m)=some (.bool (decide (l=m))):=rfl
theorem aa3 {l m:List UInt8}:bD .neq (.str l) (.str m)=some (.bool (!decide (l=m))):=rfl
theorem UO (n:Int):IntKind.wrap .u8 n=((UInt8.ofInt n).toNat:Int):=by
 have:(UInt8.ofInt n).toNat=(n % 256).toNat:=by
  rw [UInt8.ofInt]
  simp
  omega
 rw [this]
 simp only [IntKind.wrap,IntKind.bits,IntKind.signed,Bool.false_and,if_false,Bool.false_eq_true]
 omega
theorem YV (a b:UInt8):IntKind.wrap .u8 ((a.toNat:Int)+b.toNat)=((a+b).toNat:Int):=by
 have h1:=a.toNat_lt
 have h2:=b.toNat_lt
 simp only [IntKind.wrap,IntKind.bits,IntKind.signed,Bool.false_and,if_false,Bool.false_eq_true,UInt8.toNat_add]
 omega
theorem YW (a b:UInt8):IntKind.wrap .u8 ((a.toNat:Int) - b.toNat)=((a - b).toNat:Int):=by
 have h1:=a.toNat_lt
 have h2:=b.toNat_lt
 simp only [IntKind.wrap,IntKind.bits,IntKind.signed,Bool.false_and,if_false,Bool.false_eq_true,UInt8.toNat_sub]
 omega
theorem Ig (a:UInt8):IntKind.wrap .u8 (a.toNat:Int)=(a.toNat:Int):=by
 have h1:=a.toNat_lt
 simp only [IntKind.wrap,IntKind.bits,IntKind.signed,Bool.false_and,if_false,Bool.false_eq_true]
 omega
theorem ofInt8 (a:UInt8):BitVec.ofInt 8 (a.toNat:Int)=a.toBitVec:=by
 apply BitVec.eq_of_toNat_eq;simp
theorem aa4 {a b:UInt8}:bD .add (b8 a) (b8 b)=some (b8 (a+b)):=by simp only [b8];rw [Uv,YV]
theorem aa5 {a b:UInt8}:bD .sub (b8 a) (b8 b)=some (b8 (a - b)):=by simp only [b8];rw [Uw,YW]
theorem aa6 {a b:UInt8}:bD .and (b8 a) (b8 b)=some (b8 (a &&& b)):=by
 simp only [b8];rw [Uy,yB]
 have:((BitVec.ofInt IntKind.u8.bits (a.toNat:Int) &&& BitVec.ofInt IntKind.u8.bits (b.toNat:Int)).toNat:Int)=((a &&& b).toNat:Int):=by
  simp only [IntKind.bits,ofInt8];rfl
 rw [this,Ig]
theorem adl {a b:UInt8}:bD .or (b8 a) (b8 b)=some (b8 (a ||| b)):=by
 simp only [b8];rw [Z0,Kn]
 have:((BitVec.ofInt IntKind.u8.bits (a.toNat:Int) ||| BitVec.ofInt IntKind.u8.bits (b.toNat:Int)).toNat:Int)=((a ||| b).toNat:Int):=by
  simp only [IntKind.bits,ofInt8];rfl
 rw [this,Ig]
theorem aa7 {a b:UInt8}:bD .xor (b8 a) (b8 b)=some (b8 (a ^^^ b)):=by
 simp only [b8];rw [Uz,tC]
 have:((BitVec.ofInt IntKind.u8.bits (a.toNat:Int) ^^^ BitVec.ofInt IntKind.u8.bits (b.toNat:Int)).toNat:Int)=((a ^^^ b).toNat:Int):=by
  simp only [IntKind.bits,ofInt8];rfl
 rw [this,Ig]
theorem aa8 {a b:UInt8}:bD .rem (b8 a) (b8 b)=if b=0 then none else some (b8 (a % b)):=by
 simp only [b8];rw [Ux,rm]
 by_cases h:b=0
 · subst h;simp
 · have h2:¬(b.toNat:Int)=0:=by
    intro h0;apply h;apply UInt8.toNat_inj.1;simp;omega
   rw [if_neg h,if_neg h2]
   simp only [Option.map_some,UInt8.toNat_mod]
   rw [Int.tmod_eq_emod_of_nonneg (by omega)]
   simp
theorem aa9 {a b:UInt8}:bD .eql (b8 a) (b8 b)=some (.bool (decide (a=b))):=by
 simp only [b8];rw [UA];simp [←UInt8.toNat_inj,Int.ofNat_inj]
theorem aba {a b:UInt8}:bD .neq (b8 a) (b8 b)=some (.bool (!decide (a=b))):=by
 simp only [b8];rw [UB];simp [←UInt8.toNat_inj,Int.ofNat_inj]
theorem abb {a b:UInt8}:bD .lss (b8 a) (b8 b)=some (.bool (decide (a<b))):=by
 simp only [b8];rw [UD];simp [UInt8.lt_iff_toNat_lt]
theorem abc {a b:UInt8}:bD .leq (b8 a) (b8 b)=some (.bool (decide (a≤b))):=by
 simp only [b8];rw [UE];simp [UInt8.le_iff_toNat_le]
theorem abd {a b:UInt8}:bD .gtr (b8 a) (b8 b)=some (.bool (decide (b<a))):=by
 simp only [b8];rw [UH];simp [UInt8.lt_iff_toNat_lt]
theorem abe {a b:UInt8}:bD .geq (b8 a) (b8 b)=some (.bool (decide (b≤a))):=by
 simp only [b8];rw [UI];simp [UInt8.le_iff_toNat_le]
theorem adm {k:IntKind} {c:UInt8}:fJ (.int k) (b8 c)=some (.int k (k.wrap c.toNat)):=rfl
theorem adn {k:IntKind} {i:Int}:fJ (.int .u8) (.int k i)=some (b8 (UInt8.ofInt i)):=by simp only [fJ,b8,UO]
theorem ado {c:UInt8}:fJ (.int .u8) (b8 c)=some (b8 c):=by simp only [fJ,b8,Ig]
theorem adp {k':IntKind} {i:Int}:fJ (.int .i8) (.int k' i)=some (.int .i8 (IntKind.wrap .i8 i)):=rfl
theorem abf {k':IntKind} {i:Int}:fJ (.int .i16) (.int k' i)=some (.int .i16 (IntKind.wrap .i16 i)):=rfl
theorem abg {k':IntKind} {i:Int}:fJ (.int .i32) (.int k' i)=some (.int .i32 (IntKind.wrap .i32 i)):=rfl
theorem abh {k':IntKind} {i:Int}:fJ (.int .i64) (.int k' i)=some (.int .i64 (IntKind.wrap .i64 i)):=rfl
theorem abi {k':IntKind} {i:Int}:fJ (.int .u16) (.int k' i)=some (.int .u16 (IntKind.wrap .u16 i)):=rfl
theorem abj {k':IntKind} {i:Int}:fJ (.int .u32) (.int k' i)=some (.int .u32 (IntKind.wrap .u32 i)):=rfl
theorem abk {k':IntKind} {i:Int}:fJ (.int .u64) (.int k' i)=some (.int .u64 (IntKind.wrap .u64 i)):=rfl
theorem adq {l:List UInt8}:fJ .same (.str l)=some (.str l):=rfl
theorem adr {l:List UInt8}:fJ .sb (.str l)=some (.sl .own 1 (ml b8 l)):=rfl
theorem ads {tg:Tg} {xs:List AV}:fJ .bs (.sl tg 1 xs)=(bytesOf xs).map .str:=rfl
theorem abl {k:IntKind} {i:Int}:Mq .neg (.int k i)=some (.int k (k.wrap (0 - i))):=rfl
theorem abm {b:Bool}:Mq .not (.bool b)=some (.bool !b):=rfl
def wC (k:IntKind) (i:Int):Int:=k.wrap (BitVec.ofInt k.bits (if k.signed then -1 else k.max) ^^^ BitVec.ofInt k.bits i).toNat
theorem abn {k:IntKind} {i:Int}:Mq .xor (.int k i)=some (.int k (wC k i)):=rfl
theorem Ih:bytesOf []=some []:=rfl
theorem ML {c:UInt8} {r:List AV}:bytesOf (b8 c::r)=(bytesOf r).map (c:: ·):=by
 simp [b8,bytesOf]
theorem Q_i {ks:List Pk} {k:IntKind} {i j:Int} {zq bs:List AV}:cr (.i::ks) (.int k i::zq) (.int k j::bs)=(cr ks zq bs).map (decide (i=j)&& ·):=by simp [cr]
theorem Q_s {ks:List Pk} {l m:List UInt8} {zq bs:List AV}:cr (.s::ks) (.str l::zq) (.str m::bs)=(cr ks zq bs).map (decide (l=m)&& ·):=rfl
theorem Q_b {ks:List Pk} {x y:Bool} {zq bs:List AV}:cr (.b::ks) (.bool x::zq) (.bool y::bs)=(cr ks zq bs).map ((x==y)&& ·):=rfl
theorem Q_n:cr [] [] []=some true:=rfl
theorem adt {x y:Bool}:Mn (.bool x) (.bool y)=some (x==y):=rfl
theorem adu {s o:Nat}:Mo (.ptr s o) (.v (.pointer none))=some false:=rfl
theorem adv {s o:Nat}:Mo (.v (.pointer none)) (.ptr s o)=some false:=rfl
theorem adw:Mo (.v (.pointer none)) (.v (.pointer none))=some true:=rfl
section
variable {P:Program} {L:List Nat} {N n0:Nat} {e:Env} {ah:AH} {t:List It} {Q:Exit→Env→AH→Prop} {r:List aQ} {d:Option Nat}
theorem ox {c:UInt8}:(b8 c).bT=b8 c:=rfl
theorem Z1 {c:UInt8}:(b8 c).sh=b8 c:=rfl
theorem afm {c:UInt8}:(b8 c).s1=b8 c:=rfl
theorem afn {c:UInt8}:(b8 c).s0=b8 c:=rfl
theorem Z2 {c:UInt8}:(b8 c).df=b8 c:=rfl
theorem ae4 {c:UInt8}:(b8 c).jj=b8 c:=rfl
theorem ae5 {c:UInt8}:(b8 c).qZ=b8 c:=rfl
theorem aeM {c:UInt8} {l:Loc}:(b8 c).eE l=b8 c:=rfl
theorem ae6 {c:UInt8}:(b8 c).bU=false:=rfl
theorem nM {c:UInt8}:(b8 c).flat=true:=rfl
theorem ae7 {c:UInt8}:(b8 c).jk=true:=rfl
theorem afo {c:UInt8}:(b8 c).np=true:=rfl
theorem adx {c:UInt8}:(b8 c).cells=[b8 c]:=rfl
theorem ae8 {c:UInt8}:(b8 c).eU=false:=rfl
theorem afp {c:UInt8} {x:Ar}:cp L x (b8 c)=b8 c:=rfl
theorem ae9 {c:UInt8} {x:Ar}:jX P L N n0 e ah d r t Q x (b8 c)=U P L N n0 (.ops r::t) Q .normal (aK L e d (b8 c)) ah:=rfl
theorem PG {n:Nat} {c:UInt8}:Cl n (b8 c):= .int ..
theorem abo {l:List UInt8} {c:UInt8}:Kj L e ah d (.str l) (b8 c)=(idx l c.toNat).map fun c=>(aK L e d (b8 c),ah):=PB
theorem abp {tg:Tg} {k:Nat} {xs:List AV} {c:UInt8}:tB L e ah d k (.sl tg k xs) (b8 c)=(idx xs c.toNat).map fun a=>(aK L e d (.ep a 0),ah):=PC
theorem afa {s o:Nat} {c:UInt8}:lV s o (some (b8 c))=some (b8 c):=rfl
theorem abr {c:UInt8}:QG L d e ah (some (b8 c))=some (aK L e d (b8 c),ah):=rfl
end
theorem h_eq {H:AH} {q:Nat} {c:List AV} (h:q<H.length):(H.set q c)[q]? =some c:=List.getElem?_set_self h
theorem Z3 {H:AH} {s q:Nat} {c:List AV} (h:s≠q):(H.set s c)[q]? =H[q]? :=List.getElem?_set_ne h
theorem UP {H T:AH} {q:Nat} (h:q<H.length):(H++T)[q]? =H[q]? :=List.getElem?_append_left h
theorem abt {H:AH} {c:List AV}:(H++[c])[H.length]? =some c:=by simp
theorem PI {H:AH} {q:Nat} {c:List AV} (h:q=H.length):(H++[c])[q]? =some c:=by subst h;simp
theorem aL {H:AH} {q:Nat} {c:List AV} (h:H[q]? =some c):q<H.length:=(List.getElem?_eq_some_iff.1 h).1
theorem p6 {H:AH} {q:Nat} {c:List AV}:(H.set q c).length=H.length:=List.length_set
theorem p7 {H:AH} {c:List AV}:(H++[c]).length=H.length+1:=by simp
structure Fr (ah:AH) (n0:Nat) (S:List Nat) (H:AH):Prop where
 le:n0≤H.length
 eq:∀j,j<n0→j∉S→H[j]? =ah[j]?
theorem Fr.refl (ah:AH) (S:List Nat):Fr ah ah.length S ah:=⟨Nat.le_refl _,fun _ _ _=>rfl⟩
theorem Fr.set {ah H:AH} {n0 s:Nat} {S:List Nat} {c:List AV} (h:Fr ah n0 S H) (hs:s∈S∨n0≤s):Fr ah n0 S (H.set s c):=by
 refine ⟨by simpa using h.le,fun j hj EB=> ?_⟩
 rw [List.getElem?_set_ne,h.eq j hj EB]
 rintro rfl
 rcases hs with hs|hs
 · exact EB hs
 · omega
theorem Fr.app {ah H T:AH} {n0:Nat} {S:List Nat} (h:Fr ah n0 S H):Fr ah n0 S (H++T):=by
 have:=h.le
 exact ⟨by simp;omega,fun j hj EB=>by rw [List.getElem?_append_left (by omega),h.eq j hj EB]⟩
theorem Fr.Z4 {ah H:AH} (h:Fr ah ah.length [] H):H.take ah.length=ah:=by
 apply List.ext_getElem?
 intro j
 by_cases hj:j<ah.length
 · rw [List.getElem?_take_of_lt hj,h.eq j hj (by simp)]
 · rw [List.getElem?_eq_none (by simp;omega),List.getElem?_eq_none (by omega)]
theorem Fr.Z5 {ah H:AH} {s:Nat} {c:List AV} (h:Fr ah ah.length [s] H) (hs:H[s]? =some c) (hl:s<ah.length):H.take ah.length=ah.set s c:=by
 apply List.ext_getElem?
 intro j
 by_cases hj:j<ah.length
 · rw [List.getElem?_take_of_lt hj]
   by_cases he:j=s
   · subst he;rw [hs,List.getElem?_set_self hl]
   · rw [List.getElem?_set_ne (Ne.symm he),h.eq j hj (by simpa using he)]
 · rw [List.getElem?_eq_none (by simp;omega),List.getElem?_eq_none (by simp;omega)]
theorem Fr.Z6 {ah H:AH} {s s2:Nat} {c c2:List AV} (h:Fr ah ah.length [s,s2] H) (hs:H[s]? =some c) (hs2:H[s2]? =some c2) (hl:s<ah.length) (Au:s2<ah.length) (hne:s≠s2):H.take ah.length=(ah.set s c).set s2 c2:=by
 apply List.ext_getElem?
 intro j
 by_cases hj:j<ah.length
 · rw [List.getElem?_take_of_lt hj]
   by_cases he:j=s2
   · subst he;rw [hs2,List.getElem?_set_self (by simpa using Au)]
   · rw [List.getElem?_set_ne (Ne.symm he)]
     by_cases he1:j=s
     · subst he1;rw [hs,List.getElem?_set_self hl]
     · rw [List.getElem?_set_ne (Ne.symm he1),h.eq j hj (by simp;exact ⟨he1,he⟩)]
 · rw [List.getElem?_eq_none (by simp;omega),List.getElem?_eq_none (by simp;omega)]
end Go.Am
end
section
namespace Go.Am
open Go
variable [Tabs]
def dZ:Bool→AV
 |true=> .dW
 |false=> .v .nilIface
def PJ (L:List Nat) (e:Env) (ah:AH) (d:Option Nat):AV→Option (Env×AH)
 | .sl _ _ xs=>some (aK L e d (.int .i64 xs.length),ah)
 | .cJ _ _ _ n=>some (aK L e d (.int .i64 n),ah)
 | .cz _ _ n _=>some (aK L e d (.int .i64 n),ah)
 |_=>none
def UQ (L:List Nat) (e:Env) (ah:AH) (d:Option Nat):AV→Option (Env×AH)
 | .str l=>some (aK L e d (.int .i64 l.length),ah)
 |_=>none
def UR (L:List Nat) (e:Env) (ah:AH) (d:Option Nat):Option AV→Option (Env×AH)
 |some a=>some (aK L e d a.sh,ah)
 |none=>none
def UT (L:List Nat) (e:Env) (ah:AH) (d:Option Nat) (i:Nat):AV→Option (Env×AH)
 | .bM cs=>UR L e ah d (cs[i]?)
 |_=>none
def MM (L:List Nat) (e:Env) (ah:AH) (d:Option Nat):Option AV→Option (Env×AH)
 |some a=>some (aK L e d a.bT,ah)
 |none=>none
def Ii (L:List Nat) (e:Env) (ah:AH) (d:Option Nat) (q:Nat):Option Nat→AV→Option (Env×AH)
 |some n, .agg cs=>if q+n≤cs.length then some (aK L e d (.agg (((cs.drop q).take n).map AV.bT)),ah) else none
 |none, .agg cs=>MM L e ah d (cs[q]?)
 |_,_=>none
def UU (L:List Nat) (e:Env) (ah:AH) (d:Option Nat) (n:Option Nat):AV→Option (Env×AH)
 | .ep a p=>H6 L d n e ah (.ep a p)
 |_=>none
theorem UW {z:Value}:AV.bT (.v z)=(.v z:AV):=rfl
theorem MN {k:IntKind} {i:Int}:AV.bT (.int k i)=(.int k i:AV):=rfl
theorem Kp {b:Bool}:AV.bT (.bool b)=(.bool b:AV):=rfl
theorem MO {l:List UInt8}:AV.bT (.str l)=(.str l:AV):=rfl
theorem MP {s o:Nat}:AV.bT (.ptr s o)=(.ptr s o:AV):=rfl
theorem QK {a:AV} {o:Nat}:AV.bT (.ep a o)=(.ep a o:AV):=rfl
theorem QL {f:Nat} {cs:List AV}:AV.bT (.fn f cs)=(.fn f cs:AV):=rfl
theorem QM:AV.bT (.un)=(.un:AV):=rfl
theorem QN {c:UInt8}:AV.bT (b8 c)=(b8 c:AV):=rfl
theorem QO {k:Nat} {xs:List AV}:AV.bT (.sl .n k xs)=(.sl .n k xs:AV):=rfl
theorem MQ {k:Nat} {xs:List AV}:AV.bT (.sl .ex k xs)=(.sl .ex k xs:AV):=rfl
theorem Kq {k:Nat} {xs:List AV}:AV.bT (.sl .own k xs)=(.sl .n k xs:AV):=rfl
theorem MR {l:Loc} {k:Nat} {xs:List AV}:AV.bT (.sl (.fr l) k xs)=(.sl .n k xs:AV):=rfl
theorem MS {cs:List AV}:AV.bT (.agg cs)=(.agg cs:AV):=rfl
theorem MT {cs:List AV}:AV.bT (.bM cs)=(.bM cs:AV):=rfl
theorem MU {q0 k0 o0 m0:Nat}:AV.bT (.cJ q0 k0 o0 m0)=(.cJ q0 k0 o0 m0:AV):=rfl
theorem MV {q0 k0 m0 c0:Nat}:AV.bT (.cz q0 k0 m0 c0)=(.cz q0 k0 m0 c0:AV):=rfl
theorem MW:AV.bT (.dW)=(.dW:AV):=rfl
theorem QS {eb:Bool}:AV.bT (dZ eb)=(dZ eb:AV):=by cases eb<;>rfl
theorem YX {z:Value}:AV.sh (.v z)=(.v z:AV):=rfl
theorem QT {k:IntKind} {i:Int}:AV.sh (.int k i)=(.int k i:AV):=rfl
theorem MX {b:Bool}:AV.sh (.bool b)=(.bool b:AV):=rfl
theorem QU {l:List UInt8}:AV.sh (.str l)=(.str l:AV):=rfl
theorem QV {s o:Nat}:AV.sh (.ptr s o)=(.ptr s o:AV):=rfl
theorem UY {a:AV} {o:Nat}:AV.sh (.ep a o)=(.ep a o:AV):=rfl
theorem UZ {f:Nat} {cs:List AV}:AV.sh (.fn f cs)=(.fn f cs:AV):=rfl
theorem U0:AV.sh (.un)=(.un:AV):=rfl
theorem U1 {c:UInt8}:AV.sh (b8 c)=(b8 c:AV):=rfl
theorem U2 {k:Nat} {xs:List AV}:AV.sh (.sl .n k xs)=(.sl .n k xs:AV):=rfl
theorem QW {k:Nat} {xs:List AV}:AV.sh (.sl .ex k xs)=(.sl .ex k xs:AV):=rfl
theorem MY {k:Nat} {xs:List AV}:AV.sh (.sl .own k xs)=(.sl .n k xs:AV):=rfl
theorem QX {l:Loc} {k:Nat} {xs:List AV}:AV.sh (.sl (.fr l) k xs)=(.sl .n k xs:AV):=rfl
theorem QY {cs:List AV}:AV.sh (.agg cs)=(.agg (cs.map AV.bT):AV):=rfl
theorem QZ {cs:List AV}:AV.sh (.bM cs)=(.bM (cs.map AV.bT):AV):=rfl
theorem Q0 {q0 k0 o0 m0:Nat}:AV.sh (.cJ q0 k0 o0 m0)=(.cJ q0 k0 o0 m0:AV):=rfl
theorem Q1 {q0 k0 m0 c0:Nat}:AV.sh (.cz q0 k0 m0 c0)=(.cz q0 k0 m0 c0:AV):=rfl
theorem Q2:AV.sh (.dW)=(.dW:AV):=rfl
theorem U3 {eb:Bool}:AV.sh (dZ eb)=(dZ eb:AV):=by cases eb<;>rfl
theorem YY {z:Value}:AV.s1 (.v z)=(.v z:AV):=rfl
theorem Q3 {k:IntKind} {i:Int}:AV.s1 (.int k i)=(.int k i:AV):=rfl
theorem MZ {b:Bool}:AV.s1 (.bool b)=(.bool b:AV):=rfl
theorem Q4 {l:List UInt8}:AV.s1 (.str l)=(.str l:AV):=rfl
theorem Q5 {s o:Nat}:AV.s1 (.ptr s o)=(.ptr s o:AV):=rfl
theorem U4 {a:AV} {o:Nat}:AV.s1 (.ep a o)=(.ep a o:AV):=rfl
theorem U5 {f:Nat} {cs:List AV}:AV.s1 (.fn f cs)=(.fn f cs:AV):=rfl
theorem U6:AV.s1 (.un)=(.un:AV):=rfl
theorem U7 {c:UInt8}:AV.s1 (b8 c)=(b8 c:AV):=rfl
theorem U8 {k:Nat} {xs:List AV}:AV.s1 (.sl .n k xs)=(.sl .n k xs:AV):=rfl
theorem Q6 {k:Nat} {xs:List AV}:AV.s1 (.sl .ex k xs)=(.sl .n k xs:AV):=rfl
theorem M0 {k:Nat} {xs:List AV}:AV.s1 (.sl .own k xs)=(.sl .n k xs:AV):=rfl
theorem Q7 {l:Loc} {k:Nat} {xs:List AV}:AV.s1 (.sl (.fr l) k xs)=(.sl .n k xs:AV):=rfl
theorem Q8 {cs:List AV}:AV.s1 (.agg cs)=(.agg cs:AV):=rfl
theorem Q9 {cs:List AV}:AV.s1 (.bM cs)=(.bM cs:AV):=rfl
theorem Ra {q0 k0 o0 m0:Nat}:AV.s1 (.cJ q0 k0 o0 m0)=(.cJ q0 k0 o0 m0:AV):=rfl
theorem Rb {q0 k0 m0 c0:Nat}:AV.s1 (.cz q0 k0 m0 c0)=(.cz q0 k0 m0 c0:AV):=rfl
theorem Rc:AV.s1 (.dW)=(.dW:AV):=rfl
theorem U9 {eb:Bool}:AV.s1 (dZ eb)=(dZ eb:AV):=by cases eb<;>rfl
theorem YZ {z:Value}:AV.s0 (.v z)=(.v z:AV):=rfl
theorem Rd {k:IntKind} {i:Int}:AV.s0 (.int k i)=(.int k i:AV):=rfl
theorem M1 {b:Bool}:AV.s0 (.bool b)=(.bool b:AV):=rfl
theorem Re {l:List UInt8}:AV.s0 (.str l)=(.str l:AV):=rfl
theorem Rf {s o:Nat}:AV.s0 (.ptr s o)=(.ptr s o:AV):=rfl
theorem Va {a:AV} {o:Nat}:AV.s0 (.ep a o)=(.ep a o:AV):=rfl
theorem Vb {f:Nat} {cs:List AV}:AV.s0 (.fn f cs)=(.fn f cs:AV):=rfl
theorem Vc:AV.s0 (.un)=(.un:AV):=rfl
theorem Vd {c:UInt8}:AV.s0 (b8 c)=(b8 c:AV):=rfl
theorem Ve {k:Nat} {xs:List AV}:AV.s0 (.sl .n k xs)=(.sl .n k xs:AV):=rfl
theorem Rg {k:Nat} {xs:List AV}:AV.s0 (.sl .ex k xs)=(.sl .n k xs:AV):=rfl
theorem M3 {k:Nat} {xs:List AV}:AV.s0 (.sl .own k xs)=(.sl .n k xs:AV):=rfl
theorem Rh {l:Loc} {k:Nat} {xs:List AV}:AV.s0 (.sl (.fr l) k xs)=(.sl .n k xs:AV):=rfl
theorem Ri {cs:List AV}:AV.s0 (.agg cs)=(.agg (cs.map AV.s1):AV):=rfl
theorem Rj {cs:List AV}:AV.s0 (.bM cs)=(.bM cs:AV):=rfl
theorem Rk {q0 k0 o0 m0:Nat}:AV.s0 (.cJ q0 k0 o0 m0)=(.cJ q0 k0 o0 m0:AV):=rfl
theorem Rl {q0 k0 m0 c0:Nat}:AV.s0 (.cz q0 k0 m0 c0)=(.cz q0 k0 m0 c0:AV):=rfl
theorem Rm:AV.s0 (.dW)=(.dW:AV):=rfl
theorem Vf {eb:Bool}:AV.s0 (dZ eb)=(dZ eb:AV):=by cases eb<;>rfl
theorem Y0 {z:Value}:AV.df (.v z)=(.v z:AV):=rfl
theorem Rn {k:IntKind} {i:Int}:AV.df (.int k i)=(.int k i:AV):=rfl
theorem M4 {b:Bool}:AV.df (.bool b)=(.bool b:AV):=rfl
theorem Ro {l:List UInt8}:AV.df (.str l)=(.str l:AV):=rfl
theorem Rp {s o:Nat}:AV.df (.ptr s o)=(.ptr s o:AV):=rfl
theorem Vg {a:AV} {o:Nat}:AV.df (.ep a o)=(.ep a o:AV):=rfl
theorem Vh {f:Nat} {cs:List AV}:AV.df (.fn f cs)=(.fn f cs:AV):=rfl
theorem Vi:AV.df (.un)=(.un:AV):=rfl
theorem Vj {c:UInt8}:AV.df (b8 c)=(b8 c:AV):=rfl
theorem Vk {k:Nat} {xs:List AV}:AV.df (.sl .n k xs)=(.sl .n k xs:AV):=rfl
theorem Rq {k:Nat} {xs:List AV}:AV.df (.sl .ex k xs)=(.sl .ex k xs:AV):=rfl
theorem M5 {k:Nat} {xs:List AV}:AV.df (.sl .own k xs)=(.sl .own k xs:AV):=rfl
theorem Rr {l:Loc} {k:Nat} {xs:List AV}:AV.df (.sl (.fr l) k xs)=(.sl .n k xs:AV):=rfl
theorem Rs {cs:List AV}:AV.df (.agg cs)=(.agg cs:AV):=rfl
theorem Rt {cs:List AV}:AV.df (.bM cs)=(.bM cs:AV):=rfl
theorem Ru {q0 k0 o0 m0:Nat}:AV.df (.cJ q0 k0 o0 m0)=(.cJ q0 k0 o0 m0:AV):=rfl
theorem Rv {q0 k0 m0 c0:Nat}:AV.df (.cz q0 k0 m0 c0)=(.cz q0 k0 m0 c0:AV):=rfl
theorem Rx:AV.df (.dW)=(.dW:AV):=rfl
theorem Vl {eb:Bool}:AV.df (dZ eb)=(dZ eb:AV):=by cases eb<;>rfl
theorem M6 {z:Value}:AV.bU (.v z)=false:=rfl
theorem Ij {k:IntKind} {i:Int}:AV.bU (.int k i)=false:=rfl
theorem F7 {b:Bool}:AV.bU (.bool b)=false:=rfl
theorem Ik {l:List UInt8}:AV.bU (.str l)=false:=rfl
theorem Il {s o:Nat}:AV.bU (.ptr s o)=false:=rfl
theorem Kr {a:AV} {o:Nat}:AV.bU (.ep a o)=false:=rfl
theorem Ks {f:Nat} {cs:List AV}:AV.bU (.fn f cs)=false:=rfl
theorem Kt:AV.bU (.un)=false:=rfl
theorem Ku {c:UInt8}:AV.bU (b8 c)=false:=rfl
theorem Kv {k:Nat} {xs:List AV}:AV.bU (.sl .n k xs)=false:=rfl
theorem Im {k:Nat} {xs:List AV}:AV.bU (.sl .ex k xs)=false:=rfl
theorem F8 {k:Nat} {xs:List AV}:AV.bU (.sl .own k xs)=true:=rfl
theorem Io {l:Loc} {k:Nat} {xs:List AV}:AV.bU (.sl (.fr l) k xs)=false:=rfl
theorem Ip {cs:List AV}:AV.bU (.agg cs)=false:=rfl
theorem Iq {cs:List AV}:AV.bU (.bM cs)=false:=rfl
theorem Ir {q0 k0 o0 m0:Nat}:AV.bU (.cJ q0 k0 o0 m0)=false:=rfl
theorem Is {q0 k0 m0 c0:Nat}:AV.bU (.cz q0 k0 m0 c0)=false:=rfl
theorem Iu:AV.bU (.dW)=false:=rfl
theorem Kw {eb:Bool}:AV.bU (dZ eb)=false:=by cases eb<;>rfl
theorem Vm {z:Value}:AV.qZ (.v z)=(.v z:AV):=rfl
theorem M7 {k:IntKind} {i:Int}:AV.qZ (.int k i)=(.int k i:AV):=rfl
theorem Kx {b:Bool}:AV.qZ (.bool b)=(.bool b:AV):=rfl
theorem M8 {l:List UInt8}:AV.qZ (.str l)=(.str l:AV):=rfl
theorem M9 {s o:Nat}:AV.qZ (.ptr s o)=(.ptr s o:AV):=rfl
theorem Ry {a:AV} {o:Nat}:AV.qZ (.ep a o)=(.ep a o:AV):=rfl
theorem Rz {f:Nat} {cs:List AV}:AV.qZ (.fn f cs)=(.fn f cs:AV):=rfl
theorem RA:AV.qZ (.un)=(.un:AV):=rfl
theorem RB {c:UInt8}:AV.qZ (b8 c)=(b8 c:AV):=rfl
theorem RC {k:Nat} {xs:List AV}:AV.qZ (.sl .n k xs)=(.sl .n k xs:AV):=rfl
theorem Na {k:Nat} {xs:List AV}:AV.qZ (.sl .ex k xs)=(.sl .ex k xs:AV):=rfl
theorem Ky {k:Nat} {xs:List AV}:AV.qZ (.sl .own k xs)=(.sl .n k xs:AV):=rfl
theorem Nb {l:Loc} {k:Nat} {xs:List AV}:AV.qZ (.sl (.fr l) k xs)=(.sl (.fr l) k xs:AV):=rfl
theorem Nc {cs:List AV}:AV.qZ (.agg cs)=(.agg cs:AV):=rfl
theorem Nd {cs:List AV}:AV.qZ (.bM cs)=(.bM cs:AV):=rfl
theorem Nf {q0 k0 o0 m0:Nat}:AV.qZ (.cJ q0 k0 o0 m0)=(.cJ q0 k0 o0 m0:AV):=rfl
theorem Ng {q0 k0 m0 c0:Nat}:AV.qZ (.cz q0 k0 m0 c0)=(.cz q0 k0 m0 c0:AV):=rfl
theorem Nh:AV.qZ (.dW)=(.dW:AV):=rfl
theorem RD {eb:Bool}:AV.qZ (dZ eb)=(dZ eb:AV):=by cases eb<;>rfl
theorem RE {z:Value} {l0:Loc}:AV.eE l0 (.v z)=(.v z:AV):=rfl
theorem Kz {k:IntKind} {i:Int} {l0:Loc}:AV.eE l0 (.int k i)=(.int k i:AV):=rfl
theorem Iv {b:Bool} {l0:Loc}:AV.eE l0 (.bool b)=(.bool b:AV):=rfl
theorem KB {l:List UInt8} {l0:Loc}:AV.eE l0 (.str l)=(.str l:AV):=rfl
theorem KC {s o:Nat} {l0:Loc}:AV.eE l0 (.ptr s o)=(.ptr s o:AV):=rfl
theorem Ni {a:AV} {o:Nat} {l0:Loc}:AV.eE l0 (.ep a o)=(.ep a o:AV):=rfl
theorem Nj {f:Nat} {cs:List AV} {l0:Loc}:AV.eE l0 (.fn f cs)=(.fn f cs:AV):=rfl
theorem Nk {l0:Loc}:AV.eE l0 (.un)=(.un:AV):=rfl
theorem Nl {c:UInt8} {l0:Loc}:AV.eE l0 (b8 c)=(b8 c:AV):=rfl
theorem Nn {k:Nat} {xs:List AV} {l0:Loc}:AV.eE l0 (.sl .n k xs)=(.sl .n k xs:AV):=rfl
theorem KD {k:Nat} {xs:List AV} {l0:Loc}:AV.eE l0 (.sl .ex k xs)=(.sl .ex k xs:AV):=rfl
theorem Iw {k:Nat} {xs:List AV} {l0:Loc}:AV.eE l0 (.sl .own k xs)=(.sl .own k xs:AV):=rfl
theorem KE {l:Loc} {k:Nat} {xs:List AV} {l0:Loc}:AV.eE l0 (.sl (.fr l) k xs)=if l=l0 then .sl .n k xs else .sl (.fr l) k xs:=rfl
theorem KF {cs:List AV} {l0:Loc}:AV.eE l0 (.agg cs)=(.agg cs:AV):=rfl
theorem KG {cs:List AV} {l0:Loc}:AV.eE l0 (.bM cs)=(.bM cs:AV):=rfl
theorem KH {q0 k0 o0 m0:Nat} {l0:Loc}:AV.eE l0 (.cJ q0 k0 o0 m0)=(.cJ q0 k0 o0 m0:AV):=rfl
theorem KI {q0 k0 m0 c0:Nat} {l0:Loc}:AV.eE l0 (.cz q0 k0 m0 c0)=(.cz q0 k0 m0 c0:AV):=rfl
theorem KJ {l0:Loc}:AV.eE l0 (.dW)=(.dW:AV):=rfl
theorem Np {eb:Bool} {l0:Loc}:AV.eE l0 (dZ eb)=(dZ eb:AV):=by cases eb<;>rfl
theorem Vn {z:Value}:AV.jj (.v z)=(.v z:AV):=rfl
theorem Nq {k:IntKind} {i:Int}:AV.jj (.int k i)=(.int k i:AV):=rfl
theorem KK {b:Bool}:AV.jj (.bool b)=(.bool b:AV):=rfl
theorem Nr {l:List UInt8}:AV.jj (.str l)=(.str l:AV):=rfl
theorem Ns {s o:Nat}:AV.jj (.ptr s o)=(.ptr s o:AV):=rfl
theorem RF {a:AV} {o:Nat}:AV.jj (.ep a o)=(.ep a o:AV):=rfl
theorem RG {f:Nat} {cs:List AV}:AV.jj (.fn f cs)=(.fn f cs:AV):=rfl
theorem RH:AV.jj (.un)=(.un:AV):=rfl
theorem RI {c:UInt8}:AV.jj (b8 c)=(b8 c:AV):=rfl
theorem RJ {k:Nat} {xs:List AV}:AV.jj (.sl .n k xs)=(.sl .n k xs:AV):=rfl
theorem Nt {k:Nat} {xs:List AV}:AV.jj (.sl .ex k xs)=(.sl .ex k xs:AV):=rfl
theorem KL {k:Nat} {xs:List AV}:AV.jj (.sl .own k xs)=(.sl .own k xs:AV):=rfl
theorem Nu {cs:List AV}:AV.jj (.agg cs)=(.agg cs:AV):=rfl
theorem Nv {cs:List AV}:AV.jj (.bM cs)=(.bM cs:AV):=rfl
theorem Nw {q0 k0 o0 m0:Nat}:AV.jj (.cJ q0 k0 o0 m0)=(.cJ q0 k0 o0 m0:AV):=rfl
theorem Nx {q0 k0 m0 c0:Nat}:AV.jj (.cz q0 k0 m0 c0)=(.cz q0 k0 m0 c0:AV):=rfl
theorem Ny:AV.jj (.dW)=(.dW:AV):=rfl
theorem RL {eb:Bool}:AV.jj (dZ eb)=(dZ eb:AV):=by cases eb<;>rfl
theorem Vo {a b k:Nat} {xs:List AV}:AV.jj (.sl (.fr (.cell a b)) k xs)= .sl .n k xs:=rfl
theorem Vp {a k:Nat} {xs:List AV}:AV.jj (.sl (.fr (.tmp a)) k xs)= .sl (.fr (.tmp a)) k xs:=rfl
theorem Nz {z:Value}:AV.cells (.v z)=[.v z]:=rfl
theorem Ix {k:IntKind} {i:Int}:AV.cells (.int k i)=[.int k i]:=rfl
theorem F9 {b:Bool}:AV.cells (.bool b)=[.bool b]:=rfl
theorem Iy {l:List UInt8}:AV.cells (.str l)=[.str l]:=rfl
theorem Iz {s o:Nat}:AV.cells (.ptr s o)=[.ptr s o]:=rfl
theorem KM {a:AV} {o:Nat}:AV.cells (.ep a o)=[.ep a o]:=rfl
theorem KN {f:Nat} {cs:List AV}:AV.cells (.fn f cs)=[.fn f cs]:=rfl
theorem KO:AV.cells (.un)=[.un]:=rfl
theorem KP {c:UInt8}:AV.cells (b8 c)=[b8 c]:=rfl
theorem KQ {k:Nat} {xs:List AV}:AV.cells (.sl .n k xs)=[.sl .n k xs]:=rfl
theorem IA {k:Nat} {xs:List AV}:AV.cells (.sl .ex k xs)=[.sl .ex k xs]:=rfl
theorem Ga {k:Nat} {xs:List AV}:AV.cells (.sl .own k xs)=[.sl .own k xs]:=rfl
theorem IB {l:Loc} {k:Nat} {xs:List AV}:AV.cells (.sl (.fr l) k xs)=[.sl (.fr l) k xs]:=rfl
theorem IC {cs:List AV}:AV.cells (.agg cs)=cs:=rfl
theorem ID {cs:List AV}:AV.cells (.bM cs)=[.bM cs]:=rfl
theorem IE {q0 k0 o0 m0:Nat}:AV.cells (.cJ q0 k0 o0 m0)=[.cJ q0 k0 o0 m0]:=rfl
theorem IF {q0 k0 m0 c0:Nat}:AV.cells (.cz q0 k0 m0 c0)=[.cz q0 k0 m0 c0]:=rfl
theorem IG:AV.cells (.dW)=[.dW]:=rfl
theorem KR {eb:Bool}:AV.cells (dZ eb)=[dZ eb]:=by cases eb<;>rfl
theorem Vq {z:Value}:AV.jk (.v z)=true:=rfl
theorem NA {k:IntKind} {i:Int}:AV.jk (.int k i)=true:=rfl
theorem KS {b:Bool}:AV.jk (.bool b)=true:=rfl
theorem NB {l:List UInt8}:AV.jk (.str l)=true:=rfl
theorem NC {s o:Nat}:AV.jk (.ptr s o)=true:=rfl
theorem RM {a:AV} {o:Nat}:AV.jk (.ep a o)=true:=rfl
theorem RN {f:Nat} {cs:List AV}:AV.jk (.fn f cs)=true:=rfl
theorem RO:AV.jk (.un)=false:=rfl
theorem RP {c:UInt8}:AV.jk (b8 c)=true:=rfl
theorem RQ {k:Nat} {xs:List AV}:AV.jk (.sl .n k xs)=true:=rfl
theorem ND {k:Nat} {xs:List AV}:AV.jk (.sl .ex k xs)=true:=rfl
theorem KT {k:Nat} {xs:List AV}:AV.jk (.sl .own k xs)=true:=rfl
theorem NF {l:Loc} {k:Nat} {xs:List AV}:AV.jk (.sl (.fr l) k xs)=true:=rfl
theorem NH {cs:List AV}:AV.jk (.agg cs)=false:=rfl
theorem NI {cs:List AV}:AV.jk (.bM cs)=false:=rfl
theorem NJ {q0 k0 o0 m0:Nat}:AV.jk (.cJ q0 k0 o0 m0)=true:=rfl
theorem NK {q0 k0 m0 c0:Nat}:AV.jk (.cz q0 k0 m0 c0)=true:=rfl
theorem NL:AV.jk (.dW)=true:=rfl
theorem RR {eb:Bool}:AV.jk (dZ eb)=true:=by cases eb<;>rfl
theorem RS {z:Value}:AV.flat (.v z)=true:=rfl
theorem KU {k:IntKind} {i:Int}:AV.flat (.int k i)=true:=rfl
theorem II {b:Bool}:AV.flat (.bool b)=true:=rfl
theorem KV {l:List UInt8}:AV.flat (.str l)=true:=rfl
theorem KW {s o:Nat}:AV.flat (.ptr s o)=true:=rfl
theorem NM {a:AV} {o:Nat}:AV.flat (.ep a o)=true:=rfl
theorem NN {f:Nat} {cs:List AV}:AV.flat (.fn f cs)=true:=rfl
theorem NP:AV.flat (.un)=true:=rfl
theorem NQ {c:UInt8}:AV.flat (b8 c)=true:=rfl
theorem NR {k:Nat} {xs:List AV}:AV.flat (.sl .n k xs)=true:=rfl
theorem KX {k:Nat} {xs:List AV}:AV.flat (.sl .ex k xs)=true:=rfl
theorem IJ {k:Nat} {xs:List AV}:AV.flat (.sl .own k xs)=true:=rfl
theorem KY {l:Loc} {k:Nat} {xs:List AV}:AV.flat (.sl (.fr l) k xs)=true:=rfl
theorem KZ {cs:List AV}:AV.flat (.agg cs)=false:=rfl
theorem K1 {cs:List AV}:AV.flat (.bM cs)=false:=rfl
theorem K2 {q0 k0 o0 m0:Nat}:AV.flat (.cJ q0 k0 o0 m0)=true:=rfl
theorem K3 {q0 k0 m0 c0:Nat}:AV.flat (.cz q0 k0 m0 c0)=true:=rfl
theorem K4:AV.flat (.dW)=true:=rfl
theorem NS {eb:Bool}:AV.flat (dZ eb)=true:=by cases eb<;>rfl
theorem Y1 {z:Value}:AV.np (.v z)=true:=rfl
theorem RT {k:IntKind} {i:Int}:AV.np (.int k i)=true:=rfl
theorem NT {b:Bool}:AV.np (.bool b)=true:=rfl
theorem RU {l:List UInt8}:AV.np (.str l)=true:=rfl
theorem RV {s o:Nat}:AV.np (.ptr s o)=false:=rfl
theorem Vr {a:AV} {o:Nat}:AV.np (.ep a o)=false:=rfl
theorem Vs {f:Nat} {cs:List AV}:AV.np (.fn f cs)=cs.isEmpty:=rfl
theorem Vt:AV.np (.un)=true:=rfl
theorem Vu {c:UInt8}:AV.np (b8 c)=true:=rfl
theorem Vv {k:Nat} {xs:List AV}:AV.np (.sl .n k xs)=true:=rfl
theorem RW {k:Nat} {xs:List AV}:AV.np (.sl .ex k xs)=true:=rfl
theorem NU {k:Nat} {xs:List AV}:AV.np (.sl .own k xs)=true:=rfl
theorem RX {l:Loc} {k:Nat} {xs:List AV}:AV.np (.sl (.fr l) k xs)=true:=rfl
theorem RY {cs:List AV}:AV.np (.agg cs)=false:=rfl
theorem RZ {cs:List AV}:AV.np (.bM cs)=false:=rfl
theorem R8 {q0 k0 o0 m0:Nat}:AV.np (.cJ q0 k0 o0 m0)=false:=rfl
theorem R9 {q0 k0 m0 c0:Nat}:AV.np (.cz q0 k0 m0 c0)=false:=rfl
theorem Sa:AV.np (.dW)=true:=rfl
theorem Vw {eb:Bool}:AV.np (dZ eb)=true:=by cases eb<;>rfl
theorem NV {z:Value}:AV.eU (.v z)=false:=rfl
theorem IK {k:IntKind} {i:Int}:AV.eU (.int k i)=false:=rfl
theorem Gb {b:Bool}:AV.eU (.bool b)=false:=rfl
theorem IL {l:List UInt8}:AV.eU (.str l)=false:=rfl
theorem IM {s o:Nat}:AV.eU (.ptr s o)=false:=rfl
theorem K5 {a:AV} {o:Nat}:AV.eU (.ep a o)=false:=rfl
theorem K6 {f:Nat} {cs:List AV}:AV.eU (.fn f cs)=false:=rfl
theorem K7:AV.eU (.un)=false:=rfl
theorem K8 {c:UInt8}:AV.eU (b8 c)=false:=rfl
theorem K9 {k:Nat} {xs:List AV}:AV.eU (.sl .n k xs)=false:=rfl
theorem IP {k:Nat} {xs:List AV}:AV.eU (.sl .ex k xs)=false:=rfl
theorem Gc {k:Nat} {xs:List AV}:AV.eU (.sl .own k xs)=false:=rfl
theorem IQ {l:Loc} {k:Nat} {xs:List AV}:AV.eU (.sl (.fr l) k xs)=false:=rfl
theorem IU {cs:List AV}:AV.eU (.agg cs)=false:=rfl
theorem IV {cs:List AV}:AV.eU (.bM cs)=true:=rfl
theorem IW {q0 k0 o0 m0:Nat}:AV.eU (.cJ q0 k0 o0 m0)=false:=rfl
theorem IX {q0 k0 m0 c0:Nat}:AV.eU (.cz q0 k0 m0 c0)=false:=rfl
theorem IY:AV.eU (.dW)=false:=rfl
theorem La {eb:Bool}:AV.eU (dZ eb)=false:=by cases eb<;>rfl
theorem Y2 {L:List Nat} {x:Ar} {z:Value}:cp L x (.v z)= .v z:=rfl
theorem Sb {L:List Nat} {x:Ar} {k:IntKind} {i:Int}:cp L x (.int k i)= .int k i:=rfl
theorem NW {L:List Nat} {x:Ar} {b:Bool}:cp L x (.bool b)= .bool b:=rfl
theorem Sc {L:List Nat} {x:Ar} {l:List UInt8}:cp L x (.str l)= .str l:=rfl
theorem Sd {L:List Nat} {x:Ar} {s o:Nat}:cp L x (.ptr s o)= .ptr s o:=rfl
theorem Vx {L:List Nat} {x:Ar} {a:AV} {o:Nat}:cp L x (.ep a o)= .ep a o:=rfl
theorem Vy {L:List Nat} {x:Ar} {f:Nat} {cs:List AV}:cp L x (.fn f cs)= .fn f cs:=rfl
theorem Vz {L:List Nat} {x:Ar}:cp L x (.un)= .un:=rfl
theorem VA {L:List Nat} {x:Ar} {c:UInt8}:cp L x (b8 c)=b8 c:=rfl
theorem VB {L:List Nat} {x:Ar} {k:Nat} {xs:List AV}:cp L x (.sl .n k xs)= .sl .n k xs:=rfl
theorem Se {L:List Nat} {x:Ar} {k:Nat} {xs:List AV}:cp L x (.sl .ex k xs)= .sl .ex k xs:=rfl
theorem Sf {L:List Nat} {x:Ar} {l:Loc} {k:Nat} {xs:List AV}:cp L x (.sl (.fr l) k xs)= .sl (.fr l) k xs:=rfl
theorem Sg {L:List Nat} {x:Ar} {cs:List AV}:cp L x (.agg cs)= .agg (cs.map AV.bT):=rfl
theorem Sh {L:List Nat} {x:Ar} {cs:List AV}:cp L x (.bM cs)= .bM (cs.map AV.bT):=rfl
theorem Si {L:List Nat} {x:Ar} {q0 k0 o0 m0:Nat}:cp L x (.cJ q0 k0 o0 m0)= .cJ q0 k0 o0 m0:=rfl
theorem Sj {L:List Nat} {x:Ar} {q0 k0 m0 c0:Nat}:cp L x (.cz q0 k0 m0 c0)= .cz q0 k0 m0 c0:=rfl
theorem Sk {L:List Nat} {x:Ar}:cp L x (.dW)= .dW:=rfl
theorem VC {L:List Nat} {x:Ar} {eb:Bool}:cp L x (dZ eb)=dZ eb:=by cases eb<;>rfl
theorem VD {L:List Nat} {u k:Nat} {xs:List AV}:cp L (.t u) (.sl .own k xs)=if L.contains u then .sl (.fr (.tmp u)) k xs else .sl .n k xs:=rfl
theorem VE {L:List Nat} {a:AV} {k:Nat} {xs:List AV}:cp L (.c a) (.sl .own k xs)= .sl .n k xs:=rfl
theorem VF {P:Program} {L:List Nat} {N n0:Nat} {e:Env} {ah:AH} {t:List It} {Q:Exit→Env→AH→Prop} {r:List aQ} {d:Option Nat} {x:Ar} {z:Value}:jX P L N n0 e ah d r t Q x (.v z)=U P L N n0 (.ops r::t) Q .normal (aK L e d (cp L x (.v z))) ah:=rfl
theorem NX {P:Program} {L:List Nat} {N n0:Nat} {e:Env} {ah:AH} {t:List It} {Q:Exit→Env→AH→Prop} {r:List aQ} {d:Option Nat} {x:Ar} {k:IntKind} {i:Int}:jX P L N n0 e ah d r t Q x (.int k i)=U P L N n0 (.ops r::t) Q .normal (aK L e d (cp L x (.int k i))) ah:=rfl
theorem Lb {P:Program} {L:List Nat} {N n0:Nat} {e:Env} {ah:AH} {t:List It} {Q:Exit→Env→AH→Prop} {r:List aQ} {d:Option Nat} {x:Ar} {b:Bool}:jX P L N n0 e ah d r t Q x (.bool b)=U P L N n0 (.ops r::t) Q .normal (aK L e d (cp L x (.bool b))) ah:=rfl
theorem NY {P:Program} {L:List Nat} {N n0:Nat} {e:Env} {ah:AH} {t:List It} {Q:Exit→Env→AH→Prop} {r:List aQ} {d:Option Nat} {x:Ar} {l:List UInt8}:jX P L N n0 e ah d r t Q x (.str l)=U P L N n0 (.ops r::t) Q .normal (aK L e d (cp L x (.str l))) ah:=rfl
theorem NZ {P:Program} {L:List Nat} {N n0:Nat} {e:Env} {ah:AH} {t:List It} {Q:Exit→Env→AH→Prop} {r:List aQ} {d:Option Nat} {x:Ar} {s o:Nat}:jX P L N n0 e ah d r t Q x (.ptr s o)=U P L N n0 (.ops r::t) Q .normal (aK L e d (cp L x (.ptr s o))) ah:=rfl
theorem Sl {P:Program} {L:List Nat} {N n0:Nat} {e:Env} {ah:AH} {t:List It} {Q:Exit→Env→AH→Prop} {r:List aQ} {d:Option Nat} {x:Ar} {a:AV} {o:Nat}:jX P L N n0 e ah d r t Q x (.ep a o)=U P L N n0 (.ops r::t) Q .normal (aK L e d (cp L x (.ep a o))) ah:=rfl
theorem Sm {P:Program} {L:List Nat} {N n0:Nat} {e:Env} {ah:AH} {t:List It} {Q:Exit→Env→AH→Prop} {r:List aQ} {d:Option Nat} {x:Ar} {f:Nat} {cs:List AV}:jX P L N n0 e ah d r t Q x (.fn f cs)=U P L N n0 (.ops r::t) Q .normal (aK L e d (cp L x (.fn f cs))) ah:=rfl
theorem Sn {P:Program} {L:List Nat} {N n0:Nat} {e:Env} {ah:AH} {t:List It} {Q:Exit→Env→AH→Prop} {r:List aQ} {d:Option Nat} {x:Ar}:jX P L N n0 e ah d r t Q x (.un)=U P L N n0 (.ops r::t) Q .normal (aK L e d (cp L x (.un))) ah:=rfl
theorem So {P:Program} {L:List Nat} {N n0:Nat} {e:Env} {ah:AH} {t:List It} {Q:Exit→Env→AH→Prop} {r:List aQ} {d:Option Nat} {x:Ar} {c:UInt8}:jX P L N n0 e ah d r t Q x (b8 c)=U P L N n0 (.ops r::t) Q .normal (aK L e d (cp L x (b8 c))) ah:=rfl
theorem Sp {P:Program} {L:List Nat} {N n0:Nat} {e:Env} {ah:AH} {t:List It} {Q:Exit→Env→AH→Prop} {r:List aQ} {d:Option Nat} {x:Ar} {k:Nat} {xs:List AV}:jX P L N n0 e ah d r t Q x (.sl .n k xs)=U P L N n0 (.ops r::t) Q .normal (aK L e d (cp L x (.sl .n k xs))) ah:=rfl
theorem N0 {P:Program} {L:List Nat} {N n0:Nat} {e:Env} {ah:AH} {t:List It} {Q:Exit→Env→AH→Prop} {r:List aQ} {d:Option Nat} {x:Ar} {k:Nat} {xs:List AV}:jX P L N n0 e ah d r t Q x (.sl .ex k xs)=U P L N n0 (.ops r::t) Q .normal (aK L e d (cp L x (.sl .ex k xs))) ah:=rfl
theorem N1 {P:Program} {L:List Nat} {N n0:Nat} {e:Env} {ah:AH} {t:List It} {Q:Exit→Env→AH→Prop} {r:List aQ} {d:Option Nat} {x:Ar} {l:Loc} {k:Nat} {xs:List AV}:jX P L N n0 e ah d r t Q x (.sl (.fr l) k xs)=U P L N n0 (.ops r::t) Q .normal (aK L e d (cp L x (.sl (.fr l) k xs))) ah:=rfl
theorem N2 {P:Program} {L:List Nat} {N n0:Nat} {e:Env} {ah:AH} {t:List It} {Q:Exit→Env→AH→Prop} {r:List aQ} {d:Option Nat} {x:Ar} {cs:List AV}:jX P L N n0 e ah d r t Q x (.agg cs)=U P L N n0 (.ops r::t) Q .normal (aK L e d (cp L x (.agg cs))) ah:=rfl
theorem N3 {P:Program} {L:List Nat} {N n0:Nat} {e:Env} {ah:AH} {t:List It} {Q:Exit→Env→AH→Prop} {r:List aQ} {d:Option Nat} {x:Ar} {cs:List AV}:jX P L N n0 e ah d r t Q x (.bM cs)=U P L N n0 (.ops r::t) Q .normal (aK L e d (cp L x (.bM cs))) ah:=rfl
theorem N4 {P:Program} {L:List Nat} {N n0:Nat} {e:Env} {ah:AH} {t:List It} {Q:Exit→Env→AH→Prop} {r:List aQ} {d:Option Nat} {x:Ar} {q0 k0 o0 m0:Nat}:jX P L N n0 e ah d r t Q x (.cJ q0 k0 o0 m0)=U P L N n0 (.ops r::t) Q .normal (aK L e d (cp L x (.cJ q0 k0 o0 m0))) ah:=rfl
theorem N5 {P:Program} {L:List Nat} {N n0:Nat} {e:Env} {ah:AH} {t:List It} {Q:Exit→Env→AH→Prop} {r:List aQ} {d:Option Nat} {x:Ar} {q0 k0 m0 c0:Nat}:jX P L N n0 e ah d r t Q x (.cz q0 k0 m0 c0)=U P L N n0 (.ops r::t) Q .normal (aK L e d (cp L x (.cz q0 k0 m0 c0))) ah:=rfl
theorem N6 {P:Program} {L:List Nat} {N n0:Nat} {e:Env} {ah:AH} {t:List It} {Q:Exit→Env→AH→Prop} {r:List aQ} {d:Option Nat} {x:Ar}:jX P L N n0 e ah d r t Q x (.dW)=U P L N n0 (.ops r::t) Q .normal (aK L e d (cp L x (.dW))) ah:=rfl
theorem Sq {P:Program} {L:List Nat} {N n0:Nat} {e:Env} {ah:AH} {t:List It} {Q:Exit→Env→AH→Prop} {r:List aQ} {d:Option Nat} {x:Ar} {eb:Bool}:jX P L N n0 e ah d r t Q x (dZ eb)=U P L N n0 (.ops r::t) Q .normal (aK L e d (cp L x (dZ eb))) ah:=by cases eb<;>rfl
theorem Sr {P:Program} {L:List Nat} {N n0:Nat} {e:Env} {ah:AH} {t:List It} {Q:Exit→Env→AH→Prop} {r:List aQ} {d:Option Nat} {y k:Nat} {xs:List AV}:jX P L N n0 e ah d r t Q (.t y) (.sl .own k xs)=U P L N n0 (.ops r::t) Q .normal (aK L (put e y (.sl .n k xs)) d (.sl .own k xs)) ah:=rfl
theorem Ss {P:Program} {L:List Nat} {N n0:Nat} {e:Env} {ah:AH} {t:List It} {Q:Exit→Env→AH→Prop} {r:List aQ} {d:Option Nat} {a:AV} {k:Nat} {xs:List AV}:jX P L N n0 e ah d r t Q (.c a) (.sl .own k xs)=U P L N n0 (.ops r::t) Q .normal (aK L e d (cp L (.c a) (.sl .own k xs))) ah:=rfl
theorem Su {L:List Nat} {e:Env} {ah:AH} {d:Option Nat} {a b:Ar}:MJ L e ah d a b (.bool true)=some (aK L e d (ev e a).sh,ah):=rfl
theorem Sv {L:List Nat} {e:Env} {ah:AH} {d:Option Nat} {a b:Ar}:MJ L e ah d a b (.bool false)=some (aK L e d (ev e b).sh,ah):=rfl
theorem N7 {L:List Nat} {e:Env} {ah:AH} {d:Option Nat} {s o:Nat}:Ui L e ah d (.ptr s o)=some (aK L e d (.ptr s o),ah):=rfl
theorem Sw {L:List Nat} {e:Env} {ah:AH} {d:Option Nat} {a:AV} {o:Nat}:Ui L e ah d (.ep a o)=some (aK L e d (.ep a o),ah):=rfl
theorem N8 {L:List Nat} {e:Env} {ah:AH} {d:Option Nat} {q s o:Nat}:Uj L e ah d q (.ptr s o)=some (aK L e d (.ptr s (o+q)),ah):=rfl
theorem Sx {L:List Nat} {e:Env} {ah:AH} {d:Option Nat} {q o:Nat} {a:AV}:Uj L e ah d q (.ep a o)=some (aK L e d (.ep a (o+q)),ah):=rfl
theorem Sy {L:List Nat} {e:Env} {ah:AH} {d:Option Nat} {n:Option Nat} {s o:Nat}:H6 L d n e ah (.ptr s o)=Yt L d n s o e ah (ah[s]?):=rfl
theorem VG {L:List Nat} {e:Env} {ah:AH} {d:Option Nat} {o:Nat} {a:AV}:H6 L d none e ah (.ep a o)=QG L d e ah (a.cells[o]?):=rfl
theorem VH {L:List Nat} {e:Env} {ah:AH} {d:Option Nat} {n o:Nat} {a:AV}:H6 L d (some n) e ah (.ep a o)=if o+n≤a.cells.length∧b5 ((a.cells.drop o).take n) then some (aK L e d (.agg (((a.cells.drop o).take n).map AV.s1)),ah) else none:=rfl
theorem VI {s1 o1:Nat} {z:Value}:lV s1 o1 (some (.v z))=some (AV.bT (.v z)):=rfl
theorem N9 {s1 o1:Nat} {k:IntKind} {i:Int}:lV s1 o1 (some (.int k i))=some (AV.bT (.int k i)):=rfl
theorem Lc {s1 o1:Nat} {b:Bool}:lV s1 o1 (some (.bool b))=some (AV.bT (.bool b)):=rfl
theorem Oa {s1 o1:Nat} {l:List UInt8}:lV s1 o1 (some (.str l))=some (AV.bT (.str l)):=rfl
theorem Ob {s1 o1:Nat} {s o:Nat}:lV s1 o1 (some (.ptr s o))=some (AV.bT (.ptr s o)):=rfl
theorem Sz {s1 o1:Nat} {a:AV} {o:Nat}:lV s1 o1 (some (.ep a o))=some (AV.bT (.ep a o)):=rfl
theorem SA {s1 o1:Nat} {f:Nat} {cs:List AV}:lV s1 o1 (some (.fn f cs))=some (AV.bT (.fn f cs)):=rfl
theorem SB {s1 o1:Nat}:lV s1 o1 (some (.un))=some (AV.bT (.un)):=rfl
theorem SC {s1 o1:Nat} {c:UInt8}:lV s1 o1 (some (b8 c))=some (AV.bT (b8 c)):=rfl
theorem SD {s1 o1:Nat} {k:Nat} {xs:List AV}:lV s1 o1 (some (.sl .n k xs))=some (AV.bT (.sl .n k xs)):=rfl
theorem Oc {s1 o1:Nat} {k:Nat} {xs:List AV}:lV s1 o1 (some (.sl .ex k xs))=some (AV.bT (.sl .ex k xs)):=rfl
theorem Od {s o k:Nat} {xs:List AV}:lV s o (some (.sl .own k xs))=some (.sl (.fr (.cell s o)) k xs):=rfl
theorem Oe {s1 o1:Nat} {l:Loc} {k:Nat} {xs:List AV}:lV s1 o1 (some (.sl (.fr l) k xs))=some (AV.bT (.sl (.fr l) k xs)):=rfl
theorem Of {s1 o1:Nat} {q0 k0 o0 m0:Nat}:lV s1 o1 (some (.cJ q0 k0 o0 m0))=some (AV.bT (.cJ q0 k0 o0 m0)):=rfl
theorem Og {s1 o1:Nat} {q0 k0 m0 c0:Nat}:lV s1 o1 (some (.cz q0 k0 m0 c0))=some (AV.bT (.cz q0 k0 m0 c0)):=rfl
theorem Oh {s1 o1:Nat}:lV s1 o1 (some (.dW))=some (AV.bT (.dW)):=rfl
theorem SE {s1 o1:Nat} {eb:Bool}:lV s1 o1 (some (dZ eb))=some (AV.bT (dZ eb)):=by cases eb<;>rfl
theorem Y3 {L:List Nat} {e:Env} {ah:AH} {d:Option Nat} {ks:List Pk} {neq:Bool} {zq bs:List AV}:ZX L e ah d ks neq (.agg zq) (.agg bs)=(cr ks zq bs).map fun b=>(aK L e d (.bool (if neq then !b else b)),ah):=rfl
theorem Y4 {L:List Nat} {e:Env} {ah:AH} {d:Option Nat} {l:List UInt8} {k k2:IntKind} {i j:Int}:PD L e ah d l (.int k i) (.int k2 j)=(sub l i j).map fun m=>(aK L e d (.str m),ah):=rfl
theorem Y5 {L:List Nat} {e:Env} {ah:AH} {d:Option Nat} {q:Nat} {xs:List AV} {k k2:IntKind} {i j:Int}:PF L e ah d q xs (.int k i) (.int k2 j)=(sub xs i j).map fun ys=>(aK L e d (.sl .n q ys),ah):=rfl
theorem VJ {L:List Nat} {e:Env} {ah:AH} {d:Option Nat} {q:Nat} {xs:List AV} {k k2 k3:IntKind} {i j m:Int}:Ez L e ah d q xs (.int k i) (.int k2 j) (.int k3 m)=(wB xs i j m).map fun ys=>(aK L e d (.sl .ex q ys),ah):=rfl
theorem VK {L:List Nat} {e:Env} {ah:AH} {d:Option Nat} {k b:Nat} {x:Ar} {ys xs:List AV} {tg:Tg}:Ie L e ah d k b x ys (.sl tg k xs)=EA L e ah d k x xs tg (ct b xs ys):=by simp [Ie]
theorem VL {L:List Nat} {e:Env} {ah:AH} {d:Option Nat} {k:Nat} {x:Ar} {xs zs:List AV}:sP L e ah d k x xs zs .ex=some (aK L e d (.sl .own k zs),ah):=rfl
theorem SF {L:List Nat} {e:Env} {ah:AH} {d:Option Nat} {k y:Nat} {xs zs:List AV}:sP L e ah d k (.t y) xs zs .own=some (aK L (put e y (.sl .n k xs)) d (.sl .own k zs),ah):=rfl
def aTt (L:List Nat) (e:Env) (ah:AH) (d:Option Nat) (k u:Nat) (zs:List AV):AV→Option (Env×AH)
 | .sl .own k' us=>if k'=k then some (aK L (put e u (.sl .n k' us)) d (.sl .own k zs),ah) else none
 |_=>none
def Y6 (L:List Nat) (e:Env) (ah:AH) (d:Option Nat) (k s q:Nat) (zs cs:List AV):Option AV→Option (Env×AH)
 |some (.sl .own k' us)=>if k'=k then (over cs q [.sl .n k' us]).map fun cs=>(aK L e d (.sl .own k zs),ah.set s cs) else none
 |_=>none
def aTh (L:List Nat) (e:Env) (ah:AH) (d:Option Nat) (k s q:Nat) (zs:List AV):Option (List AV)→Option (Env×AH)
 |some cs=>Y6 L e ah d k s q zs cs (cs[q]?)
 |none=>none
theorem Y7 {L:List Nat} {e:Env} {ah:AH} {d:Option Nat} {k u:Nat} {x:Ar} {xs zs:List AV}:sP L e ah d k x xs zs (.fr (.tmp u))=aTt L e ah d k u zs (Am.get e u):=by simp only [sP];cases Am.get e u with|sl tg k2 us=>cases tg<;>rfl|_=>rfl
theorem Y8 {L:List Nat} {e:Env} {ah:AH} {d:Option Nat} {k s q:Nat} {x:Ar} {xs zs:List AV}:sP L e ah d k x xs zs (.fr (.cell s q))=aTh L e ah d k s q zs (ah[s]?):=by simp only [sP];cases ah[s]? with|none=>rfl|some cs=>simp only [aTh];cases cs[q]? with|none=>rfl|some a=>cases a with|sl tg k2 us=>cases tg<;>rfl|_=>rfl
theorem abu {L:List Nat} {e:Env} {ah:AH} {d:Option Nat} {k u:Nat} {zs us:List AV}:aTt L e ah d k u zs (.sl .own k us)=some (aK L (put e u (.sl .n k us)) d (.sl .own k zs),ah):=by simp [aTt]
theorem abv {L:List Nat} {e:Env} {ah:AH} {d:Option Nat} {k s q:Nat} {zs cs:List AV}:aTh L e ah d k s q zs (some cs)=Y6 L e ah d k s q zs cs (cs[q]?):=rfl
theorem abw {L:List Nat} {e:Env} {ah:AH} {d:Option Nat} {k s q:Nat} {zs cs us:List AV}:Y6 L e ah d k s q zs cs (some (.sl .own k us))=(over cs q [.sl .n k us]).map fun cs=>(aK L e d (.sl .own k zs),ah.set s cs):=by simp [Y6]
theorem abx:b5 []=true:=rfl
theorem aby {a:AV} {r:List AV}:b5 (a::r)=(a.flat&&b5 r):=rfl
theorem abz:b6 []=true:=rfl
theorem ady {a:AV} {r:List AV}:b6 (a::r)=(a.jk&&b6 r):=rfl
theorem abA:gj []=true:=rfl
theorem adz {a:AV} {r:List AV}:gj (a::r)=(a.np&&gj r):=rfl
theorem adA {t:Nat}:Am.get [] t= .un:=rfl
theorem adB {i t:Nat} {a:AV} {r:Env}:Am.get ((i,a)::r) t=if i=t then a else Am.get r t:=rfl
theorem adC {d:Nat} {a:AV}:put [] d a=[(d,a)]:=rfl
theorem adD {i d:Nat} {a b:AV} {r:Env}:put ((i,b)::r) d a=if i=d then (d,a)::r else if d<i then (d,a)::(i,b)::r else (i,b)::put r d a:=rfl
theorem adF {L:List Nat}:keep L []=[]:=rfl
theorem adG {L:List Nat} {i:Nat} {a:AV} {r:Env}:keep L ((i,a)::r)=if L.contains i then (i,a)::keep L r else keep L r:=rfl
theorem adH {l:Loc}:lg l []=[]:=rfl
theorem adI {l:Loc} {i:Nat} {a:AV} {r:Env}:lg l ((i,a)::r)=(i,a.eE l)::lg l r:=rfl
theorem adJ:wq []=[]:=rfl
theorem adK {i:Nat} {a:AV} {r:Env}:wq ((i,a)::r)=(i,a.jj)::wq r:=rfl
theorem adL {e:Env}:pY e none=e:=rfl
theorem adM {e:Env} {d:Nat}:pY e (some d)=put e d (.bM []):=rfl
theorem adN {L:List Nat} {e:Env} {a:AV}:aK L e none a=e:=rfl
theorem adO {L:List Nat} {e:Env} {d:Nat} {a:AV}:aK L e (some d) a=if L.contains d then (if a.bU then put (lg (.tmp d) e) d a else put e d a.df) else put e d a:=rfl
theorem adP {i:Nat}:fA i []=[]:=rfl
theorem adQ {i:Nat} {a:AV} {r:List AV}:fA i (a::r)=(i,a)::fA (i+1) r:=rfl
theorem adR {k:IntKind} {i:Int}:jY k i= .int k i:=rfl
theorem adS {a b:Nat}:(Loc.tmp a=Loc.tmp b)=(a=b):=by simp
theorem adT {a b c d:Nat}:(Loc.cell a b=Loc.cell c d)=(a=c∧b=d):=by simp
theorem abB {a c d:Nat}:(Loc.tmp a=Loc.cell c d)=False:=by simp
theorem abC {a c d:Nat}:(Loc.cell c d=Loc.tmp a)=False:=by simp
def uq (e:Env) (ah:AH) (s p n:Nat) (x:Ar) (cs:List AV):AV→Option (Env×AH)
 | .sl .own k xs=>match x with
   | .t y=>if n=1 then (over cs p [.sl .own k xs]).map fun cs=>(lg (.cell s p) (put e y (.sl .n k xs)),ah.set s cs) else none
   | .c a=>if (AV.sl .own k xs).cells.length=n∧b6 (AV.sl .own k xs).cells then (over cs p ((AV.sl .own k xs).cells.map AV.bT)).map fun cs=>(e,ah.set s cs) else none
 |w=>if w.cells.length=n∧b6 w.cells then (over cs p (w.cells.map AV.bT)).map fun cs=>(e,ah.set s cs) else none
def Y9 (e:Env) (ah:AH) (s p n:Nat) (x:Ar):Option (List AV)→Option (Env×AH)
 |some cs=>uq e ah s p n x cs (ev e x)
 |none=>none
def stK (e:Env) (ah:AH) (n:Nat) (x:Ar):AV→Option (Env×AH)
 | .ptr s p=>Y9 e ah s p n x (ah[s]?)
 |_=>none
theorem Z7 {P:Program} {L:List Nat} {N n0:Nat} {e:Env} {ah:AH} {t:List It} {Q:Exit→Env→AH→Prop} {r:List aQ} {d:Option Nat} {a x:Ar} {n:Nat} {g:Option (Nat×Bool)}:UG P L N n0 ⟨d, .st a x n,g⟩ r t Q e ah (some true)=US P L N n0 r t Q (stK e ah n x (ev e a)):=by
 simp only [UG,bN]
 congr 1
 cases ev e a with
 |ptr s p=>
  simp only [stK]
  cases ah[s]? with
  |none=>rfl
  |some cs=>
   simp only [Y9]
   cases ev e x with
   |sl tg k xs=>cases tg<;>cases x<;>rfl
   |_=>rfl
 |_=>rfl
theorem abD {e:Env} {ah:AH} {s p n:Nat} {x:Ar}:stK e ah n x (.ptr s p)=Y9 e ah s p n x (ah[s]?):=rfl
theorem abE {e:Env} {ah:AH} {s p n:Nat} {x:Ar} {cs:List AV}:Y9 e ah s p n x (some cs)=uq e ah s p n x cs (ev e x):=rfl
theorem SG {e:Env} {ah:AH} {s p n y k:Nat} {cs xs:List AV}:uq e ah s p n (.t y) cs (.sl .own k xs)=if n=1 then (over cs p [.sl .own k xs]).map fun cs=>(lg (.cell s p) (put e y (.sl .n k xs)),ah.set s cs) else none:=rfl
theorem VM {e:Env} {ah:AH} {s p n:Nat} {x:Ar} {cs:List AV} {z:Value}:uq e ah s p n x cs (.v z)=if (AV.cells (.v z)).length=n∧b6 (AV.cells (.v z)) then (over cs p ((AV.cells (.v z)).map AV.bT)).map fun cs=>(e,ah.set s cs) else none:=rfl
theorem Oi {e:Env} {ah:AH} {s p n:Nat} {x:Ar} {cs:List AV} {k:IntKind} {i:Int}:uq e ah s p n x cs (.int k i)=if (AV.cells (.int k i)).length=n∧b6 (AV.cells (.int k i)) then (over cs p ((AV.cells (.int k i)).map AV.bT)).map fun cs=>(e,ah.set s cs) else none:=rfl
theorem Ld {e:Env} {ah:AH} {s p n:Nat} {x:Ar} {cs:List AV} {b:Bool}:uq e ah s p n x cs (.bool b)=if (AV.cells (.bool b)).length=n∧b6 (AV.cells (.bool b)) then (over cs p ((AV.cells (.bool b)).map AV.bT)).map fun cs=>(e,ah.set s cs) else none:=rfl
theorem Oj {e:Env} {ah:AH} {s p n:Nat} {x:Ar} {cs:List AV} {l:List UInt8}:uq e ah s p n x cs (.str l)=if (AV.cells (.str l)).length=n∧b6 (AV.cells (.str l)) then (over cs p ((AV.cells (.str l)).map AV.bT)).map fun cs=>(e,ah.set s cs) else none:=rfl
theorem Ok {e:Env} {ah:AH} {s p n:Nat} {x:Ar} {cs:List AV} {s0 o:Nat}:uq e ah s p n x cs (.ptr s0 o)=if (AV.cells (.ptr s0 o)).length=n∧b6 (AV.cells (.ptr s0 o)) then (over cs p ((AV.cells (.ptr s0 o)).map AV.bT)).map fun cs=>(e,ah.set s cs) else none:=rfl
theorem SH {e:Env} {ah:AH} {s p n:Nat} {x:Ar} {cs:List AV} {a:AV} {o:Nat}:uq e ah s p n x cs (.ep a o)=if (AV.cells (.ep a o)).length=n∧b6 (AV.cells (.ep a o)) then (over cs p ((AV.cells (.ep a o)).map AV.bT)).map fun cs=>(e,ah.set s cs) else none:=rfl
theorem SI {e:Env} {ah:AH} {s p n:Nat} {x:Ar} {cs:List AV} {f:Nat} {ds:List AV}:uq e ah s p n x cs (.fn f ds)=if (AV.cells (.fn f ds)).length=n∧b6 (AV.cells (.fn f ds)) then (over cs p ((AV.cells (.fn f ds)).map AV.bT)).map fun cs=>(e,ah.set s cs) else none:=rfl
theorem SJ {e:Env} {ah:AH} {s p n:Nat} {x:Ar} {cs:List AV} {c:UInt8}:uq e ah s p n x cs (b8 c)=if (AV.cells (b8 c)).length=n∧b6 (AV.cells (b8 c)) then (over cs p ((AV.cells (b8 c)).map AV.bT)).map fun cs=>(e,ah.set s cs) else none:=rfl
theorem SK {e:Env} {ah:AH} {s p n:Nat} {x:Ar} {cs:List AV} {k:Nat} {xs:List AV}:uq e ah s p n x cs (.sl .n k xs)=if (AV.cells (.sl .n k xs)).length=n∧b6 (AV.cells (.sl .n k xs)) then (over cs p ((AV.cells (.sl .n k xs)).map AV.bT)).map fun cs=>(e,ah.set s cs) else none:=rfl
theorem Ol {e:Env} {ah:AH} {s p n:Nat} {x:Ar} {cs:List AV} {k:Nat} {xs:List AV}:uq e ah s p n x cs (.sl .ex k xs)=if (AV.cells (.sl .ex k xs)).length=n∧b6 (AV.cells (.sl .ex k xs)) then (over cs p ((AV.cells (.sl .ex k xs)).map AV.bT)).map fun cs=>(e,ah.set s cs) else none:=rfl
theorem Om {e:Env} {ah:AH} {s p n:Nat} {x:Ar} {cs:List AV} {l:Loc} {k:Nat} {xs:List AV}:uq e ah s p n x cs (.sl (.fr l) k xs)=if (AV.cells (.sl (.fr l) k xs)).length=n∧b6 (AV.cells (.sl (.fr l) k xs)) then (over cs p ((AV.cells (.sl (.fr l) k xs)).map AV.bT)).map fun cs=>(e,ah.set s cs) else none:=rfl
theorem On {e:Env} {ah:AH} {s p n:Nat} {x:Ar} {cs:List AV} {ds:List AV}:uq e ah s p n x cs (.agg ds)=if (AV.cells (.agg ds)).length=n∧b6 (AV.cells (.agg ds)) then (over cs p ((AV.cells (.agg ds)).map AV.bT)).map fun cs=>(e,ah.set s cs) else none:=rfl
theorem Oo {e:Env} {ah:AH} {s p n:Nat} {x:Ar} {cs:List AV} {q0 k0 o0 m0:Nat}:uq e ah s p n x cs (.cJ q0 k0 o0 m0)=if (AV.cells (.cJ q0 k0 o0 m0)).length=n∧b6 (AV.cells (.cJ q0 k0 o0 m0)) then (over cs p ((AV.cells (.cJ q0 k0 o0 m0)).map AV.bT)).map fun cs=>(e,ah.set s cs) else none:=rfl
theorem Oq {e:Env} {ah:AH} {s p n:Nat} {x:Ar} {cs:List AV} {q0 k0 m0 c0:Nat}:uq e ah s p n x cs (.cz q0 k0 m0 c0)=if (AV.cells (.cz q0 k0 m0 c0)).length=n∧b6 (AV.cells (.cz q0 k0 m0 c0)) then (over cs p ((AV.cells (.cz q0 k0 m0 c0)).map AV.bT)).map fun cs=>(e,ah.set s cs) else none:=rfl
theorem Ot {e:Env} {ah:AH} {s p n:Nat} {x:Ar} {cs:List AV}:uq e ah s p n x cs (.dW)=if (AV.cells (.dW)).length=n∧b6 (AV.cells (.dW)) then (over cs p ((AV.cells (.dW)).map AV.bT)).map fun cs=>(e,ah.set s cs) else none:=rfl
theorem SL {e:Env} {ah:AH} {s p n:Nat} {x:Ar} {cs:List AV} {eb:Bool}:uq e ah s p n x cs (dZ eb)=if (AV.cells (dZ eb)).length=n∧b6 (AV.cells (dZ eb)) then (over cs p ((AV.cells (dZ eb)).map AV.bT)).map fun cs=>(e,ah.set s cs) else none:=by cases eb<;>rfl
theorem Za {c0:AV} {cs ws:List AV} {o:Nat}:over (c0::cs) o ws=if o+ws.length≤(c0::cs).length then some ((c0::cs).take o++ws++(c0::cs).drop (o+ws.length)) else none:=rfl
theorem adU {e:Env} {cs:List AV}:fill e cs []=some cs:=rfl
def VN (e:Env) (r:List (Nat×Nat×Ar)):Option (List AV)→Option (List AV)
 |some cs=>fill e cs r
 |none=>none
theorem adV {e:Env} {cs:List AV} {o n:Nat} {x:Ar} {r:List (Nat×Nat×Ar)}:fill e cs ((o,n,x)::r)=if (ev e x).cells.length=n∧b6 (ev e x).cells then VN e r (over cs o ((ev e x).cells.map AV.bT)) else none:=by
 simp only [fill]
 split
 · cases over cs o ((ev e x).cells.map AV.bT)<;>rfl
 · rfl
theorem adW {e:Env} {cs:List AV} {r:List (Nat×Nat×Ar)}:VN e r (some cs)=fill e cs r:=rfl
theorem VO {P:Program} {L:List Nat} {N n0:Nat} {e:Env} {ah:AH} {t:List It} {Q:Exit→Env→AH→Prop} {r:List aQ} {d:Option Nat} {x:Ar} {g:Option (Nat×Bool)}:UG P L N n0 ⟨d, .len x,g⟩ r t Q e ah (some true)=US P L N n0 r t Q (PJ L e ah d (ev e x)):=by simp only [UG,bN];cases ev e x<;>rfl
theorem Zb {L:List Nat} {e:Env} {ah:AH} {d:Option Nat} {tg:Tg} {k:Nat} {xs:List AV}:PJ L e ah d (.sl tg k xs)=some (aK L e d (.int .i64 xs.length),ah):=rfl
theorem PK {P:Program} {L:List Nat} {N n0:Nat} {e:Env} {ah:AH} {t:List It} {Q:Exit→Env→AH→Prop} {r:List aQ} {d:Option Nat} {x:Ar} {g:Option (Nat×Bool)}:UG P L N n0 ⟨d, .lens x,g⟩ r t Q e ah (some true)=US P L N n0 r t Q (UQ L e ah d (ev e x)):=by simp only [UG,bN];cases ev e x<;>rfl
theorem VP {L:List Nat} {e:Env} {ah:AH} {d:Option Nat} {l:List UInt8}:UQ L e ah d (.str l)=some (aK L e d (.int .i64 l.length),ah):=rfl
theorem VQ {P:Program} {L:List Nat} {N n0:Nat} {e:Env} {ah:AH} {t:List It} {Q:Exit→Env→AH→Prop} {r:List aQ} {d:Option Nat} {x:Ar} {i:Nat} {g:Option (Nat×Bool)}:UG P L N n0 ⟨d, .ext x i,g⟩ r t Q e ah (some true)=US P L N n0 r t Q (UT L e ah d i (ev e x)):=by simp only [UG,bN];cases ev e x with|bM cs=>simp only [UT];cases cs[i]? <;>rfl|_=>rfl
theorem Zc {L:List Nat} {e:Env} {ah:AH} {d:Option Nat} {i:Nat} {cs:List AV}:UT L e ah d i (.bM cs)=UR L e ah d (cs[i]?):=rfl
theorem Zd {L:List Nat} {e:Env} {ah:AH} {d:Option Nat} {a:AV}:UR L e ah d (some a)=some (aK L e d a.sh,ah):=rfl
theorem PL {P:Program} {L:List Nat} {N n0:Nat} {e:Env} {ah:AH} {t:List It} {Q:Exit→Env→AH→Prop} {r:List aQ} {d:Option Nat} {x:Ar} {q:Nat} {n:Option Nat} {g:Option (Nat×Bool)}:UG P L N n0 ⟨d, .G4 x q n,g⟩ r t Q e ah (some true)=US P L N n0 r t Q (Ii L e ah d q n (ev e x)):=by
 simp only [UG,bN]
 cases ev e x with
 |agg cs=>
  cases n with
  |some n=>rfl
  |none=>simp only [Ii];cases cs[q]? <;>rfl
 |_=>cases n<;>rfl
theorem abF {L:List Nat} {e:Env} {ah:AH} {d:Option Nat} {q:Nat} {cs:List AV}:Ii L e ah d q none (.agg cs)=MM L e ah d (cs[q]?):=rfl
theorem abG {L:List Nat} {e:Env} {ah:AH} {d:Option Nat} {a:AV}:MM L e ah d (some a)=some (aK L e d a.bT,ah):=rfl
theorem abH {L:List Nat} {e:Env} {ah:AH} {d:Option Nat} {q n:Nat} {cs:List AV}:Ii L e ah d q (some n) (.agg cs)=if q+n≤cs.length then some (aK L e d (.agg (((cs.drop q).take n).map AV.bT)),ah) else none:=rfl
theorem VS {P:Program} {L:List Nat} {N n0:Nat} {e:Env} {ah:AH} {t:List It} {Q:Exit→Env→AH→Prop} {r:List aQ} {d:Option Nat} {x:Ar} {n:Option Nat} {g:Option (Nat×Bool)}:UG P L N n0 ⟨d, .lZ x n,g⟩ r t Q e ah (some true)=US P L N n0 r t Q (UU L e ah d n (ev e x)):=by
 simp only [UG,bN]
 cases ev e x with
 |ep a p=>
  cases n with
  |some n=>rfl
  |none=>simp only [UU,H6,QG];cases a.cells[p]? <;>rfl
 |_=>cases n<;>rfl
theorem abI {L:List Nat} {e:Env} {ah:AH} {d:Option Nat} {n:Option Nat} {a:AV} {p:Nat}:UU L e ah d n (.ep a p)=H6 L d n e ah (.ep a p):=rfl
def WA0:=And.intro @UW<|And.intro @MN<|And.intro @Kp<|And.intro @MO<|And.intro @MP<|And.intro @QK<|And.intro @QL<|And.intro @QM<|And.intro @QN<|And.intro @QO<|And.intro @MQ<|And.intro @Kq<|And.intro @MR<|And.intro @MS<|And.intro @MT<|And.intro @MU<|And.intro @MV<|And.intro @MW<|And.intro @QS<|And.intro @YX<|And.intro @QT<|And.intro @MX<|And.intro @QU<|And.intro @QV<|And.intro @UY<|And.intro @UZ<|And.intro @U0<|And.intro @U1<|And.intro @U2<|And.intro @QW<|And.intro @MY<|And.intro @QX<|And.intro @QY<|And.intro @QZ<|And.intro @Q0<|And.intro @Q1<|And.intro @Q2<|And.intro @U3<|And.intro @YY<|And.intro @Q3<|And.intro @MZ<|And.intro @Q4<|And.intro @Q5<|And.intro @U4<|And.intro @U5<|And.intro @U6<|And.intro @U7<|And.intro @U8<|And.intro @Q6<|And.intro @M0<|And.intro @Q7<|And.intro @Q8<|And.intro @Q9<|And.intro @Ra<|And.intro @Rb<|And.intro @Rc<|And.intro @U9<|And.intro @YZ<|And.intro @Rd<|@M1
def WA1:=And.intro @Re<|And.intro @Rf<|And.intro @Va<|And.intro @Vb<|And.intro @Vc<|And.intro @Vd<|And.intro @Ve<|And.intro @Rg<|And.intro @M3<|And.intro @Rh<|And.intro @Ri<|And.intro @Rj<|And.intro @Rk<|And.intro @Rl<|And.intro @Rm<|And.intro @Vf<|And.intro @Y0<|And.intro @Rn<|And.intro @M4<|And.intro @Ro<|And.intro @Rp<|And.intro @Vg<|And.intro @Vh<|And.intro @Vi<|And.intro @Vj<|And.intro @Vk<|And.intro @Rq<|And.intro @M5<|And.intro @Rr<|And.intro @Rs<|And.intro @Rt<|And.intro @Ru<|And.intro @Rv<|And.intro @Rx<|And.intro @Vl<|And.intro @M6<|And.intro @Ij<|And.intro @F7<|And.intro @Ik<|And.intro @Il<|And.intro @Kr<|And.intro @Ks<|And.intro @Kt<|And.intro @Ku<|And.intro @Kv<|And.intro @Im<|And.intro @F8<|And.intro @Io<|And.intro @Ip<|And.intro @Iq<|And.intro @Ir<|And.intro @Is<|And.intro @Iu<|And.intro @Kw<|And.intro @Vm<|And.intro @M7<|And.intro @Kx<|And.intro @M8<|And.intro @M9<|@Ry
def WA2:=And.intro @Rz<|And.intro @RA<|And.intro @RB<|And.intro @RC<|And.intro @Na<|And.intro @Ky<|And.intro @Nb<|And.intro @Nc<|And.intro @Nd<|And.intro @Nf<|And.intro @Ng<|And.intro @Nh<|And.intro @RD<|And.intro @RE<|And.intro @Kz<|And.intro @Iv<|And.intro @KB<|And.intro @KC<|And.intro @Ni<|And.intro @Nj<|And.intro @Nk<|And.intro @Nl<|And.intro @Nn<|And.intro @KD<|And.intro @Iw<|And.intro @KE<|And.intro @KF<|And.intro @KG<|And.intro @KH<|And.intro @KI<|And.intro @KJ<|And.intro @Np<|And.intro @Vn<|And.intro @Nq<|And.intro @KK<|And.intro @Nr<|And.intro @Ns<|And.intro @RF<|And.intro @RG<|And.intro @RH<|And.intro @RI<|And.intro @RJ<|And.intro @Nt<|And.intro @KL<|And.intro @Nu<|And.intro @Nv<|And.intro @Nw<|And.intro @Nx<|And.intro @Ny<|And.intro @RL<|And.intro @Vo<|And.intro @Vp<|And.intro @Nz<|And.intro @Ix<|And.intro @F9<|And.intro @Iy<|And.intro @Iz<|And.intro @KM<|And.intro @KN<|@KO
def WA3:=And.intro @KP<|And.intro @KQ<|And.intro @IA<|And.intro @Ga<|And.intro @IB<|And.intro @IC<|And.intro @ID<|And.intro @IE<|And.intro @IF<|And.intro @IG<|And.intro @KR<|And.intro @Vq<|And.intro @NA<|And.intro @KS<|And.intro @NB<|And.intro @NC<|And.intro @RM<|And.intro @RN<|And.intro @RO<|And.intro @RP<|And.intro @RQ<|And.intro @ND<|And.intro @KT<|And.intro @NF<|And.intro @NH<|And.intro @NI<|And.intro @NJ<|And.intro @NK<|And.intro @NL<|And.intro @RR<|And.intro @RS<|And.intro @KU<|And.intro @II<|And.intro @KV<|And.intro @KW<|And.intro @NM<|And.intro @NN<|And.intro @NP<|And.intro @NQ<|And.intro @NR<|And.intro @KX<|And.intro @IJ<|And.intro @KY<|And.intro @KZ<|And.intro @K1<|And.intro @K2<|And.intro @K3<|And.intro @K4<|And.intro @NS<|And.intro @Y1<|And.intro @RT<|And.intro @NT<|And.intro @RU<|And.intro @RV<|And.intro @Vr<|And.intro @Vs<|And.intro @Vt<|And.intro @Vu<|And.intro @Vv<|@RW
def WA4:=And.intro @NU<|And.intro @RX<|And.intro @RY<|And.intro @RZ<|And.intro @R8<|And.intro @R9<|And.intro @Sa<|And.intro @Vw<|And.intro @NV<|And.intro @IK<|And.intro @Gb<|And.intro @IL<|And.intro @IM<|And.intro @K5<|And.intro @K6<|And.intro @K7<|And.intro @K8<|And.intro @K9<|And.intro @IP<|And.intro @Gc<|And.intro @IQ<|And.intro @IU<|And.intro @IV<|And.intro @IW<|And.intro @IX<|And.intro @IY<|And.intro @La<|And.intro @Y2<|And.intro @Sb<|And.intro @NW<|And.intro @Sc<|And.intro @Sd<|And.intro @Vx<|And.intro @Vy<|And.intro @Vz<|And.intro @VA<|And.intro @VB<|And.intro @Se<|And.intro @Sf<|And.intro @Sg<|And.intro @Sh<|And.intro @Si<|And.intro @Sj<|And.intro @Sk<|And.intro @VC<|And.intro @VD<|And.intro @VE<|And.intro @VF<|And.intro @NX<|And.intro @Lb<|And.intro @NY<|And.intro @NZ<|And.intro @Sl<|And.intro @Sm<|And.intro @Sn<|And.intro @So<|And.intro @Sp<|And.intro @N0<|And.intro @N1<|@N2
def WA5:=And.intro @N3<|And.intro @N4<|And.intro @N5<|And.intro @N6<|And.intro @Sq<|And.intro @Sr<|And.intro @Ss<|And.intro @Su<|And.intro @Sv<|And.intro @N7<|And.intro @Sw<|And.intro @N8<|And.intro @Sx<|And.intro @Sy<|And.intro @VG<|And.intro @VH<|And.intro @VI<|And.intro @N9<|And.intro @Lc<|And.intro @Oa<|And.intro @Ob<|And.intro @Sz<|And.intro @SA<|And.intro @SB<|And.intro @SC<|And.intro @SD<|And.intro @Oc<|And.intro @Od<|And.intro @Oe<|And.intro @Of<|And.intro @Og<|And.intro @Oh<|And.intro @SE<|And.intro @Y3<|And.intro @Y4<|And.intro @Y5<|And.intro @VJ<|And.intro @VK<|And.intro @VL<|And.intro @SF<|And.intro @Y7<|And.intro @Y8<|And.intro @abu<|And.intro @abv<|And.intro @abw<|And.intro @abx<|And.intro @aby<|And.intro @abz<|And.intro @ady<|And.intro @abA<|And.intro @adz<|And.intro @adA<|And.intro @adB<|And.intro @adC<|And.intro @adD<|And.intro @adF<|And.intro @adG<|And.intro @adH<|And.intro @adI<|@adJ
def WA6:=And.intro @adK<|And.intro @adL<|And.intro @adM<|And.intro @adN<|And.intro @adO<|And.intro @adP<|And.intro @adQ<|And.intro @adR<|And.intro @adS<|And.intro @adT<|And.intro @abB<|And.intro @abC<|And.intro @Z7<|And.intro @abD<|And.intro @abE<|And.intro @SG<|And.intro @VM<|And.intro @Oi<|And.intro @Ld<|And.intro @Oj<|And.intro @Ok<|And.intro @SH<|And.intro @SI<|And.intro @SJ<|And.intro @SK<|And.intro @Ol<|And.intro @Om<|And.intro @On<|And.intro @Oo<|And.intro @Oq<|And.intro @Ot<|And.intro @SL<|And.intro @Za<|And.intro @adU<|And.intro @adV<|And.intro @adW<|And.intro @VO<|And.intro @Zb<|And.intro @PK<|And.intro @VP<|And.intro @VQ<|And.intro @Zc<|And.intro @Zd<|And.intro @PL<|And.intro @abF<|And.intro @abG<|And.intro @abH<|And.intro @VS<|@abI
end Go.Am
end
section
namespace Go.Am
open Go
variable [Tabs]
def Ay (n:Nat) (i:Int):Option Nat:=if 0≤i∧i<n then some i.toNat else none
def Z8 {α:Type} (xs:List α) (j:Nat) (c:α):Option (List α):=if j<xs.length then some (xs.set j c) else none
section
variable {P:Program} {L:List Nat} {e:Env} {ah:AH} {d:Option Nat}
theorem Ze {xs:List UInt8} {j:Nat} {c:UInt8}:over (ml b8 xs) j [b8 c]=(Z8 xs j c).map (ml b8):=by
 unfold over Z8 ml
 simp only [List.length_map,List.length_cons,List.length_nil]
 by_cases h:j<xs.length
 · rw [if_pos (by omega),if_pos h]
   simp only [Option.map_some,Option.some.injEq,List.map_set]
   rw [List.set_eq_take_append_cons_drop,if_pos (by simpa using h)]
   simp
 · rw [if_neg (by omega),if_neg h];rfl
theorem abJ {xs:List UInt8} {j:Nat}:(ml b8 xs)[j]? =(xs[j]?).map b8:=by simp [ml]
theorem adX {s n:Nat} {ki:IntKind} {i:Int}:tB L e ah d 1 (.cJ s 1 0 n) (.int ki i)=(Ay n i).map fun j=>(aK L e d (.ptr s j),ah):=by
 simp only [tB,Ay,and_true]
 split<;>simp
theorem abK {s k o n:Nat}:PJ L e ah d (.cJ s k o n)=some (aK L e d (.int .i64 n),ah):=rfl
theorem VT {h:Cv} {l:List UInt8}:Ev L e ah d h (.str l)=(fJ h (.str l)).map fun a=>(aK L e d a,ah):=rfl
theorem VU {h:Cv} {k:IntKind} {i:Int}:Ev L e ah d h (.int k i)=(fJ h (.int k i)).map fun a=>(aK L e d a,ah):=rfl
theorem Zf {h:Cv} {c:UInt8}:Ev L e ah d h (b8 c)=(fJ h (b8 c)).map fun a=>(aK L e d a,ah):=rfl
theorem Zg {h:Cv} {t:Tg} {k:Nat} {xs:List AV}:Ev L e ah d h (.sl t k xs)=(fJ h (.sl t k xs)).map fun a=>(aK L e d a,ah):=rfl
theorem VV {s n:Nat}:Ev L e ah d .bs (.cJ s 1 0 n)=Uk L e ah d 0 n (ah[s]?):=rfl
theorem M_s {p n:Nat} {cs:List AV}:Uk L e ah d p n (some cs)=Pr L e ah d p n cs:=rfl
theorem M_t {n:Nat} {xs:List UInt8}:Pr L e ah d 0 n (ml b8 xs)=(sub xs 0 (n:Int)).map fun l=>(aK L e d (.str l),ah):=by
 unfold Pr sub
 have hb:bytesOf (((ml b8 xs).drop 0).take n)=some (xs.take n):=by
  have:((ml b8 xs).drop 0).take n=(ml b8 (xs.take n)):=by simp [ml,List.map_take]
  rw [this];exact CU _
 rw [hb]
 by_cases h:n≤xs.length
 · rw [if_pos (by simp [ml];exact h),if_pos (by omega)];simp
 · rw [if_neg (by simp [ml];omega),if_neg (by omega)];rfl
theorem M_o {l:List UInt8}:Ul L e ah d (.str l)=some (aK L e d (.cJ ah.length 1 0 l.length),ah++[ml b8 l]):=rfl
theorem abL:Mp .dW (.v .nilIface)=some false:=rfl
theorem abM:Mp (.v .nilIface) (.v .nilIface)=some true:=rfl
theorem abN {b:Bool}:Mp (dZ b) (.v .nilIface)=some (!b):=by cases b<;>rfl
theorem abO {k:IntKind} {i j:Int}:JQ true (.int k i) (.int k j)=some (.int k (max i j)):=by simp [JQ]
theorem abP {k:IntKind} {i j:Int}:JQ false (.int k i) (.int k j)=some (.int k (min i j)):=by simp [JQ]
end
def WM:=And.intro @Ze<|And.intro @abJ<|And.intro @adX<|And.intro @abK<|And.intro @VT<|And.intro @VU<|And.intro @Zf<|And.intro @Zg<|And.intro @VV<|And.intro @M_s<|And.intro @M_t<|And.intro @M_o<|And.intro @abL<|And.intro @abM<|And.intro @abN<|And.intro @Bool.not_not<|And.intro @abO<|And.intro @abP<|And.intro @Yu<|And.intro @Yv<|And.intro @adf @adg
theorem Wx.cJ {s k o n:Nat}:Wx (.cJ s k o n) (.cJ s k o n):= .same (by simp)
theorem Wx.dW:Wx .dW .dW:= .same (by simp)
theorem Wx.epE {a b:AV} {o:Nat} (h:a=b):Wx (.ep a o) (.ep b o):=by subst h;exact Wx.ep
theorem Wx.err {b:Bool}:Wx (dZ b) (dZ b):= .same (by cases b<;>simp [dZ])
end Go.Am
end
section
namespace Go.Am
open Go
variable [Tabs]
section
variable {P:Program} {L:List Nat} {N n0:Nat} {F:Nat→Prop} {γ:List Nat} {C:Nat→List Value} {e e':Env} {ah:AH} {ts:Array Value} {w:World} {Q K:Exit→Env→AH→Prop}
theorem SR.freeze (h:SR L N F γ C e ah ts w) {s:Nat} {cs ds:List AV} (hs:ah[s]? =some cs) (hne:cs≠[]) (hw:cx cs ds)
 (he:∀t,get e' t=get e t∨∃o,get e t= .ptr s o∧get e' t= .ep (.agg ds) o):∃C',SR L N F γ C' e' (ah.set s []) ts w∧Ext F C w C' w:=by
 have hlt:s<γ.length:=by rw [h.mem.len];exact (List.getElem?_eq_some_iff.1 hs).1
 obtain ⟨b,hb⟩:∃b,γ[s]? =some b:=⟨_,List.getElem?_eq_getElem hlt⟩
 obtain ⟨vs,ty,hh,hsz,hcell⟩:=h.mem.obj s b cs hs hb
 have F2:=h.mem.pU s b cs hs hne hb
 have ri:blk γ e ah ts w (.obj s) b:=hb
 refine ⟨fun x=>if x=b then vs.toList else C x, ?_⟩
 generalize vq:(fun x=>if x=b then vs.toList else C x)=C'
 have c0:C' b=vs.toList:=by rw [←vq];simp
 have c1:∀x,x≠b→C' x=C x:=fun x hx=>by rw [←vq];simp [hx]
 have hpre:∀x,C x <+: C' x:=by
  intro x
  by_cases hx:x=b
  · subst hx;rw [F2];exact List.nil_prefix
  · rw [c1 x hx];exact List.prefix_refl _
 have hM:∀(s':Nat),s'≠s→(ah.set s [])[s']? =ah[s']? :=fun s' hn=>List.getElem?_set_ne (Ne.symm hn)
 have fU:(ah.set s [])[s]? =some []:=List.getElem?_set_self (by rw [←h.mem.len];exact hlt)
 have uj:∀(s':Nat),γ[s']? =some b→s'=s:=fun s' hs'=>by
  have:=h.dK (.obj s') (.obj s) b hs' hb;injection this
 have hbk:∀p x,blk γ e' (ah.set s []) ts w p x→blk γ e ah ts w p x:=by
  intro p x hp
  cases p with
  |obj s'=>exact hp
  |cell s' i=>
   obtain ⟨ds,a,b0,h1,h2,h3,h4⟩:=hp
   by_cases hn:s'=s
   · subst hn;rw [fU] at h1;injection h1 with h1;subst h1;simp at h2
   · rw [hM s' hn] at h1;exact ⟨ds,a,b0,h1,h2,h3,h4⟩
  |tmp t=>
   simp only [blk] at hp ⊢
   rcases he t with h1|⟨o,h1,h2⟩
   · rwa [h1] at hp
   · rw [h2] at hp;simp [bS] at hp
 have nX:∀(a:AV) (v:Value),TC w C a v→(∀x,bS a v=some x→x≠b)→TC w C' a v:=fun a v ht hn=>ht.mono fun x hx=>⟨rfl,c1 x (hn x hx)⟩
 refine ⟨⟨⟨by simp [h.mem.len],fun s' x ds h1 h2=> ?_,fun x hx=> ?_,fun s' x ds h1 h0 h2=> ?_,fun s' x ds us ty' fr h1 h2 h3=> ?_⟩,h.sz,fun t=> ?_,fun p q x hp hq=>h.dK p q x (hbk p x hp) (hbk q x hq),fun p x hp=>h.nf p x (hbk p x hp),h.kA,fun t l k xs ht=> ?_⟩,
  ⟨hpre,fun x hx=>⟨rfl,c1 x (fun e=>h.nf _ _ ri (e▸hx))⟩,Nat.le_refl _,rfl,rfl,rfl⟩⟩
 · by_cases hn:s'=s
   · subst hn
     rw [fU] at h1;injection h1 with h1;subst h1
     rw [hb] at h2;injection h2 with h2;subst h2
     exact ⟨vs,ty,hh,by simp,by simp⟩
   · rw [hM s' hn] at h1
     obtain ⟨us,ty',g1,g2,g3⟩:=h.mem.obj s' x ds h1 h2
     refine ⟨us,ty',g1,g2,fun i a hi=>⟨(g3 i a hi).1.mono hpre _ (fun _ _ h=>h),nX _ _ (g3 i a hi).2 fun y hy e=> ?_⟩⟩
     subst e
     obtain ⟨v,hv, -, -⟩:=cellAt h.mem h1 hi h2
     have HS:v=us.getD i undef:=by
      have hlt:i<us.size:=Nat.lt_of_lt_of_le (List.getElem?_eq_some_iff.1 hi).1 g2
      rw [dh g1,Array.getElem?_eq_getElem hlt] at hv
      simp [Array.getD_eq_getD_getElem?,Array.getElem?_eq_getElem hlt,Option.some.inj hv]
     have:blk γ e ah ts w (.cell s' i) y:=⟨ds,a,x,h1,hi,h2,by rw [hv,HS];exact hy⟩
     have:=h.dK _ _ _ this ri
     cases this
 · by_cases Le:x=b
   · subst Le;exact ⟨vs,ty.1,ty.2,hh,by rw [c0];exact List.prefix_refl _⟩
   · rw [c1 x Le] at hx ⊢;exact h.mem.ue x hx
 · have hn:s'≠s:=by
    rintro rfl
    rw [fU] at h1;injection h1 with h1;exact h0 h1.symm
   rw [hM s' hn] at h1
   rw [c1 x (fun e=>hn (uj s' (e▸h2)))]
   exact h.mem.pU s' x ds h1 h0 h2
 · by_cases hn:s'=s
   · subst hn
     rw [fU] at h1;injection h1 with h1;subst h1
     intro i hi;simp at hi
   · rw [hM s' hn] at h1
     exact h.mem.BI s' x ds us ty' fr h1 h2 h3
 · rcases he t with h1|⟨o,h1,h2⟩
   · rw [h1]
     refine ⟨(h.env t).1.mono hpre _ (fun _ _ h=>h),nX _ _ (h.env t).2 fun y hy e=> ?_⟩
     subst e
     have:=h.dK (.tmp t) (.obj s) y hy ri
     cases this
   · have hv:=(h.env t).1
     rw [h1] at hv
     obtain ⟨b',hb',hv⟩:=hv.gQ
     rw [hb] at hb';injection hb' with hb';subst hb'
     rw [h2,hv]
     refine ⟨?_,by trivial⟩
     have hep:=VR.ep (C:=C') γ (.agg ds) o b 0 (by rw [c0];simpa [AV.cells,hw.len] using hsz) (fun j a hj=>by
      have hj2:ds[j]? =some a:=hj
      have hjl:j<cs.length:=by rw [←hw.len];exact (List.getElem?_eq_some_iff.1 hj2).1
      have hj':cs[j]? =some cs[j]:=List.getElem?_eq_getElem hjl
      have:=(Wk.iZ (hw.get j _ _ hj' hj2)).vr ((hcell j _ hj').1.mono hpre γ (fun _ _ h=>h))
      rw [c0,Nat.zero_add]
      have e1:vs.toList.getD j undef=vs.getD j undef:=by simp [List.getD_eq_getElem?_getD,Array.getD_eq_getD_getElem?]
      rw [e1];exact this)
     rwa [Nat.zero_add] at hep
 · rcases he t with h1|⟨o,h1,h2⟩
   · have hf:=h.fr t l k xs (by rw [←h1];exact ht)
     cases l with
     |tmp u=>
      refine ⟨hf.1,fun hu=>hf.2 ?_⟩
      rcases he u with g1|⟨o,g1,g2⟩
      · rwa [g1] at hu
      · rw [g2] at hu;cases hu
     |cell s' o=>
      intro ds a x g1 g2 g3 g4
      by_cases hn:s'=s
      · subst hn;rw [fU] at g1;injection g1 with g1;subst g1;simp at g2
      · rw [hM s' hn] at g1;exact hf ds a x g1 g2 g3 g4
   · rw [h2] at ht;cases ht
theorem AW.freeze {c:Code} {s:Nat} {cs ds:List AV} (hs:ah[s]? =some cs) (hne:cs≠[]) (hw:cx cs ds)
 (he:∀t,get e' t=get e t∨∃o,get e t= .ptr s o∧get e' t= .ep (.agg ds) o) (h:AW P L N n0 c Q e' (ah.set s [])):AW P L N n0 c Q e ah:=by
 intro F γ C ts w lu hn
 obtain ⟨C',h1,h2⟩:=lu.freeze hs hne hw he
 refine wp_mono (h F γ C' ts w h1 hn) ?_
 rintro x a w' ⟨q1,q2,e2,rj,γ2,C2,q3,q4,q5,q6⟩
 exact ⟨q1,q2,e2,rj,γ2,C2,q3,q4,q5,h2.trans q6⟩
inductive FZ (s:Nat) (cs:List AV):Env→Env→Prop
 |nil:FZ s cs [] []
 |same (i:Nat) (a:AV) (r r':Env):FZ s cs r r'→FZ s cs ((i,a)::r) ((i,a)::r')
 |ep (i o:Nat) (r r':Env):FZ s cs r r'→FZ s cs ((i, .ptr s o)::r) ((i, .ep (.agg cs) o)::r')
theorem FZ.get {s:Nat} {cs:List AV} {e e':Env} (h:FZ s cs e e') (t:Nat):Am.get e' t=Am.get e t∨∃o,Am.get e t= .ptr s o∧Am.get e' t= .ep (.agg cs) o:=by
 induction h with
 |nil=>exact .inl rfl
 |same i a r r' _ ih=>
  simp only [Am.get]
  by_cases hi:i=t
  · simp [hi]
  · simpa [hi] using ih
 |ep i o r r' _ ih=>
  simp only [Am.get]
  by_cases hi:i=t
  · exact .inr ⟨o,by simp [hi],by simp [hi]⟩
  · simpa [hi] using ih
theorem AX.freeze {c:aD} {s:Nat} {cs ds:List AV} (hs:ah[s]? =some cs) (hw:cx cs ds) (hne:cs≠[]) (he:FZ s ds e e') (h:AX P L N n0 c K e' (ah.set s [])):AX P L N n0 c K e ah:=
 fun c' cj=>AW.freeze hs hne hw he.get (h c' cj)
end
end Go.Am
end
