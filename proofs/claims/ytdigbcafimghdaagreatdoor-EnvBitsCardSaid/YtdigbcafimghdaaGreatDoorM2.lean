import Derived.Test.YtdigbcafimghdaaGreatDoorM1
import Derived.Scope
import Derived.Lib.SlBytesConst
import Derived.OrdersHeld
set_option linter.unusedSimpArgs false
set_option linter.unusedVariables false
set_option linter.unusedSectionVars false
set_option linter.defProp false
section
namespace Go.Am
open Go
variable [Tabs]
section
variable {P:Program} {L:List Nat} {N:Nat} {F:Nat→Prop} {γ:List Nat} {C C':Nat→List Value} {e:Env} {ah:AH} {ts:Array Value} {ds:List Deferred} {w w':World} {m:Bool}
variable {e':Env} {aH:AH}
def fI.pE:fI→Bool
 | .call _ _=>true
 | .lW _ _ _ _=>true
 | .nq _ _=>true
 |_=>false
theorem Mz {o:Oper} {op:fI} (h:SR L N F γ C e ah ts w) (hd:∀x,o.dst=some x→x<N) (hc:cop P o=some op) (eV:op.pE=false)
 (hm:m=true∨((∀x n,op≠ .ld x n)∧∀x,op≠ .dV .bs x))
 (hev:bN L ⟨o.dst,op,none⟩ e ah=some (e',aH)):bB m P L N F γ C o ts ds w e' aH:=by
 obtain ⟨d,o,ty,pos,af,g⟩:=o
 simp only at hd hev
 cases o with
 |move x=>
  simp only [cop,Option.map_eq_some_iff] at hc
  obtain ⟨a,ha,rfl⟩:=hc
  simp only [bN,Option.some.injEq,Prod.mk.injEq] at hev
  obtain ⟨rfl,rfl⟩:=hev
  exact aaI h hd ha
 |assign x=>
  simp only [cop,Option.map_eq_some_iff] at hc
  obtain ⟨a,ha,rfl⟩:=hc
  exact XN h hd ha hev
 |pick c a b=>
  simp only [cop] at hc
  split at hc
  · rename_i c' a' b' h1 h2 h3
    injection hc with hc;subst hc
    exact Tx h hd h1 h2 h3 hev
  · cases hc
 |alloc t=>
  simp only [cop,Option.map_eq_some_iff] at hc
  obtain ⟨a,ha,rfl⟩:=hc
  exact Qr h hd ha hev
 |box t x=>
  simp only [cop,Option.map_eq_some_iff] at hc
  obtain ⟨a,ha,rfl⟩:=hc
  exact X9 h hd ha hev
 |build t parts=>
  simp only [cop] at hc
  split at hc
  case h_3=>cases hc
  case h_2=>
   rename_i mm el hu
   split at hc
   case h_2=>cases hc
   rename_i z ps hz hp
   split at hc
   case isFalse=>cases hc
   rename_i hall
   split at hc
   · rename_i jH
     simp only [Option.map_eq_some_iff] at hc
     obtain ⟨z',hz',rfl⟩:=hc
     refine Ep h hd hu hz hp hall ?_
     rw [←hev]
     simp only [bN]
     rw [J3 e ps z jH,hz']
     rfl
   · injection hc with hc;subst hc
     exact Ep h hd hu hz hp hall hev
  rename_i fs hu
  split at hc
  case h_2=>cases hc
  rename_i z ps hz hp
  split at hc
  case isFalse=>cases hc
  rename_i hall
  injection hc with hc;subst hc
  exact Qx h hd hu hz hp hall hev
 |buildSlice t n parts=>
  simp only [cop] at hc
  split at hc
  case h_2=>cases hc
  rename_i el hel
  split at hc
  case isFalse=>cases hc
  rename_i hh
  obtain ⟨h1,h2,h3⟩:=hh
  simp only [Option.map_eq_some_iff] at hc
  obtain ⟨zq,ha,rfl⟩:=hc
  refine Yg h hd ?_ h1 h2 h3 ha hev
  unfold Ed at hel
  split at hel
  · rename_i e hu;injection hel with hel;subst hel;exact hu
  · cases hel
 |load t x=>
  simp only [cop] at hc
  split at hc
  case isFalse=>cases hc
  rename_i ht
  simp only [Option.map_eq_some_iff] at hc
  obtain ⟨a,ha,rfl⟩:=hc
  obtain rfl:m=true:=hm.resolve_right (fun h=>h.1 _ _ rfl)
  exact aaJ h hd ha ht hev
 |store t a x=>
  simp only [cop] at hc
  split at hc
  case h_2=>cases hc
  rename_i a' x' ha hx
  split at hc
  case isFalse=>cases hc
  rename_i ht
  simp only [Bool.and_eq_true,Option.isNone_iff_eq_none] at ht
  obtain ⟨ht,rfl⟩:=ht
  injection hc with hc;subst hc
  exact aaM h ha hx ht hev
 |nilCheck x=>
  simp only [cop,Option.map_eq_some_iff] at hc
  obtain ⟨a,ha,rfl⟩:=hc
  exact XO h hd ha hev
 |fieldAddr t x f=>
  simp only [cop] at hc
  split at hc
  case h_2=>cases hc
  rename_i x' fd hx hf
  split at hc
  case isTrue=>cases hc
  rename_i hs
  injection hc with hc;subst hc
  exact XP h hd hx hf hs hev
 |field t x f=>
  simp only [cop] at hc
  split at hc
  case h_2=>cases hc
  rename_i x' fd hx hf
  split at hc
  case isFalse=>cases hc
  rename_i hs
  injection hc with hc;subst hc
  exact Tz h hd hx hf hs hev
 |binOp Yi t x y p6=>
  simp only [cop] at hc
  split at hc
  case h_3=>cases hc
  case h_2=>
   rename_i x' hx hy
   split at hc
   · rename_i ms hu
     injection hc with hc;subst hc;exact TP h hd hx hu rfl hev
   · rename_i ms hu
     injection hc with hc;subst hc;exact TP h hd hx hu rfl hev
   · injection hc with hc;subst hc;cases eV
   · injection hc with hc;subst hc;cases eV
   · cases hc
  rename_i x' y' hx hy
  split at hc
  · rename_i fs hu
    split at hc
    case h_2=>cases hc
    rename_i ks hk
    split at hc
    · injection hc with hc;subst hc;exact Pn h hd hx hy hu hk rfl hev
    · injection hc with hc;subst hc;exact Pn h hd hx hy hu hk rfl hev
    · cases hc
  · injection hc with hc;subst hc;exact Pm h hd hx hy hev
  · injection hc with hc;subst hc;exact Pm h hd hx hy hev
  · rename_i hu
    split at hc
    · injection hc with hc;subst hc;exact TA h hd hx hy hu rfl hev
    · injection hc with hc;subst hc;exact TA h hd hx hy hu rfl hev
    · cases hc
  · rename_i u hu
    split at hc
    · injection hc with hc;subst hc;exact TB h hd hx hy hu rfl hev
    · injection hc with hc;subst hc;exact TB h hd hx hy hu rfl hev
    · cases hc
  · cases hc
 |unOp Yi t x=>
  simp only [cop,Option.map_eq_some_iff] at hc
  obtain ⟨a,ha,rfl⟩:=hc
  exact aaK h hd ha hev
 |convert s t x=>
  simp only [cop] at hc
  split at hc
  case h_2=>cases hc
  rename_i hh x' pF hx
  injection hc with hc;subst hc
  exact Ya h hd hx pF (hm.imp id fun q=>by rintro rfl;exact q.2 _ rfl) hev
 |makeFunc fn first cs=>
  cases fn with
  |func f=>
   simp only [cop] at hc
   split at hc
   case isFalse=>cases hc
   rename_i hf
   simp only [Option.map_eq_some_iff] at hc
   obtain ⟨a,ha,rfl⟩:=hc
   exact XX h hd hf ha hev
  |_=>simp [cop] at hc
 |slice t x lo hi mx=>
  simp only [cop] at hc
  split at hc
  case h_2=>cases hc
  rename_i x' lo' hi' mx' hx hlo hhi Qq
  split at hc
  · rename_i hu
    split at hc
    · injection hc with hc;subst hc
      have:mx=none:=by
       cases mx with
       |none=>rfl
       |some y=>simp only [pW] at Qq;cases hy:bJ y<;>rw [hy] at Qq<;>simp at Qq
      subst this
      exact X5 h hd hx hlo hhi hu hev
    · cases hc
  · rename_i el hu
    split at hc
    case isFalse=>cases hc
    rename_i ht
    injection hc with hc;subst hc
    exact X6 h hd hx hlo hhi Qq hu ht hev
  · cases hc
 |indexAddr t x i=>
  simp only [cop] at hc
  split at hc
  case h_3=>cases hc
  case h_2=>
   rename_i x' i' hel hx hi
   split at hc
   case h_2=>cases hc
   rename_i mm el hu
   split at hc
   case isFalse=>cases hc
   rename_i ht
   injection hc with hc;subst hc
   exact X2 h hd hx hi hu ht hev
  rename_i el x' i' hel hx hi
  split at hc
  case isFalse=>cases hc
  rename_i ht
  injection hc with hc;subst hc
  unfold Ed at hel
  split at hel
  · rename_i e hu;injection hel with hel;subst hel;exact X1 h hd hx hi hu ht hev
  · cases hel
 |index t x i=>
  simp only [cop] at hc
  split at hc
  case h_2=>cases hc
  rename_i x' i' hu hx hi
  injection hc with hc;subst hc
  exact X0 h hd hx hi hu hev
 |extract x i=>
  simp only [cop,Option.map_eq_some_iff] at hc
  obtain ⟨a,ha,rfl⟩:=hc
  exact XY h hd ha hev
 |call c=>
  obtain ⟨callee,args,argTypes⟩:=c
  simp only [cop] at hc
  split at hc
  · rename_i x t h1 h2
    have e1:args= #[x]:=by rw [←Array.toArray_toList (xs:=args),h1]
    have e2:argTypes= #[t]:=by rw [←Array.toArray_toList (xs:=argTypes),h2]
    subst e1;subst e2
    split at hc
    · rename_i x' hu hx;injection hc with hc;subst hc;exact TD h hd hx hu hev
    · rename_i s x' hu hx;injection hc with hc;subst hc;exact XZ h hd hx hu hev
    · cases hc
  · rename_i x y t u h1 h2
    have e1:args= #[x,y]:=by rw [←Array.toArray_toList (xs:=args),h1]
    have e2:argTypes= #[t,u]:=by rw [←Array.toArray_toList (xs:=argTypes),h2]
    subst e1;subst e2
    split at hc
    case h_2=>cases hc
    rename_i x' y' _ _ hx hy
    split at hc
    case isFalse=>cases hc
    rename_i htu
    injection hc with hc;subst hc
    obtain ⟨rfl, -⟩:=htu
    exact TQ (mx:=true) h hd hx hy hev
  · rename_i x y t u h1 h2
    have e1:args= #[x,y]:=by rw [←Array.toArray_toList (xs:=args),h1]
    have e2:argTypes= #[t,u]:=by rw [←Array.toArray_toList (xs:=argTypes),h2]
    subst e1;subst e2
    split at hc
    case h_2=>cases hc
    rename_i x' y' _ _ hx hy
    split at hc
    case isFalse=>cases hc
    rename_i htu
    injection hc with hc;subst hc
    obtain ⟨rfl, -⟩:=htu
    exact TQ (mx:=false) h hd hx hy hev
  · rename_i x y t u h1 h2
    have e1:args= #[x,y]:=by rw [←Array.toArray_toList (xs:=args),h1]
    have e2:argTypes= #[t,u]:=by rw [←Array.toArray_toList (xs:=argTypes),h2]
    subst e1;subst e2
    split at hc
    case h_2=>cases hc
    rename_i el x' hel hx
    have ht:P.underlying t=some (.slice el):=by
     unfold Ed at hel
     split at hel
     · rename_i e hu;injection hel with hel;subst hel;exact hu
     · cases hel
    split at hc
    · rename_i s y' hu hy
      split at hc
      case isFalse=>cases hc
      rename_i hz
      injection hc with hc;subst hc
      exact Ye h hd hx hy ht hu hz hev
    · rename_i y' hu hy
      split at hc
      case isFalse=>cases hc
      rename_i hz
      injection hc with hc;subst hc
      exact TT h hd hx hy ht hu hz.2 hz.1 hev
    · cases hc
  · split at hc
    · injection hc with hc;subst hc;cases eV
    · cases hc
  · cases hc
 |_=>simp [cop] at hc
theorem Yj {o:Oper} {op:fI} (h:SR L N F γ C e ah ts w) (hd:∀x,o.dst=some x→x<N) (hc:dw P m o=some op) (eV:op.pE=false)
 (hev:bN L ⟨o.dst,op,none⟩ e ah=some (e',aH)):bB m P L N F γ C o ts ds w e' aH:=by
 cases m with
 |true=>exact Mz h hd (by simpa [dw] using hc) eV (.inl rfl) hev
 |false=>
  simp only [dw,Bool.false_eq_true,if_false,Option.map_eq_some_iff] at hc
  obtain ⟨op',ho,rfl⟩:=hc
  by_cases Ax:∃x,op'= .dV .bs x
  · obtain ⟨x,rfl⟩:=Ax
    obtain ⟨d,oo,ty,pos,af,g⟩:=o
    cases oo with
    |convert s t y=>
     simp only [cop] at ho
     split at ho
     case h_2=>cases ho
     rename_i hh x' pF hx
     injection ho with ho
     injection ho with e1 e2
     subst e1;subst e2
     exact TL h hd hx pF hev
    |makeFunc fn first cs=>
     cases fn with
     |func f=>simp only [cop] at ho;split at ho<;>simp at ho
     |_=>simp [cop] at ho
    |_=>
     exfalso
     simp only [cop] at ho
     first
      |cases ho;done
      |(simp at ho;done)
      |(repeat' (split at ho))<;>(first|(cases ho;done)|(simp at ho;done))
  by_cases hl:∃x n,op'= .ld x n
  · obtain ⟨x,n,rfl⟩:=hl
    obtain ⟨d,oo,ty,pos,af,g⟩:=o
    cases oo with
    |load t y=>
     simp only [cop] at ho
     split at ho
     case isFalse=>cases ho
     rename_i ht
     simp only [Option.map_eq_some_iff] at ho
     obtain ⟨a,ha,he⟩:=ho
     injection he with e1 e2
     subst e1;subst e2
     exact Pj h hd ha ht hev
    |makeFunc fn first cs=>
     cases fn with
     |func f=>simp only [cop] at ho;split at ho<;>simp at ho
     |_=>simp [cop] at ho
    |_=>
     exfalso
     simp only [cop] at ho
     first
      |cases ho;done
      |(simp at ho;done)
      |(repeat' (split at ho))<;>(first|(cases ho;done)|(simp at ho;done))
  · have:op'.JQ=op':=by
     cases op' with
     |ld x n=>exact absurd ⟨_,_,rfl⟩ hl
     |dV hh x=>cases hh<;>first|rfl|exact absurd ⟨_,rfl⟩ Ax
     |_=>rfl
    rw [this] at eV hev
    exact Mz h hd ho eV (.inr ⟨fun x n he=>hl ⟨x,n,he⟩,fun x he=>Ax ⟨x,he⟩⟩) hev
theorem T5 {o:Oper} {x':Ar} (hc:cop P o=some (.aZ x')):∃x,o=⟨o.dst, .assign x,o.type,o.pos,o.after,o.guard⟩∧cY P o.type x=some x':=by
 obtain ⟨d,oo,ty,pos,af,g⟩:=o
 cases oo with
 |assign y=>
  simp only [cop,Option.map_eq_some_iff] at hc
  obtain ⟨a,ha,he⟩:=hc
  injection he with he
  subst he
  exact ⟨y,rfl,ha⟩
 |makeFunc fn first cs=>
  cases fn with
  |func f=>simp only [cop] at hc;split at hc<;>simp at hc
  |_=>simp [cop] at hc
 |_=>
  exfalso
  simp only [cop] at hc
  first
   |cases hc;done
   |(simp at hc;done)
   |(repeat' (split at hc))<;>(first|(cases hc;done)|(simp at hc;done))
theorem Er {o:Oper} {k b:Nat} {x' y':Ar} (hop:cop P o=some (.app k b x' y')):
 ∃x y t u el s,o=⟨o.dst, .call {callee:= .builtin .append,args:= #[x,y],argTypes:= #[t,u]},o.type,o.pos,o.after,o.guard⟩∧cY P t x=some x'∧cY P u y=some y'∧
  P.underlying t=some (.slice el)∧P.underlying u=some (.slice s)∧(zeroOf P el).map List.length=some (cz P el)∧k=cz P el∧b=HF P el:=by
 obtain ⟨d,oo,ty,pos,af,g⟩:=o
 cases oo with
 |call c=>
  obtain ⟨callee,args,argTypes⟩:=c
  simp only [cop] at hop
  split at hop
  · split at hop<;>simp at hop
  · split at hop
    · split at hop<;>simp at hop
    · cases hop
  · split at hop
    · split at hop<;>simp at hop
    · cases hop
  · rename_i x y t u h1 h2
    have e1:args= #[x,y]:=by rw [←Array.toArray_toList (xs:=args),h1]
    have e2:argTypes= #[t,u]:=by rw [←Array.toArray_toList (xs:=argTypes),h2]
    subst e1;subst e2
    split at hop
    case h_2=>cases hop
    rename_i el x2 hel hx
    have ht:P.underlying t=some (.slice el):=by
     unfold Ed at hel
     split at hel
     · rename_i e hu;injection hel with hel;subst hel;exact hu
     · cases hel
    split at hop
    · rename_i s y2 hu hy
      split at hop
      case isFalse=>cases hop
      rename_i hz
      injection hop with hop
      injection hop with q1 q2 q3 q4
      subst q1;subst q2;subst q3;subst q4
      exact ⟨x,y,t,u,el,s,rfl,hx,hy,ht,hu,hz,rfl,rfl⟩
    · split at hop<;>simp at hop
    · cases hop
  · split at hop<;>simp at hop
  · cases hop
 |makeFunc fn first cs=>
  cases fn with
  |func f=>simp only [cop] at hop;split at hop<;>simp at hop
  |_=>simp [cop] at hop
 |_=>
  exfalso
  simp only [cop] at hop
  first
   |cases hop;done
   |(simp at hop;done)
   |(repeat' (split at hop))<;>(first|(cases hop;done)|(simp at hop;done))
theorem Pr {o:Oper} {neq:Bool} {x':Ar} (hop:cop P o=some (.nq neq x')):
 ∃op t x p6 el,o=⟨o.dst, .binOp op t x (.const (.slice none 0 0)) p6,o.type,o.pos,o.after,o.guard⟩∧bJ x=some x'∧P.underlying t=some (.slice el)∧op=if neq then .neq else .eql:=by
 obtain ⟨d,oo,ty,pos,af,g⟩:=o
 cases oo with
 |binOp op t x y p6=>
  simp only [cop] at hop
  split at hop
  case h_3=>cases hop
  case h_2=>
   rename_i x2 hx hy
   split at hop
   · cases hop
   · cases hop
   · rename_i el hu
     injection hop with hop;injection hop with h1 h2;subst h1;subst h2
     exact ⟨_,t,x,p6,el,rfl,hx,hu,rfl⟩
   · rename_i el hu
     injection hop with hop;injection hop with h1 h2;subst h1;subst h2
     exact ⟨_,t,x,p6,el,rfl,hx,hu,rfl⟩
   · cases hop
  exfalso
  (repeat' (split at hop))<;>(first|(cases hop;done)|(simp at hop;done))
 |makeFunc fn first cs=>
  cases fn with
  |func f=>simp only [cop] at hop;split at hop<;>simp at hop
  |_=>simp [cop] at hop
 |_=>
  exfalso
  simp only [cop] at hop
  first
   |cases hop;done
   |(simp at hop;done)
   |(repeat' (split at hop))<;>(first|(cases hop;done)|(simp at hop;done))
theorem Yk {op:fI} {n:Bool} {x:Ar} (h:op.JQ= .nq n x):op= .nq n x:=by
 cases op with
 |dV hh x=>cases hh<;>cases h
 |ld x n=>cases h
 |_=>exact h
theorem T6 {op:fI} {k b:Nat} {x y:Ar} (h:op.JQ= .app k b x y):op= .app k b x y:=by
 cases op with
 |dV hh x=>cases hh<;>cases h
 |ld x n=>cases h
 |_=>exact h
theorem T7 {op:fI} {x:Ar} (h:op.JQ= .aZ x):op= .aZ x:=by
 cases op with
 |dV hh x=>cases hh<;>cases h
 |ld x n=>cases h
 |_=>exact h
theorem T8 {o:Oper} {k:Nat} {zs:List Ar} (hop:cop P o=some (.kf k zs)):
 ∃t n parts el,o=⟨o.dst, .buildSlice t n parts,o.type,o.pos,o.after,o.guard⟩∧P.underlying t=some (.slice el)∧parts.size=n∧n*cz P el≤16777216∧(zeroOf P el).isSome=true∧
  l5 P el 0 parts.toList=some zs∧k=cz P el:=by
 obtain ⟨d,oo,ty,pos,af,g⟩:=o
 cases oo with
 |buildSlice t n parts=>
  simp only [cop] at hop
  split at hop
  case h_2=>cases hop
  rename_i el hel
  split at hop
  case isFalse=>cases hop
  rename_i hq
  have ht:P.underlying t=some (.slice el):=by
   unfold Ed at hel
   split at hel
   · rename_i e hu;injection hel with hel;subst hel;exact hu
   · cases hel
  cases hc:l5 P el 0 parts.toList with
  |none=>rw [hc] at hop;cases hop
  |some zs'=>
   rw [hc] at hop
   simp only [Option.map_some,Option.some.injEq,fI.kf.injEq] at hop
   obtain ⟨rfl,rfl⟩:=hop
   exact ⟨t,n,parts,el,rfl,ht,hq.1,hq.2.1,hq.2.2,hc,rfl⟩
 |makeFunc fn first cs=>
  cases fn with
  |func f=>simp only [cop] at hop;split at hop<;>simp at hop
  |_=>simp [cop] at hop
 |call c=>
  obtain ⟨callee,args,tys⟩:=c
  simp only [cop] at hop
  (repeat' (split at hop))<;>(first|(cases hop;done)|(simp at hop;done))
 |_=>
  simp only [cop] at hop
  first
   |cases hop;done
   |(simp at hop;done)
   |(repeat' (split at hop))<;>(first|(cases hop;done)|(simp at hop;done))
theorem T9 {op:fI} {k:Nat} {zs:List Ar} (h:op.JQ= .kf k zs):op= .kf k zs:=by
 cases op with
 |dV hh x=>cases hh<;>cases h
 |ld x n=>cases h
 |_=>exact h
theorem Qy {o:Oper} {k:Nat} {zs:List Ar} (hc:dw P m o=some (.kf k zs)):cop P o=some (.kf k zs):=by
 cases m with
 |true=>simpa [dw] using hc
 |false=>
  simp only [dw,Bool.false_eq_true,if_false,Option.map_eq_some_iff] at hc
  obtain ⟨op',ho,hE⟩:=hc
  rw [ho,T9 hE]
theorem BS {o:Oper} {k b:Nat} {x y:Ar} (hc:dw P m o=some (.app k b x y)):cop P o=some (.app k b x y):=by
 cases m with
 |true=>simpa [dw] using hc
 |false=>
  simp only [dw,Bool.false_eq_true,if_false,Option.map_eq_some_iff] at hc
  obtain ⟨op',ho,hE⟩:=hc
  rw [ho,T6 hE]
theorem Qz {o:Oper} {x:Ar} (hc:dw P m o=some (.aZ x)):cop P o=some (.aZ x):=by
 cases m with
 |true=>simpa [dw] using hc
 |false=>
  simp only [dw,Bool.false_eq_true,if_false,Option.map_eq_some_iff] at hc
  obtain ⟨op',ho,hE⟩:=hc
  rw [ho,T7 hE]
theorem J4 {o:Oper} {n:Bool} {x:Ar} (hc:dw P m o=some (.nq n x)):cop P o=some (.nq n x):=by
 cases m with
 |true=>simpa [dw] using hc
 |false=>
  simp only [dw,Bool.false_eq_true,if_false,Option.map_eq_some_iff] at hc
  obtain ⟨op',ho,hE⟩:=hc
  rw [ho,Yk hE]
theorem HY {o:Oper} {n:Bool} {x:Ar} {K:Env→AH→Prop} (h:SR L N F γ C e ah ts w) (hd:∀x,o.dst=some x→x<N) (hc:dw P m o=some (fI.er (.nq n x)))
 (hk:Ee L o.dst n x e ah K):∃e' aH,K e' aH∧bB m P L N F γ C o ts ds w e' aH:=by
 obtain ⟨op,t,x0,p6,el,ho,hx,hu,hop⟩:=Pr (J4 hc)
 rw [ho]
 exact aaN (d:=o.dst) h hd hx hu hop hk
theorem Hp {o:Oper} {k b:Nat} {x y:Ar} {K:Env→AH→Prop} (h:SR L N F γ C e ah ts w) (hd:∀x,o.dst=some x→x<N) (hc:dw P m o=some (fI.er (.lW k b x y)))
 (hk:pV L o.dst k b x y e ah K):∃e' aH,K e' aH∧bB m P L N F γ C o ts ds w e' aH:=by
 obtain ⟨x0,y0,t,u,el,s,ho,hx,hy,ht,hu,hz,rfl,rfl⟩:=Er (BS hc)
 rw [ho]
 exact TZ (d:=o.dst) h hd hx hy ht hu hz hk
theorem J5 {o:Oper} {k:Nat} {x:Ar} (h:SR L N F γ C e ah ts w) (hd:∀x,o.dst=some x→x<N) (hc:dw P m o=some (fI.er (.BN k x)))
 (hev:bN L ⟨o.dst, .BN k x,none⟩ e ah=some (e',aH)):bB m P L N F γ C o ts ds w e' aH:=by
 obtain ⟨x0,ho,hx⟩:=T5 (Qz hc)
 rw [ho]
 exact X3 (d:=o.dst) h hd hx hev
theorem Hq {o:Oper} {k:Nat} {zs:List Ar} (h:SR L N F γ C e ah ts w) (hd:∀x,o.dst=some x→x<N) (hc:dw P m o=some (fI.er (.lU k zs)))
 (hev:bN L ⟨o.dst, .lU k zs,none⟩ e ah=some (e',aH)):bB m P L N F γ C o ts ds w e' aH:=by
 obtain ⟨t,n,parts,el,ho,ht,hn,hb,hz,hcs,rfl⟩:=T8 (Qy hc)
 rw [ho]
 exact T4 (d:=o.dst) h hd ht hn hb hz hcs hev
theorem Hr {op:fI} {f:Ar} {zq:List Ar} (h:op.JQ= .call f zq):op= .call f zq:=by
 cases op with
 |dV hh x=>cases hh<;>cases h
 |ld x n=>cases h
 |_=>exact h
theorem adp {op:fI} {f:Ar} {zq:List Ar} (h:op.er= .call f zq):op= .call f zq:=by
 cases op with
 |uT x=>cases h
 |lW=>cases h
 |BN=>cases h
 |lU=>cases h
 |_=>exact h
theorem HZ {o:Oper} {op:fI} (h:SR L N F γ C e ah ts w) (hd:∀x,o.dst=some x→x<N) (hc:cop P o=some op.er) (eV:op.pE=false)
 (hev:bN L ⟨o.dst,op,none⟩ e ah=some (e',aH)):bB true P L N F γ C o ts ds w e' aH:=by
 by_cases hx:∃x,op= .uT x
 · obtain ⟨x,rfl⟩:=hx
   obtain ⟨d,oo,ty,pos,af,g⟩:=o
   have hc:cop P ⟨d,oo,ty,pos,af,g⟩=some (.dV .sb x):=hc
   cases oo with
   |convert s t y=>
    simp only [cop] at hc
    split at hc
    case h_2=>cases hc
    rename_i hh x' pF hx
    injection hc with hc
    injection hc with e1 e2
    subst e1;subst e2
    exact TM h hd hx pF hev
   |makeFunc fn first cs=>
    cases fn with
    |func f=>simp only [cop] at hc;split at hc<;>simp at hc
    |_=>simp [cop] at hc
   |_=>
    exfalso
    simp only [cop] at hc
    first
     |cases hc;done
     |(simp at hc;done)
     |(repeat' (split at hc))<;>(first|(cases hc;done)|(simp at hc;done))
 · by_cases hy:∃k x,op= .BN k x
   · obtain ⟨k,x,rfl⟩:=hy
     exact J5 (m:=true) h hd (by simpa [dw] using hc) hev
   by_cases hz:∃k x,op= .lU k x
   · obtain ⟨k,x,rfl⟩:=hz
     exact Hq (m:=true) h hd (by simpa [dw] using hc) hev
   have:op.er=op:=by
    cases op<;>first|rfl|exact absurd ⟨_,rfl⟩ hx|exact absurd ⟨_,_,rfl⟩ hy|exact absurd ⟨_,_,rfl⟩ hz|cases eV|rfl
   rw [this] at hc
   exact Mz h hd hc eV (.inl rfl) hev
theorem J6 {o:Oper} {op:fI} (h:SR L N F γ C e ah ts w) (hd:∀x,o.dst=some x→x<N) (hc:dw P m o=some op.er) (eV:op.pE=false)
 (hev:bN L ⟨o.dst,op,none⟩ e ah=some (e',aH)):bB m P L N F γ C o ts ds w e' aH:=by
 cases m with
 |true=>exact HZ h hd (by simpa [dw] using hc) eV hev
 |false=>
  by_cases hx:∃x,op= .uT x
  · obtain ⟨x,rfl⟩:=hx
    simp only [dw,Bool.false_eq_true,if_false,Option.map_eq_some_iff] at hc
    obtain ⟨op',ho,hE⟩:=hc
    have hE:op'.JQ= .dV .sb x:=hE
    have:op'= .dV .sb x:=by
     cases op' with
     |dV hh y=>cases hh<;>first|exact hE|cases hE
     |ld y n=>cases hE
     |_=>exact hE
    subst this
    obtain ⟨v,w',γ',C',h1,h2,h3,h4,h5,h6⟩:=HZ (op:= .uT x) (ds:=ds) h hd ho rfl hev
    refine ⟨v,w',γ',C',h1,h2,h3,h4,h5,fun hq=> ?_⟩
    exfalso
    obtain ⟨d,oo,ty,pos,af,g⟩:=o
    cases oo with
    |convert s t y=>
     simp only [cop] at ho
     split at ho
     case h_2=>cases ho
     rename_i hh x' pF hx
     injection ho with ho
     injection ho with e1 e2
     subst e1
     unfold HH at pF
     split at pF
     · cases pF
     · cases pF
     · rename_i el hs ht
       simp [dQ,ht] at hq
     · split at pF
       · split at pF<;>cases pF
       · cases pF
     · cases pF
    |makeFunc fn first cs=>
     cases fn with
     |func f=>simp only [cop] at ho;split at ho<;>simp at ho
     |_=>simp [cop] at ho
    |_=>
     simp only [cop] at ho
     first
      |cases ho;done
      |(simp at ho;done)
      |(repeat' (split at ho))<;>(first|(cases ho;done)|(simp at ho;done))
  · by_cases hy:∃k x,op= .BN k x
    · obtain ⟨k,x,rfl⟩:=hy
      exact J5 h hd hc hev
    by_cases hz:∃k x,op= .lU k x
    · obtain ⟨k,x,rfl⟩:=hz
      exact Hq h hd hc hev
    have:op.er=op:=by
     cases op<;>first|rfl|exact absurd ⟨_,rfl⟩ hx|exact absurd ⟨_,_,rfl⟩ hy|exact absurd ⟨_,_,rfl⟩ hz|cases eV|rfl
    rw [this] at hc
    exact Yj h hd hc eV hev
theorem wq (L:List Nat) (d:Option Nat) (op:fI) (g:Option (Nat×Bool)) (e:Env) (ah:AH):bN L ⟨d,op,g⟩ e ah=bN L ⟨d,op,none⟩ e ah:=by
 cases op<;>rfl
def jI (P:Program) (f:Nat):Bool:=match P.funcs[f]? with
 |some fn=>fn.body.isSome&&fn.name != "runtime.NumGoroutine"
 |none=>false
def fo:Nat→List AV→Env
 |_,[]=>[]
 |i,a::r=>(i,a)::fo (i+1) r
theorem eF:∀(l:List AV) (i t:Nat),get (fo i l) t=if i≤t then (l[t - i]?).getD .un else .un:=by
 intro l
 induction l with
 |nil=>intro i t;simp [fo,get]
 |cons a r ih=>
  intro i t
  simp only [fo,get]
  by_cases h:i=t
  · subst h;simp
  · rw [if_neg h,ih]
    by_cases h1:i≤t
    · obtain ⟨q,hq⟩:∃q,t - i=q+1:=⟨t - i - 1,by omega⟩
      rw [if_pos h1,if_pos (by omega),hq,show t - (i+1)=q by omega];simp
    · rw [if_neg h1,if_neg (by omega)]
def aG (P:Program) (f:Nat) (args:List AV) (ah:AH) (R:AV→AH→Prop):Prop:=
 jI P f=true∧∀(F:Nat→Prop) (γ:List Nat) (C:Nat→List Value) (w:World) (vs:Array Value),SR [] args.length F γ C (fo 0 args) ah vs w→
  Calls P f vs w fun en w'=>∃r v aH γ' C',en= .returned v∧R r aH∧γ <+: γ'∧SR [] 1 F γ' C' [(0,r)] aH #[v] w'∧Ext F C w C' w'
theorem aG.mono {f:Nat} {args:List AV} {ah:AH} {R R':AV→AH→Prop} (h:aG P f args ah R) (hr:∀r aH,R r aH→R' r aH):aG P f args ah R':=
 ⟨h.1,fun F γ C w vs hs=>(h.2 F γ C w vs hs).mono fun _ _ ⟨r,v,aH,γ',C',h1,h2,h3⟩=>⟨r,v,aH,γ',C',h1,hr _ _ h2,h3⟩⟩
def AV.jh:AV→AV
 | .sl (.fr (.cell _ _)) k xs=> .sl .n k xs
 |a=>a
def wu:Env→Env
 |[]=>[]
 |(i,a)::r=>(i,a.jh)::wu r
theorem Ay (e:Env) (t:Nat):get (wu e) t=(get e t).jh:=by
 induction e with
 |nil=>rfl
 |cons p r ih=>
  obtain ⟨i,b⟩:=p
  simp only [wu,get]
  by_cases h:i=t<;>simp [h,ih]
theorem Wk.jh (a:AV):Wk a a.jh:=by
 cases a with
 |sl t k xs=>
  cases t with
  |fr m=>cases m<;>first|exact .n .. |exact .same _
  |_=>exact .same _
 |_=>exact .same _
theorem Ua (a:AV):a.jh.bU=a.bU:=by
 cases a with
 |sl t k xs=>
  cases t with
  |fr m=>cases m<;>rfl
  |_=>rfl
 |_=>rfl
theorem QA (a:AV) (v:Value):bR a.jh v=bR a v:=by
 cases a with
 |sl t k xs=>
  cases t with
  |fr m=>cases m<;>simp [AV.jh,bR]
  |_=>rfl
 |_=>rfl
theorem Yl {a:AV} {l:Loc} {k:Nat} {xs:List AV} (h:a.jh= .sl (.fr l) k xs):a= .sl (.fr l) k xs∧∃t,l= .tmp t:=by
 cases a with
 |sl t k' xs'=>
  cases t with
  |fr m=>cases m with
   |tmp u=>simp only [AV.jh] at h;exact ⟨h,u,by injection h with h;injection h with h;exact h.symm⟩
   |cell s o=>simp [AV.jh] at h
  |_=>simp [AV.jh] at h
 |_=>simp [AV.jh] at h
theorem J7 {f:Nat} {zq:List AV} {vs:Array Value} {R:AV→AH→Prop} {d:Option Nat} (h:SR L N F γ C e ah ts w) (hd:∀x,d=some x→x<N) (hac:aG P f zq ah R)
 (hlen:vs.size=zq.length) (has:∀(i:Nat) (a:AV),zq[i]? =some a→VR C γ a (vs.getD i undef)∧TC w C a (vs.getD i undef)∧a.plain=true):
 Calls P f vs w fun en w'=>∃r v aH γ' C',en= .returned v∧R r aH∧γ <+: γ'∧SR L N F γ' C' (Am.aI L (wu e) d r.df) aH (Act.put ⟨ts,ds⟩ d v).tmps w'∧Ext F C w C' w':=by
 let F':Nat→Prop:=fun b=>F b∨∃t,blk γ e ah ts w (.tmp t) b
 have QB:∀t,get (fo 0 zq) t=(zq[t]?).getD .un:=fun t=>by rw [eF];simp
 have hnot:∀t,(get (fo 0 zq) t).bU=false:=by
  intro t
  rw [QB]
  cases ht:zq[t]? with
  |none=>rfl
  |some a=>exact ie (has t a ht).2.2
 have hsub:∀p b,blk γ (fo 0 zq) ah vs w p b→blk γ e ah ts w p b∧∀t,p≠ .tmp t:=by
  intro p b hp
  cases p with
  |obj s=>exact ⟨hp,by simp⟩
  |cell s i=>exact ⟨hp,by simp⟩
  |tmp t=>simp only [blk] at hp;rw [iN _ (hnot t)] at hp;cases hp
 have hs:SR [] zq.length F' γ C (fo 0 zq) ah vs w:=by
  refine ⟨h.mem,hlen,fun t=> ?_,fun p q b hp hq=>h.dG p q b (hsub p b hp).1 (hsub q b hq).1,fun p b hp=> ?_,⟨fun b hb=> ?_,fun e he=>by obtain ⟨h1,h2⟩:=h.kA.JS e he;exact ⟨.inl h1,h2⟩⟩,fun t l k xs ht=> ?_⟩
  · rw [QB]
    cases ht:zq[t]? with
    |none=>exact ⟨.un ..,by cases vs.getD t undef<;>trivial⟩
    |some a=>exact ⟨(has t a ht).1,(has t a ht).2.1⟩
  · rintro (hF|⟨t,ht⟩)
    · exact h.nf p b (hsub p b hp).1 hF
    · exact (hsub p b hp).2 t (h.dG p (.tmp t) b (hsub p b hp).1 ht)
  · rcases hb with hF|⟨t,ht⟩
    · exact h.kA.lt b hF
    · exact fX h ht
  · rw [QB] at ht
    cases hq:zq[t]? with
    |none=>rw [hq] at ht;simp at ht
    |some a=>rw [hq] at ht;exact absurd ht (xG (has t a hq).2.2 l k xs)
 refine (hac.2 F' γ C w vs hs).mono ?_
 rintro en w' ⟨r,v,aH,γ',C',rfl,hR,hγ,lg,hx⟩
 refine ⟨r,v,aH,γ',C',rfl,hR,hγ, ?_,⟨hx.pre,fun b hb=>hx.keep b (.inl hb),hx.size,hx.out⟩⟩
 have hg:∀(s b:Nat),γ[s]? =some b→γ'[s]? =some b:=by
  intro s b hs
  obtain ⟨q,rfl⟩:=hγ
  rw [List.getElem?_append_left (List.getElem?_eq_some_iff.1 hs).1];exact hs
 have hown:∀t b,bR (get e t) (ts.getD t undef)=some b→F' b:=fun t b hb=> .inr ⟨t,hb⟩
 have hbk:∀p b,blk γ' (wu e) aH ts w' p b→(∃t,p= .tmp t∧blk γ e ah ts w (.tmp t) b)∨((∀t,p≠ .tmp t)∧blk γ' [(0,r)] aH #[v] w' p b):=by
  intro p b hp
  cases p with
  |obj s=>exact .inr ⟨by simp,hp⟩
  |cell s i=>exact .inr ⟨by simp,hp⟩
  |tmp t=>simp only [blk,Ay,QA] at hp;exact .inl ⟨t,rfl,hp⟩
 have h2:SR L N F γ' C' (wu e) aH ts w':=by
  refine ⟨lg.mem,h.sz,fun t=> ?_,fun p q b hp hq=> ?_,fun p b hp=> ?_,h.kA.keep hx.size (fun b hb=>(hx.keep b (.inl hb)).1),fun t l k xs ht=> ?_⟩
  · rw [Ay]
    refine ⟨(Wk.jh _).vr ((h.env t).1.mono hx.pre _ hg),(Wk.jh _).tc ((h.env t).2.mono fun b hb=> ?_)⟩
    exact hx.keep b (hown t b hb)
  · rcases hbk p b hp with ⟨t,rfl,h1⟩|⟨h1,h2⟩<;>rcases hbk q b hq with ⟨u,rfl,h3⟩|⟨h3,h4⟩
    · exact h.dG _ _ b h1 h3
    · exact absurd (hown t b h1) (lg.nf q b h4)
    · exact absurd (hown u b h3) (lg.nf p b h2)
    · exact lg.dG p q b h2 h4
  · rcases hbk p b hp with ⟨t,rfl,h1⟩|⟨h1,h2⟩
    · exact h.nf _ b h1
    · exact fun hF=>lg.nf p b h2 (.inl hF)
  · rw [Ay] at ht
    obtain ⟨h1,u,rfl⟩:=Yl ht
    have:=h.fr t _ k xs h1
    exact ⟨this.1,fun hu=>this.2 (by rw [Ay,Ua] at hu;exact hu)⟩
 have hr:=lg.env 0
 simp only [get,if_true] at hr
 have hv0:(#[v]:Array Value).getD 0 undef=v:=rfl
 rw [hv0] at hr
 by_cases ho:r.bU=true
 · cases r with
   |sl t k xs=>
    cases t with
    |own=>
     simp only [AV.df]
     refine h2.tj hd hr.1 hr.2 fun b hb=> ?_
     have hb0:blk γ' [(0, .sl .own k xs)] aH #[v] w' (.tmp 0) b:=hb
     refine ⟨fun hF=>lg.nf _ b hb0 (.inl hF),fun p hp=> ?_⟩
     rcases hbk p b hp with ⟨t,rfl,h1⟩|⟨h1,h3⟩
     · exact lg.nf _ b hb0 (hown t b h1)
     · exact h1 0 (lg.dG p (.tmp 0) b h3 hb0)
    |_=>cases ho
   |_=>cases ho
 · have ho':r.bU=false:=by simpa using ho
   exact h2.aI hd ((Wk.df r).vr hr.1) ((Wk.df r).tc hr.2) (Ph ho') (fun l k xs hl=>absurd hl (Mr r l k xs))
end
end Go.Am
end
section
namespace Go.Am
open Go
variable [Tabs]
def Az (P:Program) (L:List Nat) (o:aQ) (e:Env) (ah:AH) (K:Env→AH→Prop):Prop:=
 match o.op with
 | .call f zq=>
   match ev e f with
   | .fn f caps=>b5 caps=true∧aG P f (zq.map (fun x=>(ev e x).sh)++caps.map AV.s1) ah fun r aH=>K (aI L (wu e) o.d r.df) aH
   |_=>False
 | .lW k b x y=>pV L o.d k b x y e ah K
 | .nq n x=>Ee L o.d n x e ah K
 |_=>match bN L o e ah with
  |some (e',aH)=>K e' aH
  |none=>False
def p9 (e:Env):Option Nat→Env
 |some d=>put e d (.bK [])
 |none=>e
def eC (P:Program) (L:List Nat):List aQ→Env→AH→(Env→AH→Prop)→Prop
 |[],e,ah,K=>K e ah
 |o::r,e,ah,K=>match gK e o with
  |some true=>Az P L o e ah fun e ah=>eC P L r e ah K
  |some false=>eC P L r (p9 e o.d) ah K
  |none=>False
def lP (N:Nat):List aQ→Bool
 |[]=>true
 |o::r=>(match o.d with|some d=>decide (d<N)|none=>true)&&(match o.op with| .lit y _=>decide (y<N)|_=>true)&&lP N r
theorem Pt (N:Nat):∀zq:List aQ,lP N (zq.map aQ.er)=lP N zq:=by
 intro zq
 induction zq with
 |nil=>rfl
 |cons o r ih=>
  obtain ⟨d,op,g⟩:=o
  simp only [List.map_cons,lP,ih,aQ.er]
  cases op<;>rfl
def NG:Exit→Prop
 | .goto _=>False
 |_=>True
def AW (P:Program) (L:List Nat) (N n0:Nat) (c:Code) (Q:Exit→Env→AH→Prop) (e:Env) (ah:AH):Prop:=
 ∀(F:Nat→Prop) (γ:List Nat) (C:Nat→List Value) (ts:Array Value) (w:World),SR L N F γ C e ah ts w→n0≤γ.length→
  c.wp P (fun x a' w'=>a'.defers=[]∧NG x∧∃e' aH γ' C',Q x e' aH∧γ.take n0 <+: γ'∧SR L N F γ' C' e' aH a'.tmps w'∧Ext F C w C' w') ⟨ts,[]⟩ w
section
variable {P:Program} {L:List Nat} {N n0:Nat} {F:Nat→Prop} {γ:List Nat} {C C':Nat→List Value} {e:Env} {ah:AH} {ts:Array Value} {w w':World}
variable {e':Env} {aH:AH}
theorem Hs {γ γ':List Nat} {n:Nat} (h:γ <+: γ'):γ.take n <+: γ':=(List.take_prefix n γ).trans h
theorem qa {γ γ' γ'':List Nat} {n:Nat} (h0:n≤γ.length) (h:γ.take n <+: γ') (h':γ'.take n <+: γ''):γ.take n <+: γ'':=by
 obtain ⟨r,rfl⟩:=h
 have:(γ.take n++r).take n=γ.take n:=by
  rw [List.take_append_of_le_length (by simp;omega),List.take_take,Nat.min_self]
 rwa [this] at h'
theorem J8 {γ γ':List Nat} {n:Nat} (h0:n≤γ.length) (h:γ.take n <+: γ'):n≤γ'.length:=by
 have:=h.length_le;simp at this;omega
theorem AW.mono {c:Code} {Q Q':Exit→Env→AH→Prop} (h:AW P L N n0 c Q e ah) (hq:∀x e ah,Q x e ah→Q' x e ah):AW P L N n0 c Q' e ah:=
 fun F γ C ts w hs hn=>wp_mono (h F γ C ts w hs hn) fun _ _ _ ⟨hd,hg,e',aH,γ',C',h1,h2⟩=>⟨hd,hg,e',aH,γ',C',hq _ _ _ h1,h2⟩
theorem AW.skip {Q:Exit→Env→AH→Prop} (h:Q .normal e ah):AW P L N n0 .skip Q e ah:=
 fun F γ C ts w hs hn=>wp_skip ⟨rfl,trivial,e,ah,γ,C,h,List.take_prefix _ _,hs,Ext.refl ..⟩
theorem AW.label {Q:Exit→Env→AH→Prop} {l:Nat} (h:Q .normal e ah):AW P L N n0 (.label l) Q e ah:=
 fun F γ C ts w hs hn=>wp_label ⟨rfl,trivial,e,ah,γ,C,h,List.take_prefix _ _,hs,Ext.refl ..⟩
theorem AW.ret {Q:Exit→Env→AH→Prop} (h:Q .ret e ah):AW P L N n0 .ret Q e ah:=
 fun F γ C ts w hs hn=>wp_ret ⟨rfl,trivial,e,ah,γ,C,h,List.take_prefix _ _,hs,Ext.refl ..⟩
theorem AW.exit {Q:Exit→Env→AH→Prop} {i:Nat} (h:Q (.exit i) e ah):AW P L N n0 (.exit i) Q e ah:=
 fun F γ C ts w hs hn=>wp_exit ⟨rfl,trivial,e,ah,γ,C,h,List.take_prefix _ _,hs,Ext.refl ..⟩
theorem AW.seq {a b:Code} {Q:Exit→Env→AH→Prop} (h:AW P L N n0 a (fun x e ah=>match x with| .normal=>AW P L N n0 b Q e ah|x=>Q x e ah) e ah):AW P L N n0 (.seq a b) Q e ah:=by
 intro F γ C ts w hs hn
 refine wp_seq (wp_mono (h F γ C ts w hs hn) ?_)
 rintro x ⟨ts',ds'⟩ w' ⟨rfl,hg,e',aH,γ',C',h1,h2,h3,h4⟩
 cases x with
 |normal=>
  refine wp_mono (h1 F γ' C' ts' w' h3 (J8 hn h2)) ?_
  rintro x ⟨MA,ds2⟩ w2 ⟨rfl,hg,e2,qY,γ2,C2,g1,g2,g3,g4⟩
  exact ⟨rfl,hg,e2,qY,γ2,C2,g1,qa hn h2 g2,g3,h4.trans g4⟩
 |_=>exact ⟨rfl,hg,e',aH,γ',C',h1,h2,h3,h4⟩
theorem AW.cond {c:Operand} {c':Ar} {a b:Code} {t:Bool} {Q:Exit→Env→AH→Prop} (hc:bJ c=some c') (ht:ev e c'= .bool t) (h:AW P L N n0 (if t then a else b) Q e ah):
 AW P L N n0 (.cond c a b) Q e ah:=by
 intro F γ C ts w hs hn
 have:=(bW (ds:=[]) hs hc).1
 rw [ht] at this
 exact wp_cond (t:=t) this.gL (h F γ C ts w hs hn)
theorem AW.blk {c:Code} {i:Nat} {Q:Exit→Env→AH→Prop} (h:AW P L N n0 c (fun x e ah=>match x with| .exit j=>if j=i then Q .normal e ah else Q (.exit j) e ah|x=>Q x e ah) e ah):
 AW P L N n0 (.block i c) Q e ah:=by
 intro F γ C ts w hs hn
 refine wp_block (wp_mono (h F γ C ts w hs hn) ?_)
 rintro x a w' ⟨hd,hg,e',aH,γ',C',h1,h2⟩
 cases x with
 |exit j=>
  simp only [Exit.inBlock] at h1 ⊢
  by_cases hj:j=i
  · rw [if_pos hj] at h1 ⊢;exact ⟨hd,trivial,e',aH,γ',C',h1,h2⟩
  · rw [if_neg hj] at h1 ⊢;exact ⟨hd,trivial,e',aH,γ',C',h1,h2⟩
 |_=>exact ⟨hd,hg,e',aH,γ',C',h1,h2⟩
theorem AW.loop {c:Code} {Q:Exit→Env→AH→Prop} (I:Nat→Env→AH→Prop) {k0:Nat}
 (round:∀k e ah,I k e ah→AW P L N n0 c (fun x e' aH=>match x with| .normal=>∃k',k'<k∧I k' e' aH|x=>Q x e' aH) e ah) (h0:I k0 e ah):AW P L N n0 (.loop c) Q e ah:=by
 intro F γ C ts w hs hn
 refine wp_loop_ghost (fun k a w'=>a.defers=[]∧∃e' aH γ' C',I k e' aH∧γ.take n0 <+: γ'∧SR L N F γ' C' e' aH a.tmps w'∧Ext F C w C' w') k0
  ⟨rfl,e,ah,γ,C,h0,List.take_prefix _ _,hs,Ext.refl ..⟩ ?_
 rintro k ⟨Es,ds1⟩ w1 ⟨rfl,e1,b7,γ1,C1,h1,h2,h3,h4⟩
 refine wp_mono (round k e1 b7 h1 F γ1 C1 Es w1 h3 (J8 hn h2)) ?_
 rintro x ⟨MA,ds2⟩ w2 ⟨rfl,hg,e2,qY,γ2,C2,g1,g2,g3,g4⟩
 cases x with
 |normal=>obtain ⟨k',hk',hI⟩:=g1;exact ⟨k',hk',rfl,e2,qY,γ2,C2,hI,qa hn h2 g2,g3,h4.trans g4⟩
 |_=>exact ⟨rfl,hg,e2,qY,γ2,C2,g1,qa hn h2 g2,g3,h4.trans g4⟩
theorem AW.scope {c:Code} {Q:Exit→Env→AH→Prop} (h:AW P L N n0 c Q e ah):AW P L N n0 (.scope c) Q e ah:=
 fun F γ C ts w hs hn=>wp_scope_straight (wp_mono (h F γ C ts w hs hn) fun x _ _ h=>by cases x<;>first|exact h|exact h.2.1.elim)
theorem AW.weak {c:Code} {Q:Exit→Env→AH→Prop} {e1:Env} (hw:∀t,Wk (get e t) (get e1 t)) (h:AW P L N n0 c Q e1 ah):AW P L N n0 c Q e ah:=
 fun F γ C ts w hs hn=>h F γ C ts w (hs.wk hw) hn
theorem iO {ops:Array Oper} {o:Oper} {g:Option (Nat×Bool)} {d:Option Nat} {op:fI} {b:Bool} (h:SR L N F γ C e ah ts w) (hg:hO ops o.guard=some g) (hb:gK e ⟨d,op,g⟩=some b):
 Region.wanted o (yielded ops ts)=b:=by
 unfold Region.wanted
 cases ho:o.guard with
 |none=>
  rw [ho] at hg
  simp only [hO,Option.some.injEq] at hg
  subst hg
  simp only [gK,Option.some.injEq] at hb
  exact hb
 |some jw=>
  obtain ⟨j,want⟩:=jw
  rw [ho] at hg
  simp only [hO,Option.map_eq_some_iff] at hg
  obtain ⟨t,ht,rfl⟩:=hg
  simp only [gK] at hb
  split at hb
  · rename_i b' he
    have hv:=(h.env t).1
    rw [he] at hv
    have hv:=hv.gL
    have hy:yielded ops ts j=some b':=by
     unfold yielded
     rw [ht]
     simp only [Option.bind_some]
     have:ts[t]? =some (.bool b'):=by
      rw [Array.getD_eq_getD_getElem?] at hv
      cases hq:ts[t]? with
      |none=>rw [hq] at hv;simp [undef] at hv
      |some v=>rw [hq] at hv;simp at hv;rw [hv]
     rw [this]
    simp only [hy]
    simp only [Option.some.injEq] at hb
    rw [←hb]
    simp
  · rename_i he
    have hv:=(h.env t).1
    rw [he] at hv
    obtain ⟨vs,hv, -⟩:=hv.vX
    have hy:yielded ops ts j=none:=by
     unfold yielded
     rw [ht]
     simp only [Option.bind_some]
     rw [Array.getD_eq_getD_getElem?] at hv
     cases hq:ts[t]? with
     |none=>rfl
     |some v=>rw [hq] at hv;simp at hv;rw [hv]
    simp only [hy]
    simp only [Option.some.injEq] at hb
    exact hb
  · cases hb
  · cases hb
theorem Ht (h:SR L N F γ C e ah ts w):∀(tys:List TypeId) (l:List Operand) (zq:List Ar),yQ P tys l=some zq→zq.length=l.length∧
 ∀(i:Nat) (x:Operand) (a:Ar),l[i]? =some x→zq[i]? =some a→VR C γ (ev e a) (Act.eval ⟨ts,[]⟩ x)∧TC w C (ev e a) (Act.eval ⟨ts,[]⟩ x):=by
 intro tys l
 induction l generalizing tys with
 |nil=>intro zq hc;cases tys<;>(simp [yQ] at hc;subst hc;simp)
 |cons x r ih=>
  intro zq hc
  cases tys with
  |nil=>simp [yQ] at hc
  |cons t tys=>
   simp only [yQ] at hc
   split at hc
   case h_2=>cases hc
   rename_i a zq' ha has
   simp only [Option.some.injEq] at hc
   subst hc
   obtain ⟨h1,h2⟩:=ih tys zq' has
   refine ⟨by simp [h1],fun j y b hy hb=> ?_⟩
   cases j with
   |zero=>simp at hy hb;subst hy;subst hb;exact fW h ha
   |succ j=>exact h2 j y b (by simpa using hy) (by simpa using hb)
theorem Et {f:Nat} (hf:jI P f=true) {d:Option Nat} {x:Operand} {args:Array Operand} {tys:Array TypeId} {ty:TypeId} {pos:String} {af:Array Edge} {g:Option (Nat×Bool)} {caps:Array Value} {ρ:Operand→Value}
 (hx:ρ x= .func (.func f) #[] caps):
 (execOp ρ ⟨d, .call {callee:= .value x,args:=args,argTypes:=tys},ty,pos,af,g⟩).run P w= .ok (.enter f (args.map ρ++caps)) w:=by
 unfold jI at hf
 split at hf
 case h_2=>cases hf
 rename_i fn hfn
 simp only [Bool.and_eq_true,bne_iff_ne] at hf
 obtain ⟨h1,h2⟩:=hf
 have h3:fn.body.isNone=false:=by cases hb:fn.body<;>simp_all
 have h4:(fn.name== "runtime.NumGoroutine")=false:=by simpa using h2
 have h5:fn.body≠none:=by intro h0;rw [h0] at h1;cases h1
 simp [execOp,resolve,Deferred.ofValue,hx,invoke,callFunc,program,Sem.run,hfn,h2,h5]
theorem BT {o:Oper} {f:Ar} {wv:List Ar} (hop:cop P o=some (.call f wv)):
 ∃x args tys,o=⟨o.dst, .call {callee:= .value x,args:=args,argTypes:=tys},o.type,o.pos,o.after,o.guard⟩∧bJ x=some f∧yQ P tys.toList args.toList=some wv:=by
 obtain ⟨d,oo,ty,pos,af,gd⟩:=o
 cases oo with
 |call c=>
  obtain ⟨callee,args,tys⟩:=c
  simp only [cop] at hop
  split at hop
  · split at hop<;>simp at hop
  · split at hop
    · split at hop
      · simp at hop
      · cases hop
    · cases hop
  · split at hop
    · split at hop
      · simp at hop
      · cases hop
    · cases hop
  · split at hop
    · split at hop
      · split at hop<;>simp at hop
      · split at hop<;>simp at hop
      · cases hop
    · cases hop
  · rename_i x
    split at hop
    · rename_i f2 as2 h1 h2
      injection hop with hop
      injection hop with e1 e2
      subst e1;subst e2
      exact ⟨x,args,tys,rfl,h1,h2⟩
    · cases hop
  · cases hop
 |makeFunc fn first cs=>
  cases fn with
  |func f=>simp only [cop] at hop;split at hop<;>simp at hop
  |_=>simp [cop] at hop
 |_=>
  exfalso
  simp only [cop] at hop
  first
   |cases hop;done
   |(simp at hop;done)
   |(repeat' (split at hop))<;>(first|(cases hop;done)|(simp at hop;done))
theorem Eu (hs:SR L N F γ C e ah ts w) {wv:List Ar} {caps:List AV} {args:Array Operand} {vs:Array Value} (hfl:b5 caps=true) (hcl:caps.length=vs.size)
 (pF:∀(i:Nat) (a:AV),caps[i]? =some a→VR C γ a (vs.getD i undef)) (c1:wv.length=args.toList.length)
 (c2:∀(i:Nat) (x:Operand) (a:Ar),args.toList[i]? =some x→wv[i]? =some a→VR C γ (ev e a) (Act.eval ⟨ts,[]⟩ x)∧TC w C (ev e a) (Act.eval ⟨ts,[]⟩ x)):
 ∀(i:Nat) (a:AV),(wv.map (fun x=>(ev e x).sh)++caps.map AV.s1)[i]? =some a→
  VR C γ a ((args.map (Act.eval ⟨ts,[]⟩)++vs).getD i undef)∧TC w C a ((args.map (Act.eval ⟨ts,[]⟩)++vs).getD i undef)∧a.plain=true:=by
 intro i a hi
 by_cases hlt:i<wv.length
 · rw [List.getElem?_append_left (by simpa using hlt),List.getElem?_map,List.getElem?_eq_getElem hlt] at hi
   obtain rfl:(ev e wv[i]).sh=a:=by simpa using hi
   have En:i<args.toList.length:=by omega
   have:=c2 i _ _ (List.getElem?_eq_getElem En) (List.getElem?_eq_getElem hlt)
   have hgd:(args.map (Act.eval ⟨ts,[]⟩)++vs).getD i undef=Act.eval ⟨ts,[]⟩ args.toList[i]:=by
    rw [Array.length_toList] at En
    simp [Array.getD_eq_getD_getElem?,Array.getElem?_append,En]
   rw [hgd]
   exact ⟨(Wk.sh _).vr this.1,(Wk.sh _).tc this.2,tq _⟩
 · rw [List.getElem?_append_right (by simpa using hlt),List.getElem?_map] at hi
   simp only [List.length_map] at hi
   cases Ga:caps[i - wv.length]? with
   |none=>rw [Ga] at hi;simp at hi
   |some b=>
    rw [Ga] at hi
    obtain rfl:b.s1=a:=by simpa using hi
    have hgd:(args.map (Act.eval ⟨ts,[]⟩)++vs).getD i undef=vs.getD (i - wv.length) undef:=by
     have c1':wv.length=args.size:=by simpa using c1
     simp only [Array.getD_eq_getD_getElem?]
     rw [Array.getElem?_append_right (by simp;omega)]
     simp [c1']
    rw [hgd]
    exact ⟨(Wk.iU (Wk.s1 _)).vr (pF _ _ Ga),Ty b (jG hfl Ga) _,Hg b⟩
theorem J9 {o:Oper} {a:fI} (h:Pf P o=some a):cop P o=some a∨a= .bad:=by
 unfold Pf at h
 cases hc:cop P o with
 |none=>rw [hc] at h;injection h with h;exact .inr h.symm
 |some b=>rw [hc] at h;exact .inl h
theorem Ym {op:fI} (h:op.er= .bad):op= .bad:=by cases op<;>first|rfl|cases h
theorem C4 {ops:Array Oper} {l:List Oper} {zq:List aQ} (h:kz P ops l=some zq):(l=[]∧zq=[])∨
 (∃o o2 r a zq',l=o::o2::r∧nv P o o2=some a∧kz P ops r=some zq'∧zq=a::zq')∨
 (∃o o2 r ag zq',l=o::o2::r∧JP P ops o o2=some ag∧kz P ops r=some zq'∧zq=ag++zq')∨
 ∃o r op g zq',l=o::r∧(cop P o=some op∨op= .bad)∧hO ops o.guard=some g∧kz P ops r=some zq'∧zq=⟨o.dst,op,g⟩::zq':=by
 cases l with
 |nil=>simp only [kz,Option.some.injEq] at h;exact .inl ⟨rfl,h.symm⟩
 |cons o r=>
  cases r with
  |nil=>
   simp only [kz] at h
   split at h
   case h_2=>cases h
   rename_i a g h1 h2
   injection h with h
   exact .inr (.inr (.inr ⟨o,[],a,g,[],rfl,J9 h1,h2,rfl,h.symm⟩))
  |cons o2 r=>
   rw [kz] at h
   split at h
   · rename_i a ha
     simp only [Option.map_eq_some_iff] at h
     obtain ⟨zq',h1,rfl⟩:=h
     exact .inr (.inl ⟨o,o2,r,a,zq',rfl,ha,h1,rfl⟩)
   · split at h
     · rename_i ag hag
       simp only [Option.map_eq_some_iff] at h
       obtain ⟨zq',h1,rfl⟩:=h
       exact .inr (.inr (.inl ⟨o,o2,r,ag,zq',rfl,hag,h1,rfl⟩))
     · split at h
       case h_2=>cases h
       rename_i a g zq' h1 h2 h3
       injection h with h
       exact .inr (.inr (.inr ⟨o,o2::r,a,g,zq',rfl,J9 h1,h2,h3,h.symm⟩))
theorem Pu {a b:aQ} {y:Nat} {bs:List UInt8} (h:a.er=b) (hb:b.op= .lit y bs):a=b:=by
 obtain ⟨d,op,g⟩:=a
 subst h
 cases op<;>first|rfl|(simp [aQ.er,fI.er] at hb)
theorem Ev {o o2:Oper} {a:aQ} (h:nv P o o2=some a):∃y bs,a.op= .lit y bs:=by
 unfold nv at h
 split at h
 case h_2=>cases h
 split at h
 case isFalse=>cases h
 split at h
 case h_2=>cases h
 split at h
 case h_2=>cases h
 split at h
 case isFalse=>cases h
 split at h
 case h_2=>cases h
 simp only [Option.map_eq_some_iff] at h
 obtain ⟨bs, -,rfl⟩:=h
 exact ⟨_,_,rfl⟩
theorem BU {ops:Array Oper} {o o2:Oper} {ag:List aQ} (h:JP P ops o o2=some ag):∃d y bs t w g,ag=[⟨some y, .mv (.c .un),some (t,w)⟩,⟨d, .lit y bs,some (t,w)⟩]∧t≠y∧
 nv P (bare o) (bare o2)=some ⟨d, .lit y bs,g⟩∧hO ops o.guard=some (some (t,w))∧hO ops o2.guard=some (some (t,w)):=by
 unfold JP at h
 split at h
 case isFalse=>cases h
 rename_i hg
 split at h
 case h_2=>cases h
 rename_i x t w d y bs g h1 h2 h3
 split at h
 · cases h
 · rename_i hty
   injection h with h
   exact ⟨d,y,bs,t,w,g,h.symm,hty,h3,h2,by rw [←hg];exact h2⟩
theorem aaO {a b:aQ} {x:Ar} (h:a.er=b) (hb:b.op= .mv x):a=b:=by
 obtain ⟨d,op,g⟩:=a
 subst h
 cases op<;>first|rfl|(simp [aQ.er,fI.er] at hb)
theorem H6 {ops:Array Oper} {l:List Oper} {zq:List aQ} (h:kz P ops l=some (zq.map aQ.er)):(l=[]∧zq=[])∨
 (∃o o2 r a zq',l=o::o2::r∧nv P o o2=some a∧kz P ops r=some (zq'.map aQ.er)∧zq=a::zq')∨
 (∃o o2 r ag zq',l=o::o2::r∧JP P ops o o2=some ag∧kz P ops r=some (zq'.map aQ.er)∧zq=ag++zq')∨
 ∃o r op g zq',l=o::r∧(cop P o=some op.er∨op= .bad)∧hO ops o.guard=some g∧kz P ops r=some (zq'.map aQ.er)∧zq=⟨o.dst,op,g⟩::zq':=by
 rcases C4 h with ⟨h1,h2⟩|⟨o,o2,r,a,zq',h1,h2,h3,h4⟩|⟨o,o2,r,ag,zq',h1,h2,h3,h4⟩|⟨o,r,op,g,zq',h1,h2,h3,h4,h5⟩
 · exact .inl ⟨h1,by simpa using h2⟩
 · cases zq with
   |nil=>simp at h4
   |cons x xs=>
    simp only [List.map_cons,List.cons.injEq] at h4
    obtain ⟨y,bs,hl⟩:=Ev h2
    have:=Pu h4.1 hl
    subst this
    exact .inr (.inl ⟨o,o2,r,x,xs,h1,h2,by rw [h3,h4.2],rfl⟩)
 · obtain ⟨d,y,bs,t,w,g,rfl, -⟩:=BU h2
   cases zq with
   |nil=>simp at h4
   |cons x xs=>
    cases xs with
    |nil=>simp at h4
    |cons x2 xs=>
     simp only [List.map_cons,List.cons_append,List.nil_append,List.cons.injEq] at h4
     have e1:=aaO h4.1 rfl
     have e2:=Pu h4.2.1 rfl
     subst e1;subst e2
     exact .inr (.inr (.inl ⟨o,o2,r,_,xs,h1,h2,by rw [h3,h4.2.2],rfl⟩))
 · cases zq with
   |nil=>simp at h5
   |cons x xs=>
    simp only [List.map_cons,List.cons.injEq] at h5
    obtain ⟨d,op',g'⟩:=x
    obtain ⟨h6,h7⟩:=h5
    simp only [aQ.er] at h6
    injection h6 with e1 e2 e3
    subst e1;subst e2;subst e3
    exact .inr (.inr (.inr ⟨o,r,op',g',xs,h1,h2.imp id Ym,h3,by rw [h4,h7],rfl⟩))
theorem Ka {ops:Array Oper} {o o2:Oper} {l:List Oper} {a:aQ} {zq:List aQ} {K:Env→AH→Prop} {Q:Exit→Act→World→Prop} (gY:nv P (bare o) (bare o2)=some a)
 (hw1:Region.wanted o (yielded ops ts)=true) (El:∀y bs v,a.op= .lit y bs→Region.wanted o2 (yielded ops ((⟨ts,[]⟩:Act).put (some y) v).tmps)=true) (hd:lP N (a::zq)=true)
 (hs:SR L N F γ C e ah ts w) (hk:eC P L (a::zq) e ah K)
 (next:∀e1 b7 C1 Es w1,eC P L zq e1 b7 K→lP N zq=true→SR L N F γ C1 e1 b7 Es w1→Ext F C w C1 w1→wpList P ops Q l ⟨Es,[]⟩ w1):wpList P ops Q (o::o2::l) ⟨ts,[]⟩ w:=by
 obtain ⟨d1,op1,ty1,pos1,af1,g1⟩:=o
 obtain ⟨d2,Yi,p6,pos2,af2,g2⟩:=o2
 unfold nv bare at gY
 split at gY
 case h_2=>cases gY
 rename_i t n parts s d x y h1 h2 h3
 simp only at h1 h2 h3
 subst h1;subst h2;subst h3
 split at gY
 case isFalse=>cases gY
 rename_i hcs
 obtain ⟨rfl,rfl,rfl,Yn,Kb,hyd,hn,hn2⟩:=hcs
 split at gY
 case h_2=>cases gY
 rename_i el hel
 split at gY
 case h_2=>cases gY
 rename_i hu8
 split at gY
 case isFalse=>cases gY
 rename_i hsz
 split at gY
 case h_2=>cases gY
 rename_i wv adq
 simp only [Option.map_eq_some_iff] at gY
 obtain ⟨bs,Mx,rfl⟩:=gY
 have El:=fun v=>El _ _ v rfl
 simp only [lP,Bool.and_eq_true] at hd
 obtain ⟨⟨hd1,Dm⟩,hd3⟩:=hd
 have hy:x<N:=by simpa using Dm
 have jX:∀z,d2=some z→z<N:=by
  intro z hz
  rw [hz] at hd1
  simpa using hd1
 simp only [eC,gK,Az,bN] at hk
 have ht:P.underlying d=some (.slice el):=by
  unfold Ed at hel
  split at hel
  · rename_i h;injection hel with hel;subst hel;exact h
  · cases hel
 obtain ⟨q1,q2⟩:=TW Mx e
 obtain ⟨r,hrs,hrun, -,key⟩:=xI (ds:=[]) (d:=d2) hs jX ht hn (by rw [hsz.1];omega) hsz.2 adq (by rw [hsz.1];exact q2)
 obtain ⟨C',k1,k2⟩:=key (r.size,r.size+1) (.inr rfl)
 rw [q1,hsz.1] at k1
 have k3:=k1.CZ (d:=x) (a:= .un) (v:= .slice (some ⟨w.heap.size,0,none⟩) n n) hy (.un ..) trivial rfl (by simp)
 unfold wpList
 rw [if_pos hw1]
 refine .inl ?_
 unfold Oper.wp
 have e1:(execOp (Act.eval ⟨ts,[]⟩) ⟨some x, .buildSlice d n parts,ty1,pos1,af1,g1⟩).run P w= .ok (.value (.slice (some ⟨w.heap.size,0,none⟩) n n)) (w.alloc (.cells r el)):=by
  simp [execOp,hrun]
 rw [e1]
 simp only [Oper.upon]
 unfold wpList
 rw [if_pos (El _)]
 refine .inl ?_
 unfold Oper.wp
 have hlt:x<ts.size:=by rw [hs.sz];exact hy
 have e2:(execOp (Act.eval ((⟨ts,[]⟩:Act).put (some x) (.slice (some ⟨w.heap.size,0,none⟩) n n))) ⟨d2, .convert d d (.tmp x),p6,pos2,af2,g2⟩).run P (w.alloc (.cells r el))= .ok (.value (.slice (some ⟨w.heap.size,0,none⟩) n n)) (w.alloc (.cells r el (r.size,r.size+1))):=by
  have hev:Act.eval ((⟨ts,[]⟩:Act).put (some x) (.slice (some ⟨w.heap.size,0,none⟩) n n)) (.tmp x)= .slice (some ⟨w.heap.size,0,none⟩) n n:=by
   simp [Act.eval,Act.put,hlt]
  have:=Lib.run_convert_bytes_const (P:=P) w d el r n n ht hu8
  simp only [execOp,hev,Sem.run_bind,this,Result.andThen_ok,Sem.run_pure]
 rw [e2]
 simp only [Oper.upon]
 rw [←SR.Eo ts [] hyd]
 have hput:(((⟨ts,[]⟩:Act).put d2 (.slice (some ⟨w.heap.size,0,none⟩) n n)).put (some x) (.slice (some ⟨w.heap.size,0,none⟩) n n))=
  ⟨(((⟨ts,[]⟩:Act).put d2 (.slice (some ⟨w.heap.size,0,none⟩) n n)).tmps).setIfInBounds x (.slice (some ⟨w.heap.size,0,none⟩) n n),[]⟩:=by
  cases d2<;>rfl
 rw [hput]
 exact next _ _ C' _ _ hk hd3 k3 k2
theorem Yo {ops:Array Oper} {o o2:Oper} {l:List Oper} {a:aQ} {zq:List aQ} {K:Env→AH→Prop} {Q:Exit→Act→World→Prop} (gY:nv P o o2=some a) (hd:lP N (a::zq)=true)
 (hs:SR L N F γ C e ah ts w) (hk:eC P L (a::zq) e ah K)
 (next:∀e1 b7 C1 Es w1,eC P L zq e1 b7 K→lP N zq=true→SR L N F γ C1 e1 b7 Es w1→Ext F C w C1 w1→wpList P ops Q l ⟨Es,[]⟩ w1):wpList P ops Q (o::o2::l) ⟨ts,[]⟩ w:=by
 have hg:o.guard=none∧o2.guard=none:=by
  unfold nv at gY
  split at gY
  case h_2=>cases gY
  split at gY
  case isFalse=>cases gY
  rename_i hcs
  exact ⟨by simpa using hcs.2.2.2.1,by simpa using hcs.2.2.2.2.1⟩
 have e1:bare o=o:=by obtain ⟨d,op,ty,pos,af,g⟩:=o;simp only at hg;simp [bare,hg.1]
 have e2:bare o2=o2:=by obtain ⟨d,op,ty,pos,af,g⟩:=o2;simp only at hg;simp [bare,hg.2]
 exact Ka (by rw [e1,e2];exact gY) (by simp [Region.wanted,hg.1]) (fun _ _ _ _=>by simp [Region.wanted,hg.2]) hd hs hk next
theorem Ub {ops:Array Oper}:∀(n:Nat) (l:List Oper) (zq:List aQ) (e:Env) (ah:AH) (K:Env→AH→Prop) (F:Nat→Prop) (γ:List Nat) (C:Nat→List Value) (ts:Array Value) (w:World)
 (Q:Exit→Act→World→Prop),l.length≤n→kz P ops l=some (zq.map aQ.er)→lP N zq=true→SR L N F γ C e ah ts w→eC P L zq e ah K→
 (∀e' aH γ' C' ts' w',K e' aH→γ <+: γ'→SR L N F γ' C' e' aH ts' w'→Ext F C w C' w'→Q .normal ⟨ts',[]⟩ w')→wpList P ops Q l ⟨ts,[]⟩ w:=by
 intro n
 induction n with
 |zero=>
  intro l zq e ah K F γ C ts w Q hn hc hd hs hk hq
  obtain rfl:l=[]:=List.eq_nil_of_length_eq_zero (by omega)
  simp only [kz,Option.some.injEq] at hc
  obtain rfl:zq=[]:=by simpa using hc.symm
  exact wpList_nil (hq e ah γ C ts w hk (List.prefix_refl _) hs (Ext.refl ..))
 |succ n ih=>
  intro l zq e ah K F γ C ts w Q hn hc hd hs hk hq
  rcases H6 hc with ⟨rfl,rfl⟩|⟨o,o2,l,a,zq',rfl,gY,has,rfl⟩|⟨o,o2,l,ag,zq',rfl,gY,has,rfl⟩|⟨o,l,op,g,zq',rfl,hop,hg,has,rfl⟩
  · exact wpList_nil (hq e ah γ C ts w hk (List.prefix_refl _) hs (Ext.refl ..))
  · exact Yo gY hd hs hk fun e1 b7 C1 Es w1 BP hd1 hs1 hx1=>ih l zq' e1 b7 K F γ C1 Es w1 Q (by simp at hn;omega) has hd1 hs1 BP
     fun e' aH γ' C' ts' w' g1 g2 g3 g4=>hq e' aH γ' C' ts' w' g1 g2 g3 (hx1.trans g4)
  · obtain ⟨d,y,bs,tg,want,g0,rfl,hty,hlo,Yn,Kb⟩:=BU gY
    have hd:lP N [⟨some y, .mv (.c .un),some (tg,want)⟩,⟨d, .lit y bs,some (tg,want)⟩]=true∧lP N zq'=true:=by
     simp only [List.cons_append,List.nil_append,lP,Bool.and_eq_true,Bool.and_true] at hd ⊢
     exact ⟨⟨hd.1,hd.2.1⟩,hd.2.2⟩
    have hyN:y<N:=by
     have:=hd.1
     simp only [lP,Bool.and_eq_true] at this
     simpa using this.1.1
    have adr:∀v,SR L N F γ C (put e y .un) ah (ts.setIfInBounds y v) w:=fun v=>hs.CZ hyN (.un ..) trivial rfl (by simp)
    have hge:∀a,get (put e y a) tg=get e tg:=fun a=>by rw [fm,if_neg hty]
    have As:∀a (d d2:Option Nat) (op Yi:fI),gK (put e y a) ⟨d,op,some (tg,want)⟩=gK e ⟨d2,Yi,some (tg,want)⟩:=fun a _ _ _ _=>by simp only [gK,hge]
    rw [List.cons_append,List.cons_append,List.nil_append] at hk
    simp only [eC] at hk
    split at hk
    · rename_i uq
      have hw1:=iO hs Yn uq
      have e0:aI L e (some y) (cp L (.c .un) (ev e (.c .un)))=put e y .un:=by
       simp only [ev,cp,aI];split<;>rfl
      simp only [Az,bN] at hk
      rw [e0,As .un d (some y) (.lit y bs) (.mv (.c .un)),uq] at hk
      simp only at hk
      have hk3:eC P L (⟨d, .lit y bs,g0⟩::zq') (put e y .un) ah K:=by
       have h0:g0=none:=by
        unfold nv at hlo
        split at hlo
        case h_2=>cases hlo
        split at hlo
        case isFalse=>cases hlo
        split at hlo
        case h_2=>cases hlo
        split at hlo
        case h_2=>cases hlo
        split at hlo
        case isFalse=>cases hlo
        split at hlo
        case h_2=>cases hlo
        simp only [Option.map_eq_some_iff] at hlo
        obtain ⟨_, -,hlo⟩:=hlo
        injection hlo with _ _ h3
        exact h3.symm
       subst h0
       exact hk
      refine Ka hlo hw1 (fun y' bs' v h=> ?_) (by
       have h1:=hd.1
       simp only [lP,Bool.and_eq_true] at h1 ⊢
       exact ⟨h1.2.1,hd.2⟩) (hs.th (.un _)) hk3 fun e1 b7 C1 Es w1 BP hd1 hs1 hx1=>ih l zq' e1 b7 K F γ C1 Es w1 Q (by simp at hn;omega) has hd1 hs1 BP
       fun e' aH γ' C' ts' w' g1 g2 g3 g4=>hq e' aH γ' C' ts' w' g1 g2 g3 (hx1.trans g4)
      injection h with h1 h2
      subst h1
      exact iO (adr v) Kb (d:=d) (op:= .lit y bs) ((As .un d (some y) (.lit y bs) (.mv (.c .un))).trans uq)
    · rename_i uq
      have hw1:=iO hs Yn uq
      rw [show p9 e (some y)=put e y (.bK []) from rfl,As (.bK []) d (some y) (.lit y bs) (.mv (.c .un)),uq] at hk
      simp only at hk
      obtain ⟨hdo,hdy⟩:o.dst=some y∧o2.dst=d:=by
       unfold nv bare at hlo
       split at hlo
       case h_2=>cases hlo
       rename_i h1 h2 h3
       simp only at h3
       split at hlo
       case isFalse=>cases hlo
       split at hlo
       case h_2=>cases hlo
       split at hlo
       case h_2=>cases hlo
       split at hlo
       case isFalse=>cases hlo
       split at hlo
       case h_2=>cases hlo
       simp only [Option.map_eq_some_iff] at hlo
       obtain ⟨_, -,hlo⟩:=hlo
       injection hlo with q1 q2 _
       injection q2 with q2 _
       subst q2
       exact ⟨h3,q1⟩
      have hs1:SR L N F γ C (put e y (.bK [])) ah (ts.setIfInBounds y undef) w:=hs.CZ hyN (.bK _ [] #[] rfl (by simp)) (by simp [undef,TC]) rfl (by simp)
      unfold wpList
      rw [if_neg (by rw [hw1];simp)]
      unfold wpList
      have aaP:(⟨ts,[]⟩:Act).put o.dst undef=⟨ts.setIfInBounds y undef,[]⟩:=by rw [hdo];rfl
      rw [aaP]
      have El:=iO hs1 Kb (d:=d) (op:= .lit y bs) ((As (.bK []) d (some y) (.lit y bs) (.mv (.c .un))).trans uq)
      rw [if_neg (by show ¬(Region.wanted o2 (yielded ops (ts.setIfInBounds y undef))=true);rw [El];simp)]
      have hput:(⟨ts.setIfInBounds y undef,[]⟩:Act).put o2.dst undef=⟨((⟨ts.setIfInBounds y undef,[]⟩:Act).put o2.dst undef).tmps,[]⟩:=by cases o2.dst<;>rfl
      rw [hput]
      refine ih l zq' _ ah K F γ C _ w Q (by simp at hn;omega) has hd.2 ?_ hk hq
      rw [hdy]
      cases hdd:d with
      |none=>exact hs1
      |some d'=>
       have hdN:d'<N:=by
        have:=hd.1
        simp only [lP,Bool.and_eq_true,hdd] at this
        simpa using this.2.1.1
       exact hs1.CZ hdN (.bK _ [] #[] rfl (by simp)) (by simp [undef,TC]) rfl (by simp)
    · exact hk.elim
  have hn':l.length≤n:=by simp at hn;omega
  simp only [lP,Bool.and_eq_true] at hd
  have jX:∀x,o.dst=some x→x<N:=by
   intro x hx
   have:=hd.1.1
   rw [hx] at this
   simpa using this
  simp only [eC] at hk
  split at hk
  · rename_i uq
    have hw:=iO hs hg uq
    unfold wpList
    rw [if_pos hw]
    refine .inl ?_
    rcases hop with hop|rfl
    case inr=>exact hk.elim
    by_cases eV:op.pE=true
    · cases op with
      |call f wv=>
       simp only [Az] at hk
       split at hk
       case h_2=>exact hk.elim
       rename_i f' caps hfv
       obtain ⟨hfl,hk⟩:=hk
       obtain ⟨x,args,tys,ho,hx,hargs⟩:=BT hop
       have h1:=bW (ds:=[]) hs hx
       rw [hfv] at h1
       obtain ⟨vs,Uc,hcl,pF⟩:=h1.1.D5
       obtain ⟨c1,c2⟩:=Ht hs _ _ _ hargs
       have Ew:=J7 (d:=o.dst) (ds:=[]) (vs:=args.map (Act.eval ⟨ts,[]⟩)++vs) hs jX hk (by simp [c1,hcl]) (Eu hs hfl hcl pF c1 c2)
       have MB:(execOp (Act.eval ⟨ts,[]⟩) o).run P w= .ok (.enter f' (args.map (Act.eval ⟨ts,[]⟩)++vs)) w:=by
        rw [ho];exact Et hk.1 Uc
       unfold Oper.wp
       rw [MB]
       simp only [Oper.upon]
       refine Ew.mono ?_
       rintro en w1 ⟨r,v,b7,γ1,C1,rfl,hR,hγ,hs1,hx1⟩
       have hput:(⟨ts,[]⟩:Act).put o.dst v=⟨((⟨ts,[]⟩:Act).put o.dst v).tmps,[]⟩:=by cases o.dst<;>rfl
       show wpList P ops Q l ((⟨ts,[]⟩:Act).put o.dst v) w1
       rw [hput]
       exact ih l zq' _ b7 K F γ1 C1 _ w1 Q hn' has hd.2 hs1 hR fun e' aH γ' C' ts' w' g1 g2 g3 g4=>hq e' aH γ' C' ts' w' g1 (hγ.trans g2) g3 (hx1.trans g4)
      |lW k b x y=>
       simp only [Az] at hk
       obtain ⟨e1,b7,hk',v,w1,γ1,C1,hr,hγ,hs1,hx1, -, -⟩:=Hp (m:=true) (ds:=[]) hs jX (by simpa [dw] using hop) hk
       have next:wpList P ops Q l ((⟨ts,[]⟩:Act).put o.dst v) w1:=by
        have hput:(⟨ts,[]⟩:Act).put o.dst v=⟨((⟨ts,[]⟩:Act).put o.dst v).tmps,[]⟩:=by cases o.dst<;>rfl
        rw [hput]
        exact ih l zq' e1 b7 K F γ1 C1 _ w1 Q hn' has hd.2 hs1 hk' fun e' aH γ' C' ts' w' g1 g2 g3 g4=>hq e' aH γ' C' ts' w' g1 (hγ.trans g2) g3 (hx1.trans g4)
       unfold Oper.wp
       rcases hr with hr|⟨hr,rfl⟩<;>rw [hr]<;>exact next
      |nq n x=>
       simp only [Az] at hk
       obtain ⟨e1,b7,hk',v,w1,γ1,C1,hr,hγ,hs1,hx1, -, -⟩:=HY (m:=true) (ds:=[]) hs jX (by simpa [dw] using hop) hk
       have next:wpList P ops Q l ((⟨ts,[]⟩:Act).put o.dst v) w1:=by
        have hput:(⟨ts,[]⟩:Act).put o.dst v=⟨((⟨ts,[]⟩:Act).put o.dst v).tmps,[]⟩:=by cases o.dst<;>rfl
        rw [hput]
        exact ih l zq' e1 b7 K F γ1 C1 _ w1 Q hn' has hd.2 hs1 hk' fun e' aH γ' C' ts' w' g1 g2 g3 g4=>hq e' aH γ' C' ts' w' g1 (hγ.trans g2) g3 (hx1.trans g4)
       unfold Oper.wp
       rcases hr with hr|⟨hr,rfl⟩<;>rw [hr]<;>exact next
      |_=>cases eV
    · have rL:op.pE=false:=by simpa using eV
      have hk':match bN L ⟨o.dst,op,g⟩ e ah with|some (e',aH)=>eC P L zq' e' aH K|none=>False:=by
       cases op<;>first|exact hk|cases rL
      rw [wq] at hk'
      cases hev:bN L ⟨o.dst,op,none⟩ e ah with
      |none=>rw [hev] at hk';exact hk'.elim
      |some ea=>
       obtain ⟨e1,b7⟩:=ea
       rw [hev] at hk'
       obtain ⟨v,w1,γ1,C1,hr,hγ,hs1,hx1, -, -⟩:=HZ (ds:=[]) hs jX hop rL hev
       have next:wpList P ops Q l ((⟨ts,[]⟩:Act).put o.dst v) w1:=by
        have hput:(⟨ts,[]⟩:Act).put o.dst v=⟨((⟨ts,[]⟩:Act).put o.dst v).tmps,[]⟩:=by cases o.dst<;>rfl
        rw [hput]
        exact ih l zq' e1 b7 K F γ1 C1 _ w1 Q hn' has hd.2 hs1 hk' fun e' aH γ' C' ts' w' g1 g2 g3 g4=>hq e' aH γ' C' ts' w' g1 (hγ.trans g2) g3 (hx1.trans g4)
       unfold Oper.wp
       rcases hr with hr|⟨hr,rfl⟩<;>rw [hr]<;>exact next
  · rename_i uq
    have hw:=iO hs hg uq
    unfold wpList
    rw [if_neg (by rw [hw];simp)]
    have hput:(⟨ts,[]⟩:Act).put o.dst undef=⟨((⟨ts,[]⟩:Act).put o.dst undef).tmps,[]⟩:=by cases o.dst<;>rfl
    rw [hput]
    refine ih l zq' _ ah K F γ C _ w Q hn' has hd.2 ?_ hk hq
    cases ho:o.dst with
    |none=>exact hs
    |some d=>exact hs.CZ (jX d ho) (.bK _ [] #[] rfl (by simp)) (by simp [undef,TC]) rfl (by simp)
  · exact hk.elim
theorem Yp {ops:Array Oper} (l:List Oper) (zq:List aQ) (e:Env) (ah:AH) (K:Env→AH→Prop) (F:Nat→Prop) (γ:List Nat) (C:Nat→List Value) (ts:Array Value) (w:World)
 (Q:Exit→Act→World→Prop) (hc:kz P ops l=some (zq.map aQ.er)) (hd:lP N zq=true) (hs:SR L N F γ C e ah ts w) (hk:eC P L zq e ah K)
 (hq:∀e' aH γ' C' ts' w',K e' aH→γ <+: γ'→SR L N F γ' C' e' aH ts' w'→Ext F C w C' w'→Q .normal ⟨ts',[]⟩ w'):wpList P ops Q l ⟨ts,[]⟩ w:=
 Ub l.length l zq e ah K F γ C ts w Q (Nat.le_refl _) hc hd hs hk hq
end
end Go.Am
end
section
namespace Go.Am
open Go
variable [Tabs]
section
variable {P:Program} {ops:Array Oper} {Q:Exit→Act→World→Prop} {md:Region.Mode} {S:World→Prop} {D:Nat→Bool}
def wpS (P:Program) (ops:Array Oper) (Q:Exit→Act→World→Prop) (S:World→Prop) (D:Nat→Bool):Nat→Array Bool→Act→World→Prop
 |0,listed,a,w=>Region.ready .any ops listed=[]∧Q .normal a w
 |n+1,listed,a,w=>(Region.ready .any ops listed=[]→Q .normal a w)∧
  ∀i∈Region.ready .any ops listed,wpOp P ops Q i (fun a' w'=>(D i=false→S w')∧wpS P ops Q S D n (listed.setIfInBounds i true) a' w') a w
theorem wpS.any:∀ {n:Nat} {listed:Array Bool} {a:Act} {w:World},wpS P ops Q S D n listed a w→wpAny P .any ops Q n listed a w
 |0,_,_,_,h=>h
 |_+1,_,_,_,h=>⟨h.1,fun i hi=>wpOp_mono (fun _ _ h'=>h'.2.any) (h.2 i hi)⟩
theorem wpS.mono {S':World→Prop} (hS:∀w,S' w→S w):∀ {n:Nat} {listed:Array Bool} {a:Act} {w:World},wpS P ops Q S' D n listed a w→wpS P ops Q S D n listed a w
 |0,_,_,_,h=>h
 |_+1,_,_,_,h=>⟨h.1,fun i hi=>wpOp_mono (fun _ _ h'=>⟨fun hd=>hS _ (h'.1 hd),h'.2.mono hS⟩) (h.2 i hi)⟩
theorem iD {listed:Array Bool} {i j:Nat} (h:(listed.setIfInBounds i true).getD j true=false):listed.getD j true=false:=by
 by_cases hij:i=j
 · subst hij
   by_cases hlt:i<listed.size
   · simp [hlt] at h
   · simp [Array.getElem?_eq_none (Nat.le_of_not_lt hlt)] at h
 · rwa [getD_set_ne true hij] at h
theorem C5:∀ {n:Nat} {listed:Array Bool} {a:Act} {w:World},(∀j,listed.getD j true=false→D j=true)→wpAny P .any ops Q n listed a w→wpS P ops Q S D n listed a w
 |0,_,_,_,_,h=>h
 |_+1,listed,_,_,hD,h=>⟨h.1,fun i hi=>wpOp_mono (fun _ _ h'=>⟨fun hd=>Bool.noConfusion ((hD i (mem_ready.1 hi).1).symm.trans hd),C5 (fun j hj=>hD j (iD hj)) h'⟩) (h.2 i hi)⟩
theorem MC {i:Nat} {oi:Oper} {v:Value} (hi:ops[i]? =some oi) (hsel:∀(j:Nat) (o:Oper) cs b,ops[j]? =some o→o.op≠ .select cs b)
 (hQ:∀c a w,¬Q (.panic c) a w) (W:Nat→Prop):
 ∀(n:Nat) (listed:Array Bool) (a:Act) (w:World),
  (∀j oj,ops[j]? =some oj→j≠i→listed.getD j true=false→(∀e∈oj.after,Region.binds .any e=true→e.on≠i)→oi.apart ops oj=true)→
  (∀j,W j→listed.getD j true=false∧∃oj,ops[j]? =some oj∧∃e∈oj.after,Region.binds .any e=true∧(e.on=i∨W e.on))→(∀j,j<ops.size→D j=true→listed.getD j true=false→W j)→
  i∈Region.ready .any ops listed→YieldsIf P ops S oi v a→S w→
  wpS P ops Q S D n (listed.setIfInBounds i true) (a.put oi.dst v) w→wpS P ops Q S D (n+1) listed a w:=by
 intro n
 induction n with
 |zero=>
  intro listed a w _ _ _ hr hy hS H
  refine ⟨fun h=>(by rw [h] at hr;cases hr),fun j hj=> ?_⟩
  by_cases hji:j=i
  · subst hji;exact hy.wpOp hi hS ⟨fun _=>hS,H⟩
  · have:=ready_mono hj hji
    rw [H.1] at this
    cases this
 |succ n ih=>
  intro listed a w hfree wz hDW hr hy hS H
  refine ⟨fun h=>(by rw [h] at hr;cases hr),fun j hj=> ?_⟩
  by_cases hji:j=i
  · subst hji;exact hy.wpOp hi hS ⟨fun _=>hS,H⟩
  · have h1:=H.2 j (ready_mono hj hji)
    obtain ⟨aaf,oj,MD,hall⟩:=mem_ready.1 hj
    have hun:∀k,listed.getD k true=false→listed.getD k false=false:=fun k hk=>by
     rcases Nat.lt_or_ge k listed.size with h'|h'
     · simp [h'] at hk ⊢;exact hk
     · simp [Array.getElem?_eq_none h'] at hk
    have hnot:∀e∈oj.after,Region.binds .any e=true→listed.getD e.on true=false→False:=fun e he hb hu=>by
     have h1:=hall e he hb
     rw [hun _ hu] at h1
     cases h1
    have hni:∀e∈oj.after,Region.binds .any e=true→e.on≠i:=fun e he hb heq=>hnot e he hb (by rw [heq];exact (mem_ready.1 hr).1)
    have hWj:¬W j:=by
     intro hw
     obtain ⟨-,oj',Pv,e,he,hb,h0⟩:=wz j hw
     rw [MD] at Pv
     injection Pv with Pv
     subst Pv
     rcases h0 with h0|h0
     · exact hni e he hb h0
     · exact hnot e he hb (wz _ h0).1
    have hDj:D j=false:=by
     cases hd:D j with
     |false=>rfl
     |true=>exact absurd (hDW j (Array.getElem?_eq_some_iff.1 MD).1 hd aaf) hWj
    have h2:=wpOp_putIf MD (hfree j oj MD hji aaf hni) (fun cs b=>hsel i oi cs b hi) (fun cs b=>hsel j oj cs b MD) (fun c a w hq=>(hQ c _ w hq).elim) hy h1
    refine wpOp_mono (fun a' w' h3=> ?_) h2
    have hS':=h3.2.1 hDj
    refine ⟨fun _=>hS',ih (listed.setIfInBounds j true) a' w' ?_ ?_ ?_ (ready_mono hr (Ne.symm hji)) h3.1 hS' ?_⟩
    · exact fun k ok hk hki hku hno=>hfree k ok hk hki (iD hku) hno
    · intro k hk
      obtain ⟨h5,h6⟩:=wz k hk
      refine ⟨?_,h6⟩
      rw [getD_set_ne true (fun h7=>hWj (by rw [h7];exact hk))]
      exact h5
    · exact fun k hk hd hku=>hDW k hk hd (iD hku)
    · rw [Array.setIfInBounds_comm _ _ hji]
      exact h3.2.2
end
section
variable {P:Program} {L:List Nat} {N n0:Nat} {F:Nat→Prop} {γ:List Nat} {C C':Nat→List Value} {e:Env} {ah:AH} {ts:Array Value} {w w':World} {m:Bool}
variable {e':Env} {aH:AH} {ops:Array Oper} {Q:Exit→Act→World→Prop}
theorem KA.trans {γ':List Nat} {w2:World} (hg:∀(s b:Nat),γ[s]? =some b→γ'[s]? =some b) (hC:∀b,C b <+: C' b) (h:KA m γ C w w') (h':KA m γ' C' w' w2):KA m γ C w w2:=
 ⟨fun b i hi=>(h'.1 b i (Nat.lt_of_lt_of_le hi (hC b).length_le)).trans (h.1 b i hi),fun hm s b hs=>(h'.2 hm s b (hg s b hs)).trans (h.2 hm s b hs)⟩
theorem Ud {γ γ':List Nat} (h:γ <+: γ') {s b:Nat} (hs:γ[s]? =some b):γ'[s]? =some b:=by
 obtain ⟨q,rfl⟩:=h
 rw [List.getElem?_append_left (List.getElem?_eq_some_iff.1 hs).1];exact hs
theorem KA.H7 {e ah ts e' aH ts'} {γ':List Nat} (h:SR L N F γ C e ah ts w) (h':SR L N F γ' C' e' aH ts' w') (hx:Ext F C w C' w')
 (ho:m=true→∀(s b:Nat),γ[s]? =some b→w'.heap[b]? =w.heap[b]?):KA m γ C w w':=by
 refine ⟨fun b i hi=> ?_,ho⟩
 rw [pR h hi,pR h' (Nat.lt_of_lt_of_le hi (hx.pre b).length_le),ic (hx.pre b) hi]
theorem BV (a:Act) (d:Option Nat) (v:Value) (h:a.defers=[]):a.put d v=⟨(a.put d v).tmps,[]⟩:=by
 obtain ⟨ts,ds⟩:=a
 simp only at h
 subst h
 cases d<;>rfl
theorem Kc {o:Oper} {i:Nat} {op:fI} {g:Option (Nat×Bool)} {zq:List aQ} {K:Env→AH→Prop} {R:Act→World→Prop} (hi:ops[i]? =some o) (hop:dw P m o=some op.er) (hg:hO ops o.guard=some g)
 (jX:∀x,o.dst=some x→x<N) (hs:SR L N F γ C e ah ts w) (hk:eC P L (⟨o.dst,op,g⟩::zq) e ah K)
 (next:∀v e' aH γ' C' w',eC P L zq e' aH K→γ <+: γ'→SR L N F γ' C' e' aH ((⟨ts,[]⟩:Act).put o.dst v).tmps w'→Ext F C w C' w'→(Hf P m o=true→KA m γ C w w')→R ((⟨ts,[]⟩:Act).put o.dst v) w'):
 wpOp P ops Q i R ⟨ts,[]⟩ w:=by
 unfold wpOp
 simp only [hi]
 simp only [eC] at hk
 split at hk
 · rename_i uq
   rw [if_pos (iO hs hg uq)]
   refine .inl ?_
   by_cases eV:op.pE=true
   · cases op with
     |call f wv=>
      have hop:cop P o=some (.call f wv):=by
       cases m with
       |true=>simpa [dw,fI.er] using hop
       |false=>
        simp only [dw,Bool.false_eq_true,if_false,Option.map_eq_some_iff] at hop
        obtain ⟨op',h1,h2⟩:=hop
        rw [h1,Hr h2]
      simp only [Az] at hk
      split at hk
      case h_2=>exact hk.elim
      rename_i f' caps hfv
      obtain ⟨hfl,hk⟩:=hk
      obtain ⟨x,args,tys,ho,hx,hargs⟩:=BT hop
      have h1:=bW (ds:=[]) hs hx
      rw [hfv] at h1
      obtain ⟨vs,Uc,hcl,pF⟩:=h1.1.D5
      obtain ⟨c1,c2⟩:=Ht hs _ _ _ hargs
      have Ew:=J7 (d:=o.dst) (ds:=[]) (vs:=args.map (Act.eval ⟨ts,[]⟩)++vs) hs jX hk (by simp [c1,hcl]) (Eu hs hfl hcl pF c1 c2)
      have MB:(execOp (Act.eval ⟨ts,[]⟩) o).run P w= .ok (.enter f' (args.map (Act.eval ⟨ts,[]⟩)++vs)) w:=by
       rw [ho];exact Et hk.1 Uc
      unfold Oper.wp
      rw [MB]
      simp only [Oper.upon]
      refine Ew.mono ?_
      rintro en w1 ⟨r,v,b7,γ1,C1,rfl,hR,hγ,hs1,hx1⟩
      refine next v _ b7 γ1 C1 w1 hR hγ hs1 hx1 fun hst=>KA.H7 hs hs1 hx1 fun hm=> ?_
      rw [ho] at hst
      simp [Hf,dQ,ia,Aj,hm] at hst
     |lW k b x y=>
      simp only [Az] at hk
      obtain ⟨e1,b7,hk',v,w1,γ1,C1,hr,hγ,hs1,hx1,hst, -⟩:=Hp (ds:=[]) hs jX hop hk
      have nx:=next v e1 b7 γ1 C1 w1 hk' hγ hs1 hx1 fun h=>KA.H7 hs hs1 hx1 fun hm=>by
       refine hst ?_
       obtain ⟨_,_,_,_,_,_,ho, -⟩:=Er (BS hop)
       rw [ho] at h
       simp [Hf,dQ,ia,hm] at h
      unfold Oper.wp
      rcases hr with hr|⟨hr,rfl⟩<;>rw [hr]<;>exact nx
     |nq n x=>
      simp only [Az] at hk
      obtain ⟨e1,b7,hk',v,w1,γ1,C1,hr,hγ,hs1,hx1,hst, -⟩:=HY (ds:=[]) hs jX hop hk
      have nx:=next v e1 b7 γ1 C1 w1 hk' hγ hs1 hx1 fun h=>KA.H7 hs hs1 hx1 fun hm=>by
       refine hst ?_
       obtain ⟨_,_,_,_,_,ho, -⟩:=Pr (J4 hop)
       rw [ho];rfl
      unfold Oper.wp
      rcases hr with hr|⟨hr,rfl⟩<;>rw [hr]<;>exact nx
     |_=>cases eV
   · have rL:op.pE=false:=by simpa using eV
     have hk':match bN L ⟨o.dst,op,g⟩ e ah with|some (e',aH)=>eC P L zq e' aH K|none=>False:=by
      cases op<;>first|exact hk|cases rL
     rw [wq] at hk'
     cases hev:bN L ⟨o.dst,op,none⟩ e ah with
     |none=>rw [hev] at hk';exact hk'.elim
     |some ea=>
      obtain ⟨e1,b7⟩:=ea
      rw [hev] at hk'
      obtain ⟨v,w1,γ1,C1,hr,hγ,hs1,hx1,hst, -⟩:=J6 (ds:=[]) hs jX hop rL hev
      have nx:=next v e1 b7 γ1 C1 w1 hk' hγ hs1 hx1 fun h=>KA.H7 hs hs1 hx1 fun hm=>by
       refine hst ?_
       cases HW:ia o.op with
       |false=>rfl
       |true=>
        exfalso
        cases ho:o.op with
        |call c=>
         rw [ho] at HW
         obtain ⟨ce,_,_⟩:=c
         cases ce with
         |builtin b=>cases b<;>simp [ia] at HW;simp [Hf,dQ,ia,ho,hm] at h
         |_=>simp [ia] at HW
        |store a b c=>simp [Hf,dQ,ia,ho,hm] at h
        |_=>rw [ho] at HW;simp [ia] at HW
      unfold Oper.wp
      rcases hr with hr|⟨hr,rfl⟩<;>rw [hr]<;>exact nx
 · rename_i uq
   have hw:=iO hs hg uq
   rw [if_neg (by rw [hw];simp)]
   refine next undef _ ah γ C w hk (List.prefix_refl _) ?_ (Ext.refl ..) fun _=>KA.refl ..
   cases ho:o.dst with
   |none=>exact hs
   |some d=>exact hs.CZ (jX d ho) (.bK _ [] #[] rfl (by simp)) (by simp [undef,TC]) rfl (by simp)
 · exact hk.elim
theorem QC {o:Oper} {op:fI} {g:Option (Nat×Bool)} {zq:List aQ} {K:Env→AH→Prop} (hq:dQ P o.op=true) (hop:dw P m o=some op.er) (hg:hO ops o.guard=some g)
 (jX:∀x,o.dst=some x→x<N) (hs:SR L N F γ C e ah ts w) (hk:eC P L (⟨o.dst,op,g⟩::zq) e ah K):
 ∃v e' aH,YieldsIf P ops (KA m γ C w) o v ⟨ts,[]⟩∧eC P L zq e' aH K∧SR L N F γ C e' aH ((⟨ts,[]⟩:Act).put o.dst v).tmps w:=by
 simp only [eC] at hk
 split at hk
 · rename_i uq
   have hw:=iO hs hg uq
   by_cases hnq:∃n x,op= .nq n x
   · obtain ⟨n,x,rfl⟩:=hnq
     simp only [Az] at hk
     obtain ⟨e1,b7,hk',v,w1,γ1,C1,hr,hγ,hs1,hx1,hst,Yq⟩:=HY (ds:=[]) hs jX hop hk
     obtain ⟨rfl,rfl,rfl,hrun⟩:=Yq hq
     exact ⟨v,e1,b7, .inl ⟨hw,hrun⟩,hk',hs1⟩
   have rL:op.pE=false:=by
    cases op with
    |call f wv=>
     exfalso
     have hop:cop P o=some (.call f wv):=by
      cases m with
      |true=>simpa [dw,fI.er] using hop
      |false=>
       simp only [dw,Bool.false_eq_true,if_false,Option.map_eq_some_iff] at hop
       obtain ⟨op',h1,h2⟩:=hop
       rw [h1,Hr h2]
     obtain ⟨x,args,tys,ho, -, -⟩:=BT hop
     rw [ho] at hq
     simp [dQ] at hq
    |lW k b x y=>
     exfalso
     obtain ⟨_,_,_,_,_,_,ho, -⟩:=Er (BS hop)
     rw [ho] at hq
     simp [dQ] at hq
    |nq n x=>exact absurd ⟨_,_,rfl⟩ hnq
    |_=>rfl
   have hk':match bN L ⟨o.dst,op,g⟩ e ah with|some (e',aH)=>eC P L zq e' aH K|none=>False:=by
    cases op<;>first|exact hk|cases rL
   rw [wq] at hk'
   cases hev:bN L ⟨o.dst,op,none⟩ e ah with
   |none=>rw [hev] at hk';exact hk'.elim
   |some ea=>
    obtain ⟨e1,b7⟩:=ea
    rw [hev] at hk'
    obtain ⟨v,w1,γ1,C1,hr,hγ,hs1,hx1,hst,Yq⟩:=J6 (ds:=[]) hs jX hop rL hev
    obtain ⟨rfl,rfl,rfl,hrun⟩:=Yq hq
    exact ⟨v,e1,b7, .inl ⟨hw,hrun⟩,hk',hs1⟩
 · rename_i uq
   refine ⟨undef,_,ah, .inr ⟨iO hs hg uq,rfl⟩,hk, ?_⟩
   cases ho:o.dst with
   |none=>exact hs
   |some d=>exact hs.CZ (jX d ho) (.bK _ [] #[] rfl (by simp)) (by simp [undef,TC]) rfl (by simp)
 · exact hk.elim
theorem ME:∀(l r:List (Bool×Nat)) (zq:List aQ),fO P ops (l++r)=some zq→∃a1 a2,fO P ops l=some a1∧fO P ops r=some a2∧zq=a1++a2:=by
 intro l
 induction l with
 |nil=>intro r zq h;exact ⟨[],zq,rfl,h,rfl⟩
 |cons p l ih=>
  intro r zq h
  obtain ⟨m,i⟩:=p
  simp only [List.cons_append,fO] at h
  split at h
  case h_2=>cases h
  rename_i o ho
  split at h
  case h_2=>cases h
  rename_i a g zq' h1 h2 h3
  injection h with h
  obtain ⟨a1,a2,g1,g2,rfl⟩:=ih r zq' h3
  exact ⟨⟨o.dst,a,g⟩::a1,a2,by simp [fO,ho,h1,h2,g1],g2,by rw [←h];rfl⟩
theorem Kd (l r:List (Bool×Nat)) (zq:List aQ) (h:fO P ops (l++r)=some (zq.map aQ.er)):∃a1 a2,fO P ops l=some (a1.map aQ.er)∧fO P ops r=some (a2.map aQ.er)∧zq=a1++a2:=by
 obtain ⟨b1,b2,h1,h2,h3⟩:=ME _ _ _ h
 obtain ⟨a1,a2,rfl,rfl,rfl⟩:=List.map_eq_append_iff.1 h3
 exact ⟨a1,a2,h1,h2,rfl⟩
theorem QD:∀(l r:List aQ) (e:Env) (ah:AH) (K:Env→AH→Prop),eC P L (l++r) e ah K=eC P L l e ah fun e ah=>eC P L r e ah K:=by
 intro l
 induction l with
 |nil=>intros;rfl
 |cons o l ih=>
  intro r e ah K
  simp only [List.cons_append,eC,ih]
theorem Ue:∀(l r:List aQ),lP N (l++r)=true→lP N l=true∧lP N r=true:=by
 intro l
 induction l with
 |nil=>intro r h;exact ⟨rfl,h⟩
 |cons o l ih=>
  intro r h
  simp only [List.cons_append,lP,Bool.and_eq_true] at h ⊢
  obtain ⟨h1,h2⟩:=ih r h.2
  exact ⟨⟨h.1,h1⟩,h2⟩
theorem Pw {o:Oper} {a:fI} {g:Option (Nat×Bool)} {zq:List aQ} (h:lP N (⟨o.dst,a,g⟩::zq)=true):(∀x,o.dst=some x→x<N)∧lP N zq=true:=by
 simp only [lP,Bool.and_eq_true] at h
 refine ⟨fun x hx=> ?_,h.2⟩
 have:=h.1.1
 rw [hx] at this
 simpa using this
theorem C6 {i:Nat} {r:List (Bool×Nat)} {zq:List aQ} (h:fO P ops ((m,i)::r)=some zq):
 ∃o a g zq',ops[i]? =some o∧dw P m o=some a∧hO ops o.guard=some g∧fO P ops r=some zq'∧zq=⟨o.dst,a,g⟩::zq':=by
 simp only [fO] at h
 split at h
 case h_2=>cases h
 rename_i o ho
 split at h
 case h_2=>cases h
 rename_i a g zq' h1 h2 h3
 injection h with h
 exact ⟨o,a,g,zq',ho,h1,h2,h3,h.symm⟩
theorem AA {i:Nat} {r:List (Bool×Nat)} {zq:List aQ} (h:fO P ops ((m,i)::r)=some (zq.map aQ.er)):
 ∃o a g zq',ops[i]? =some o∧dw P m o=some (fI.er a)∧hO ops o.guard=some g∧fO P ops r=some (zq'.map aQ.er)∧zq=⟨o.dst,a,g⟩::zq':=by
 obtain ⟨o,a,g,zq',h1,h2,h3,h4,h5⟩:=C6 h
 cases zq with
 |nil=>simp at h5
 |cons x xs=>
  simp only [List.map_cons,List.cons.injEq] at h5
  obtain ⟨d,op',g'⟩:=x
  obtain ⟨h6,h7⟩:=h5
  simp only [aQ.er] at h6
  injection h6 with e1 e2 e3
  subst e1;subst e2;subst e3
  exact ⟨o,op',g',xs,h1,h2,h3,by rw [h4,h7],rfl⟩
theorem QE {D:Nat→Bool} (hsel:Region.noSelect ops=true) (hQ:∀c a w,¬Q (.panic c) a w):∀(l:List Nat) (zq:List aQ) (e:Env) (ah:AH) (γ:List Nat) (C:Nat→List Value) (ts:Array Value) (w:World) (listed:Array Bool) (n:Nat)
 (K:Env→AH→Prop),fO P ops (l.map fun i=>(m,i))=some (zq.map aQ.er)→lP N zq=true→SR L N F γ C e ah ts w→eC P L zq e ah K→vW P ops m D l listed=true→
 (∀e' aH γ' C' ts' w',K e' aH→γ <+: γ'→SR L N F γ' C' e' aH ts' w'→Ext F C w C' w'→wpS P ops Q (KA m γ' C' w') D n (l.foldl (fun a i=>a.setIfInBounds i true) listed) ⟨ts',[]⟩ w')→
 wpS P ops Q (KA m γ C w) D (l.length+n) listed ⟨ts,[]⟩ w:=by
 intro l
 induction l with
 |nil=>
  intro zq e ah γ C ts w listed n K hc hd hs hk hst cont
  simp only [List.map_nil,fO,Option.some.injEq] at hc
  obtain rfl:zq=[]:=by simpa using hc.symm
  have:=cont e ah γ C ts w hk (List.prefix_refl _) hs (Ext.refl ..)
  simpa using this
 |cons i l ih=>
  intro zq e ah γ C ts w listed n K hc hd hs hk hst cont
  obtain ⟨o,a,g,zq',ho,hop,hg,has,rfl⟩:=AA hc
  obtain ⟨jX,hd'⟩:=Pw hd
  simp only [vW,ho,Bool.and_eq_true,Bool.or_eq_true] at hst
  obtain ⟨hst,Ex⟩:=hst
  have hlen:(i::l).length+n=(l.length+n)+1:=by simp;omega
  rw [hlen]
  rcases hst with ⟨⟨⟨⟨hq,hDi⟩,hr⟩,hfree⟩,wz⟩|⟨hok,hr⟩
  · obtain ⟨v,e1,b7,hy,BP,hs1⟩:=QC hq hop hg jX hs hk
    refine MC ho (Region.noSelect_spec hsel) hQ (fun j=>j∈JR ops i) _ listed _ w (Region.free_spec ho hfree) (fun j hj=> ?_) (fun j hj hDj hju=> ?_) (by simpa using hr) hy (KA.refl ..) ?_
    · simp only [HJ,HI,Bool.and_eq_true,List.all_eq_true] at wz
      obtain ⟨h1,h2⟩:=wz.1 j hj
      refine ⟨by simpa using h1, ?_⟩
      split at h2
      · rename_i oj MD
        obtain ⟨x,hx,hb⟩:=Array.any_eq_true'.1 h2
        simp only [Bool.and_eq_true,Bool.or_eq_true,beq_iff_eq,List.contains_iff_mem] at hb
        exact ⟨oj,MD,x,hx,hb.1,hb.2⟩
      · cases h2
    · simp only [HJ,HI,Bool.and_eq_true,List.all_eq_true,List.mem_range] at wz
      have:=wz.2 j hj
      simpa [hDj,hju] using this
    · rw [BV _ _ _ rfl]
      exact ih zq' e1 b7 γ C _ w _ n K has hd' hs1 BP Ex cont
  · have hr:Region.ready .any ops listed=[i]:=by simpa using hr
    refine ⟨fun h=>(by rw [hr] at h;cases h),fun j hj=> ?_⟩
    rw [hr] at hj
    obtain rfl:j=i:=by simpa using hj
    refine Kc ho hop hg jX hs hk fun v e1 b7 γ1 C1 w1 BP hγ hs1 hx1 hka=>⟨fun _=>hka hok, ?_⟩
    rw [BV _ _ _ rfl]
    refine (ih zq' e1 b7 γ1 C1 _ w1 _ n K has hd' hs1 BP Ex fun e' aH γ' C' ts' w' g1 g2 g3 g4=> ?_).mono fun w2 h2=>(hka hok).trans (fun s b hs=>Ud hγ hs) hx1.pre h2
    exact cont e' aH γ' C' ts' w' g1 (hγ.trans g2) g3 (hx1.trans g4)
theorem Gb:∀(l:List Nat) (listed:Array Bool) (j:Nat),(l.foldl (fun a i=>a.setIfInBounds i true) listed).getD j true=false→listed.getD j true=false∧j∉l:=by
 intro l
 induction l with
 |nil=>intro listed j h;exact ⟨h,by simp⟩
 |cons i l ih=>
  intro listed j h
  obtain ⟨h1,h2⟩:=ih _ j h
  refine ⟨iD h1, ?_⟩
  rw [List.mem_cons,not_or]
  refine ⟨fun hj=> ?_,h2⟩
  subst hj
  by_cases hlt:j<listed.size
  · simp [hlt] at h1
  · have:=iD h1
    simp [Array.getElem?_eq_none (Nat.le_of_not_lt hlt)] at this
theorem MF (hsel:Region.noSelect ops=true) (hQ:∀c a w,¬Q (.panic c) a w):∀(st:List (Bool×List Nat)) (zq:List aQ) (e:Env) (ah:AH) (γ:List Nat) (C:Nat→List Value) (ts:Array Value) (w:World) (listed:Array Bool)
 (K:Env→AH→Prop),fO P ops (sI st)=some (zq.map aQ.er)→lP N zq=true→SR L N F γ C e ah ts w→eC P L zq e ah K→pQ P ops st listed=true→
 (∀e' aH γ' C' ts' w',K e' aH→γ <+: γ'→SR L N F γ' C' e' aH ts' w'→Ext F C w C' w'→Q .normal ⟨ts',[]⟩ w')→
 wpAny P .any ops Q (sI st).length listed ⟨ts,[]⟩ w:=by
 intro st
 induction st with
 |nil=>
  intro zq e ah γ C ts w listed K hc hd hs hk hst cont
  simp only [sI,fO,Option.some.injEq] at hc
  obtain rfl:zq=[]:=by simpa using hc.symm
  exact ⟨by simpa [pQ] using hst,cont e ah γ C ts w hk (List.prefix_refl _) hs (Ext.refl ..)⟩
 |cons s st ih=>
  intro zq e ah γ C ts w listed K hc hd hs hk hst cont
  obtain ⟨m,l⟩:=s
  simp only [sI] at hc ⊢
  obtain ⟨a1,a2,hc1,hc2,rfl⟩:=Kd _ _ _ hc
  obtain ⟨hd1,Dm⟩:=Ue _ _ hd
  rw [QD] at hk
  unfold pQ at hst
  rw [Bool.and_eq_true] at hst
  obtain ⟨hst,Ex⟩:=hst
  have key:∀(Q':Nat→Bool),vW P ops m Q' l listed=true→(∀j,Q' j= !l.contains j)→wpAny P .any ops Q (l.map (fun i=>(m,i))++sI st).length listed ⟨ts,[]⟩ w:=by
   intro D ads hD
   rw [List.length_append,List.length_map]
   refine (QE hsel hQ l a1 e ah γ C ts w listed _ _ hc1 hd1 hs hk ads fun e' aH γ' C' ts' w' g1 g2 g3 g4=> ?_).any
   refine C5 (fun j hj=> ?_) (ih a2 e' aH γ' C' ts' w' _ K hc2 Dm g3 g1 Ex fun e2 qY γ2 C2 MA w2 q1 q2 q3 q4=>cont e2 qY γ2 C2 MA w2 q1 (g2.trans q2) q3 (g4.trans q4))
   rw [hD]
   simpa using (Gb l listed j hj).2
  split at hst
  · rename_i i
    simp only [Bool.and_eq_true,beq_iff_eq] at hst
    obtain ⟨rfl,hr⟩:=hst
    obtain ⟨o,a,g,zq',ho,hop,hg,has,rfl⟩:=AA hc1
    simp only [List.map_nil,fO,Option.some.injEq] at has
    obtain rfl:zq'=[]:=by simpa using has.symm
    obtain ⟨jX, -⟩:=Pw hd1
    refine ⟨fun h=>(by rw [hr] at h;cases h),fun j hj=> ?_⟩
    rw [hr] at hj
    obtain rfl:j=i:=by simpa using hj
    refine Kc ho hop hg jX hs hk fun v e1 b7 γ1 C1 w1 BP hγ hs1 hx1 hka=> ?_
    rw [BV _ _ _ rfl]
    exact ih a2 e1 b7 γ1 C1 _ w1 _ K hc2 Dm hs1 BP Ex fun e2 qY γ2 C2 MA w2 q1 q2 q3 q4=>cont e2 qY γ2 C2 MA w2 q1 (hγ.trans q2) q3 (hx1.trans q4)
  · exact key _ hst fun _=>rfl
theorem QF {st:List (Bool×List Nat)} (h:sched P ops=some st):pQ P ops st (Array.replicate ops.size false)=true∧(sI st).length=ops.size:=by
 have:Al P ops st=true:=by
  unfold sched at h
  split at h
  · rename_i s hs
    injection h with h;subst h
    exact (Option.filter_eq_some_iff.1 hs).2
  · exact (Option.filter_eq_some_iff.1 h).2
 simpa [Al] using this
theorem AW.drawn {id:Nat} {st:List (Bool×List Nat)} {zq:List aQ} {Q:Exit→Env→AH→Prop} (hm:P.follows .mixedOrders=true) (hsel:Region.noSelect ops=true) (hst:sched P ops=some st) (hc:fO P ops (sI st)=some (zq.map aQ.er))
 (hd:lP N zq=true) (h:eC P L zq e ah fun e ah=>Q .normal (keep L e) ah):AW P L N n0 (.region id ops true) Q e ah:=by
 intro F γ C ts w hs hn
 obtain ⟨h1,h2⟩:=QF hst
 refine wp_mono (Q:=fun x a' w'=>x= .normal∧a'.defers=[]∧NG x∧∃e' aH γ' C',Q x e' aH∧γ.take n0 <+: γ'∧SR L N F γ' C' e' aH a'.tmps w'∧Ext F C w C' w') ?_ (fun _ _ _ h=>h.2)
 refine wp_region_any hm ?_
 have hw0:∀b,b<w.heap.size→({w with drawn:=w.drawn+1}:World).heap[b]? =w.heap[b]? :=fun _ _=>rfl
 obtain ⟨hs1,hx1⟩:=hs.grow (w':= {w with drawn:=w.drawn+1}) (C':=C) hw0 (Nat.le_refl _) (fun _ _=>rfl) (fun b hb hne=>absurd (wj hs hb) hne)
 have lE:=fun q=>MF (Q:=fun x a' w'=>x= .normal∧a'.defers=[]∧NG x∧∃e' aH γ' C',Q x e' aH∧γ.take n0 <+: γ'∧SR L N F γ' C' e' aH a'.tmps w'∧Ext F C w C' w') hsel (fun c a w hq=>by cases hq.1) st zq e ah γ C ts _ _ _ hc hd hs1 h h1 q
 rw [h2] at lE
 refine lE fun e' aH γ' C' ts' w' q1 q2 q3 q4=> ?_
 exact ⟨rfl,rfl,trivial,keep L e',aH,γ',C',q1,Hs q2,q3.keep L,hx1.trans q4⟩
end
end Go.Am
end
section
namespace Go.Am
open Go
variable [Tabs]
def qZ (N:Nat):aD→Bool
 | .rg ops=>lP N ops
 | .seq a b| .cond _ a b=>qZ N a&&qZ N b
 | .blk _ c| .loop c=>qZ N c
 |_=>true
def AX (P:Program) (L:List Nat) (N n0:Nat) (c:aD) (Q:Exit→Env→AH→Prop) (e:Env) (ah:AH):Prop:=
 ∀c',bQ P c'=some c→AW P L N n0 c' Q e ah
def kj (P:Program) (L:List Nat) (N n0:Nat):aD→(Exit→Env→AH→Prop)→Env→AH→Prop
 | .skip,Q,e,ah=>Q .normal e ah
 | .ret,Q,e,ah=>Q .ret e ah
 | .exit i,Q,e,ah=>Q (.exit i) e ah
 | .rg ops,Q,e,ah=>eC P L ops e ah fun e ah=>Q .normal (keep L e) ah
 | .seq a b,Q,e,ah=>kj P L N n0 a (fun x e ah=>match x with| .normal=>kj P L N n0 b Q e ah|x=>Q x e ah) e ah
 | .cond c a b,Q,e,ah=>match ev e c with
   | .bool t=>if t then kj P L N n0 a Q e ah else kj P L N n0 b Q e ah
   |_=>False
 | .blk i c,Q,e,ah=>kj P L N n0 c (fun x e ah=>match x with| .exit j=>if j=i then Q .normal e ah else Q (.exit j) e ah|x=>Q x e ah) e ah
 | .loop c,Q,e,ah=>AX P L N n0 (.loop c) Q e ah
 | .sem c,Q,e,ah=>AX P L N n0 c Q e ah
section
variable {P:Program} {L:List Nat} {N n0:Nat} {e:Env} {ah:AH}
theorem AW.region {id:Nat} {ops:Array Oper} {zq:List aQ} {Q:Exit→Env→AH→Prop} (hc:kz P ops ops.toList=some (zq.map aQ.er)) (hd:lP N zq=true)
 (h:eC P L zq e ah fun e ah=>Q .normal (keep L e) ah):AW P L N n0 (.region id ops false) Q e ah:=by
 intro F γ C ts w hs hn
 refine wp_region_list (Yp ops.toList zq e ah _ F γ C ts w _ hc hd hs h ?_)
 intro e' aH γ' C' ts' w' hq hγ hs' hx
 exact ⟨rfl,trivial,keep L e',aH,γ',C',hq,Hs hγ,hs'.keep L,hx⟩
theorem pS:∀(c':Code) (c:aD) (Q:Exit→Env→AH→Prop) (e:Env) (ah:AH),bQ P c'=some (erase c)→qZ N (erase c)=true→kj P L N n0 c Q e ah→AW P L N n0 c' Q e ah:=by
 intro c'
 induction c' with
 |skip=>
  intro c Q e ah hc ho h
  cases c with
  |sem c0=>exact h _ hc
  |skip=>exact AW.skip h
  |_=>simp [bQ,erase] at hc
 |label l=>
  intro c Q e ah hc ho h
  cases c with
  |sem c0=>exact h _ hc
  |skip=>exact AW.label h
  |_=>simp [bQ,erase] at hc
 |ret=>
  intro c Q e ah hc ho h
  cases c with
  |sem c0=>exact h _ hc
  |ret=>exact AW.ret h
  |_=>simp [bQ,erase] at hc
 |exit i=>
  intro c Q e ah hc ho h
  cases c with
  |sem c0=>exact h _ hc
  |exit j=>simp [bQ,erase] at hc;subst hc;exact AW.exit h
  |_=>simp [bQ,erase] at hc
 |region id ops draw=>
  intro c Q e ah hc ho h
  cases c with
  |sem c0=>exact h _ hc
  |rg zq=>
   simp only [bQ,erase] at hc
   cases draw with
   |true=>
    simp only [if_true] at hc
    split at hc
    case isFalse=>cases hc
    rename_i hmn
    simp only [Bool.and_eq_true] at hmn
    split at hc
    case h_2=>cases hc
    rename_i st hst
    simp only [Option.map_eq_some_iff] at hc
    obtain ⟨zq',has,he⟩:=hc
    injection he with he
    subst he
    exact AW.drawn hmn.1 hmn.2 hst has (by simpa only [erase,qZ,Pt] using ho) h
   |false=>
    simp only [Bool.false_eq_true,if_false,Option.map_eq_some_iff] at hc
    obtain ⟨zq',has,he⟩:=hc
    injection he with he
    subst he
    exact AW.region has (by simpa only [erase,qZ,Pt] using ho) h
  |_=>simp only [bQ,erase] at hc;repeat' (split at hc)<;>simp at hc
 |seq a b Ey Ez=>
  intro c Q e ah hc ho h
  cases c with
  |sem c0=>exact h _ hc
  |seq x y=>
   simp only [bQ,erase] at hc
   split at hc
   case h_2=>cases hc
   rename_i a' b' ha hb
   injection hc with hc
   injection hc with h1 h2
   subst h1;subst h2
   simp only [erase,qZ,Bool.and_eq_true] at ho
   refine AW.seq ((Ey x _ e ah ha ho.1 h).mono fun x e ah hx=> ?_)
   cases x with
   |normal=>exact Ez y _ e ah hb ho.2 hx
   |_=>exact hx
  |_=>simp only [bQ,erase] at hc;split at hc<;>simp at hc
 |cond c0 a b Ey Ez=>
  intro c Q e ah hc ho h
  cases c with
  |sem c0=>exact h _ hc
  |cond c2 x y=>
   simp only [bQ,erase] at hc
   split at hc
   case h_2=>cases hc
   rename_i c1 a' b' h1 ha hb
   injection hc with hc
   injection hc with g0 g1 g2
   subst g0;subst g1;subst g2
   simp only [erase,qZ,Bool.and_eq_true] at ho
   simp only [kj] at h
   split at h
   case h_2=>exact h.elim
   rename_i t ht
   refine AW.cond h1 ht ?_
   cases t with
   |true=>exact Ey x Q e ah ha ho.1 h
   |false=>exact Ez y Q e ah hb ho.2 h
  |_=>simp only [bQ,erase] at hc;split at hc<;>simp at hc
 |block i c0 ih=>
  intro c Q e ah hc ho h
  cases c with
  |sem c0=>exact h _ hc
  |blk j x=>
   simp only [bQ,erase,Option.map_eq_some_iff] at hc
   obtain ⟨a,ha,he⟩:=hc
   injection he with h1 h2
   subst h1;subst h2
   exact AW.blk (ih x _ e ah ha ho h)
  |_=>simp [bQ,erase] at hc
 |loop c0 ih=>
  intro c Q e ah hc ho h
  cases c with
  |sem c0=>exact h _ hc
  |loop x=>exact h _ hc
  |_=>simp [bQ,erase] at hc
 |rangeFunc=>intro c Q e ah hc;simp [bQ] at hc
 |goto=>intro c Q e ah hc;simp [bQ] at hc
 |scope c0 ih=>intro c Q e ah hc ho h;exact AW.scope (ih c Q e ah hc ho h)
 |refuse=>intro c Q e ah hc;simp [bQ] at hc
theorem BW {o:Oper} {x:Ar} (h:cop P o=some (.uT x)):False:=by
 obtain ⟨d,oo,ty,pos,af,gd⟩:=o
 cases oo with
 |makeFunc fn first cs=>
  cases fn with
  |func f=>simp only [cop] at h;split at h<;>simp at h
  |_=>simp [cop] at h
 |call c=>
  obtain ⟨callee,args,tys⟩:=c
  simp only [cop] at h
  (repeat' (split at h))<;>(first|(cases h;done)|(simp at h;done))
 |_=>
  simp only [cop] at h
  first
   |cases h;done
   |(simp at h;done)
   |(repeat' (split at h))<;>(first|(cases h;done)|(simp at h;done))
theorem yV {o:Oper} {k b:Nat} {x y:Ar} (h:cop P o=some (.lW k b x y)):False:=by
 obtain ⟨d,oo,ty,pos,af,gd⟩:=o
 cases oo with
 |makeFunc fn first cs=>
  cases fn with
  |func f=>simp only [cop] at h;split at h<;>simp at h
  |_=>simp [cop] at h
 |call c=>
  obtain ⟨callee,args,tys⟩:=c
  simp only [cop] at h
  (repeat' (split at h))<;>(first|(cases h;done)|(simp at h;done))
 |_=>
  simp only [cop] at h
  first
   |cases h;done
   |(simp at h;done)
   |(repeat' (split at h))<;>(first|(cases h;done)|(simp at h;done))
theorem BX {o:Oper} {k:Nat} {x:Ar} (h:cop P o=some (.BN k x)):False:=by
 obtain ⟨d,oo,ty,pos,af,gd⟩:=o
 cases oo with
 |makeFunc fn first cs=>
  cases fn with
  |func f=>simp only [cop] at h;split at h<;>simp at h
  |_=>simp [cop] at h
 |call c=>
  obtain ⟨callee,args,tys⟩:=c
  simp only [cop] at h
  (repeat' (split at h))<;>(first|(cases h;done)|(simp at h;done))
 |_=>
  simp only [cop] at h
  first
   |cases h;done
   |(simp at h;done)
   |(repeat' (split at h))<;>(first|(cases h;done)|(simp at h;done))
theorem yW {o:Oper} {k:Nat} {x:List Ar} (h:cop P o=some (.lU k x)):False:=by
 obtain ⟨d,oo,ty,pos,af,gd⟩:=o
 cases oo with
 |makeFunc fn first cs=>
  cases fn with
  |func f=>simp only [cop] at h;split at h<;>simp at h
  |_=>simp [cop] at h
 |call c=>
  obtain ⟨callee,args,tys⟩:=c
  simp only [cop] at h
  (repeat' (split at h))<;>(first|(cases h;done)|(simp at h;done))
 |_=>
  simp only [cop] at h
  first
   |cases h;done
   |(simp at h;done)
   |(repeat' (split at h))<;>(first|(cases h;done)|(simp at h;done))
theorem Yr {o:Oper} {op:fI} (h:cop P o=some op):op.er=op:=by
 cases op with
 |uT x=>exact (BW h).elim
 |lW=>exact (yV h).elim
 |BN=>exact (BX h).elim
 |lU=>exact (yW h).elim
 |_=>rfl
theorem Uf {m:Bool} {o:Oper} {op:fI} (h:dw P m o=some op):op.er=op:=by
 cases op with
 |uT x=>
  exfalso
  cases m with
  |true=>exact BW (by simpa [dw] using h)
  |false=>
   simp only [dw,Bool.false_eq_true,if_false,Option.map_eq_some_iff] at h
   obtain ⟨op',h1,h2⟩:=h
   cases op' with
   |dV hh y=>cases hh<;>cases h2
   |ld y n=>cases h2
   |uT y=>exact BW h1
   |_=>cases h2
 |lW=>
  exfalso
  cases m with
  |true=>exact yV (by simpa [dw] using h)
  |false=>
   simp only [dw,Bool.false_eq_true,if_false,Option.map_eq_some_iff] at h
   obtain ⟨op',h1,h2⟩:=h
   cases op' with
   |dV hh y=>cases hh<;>cases h2
   |ld y n=>cases h2
   |lW=>exact yV h1
   |_=>cases h2
 |BN=>
  exfalso
  cases m with
  |true=>exact BX (by simpa [dw] using h)
  |false=>
   simp only [dw,Bool.false_eq_true,if_false,Option.map_eq_some_iff] at h
   obtain ⟨op',h1,h2⟩:=h
   cases op' with
   |dV hh y=>cases hh<;>cases h2
   |ld y n=>cases h2
   |BN=>exact BX h1
   |_=>cases h2
 |lU=>
  exfalso
  cases m with
  |true=>exact yW (by simpa [dw] using h)
  |false=>
   simp only [dw,Bool.false_eq_true,if_false,Option.map_eq_some_iff] at h
   obtain ⟨op',h1,h2⟩:=h
   cases op' with
   |dV hh y=>cases hh<;>cases h2
   |ld y n=>cases h2
   |lU=>exact yW h1
   |_=>cases h2
 |_=>rfl
theorem Ug {ops:Array Oper}:∀(n:Nat) (l:List Oper) (zq:List aQ),l.length≤n→kz P ops l=some zq→zq.map aQ.er=zq:=by
 intro n
 induction n with
 |zero=>
  intro l zq hn h
  obtain rfl:l=[]:=List.eq_nil_of_length_eq_zero (by omega)
  simp only [kz,Option.some.injEq] at h;subst h;rfl
 |succ n ih=>
  intro l zq hn h
  rcases C4 h with ⟨rfl,rfl⟩|⟨o,o2,r,a,zq',rfl,h2,h3,rfl⟩|⟨o,o2,r,ag,zq',rfl,h2,h3,rfl⟩|⟨o,r,op,g,zq',rfl,h2,h3,h4,rfl⟩
  · rfl
  · obtain ⟨y,bs,hl⟩:=Ev h2
    obtain ⟨d,op,g⟩:=a
    simp only at hl;subst hl
    simp only [List.map_cons,ih r zq' (by simp at hn;omega) h3];rfl
  · obtain ⟨d,y,bs,t,w,g,rfl, -⟩:=BU h2
    simp only [List.cons_append,List.nil_append,List.map_cons,ih r zq' (by simp at hn;omega) h3];rfl
  · have he:op.er=op:=by
     rcases h2 with h2|rfl
     · exact Yr h2
     · rfl
    simp only [List.map_cons,ih r zq' (by simp at hn;omega) h4,aQ.er,he]
theorem QG {ops:Array Oper}:∀(l:List (Bool×Nat)) (zq:List aQ),fO P ops l=some zq→zq.map aQ.er=zq:=by
 intro l
 induction l with
 |nil=>intro zq h;simp only [fO,Option.some.injEq] at h;subst h;rfl
 |cons p r ih=>
  intro zq h
  obtain ⟨m,i⟩:=p
  obtain ⟨o,a,g,zq',h1,h2,h3,h4,rfl⟩:=C6 h
  simp only [List.map_cons,ih zq' h4,aQ.er,Uf h2]
theorem jJ:∀(c':Code) (c:aD),bQ P c'=some c→erase c=c:=by
 intro c'
 induction c' with
 |skip=>intro c hc;simp [bQ] at hc;subst hc;rfl
 |label l=>intro c hc;simp [bQ] at hc;subst hc;rfl
 |ret=>intro c hc;simp [bQ] at hc;subst hc;rfl
 |exit i=>intro c hc;simp [bQ] at hc;subst hc;rfl
 |region id ops draw=>
  intro c hc
  simp only [bQ] at hc
  cases draw with
  |true=>
   simp only [if_true] at hc
   split at hc
   · split at hc
     · simp only [Option.map_eq_some_iff] at hc;obtain ⟨zq,has,rfl⟩:=hc;simp only [erase,QG _ _ has]
     · cases hc
   · cases hc
  |false=>simp only [Bool.false_eq_true,if_false,Option.map_eq_some_iff] at hc;obtain ⟨zq,has,rfl⟩:=hc;simp only [erase,Ug _ _ _ (Nat.le_refl _) has]
 |seq a b Ey Ez=>
  intro c hc
  simp only [bQ] at hc
  split at hc
  case h_2=>cases hc
  rename_i a' b' ha hb
  injection hc with hc
  subst hc
  simp only [erase,Ey _ ha,Ez _ hb]
 |cond c0 a b Ey Ez=>
  intro c hc
  simp only [bQ] at hc
  split at hc
  case h_2=>cases hc
  rename_i c1 a' b' h1 ha hb
  injection hc with hc
  subst hc
  simp only [erase,Ey _ ha,Ez _ hb]
 |block i c0 ih=>intro c hc;simp only [bQ,Option.map_eq_some_iff] at hc;obtain ⟨a,ha,rfl⟩:=hc;simp only [erase,ih _ ha]
 |loop c0 ih=>intro c hc;simp only [bQ,Option.map_eq_some_iff] at hc;obtain ⟨a,ha,rfl⟩:=hc;rfl
 |rangeFunc=>intro c hc;simp [bQ] at hc
 |goto=>intro c hc;simp [bQ] at hc
 |scope c0 ih=>intro c hc;exact ih c hc
 |refuse=>intro c hc;simp [bQ] at hc
inductive It where
 |ops (r:List aQ)
 |keep
 |code (c:aD)
 |blk (i:Nat)
def U (P:Program) (L:List Nat) (N n0:Nat):List It→(Exit→Env→AH→Prop)→Exit→Env→AH→Prop
 |[],Q,x,e,ah=>Q x e ah
 | .code c::t,Q, .normal,e,ah=>kj P L N n0 c (fun x e ah=>U P L N n0 t Q x e ah) e ah
 | .ops r::t,Q, .normal,e,ah=>eC P L r e ah fun e ah=>U P L N n0 t Q .normal e ah
 | .keep::t,Q, .normal,e,ah=>U P L N n0 t Q .normal (keep L e) ah
 | .blk i::t,Q, .exit j,e,ah=>if j=i then U P L N n0 t Q .normal e ah else U P L N n0 t Q (.exit j) e ah
 | .blk _::t,Q,x,e,ah=>U P L N n0 t Q x e ah
 | .code _::t,Q,x,e,ah=>U P L N n0 t Q x e ah
 | .ops _::t,Q,x,e,ah=>U P L N n0 t Q x e ah
 | .keep::t,Q,x,e,ah=>U P L N n0 t Q x e ah
def UK (P:Program) (L:List Nat) (N n0 f:Nat) (zq:List AV) (d:Option Nat) (r:List aQ) (t:List It) (Q:Exit→Env→AH→Prop) (e:Env) (ah:AH):Prop:=
 aG P f zq ah fun v aH=>U P L N n0 (.ops r::t) Q .normal (aI L (wu e) d v.df) aH
def UF (P:Program) (L:List Nat) (N n0:Nat) (zq:List Ar) (d:Option Nat) (r:List aQ) (t:List It) (Q:Exit→Env→AH→Prop) (e:Env) (ah:AH):AV→Prop
 | .fn f caps=>if b5 caps then UK P L N n0 f (zq.map (fun x=>(ev e x).sh)++caps.map AV.s1) d r t Q e ah else False
 |_=>False
def US (P:Program) (L:List Nat) (N n0:Nat) (r:List aQ) (t:List It) (Q:Exit→Env→AH→Prop):Option (Env×AH)→Prop
 |some (e,ah)=>U P L N n0 (.ops r::t) Q .normal e ah
 |none=>False
def UG (P:Program) (L:List Nat) (N n0:Nat) (o:aQ) (r:List aQ) (t:List It) (Q:Exit→Env→AH→Prop) (e:Env) (ah:AH):Option Bool→Prop
 |some true=>match o.op with
  | .call f zq=>UF P L N n0 zq o.d r t Q e ah (ev e f)
  | .lW k b x y=>pV L o.d k b x y e ah fun e ah=>U P L N n0 (.ops r::t) Q .normal e ah
  | .nq n x=>Ee L o.d n x e ah fun e ah=>U P L N n0 (.ops r::t) Q .normal e ah
  |_=>US P L N n0 r t Q (bN L o e ah)
 |some false=>U P L N n0 (.ops r::t) Q .normal (p9 e o.d) ah
 |none=>False
def UC (P:Program) (L:List Nat) (N n0:Nat) (a b:aD) (t:List It) (Q:Exit→Env→AH→Prop) (e:Env) (ah:AH):AV→Prop
 | .bool true=>U P L N n0 (.code a::t) Q .normal e ah
 | .bool false=>U P L N n0 (.code b::t) Q .normal e ah
 |_=>False
def UX (P:Program) (L:List Nat) (N n0:Nat) (c:aD) (t:List It) (Q:Exit→Env→AH→Prop) (e:Env) (ah:AH):Prop:=
 AX P L N n0 c (fun x e ah=>U P L N n0 t Q x e ah) e ah
variable {t:List It} {Q:Exit→Env→AH→Prop} {x:Exit}
@[simp] theorem aaQ:U P L N n0 [] Q x e ah=Q x e ah:=rfl
@[simp] theorem Ys:U P L N n0 (.code .skip::t) Q .normal e ah=U P L N n0 t Q .normal e ah:=rfl
@[simp] theorem aaR:U P L N n0 (.code .ret::t) Q .normal e ah=U P L N n0 t Q .ret e ah:=rfl
@[simp] theorem Yt {i:Nat}:U P L N n0 (.code (.exit i)::t) Q .normal e ah=U P L N n0 t Q (.exit i) e ah:=rfl
theorem Uh (b:aD):(fun x e ah=>match x with| .normal=>kj P L N n0 b (fun x e ah=>U P L N n0 t Q x e ah) e ah|x=>U P L N n0 t Q x e ah)=fun x e ah=>U P L N n0 (.code b::t) Q x e ah:=by
 funext x e ah
 cases x<;>rfl
@[simp] theorem aaS {a b:aD}:U P L N n0 (.code (.seq a b)::t) Q .normal e ah=U P L N n0 (.code a:: .code b::t) Q .normal e ah:=by
  simp only [U,kj]
  exact congrArg (fun K=>kj P L N n0 a K e ah) (Uh b)
@[simp] theorem aaT {i:Nat} {c:aD}:U P L N n0 (.code (.blk i c)::t) Q .normal e ah=U P L N n0 (.code c:: .blk i::t) Q .normal e ah:=by
  have:(fun x e ah=>match x with| .exit j=>if j=i then U P L N n0 t Q .normal e ah else U P L N n0 t Q (.exit j) e ah|x=>U P L N n0 t Q x e ah)=fun x e ah=>U P L N n0 (.blk i::t) Q x e ah:=by
   funext x e ah
   cases x<;>rfl
  exact congrArg (fun K=>kj P L N n0 c K e ah) this
@[simp] theorem adt {ops:List aQ}:U P L N n0 (.code (.rg ops)::t) Q .normal e ah=U P L N n0 (.ops ops:: .keep::t) Q .normal e ah:=rfl
@[simp] theorem Yu {c:aD}:U P L N n0 (.code (.loop c)::t) Q .normal e ah=UX P L N n0 (.loop c) t Q e ah:=rfl
@[simp] theorem aaU {c:aD}:U P L N n0 (.code (.sem c)::t) Q .normal e ah=UX P L N n0 c t Q e ah:=rfl
@[simp] theorem Yv {c:Ar} {a b:aD}:U P L N n0 (.code (.cond c a b)::t) Q .normal e ah=UC P L N n0 a b t Q e ah (ev e c):=by
  simp only [U,kj]
  cases ev e c with
  |bool t=>cases t<;>rfl
  |_=>rfl
@[simp] theorem Yw:U P L N n0 (.keep::t) Q .normal e ah=U P L N n0 t Q .normal (keep L e) ah:=rfl
@[simp] theorem Ui {i:Nat}:U P L N n0 (.blk i::t) Q .normal e ah=U P L N n0 t Q .normal e ah:=rfl
@[simp] theorem Uj {i:Nat}:U P L N n0 (.blk i::t) Q .ret e ah=U P L N n0 t Q .ret e ah:=rfl
@[simp] theorem Uk {i j:Nat}:U P L N n0 (.blk i::t) Q (.exit j) e ah=if j=i then U P L N n0 t Q .normal e ah else U P L N n0 t Q (.exit j) e ah:=rfl
@[simp] theorem QH {c:aD}:U P L N n0 (.code c::t) Q .ret e ah=U P L N n0 t Q .ret e ah:=by cases c<;>rfl
@[simp] theorem QI {c:aD} {j:Nat}:U P L N n0 (.code c::t) Q (.exit j) e ah=U P L N n0 t Q (.exit j) e ah:=by cases c<;>rfl
@[simp] theorem MG:U P L N n0 (.ops []::t) Q .normal e ah=U P L N n0 t Q .normal e ah:=rfl
@[simp] theorem aaV {o:aQ} {r:List aQ}:U P L N n0 (.ops (o::r)::t) Q .normal e ah=UG P L N n0 o r t Q e ah (gK e o):=by
  simp only [U,eC]
  cases gK e o with
  |none=>rfl
  |some b=>
   cases b with
   |false=>rfl
   |true=>
    obtain ⟨d,op,g⟩:=o
    cases op with
    |call f zq=>
     simp only [Az,UG]
     cases ev e f with
     |fn f' caps=>
      simp only [UF,UK]
      by_cases hf:b5 caps=true
      · simp only [hf,if_true,true_and];rfl
      · simp [hf]
     |_=>rfl
    |lW k b x y=>rfl
    |nq n x=>rfl
    |_=>
     simp only [Az,UG,US]
     cases bN L ⟨d,_,g⟩ e ah with
     |none=>rfl
     |some ea=>obtain ⟨e',aH⟩:=ea;rfl
@[simp] theorem Ul {r:List aQ} {e':Env} {aH:AH}:US P L N n0 r t Q (some (e',aH))=U P L N n0 (.ops r::t) Q .normal e' aH:=rfl
@[simp] theorem QJ {o:aQ} {r:List aQ}:UG P L N n0 o r t Q e ah (some false)=U P L N n0 (.ops r::t) Q .normal (p9 e o.d) ah:=rfl
@[simp] theorem Um {a b:aD}:UC P L N n0 a b t Q e ah (.bool true)=U P L N n0 (.code a::t) Q .normal e ah:=rfl
@[simp] theorem QK {a b:aD}:UC P L N n0 a b t Q e ah (.bool false)=U P L N n0 (.code b::t) Q .normal e ah:=rfl
@[simp] theorem aaW {zq:List Ar} {d:Option Nat} {r:List aQ} {f:Nat} {caps:List AV}:UF P L N n0 zq d r t Q e ah (.fn f caps)=
 if b5 caps then UK P L N n0 f (zq.map (fun x=>(ev e x).sh)++caps.map AV.s1) d r t Q e ah else False:=rfl
theorem ac2 {a b:aD} {v:Bool} (h1:v=true→U P L N n0 (.code a::t) Q .normal e ah) (h2:v=false→U P L N n0 (.code b::t) Q .normal e ah):UC P L N n0 a b t Q e ah (.bool v):=by
 cases v
 · exact h2 rfl
 · exact h1 rfl
theorem afj {f:Nat} {zq:List AV} {d:Option Nat} {r:List aQ} {R:AV→AH→Prop} (h:aG P f zq ah R) (hk:∀v aH,R v aH→U P L N n0 (.ops r::t) Q .normal (aI L (wu e) d v.df) aH):
 UK P L N n0 f zq d r t Q e ah:=h.mono hk
theorem adu {c:aD} (I:Nat→Env→AH→Prop) {k0:Nat} (ho:qZ N c=true)
 (round:∀k e ah,I k e ah→U P L N n0 [.code c] (fun x e' aH=>match x with| .normal=>∃k',k'<k∧I k' e' aH|x=>U P L N n0 t Q x e' aH) .normal e ah) (h0:I k0 e ah):
 UX P L N n0 (.loop c) t Q e ah:=by
 intro c'
 induction c' with
 |loop c0 _=>
  intro cj
  simp only [bQ,Option.map_eq_some_iff] at cj
  obtain ⟨a,ha,he⟩:=cj
  injection he with he
  subst he
  exact AW.loop I (fun k e ah hI=>pS c0 a _ e ah (by rw [jJ c0 a ha];exact ha) (by rw [jJ c0 a ha];exact ho) (round k e ah hI)) h0
 |scope c0 ih=>exact fun cj=>AW.scope (ih cj)
 |region id ops draw=>intro cj;simp only [bQ] at cj;repeat' (split at cj)<;>simp at cj
 |block i c0=>intro cj;simp only [bQ,Option.map_eq_some_iff] at cj;obtain ⟨a, -,h⟩:=cj;cases h
 |seq a b=>intro cj;simp only [bQ] at cj;split at cj<;>simp at cj
 |cond a b c=>intro cj;simp only [bQ] at cj;split at cj<;>simp at cj
 |_=>intro cj;simp [bQ] at cj
end
end Go.Am
end
section
namespace Go.Am
open Go
variable [Tabs]
def AV.eR:AV→Bool
 | .bK _=>true
 |_=>false
def gN (P:Program) (e:Env) (ah:AH):List ResultVar→Option (List AV)
 |[]=>some []
 | .tmp t::r=>if (get e t).eR then none else match gN P e ah r with
   |some vs=>some (get e t::vs)
   |none=>none
 | .cell a ty::r=>if tok P ty then
  match get e a with
  | .ptr s o=>match ah[s]? with
    |some cs=>match lZ (tn P ty) s o cs,gN P e ah r with
     |some v,some vs=>some (v.sh::vs)
     |_,_=>none
    |none=>none
  |_=>none
   else none
def fin:List AV→AV
 |[a]=>a.df
 |l=> .bK (l.map AV.sh)
inductive Cl (n:Nat):AV→Prop
 |ptr (s o):s<n→Cl n (.ptr s o)
 |fn (f cs):(∀a∈cs,Cl n a)→Cl n (.fn f cs)
 |agg (cs):(∀a∈cs,Cl n a)→Cl n (.agg cs)
 |bK (cs):(∀a∈cs,Cl n a)→Cl n (.bK cs)
 |v (x):Cl n (.v x)
 |int (k i):Cl n (.int k i)
 |bool (b):Cl n (.bool b)
 |str (l):Cl n (.str l)
 |sl (t k xs):Cl n (.sl t k xs)
 |ep (e o):(∀a∈e.cells,Cl n a)→Cl n (.ep e o)
 |cI (s k o m):s<n→Cl n (.cI s k o m)
 |pY (s k):Cl n (.cu s k 0 0)
 |cu (s k m c):s<n→Cl n (.cu s k m c)
 |dU:Cl n .dU
 |un:Cl n .un
@[simp] theorem Yx {n s k o m:Nat}:Cl n (.cI s k o m)↔s<n:=⟨fun h=>by cases h;assumption, .cI _ _ _ _⟩
@[simp] theorem ae3 {n:Nat}:Cl n .dU:= .dU
@[simp] theorem Yy {n s o:Nat}:Cl n (.ptr s o)↔s<n:=⟨fun h=>by cases h;assumption, .ptr _ _⟩
@[simp] theorem aaX {n f:Nat} {cs:List AV}:Cl n (.fn f cs)↔∀a∈cs,Cl n a:=⟨fun h=>by cases h;assumption, .fn _ _⟩
@[simp] theorem Yz {n:Nat} {cs:List AV}:Cl n (.agg cs)↔∀a∈cs,Cl n a:=⟨fun h=>by cases h;assumption, .agg _⟩
@[simp] theorem YA {n:Nat} {cs:List AV}:Cl n (.bK cs)↔∀a∈cs,Cl n a:=⟨fun h=>by cases h;assumption, .bK _⟩
@[simp] theorem afG {n:Nat} {x:Value}:Cl n (.v x):= .v _
@[simp] theorem ae4 {n:Nat} {k:IntKind} {i:Int}:Cl n (.int k i):= .int ..
@[simp] theorem adv {n:Nat} {b:Bool}:Cl n (.bool b):= .bool _
@[simp] theorem ae5 {n:Nat} {l:List UInt8}:Cl n (.str l):= .str _
@[simp] theorem afk {n:Nat} {t:Tg} {k:Nat} {xs:List AV}:Cl n (.sl t k xs):= .sl ..
@[simp] theorem aaY {n:Nat} {e:AV} {o:Nat}:Cl n (.ep e o)↔∀a∈e.cells,Cl n a:=⟨fun h=>by cases h;assumption, .ep _ _⟩
@[simp] theorem afH {n:Nat}:Cl n .un:= .un
def mY (n:Nat) (ah:AH):Prop:=∀(s:Nat) (cs:List AV),ah[s]? =some cs→∀a∈cs,Cl n a
def MH (P:Program) (n:Nat) (rs:List ResultVar) (R:AV→AH→Prop) (x:Exit) (e:Env) (ah:AH):Prop:=
 (x= .normal∨x= .ret)∧match gN P e ah rs with
  |some vs=>Cl n (fin vs)∧mY n (ah.take n)∧n≤ah.length∧R (fin vs) (ah.take n)
  |none=>False
section
variable {P:Program} {L:List Nat} {N n0:Nat} {F:Nat→Prop} {γ:List Nat} {C C':Nat→List Value} {e:Env} {ah:AH} {ts:Array Value} {w w':World}
theorem VR.take {a:AV} {v:Value} {n:Nat} (h:VR C γ a v):Cl n a→VR C (γ.take n) a v:=by
 induction h with
 |v _ _ hs=>intro _;exact .v _ _ hs
 |un=>intro _;exact .un ..
 |int=>intro _;exact .int ..
 |bool=>intro _;exact .bool ..
 |str=>intro _;exact .str ..
 |ptr _ s o b hb=>intro hn;exact .ptr _ _ _ _ (by rw [List.getElem?_take_of_lt (Yy.1 hn)];exact hb)
 |cI _ s k o n b c hb hn'=>intro hn;exact .cI _ _ _ _ _ _ _ (by rw [List.getElem?_take_of_lt (Yx.1 hn)];exact hb) hn'
 |pY=>intro _;exact .pY ..
 |cu _ s k n b c hb hn'=>
  intro hn
  cases hn with
  |pY=>exact .pY ..
  |cu _ _ _ _ hs=>exact .cu _ _ _ _ _ _ (by rw [List.getElem?_take_of_lt hs];exact hb) hn'
 |dU=>intro _;exact .dU ..
 |sJ=>intro _;exact .sJ ..
 |sl _ _ _ _ b o n c hn' hc hk hl ho hx=>intro _;exact .sl _ _ _ _ _ _ _ _ hn' hc hk hl ho hx
 |ep _ _ _ b p hl hx ih=>intro hn;exact .ep _ _ _ _ _ hl fun j a hj=>ih j a hj (aaY.1 hn a (List.mem_of_getElem? hj))
 |agg _ cs vs hl hx ih=>intro hn;exact .agg _ _ _ hl fun i a hi=>ih i a hi (Yz.1 hn a (List.mem_of_getElem? hi))
 |bK _ cs vs hl hx ih=>intro hn;exact .bK _ _ _ hl fun i a hi=>ih i a hi (YA.1 hn a (List.mem_of_getElem? hi))
 |fn _ f cs vs hl hx ih=>intro hn;exact .fn _ _ _ _ hl fun i a hi=>ih i a hi (aaX.1 hn a (List.mem_of_getElem? hi))
theorem VR.cl {a:AV} {v:Value} (h:VR C γ a v):Cl γ.length a:=by
 have mem:∀ {cs:List AV} {a:AV},a∈cs→∃i:Nat,cs[i]? =some a:=fun ha=>by
  obtain ⟨i,hi,rfl⟩:=List.getElem_of_mem ha;exact ⟨i,List.getElem?_eq_getElem hi⟩
 induction h with
 |ptr _ s o b hb=>exact .ptr _ _ (List.getElem?_eq_some_iff.1 hb).1
 |agg _ cs vs hl hx ih=>exact .agg _ fun a ha=>by obtain ⟨i,hi⟩:=mem ha;exact ih i a hi
 |bK _ cs vs hl hx ih=>exact .bK _ fun a ha=>by obtain ⟨i,hi⟩:=mem ha;exact ih i a hi
 |fn _ f cs vs hl hx ih=>exact .fn _ _ fun a ha=>by obtain ⟨i,hi⟩:=mem ha;exact ih i a hi
 |cI _ s k o n b c hb _=>exact .cI _ _ _ _ (List.getElem?_eq_some_iff.1 hb).1
 |pY=>exact .pY ..
 |cu _ s k n b c hb _=>exact .cu _ _ _ _ (List.getElem?_eq_some_iff.1 hb).1
 |dU=>exact .dU
 |v=>exact .v _
 |un=>exact .un
 |int=>exact .int ..
 |bool=>exact .bool _
 |str=>exact .str _
 |sJ=>exact .sl ..
 |sl=>exact .sl ..
 |ep _ _ _ b p hl hx ih=>exact .ep _ _ fun a ha=>by obtain ⟨i,hi⟩:=mem ha;exact ih i a hi
theorem MI (h:SR L N F γ C e ah ts w) {a s o:Nat} {ty:TypeId} (ht:tok P ty=true) (hp:get e a= .ptr s o) {cs:List AV} (hs:ah[s]? =some cs) {v:AV} (hl:lZ (tn P ty) s o cs=some v):
 ∃u ad,ts.getD a undef= .pointer (some ad)∧(loadVar ty ad).run P w= .ok u w∧VR C γ v.sh u∧TC w C v.sh u:=by
 have hv:=(h.env a).1
 rw [hp] at hv
 obtain ⟨b,hb,hv⟩:=hv.gM
 obtain ⟨vs,tv,hh,hsz,hcell⟩:=h.mem.obj s b cs hs hb
 have v7:=di hh
 cases hn:tn P ty with
 |some n=>
  simp only [hn,lZ] at hl
  split at hl
  case isFalse=>cases hl
  rename_i hq
  obtain ⟨hq,hfl⟩:=hq
  injection hl with hl
  subst hl
  obtain ⟨r,hr,hrs,hrc⟩:=(run_load (w:=w) ht (b:=b) (o:=o)).1 n hn (fun j hj=>by
   rw [v7];exact ⟨_,Array.getElem?_eq_getElem (by omega)⟩)
  obtain rfl:r=vs.extract o (o+n):=by
   apply Array.ext_getElem?
   intro j
   by_cases hj:j<n
   · rw [hrc j hj,v7,Array.getElem?_extract,if_pos (by omega)]
   · rw [Array.getElem?_eq_none (by omega),Array.getElem?_eq_none (by simp;omega)]
  refine ⟨_,_,hv,hr, ?_, ?_⟩
  · exact (Wk.sh _).vr ((Wk.pz _ Wk.bS _).vr (Ej hsz (fun i a hi=>(hcell i a hi).1) hq))
  · exact (Wk.sh _).tc ((Wk.pz _ Wk.bS _).tc (vZ hsz (fun i a hi hin=>Ap (hcell _ a hi).2 (jG hfl (i:=i) (by rw [List.getElem?_take_of_lt hin,List.getElem?_drop];exact hi))) hq))
 |none=>
  simp only [hn,lZ] at hl
  have v8:∀c,cs[o]? =some c→w.cell? ⟨b,o,none⟩=some (vs.getD o undef):=by
   intro c jH
   have hlt:o<vs.size:=Nat.lt_of_lt_of_le (List.getElem?_eq_some_iff.1 jH).1 hsz
   rw [v7];simp [Array.getD_eq_getD_getElem?,Array.getElem?_eq_getElem hlt]
  split at hl
  · rename_i k xs jH
    injection hl with hl
    subst hl
    have hr:=(run_load (w:=w) ht (b:=b) (o:=o)).2 _ hn (v8 _ jH)
    exact ⟨_,_,hv,hr,(hcell o _ jH).1.kg _,by simp only [AV.sh,AV.bS,Tg.sh];cases (vs.getD o undef)<;>trivial⟩
  · rename_i c hno jH
    split at hl
    case isFalse=>cases hl
    rename_i hfl
    injection hl with hl
    subst hl
    have hr:=(run_load (w:=w) ht (b:=b) (o:=o)).2 _ hn (v8 _ jH)
    refine ⟨_,_,hv,hr, ?_, ?_⟩
    · exact (Wk.sh _).vr ((Wk.iU (Wk.bS c)).vr (hcell o _ jH).1)
    · exact (Wk.sh _).tc (D7 (Ap (hcell o _ jH).2 hfl))
  · cases hl
theorem YB (h:SR L N F γ C e ah ts w):∀(rs:List ResultVar) (vs:List AV),gN P e ah rs=some vs→
 ∃us:List Value,(rs.mapM fun| .tmp t=>pure (ts.getD t undef)| .cell a t=>do loadVar t (←asAddr (ts.getD a undef)):Sem (List Value)).run P w= .ok us w∧us.length=vs.length∧
  (∀(i:Nat) (a:AV),vs[i]? =some a→VR C γ a (us.getD i undef)∧TC w C a (us.getD i undef))∧
  (∀(i:Nat) (a:AV) (b:Nat),vs[i]? =some a→bR a (us.getD i undef)=some b→∃t,blk γ e ah ts w (.tmp t) b)∧∀(i:Nat) (a:AV),vs[i]? =some a→a.eR=false:=by
 intro rs
 induction rs with
 |nil=>intro vs hr;simp [gN] at hr;subst hr;exact ⟨[],rfl,rfl,by simp,by simp,by simp⟩
 |cons r rs ih=>
  intro vs hr
  cases r with
  |tmp t=>
   simp only [gN] at hr
   split at hr
   case isTrue=>cases hr
   rename_i hnt
   split at hr
   case h_2=>cases hr
   rename_i vs' hvs
   injection hr with hr
   subst hr
   obtain ⟨us,h1,h2,h3,h4,h5⟩:=ih vs' hvs
   refine ⟨ts.getD t undef::us, ?_,by simp [h2],fun i a hi=> ?_,fun i a b hi hb=> ?_,fun i a hi=>by
    cases i with
    |zero=>simp at hi;subst hi;simpa using hnt
    |succ i=>exact h5 i a (by simpa using hi)⟩
   · simp only [List.mapM_cons,Sem.run_bind,Sem.run_pure,Result.andThen_ok,h1]
   · cases i with
     |zero=>simp at hi;subst hi;exact h.env t
     |succ i=>exact h3 i a (by simpa using hi)
   · cases i with
     |zero=>simp at hi;subst hi;exact ⟨t,hb⟩
     |succ i=>exact h4 i a b (by simpa using hi) hb
  |cell a ty=>
   simp only [gN] at hr
   split at hr
   case isFalse=>cases hr
   rename_i ht
   split at hr
   case h_2=>cases hr
   rename_i s o hp
   split at hr
   case h_2=>cases hr
   rename_i cs hs
   split at hr
   case h_2=>cases hr
   rename_i v vs' hv hvs
   injection hr with hr
   subst hr
   obtain ⟨us,h1,h2,h3,h4,h5⟩:=ih vs' hvs
   obtain ⟨u,ad,g1,g2,g3,g4⟩:=MI (P:=P) h ht hp hs hv
   have hnt:v.sh.eR=false:=by
    unfold lZ at hv
    split at hv
    · split at hv<;>simp at hv;subst hv;rfl
    · split at hv
      · injection hv with hv;subst hv;rfl
      · split at hv<;>simp at hv
        rename_i c _ _ hf
        subst hv
        cases c<;>first|rfl|cases hf
      · cases hv
   refine ⟨u::us, ?_,by simp [h2],fun i a hi=> ?_,fun i a b hi hb=> ?_,fun i a hi=>by
    cases i with
    |zero=>simp at hi;subst hi;exact hnt
    |succ i=>exact h5 i a (by simpa using hi)⟩
   · have hA:(asAddr (ts.getD a undef)).run P w= .ok ad w:=by rw [g1];rfl
     simp only [List.mapM_cons,Sem.run_bind,hA,Sem.run_pure,Result.andThen_ok,g2,h1]
   · cases i with
     |zero=>simp at hi;subst hi;exact ⟨g3,g4⟩
     |succ i=>exact h3 i a (by simpa using hi)
   · cases i with
     |zero=>simp at hi;subst hi;rw [iN _ (ie (tq v))] at hb;cases hb
     |succ i=>exact h4 i a b (by simpa using hi) hb
def aag (P:Program) (n0:Nat) (rs:List ResultVar) (R:AV→AH→Prop) (x:Exit) (e:Env) (ah:AH):Prop:=
 (∃m,n0≤m∧MH P m rs R x e ah)∨((x= .normal∨x= .ret)∧match gN P e ah rs with
  |some vs=>R (fin vs) ah
  |none=>False)
theorem aG.Px {f:Nat} {fn:Func} {c:Code} {ac:aD} {args:List AV} {R:AV→AH→Prop} (L:List Nat) (hf:P.funcs[f]? =some fn) (hname:fn.name≠ "runtime.NumGoroutine") (hb:fn.body=some c)
 (hc:bQ P c=some ac) (ho:qZ fn.ntmps ac=true) (hN:args.length≤fn.ntmps)
 (h:mY ah.length ah→(∀a∈args,∀s o,a= .ptr s o→s<ah.length)→AX P L fn.ntmps ah.length ac (aag P ah.length fn.results.toList R) (fo 0 args) ah):aG P f args ah R:=by
 refine ⟨by simp [jI,hf,hb,hname],fun F γ C w vs hs=> ?_⟩
 have hlen:=hs.mem.len
 have hcl:mY ah.length ah:=by
  intro s cs Ke
  have hlt:s<γ.length:=by rw [hlen];exact (List.getElem?_eq_some_iff.1 Ke).1
  obtain ⟨us,ty, -,hsz,hcell⟩:=hs.mem.obj s _ cs Ke (List.getElem?_eq_getElem hlt)
  intro a ha
  obtain ⟨i,hi,rfl⟩:=List.getElem_of_mem ha
  rw [←hlen]
  exact (hcell i _ (List.getElem?_eq_getElem hi)).1.cl
 have hargs:∀a∈args,∀s o,a= .ptr s o→s<ah.length:=by
  intro a ha s o he
  obtain ⟨i,hi,rfl⟩:=List.getElem_of_mem ha
  have:=(hs.env i).1
  rw [eF] at this
  simp only [Nat.zero_le,if_true,Nat.sub_zero,List.getElem?_eq_getElem hi,Option.getD_some,he] at this
  obtain ⟨b,hb, -⟩:=this.gM
  rw [←hlen];exact (List.getElem?_eq_some_iff.1 hb).1
 have hU:=h hcl hargs
 have hW:AW P L fn.ntmps ah.length c (aag P ah.length fn.results.toList R) (fo 0 args) ah:=hU c hc
 have hvs:vs.size=args.length:=hs.sz
 have hs2:SR L fn.ntmps F γ C (fo 0 args) ah (vs++Array.replicate (fn.ntmps - vs.size) undef) w:=by
  have hg:∀t,t<vs.size→(vs++Array.replicate (fn.ntmps - vs.size) undef).getD t undef=vs.getD t undef:=by
   intro t ht;simp [Array.getD_eq_getD_getElem?,Array.getElem?_append,ht]
  have hx:∀t,¬t<vs.size→get (fo 0 args) t= .un:=by
   intro t ht;rw [eF];simp only [Nat.zero_le,if_true,Nat.sub_zero];rw [List.getElem?_eq_none (by omega)];rfl
  have hbk:∀p b,blk γ (fo 0 args) ah (vs++Array.replicate (fn.ntmps - vs.size) undef) w p b→blk γ (fo 0 args) ah vs w p b:=by
   intro p b hp
   cases p with
   |obj s=>exact hp
   |cell s i=>exact hp
   |tmp t=>
    by_cases ht:t<vs.size
    · simp only [blk,hg t ht] at hp ⊢;exact hp
    · simp only [blk,hx t ht,bR] at hp;cases hp
  refine ⟨hs.mem,by simp;omega,fun t=> ?_,fun p q b hp hq=>hs.dG p q b (hbk p b hp) (hbk q b hq),fun p b hp=>hs.nf p b (hbk p b hp),hs.kA,fun t l k xs htl=> ?_⟩
  · by_cases ht:t<vs.size
    · rw [hg t ht];exact hs.env t
    · rw [hx t ht];exact ⟨.un ..,by generalize (vs++Array.replicate (fn.ntmps - vs.size) undef).getD t undef=v;cases v<;>trivial⟩
  · by_cases ht:t<vs.size
    · have:=hs.fr t l k xs htl
      cases l with
      |tmp u=>have:=this.1;simp at this
      |cell s o=>intro cs a b h1 h2 h3 h4;rw [hg t ht];exact this cs a b h1 h2 h3 h4
    · rw [hx t ht] at htl;cases htl
 refine calls_of_wp hf hb (wp_mono (hW F γ C _ w hs2 (by omega)) ?_)
 rintro x ⟨ts',ds'⟩ w' ⟨rfl, -,e',aH,γ',C',hRX,hγ,hs',adw⟩
 have hx:x= .normal∨x= .ret:=by
  rcases hRX with ⟨m, -,h, -⟩|⟨h, -⟩<;>exact h
 obtain ⟨wA,Mt⟩:∃wA,gN P e' aH fn.results.toList=some wA:=by
  rcases hRX with ⟨m, -, -,h⟩|⟨-,h⟩
  · split at h
    · rename_i vs hv;exact ⟨vs,hv⟩
    · exact h.elim
  · split at h
    · rename_i vs hv;exact ⟨vs,hv⟩
    · exact h.elim
 obtain ⟨us,u1,u2,u3,u4,u5⟩:=YB (P:=P) hs' _ _ Mt
 have hres:(results fn ts').run P w'= .ok (if us.length=1 then us.getD 0 undef else .tuple us.toArray) w':=by
  unfold results
  rw [Array.mapM_eq_mapM_toList,map_eq_pure_bind]
  simp only [Sem.run_bind,Sem.run_pure]
  refine (congrArg (fun r=>Result.andThen (Result.andThen r fun (a:List Value) w'=> .ok a.toArray w') fun (a:Array Value) w'=> .ok (if h:a.size=1 then a[0] else Value.tuple a) w') u1).trans ?_
  simp only [Result.andThen_ok]
  by_cases h1:us.length=1
  · rw [if_pos h1]
    have:us.toArray.size=1:=by simpa using h1
    rw [dif_pos this]
    simp [List.getD_eq_getElem?_getD,h1]
  · rw [if_neg h1]
    have:¬us.toArray.size=1:=by simpa using h1
    rw [dif_neg this]
 generalize hv:(if us.length=1 then us.getD 0 undef else .tuple us.toArray)=v at hres
 have lE:VR C' γ' (fin wA) v∧TC w' C' (fin wA) v∧(∀b,bR (fin wA) v=some b→∃t,blk γ' e' aH ts' w' (.tmp t) b)∧∀l k xs,fin wA≠ .sl (.fr l) k xs:=by
  by_cases h1:us.length=1
  · rw [if_pos h1] at hv
    obtain ⟨a,rfl⟩:∃a,wA=[a]:=by
     cases wA with
     |nil=>rw [h1] at u2;simp at u2
     |cons a r=>cases r with
      |nil=>exact ⟨a,rfl⟩
      |cons b r=>rw [h1] at u2;simp at u2
    have h3:=u3 0 a rfl
    rw [hv] at h3
    refine ⟨(Wk.df a).vr h3.1,(Wk.df a).tc h3.2,fun b hb=>u4 0 a b rfl ?_,fun l k xs=>Mr a l k xs⟩
    rw [hv];exact (Wk.df a).own hb
  · rw [if_neg h1] at hv
    have hf:fin wA= .bK (wA.map AV.sh):=by
     cases wA with
     |nil=>rfl
     |cons a r=>cases r with
      |nil=>exact absurd (by simpa using u2) h1
      |cons b r=>rfl
    rw [hf]
    subst hv
    refine ⟨.bK _ _ _ (by simp [u2]) fun i a hi=> ?_,fun i a hi=> ?_,fun b hb=>by simp [bR] at hb,by simp⟩
    · rw [List.getElem?_map] at hi
      cases hq:wA[i]? with
      |none=>rw [hq] at hi;simp at hi
      |some y=>
       rw [hq] at hi
       obtain rfl:y.sh=a:=by simpa using hi
       have:=(Wk.sh y).vr (u3 i y hq).1
       rwa [←ig]
    · rw [List.getElem?_map] at hi
      cases hq:wA[i]? with
      |none=>rw [hq] at hi;simp at hi
      |some y=>
       rw [hq] at hi
       obtain rfl:y.sh=a:=by simpa using hi
       have h3:=(Wk.sh y).tc (u3 i y hq).2
       have h4:=(Wk.sh y).vr (u3 i y hq).1
       rw [←ig]
       show HN y.sh (us.getD i undef)
       have h5:y.sh.eR=false:=by have:=u5 i y hq;cases y<;>first|rfl|cases this
       generalize us.getD i undef=u at h3 h4
       generalize hz:y.sh=z at h3 h4 h5
       cases z with
       |agg cs=>obtain ⟨vs,rfl, -⟩:=h4.l6;exact h3
       |bK cs=>cases h5
       |sl t k xs=>cases t<;>cases u<;>first|trivial|exact h3|(exfalso;cases y<;>simp [AV.sh,AV.bS] at hz;done)|skip
       |_=>cases u<;>trivial
 obtain ⟨m,hm,hrc,adx,afI,hRR⟩:∃m,ah.length≤m∧Cl m (fin wA)∧mY m (aH.take m)∧m≤aH.length∧R (fin wA) (aH.take m):=by
  rcases hRX with ⟨m,hm, -,h⟩|⟨-,h⟩
  · rw [Mt] at h
    exact ⟨m,hm,h⟩
  · rw [Mt] at h
    have hl:aH.take aH.length=aH:=List.take_length
    refine ⟨aH.length, ?_, ?_, ?_,Nat.le_refl _,by rw [hl];exact h⟩
    · rw [←hs'.mem.len]
      have:=hγ.length_le
      rw [←hlen,List.take_length] at this
      omega
    · rw [←hs'.mem.len];exact lE.1.cl
    · rw [hl]
      intro s cs Ke
      have hlt:s<γ'.length:=by rw [hs'.mem.len];exact (List.getElem?_eq_some_iff.1 Ke).1
      obtain ⟨us',ty', -,afJ,D9⟩:=hs'.mem.obj s _ cs Ke (List.getElem?_eq_getElem hlt)
      intro a ha
      obtain ⟨i,hi,rfl⟩:=List.getElem_of_mem ha
      rw [←hs'.mem.len]
      exact (D9 i _ (List.getElem?_eq_getElem hi)).1.cl
 have hm0:ah.length≤m:=hm
 have hlen':=hs'.mem.len
 have hpre:γ <+: γ'.take m:=by
  rw [←hlen,List.take_length] at hγ
  obtain ⟨q,rfl⟩:=hγ
  rw [List.take_append]
  rw [List.take_of_length_le (l:=γ) (i:=m) (by omega)]
  exact List.prefix_append _ _
 have hbp:bodyPost P fn (fun en w'=>∃r v aH γ' C',en= .returned v∧R r aH∧γ <+: γ'∧SR [] 1 F γ' C' [(0,r)] aH #[v] w'∧Ext F C w C' w') x ⟨ts',[]⟩ w':=by
  have key:∃v',(results fn ts').run P w'= .ok v' w'∧∃r v aH γ' C',Ending.returned v'= .returned v∧R r aH∧γ <+: γ'∧SR [] 1 F γ' C' [(0,r)] aH #[v] w'∧Ext F C w C' w':=by
   refine ⟨v,hres,fin wA,v,aH.take m,γ'.take m,C',rfl,hRR,hpre, ?_,adw⟩
   have hgt:∀(s b:Nat),(γ'.take m)[s]? =some b→γ'[s]? =some b∧s<m:=by
    intro s b hsb
    by_cases Gc:s<m
    · rw [List.getElem?_take_of_lt Gc] at hsb;exact ⟨hsb,Gc⟩
    · rw [List.getElem?_eq_none (by simp;omega)] at hsb;cases hsb
   have Dn:∀(s:Nat) (cs:List AV),(aH.take m)[s]? =some cs→aH[s]? =some cs:=by
    intro s cs hsb
    by_cases Gc:s<m
    · rwa [List.getElem?_take_of_lt Gc] at hsb
    · rw [List.getElem?_eq_none (by simp;omega)] at hsb;cases hsb
   have hbk:∀p b,blk (γ'.take m) [(0,fin wA)] (aH.take m) #[v] w' p b→(∃t,p= .tmp 0∧blk γ' e' aH ts' w' (.tmp t) b)∨((∀t,p≠ .tmp t)∧blk γ' e' aH ts' w' p b):=by
    intro p b hp
    cases p with
    |obj s=>exact .inr ⟨by simp,(hgt s b hp).1⟩
    |cell s i=>
     obtain ⟨cs,a,b0,g1,g2,g3,g4⟩:=hp
     exact .inr ⟨by simp,cs,a,b0,Dn s cs g1,g2,(hgt s b0 g3).1,g4⟩
    |tmp t=>
     simp only [blk,get] at hp
     by_cases ht:0=t
     · subst ht
       simp only [if_true] at hp
       obtain ⟨t,ht⟩:=lE.2.2.1 b hp
       exact .inl ⟨t,rfl,ht⟩
     · rw [if_neg ht] at hp;simp [bR] at hp
   refine ⟨⟨by simp [hlen'],fun s b cs g1 g2=> ?_,hs'.mem.uf,fun s b cs g1 g0 hsb=>hs'.mem.pZ s b cs (Dn s cs g1) g0 (hgt s b hsb).1,fun s b cs us ty fr g1 hsb hh=>hs'.mem.BO s b cs us ty fr (Dn s cs g1) (hgt s b hsb).1 hh⟩,rfl,fun t=> ?_,fun p q b hp hq=> ?_,fun p b hp=> ?_,hs'.kA,fun t l k xs htl=> ?_⟩
   · obtain ⟨vs,ty,q1,q2,q3⟩:=hs'.mem.obj s b cs (Dn s cs g1) (hgt s b g2).1
     exact ⟨vs,ty,q1,q2,fun i a hi=>⟨(q3 i a hi).1.take (adx s cs g1 a (List.mem_of_getElem? hi)),(q3 i a hi).2⟩⟩
   · by_cases ht:0=t
     · subst ht
       simp only [get,if_true]
       exact ⟨lE.1.take hrc,lE.2.1⟩
     · simp only [get,if_neg ht]
       exact ⟨.un ..,by generalize (#[v]:Array Value).getD t undef=u;cases u<;>trivial⟩
   · rcases hbk p b hp with ⟨t,rfl,h1⟩|⟨h1,h2⟩<;>rcases hbk q b hq with ⟨u,rfl,h3⟩|⟨h3,h4⟩
     · rfl
     · exact absurd (hs'.dG _ _ b h1 h4) (fun e=>h3 t e.symm)
     · exact absurd (hs'.dG _ _ b h2 h3) (h1 u)
     · exact hs'.dG p q b h2 h4
   · rcases hbk p b hp with ⟨t,rfl,h1⟩|⟨h1,h2⟩
     · exact hs'.nf _ b h1
     · exact hs'.nf p b h2
   · by_cases ht:0=t
     · subst ht
       simp only [get,if_true] at htl
       exact absurd htl (lE.2.2.2 l k xs)
     · simp only [get,if_neg ht] at htl;cases htl
  rcases hx with rfl|rfl
  · exact ⟨rfl,key⟩
  · exact ⟨rfl,key⟩
 exact hbp
theorem AX.up {c:aD} {Q Q':Exit→Env→AH→Prop} {e:Env} {ah:AH} {n0:Nat} (h:AX P L N n0 c Q e ah) (hq:∀x e ah,Q x e ah→Q' x e ah):AX P L N n0 c Q' e ah:=fun c' cj=>(h c' cj).mono hq
theorem aG.enter {f:Nat} {fn:Func} {c:Code} {ac:aD} {args:List AV} {R:AV→AH→Prop} (L:List Nat) (m:Nat) (hf:P.funcs[f]? =some fn) (hname:fn.name≠ "runtime.NumGoroutine") (hb:fn.body=some c)
 (hc:bQ P c=some ac) (ho:qZ fn.ntmps ac=true) (hN:args.length≤fn.ntmps) (hm:ah.length≤m)
 (h:mY ah.length ah→(∀a∈args,∀s o,a= .ptr s o→s<ah.length)→U P L fn.ntmps ah.length [.code ac] (MH P m fn.results.toList R) .normal (fo 0 args) ah):aG P f args ah R:=
 aG.Px L hf hname hb hc ho hN fun h1 h2=>AX.up (fun c' cj=>pS c' ac _ _ _ (by rw [jJ c ac hc];exact cj) (by rw [jJ c ac hc];exact ho) (h h1 h2)) fun x e H hR=> .inl ⟨m,hm,hR⟩
end
end Go.Am
end
section
namespace Go.Am
open Go
variable [Tabs]
def bx (P:Program) (f N:Nat) (rs:List ResultVar) (ac:aD):Prop:=
 ∃fn c,P.funcs[f]? =some fn∧fn.name≠ "runtime.NumGoroutine" ∧fn.body=some c∧bQ P c=some ac∧fn.ntmps=N∧fn.results.toList=rs
theorem aG.go {P:Program} {f N:Nat} {rs:List ResultVar} {ac:aD} (hF:bx P f N rs ac) {args:List AV} {ah:AH} {R:AV→AH→Prop} (L:List Nat) (m:Nat)
 (ho:qZ N ac=true) (hN:args.length≤N) (hm:ah.length≤m)
 (h:mY ah.length ah→(∀a∈args,∀s o,a= .ptr s o→s<ah.length)→U P L N ah.length [.code ac] (MH P m rs R) .normal (fo 0 args) ah):aG P f args ah R:=by
 obtain ⟨fn,c,h1,h2,h3,h4,rfl,rfl⟩:=hF
 exact aG.enter L m h1 h2 h3 h4 ho hN hm h
section
variable {P:Program} {L:List Nat} {N n0:Nat} {e:Env} {ah:AH} {t:List It} {Q:Exit→Env→AH→Prop} {r:List aQ} {d:Option Nat} {g:Option (Nat×Bool)}
def gOf (want:Bool):AV→Option Bool
 | .bool b=>some (b==want)
 | .bK []=>some false
 |_=>none
theorem YC {op:fI}:gK e ⟨d,op,none⟩=some true:=rfl
theorem YD {op:fI} {x:Nat} {want:Bool}:gK e ⟨d,op,some (x,want)⟩=gOf want (get e x):=by
 simp only [gK]
 cases get e x with
 |bK cs=>cases cs<;>rfl
 |_=>rfl
theorem YE {want:Bool}:gOf want (.bK [])=some false:=rfl
theorem QL {b want:Bool}:gOf want (.bool b)=some (b==want):=rfl
theorem ady {x:Ar}:UG P L N n0 ⟨d, .mv x,g⟩ r t Q e ah (some true)=U P L N n0 (It.ops r::t) Q Exit.normal (aI L e d (cp L x (ev e x))) ah:=rfl
def jY (P:Program) (L:List Nat) (N n0:Nat) (e:Env) (ah:AH) (d:Option Nat) (r:List aQ) (t:List It) (Q:Exit→Env→AH→Prop) (x:Ar):AV→Prop
 | .sl .own k xs=>match x with
   | .t y=>U P L N n0 (.ops r::t) Q .normal (aI L (put e y (.sl .n k xs)) d (.sl .own k xs)) ah
   | .c a=>U P L N n0 (.ops r::t) Q .normal (aI L e d (cp L (.c a) (.sl .own k xs))) ah
 |a=>U P L N n0 (.ops r::t) Q .normal (aI L e d (cp L x a)) ah
theorem aaZ {x:Ar}:UG P L N n0 ⟨d, .aZ x,g⟩ r t Q e ah (some true)=jY P L N n0 e ah d r t Q x (ev e x):=by
 simp only [UG,bN]
 cases h:ev e x with
 |sl tg k xs=>cases tg<;>cases x<;>rfl
 |_=>rfl
def MJ (L:List Nat) (e:Env) (ah:AH) (d:Option Nat) (a b:Ar):AV→Option (Env×AH)
 | .bool t=>some (aI L e d (if t then (ev e a).sh else (ev e b).sh),ah)
 |_=>none
theorem YF {c a b:Ar}:UG P L N n0 ⟨d, .pick c a b,g⟩ r t Q e ah (some true)=US P L N n0 r t Q (MJ L e ah d a b (ev e c)):=by
 simp only [UG,bN];cases ev e c<;>rfl
theorem Un {cs:List AV}:UG P L N n0 ⟨d, .alloc cs,g⟩ r t Q e ah (some true)=U P L N n0 (.ops r::t) Q .normal (aI L e d (.ptr ah.length 0)) (ah++[cs]):=rfl
theorem aa0 {x:Ar}:UG P L N n0 ⟨d, .box x,g⟩ r t Q e ah (some true)=US P L N n0 r t Q (if b6 (ev e x).cells then some (aI L e d (.ptr ah.length 0),ah++[(ev e x).cells.map AV.bS]) else none):=rfl
theorem Uo {z:List AV} {ps:List (Nat×Nat×Ar)}:UG P L N n0 ⟨d, .build z ps,g⟩ r t Q e ah (some true)=US P L N n0 r t Q ((fill e z ps).map fun cs=>(aI L e d (.agg cs),ah)):=rfl
theorem aa1 {k:Nat} {ps:List Ar}:UG P L N n0 ⟨d, .kf k ps,g⟩ r t Q e ah (some true)=US P L N n0 r t Q (if ps.all (fun p=>(ev e p).cells.length=k&&b6 (ev e p).cells&&gb (ev e p).cells) then some (aI L e d (.sl .ex k (ps.map fun p=>(ev e p).s0)),ah) else none):=rfl
theorem Up {k:Nat}:UG P L N n0 ⟨d, .lU k [],g⟩ r t Q e ah (some true)=U P L N n0 (.ops r::t) Q .normal (aI L e d (.cu 0 k 0 0)) ah:=rfl
theorem YG {k:Nat} {z:Ar} {ps:List Ar}:UG P L N n0 ⟨d, .lU k (z::ps),g⟩ r t Q e ah (some true)=US P L N n0 r t Q (if (z::ps).all (fun p=>(ev e p).cells.length=k&&b6 (ev e p).cells&&gb (ev e p).cells) then some (aI L e d (.cI ah.length k 0 (z::ps).length),ah++[((z::ps).map fun p=>(ev e p).cells.map AV.s1).flatten]) else none):=rfl
theorem Uq {k:Nat} {p:Ar}:UG P L N n0 ⟨d, .lU k [p],g⟩ r t Q e ah (some true)=US P L N n0 r t Q (if [p].all (fun p=>(ev e p).cells.length=k&&b6 (ev e p).cells&&gb (ev e p).cells) then some (aI L e d (.cI ah.length k 0 1),ah++[(ev e p).cells.map AV.s1]) else none):=by
 have h:([p].map fun p=>(ev e p).cells.map AV.s1).flatten=(ev e p).cells.map AV.s1:=by simp
 rw [YG,h];rfl
theorem afl {y:Nat} {bs:List UInt8}:UG P L N n0 ⟨d, .lit y bs,g⟩ r t Q e ah (some true)=U P L N n0 (It.ops r::t) Q Exit.normal (put (aI L e d (.sl .ex 1 (bs.map b8))) y .un) ah:=rfl
def Ur (L:List Nat) (e:Env) (ah:AH) (d:Option Nat):AV→Option (Env×AH)
 | .ptr s p=>some (aI L e d (.ptr s p),ah)
 | .ep a p=>some (aI L e d (.ep a p),ah)
 |_=>none
theorem aa2 {x:Ar}:UG P L N n0 ⟨d, .ei x,g⟩ r t Q e ah (some true)=US P L N n0 r t Q (Ur L e ah d (ev e x)):=by
 simp only [UG,bN];cases ev e x<;>rfl
def Us (L:List Nat) (e:Env) (ah:AH) (d:Option Nat) (q:Nat):AV→Option (Env×AH)
 | .ptr s p=>some (aI L e d (.ptr s (p+q)),ah)
 | .ep a p=>some (aI L e d (.ep a (p+q)),ah)
 |_=>none
theorem aa3 {x:Ar} {q:Nat}:UG P L N n0 ⟨d, .aV x q,g⟩ r t Q e ah (some true)=US P L N n0 r t Q (Us L e ah d q (ev e x)):=by
 simp only [UG,bN];cases ev e x<;>rfl
theorem ae6 {x:Ar} {q:Nat} {n:Option Nat}:UG P L N n0 ⟨d, .G8 x q n,g⟩ r t Q e ah (some true)=US P L N n0 r t Q (bN L ⟨d, .G8 x q n,none⟩ e ah):=by simp only [UG,wq L d _ g]
def YH (L:List Nat) (d:Option Nat) (n:Option Nat) (s p:Nat) (e:Env) (ah:AH):Option (List AV)→Option (Env×AH)
 |some cs=>(lZ n s p cs).map fun a=>(aI L e d a,ah)
 |none=>none
def QM (L:List Nat) (d:Option Nat) (e:Env) (ah:AH):Option AV→Option (Env×AH)
 |some c=>if c.flat then some (aI L e d c.s1,ah) else none
 |none=>none
def H8 (L:List Nat) (d:Option Nat) (n:Option Nat) (e:Env) (ah:AH):AV→Option (Env×AH)
 | .ptr s p=>YH L d n s p e ah (ah[s]?)
 | .ep a p=>match n with
   |some n=>if p+n≤a.cells.length∧b5 ((a.cells.drop p).take n) then some (aI L e d (.agg (((a.cells.drop p).take n).map AV.s1)),ah) else none
   |none=>QM L d e ah (a.cells[p]?)
 |_=>none
theorem adz {x:Ar} {n:Option Nat}:UG P L N n0 ⟨d, .ld x n,g⟩ r t Q e ah (some true)=US P L N n0 r t Q (H8 L d n e ah (ev e x)):=by
 simp only [UG,bN]
 cases ev e x with
 |ptr s p=>simp only [H8,YH];cases ah[s]? <;>rfl
 |ep a p=>cases n with
  |some n=>rfl
  |none=>simp only [H8,QM];cases a.cells[p]? <;>rfl
 |_=>rfl
def lQ (s o:Nat):Option AV→Option AV
 |some (.sl .own k xs)=>some (.sl (.fr (.cell s o)) k xs)
 |some a=>if a.flat then some a.bS else none
 |none=>none
theorem jk {s o:Nat} {cs:List AV}:lZ none s o cs=lQ s o (cs[o]?):=by
 simp only [lZ,lQ]
 cases cs[o]? with
 |none=>rfl
 |some a=>cases a with
  |sl t k xs=>cases t<;>rfl
  |_=>rfl
theorem jl {n s o:Nat} {cs:List AV}:lZ (some n) s o cs=if o+n≤cs.length∧b5 ((cs.drop o).take n) then some (.agg (((cs.drop o).take n).map AV.bS)) else none:=rfl
theorem afm {x:Ar} {n:Option Nat}:UG P L N n0 ⟨d, .lV x n,g⟩ r t Q e ah (some true)=US P L N n0 r t Q (bN L ⟨d, .lV x n,none⟩ e ah):=by simp only [UG,wq L d _ g]
theorem afK {a x:Ar} {n:Nat}:UG P L N n0 ⟨d, .st a x n,g⟩ r t Q e ah (some true)=US P L N n0 r t Q (bN L ⟨none, .st a x n,none⟩ e ah):=by simp only [UG,bN]
theorem aa4 {op:BinOp} {x y:Ar}:UG P L N n0 ⟨d, .bin op x y,g⟩ r t Q e ah (some true)=US P L N n0 r t Q ((bD op (ev e x) (ev e y)).map fun a=>(aI L e d a,ah)):=rfl
theorem adA {neq:Bool} {x y:Ar}:UG P L N n0 ⟨d, .bq neq x y,g⟩ r t Q e ah (some true)=US P L N n0 r t Q ((Mn (ev e x) (ev e y)).map fun b=>(aI L e d (.bool (if neq then !b else b)),ah)):=rfl
theorem adB {neq:Bool} {x y:Ar}:UG P L N n0 ⟨d, .pq neq x y,g⟩ r t Q e ah (some true)=US P L N n0 r t Q ((Mo (ev e x) (ev e y)).map fun b=>(aI L e d (.bool (if neq then !b else b)),ah)):=rfl
def aah (L:List Nat) (e:Env) (ah:AH) (d:Option Nat) (ks:List Pk) (neq:Bool):AV→AV→Option (Env×AH)
 | .agg zq, .agg bs=>(cr ks zq bs).map fun b=>(aI L e d (.bool (if neq then !b else b)),ah)
 |_,_=>none
theorem aa5 {ks:List Pk} {neq:Bool} {x y:Ar}:UG P L N n0 ⟨d, .seq ks neq x y,g⟩ r t Q e ah (some true)=US P L N n0 r t Q (aah L e ah d ks neq (ev e x) (ev e y)):=by
 simp only [UG,bN];cases ev e x<;>cases ev e y<;>rfl
theorem adC {op:UnOp} {x:Ar}:UG P L N n0 ⟨d, .un op x,g⟩ r t Q e ah (some true)=US P L N n0 r t Q ((Mq op (ev e x)).map fun a=>(aI L e d a,ah)):=rfl
def Py (L:List Nat) (e:Env) (ah:AH) (d:Option Nat) (p n:Nat) (cs:List AV):Option (Env×AH):=
 if p+n≤cs.length then (bytesOf ((cs.drop p).take n)).map fun l=>(aI L e d (.str l),ah) else none
def Ut (L:List Nat) (e:Env) (ah:AH) (d:Option Nat) (p n:Nat):Option (List AV)→Option (Env×AH)
 |some cs=>Py L e ah d p n cs
 |none=>none
def EA (L:List Nat) (e:Env) (ah:AH) (d:Option Nat) (h:Cv):AV→Option (Env×AH)
 | .cI s k p n=>match h with
   | .bs=>if k=1 then Ut L e ah d p n (ah[s]?) else none
   |h=>(fF h (.cI s k p n)).map fun a=>(aI L e d a,ah)
 |a=>(fF h a).map fun a=>(aI L e d a,ah)
theorem aa6 {h:Cv} {x:Ar}:UG P L N n0 ⟨d, .dV h x,g⟩ r t Q e ah (some true)=US P L N n0 r t Q (EA L e ah d h (ev e x)):=by
 simp only [UG,bN]
 congr 1
 cases ev e x with
 |cI s k p n=>
  cases h with
  |bs=>
   simp only [EA]
   split
   · cases ah[s]? <;>rfl
   · rfl
  |_=>rfl
 |_=>cases h<;>rfl
theorem YI {x:Ar}:UG P L N n0 ⟨d, .vV x,g⟩ r t Q e ah (some true)=US P L N n0 r t Q ((fF .bs (ev e x)).map fun a=>(aI L e d a,ah)):=rfl
def Uu (L:List Nat) (e:Env) (ah:AH) (d:Option Nat):AV→Option (Env×AH)
 | .str l=>some (aI L e d (.cI ah.length 1 0 l.length),ah++[l.map b8])
 |_=>none
theorem YJ {x:Ar}:UG P L N n0 ⟨d, .uT x,g⟩ r t Q e ah (some true)=US P L N n0 r t Q (Uu L e ah d (ev e x)):=by
 simp only [UG,bN];cases ev e x<;>rfl
theorem adD {neq:Bool} {x y:Ar}:UG P L N n0 ⟨d, .iq neq x y,g⟩ r t Q e ah (some true)=US P L N n0 r t Q ((Mp (ev e x) (ev e y)).map fun b=>(aI L e d (.bool (if neq then !b else b)),ah)):=rfl
theorem adF {mx:Bool} {x y:Ar}:UG P L N n0 ⟨d, .mm mx x y,g⟩ r t Q e ah (some true)=US P L N n0 r t Q ((JO mx (ev e x) (ev e y)).map fun a=>(aI L e d a,ah)):=rfl
theorem aa7 {f:Nat} {cs:List Ar}:UG P L N n0 ⟨d, .JM f cs,g⟩ r t Q e ah (some true)=U P L N n0 (It.ops r::t) Q Exit.normal (aI L e d (.fn f (cs.map (ev e)))) ah:=rfl
def uU:AV→Option Nat
 | .int _ i=>if 0≤i then some i.toNat else none
 |_=>none
theorem afn {dflt:Nat}:mX e dflt none=some dflt:=rfl
theorem Uv {dflt:Nat} {x:Ar}:mX e dflt (some x)=uU (ev e x):=by
 simp only [mX];cases ev e x<;>rfl
def Pz (L:List Nat) (e:Env) (ah:AH) (d:Option Nat) (l:List UInt8):Option Nat→Option Nat→Option (Env×AH)
 |some i,some j=>if i≤j∧j≤l.length then some (aI L e d (.str ((l.take j).drop i)),ah) else none
 |_,_=>none
def PA (L:List Nat) (e:Env) (ah:AH) (d:Option Nat) (lo hi:Option Ar):AV→Option (Env×AH)
 | .str l=>Pz L e ah d l (mX e 0 lo) (mX e l.length hi)
 |_=>none
theorem aa8 {x:Ar} {lo hi:Option Ar}:UG P L N n0 ⟨d, .JN x lo hi,g⟩ r t Q e ah (some true)=US P L N n0 r t Q (PA L e ah d lo hi (ev e x)):=by
 simp only [UG,bN]
 cases ev e x with
 |str l=>simp only [PA,Pz];cases mX e 0 lo<;>cases mX e l.length hi<;>rfl
 |_=>rfl
def PB (L:List Nat) (e:Env) (ah:AH) (d:Option Nat) (k k':Nat) (xs:List AV):Option Nat→Option Nat→Option (Env×AH)
 |some i,some j=>if k'=k∧i≤j∧j≤xs.length then some (aI L e d (.sl .n k ((xs.take j).drop i)),ah) else none
 |_,_=>none
def PC (L:List Nat) (e:Env) (ah:AH) (d:Option Nat) (k:Nat) (lo hi:Option Ar):AV→Option (Env×AH)
 | .sl _ k' xs=>PB L e ah d k k' xs (mX e 0 lo) (mX e xs.length hi)
 |_=>none
theorem aa9 {k:Nat} {x:Ar} {lo hi:Option Ar}:UG P L N n0 ⟨d, .slc k x lo hi none,g⟩ r t Q e ah (some true)=US P L N n0 r t Q (PC L e ah d k lo hi (ev e x)):=by
 simp only [UG,bN]
 cases ev e x with
 |sl t k' xs=>simp only [PC,PB];cases mX e 0 lo<;>cases mX e xs.length hi<;>rfl
 |_=>rfl
def H9 (L:List Nat) (e:Env) (ah:AH) (d:Option Nat) (k k':Nat) (xs:List AV):Option Nat→Option Nat→Option Nat→Option (Env×AH)
 |some i,some j,some m=>if k'=k∧i≤j∧j=m∧m≤xs.length then some (aI L e d (.sl .ex k ((xs.take j).drop i)),ah) else none
 |_,_,_=>none
def Ia (L:List Nat) (e:Env) (ah:AH) (d:Option Nat) (k:Nat) (lo:Option Ar) (hi m:Ar):AV→Option (Env×AH)
 | .sl _ k' xs=>H9 L e ah d k k' xs (mX e 0 lo) (mX e xs.length (some hi)) (mX e 0 (some m))
 |_=>none
theorem YK {k:Nat} {x:Ar} {lo:Option Ar} {hi m:Ar}:UG P L N n0 ⟨d, .slc k x lo (some hi) (some m),g⟩ r t Q e ah (some true)=US P L N n0 r t Q (Ia L e ah d k lo hi m (ev e x)):=by
 simp only [UG,bN]
 cases ev e x with
 |sl t k' xs=>
  simp only [Ia,H9]
  cases mX e 0 lo with
  |none=>rfl
  |some i=>
   cases mX e xs.length (some hi) with
   |none=>rfl
   |some j=>
    simp only [Option.isNone_some,Bool.false_eq_true,if_false]
    cases mX e 0 (some m)<;>rfl
 |_=>rfl
def PD (L:List Nat) (e:Env) (ah:AH) (d:Option Nat) (k k':Nat):Option AV→Option (Env×AH)
 |some a=>if k'=k then some (aI L e d (.ep a 0),ah) else none
 |none=>none
def tu (L:List Nat) (e:Env) (ah:AH) (d:Option Nat) (k:Nat):AV→AV→Option (Env×AH)
 | .sl _ k' xs, .int _ i=>if 0≤i then PD L e ah d k k' (xs[i.toNat]?) else none
 | .cI s k' p n, .int _ i=>if 0≤i∧i<n∧k'=k then some (aI L e d (.ptr s (p+i.toNat*k)),ah) else none
 | .cu s k' n _, .int _ i=>if 0≤i∧i<n∧k'=k then some (aI L e d (.ptr s (i.toNat*k)),ah) else none
 |_,_=>none
def Kf (L:List Nat) (e:Env) (ah:AH) (d:Option Nat) (k m:Nat):AV→AV→Option (Env×AH)
 | .ptr s p, .int _ i=>if 0≤i∧i<m then some (aI L e d (.ptr s (p+i.toNat*k)),ah) else none
 | .ep a p, .int _ i=>if 0≤i∧i<m then some (aI L e d (.ep a (p+i.toNat*k)),ah) else none
 |_,_=>none
theorem aba {k m:Nat} {x i:Ar}:UG P L N n0 ⟨d, .Qj k m x i,g⟩ r t Q e ah (some true)=US P L N n0 r t Q (Kf L e ah d k m (ev e x) (ev e i)):=by
 simp only [UG,bN]
 cases ev e x with
 |ptr s p=>cases ev e i<;>rfl
 |ep a p=>cases ev e i<;>rfl
 |_=>cases ev e i<;>rfl
def PF (L:List Nat) (e:Env) (ah:AH) (d:Option Nat) (u k:Nat) (xs:List AV):AV→Option (Env×AH)
 | .sl .own k2 zs=>if k2=k then some (aI L (put e u (.sl .n k2 zs)) d (.sl .own k xs),ah) else none
 |_=>none
def Kg (L:List Nat) (e:Env) (ah:AH) (d:Option Nat) (k:Nat):AV→Option (Env×AH)
 | .sl .ex k' []=>if k'=k then some (aI L e d (.cu 0 k 0 0),ah) else none
 | .cu s k' n c=>some (aI L e d (.cu s k' n c),ah)
 | .sl (.fr (.tmp u)) k' xs=>PF L e ah d u k' xs (get e u)
 |_=>none
theorem abb {k:Nat} {x:Ar}:UG P L N n0 ⟨d, .BN k x,g⟩ r t Q e ah (some true)=US P L N n0 r t Q (Kg L e ah d k (ev e x)):=by
 simp only [UG,bN]
 cases ev e x with
 |sl t k' xs=>cases t<;>cases xs<;>rfl
 |_=>rfl
theorem abc {k:Nat} {x i:Ar}:UG P L N n0 ⟨d, .ku k x i,g⟩ r t Q e ah (some true)=US P L N n0 r t Q (tu L e ah d k (ev e x) (ev e i)):=by
 simp only [UG,bN]
 cases ev e x with
 |sl t k' xs=>cases ev e i with
  |int ki n=>simp only [tu,PD];cases xs[n.toNat]? <;>rfl
  |_=>rfl
 |cI s k' p n=>cases ev e i<;>rfl
 |cu s k' n c=>cases ev e i<;>rfl
 |_=>cases ev e i<;>rfl
def Uw (L:List Nat) (e:Env) (ah:AH) (d:Option Nat):Option UInt8→Option (Env×AH)
 |some c=>some (aI L e d (b8 c),ah)
 |none=>none
def Kh (L:List Nat) (e:Env) (ah:AH) (d:Option Nat):AV→AV→Option (Env×AH)
 | .str l, .int _ i=>if 0≤i then Uw L e ah d (l[i.toNat]?) else none
 |_,_=>none
theorem abd {x i:Ar}:UG P L N n0 ⟨d, .ixs x i,g⟩ r t Q e ah (some true)=US P L N n0 r t Q (Kh L e ah d (ev e x) (ev e i)):=by
 simp only [UG,bN]
 cases ev e x with
 |str l=>cases ev e i with
  |int ki n=>simp only [Kh,Uw];cases l[n.toNat]? <;>rfl
  |_=>rfl
 |_=>cases ev e i<;>rfl
theorem ae7 {l:List UInt8} {i j:Nat}:Pz L e ah d l (some i) (some j)=if i≤j∧j≤l.length then some (aI L e d (.str ((l.take j).drop i)),ah) else none:=rfl
theorem ae8 {k k' i j:Nat} {xs:List AV}:PB L e ah d k k' xs (some i) (some j)=if k'=k∧i≤j∧j≤xs.length then some (aI L e d (.sl .n k ((xs.take j).drop i)),ah) else none:=rfl
theorem adG {k k' i j m:Nat} {xs:List AV}:H9 L e ah d k k' xs (some i) (some j) (some m)=if k'=k∧i≤j∧j=m∧m≤xs.length then some (aI L e d (.sl .ex k ((xs.take j).drop i)),ah) else none:=rfl
theorem ae9 {k k':Nat} {a:AV}:PD L e ah d k k' (some a)=if k'=k then some (aI L e d (.ep a 0),ah) else none:=rfl
theorem afa {c:UInt8}:Uw L e ah d (some c)=some (aI L e d (b8 c),ah):=rfl
theorem abe {n:Option Nat} {s p:Nat} {cs:List AV}:YH L d n s p e ah (some cs)=(lZ n s p cs).map fun a=>(aI L e d a,ah):=rfl
theorem abf {c:AV}:QM L d e ah (some c)=if c.flat then some (aI L e d c.s1,ah) else none:=rfl
theorem afb {α:Type} {c:Prop} [Decidable c] {x:Option α} (h:c):(if c then x else none)=x:=by rw [if_pos h]
theorem adH {α:Type} {c:Prop} [Decidable c] {x:Option α} (h:¬c):(if c then none else x)=x:=by rw [if_neg h]
theorem afo {x:Ar} {i:Nat}:UG P L N n0 ⟨d, .ext x i,g⟩ r t Q e ah (some true)=US P L N n0 r t Q (bN L ⟨d, .ext x i,none⟩ e ah):=by simp only [UG,wq L d _ g]
theorem afp {x:Ar}:UG P L N n0 ⟨d, .len x,g⟩ r t Q e ah (some true)=US P L N n0 r t Q (bN L ⟨d, .len x,none⟩ e ah):=by simp only [UG,wq L d _ g]
theorem afc {x:Ar}:UG P L N n0 ⟨d, .lens x,g⟩ r t Q e ah (some true)=US P L N n0 r t Q (bN L ⟨d, .lens x,none⟩ e ah):=by simp only [UG,wq L d _ g]
def Ux (L:List Nat) (e:Env) (ah:AH) (d:Option Nat) (k b:Nat) (x:Ar):AV→Option (Env×AH)
 | .sl _ k' ys=>if k'=k then yC L e ah d k b x ys else none
 |_=>none
theorem abg {k b:Nat} {x y:Ar}:UG P L N n0 ⟨d, .app k b x y,g⟩ r t Q e ah (some true)=US P L N n0 r t Q (Ux L e ah d k b x (ev e y)):=by
 simp only [UG,bN];cases ev e y<;>rfl
def Uy (L:List Nat) (e:Env) (ah:AH) (d:Option Nat) (b:Nat) (x:Ar):AV→Option (Env×AH)
 | .str l=>yC L e ah d 1 b x (l.map b8)
 |_=>none
theorem YL {b:Nat} {x y:Ar}:UG P L N n0 ⟨d, .apps b x y,g⟩ r t Q e ah (some true)=US P L N n0 r t Q (Uy L e ah d b x (ev e y)):=by
 simp only [UG,bN];cases ev e y<;>rfl
theorem YM {f:Ar} {zq:List Ar}:UG P L N n0 ⟨d, .call f zq,g⟩ r t Q e ah (some true)=UF P L N n0 zq d r t Q e ah (ev e f):=rfl
theorem adI {o:aQ} {b:Bool}:UG P L N n0 o r t Q e ah (some b)=if b then (UG P L N n0 o r t Q e ah (some true)) else U P L N n0 (.ops r::t) Q .normal (p9 e o.d) ah:=by
 cases b<;>rfl
theorem ac3 {o:aQ} {b:Bool} (h1:b=true→UG P L N n0 o r t Q e ah (some true)) (h2:b=false→U P L N n0 (.ops r::t) Q .normal (p9 e o.d) ah):UG P L N n0 o r t Q e ah (some b):=by
 cases b
 · exact h2 rfl
 · exact h1 rfl
end
end Go.Am
namespace Go.Am
open Go
variable [Tabs]
theorem mY.set {n:Nat} {ah:AH} (h:mY n ah) {s:Nat} {cs:List AV} (hc:∀a∈cs,Cl n a):mY n (ah.set s cs):=by
 intro t ds ht a ha
 rw [List.getElem?_set] at ht
 split at ht
 · split at ht
   · injection ht with ht;subst ht;exact hc a ha
   · cases ht
 · exact h t ds ht a ha
theorem MH.old {P:Program} {n:Nat} {rs:List ResultVar} {R:AV→AH→Prop} {x:Exit} {e:Env} {ah:AH} {vs:List AV} (hx:x= .normal∨x= .ret) (hr:gN P e ah rs=some vs)
 (hc:Cl n (fin vs)) (hh:mY n ah) (hn:ah.length=n) (h:R (fin vs) ah):MH P n rs R x e ah:=by
 refine ⟨hx, ?_⟩
 rw [hr]
 have:ah.take n=ah:=List.take_of_length_le (by omega)
 simp only [this]
 exact ⟨hc,hh,by omega,h⟩
theorem w64 {n:Int} (h1: -9223372036854775808≤n) (h2:n≤9223372036854775807):IntKind.wrap .i64 n=n:=by
 simp only [IntKind.wrap,IntKind.bits,IntKind.signed,Bool.true_and,decide_eq_true_eq,Int.reducePow,Nat.reduceSub,ge_iff_le]
 split<;>omega
theorem w8 {n:Int} (h1:0≤n) (h2:n≤255):IntKind.wrap .u8 n=n:=by
 simp only [IntKind.wrap,IntKind.bits,IntKind.signed,Bool.false_and,if_false,Bool.false_eq_true]
 omega
theorem aai {j:Nat}:((j:Int)+1).toNat=j+1:=by omega
theorem afq {P:Program} {L:List Nat} {N n0:Nat} {t:List It} {Q:Exit→Env→AH→Prop} {r:List aQ} {c:Prop} [Decidable c] {x:Option (Env×AH)} (h:c):
 US P L N n0 r t Q (if c then x else none)=US P L N n0 r t Q x:=by rw [if_pos h]
theorem map_if {α β:Type} {f:α→β} {c:Prop} [Decidable c] {x:Option α} (h:c):Option.map f (if c then x else none)=Option.map f x:=by rw [if_pos h]
theorem Ki {L:List Nat} {d:Option Nat} {k b:Nat} {x y:Ar} {e:Env} {ah:AH} {K K':Env→AH→Prop} (h:pV L d k b x y e ah K) (hk:∀e ah,K e ah→K' e ah):pV L d k b x y e ah K':=by
 unfold pV at h ⊢
 split at h
 · obtain ⟨h1,h2,h3,h4,h5,h6⟩:=h
   refine ⟨h1,h2,h3,h4,h5, ?_⟩
   rcases h6 with ⟨g1,g2,g3⟩|⟨cs,g1,g2,g3,g4,g5,g6,g7⟩
   · exact .inl ⟨g1,g2,fun c hc=>hk _ _ (g3 c hc)⟩
   · exact .inr ⟨cs,g1,g2,g3,g4,g5,fun h=>hk _ _ (g6 h),fun h c hc=>hk _ _ (g7 h c hc)⟩
 · exact h
theorem QN {L:List Nat} {d:Option Nat} {n:Bool} {x:Ar} {e:Env} {ah:AH} {K K':Env→AH→Prop} (h:Ee L d n x e ah K) (hk:∀e ah,K e ah→K' e ah):Ee L d n x e ah K':=by
 unfold Ee at h ⊢
 split at h
 · exact ⟨fun h0 b=>hk _ _ (h.1 h0 b),fun h0=>hk _ _ (h.2 h0)⟩
 · exact h
theorem MK {P:Program} {L:List Nat}:∀(l:List aQ) {K K':Env→AH→Prop} {e:Env} {ah:AH},eC P L l e ah K→(∀e ah,K e ah→K' e ah)→eC P L l e ah K':=by
 intro l
 induction l with
 |nil=>intro K K' e ah h hk;exact hk _ _ h
 |cons o r ih=>
  intro K K' e ah h hk
  simp only [eC] at h ⊢
  split at h
  · rename_i hg
    obtain ⟨d,op,g⟩:=o
    cases op with
    |call f zq=>
     simp only [Az] at h ⊢
     split at h
     · exact ⟨h.1,h.2.mono fun v aH h=>ih h hk⟩
     · exact h
    |lW k b x y=>
     have h':pV L d k b x y e ah (fun e ah=>eC P L r e ah K):=h
     exact Ki h' fun e ah h=>ih h hk
    |nq n x=>
     have h':Ee L d n x e ah (fun e ah=>eC P L r e ah K):=h
     exact QN h' fun e ah h=>ih h hk
    |_=>
     simp only [Az] at h ⊢
     split at h
     · exact ih h hk
     · exact h
  · exact ih h hk
  · exact h
theorem Kj {P:Program} {L:List Nat} {N n0:Nat}:∀(c:aD) {Q Q':Exit→Env→AH→Prop} {e:Env} {ah:AH},kj P L N n0 c Q e ah→(∀x e ah,Q x e ah→Q' x e ah)→kj P L N n0 c Q' e ah:=by
 intro c
 induction c with
 |skip=>intro Q Q' e ah h hq;exact hq _ _ _ h
 |ret=>intro Q Q' e ah h hq;exact hq _ _ _ h
 |exit i=>intro Q Q' e ah h hq;exact hq _ _ _ h
 |rg ops=>intro Q Q' e ah h hq;exact MK ops h fun e ah h=>hq _ _ _ h
 |seq a b Ey Ez=>
  intro Q Q' e ah h hq
  refine Ey h fun x e ah h=> ?_
  cases x with
  |normal=>exact Ez h hq
  |_=>exact hq _ _ _ h
 |cond c a b Ey Ez=>
  intro Q Q' e ah h hq
  simp only [kj] at h ⊢
  split at h
  · split at h
    · rename_i h1;rw [if_pos h1];exact Ey h hq
    · rename_i h1;rw [if_neg h1];exact Ez h hq
  · exact h.elim
 |blk i c ih=>
  intro Q Q' e ah h hq
  refine ih h fun x e ah h=> ?_
  cases x with
  |exit j=>
   simp only at h ⊢
   split at h
   · rename_i h1;rw [if_pos h1];exact hq _ _ _ h
   · rename_i h1;rw [if_neg h1];exact hq _ _ _ h
  |_=>exact hq _ _ _ h
 |loop c ih=>
  intro Q Q' e ah h hq
  exact fun c' cj=>(h c' cj).mono hq
 |sem c ih=>
  intro Q Q' e ah h hq
  exact fun c' cj=>(h c' cj).mono hq
theorem YN {P:Program} {L:List Nat} {N n0:Nat} {c:aD} {Q Q':Exit→Env→AH→Prop} {e:Env} {ah:AH} (h:U P L N n0 [.code c] Q .normal e ah) (hq:∀x e ah,Q x e ah→Q' x e ah):U P L N n0 [.code c] Q' .normal e ah:=
 Kj c h hq
theorem Uz {e e2:Env} (h:∀p∈e2,p.2= .un∨Am.get e p.1=p.2∨∃t k xs,Am.get e p.1= .sl t k xs∧p.2= .sl .n k xs):∀t,Wk (Am.get e t) (Am.get e2 t):=by
 intro t
 have key:∀e2:Env,Am.get e2 t= .un∨∃p∈e2,p.1=t∧Am.get e2 t=p.2:=by
  intro e2
  induction e2 with
  |nil=>exact .inl rfl
  |cons p r ih=>
   obtain ⟨i,a⟩:=p
   simp only [Am.get]
   split
   · rename_i h;exact .inr ⟨(i,a),by simp,h,rfl⟩
   · rcases ih with h|⟨p,hp,h1,h2⟩
     · exact .inl h
     · exact .inr ⟨p,List.mem_cons_of_mem _ hp,h1,h2⟩
 rcases key e2 with h0|⟨p,hp,rfl,h2⟩
 · rw [h0];exact .un _
 · rw [h2]
   rcases h p hp with h3|h3|⟨tg,k,xs,h3,h4⟩
   · rw [h3];exact .un _
   · rw [h3];exact .same _
   · rw [h3,h4];exact .n ..
def BZ (e e2:Env):Prop:=∀p∈e2,p.2= .un∨Am.get e p.1=p.2∨∃t k xs,Am.get e p.1= .sl t k xs∧p.2= .sl .n k xs
theorem QO {P:Program} {L:List Nat} {N n0:Nat} {e:Env} {ah:AH} {t:List It} {Q:Exit→Env→AH→Prop} {c:aD} (J:Nat→Env→AH→Prop) (k0:Nat) (e0:Env) (ho:qZ N c=true)
 (hw:∀p∈e0,p.2= .un∨Am.get e p.1=p.2∨∃t k xs,Am.get e p.1= .sl t k xs∧p.2= .sl .n k xs) (h0:J k0 e0 ah)
 (round:∀k e ah,J k e ah→U P L N n0 [.code c] (fun x e' aH=>match x with
  | .normal=>∃k' e2,k'<k∧(∀p∈e2,p.2= .un∨Am.get e' p.1=p.2∨∃t k xs,Am.get e' p.1= .sl t k xs∧p.2= .sl .n k xs)∧J k' e2 aH
  |x=>U P L N n0 t Q x e' aH) .normal e ah):
 UX P L N n0 (.loop c) t Q e ah:=by
 intro c'
 induction c' with
 |loop c0 _=>
  intro cj
  simp only [bQ,Option.map_eq_some_iff] at cj
  obtain ⟨a,ha,he⟩:=cj
  injection he with he
  subst he
  refine AW.loop (fun k e ah=>∃e1,(∀t,Wk (Am.get e t) (Am.get e1 t))∧J k e1 ah) (k0:=k0) ?_ ⟨e0,Uz hw,h0⟩
  rintro k e ah ⟨e1,hw1,hJ⟩
  refine AW.weak hw1 (pS c0 a _ e1 ah (by rw [jJ c0 a ha];exact ha) (by rw [jJ c0 a ha];exact ho) ?_)
  have:=round k e1 ah hJ
  refine YN this fun x e' aH h=> ?_
  cases x with
  |normal=>obtain ⟨k',e2,h1,h2,h3⟩:=h;exact ⟨k',h1,e2,Uz h2,h3⟩
  |_=>exact h
 |scope c0 ih=>exact fun cj=>AW.scope (ih cj)
 |region id ops draw=>intro cj;simp only [bQ] at cj;repeat' (split at cj)<;>simp at cj
 |block i c0=>intro cj;simp only [bQ,Option.map_eq_some_iff] at cj;obtain ⟨a, -,h⟩:=cj;cases h
 |seq a b=>intro cj;simp only [bQ] at cj;split at cj<;>simp at cj
 |cond a b c=>intro cj;simp only [bQ] at cj;split at cj<;>simp at cj
 |_=>intro cj;simp [bQ] at cj
theorem ac4 {P:Program} {L:List Nat} {N n0:Nat} {e:Env} {ah:AH} {t:List It} {Q:Exit→Env→AH→Prop} {c:aD} (J:Nat→Env→AH→Prop) (k0:Nat) (e0:Env) (ho:qZ N c=true)
 (hw:BZ e e0) (h0:J k0 e0 ah)
 (round:∀(K:Exit→Env→AH→Prop) k e ah,J k e ah→(∀k' e' e2 aH,k'<k→BZ e' e2→J k' e2 aH→K .normal e' aH)→(∀e' aH,U P L N n0 t Q .ret e' aH→K .ret e' aH)→
  (∀i e' aH,U P L N n0 t Q (.exit i) e' aH→K (.exit i) e' aH)→U P L N n0 [.code c] K .normal e ah):UX P L N n0 (.loop c) t Q e ah:=
 QO J k0 e0 ho hw h0 fun k e ah hJ=>round _ k e ah hJ (fun k' e' e2 aH h1 h2 h3=>⟨k',e2,h1,h2,h3⟩) (fun _ _ h=>h) (fun _ _ _ h=>h)
theorem BZ.nil {e:Env}:BZ e []:=by intro p hp;cases hp
theorem BZ.same {e r:Env} {i:Nat} {a:AV} (h:Am.get e i=a) (hr:BZ e r):BZ e ((i,a)::r):=by
 intro p hp
 rcases List.mem_cons.1 hp with rfl|hp
 · exact .inr (.inl h)
 · exact hr p hp
theorem BZ.un {e r:Env} {i:Nat} (hr:BZ e r):BZ e ((i, .un)::r):=by
 intro p hp
 rcases List.mem_cons.1 hp with rfl|hp
 · exact .inl rfl
 · exact hr p hp
theorem BZ.sl {e r:Env} {i k:Nat} {tg:Tg} {xs:List AV} (h:Am.get e i= .sl tg k xs) (hr:BZ e r):BZ e ((i, .sl .n k xs)::r):=by
 intro p hp
 rcases List.mem_cons.1 hp with rfl|hp
 · exact .inr (.inr ⟨_,_,_,h,rfl⟩)
 · exact hr p hp
theorem aG.weak {P:Program} {f:Nat} {args args':List AV} {ah:AH} {R:AV→AH→Prop} (hl:args'.length=args.length) (hw:∀(i:Nat) (a a':AV),args[i]? =some a→args'[i]? =some a'→Wk a a') (h:aG P f args' ah R):
 aG P f args ah R:=by
 refine ⟨h.1,fun F γ C w vs hs=>h.2 F γ C w vs ?_⟩
 rw [hl]
 refine hs.wk fun t=> ?_
 rw [eF,eF]
 simp only [Nat.zero_le,if_true,Nat.sub_zero]
 cases h1:args[t]? with
 |none=>
  have:args'[t]? =none:=by
   rw [List.getElem?_eq_none_iff] at h1 ⊢
   omega
  rw [this];exact .same _
 |some a=>
  have hlt:t<args'.length:=by rw [hl];exact (List.getElem?_eq_some_iff.1 h1).1
  rw [List.getElem?_eq_getElem hlt]
  exact hw t a _ h1 (List.getElem?_eq_getElem hlt)
theorem Kk:∀l:List UInt8,bytesOf (l.map b8)=some l:=by
 intro l
 induction l with
 |nil=>rfl
 |cons c r ih=>
  simp only [List.map_cons,b8,bytesOf]
  rw [ih]
  simp
theorem QS {ah:AH} {i:Nat} {x:List AV} (h:ah[i]? =some x):ah.set i x=ah:=by
 have hlt:=(List.getElem?_eq_some_iff.1 h).1
 apply List.ext_getElem?
 intro j
 rw [List.getElem?_set]
 split
 · rename_i hj;subst hj;simp only [h,ite_eq_left_iff];try exact fun h0=>absurd hlt h0
 · rfl
theorem MH.new {P:Program} {n:Nat} {rs:List ResultVar} {R:AV→AH→Prop} {x:Exit} {e:Env} {ah aH:AH} {vs:List AV} (hx:x= .normal∨x= .ret) (hr:gN P e ah rs=some vs) (ht:ah.take n=aH)
 (hc:Cl n (fin vs)) (hh:mY n aH) (hn:n≤ah.length) (h:R (fin vs) aH):MH P n rs R x e ah:=by
 refine ⟨hx, ?_⟩
 rw [hr]
 simp only [ht]
 exact ⟨hc,hh,hn,h⟩
theorem B0 {P:Program} {e:Env} {ah:AH}:gN P e ah []=some []:=rfl
theorem xJ {P:Program} {e:Env} {ah:AH} {t:Nat} {rs:List ResultVar} {a:AV} {vs:List AV} (h:Am.get e t=a) (ht:a.eR=false) (hr:gN P e ah rs=some vs):gN P e ah (.tmp t::rs)=some (a::vs):=by
 subst h
 simp only [gN,ht,hr,Bool.false_eq_true,if_false]
theorem gy {P:Program} {e:Env} {ah:AH} {a:Nat} {ty:TypeId} {n:Option Nat} {rs:List ResultVar} {s o:Nat} {cs vs:List AV} {v:AV} (ht:tok P ty=true) (hn:tn P ty=n) (h:Am.get e a= .ptr s o) (hs:ah[s]? =some cs)
 (hl:lZ n s o cs=some v) (hr:gN P e ah rs=some vs):gN P e ah (.cell a ty::rs)=some (v.sh::vs):=by
 subst hn
 simp only [gN,ht,if_true,h,hs,hl,hr]
theorem aG.wkR {P:Program} {f:Nat} {args:List AV} {ah:AH} {R R':AV→AH→Prop} (h:aG P f args ah R) (hr:∀r aH,R r aH→∃r',Wk r r'∧R' r' aH):aG P f args ah R':=by
 refine ⟨h.1,fun F γ C w vs hs=>(h.2 F γ C w vs hs).mono ?_⟩
 rintro en w' ⟨r,v,aH,γ',C',rfl,h1,h2,h3,h4⟩
 obtain ⟨r',g1,g2⟩:=hr r aH h1
 refine ⟨r',v,aH,γ',C',rfl,g2,h2,h3.wk fun t=> ?_,h4⟩
 simp only [Am.get]
 split
 · exact g1
 · exact .same _
theorem Cl.up {n:Nat} {a:AV} (h:Cl n a) {m:Nat} (hm:n≤m):Cl m a:=by
 induction h with
 |ptr s o hs=>exact .ptr _ _ (by omega)
 |fn f cs _ ih=>exact .fn _ _ fun a ha=>ih a ha
 |agg cs _ ih=>exact .agg _ fun a ha=>ih a ha
 |bK cs _ ih=>exact .bK _ fun a ha=>ih a ha
 |v=>exact .v _
 |int=>exact .int ..
 |bool=>exact .bool _
 |str=>exact .str _
 |sl=>exact .sl ..
 |ep e o _ ih=>exact .ep _ _ fun a ha=>ih a ha
 |cI s k o n hs=>exact .cI _ _ _ _ (by omega)
 |pY=>exact .pY ..
 |cu s k o n hs=>exact .cu _ _ _ _ (by omega)
 |dU=>exact .dU
 |un=>exact .un
theorem mY.up {n m:Nat} {ah:AH} (h:mY n ah) (hm:n≤m):mY m ah:=fun s cs hs a ha=>(h s cs hs a ha).up hm
theorem mY.app {n:Nat} {ah qY:AH} (h:mY n ah) (h2:mY n qY):mY n (ah++qY):=by
 intro s cs hs a ha
 rw [List.getElem?_append] at hs
 split at hs
 · exact h s cs hs a ha
 · exact h2 _ cs hs a ha
theorem mY.one {n:Nat} {cs:List AV} (h:∀a∈cs,Cl n a):mY n [cs]:=by
 intro s ds hs a ha
 rcases s with _|s
 · simp at hs;subst hs;exact h a ha
 · simp at hs
end Go.Am
end
section
namespace Go.Am
open Go
variable [Tabs]
def W1 (a a':AV):Prop:=a'=a∨∃t k xs,a= .sl t k xs∧a'= .sl .n k xs
def cx:List AV→List AV→Prop
 |[],[]=>True
 |a::r,a'::r'=>W1 a a'∧cx r r'
 |_,_=>False
theorem cx.len:∀ {cs cs':List AV},cx cs cs'→cs'.length=cs.length:=by
 intro cs
 induction cs with
 |nil=>intro cs' h;cases cs' with|nil=>rfl|cons=>exact h.elim
 |cons a r ih=>intro cs' h;cases cs' with|nil=>exact h.elim|cons a' r'=>simp [ih h.2]
theorem cx.get:∀ {cs cs':List AV},cx cs cs'→∀(i:Nat) (a a':AV),cs[i]? =some a→cs'[i]? =some a'→W1 a a':=by
 intro cs
 induction cs with
 |nil=>intro cs' _ i a a' h;simp at h
 |cons a r ih=>
  intro cs' h i b b' h1 h2
  cases cs' with
  |nil=>exact h.elim
  |cons a' r'=>
   rcases i with _|i
   · simp at h1 h2;subst h1;subst h2;exact h.1
   · exact ih h.2 i b b' (by simpa using h1) (by simpa using h2)
def W2 (a a':AV):Prop:=W1 a a'∨∃ds ds',a= .agg ds∧a'= .agg ds'∧cx ds ds'
def pG:List AV→List AV→Prop
 |[],[]=>True
 |a::r,a'::r'=>W2 a a'∧pG r r'
 |_,_=>False
theorem pG.len:∀ {cs cs':List AV},pG cs cs'→cs'.length=cs.length:=by
 intro cs
 induction cs with
 |nil=>intro cs' h;cases cs' with|nil=>rfl|cons=>exact h.elim
 |cons a r ih=>intro cs' h;cases cs' with|nil=>exact h.elim|cons a' r'=>simp [ih h.2]
theorem pG.get:∀ {cs cs':List AV},pG cs cs'→∀(i:Nat) (a a':AV),cs[i]? =some a→cs'[i]? =some a'→W2 a a':=by
 intro cs
 induction cs with
 |nil=>intro cs' _ i a a' h;simp at h
 |cons a r ih=>
  intro cs' h i b b' h1 h2
  cases cs' with
  |nil=>exact h.elim
  |cons a' r'=>
   rcases i with _|i
   · simp at h1 h2;subst h1;subst h2;exact h.1
   · exact ih h.2 i b b' (by simpa using h1) (by simpa using h2)
theorem W2.wk {a a':AV} (h:W2 a a'):Wk a a':=by
 rcases h with (rfl|⟨t,k,xs,rfl,rfl⟩)|⟨ds,ds',rfl,rfl,h⟩
 · exact .same _
 · exact .n ..
 · exact .agg _ _ h.len h.get
theorem W2.tcy {a a':AV} {v:Value} (h:W2 a a') (ht:HN a v):HN a' v:=by
 rcases h with (rfl|⟨t,k,xs,rfl,rfl⟩)|⟨ds,ds',rfl,rfl,h⟩
 · exact ht
 · exact Tv ..
 · cases v with
   |agg vs=>
    intro i a' hi
    have hlt:i<ds.length:=by rw [←h.len];exact (List.getElem?_eq_some_iff.1 hi).1
    rcases h.get i _ _ (List.getElem?_eq_getElem hlt) hi with e|⟨t,k,xs,e1,rfl⟩
    · rw [e];exact ht i _ (List.getElem?_eq_getElem hlt)
    · exact HO ..
   |_=>trivial
inductive Wx:AV→AV→Prop
 |wk (a a'):Wk a a'→(∀l k xs,a'≠ .sl (.fr l) k xs)→Wx a a'
 |own (k xs):Wx (.sl .ex k xs) (.sl .own k xs)
 |PG (cs cs'):pG cs cs'→Wx (.bK cs) (.bK cs')
def vq (cs cs':List AV):Prop:=cs'.length=cs.length∧∀(i:Nat) (a a':AV),cs[i]? =some a→cs'[i]? =some a'→Wx a a'
def eT (ah aH:AH):Prop:=aH.length=ah.length∧∀(s:Nat) (cs':List AV),aH[s]? =some cs'→∃cs,ah[s]? =some cs∧(cs'=cs∨vq cs cs')
def WS (e:Env) (ah:AH) (e1:Env) (b7:AH):Prop:=(∀t,Wx (get e t) (get e1 t))∧eT ah b7
theorem Wx.vr {C:Nat→List Value} {γ:List Nat} {a a':AV} {v:Value} (hw:Wx a a') (h:VR C γ a v):VR C γ a' v:=by
 cases hw with
 |wk _ _ hk=>exact hk.vr h
 |own=>exact h.kg _
 |PG cs cs' hc=>
  obtain ⟨vs,rfl,hs,hv⟩:=h.vX
  refine .bK _ _ _ (by rw [hc.len];exact hs) fun i a' hi=> ?_
  have hlt:i<cs.length:=by rw [←hc.len];exact (List.getElem?_eq_some_iff.1 hi).1
  exact (hc.get i _ _ (List.getElem?_eq_getElem hlt) hi).wk.vr (hv i _ (List.getElem?_eq_getElem hlt))
theorem Wx.tc {w:World} {C:Nat→List Value} {γ:List Nat} {a a':AV} {v:Value} (hw:Wx a a') (hv:VR C γ a v) (h:TC w C a v):TC w C a' v:=by
 cases hw with
 |wk _ _ hk=>exact hk.tc h
 |own k xs=>
  obtain ⟨ad,c,rfl, -⟩:=hv.fB
  exact .inl h
 |PG cs cs' hc=>
  obtain ⟨vs,rfl, -, -⟩:=hv.vX
  intro i a' hi
  have hlt:i<cs.length:=by rw [←hc.len];exact (List.getElem?_eq_some_iff.1 hi).1
  exact (hc.get i _ _ (List.getElem?_eq_getElem hlt) hi).tcy (h i _ (List.getElem?_eq_getElem hlt))
theorem Wx.bR {w:World} {C:Nat→List Value} {γ:List Nat} {a a':AV} {v:Value} {b:Nat} (hw:Wx a a') (hv:VR C γ a v) (ht:TC w C a v) (h:bR a' v=some b):Am.bR a v=some b:=by
 cases hw with
 |wk _ _ hk=>exact hk.own h
 |own k xs=>
  obtain ⟨ad,c,rfl, -⟩:=hv.fB
  have hc:c=xs.length:=ht
  subst hc
  cases ad<;>simp [Am.bR] at h
 |PG=>simp [Am.bR] at h
theorem SR.wx {L N F γ C e ah ts w} (h:SR L N F γ C e ah ts w) {e':Env} {aH:AH} (hw:WS e ah e' aH):SR L N F γ C e' aH ts w:=by
 obtain ⟨he,hl,hh⟩:=hw
 have hb:∀p b,blk γ e' aH ts w p b→blk γ e ah ts w p b:=by
  intro p b hp
  cases p with
  |obj s=>exact hp
  |tmp t=>exact (he t).bR (h.env t).1 (h.env t).2 hp
  |cell s i=>
   obtain ⟨cs',a',b0,h1,h2,h3,h4⟩:=hp
   obtain ⟨cs,g1,g2⟩:=hh s cs' h1
   rcases g2 with rfl|⟨g2,g3⟩
   · exact ⟨_,a',b0,g1,h2,h3,h4⟩
   · have hlt:i<cs.length:=by rw [←g2];exact (List.getElem?_eq_some_iff.1 h2).1
     have h0:cs[i]? =some cs[i]:=List.getElem?_eq_getElem hlt
     refine ⟨cs,cs[i],b0,g1,h0,h3, ?_⟩
     obtain ⟨vs,ty,q1,q2,q3⟩:=h.mem.obj s b0 cs g1 h3
     have hc:(w.cell? ⟨b0,i,none⟩).getD undef=vs.getD i undef:=by
      rw [di q1];simp [Array.getD_eq_getD_getElem?]
     rw [hc] at h4 ⊢
     exact (g3 i _ _ h0 h2).bR (q3 i _ h0).1 (q3 i _ h0).2 h4
 refine ⟨⟨by rw [h.mem.len,hl],fun s b cs' h1 h2=> ?_,h.mem.uf,fun s b cs' h1 hne h2=> ?_,fun s b cs' us ty fr h1 h2 h3=> ?_⟩,h.sz,fun t=>⟨(he t).vr (h.env t).1,(he t).tc (h.env t).1 (h.env t).2⟩,fun p q b hp hq=>h.dG p q b (hb p b hp) (hb q b hq),
  fun p b hp=>h.nf p b (hb p b hp),h.kA,fun t l k xs ht=> ?_⟩
 · obtain ⟨cs,g1,g2⟩:=hh s cs' h1
   obtain ⟨vs,ty,q1,q2,q3⟩:=h.mem.obj s b cs g1 h2
   rcases g2 with rfl|⟨g2,g3⟩
   · exact ⟨vs,ty,q1,q2,q3⟩
   · refine ⟨vs,ty,q1,by omega,fun i a' hi=> ?_⟩
     have hlt:i<cs.length:=by rw [←g2];exact (List.getElem?_eq_some_iff.1 hi).1
     have h0:cs[i]? =some cs[i]:=List.getElem?_eq_getElem hlt
     exact ⟨(g3 i _ _ h0 hi).vr (q3 i _ h0).1,(g3 i _ _ h0 hi).tc (q3 i _ h0).1 (q3 i _ h0).2⟩
 · obtain ⟨cs,g1,g2⟩:=hh s cs' h1
   refine h.mem.pZ s b cs g1 ?_ h2
   rintro rfl
   rcases g2 with rfl|⟨g2, -⟩
   · exact hne rfl
   · exact hne (List.eq_nil_of_length_eq_zero g2)
 · obtain ⟨cs,g1,g2⟩:=hh s cs' h1
   have hl':cs'.length=cs.length:=by
    rcases g2 with rfl|⟨g2, -⟩
    · rfl
    · exact g2
   rw [hl']
   exact h.mem.BO s b cs us ty fr g1 h2 h3
 · exfalso
   have:=he t
   rw [ht] at this
   generalize get e t=a at this
   cases this with
   |wk _ _ _ hn=>exact hn l k xs rfl
theorem eT.refl (ah:AH):eT ah ah:=⟨rfl,fun s cs h=>⟨cs,h, .inl rfl⟩⟩
theorem eT.set {ah:AH} {q:Nat} {cs cs':List AV} (hq:ah[q]? =some cs) (hc:vq cs cs'):eT ah (ah.set q cs'):=by
 refine ⟨by simp,fun s ds hs=> ?_⟩
 rw [List.getElem?_set] at hs
 split at hs
 · rename_i h;subst h
   split at hs
   · injection hs with hs;subst hs;exact ⟨cs,hq, .inr hc⟩
   · cases hs
 · exact ⟨ds,hs, .inl rfl⟩
theorem Wx.un (a:AV):Wx a .un:= .wk _ _ (.un _) (by simp)
theorem Wx.n {t:Tg} {k:Nat} {xs:List AV}:Wx (.sl t k xs) (.sl .n k xs):= .wk _ _ (.n ..) (by simp)
theorem Wx.same {a:AV} (h:∀l k xs,a≠ .sl (.fr l) k xs):Wx a a:= .wk _ _ (.same _) h
theorem Wx.int {k:IntKind} {i:Int}:Wx (.int k i) (.int k i):= .same (by simp)
theorem Wx.b8 {c:UInt8}:Wx (b8 c) (b8 c):= .same (by simp [Am.b8])
theorem Wx.bool {b:Bool}:Wx (.bool b) (.bool b):= .same (by simp)
theorem Wx.str {l:List UInt8}:Wx (.str l) (.str l):= .same (by simp)
theorem Wx.ptr {s o:Nat}:Wx (.ptr s o) (.ptr s o):= .same (by simp)
theorem Wx.v {x:Value}:Wx (.v x) (.v x):= .same (by simp)
theorem Wx.fn {f:Nat} {cs:List AV}:Wx (.fn f cs) (.fn f cs):= .same (by simp)
theorem Wx.ep {a:AV} {o:Nat}:Wx (.ep a o) (.ep a o):= .same (by simp)
theorem Wx.ex {k:Nat} {xs:List AV}:Wx (.sl .ex k xs) (.sl .ex k xs):= .same (by simp)
theorem Wx.nn {k:Nat} {xs:List AV}:Wx (.sl .n k xs) (.sl .n k xs):= .same (by simp)
theorem Wx.oo {k:Nat} {xs:List AV}:Wx (.sl .own k xs) (.sl .own k xs):= .same (by simp)
theorem Wx.agg {cs cs':List AV} (h:cx cs cs'):Wx (.agg cs) (.agg cs'):= .wk _ _ (.agg _ _ h.len h.get) (by simp)
theorem Wx.bK {cs cs':List AV} (h:cx cs cs'):Wx (.bK cs) (.bK cs'):= .wk _ _ (.bK _ _ h.len h.get) (by simp)
theorem Wx.adJ {cs cs':List AV} (h:pG cs cs'):Wx (.bK cs) (.bK cs'):= .PG _ _ h
theorem pG.nil:pG [] []:=trivial
theorem pG.same {a:AV} {r r':List AV} (h:pG r r'):pG (a::r) (a::r'):=⟨.inl (.inl rfl),h⟩
theorem pG.n {t:Tg} {k:Nat} {xs:List AV} {r r':List AV} (h:pG r r'):pG (.sl t k xs::r) (.sl .n k xs::r'):=⟨.inl (.inr ⟨_,_,_,rfl,rfl⟩),h⟩
theorem pG.agg {ds ds':List AV} {r r':List AV} (hd:cx ds ds') (h:pG r r'):pG (.agg ds::r) (.agg ds'::r'):=⟨.inr ⟨_,_,rfl,rfl,hd⟩,h⟩
theorem cx.nil:cx [] []:=trivial
theorem cx.same {a:AV} {r r':List AV} (h:cx r r'):cx (a::r) (a::r'):=⟨.inl rfl,h⟩
theorem cx.n {t:Tg} {k:Nat} {xs:List AV} {r r':List AV} (h:cx r r'):cx (.sl t k xs::r) (.sl .n k xs::r'):=⟨.inr ⟨_,_,_,rfl,rfl⟩,h⟩
theorem vq.nil:vq [] []:=⟨rfl,fun i a a' h=>by simp at h⟩
theorem vq.cons {a a':AV} {r r':List AV} (h:Wx a a') (hr:vq r r'):vq (a::r) (a'::r'):=by
 refine ⟨by simp [hr.1],fun i b b' h1 h2=> ?_⟩
 rcases i with _|i
 · simp at h1 h2;subst h1;subst h2;exact h
 · exact hr.2 i b b' (by simpa using h1) (by simpa using h2)
def WE (e e1:Env):Prop:=∀p∈e1,Wx (Am.get e p.1) p.2
theorem WE.nil {e:Env}:WE e []:=by intro p hp;cases hp
theorem WE.cons {e r:Env} {i:Nat} {a:AV} (h:Wx (Am.get e i) a) (hr:WE e r):WE e ((i,a)::r):=by
 intro p hp
 rcases List.mem_cons.1 hp with rfl|hp
 · exact h
 · exact hr p hp
theorem WE.all {e e1:Env} (h:WE e e1):∀t,Wx (Am.get e t) (Am.get e1 t):=by
 intro t
 have key:∀e1:Env,Am.get e1 t= .un∨∃p∈e1,p.1=t∧Am.get e1 t=p.2:=by
  intro e1
  induction e1 with
  |nil=>exact .inl rfl
  |cons p r ih=>
   obtain ⟨i,a⟩:=p
   simp only [Am.get]
   split
   · rename_i h;exact .inr ⟨(i,a),by simp,h,rfl⟩
   · rcases ih with h|⟨p,hp,h1,h2⟩
     · exact .inl h
     · exact .inr ⟨p,List.mem_cons_of_mem _ hp,h1,h2⟩
 rcases key e1 with h0|⟨p,hp,rfl,h2⟩
 · rw [h0];exact Wx.un _
 · rw [h2];exact h p hp
section
variable {P:Program} {L:List Nat} {N n0:Nat} {e:Env} {ah:AH} {t:List It} {Q K:Exit→Env→AH→Prop} {r:List aQ} {d:Option Nat}
theorem AW.Ib {c:Code} {e1:Env} {b7:AH} (hw:WS e ah e1 b7) (h:AW P L N n0 c Q e1 b7):AW P L N n0 c Q e ah:=
 fun F γ C ts w hs hn=>h F γ C ts w (hs.wx hw) hn
theorem AW.closed {c:Code} (h:AW P L N n0 c (fun x e ah=>Q x e ah∨∃e1 b7,WS e ah e1 b7∧Q x e1 b7) e ah):AW P L N n0 c Q e ah:=by
 intro F γ C ts w hs hn
 refine wp_mono (h F γ C ts w hs hn) ?_
 rintro x a w' ⟨hd,hg,e',aH,γ',C',h1,h2,h3,h4⟩
 rcases h1 with h1|⟨e1,b7,hw,h1⟩
 · exact ⟨hd,hg,e',aH,γ',C',h1,h2,h3,h4⟩
 · exact ⟨hd,hg,e1,b7,γ',C',h1,h2,h3.wx hw,h4⟩
theorem AX.weak {c:aD} {e1:Env} {b7:AH} (he:WE e e1) (hh:eT ah b7) (h:AX P L N n0 c Q e1 b7):AX P L N n0 c Q e ah:=
 fun c' cj=>AW.Ib ⟨he.all,hh⟩ (h c' cj)
theorem AX.mono {c:aD} {Q':Exit→Env→AH→Prop} (h:AX P L N n0 c Q e ah) (hq:∀x e ah,Q x e ah→Q' x e ah):AX P L N n0 c Q' e ah:=
 fun c' cj=>(h c' cj).mono hq
theorem AX.go {m c:aD} (hm:erase m=c) (ho:qZ N c=true)
 (h:∀K':Exit→Env→AH→Prop,(∀x e ah e1 b7,WE e e1→eT ah b7→K x e1 b7→K' x e ah)→U P L N n0 [.code m] K' .normal e ah):AX P L N n0 c K e ah:=by
 subst hm
 intro c' cj
 refine AW.closed (pS c' m _ e ah cj ho (h _ ?_))
 intro x e ah e1 b7 h1 h2 h3
 exact .inr ⟨e1,b7,⟨h1.all,h2⟩,h3⟩
theorem abh {c:aD} (h:AX P L N n0 c (fun x e ah=>U P L N n0 t Q x e ah) e ah):UX P L N n0 c t Q e ah:=h
inductive St (ρ τ σ:Type) where
 |ret (r:ρ)
 |fJ (t:τ)
 |cT (s:σ)
def iter {ρ τ σ:Type} (body:σ→Option (St ρ τ σ)):Nat→σ→Option (ρ⊕τ)
 |0,_=>none
 |n+1,s=>match body s with
  |none=>none
  |some (.ret r)=>some (.inl r)
  |some (.fJ t)=>some (.inr t)
  |some (.cT s')=>iter body n s'
theorem AX.iter {ρ τ σ:Type} {body:σ→Option (St ρ τ σ)} {m c:aD} (hm:erase m=c) (ho:qZ N c=true) (J:σ→Env→AH→Prop) {F:Nat} {s0:σ} {o:ρ⊕τ} (hit:Am.iter body F s0=some o) (h0:J s0 e ah)
 (round:∀(K':Exit→Env→AH→Prop) s st e ah,J s e ah→body s=some st→
  (∀s',st= .cT s'→∀e' aH e1 b7,WE e' e1→eT aH b7→J s' e1 b7→K' .normal e' aH)→
  (∀t,st= .fJ t→o= .inr t)→(∀r,st= .ret r→o= .inl r)→
  (∀x e' aH e1 b7,x≠ .normal→WE e' e1→eT aH b7→K x e1 b7→K' x e' aH)→U P L N n0 [.code m] K' .normal e ah):AX P L N n0 (.loop c) K e ah:=by
 subst hm
 intro c'
 induction c' with
 |loop c0 _=>
  intro cj
  simp only [bQ,Option.map_eq_some_iff] at cj
  obtain ⟨a,ha,he⟩:=cj
  injection he with he
  subst he
  refine AW.loop (fun k e ah=>∃s e1 b7,WS e ah e1 b7∧J s e1 b7∧Am.iter body k s=some o∨(J s e ah∧Am.iter body k s=some o)) (k0:=F) ?_ ⟨s0,e,ah, .inr ⟨h0,hit⟩⟩
  have main:∀k s e ah,J s e ah→Am.iter body k s=some o→AW P L N n0 c0 (fun x e' aH=>match x with
   | .normal=>∃k',k'<k∧∃s e1 b7,WS e' aH e1 b7∧J s e1 b7∧Am.iter body k' s=some o∨(J s e' aH∧Am.iter body k' s=some o)|x=>K x e' aH) e ah:=by
   intro k s e ah hJ hk
   cases k with
   |zero=>simp [Am.iter] at hk
   |succ k=>
    cases hb:body s with
    |none=>simp [Am.iter,hb] at hk
    |some st=>
     simp only [Am.iter,hb] at hk
     refine AW.closed (pS c0 m _ e ah ha ho (round _ s st e ah hJ hb ?_ ?_ ?_ ?_))
     · rintro s' rfl e' aH e1 b7 g1 g2 g3
       exact .inl ⟨k,Nat.lt_succ_self k,s',e1,b7, .inl ⟨⟨g1.all,g2⟩,g3,hk⟩⟩
     · rintro t rfl;simp only [Option.some.injEq] at hk;exact hk.symm
     · rintro r rfl;simp only [Option.some.injEq] at hk;exact hk.symm
     · intro x e' aH e1 b7 hx g1 g2 g3
       cases x with
       |normal=>exact absurd rfl hx
       |_=>exact .inr ⟨e1,b7,⟨g1.all,g2⟩,g3⟩
  rintro k e ah ⟨s,e1,b7,⟨hw,hJ,hk⟩|⟨hJ,hk⟩⟩
  · exact AW.Ib hw (main k s e1 b7 hJ hk)
  · exact main k s e ah hJ hk
 |scope c0 ih=>exact fun cj=>AW.scope (ih cj)
 |region id ops draw=>intro cj;simp only [bQ] at cj;repeat' (split at cj)<;>simp at cj
 |block i c0=>intro cj;simp only [bQ,Option.map_eq_some_iff] at cj;obtain ⟨a, -,h⟩:=cj;cases h
 |seq a b=>intro cj;simp only [bQ] at cj;split at cj<;>simp at cj
 |cond a b c=>intro cj;simp only [bQ] at cj;split at cj<;>simp at cj
 |_=>intro cj;simp [bQ] at cj
theorem aG.wkx {f:Nat} {args:List AV} {ah:AH} {R R':AV→AH→Prop} (h:aG P f args ah R) (hr:∀r aH,R r aH→∃r' EB,Wx r r'∧eT aH EB∧R' r' EB):aG P f args ah R':=by
 refine ⟨h.1,fun F γ C w vs hs=>(h.2 F γ C w vs hs).mono ?_⟩
 rintro en w' ⟨r,v,aH,γ',C',rfl,h1,h2,h3,h4⟩
 obtain ⟨r',EB,g1,g2,g3⟩:=hr r aH h1
 refine ⟨r',v,EB,γ',C',rfl,g3,h2,h3.wx ⟨fun t=> ?_,g2⟩,h4⟩
 simp only [Am.get]
 split
 · exact g1
 · exact Wx.un _
def WL:List AV→List AV→Prop
 |[],[]=>True
 |a::r,a'::r'=>Wx a a'∧WL r r'
 |_,_=>False
theorem WL.nil:WL [] []:=trivial
theorem WL.cons {a a':AV} {r r':List AV} (h:Wx a a') (hr:WL r r'):WL (a::r) (a'::r'):=⟨h,hr⟩
theorem WL.len:∀ {zq zq':List AV},WL zq zq'→zq'.length=zq.length:=by
 intro zq
 induction zq with
 |nil=>intro zq' h;cases zq' with|nil=>rfl|cons=>exact h.elim
 |cons a r ih=>intro zq' h;cases zq' with|nil=>exact h.elim|cons a' r'=>simp [ih h.2]
theorem WL.get:∀ {zq zq':List AV},WL zq zq'→∀(i:Nat) (a a':AV),zq[i]? =some a→zq'[i]? =some a'→Wx a a':=by
 intro zq
 induction zq with
 |nil=>intro zq' _ i a a' h;simp at h
 |cons a r ih=>
  intro zq' h i b b' h1 h2
  cases zq' with
  |nil=>exact h.elim
  |cons a' r'=>
   rcases i with _|i
   · simp at h1 h2;subst h1;subst h2;exact h.1
   · exact ih h.2 i b b' (by simpa using h1) (by simpa using h2)
theorem aG.Ib {f:Nat} {args args':List AV} {ah b7:AH} {R:AV→AH→Prop} (hw:WL args args') (hh:eT ah b7) (h:aG P f args' b7 R):aG P f args ah R:=by
 refine ⟨h.1,fun F γ C w vs hs=>h.2 F γ C w vs ?_⟩
 rw [hw.len]
 refine hs.wx ⟨fun t=> ?_,hh⟩
 rw [eF,eF]
 simp only [Nat.zero_le,if_true,Nat.sub_zero]
 cases h1:args[t]? with
 |none=>
  have:args'[t]? =none:=by
   rw [List.getElem?_eq_none_iff] at h1 ⊢
   rw [hw.len];exact h1
  rw [this];exact Wx.un _
 |some a=>
  have hlt:t<args'.length:=by rw [hw.len];exact (List.getElem?_eq_some_iff.1 h1).1
  rw [List.getElem?_eq_getElem hlt]
  exact hw.get t a _ h1 (List.getElem?_eq_getElem hlt)
theorem aaj {f:Nat} {zq zq':List AV} {b7:AH} {R:AV→AH→Prop} (h:aG P f zq' b7 R) (hw:WL zq zq') (hh:eT ah b7) (hk:∀v aH,R v aH→U P L N n0 (.ops r::t) Q .normal (aI L (wu e) d v.df) aH):
 UK P L N n0 f zq d r t Q e ah:=(h.Ib hw hh).mono hk
def wB (P:Program) (ah:AH) (rs:List ResultVar) (R:AV→AH→Prop) (e':Env) (H:AH):Prop:=
 ∃vs r' aH,gN P e' H rs=some vs∧Wx (fin vs) r'∧R r' aH∧
  ((Cl ah.length (fin vs)∧mY ah.length (H.take ah.length)∧ah.length≤H.length∧eT (H.take ah.length) aH)∨eT H aH)
theorem aG.goX {f:Nat} {rs:List ResultVar} {ac m:aD} (hF:bx P f N rs ac) (hm:erase m=ac) {args:List AV} {R:AV→AH→Prop} (L:List Nat)
 (ho:qZ N ac=true) (hN:args.length≤N)
 (h:mY ah.length ah→∀K:Exit→Env→AH→Prop,(∀x e' H,x= .normal∨x= .ret→wB P ah rs R e' H→K x e' H)→
  AX P L N ah.length ac K (fo 0 args) ah):aG P f args ah R:=by
 refine aG.wkx (R:=fun r aH=>∃r' EB,Wx r r'∧eT aH EB∧R r' EB) ?_ (fun r aH h=>h)
 obtain ⟨fn,c,h1,h2,h3,h4,rfl,rfl⟩:=hF
 refine aG.Px L h1 h2 h3 h4 ho hN ?_
 intro hcl hargs
 refine h hcl _ ?_
 rintro x e' H hx ⟨vs,r',aH,g1,g2,g3,⟨g4,g5,g6,g7⟩|g4⟩
 · refine .inl ⟨ah.length,Nat.le_refl _,hx, ?_⟩
   rw [g1]
   exact ⟨g4,g5,g6,r',aH,g2,g7,g3⟩
 · refine .inr ⟨hx, ?_⟩
   rw [g1]
   exact ⟨r',aH,g2,g4,g3⟩
end
end Go.Am
end
section
namespace Go.Am
open Go
variable [Tabs]
def idx {α:Type} (l:List α) (i:Int):Option α:=if 0≤i then l[i.toNat]? else none
def sub {α:Type} (l:List α) (i j:Int):Option (List α):=if 0≤i∧i≤j∧j≤l.length then some ((l.take j.toNat).drop i.toNat) else none
def cB {α:Type} (b:Nat) (xs ys:List α):Option (List α):=if (xs.length+ys.length)*b≤140737488355328∧xs.length+ys.length≤4611686018427387904 then some (xs++ys) else none
def cat (l m:List UInt8):Option (List UInt8):=if l.length+m.length≤9223372036854775807 then some (l++m) else none
def ml {α:Type} (f:α→AV) (xs:List α):List AV:=xs.map f
def dv (k:IntKind) (i j:Int):Option Int:=if j=0 then none else some (k.wrap (i.tdiv j))
def rm (k:IntKind) (i j:Int):Option Int:=if j=0 then none else some (i.tmod j)
def shl (k:IntKind) (i j:Int):Int:=k.wrap (i*2 ^ (min j.toNat k.bits))
def shr (k:IntKind) (i j:Int):Int:=i.fdiv (2 ^ (min j.toNat k.bits))
def yE (k:IntKind) (i j:Int):Int:=k.wrap (BitVec.ofInt k.bits i &&& BitVec.ofInt k.bits j).toNat
def Kl (k:IntKind) (i j:Int):Int:=k.wrap (BitVec.ofInt k.bits i ||| BitVec.ofInt k.bits j).toNat
def tw (k:IntKind) (i j:Int):Int:=k.wrap (BitVec.ofInt k.bits i ^^^ BitVec.ofInt k.bits j).toNat
def iY (k:IntKind) (i:Int):AV:= .int k i
theorem ay {α β:Type} {o:Option α} {f:α→Option β} {r:β} (h:o.bind f=some r):∃x,o=some x∧f x=some r:=Option.bind_eq_some_iff.1 h
theorem ifb {β:Type} {B:Bool} {x y:Option β} {r:β} (h:(if B=true then x else y)=some r):(B=true∧x=some r)∨(B=false∧y=some r):=by
 cases B
 · exact .inr ⟨rfl,h⟩
 · exact .inl ⟨rfl,h⟩
theorem UA {β:Type} {p:Prop} [Decidable p] {x:Option β} {r:β} (h:(if p then x else none)=some r):p∧x=some r:=by
 split at h
 · exact ⟨by assumption,h⟩
 · cases h
theorem PI {α:Type} (f:α→AV) (l:List α) (i:Int):idx (ml f l) i=(idx l i).map f:=by
 unfold idx ml;split<;>simp
theorem Ic {α:Type} (f:α→AV) (l:List α) (i j:Int):sub (ml f l) i j=(sub l i j).map (ml f):=by
 unfold sub ml;simp only [List.length_map];split<;>simp [List.map_take,List.map_drop,ml]
theorem Ea {α:Type} (f:α→AV) (l:List α):(ml f l).length=l.length:=by simp [ml]
theorem ez {α:Type} {f:α→AV} {b:Nat} {xs ys zs:List α} (h:cB b xs ys=some zs):cB b (ml f xs) (ml f ys)=some (ml f zs):=by
 unfold cB at h ⊢
 simp only [Ea]
 obtain ⟨hc,h⟩:=UA h
 rw [if_pos hc]
 injection h with h
 subst h
 simp [ml]
theorem C7 (l:List UInt8):bytesOf (ml b8 l)=some l:=Kk l
section
variable {P:Program} {L:List Nat} {N n0:Nat} {e:Env} {ah:AH} {t:List It} {Q:Exit→Env→AH→Prop} {r:List aQ} {d:Option Nat} {g:Option (Nat×Bool)}
theorem abi {y:Nat} {bs:List UInt8}:UG P L N n0 ⟨d, .lit y bs,g⟩ r t Q e ah (some true)=U P L N n0 (It.ops r::t) Q Exit.normal (put (aI L e d (.sl .ex 1 (ml b8 bs))) y .un) ah:=rfl
theorem PJ {l:List UInt8} {k:IntKind} {i:Int}:Kh L e ah d (.str l) (.int k i)=(idx l i).map fun c=>(aI L e d (b8 c),ah):=by
 simp only [Kh,idx]
 split
 · cases l[i.toNat]? <;>rfl
 · rfl
theorem PK {tg:Tg} {k:Nat} {xs:List AV} {ki:IntKind} {i:Int}:tu L e ah d k (.sl tg k xs) (.int ki i)=(idx xs i).map fun a=>(aI L e d (.ep a 0),ah):=by
 simp only [tu,idx]
 split
 · cases xs[i.toNat]? <;>simp [PD]
 · rfl
def bI (e:Env) (dflt:Int):Option Ar→AV
 |none=> .int .i64 dflt
 |some x=>ev e x
def PL (L:List Nat) (e:Env) (ah:AH) (d:Option Nat) (l:List UInt8):AV→AV→Option (Env×AH)
 | .int _ i, .int _ j=>(sub l i j).map fun m=>(aI L e d (.str m),ah)
 |_,_=>none
theorem Ie {n:Nat} {x:Option Ar}:mX e n x=uU (bI e n x):=by
 cases x with
 |none=>simp [mX,bI,uU]
 |some x=>simp only [Uv,bI]
theorem EC {x:Option Ar}:mX e 0 x=uU (bI e 0 x):=Ie (n:=0)
theorem ac5 {k:IntKind} {i:Int}:uU (.int k i)=if 0≤i then some i.toNat else none:=rfl
theorem ED {α:Type} (l:List α) (i j:Int):sub l i j=if 0≤i then if 0≤j then if i.toNat≤j.toNat∧j.toNat≤l.length then some ((l.take j.toNat).drop i.toNat) else none else none else none:=by
 unfold sub
 by_cases h1:0≤i
 · by_cases h2:0≤j
   · simp only [if_pos h1,if_pos h2]
     have:(0≤i∧i≤j∧j≤(l.length:Int))↔(i.toNat≤j.toNat∧j.toNat≤l.length):=by omega
     simp only [this]
   · rw [if_neg (by omega)];simp [h2]
 · rw [if_neg (by omega)];simp [h1]
theorem YO {l:List UInt8} {lo hi:Option Ar}:PA L e ah d lo hi (.str l)=PL L e ah d l (bI e 0 lo) (bI e l.length hi):=by
 simp only [PA,EC,Ie]
 generalize bI e 0 lo=a
 generalize bI e l.length hi=b
 cases a with
 |int k i=>
  cases b with
  |int k' j=>
   simp only [uU,PL,ED]
   by_cases h1:0≤i<;>by_cases h2:0≤j<;>simp only [h1,h2,if_true,if_false,Pz,Option.map_none]
   split<;>rfl
  |_=>simp only [uU,PL];split<;>rfl
 |_=>cases b<;>rfl
def PM (L:List Nat) (e:Env) (ah:AH) (d:Option Nat) (k:Nat) (xs:List AV):AV→AV→Option (Env×AH)
 | .int _ i, .int _ j=>(sub xs i j).map fun ys=>(aI L e d (.sl .n k ys),ah)
 |_,_=>none
theorem YP {tg:Tg} {k:Nat} {xs:List AV} {lo hi:Option Ar}:PC L e ah d k lo hi (.sl tg k xs)=PM L e ah d k xs (bI e 0 lo) (bI e xs.length hi):=by
 simp only [PC,EC,Ie]
 generalize bI e 0 lo=a
 generalize bI e xs.length hi=b
 cases a with
 |int k i=>
  cases b with
  |int k' j=>
   simp only [uU,PM,ED]
   by_cases h1:0≤i<;>by_cases h2:0≤j<;>simp only [h1,h2,if_true,if_false,PB,Option.map_none,true_and]
   split<;>rfl
  |_=>simp only [uU,PM];split<;>rfl
 |_=>cases b<;>rfl
def wC {α:Type} (l:List α) (i j m:Int):Option (List α):=if j=m then sub l i j else none
theorem Km {α:Type} (f:α→AV) (l:List α) (i j m:Int):wC (ml f l) i j m=(wC l i j m).map (ml f):=by
 unfold wC;split
 · exact Ic ..
 · rfl
def EE (L:List Nat) (e:Env) (ah:AH) (d:Option Nat) (k:Nat) (xs:List AV):AV→AV→AV→Option (Env×AH)
 | .int _ i, .int _ j, .int _ m=>(wC xs i j m).map fun ys=>(aI L e d (.sl .ex k ys),ah)
 |_,_,_=>none
theorem UB {tg:Tg} {k:Nat} {xs:List AV} {lo:Option Ar} {hi m:Ar}:Ia L e ah d k lo hi m (.sl tg k xs)=EE L e ah d k xs (bI e 0 lo) (ev e hi) (ev e m):=by
 simp only [Ia,EC,Uv]
 generalize bI e 0 lo=a
 generalize ev e hi=b
 generalize ev e m=c
 cases a with
 |int k i=>
  cases b with
  |int k' j=>
   cases c with
   |int k'' l=>
    simp only [uU,EE,wC,ED]
    by_cases h1:0≤i<;>by_cases h2:0≤j<;>by_cases h3:0≤l<;>by_cases h4:j=l<;>simp only [h1,h2,h3,h4,if_true,if_false,H9,Option.map_none,true_and]
    all_goals first
     |rfl
     |(exfalso;omega)
     |(subst h4;split<;>rename_i q<;>split<;>rename_i q2<;>first|rfl|(exfalso;omega))
     |(split<;>first|rfl|(exfalso;omega))
   |_=>simp only [uU,EE];repeat' split
       all_goals first|rfl|skip
  |_=>simp only [uU,EE];repeat' split
      all_goals first|rfl|skip
 |_=>cases b<;>cases c<;>rfl
theorem YQ {tg:Tg} {k b:Nat} {x:Ar} {ys:List AV}:Ux L e ah d k b x (.sl tg k ys)=yC L e ah d k b x ys:=by simp [Ux]
theorem UD {b:Nat} {x:Ar} {l:List UInt8}:Uy L e ah d b x (.str l)=yC L e ah d 1 b x (ml b8 l):=rfl
def sM (L:List Nat) (e:Env) (ah:AH) (d:Option Nat) (k:Nat) (x:Ar) (xs zs:List AV):Tg→Option (Env×AH)
 | .ex=>some (aI L e d (.sl .own k zs),ah)
 | .own=>match x with
   | .t x=>some (aI L (put e x (.sl .n k xs)) d (.sl .own k zs),ah)
   |_=>none
 | .fr (.tmp t)=>match get e t with
   | .sl .own k' us=>if k'=k then some (aI L (put e t (.sl .n k' us)) d (.sl .own k zs),ah) else none
   |_=>none
 | .fr (.cell s q)=>match ah[s]? with
   |some cs=>match cs[q]? with
    |some (.sl .own k' us)=>if k'=k then (over cs q [.sl .n k' us]).map fun cs=>(aI L e d (.sl .own k zs),ah.set s cs) else none
    |_=>none
   |none=>none
 | .n=>none
def EG (L:List Nat) (e:Env) (ah:AH) (d:Option Nat) (k:Nat) (x:Ar) (xs:List AV) (tg:Tg):Option (List AV)→Option (Env×AH)
 |some zs=>sM L e ah d k x xs zs tg
 |none=>none
theorem UE {L:List Nat} {e:Env} {ah:AH} {d:Option Nat} {k:Nat} {x:Ar} {xs zs:List AV} {tg:Tg}:EG L e ah d k x xs tg (some zs)=sM L e ah d k x xs zs tg:=rfl
def Ig (L:List Nat) (e:Env) (ah:AH) (d:Option Nat) (k b:Nat) (x:Ar) (ys:List AV):AV→Option (Env×AH)
 | .sl tg k' xs=>if k'=k then EG L e ah d k x xs tg (cB b xs ys) else none
 |_=>none
theorem YR {k b:Nat} {x:Ar} {ys:List AV}:yC L e ah d k b x ys=Ig L e ah d k b x ys (ev e x):=by
 simp only [yC]
 cases ev e x with
 |sl tg k' xs=>
  simp only [Ig,cB]
  by_cases h1:k'=k
  · subst h1
    simp only [true_and,if_true]
    by_cases h2:(xs.length+ys.length)*b≤140737488355328∧xs.length+ys.length≤4611686018427387904
    · simp only [if_pos h2,EG]
      cases tg with
      |fr l=>cases l with
       |tmp u=>
        simp only [sM]
        cases get e u with
        |sl YS k2 zs=>cases YS<;>rfl
        |_=>rfl
       |cell s q=>
        simp only [sM]
        cases ah[s]? with
        |none=>rfl
        |some cs=>
         simp only []
         cases cs[q]? with
         |none=>rfl
         |some a=>cases a with
          |sl YS k2 zs=>cases YS<;>rfl
          |_=>rfl
      |own=>cases x<;>rfl
      |_=>rfl
    · simp only [if_neg h2,EG]
  · simp [h1]
 |_=>rfl
end
theorem UH {k:IntKind} {i j:Int}:bD .add (.int k i) (.int k j)=some (.int k (k.wrap (i+j))):=by simp [bD,cJ]
theorem UI {k:IntKind} {i j:Int}:bD .sub (.int k i) (.int k j)=some (.int k (k.wrap (i - j))):=by simp [bD,cJ]
theorem abj {k:IntKind} {i j:Int}:bD .mul (.int k i) (.int k j)=some (.int k (k.wrap (i*j))):=by simp [bD,cJ]
theorem abk {k:IntKind} {i j:Int}:bD .quo (.int k i) (.int k j)=(dv k i j).map (.int k):=by simp [bD,cJ,dv];split<;>rfl
theorem UJ {k:IntKind} {i j:Int}:bD .rem (.int k i) (.int k j)=(rm k i j).map (.int k):=by simp [bD,cJ,rm];split<;>rfl
theorem UL {k:IntKind} {i j:Int}:bD .and (.int k i) (.int k j)=some (.int k (yE k i j)):=by simp [bD,cJ,yE]
theorem aak {k:IntKind} {i j:Int}:bD .or (.int k i) (.int k j)=some (.int k (Kl k i j)):=by simp [bD,cJ,Kl]
theorem UM {k:IntKind} {i j:Int}:bD .xor (.int k i) (.int k j)=some (.int k (tw k i j)):=by simp [bD,cJ,tw]
theorem afr {k k':IntKind} {i j:Int}:bD .shl (.int k i) (.int k' j)=if j<0 then none else some (.int k (shl k i j)):=by simp [bD,shl]
theorem afs {k k':IntKind} {i j:Int}:bD .shr (.int k i) (.int k' j)=if j<0 then none else some (.int k (shr k i j)):=by simp [bD,shr]
theorem UN {k:IntKind} {i j:Int}:bD .eql (.int k i) (.int k j)=some (.bool (decide (i=j))):=by simp [bD,cJ]
theorem UO {k:IntKind} {i j:Int}:bD .neq (.int k i) (.int k j)=some (.bool (!decide (i=j))):=by simp [bD,cJ]
theorem UP {k:IntKind} {i j:Int}:bD .lss (.int k i) (.int k j)=some (.bool (decide (i<j))):=by simp [bD,cJ]
theorem UQ {k:IntKind} {i j:Int}:bD .leq (.int k i) (.int k j)=some (.bool (decide (i≤j))):=by simp [bD,cJ]
theorem UR {k:IntKind} {i j:Int}:bD .gtr (.int k i) (.int k j)=some (.bool (decide (j<i))):=by simp [bD,cJ]
theorem UT {k:IntKind} {i j:Int}:bD .geq (.int k i) (.int k j)=some (.bool (decide (j≤i))):=by simp [bD,cJ]
theorem YT {k k':IntKind} {i:Int}:bD .shr (.int k i) (.int k' 1)=some (.int k (shr k i 1)):=by simp [bD,shr]
theorem YU {k k':IntKind} {i:Int}:bD .shl (.int k i) (.int k' 1)=some (.int k (shl k i 1)):=by simp [bD,shl]
theorem YV {k k':IntKind} {i:Int}:bD .shr (.int k i) (.int k' 2)=some (.int k (shr k i 2)):=by simp [bD,shr]
theorem YW {k k':IntKind} {i:Int}:bD .shl (.int k i) (.int k' 2)=some (.int k (shl k i 2)):=by simp [bD,shl]
theorem YX {k k':IntKind} {i:Int}:bD .shr (.int k i) (.int k' 3)=some (.int k (shr k i 3)):=by simp [bD,shr]
theorem YY {k k':IntKind} {i:Int}:bD .shl (.int k i) (.int k' 3)=some (.int k (shl k i 3)):=by simp [bD,shl]
theorem YZ {k k':IntKind} {i:Int}:bD .shr (.int k i) (.int k' 4)=some (.int k (shr k i 4)):=by simp [bD,shr]
theorem Y0 {k k':IntKind} {i:Int}:bD .shl (.int k i) (.int k' 4)=some (.int k (shl k i 4)):=by simp [bD,shl]
theorem Y1 {k k':IntKind} {i:Int}:bD .shr (.int k i) (.int k' 5)=some (.int k (shr k i 5)):=by simp [bD,shr]
theorem Y2 {k k':IntKind} {i:Int}:bD .shl (.int k i) (.int k' 5)=some (.int k (shl k i 5)):=by simp [bD,shl]
theorem Y3 {k k':IntKind} {i:Int}:bD .shr (.int k i) (.int k' 6)=some (.int k (shr k i 6)):=by simp [bD,shr]
theorem Y4 {k k':IntKind} {i:Int}:bD .shl (.int k i) (.int k' 6)=some (.int k (shl k i 6)):=by simp [bD,shl]
theorem Y5 {k k':IntKind} {i:Int}:bD .shr (.int k i) (.int k' 7)=some (.int k (shr k i 7)):=by simp [bD,shr]
theorem Y6 {k k':IntKind} {i:Int}:bD .shl (.int k i) (.int k' 7)=some (.int k (shl k i 7)):=by simp [bD,shl]
theorem Y7 {k k':IntKind} {i:Int}:bD .shr (.int k i) (.int k' 8)=some (.int k (shr k i 8)):=by simp [bD,shr]
theorem Y8 {k k':IntKind} {i:Int}:bD .shl (.int k i) (.int k' 8)=some (.int k (shl k i 8)):=by simp [bD,shl]
theorem UU {k k':IntKind} {i:Int}:bD .shr (.int k i) (.int k' 16)=some (.int k (shr k i 16)):=by simp [bD,shr]
theorem UW {k k':IntKind} {i:Int}:bD .shl (.int k i) (.int k' 16)=some (.int k (shl k i 16)):=by simp [bD,shl]
theorem UY {k k':IntKind} {i:Int}:bD .shr (.int k i) (.int k' 24)=some (.int k (shr k i 24)):=by simp [bD,shr]
theorem UZ {k k':IntKind} {i:Int}:bD .shl (.int k i) (.int k' 24)=some (.int k (shl k i 24)):=by simp [bD,shl]
theorem abl {l m:List UInt8}:bD .add (.str l) (.str m)=(cat l m).map .str:=by simp only [bD,cat];split<;>rfl
theorem abm {l m:List UInt8}:bD .eql (.str l) (.str m)=some (.bool (decide (l=m))):=rfl
theorem abn {l m:List UInt8}:bD .neq (.str l) (.str m)=some (.bool (!decide (l=m))):=rfl
theorem U0 (n:Int):IntKind.wrap .u8 n=((UInt8.ofInt n).toNat:Int):=by
 have:(UInt8.ofInt n).toNat=(n % 256).toNat:=by
  rw [UInt8.ofInt]
  simp
  omega
 rw [this]
 simp only [IntKind.wrap,IntKind.bits,IntKind.signed,Bool.false_and,if_false,Bool.false_eq_true]
 omega
theorem Y9 (a b:UInt8):IntKind.wrap .u8 ((a.toNat:Int)+b.toNat)=((a+b).toNat:Int):=by
 have h1:=a.toNat_lt
 have h2:=b.toNat_lt
 simp only [IntKind.wrap,IntKind.bits,IntKind.signed,Bool.false_and,if_false,Bool.false_eq_true,UInt8.toNat_add]
 omega
theorem Za (a b:UInt8):IntKind.wrap .u8 ((a.toNat:Int) - b.toNat)=((a - b).toNat:Int):=by
 have h1:=a.toNat_lt
 have h2:=b.toNat_lt
 simp only [IntKind.wrap,IntKind.bits,IntKind.signed,Bool.false_and,if_false,Bool.false_eq_true,UInt8.toNat_sub]
 omega
theorem Ih (a:UInt8):IntKind.wrap .u8 (a.toNat:Int)=(a.toNat:Int):=by
 have h1:=a.toNat_lt
 simp only [IntKind.wrap,IntKind.bits,IntKind.signed,Bool.false_and,if_false,Bool.false_eq_true]
 omega
theorem ofInt8 (a:UInt8):BitVec.ofInt 8 (a.toNat:Int)=a.toBitVec:=by
 apply BitVec.eq_of_toNat_eq;simp
theorem abo {a b:UInt8}:bD .add (b8 a) (b8 b)=some (b8 (a+b)):=by simp only [b8];rw [UH,Y9]
theorem abp {a b:UInt8}:bD .sub (b8 a) (b8 b)=some (b8 (a - b)):=by simp only [b8];rw [UI,Za]
theorem abr {a b:UInt8}:bD .and (b8 a) (b8 b)=some (b8 (a &&& b)):=by
 simp only [b8];rw [UL,yE]
 have:((BitVec.ofInt IntKind.u8.bits (a.toNat:Int) &&& BitVec.ofInt IntKind.u8.bits (b.toNat:Int)).toNat:Int)=((a &&& b).toNat:Int):=by
  simp only [IntKind.bits,ofInt8];rfl
 rw [this,Ih]
theorem adK {a b:UInt8}:bD .or (b8 a) (b8 b)=some (b8 (a ||| b)):=by
 simp only [b8];rw [aak,Kl]
 have:((BitVec.ofInt IntKind.u8.bits (a.toNat:Int) ||| BitVec.ofInt IntKind.u8.bits (b.toNat:Int)).toNat:Int)=((a ||| b).toNat:Int):=by
  simp only [IntKind.bits,ofInt8];rfl
 rw [this,Ih]
theorem abt {a b:UInt8}:bD .xor (b8 a) (b8 b)=some (b8 (a ^^^ b)):=by
 simp only [b8];rw [UM,tw]
 have:((BitVec.ofInt IntKind.u8.bits (a.toNat:Int) ^^^ BitVec.ofInt IntKind.u8.bits (b.toNat:Int)).toNat:Int)=((a ^^^ b).toNat:Int):=by
  simp only [IntKind.bits,ofInt8];rfl
 rw [this,Ih]
theorem abu {a b:UInt8}:bD .rem (b8 a) (b8 b)=if b=0 then none else some (b8 (a % b)):=by
 simp only [b8];rw [UJ,rm]
 by_cases h:b=0
 · subst h;simp
 · have h2:¬(b.toNat:Int)=0:=by
    intro h0;apply h;apply UInt8.toNat_inj.1;simp;omega
   rw [if_neg h,if_neg h2]
   simp only [Option.map_some,UInt8.toNat_mod]
   rw [Int.tmod_eq_emod_of_nonneg (by omega)]
   simp
theorem abv {a b:UInt8}:bD .eql (b8 a) (b8 b)=some (.bool (decide (a=b))):=by
 simp only [b8];rw [UN];simp [←UInt8.toNat_inj,Int.ofNat_inj]
theorem abw {a b:UInt8}:bD .neq (b8 a) (b8 b)=some (.bool (!decide (a=b))):=by
 simp only [b8];rw [UO];simp [←UInt8.toNat_inj,Int.ofNat_inj]
theorem abx {a b:UInt8}:bD .lss (b8 a) (b8 b)=some (.bool (decide (a<b))):=by
 simp only [b8];rw [UP];simp [UInt8.lt_iff_toNat_lt]
theorem aby {a b:UInt8}:bD .leq (b8 a) (b8 b)=some (.bool (decide (a≤b))):=by
 simp only [b8];rw [UQ];simp [UInt8.le_iff_toNat_le]
theorem abz {a b:UInt8}:bD .gtr (b8 a) (b8 b)=some (.bool (decide (b<a))):=by
 simp only [b8];rw [UR];simp [UInt8.lt_iff_toNat_lt]
theorem abA {a b:UInt8}:bD .geq (b8 a) (b8 b)=some (.bool (decide (b≤a))):=by
 simp only [b8];rw [UT];simp [UInt8.le_iff_toNat_le]
theorem adL {k:IntKind} {c:UInt8}:fF (.int k) (b8 c)=some (.int k (k.wrap c.toNat)):=rfl
theorem adM {k:IntKind} {i:Int}:fF (.int .u8) (.int k i)=some (b8 (UInt8.ofInt i)):=by simp only [fF,b8,U0]
theorem adN {c:UInt8}:fF (.int .u8) (b8 c)=some (b8 c):=by simp only [fF,b8,Ih]
theorem adO {k':IntKind} {i:Int}:fF (.int .i8) (.int k' i)=some (.int .i8 (IntKind.wrap .i8 i)):=rfl
theorem abB {k':IntKind} {i:Int}:fF (.int .i16) (.int k' i)=some (.int .i16 (IntKind.wrap .i16 i)):=rfl
theorem abC {k':IntKind} {i:Int}:fF (.int .i32) (.int k' i)=some (.int .i32 (IntKind.wrap .i32 i)):=rfl
theorem abD {k':IntKind} {i:Int}:fF (.int .i64) (.int k' i)=some (.int .i64 (IntKind.wrap .i64 i)):=rfl
theorem abE {k':IntKind} {i:Int}:fF (.int .u16) (.int k' i)=some (.int .u16 (IntKind.wrap .u16 i)):=rfl
theorem abF {k':IntKind} {i:Int}:fF (.int .u32) (.int k' i)=some (.int .u32 (IntKind.wrap .u32 i)):=rfl
theorem abG {k':IntKind} {i:Int}:fF (.int .u64) (.int k' i)=some (.int .u64 (IntKind.wrap .u64 i)):=rfl
theorem adP {l:List UInt8}:fF .same (.str l)=some (.str l):=rfl
theorem adQ {l:List UInt8}:fF .sb (.str l)=some (.sl .own 1 (ml b8 l)):=rfl
theorem adR {tg:Tg} {xs:List AV}:fF .bs (.sl tg 1 xs)=(bytesOf xs).map .str:=rfl
theorem abH {k:IntKind} {i:Int}:Mq .neg (.int k i)=some (.int k (k.wrap (0 - i))):=rfl
theorem abI {b:Bool}:Mq .not (.bool b)=some (.bool !b):=rfl
def tA (k:IntKind) (i:Int):Int:=k.wrap (BitVec.ofInt k.bits (if k.signed then -1 else k.max) ^^^ BitVec.ofInt k.bits i).toNat
theorem abJ {k:IntKind} {i:Int}:Mq .xor (.int k i)=some (.int k (tA k i)):=rfl
theorem Ii:bytesOf []=some []:=rfl
theorem ML {c:UInt8} {r:List AV}:bytesOf (b8 c::r)=(bytesOf r).map (c:: ·):=by
 simp [b8,bytesOf]
theorem Q_i {ks:List Pk} {k:IntKind} {i j:Int} {zq bs:List AV}:cr (.i::ks) (.int k i::zq) (.int k j::bs)=(cr ks zq bs).map (decide (i=j)&& ·):=by simp [cr]
theorem Q_s {ks:List Pk} {l m:List UInt8} {zq bs:List AV}:cr (.s::ks) (.str l::zq) (.str m::bs)=(cr ks zq bs).map (decide (l=m)&& ·):=rfl
theorem Q_b {ks:List Pk} {x y:Bool} {zq bs:List AV}:cr (.b::ks) (.bool x::zq) (.bool y::bs)=(cr ks zq bs).map ((x==y)&& ·):=rfl
theorem Q_n:cr [] [] []=some true:=rfl
theorem adS {x y:Bool}:Mn (.bool x) (.bool y)=some (x==y):=rfl
theorem adT {s o:Nat}:Mo (.ptr s o) (.v (.pointer none))=some false:=rfl
theorem adU {s o:Nat}:Mo (.v (.pointer none)) (.ptr s o)=some false:=rfl
theorem adV:Mo (.v (.pointer none)) (.v (.pointer none))=some true:=rfl
section
variable {P:Program} {L:List Nat} {N n0:Nat} {e:Env} {ah:AH} {t:List It} {Q:Exit→Env→AH→Prop} {r:List aQ} {d:Option Nat}
theorem oB {c:UInt8}:(b8 c).bS=b8 c:=rfl
theorem aal {c:UInt8}:(b8 c).sh=b8 c:=rfl
theorem afL {c:UInt8}:(b8 c).s1=b8 c:=rfl
theorem afM {c:UInt8}:(b8 c).s0=b8 c:=rfl
theorem aam {c:UInt8}:(b8 c).df=b8 c:=rfl
theorem aft {c:UInt8}:(b8 c).jh=b8 c:=rfl
theorem afu {c:UInt8}:(b8 c).qW=b8 c:=rfl
theorem afd {c:UInt8} {l:Loc}:(b8 c).eB l=b8 c:=rfl
theorem afv {c:UInt8}:(b8 c).bU=false:=rfl
theorem nP {c:UInt8}:(b8 c).flat=true:=rfl
theorem afw {c:UInt8}:(b8 c).jj=true:=rfl
theorem afN {c:UInt8}:(b8 c).np=true:=rfl
theorem adW {c:UInt8}:(b8 c).cells=[b8 c]:=rfl
theorem afx {c:UInt8}:(b8 c).eR=false:=rfl
theorem afO {c:UInt8} {x:Ar}:cp L x (b8 c)=b8 c:=rfl
theorem afy {c:UInt8} {x:Ar}:jY P L N n0 e ah d r t Q x (b8 c)=U P L N n0 (.ops r::t) Q .normal (aI L e d (b8 c)) ah:=rfl
theorem PN {n:Nat} {c:UInt8}:Cl n (b8 c):= .int ..
theorem abK {l:List UInt8} {c:UInt8}:Kh L e ah d (.str l) (b8 c)=(idx l c.toNat).map fun c=>(aI L e d (b8 c),ah):=PJ
theorem abL {tg:Tg} {k:Nat} {xs:List AV} {c:UInt8}:tu L e ah d k (.sl tg k xs) (b8 c)=(idx xs c.toNat).map fun a=>(aI L e d (.ep a 0),ah):=PK
theorem afz {s o:Nat} {c:UInt8}:lQ s o (some (b8 c))=some (b8 c):=rfl
theorem abM {c:UInt8}:QM L d e ah (some (b8 c))=some (aI L e d (b8 c),ah):=rfl
end
theorem h_eq {H:AH} {q:Nat} {c:List AV} (h:q<H.length):(H.set q c)[q]? =some c:=List.getElem?_set_self h
theorem aan {H:AH} {s q:Nat} {c:List AV} (h:s≠q):(H.set s c)[q]? =H[q]? :=List.getElem?_set_ne h
theorem U1 {H T:AH} {q:Nat} (h:q<H.length):(H++T)[q]? =H[q]? :=List.getElem?_append_left h
theorem abN {H:AH} {c:List AV}:(H++[c])[H.length]? =some c:=by simp
theorem PO {H:AH} {q:Nat} {c:List AV} (h:q=H.length):(H++[c])[q]? =some c:=by subst h;simp
theorem aL {H:AH} {q:Nat} {c:List AV} (h:H[q]? =some c):q<H.length:=(List.getElem?_eq_some_iff.1 h).1
theorem mb {H:AH} {q:Nat} {c:List AV}:(H.set q c).length=H.length:=List.length_set
theorem mc {H:AH} {c:List AV}:(H++[c]).length=H.length+1:=by simp
structure Fr (ah:AH) (n0:Nat) (S:List Nat) (H:AH):Prop where
 le:n0≤H.length
 eq:∀j,j<n0→j∉S→H[j]? =ah[j]?
theorem Fr.refl (ah:AH) (S:List Nat):Fr ah ah.length S ah:=⟨Nat.le_refl _,fun _ _ _=>rfl⟩
theorem Fr.set {ah H:AH} {n0 s:Nat} {S:List Nat} {c:List AV} (h:Fr ah n0 S H) (hs:s∈S∨n0≤s):Fr ah n0 S (H.set s c):=by
 refine ⟨by simpa using h.le,fun j hj EH=> ?_⟩
 rw [List.getElem?_set_ne,h.eq j hj EH]
 rintro rfl
 rcases hs with hs|hs
 · exact EH hs
 · omega
theorem Fr.app {ah H T:AH} {n0:Nat} {S:List Nat} (h:Fr ah n0 S H):Fr ah n0 S (H++T):=by
 have:=h.le
 exact ⟨by simp;omega,fun j hj EH=>by rw [List.getElem?_append_left (by omega),h.eq j hj EH]⟩
theorem Fr.aao {ah H:AH} (h:Fr ah ah.length [] H):H.take ah.length=ah:=by
 apply List.ext_getElem?
 intro j
 by_cases hj:j<ah.length
 · rw [List.getElem?_take_of_lt hj,h.eq j hj (by simp)]
 · rw [List.getElem?_eq_none (by simp;omega),List.getElem?_eq_none (by omega)]
theorem Fr.aap {ah H:AH} {s:Nat} {c:List AV} (h:Fr ah ah.length [s] H) (hs:H[s]? =some c) (hl:s<ah.length):H.take ah.length=ah.set s c:=by
 apply List.ext_getElem?
 intro j
 by_cases hj:j<ah.length
 · rw [List.getElem?_take_of_lt hj]
   by_cases he:j=s
   · subst he;rw [hs,List.getElem?_set_self hl]
   · rw [List.getElem?_set_ne (Ne.symm he),h.eq j hj (by simpa using he)]
 · rw [List.getElem?_eq_none (by simp;omega),List.getElem?_eq_none (by simp;omega)]
theorem Fr.aaq {ah H:AH} {s s2:Nat} {c c2:List AV} (h:Fr ah ah.length [s,s2] H) (hs:H[s]? =some c) (hs2:H[s2]? =some c2) (hl:s<ah.length) (Ax:s2<ah.length) (hne:s≠s2):H.take ah.length=(ah.set s c).set s2 c2:=by
 apply List.ext_getElem?
 intro j
 by_cases hj:j<ah.length
 · rw [List.getElem?_take_of_lt hj]
   by_cases he:j=s2
   · subst he;rw [hs2,List.getElem?_set_self (by simpa using Ax)]
   · rw [List.getElem?_set_ne (Ne.symm he)]
     by_cases he1:j=s
     · subst he1;rw [hs,List.getElem?_set_self hl]
     · rw [List.getElem?_set_ne (Ne.symm he1),h.eq j hj (by simp;exact ⟨he1,he⟩)]
 · rw [List.getElem?_eq_none (by simp;omega),List.getElem?_eq_none (by simp;omega)]
end Go.Am
end
section
namespace Go.Am
open Go
variable [Tabs]
def dW:Bool→AV
 |true=> .dU
 |false=> .v .nilIface
def PR (L:List Nat) (e:Env) (ah:AH) (d:Option Nat):AV→Option (Env×AH)
 | .sl _ _ xs=>some (aI L e d (.int .i64 xs.length),ah)
 | .cI _ _ _ n=>some (aI L e d (.int .i64 n),ah)
 | .cu _ _ n _=>some (aI L e d (.int .i64 n),ah)
 |_=>none
def U2 (L:List Nat) (e:Env) (ah:AH) (d:Option Nat):AV→Option (Env×AH)
 | .str l=>some (aI L e d (.int .i64 l.length),ah)
 |_=>none
def U3 (L:List Nat) (e:Env) (ah:AH) (d:Option Nat):Option AV→Option (Env×AH)
 |some a=>some (aI L e d a.sh,ah)
 |none=>none
def U4 (L:List Nat) (e:Env) (ah:AH) (d:Option Nat) (i:Nat):AV→Option (Env×AH)
 | .bK cs=>U3 L e ah d (cs[i]?)
 |_=>none
def MM (L:List Nat) (e:Env) (ah:AH) (d:Option Nat):Option AV→Option (Env×AH)
 |some a=>some (aI L e d a.bS,ah)
 |none=>none
def Ij (L:List Nat) (e:Env) (ah:AH) (d:Option Nat) (q:Nat):Option Nat→AV→Option (Env×AH)
 |some n, .agg cs=>if q+n≤cs.length then some (aI L e d (.agg (((cs.drop q).take n).map AV.bS)),ah) else none
 |none, .agg cs=>MM L e ah d (cs[q]?)
 |_,_=>none
def U5 (L:List Nat) (e:Env) (ah:AH) (d:Option Nat) (n:Option Nat):AV→Option (Env×AH)
 | .ep a p=>H8 L d n e ah (.ep a p)
 |_=>none
theorem U6 {z:Value}:AV.bS (.v z)=(.v z:AV):=rfl
theorem MN {k:IntKind} {i:Int}:AV.bS (.int k i)=(.int k i:AV):=rfl
theorem Kn {b:Bool}:AV.bS (.bool b)=(.bool b:AV):=rfl
theorem MO {l:List UInt8}:AV.bS (.str l)=(.str l:AV):=rfl
theorem MP {s o:Nat}:AV.bS (.ptr s o)=(.ptr s o:AV):=rfl
theorem QT {a:AV} {o:Nat}:AV.bS (.ep a o)=(.ep a o:AV):=rfl
theorem QU {f:Nat} {cs:List AV}:AV.bS (.fn f cs)=(.fn f cs:AV):=rfl
theorem QV:AV.bS (.un)=(.un:AV):=rfl
theorem QW {c:UInt8}:AV.bS (b8 c)=(b8 c:AV):=rfl
theorem QX {k:Nat} {xs:List AV}:AV.bS (.sl .n k xs)=(.sl .n k xs:AV):=rfl
theorem MQ {k:Nat} {xs:List AV}:AV.bS (.sl .ex k xs)=(.sl .ex k xs:AV):=rfl
theorem Ko {k:Nat} {xs:List AV}:AV.bS (.sl .own k xs)=(.sl .n k xs:AV):=rfl
theorem MR {l:Loc} {k:Nat} {xs:List AV}:AV.bS (.sl (.fr l) k xs)=(.sl .n k xs:AV):=rfl
theorem MS {cs:List AV}:AV.bS (.agg cs)=(.agg cs:AV):=rfl
theorem MT {cs:List AV}:AV.bS (.bK cs)=(.bK cs:AV):=rfl
theorem MU {q0 k0 o0 m0:Nat}:AV.bS (.cI q0 k0 o0 m0)=(.cI q0 k0 o0 m0:AV):=rfl
theorem MV {q0 k0 m0 c0:Nat}:AV.bS (.cu q0 k0 m0 c0)=(.cu q0 k0 m0 c0:AV):=rfl
theorem MW:AV.bS (.dU)=(.dU:AV):=rfl
theorem QY {eb:Bool}:AV.bS (dW eb)=(dW eb:AV):=by cases eb<;>rfl
theorem Zb {z:Value}:AV.sh (.v z)=(.v z:AV):=rfl
theorem QZ {k:IntKind} {i:Int}:AV.sh (.int k i)=(.int k i:AV):=rfl
theorem MX {b:Bool}:AV.sh (.bool b)=(.bool b:AV):=rfl
theorem Q0 {l:List UInt8}:AV.sh (.str l)=(.str l:AV):=rfl
theorem Q1 {s o:Nat}:AV.sh (.ptr s o)=(.ptr s o:AV):=rfl
theorem U7 {a:AV} {o:Nat}:AV.sh (.ep a o)=(.ep a o:AV):=rfl
theorem U8 {f:Nat} {cs:List AV}:AV.sh (.fn f cs)=(.fn f cs:AV):=rfl
theorem U9:AV.sh (.un)=(.un:AV):=rfl
theorem Va {c:UInt8}:AV.sh (b8 c)=(b8 c:AV):=rfl
theorem Vb {k:Nat} {xs:List AV}:AV.sh (.sl .n k xs)=(.sl .n k xs:AV):=rfl
theorem Q2 {k:Nat} {xs:List AV}:AV.sh (.sl .ex k xs)=(.sl .ex k xs:AV):=rfl
theorem MY {k:Nat} {xs:List AV}:AV.sh (.sl .own k xs)=(.sl .n k xs:AV):=rfl
theorem Q3 {l:Loc} {k:Nat} {xs:List AV}:AV.sh (.sl (.fr l) k xs)=(.sl .n k xs:AV):=rfl
theorem Q4 {cs:List AV}:AV.sh (.agg cs)=(.agg (cs.map AV.bS):AV):=rfl
theorem Q5 {cs:List AV}:AV.sh (.bK cs)=(.bK (cs.map AV.bS):AV):=rfl
theorem Q6 {q0 k0 o0 m0:Nat}:AV.sh (.cI q0 k0 o0 m0)=(.cI q0 k0 o0 m0:AV):=rfl
theorem Q7 {q0 k0 m0 c0:Nat}:AV.sh (.cu q0 k0 m0 c0)=(.cu q0 k0 m0 c0:AV):=rfl
theorem Q8:AV.sh (.dU)=(.dU:AV):=rfl
theorem Vc {eb:Bool}:AV.sh (dW eb)=(dW eb:AV):=by cases eb<;>rfl
theorem Zc {z:Value}:AV.s1 (.v z)=(.v z:AV):=rfl
theorem Q9 {k:IntKind} {i:Int}:AV.s1 (.int k i)=(.int k i:AV):=rfl
theorem MZ {b:Bool}:AV.s1 (.bool b)=(.bool b:AV):=rfl
theorem Ra {l:List UInt8}:AV.s1 (.str l)=(.str l:AV):=rfl
theorem Rb {s o:Nat}:AV.s1 (.ptr s o)=(.ptr s o:AV):=rfl
theorem Vd {a:AV} {o:Nat}:AV.s1 (.ep a o)=(.ep a o:AV):=rfl
theorem Ve {f:Nat} {cs:List AV}:AV.s1 (.fn f cs)=(.fn f cs:AV):=rfl
theorem Vf:AV.s1 (.un)=(.un:AV):=rfl
theorem Vg {c:UInt8}:AV.s1 (b8 c)=(b8 c:AV):=rfl
theorem Vh {k:Nat} {xs:List AV}:AV.s1 (.sl .n k xs)=(.sl .n k xs:AV):=rfl
theorem Rc {k:Nat} {xs:List AV}:AV.s1 (.sl .ex k xs)=(.sl .n k xs:AV):=rfl
theorem M0 {k:Nat} {xs:List AV}:AV.s1 (.sl .own k xs)=(.sl .n k xs:AV):=rfl
theorem Rd {l:Loc} {k:Nat} {xs:List AV}:AV.s1 (.sl (.fr l) k xs)=(.sl .n k xs:AV):=rfl
theorem Re {cs:List AV}:AV.s1 (.agg cs)=(.agg cs:AV):=rfl
theorem Rf {cs:List AV}:AV.s1 (.bK cs)=(.bK cs:AV):=rfl
theorem Rg {q0 k0 o0 m0:Nat}:AV.s1 (.cI q0 k0 o0 m0)=(.cI q0 k0 o0 m0:AV):=rfl
theorem Rh {q0 k0 m0 c0:Nat}:AV.s1 (.cu q0 k0 m0 c0)=(.cu q0 k0 m0 c0:AV):=rfl
theorem Ri:AV.s1 (.dU)=(.dU:AV):=rfl
theorem Vi {eb:Bool}:AV.s1 (dW eb)=(dW eb:AV):=by cases eb<;>rfl
theorem Zd {z:Value}:AV.s0 (.v z)=(.v z:AV):=rfl
theorem Rj {k:IntKind} {i:Int}:AV.s0 (.int k i)=(.int k i:AV):=rfl
theorem M1 {b:Bool}:AV.s0 (.bool b)=(.bool b:AV):=rfl
theorem Rk {l:List UInt8}:AV.s0 (.str l)=(.str l:AV):=rfl
theorem Rl {s o:Nat}:AV.s0 (.ptr s o)=(.ptr s o:AV):=rfl
theorem Vj {a:AV} {o:Nat}:AV.s0 (.ep a o)=(.ep a o:AV):=rfl
theorem Vk {f:Nat} {cs:List AV}:AV.s0 (.fn f cs)=(.fn f cs:AV):=rfl
theorem Vl:AV.s0 (.un)=(.un:AV):=rfl
theorem Vm {c:UInt8}:AV.s0 (b8 c)=(b8 c:AV):=rfl
theorem Vn {k:Nat} {xs:List AV}:AV.s0 (.sl .n k xs)=(.sl .n k xs:AV):=rfl
theorem Rm {k:Nat} {xs:List AV}:AV.s0 (.sl .ex k xs)=(.sl .n k xs:AV):=rfl
theorem M3 {k:Nat} {xs:List AV}:AV.s0 (.sl .own k xs)=(.sl .n k xs:AV):=rfl
theorem Rn {l:Loc} {k:Nat} {xs:List AV}:AV.s0 (.sl (.fr l) k xs)=(.sl .n k xs:AV):=rfl
theorem Ro {cs:List AV}:AV.s0 (.agg cs)=(.agg (cs.map AV.s1):AV):=rfl
theorem Rp {cs:List AV}:AV.s0 (.bK cs)=(.bK cs:AV):=rfl
theorem Rq {q0 k0 o0 m0:Nat}:AV.s0 (.cI q0 k0 o0 m0)=(.cI q0 k0 o0 m0:AV):=rfl
theorem Rr {q0 k0 m0 c0:Nat}:AV.s0 (.cu q0 k0 m0 c0)=(.cu q0 k0 m0 c0:AV):=rfl
theorem Rs:AV.s0 (.dU)=(.dU:AV):=rfl
theorem Vo {eb:Bool}:AV.s0 (dW eb)=(dW eb:AV):=by cases eb<;>rfl
theorem Ze {z:Value}:AV.df (.v z)=(.v z:AV):=rfl
theorem Rt {k:IntKind} {i:Int}:AV.df (.int k i)=(.int k i:AV):=rfl
theorem M4 {b:Bool}:AV.df (.bool b)=(.bool b:AV):=rfl
theorem Ru {l:List UInt8}:AV.df (.str l)=(.str l:AV):=rfl
theorem Rv {s o:Nat}:AV.df (.ptr s o)=(.ptr s o:AV):=rfl
theorem Vp {a:AV} {o:Nat}:AV.df (.ep a o)=(.ep a o:AV):=rfl
theorem Vq {f:Nat} {cs:List AV}:AV.df (.fn f cs)=(.fn f cs:AV):=rfl
theorem Vr:AV.df (.un)=(.un:AV):=rfl
theorem Vs {c:UInt8}:AV.df (b8 c)=(b8 c:AV):=rfl
theorem Vt {k:Nat} {xs:List AV}:AV.df (.sl .n k xs)=(.sl .n k xs:AV):=rfl
theorem Rx {k:Nat} {xs:List AV}:AV.df (.sl .ex k xs)=(.sl .ex k xs:AV):=rfl
theorem M5 {k:Nat} {xs:List AV}:AV.df (.sl .own k xs)=(.sl .own k xs:AV):=rfl
theorem Ry {l:Loc} {k:Nat} {xs:List AV}:AV.df (.sl (.fr l) k xs)=(.sl .n k xs:AV):=rfl
theorem Rz {cs:List AV}:AV.df (.agg cs)=(.agg cs:AV):=rfl
theorem RA {cs:List AV}:AV.df (.bK cs)=(.bK cs:AV):=rfl
theorem RB {q0 k0 o0 m0:Nat}:AV.df (.cI q0 k0 o0 m0)=(.cI q0 k0 o0 m0:AV):=rfl
theorem RC {q0 k0 m0 c0:Nat}:AV.df (.cu q0 k0 m0 c0)=(.cu q0 k0 m0 c0:AV):=rfl
theorem RD:AV.df (.dU)=(.dU:AV):=rfl
theorem Vu {eb:Bool}:AV.df (dW eb)=(dW eb:AV):=by cases eb<;>rfl
theorem M6 {z:Value}:AV.bU (.v z)=false:=rfl
theorem Ik {k:IntKind} {i:Int}:AV.bU (.int k i)=false:=rfl
theorem Gd {b:Bool}:AV.bU (.bool b)=false:=rfl
theorem Il {l:List UInt8}:AV.bU (.str l)=false:=rfl
theorem Im {s o:Nat}:AV.bU (.ptr s o)=false:=rfl
theorem Kp {a:AV} {o:Nat}:AV.bU (.ep a o)=false:=rfl
theorem Kq {f:Nat} {cs:List AV}:AV.bU (.fn f cs)=false:=rfl
theorem Kr:AV.bU (.un)=false:=rfl
theorem Ks {c:UInt8}:AV.bU (b8 c)=false:=rfl
theorem Kt {k:Nat} {xs:List AV}:AV.bU (.sl .n k xs)=false:=rfl
theorem Io {k:Nat} {xs:List AV}:AV.bU (.sl .ex k xs)=false:=rfl
theorem Ge {k:Nat} {xs:List AV}:AV.bU (.sl .own k xs)=true:=rfl
theorem Ip {l:Loc} {k:Nat} {xs:List AV}:AV.bU (.sl (.fr l) k xs)=false:=rfl
theorem Iq {cs:List AV}:AV.bU (.agg cs)=false:=rfl
theorem Ir {cs:List AV}:AV.bU (.bK cs)=false:=rfl
theorem Is {q0 k0 o0 m0:Nat}:AV.bU (.cI q0 k0 o0 m0)=false:=rfl
theorem Iu {q0 k0 m0 c0:Nat}:AV.bU (.cu q0 k0 m0 c0)=false:=rfl
theorem Iv:AV.bU (.dU)=false:=rfl
theorem Ku {eb:Bool}:AV.bU (dW eb)=false:=by cases eb<;>rfl
theorem Vv {z:Value}:AV.qW (.v z)=(.v z:AV):=rfl
theorem M7 {k:IntKind} {i:Int}:AV.qW (.int k i)=(.int k i:AV):=rfl
theorem Kv {b:Bool}:AV.qW (.bool b)=(.bool b:AV):=rfl
theorem M8 {l:List UInt8}:AV.qW (.str l)=(.str l:AV):=rfl
theorem M9 {s o:Nat}:AV.qW (.ptr s o)=(.ptr s o:AV):=rfl
theorem RE {a:AV} {o:Nat}:AV.qW (.ep a o)=(.ep a o:AV):=rfl
theorem RF {f:Nat} {cs:List AV}:AV.qW (.fn f cs)=(.fn f cs:AV):=rfl
theorem RG:AV.qW (.un)=(.un:AV):=rfl
theorem RH {c:UInt8}:AV.qW (b8 c)=(b8 c:AV):=rfl
theorem RI {k:Nat} {xs:List AV}:AV.qW (.sl .n k xs)=(.sl .n k xs:AV):=rfl
theorem Na {k:Nat} {xs:List AV}:AV.qW (.sl .ex k xs)=(.sl .ex k xs:AV):=rfl
theorem Kw {k:Nat} {xs:List AV}:AV.qW (.sl .own k xs)=(.sl .n k xs:AV):=rfl
theorem Nb {l:Loc} {k:Nat} {xs:List AV}:AV.qW (.sl (.fr l) k xs)=(.sl (.fr l) k xs:AV):=rfl
theorem Nc {cs:List AV}:AV.qW (.agg cs)=(.agg cs:AV):=rfl
theorem Nd {cs:List AV}:AV.qW (.bK cs)=(.bK cs:AV):=rfl
theorem Nf {q0 k0 o0 m0:Nat}:AV.qW (.cI q0 k0 o0 m0)=(.cI q0 k0 o0 m0:AV):=rfl
theorem Ng {q0 k0 m0 c0:Nat}:AV.qW (.cu q0 k0 m0 c0)=(.cu q0 k0 m0 c0:AV):=rfl
theorem Nh:AV.qW (.dU)=(.dU:AV):=rfl
theorem RJ {eb:Bool}:AV.qW (dW eb)=(dW eb:AV):=by cases eb<;>rfl
theorem RL {z:Value} {l0:Loc}:AV.eB l0 (.v z)=(.v z:AV):=rfl
theorem Kx {k:IntKind} {i:Int} {l0:Loc}:AV.eB l0 (.int k i)=(.int k i:AV):=rfl
theorem Iw {b:Bool} {l0:Loc}:AV.eB l0 (.bool b)=(.bool b:AV):=rfl
theorem Ky {l:List UInt8} {l0:Loc}:AV.eB l0 (.str l)=(.str l:AV):=rfl
theorem Kz {s o:Nat} {l0:Loc}:AV.eB l0 (.ptr s o)=(.ptr s o:AV):=rfl
theorem Ni {a:AV} {o:Nat} {l0:Loc}:AV.eB l0 (.ep a o)=(.ep a o:AV):=rfl
theorem Nj {f:Nat} {cs:List AV} {l0:Loc}:AV.eB l0 (.fn f cs)=(.fn f cs:AV):=rfl
theorem Nk {l0:Loc}:AV.eB l0 (.un)=(.un:AV):=rfl
theorem Nl {c:UInt8} {l0:Loc}:AV.eB l0 (b8 c)=(b8 c:AV):=rfl
theorem Nn {k:Nat} {xs:List AV} {l0:Loc}:AV.eB l0 (.sl .n k xs)=(.sl .n k xs:AV):=rfl
theorem KB {k:Nat} {xs:List AV} {l0:Loc}:AV.eB l0 (.sl .ex k xs)=(.sl .ex k xs:AV):=rfl
theorem Ix {k:Nat} {xs:List AV} {l0:Loc}:AV.eB l0 (.sl .own k xs)=(.sl .own k xs:AV):=rfl
theorem KC {l:Loc} {k:Nat} {xs:List AV} {l0:Loc}:AV.eB l0 (.sl (.fr l) k xs)=if l=l0 then .sl .n k xs else .sl (.fr l) k xs:=rfl
theorem KD {cs:List AV} {l0:Loc}:AV.eB l0 (.agg cs)=(.agg cs:AV):=rfl
theorem KE {cs:List AV} {l0:Loc}:AV.eB l0 (.bK cs)=(.bK cs:AV):=rfl
theorem KF {q0 k0 o0 m0:Nat} {l0:Loc}:AV.eB l0 (.cI q0 k0 o0 m0)=(.cI q0 k0 o0 m0:AV):=rfl
theorem KG {q0 k0 m0 c0:Nat} {l0:Loc}:AV.eB l0 (.cu q0 k0 m0 c0)=(.cu q0 k0 m0 c0:AV):=rfl
theorem KH {l0:Loc}:AV.eB l0 (.dU)=(.dU:AV):=rfl
theorem Np {eb:Bool} {l0:Loc}:AV.eB l0 (dW eb)=(dW eb:AV):=by cases eb<;>rfl
theorem Vw {z:Value}:AV.jh (.v z)=(.v z:AV):=rfl
theorem Nq {k:IntKind} {i:Int}:AV.jh (.int k i)=(.int k i:AV):=rfl
theorem KI {b:Bool}:AV.jh (.bool b)=(.bool b:AV):=rfl
theorem Nr {l:List UInt8}:AV.jh (.str l)=(.str l:AV):=rfl
theorem Ns {s o:Nat}:AV.jh (.ptr s o)=(.ptr s o:AV):=rfl
theorem RM {a:AV} {o:Nat}:AV.jh (.ep a o)=(.ep a o:AV):=rfl
theorem RN {f:Nat} {cs:List AV}:AV.jh (.fn f cs)=(.fn f cs:AV):=rfl
theorem RO:AV.jh (.un)=(.un:AV):=rfl
theorem RP {c:UInt8}:AV.jh (b8 c)=(b8 c:AV):=rfl
theorem RQ {k:Nat} {xs:List AV}:AV.jh (.sl .n k xs)=(.sl .n k xs:AV):=rfl
theorem Nt {k:Nat} {xs:List AV}:AV.jh (.sl .ex k xs)=(.sl .ex k xs:AV):=rfl
theorem KJ {k:Nat} {xs:List AV}:AV.jh (.sl .own k xs)=(.sl .own k xs:AV):=rfl
theorem Nu {cs:List AV}:AV.jh (.agg cs)=(.agg cs:AV):=rfl
theorem Nv {cs:List AV}:AV.jh (.bK cs)=(.bK cs:AV):=rfl
theorem Nw {q0 k0 o0 m0:Nat}:AV.jh (.cI q0 k0 o0 m0)=(.cI q0 k0 o0 m0:AV):=rfl
theorem Nx {q0 k0 m0 c0:Nat}:AV.jh (.cu q0 k0 m0 c0)=(.cu q0 k0 m0 c0:AV):=rfl
theorem Ny:AV.jh (.dU)=(.dU:AV):=rfl
theorem RR {eb:Bool}:AV.jh (dW eb)=(dW eb:AV):=by cases eb<;>rfl
theorem Vx {a b k:Nat} {xs:List AV}:AV.jh (.sl (.fr (.cell a b)) k xs)= .sl .n k xs:=rfl
theorem Vy {a k:Nat} {xs:List AV}:AV.jh (.sl (.fr (.tmp a)) k xs)= .sl (.fr (.tmp a)) k xs:=rfl
theorem Nz {z:Value}:AV.cells (.v z)=[.v z]:=rfl
theorem Iy {k:IntKind} {i:Int}:AV.cells (.int k i)=[.int k i]:=rfl
theorem Gf {b:Bool}:AV.cells (.bool b)=[.bool b]:=rfl
theorem Iz {l:List UInt8}:AV.cells (.str l)=[.str l]:=rfl
theorem IA {s o:Nat}:AV.cells (.ptr s o)=[.ptr s o]:=rfl
theorem KK {a:AV} {o:Nat}:AV.cells (.ep a o)=[.ep a o]:=rfl
theorem KL {f:Nat} {cs:List AV}:AV.cells (.fn f cs)=[.fn f cs]:=rfl
theorem KM:AV.cells (.un)=[.un]:=rfl
theorem KN {c:UInt8}:AV.cells (b8 c)=[b8 c]:=rfl
theorem KO {k:Nat} {xs:List AV}:AV.cells (.sl .n k xs)=[.sl .n k xs]:=rfl
theorem IB {k:Nat} {xs:List AV}:AV.cells (.sl .ex k xs)=[.sl .ex k xs]:=rfl
theorem Gg {k:Nat} {xs:List AV}:AV.cells (.sl .own k xs)=[.sl .own k xs]:=rfl
theorem IC {l:Loc} {k:Nat} {xs:List AV}:AV.cells (.sl (.fr l) k xs)=[.sl (.fr l) k xs]:=rfl
theorem ID {cs:List AV}:AV.cells (.agg cs)=cs:=rfl
theorem IE {cs:List AV}:AV.cells (.bK cs)=[.bK cs]:=rfl
theorem IF {q0 k0 o0 m0:Nat}:AV.cells (.cI q0 k0 o0 m0)=[.cI q0 k0 o0 m0]:=rfl
theorem IG {q0 k0 m0 c0:Nat}:AV.cells (.cu q0 k0 m0 c0)=[.cu q0 k0 m0 c0]:=rfl
theorem II:AV.cells (.dU)=[.dU]:=rfl
theorem KP {eb:Bool}:AV.cells (dW eb)=[dW eb]:=by cases eb<;>rfl
theorem Vz {z:Value}:AV.jj (.v z)=true:=rfl
theorem NA {k:IntKind} {i:Int}:AV.jj (.int k i)=true:=rfl
theorem KQ {b:Bool}:AV.jj (.bool b)=true:=rfl
theorem NB {l:List UInt8}:AV.jj (.str l)=true:=rfl
theorem NC {s o:Nat}:AV.jj (.ptr s o)=true:=rfl
theorem RS {a:AV} {o:Nat}:AV.jj (.ep a o)=true:=rfl
theorem RT {f:Nat} {cs:List AV}:AV.jj (.fn f cs)=true:=rfl
theorem RU:AV.jj (.un)=false:=rfl
theorem RV {c:UInt8}:AV.jj (b8 c)=true:=rfl
theorem RW {k:Nat} {xs:List AV}:AV.jj (.sl .n k xs)=true:=rfl
theorem ND {k:Nat} {xs:List AV}:AV.jj (.sl .ex k xs)=true:=rfl
theorem KR {k:Nat} {xs:List AV}:AV.jj (.sl .own k xs)=true:=rfl
theorem NF {l:Loc} {k:Nat} {xs:List AV}:AV.jj (.sl (.fr l) k xs)=true:=rfl
theorem NH {cs:List AV}:AV.jj (.agg cs)=false:=rfl
theorem NI {cs:List AV}:AV.jj (.bK cs)=false:=rfl
theorem NJ {q0 k0 o0 m0:Nat}:AV.jj (.cI q0 k0 o0 m0)=true:=rfl
theorem NK {q0 k0 m0 c0:Nat}:AV.jj (.cu q0 k0 m0 c0)=true:=rfl
theorem NL:AV.jj (.dU)=true:=rfl
theorem RX {eb:Bool}:AV.jj (dW eb)=true:=by cases eb<;>rfl
theorem RY {z:Value}:AV.flat (.v z)=true:=rfl
theorem KS {k:IntKind} {i:Int}:AV.flat (.int k i)=true:=rfl
theorem IJ {b:Bool}:AV.flat (.bool b)=true:=rfl
theorem KT {l:List UInt8}:AV.flat (.str l)=true:=rfl
theorem KU {s o:Nat}:AV.flat (.ptr s o)=true:=rfl
theorem NM {a:AV} {o:Nat}:AV.flat (.ep a o)=true:=rfl
theorem NN {f:Nat} {cs:List AV}:AV.flat (.fn f cs)=true:=rfl
theorem NP:AV.flat (.un)=true:=rfl
theorem NQ {c:UInt8}:AV.flat (b8 c)=true:=rfl
theorem NR {k:Nat} {xs:List AV}:AV.flat (.sl .n k xs)=true:=rfl
theorem KV {k:Nat} {xs:List AV}:AV.flat (.sl .ex k xs)=true:=rfl
theorem IK {k:Nat} {xs:List AV}:AV.flat (.sl .own k xs)=true:=rfl
theorem KW {l:Loc} {k:Nat} {xs:List AV}:AV.flat (.sl (.fr l) k xs)=true:=rfl
theorem KX {cs:List AV}:AV.flat (.agg cs)=false:=rfl
theorem KY {cs:List AV}:AV.flat (.bK cs)=false:=rfl
theorem KZ {q0 k0 o0 m0:Nat}:AV.flat (.cI q0 k0 o0 m0)=true:=rfl
theorem K1 {q0 k0 m0 c0:Nat}:AV.flat (.cu q0 k0 m0 c0)=true:=rfl
theorem K2:AV.flat (.dU)=true:=rfl
theorem NS {eb:Bool}:AV.flat (dW eb)=true:=by cases eb<;>rfl
theorem Zf {z:Value}:AV.np (.v z)=true:=rfl
theorem RZ {k:IntKind} {i:Int}:AV.np (.int k i)=true:=rfl
theorem NT {b:Bool}:AV.np (.bool b)=true:=rfl
theorem R8 {l:List UInt8}:AV.np (.str l)=true:=rfl
theorem R9 {s o:Nat}:AV.np (.ptr s o)=false:=rfl
theorem VA {a:AV} {o:Nat}:AV.np (.ep a o)=false:=rfl
theorem VB {f:Nat} {cs:List AV}:AV.np (.fn f cs)=cs.isEmpty:=rfl
theorem VC:AV.np (.un)=true:=rfl
theorem VD {c:UInt8}:AV.np (b8 c)=true:=rfl
theorem VE {k:Nat} {xs:List AV}:AV.np (.sl .n k xs)=true:=rfl
theorem Sa {k:Nat} {xs:List AV}:AV.np (.sl .ex k xs)=true:=rfl
theorem NU {k:Nat} {xs:List AV}:AV.np (.sl .own k xs)=true:=rfl
theorem Sb {l:Loc} {k:Nat} {xs:List AV}:AV.np (.sl (.fr l) k xs)=true:=rfl
theorem Sc {cs:List AV}:AV.np (.agg cs)=false:=rfl
theorem Sd {cs:List AV}:AV.np (.bK cs)=false:=rfl
theorem Se {q0 k0 o0 m0:Nat}:AV.np (.cI q0 k0 o0 m0)=false:=rfl
theorem Sf {q0 k0 m0 c0:Nat}:AV.np (.cu q0 k0 m0 c0)=false:=rfl
theorem Sg:AV.np (.dU)=true:=rfl
theorem VF {eb:Bool}:AV.np (dW eb)=true:=by cases eb<;>rfl
theorem NV {z:Value}:AV.eR (.v z)=false:=rfl
theorem IL {k:IntKind} {i:Int}:AV.eR (.int k i)=false:=rfl
theorem Gh {b:Bool}:AV.eR (.bool b)=false:=rfl
theorem IM {l:List UInt8}:AV.eR (.str l)=false:=rfl
theorem IP {s o:Nat}:AV.eR (.ptr s o)=false:=rfl
theorem K3 {a:AV} {o:Nat}:AV.eR (.ep a o)=false:=rfl
theorem K4 {f:Nat} {cs:List AV}:AV.eR (.fn f cs)=false:=rfl
theorem K5:AV.eR (.un)=false:=rfl
theorem K6 {c:UInt8}:AV.eR (b8 c)=false:=rfl
theorem K7 {k:Nat} {xs:List AV}:AV.eR (.sl .n k xs)=false:=rfl
theorem IQ {k:Nat} {xs:List AV}:AV.eR (.sl .ex k xs)=false:=rfl
theorem Gi {k:Nat} {xs:List AV}:AV.eR (.sl .own k xs)=false:=rfl
theorem IU {l:Loc} {k:Nat} {xs:List AV}:AV.eR (.sl (.fr l) k xs)=false:=rfl
theorem IV {cs:List AV}:AV.eR (.agg cs)=false:=rfl
theorem IW {cs:List AV}:AV.eR (.bK cs)=true:=rfl
theorem IX {q0 k0 o0 m0:Nat}:AV.eR (.cI q0 k0 o0 m0)=false:=rfl
theorem IY {q0 k0 m0 c0:Nat}:AV.eR (.cu q0 k0 m0 c0)=false:=rfl
theorem IZ:AV.eR (.dU)=false:=rfl
theorem K8 {eb:Bool}:AV.eR (dW eb)=false:=by cases eb<;>rfl
theorem Zg {L:List Nat} {x:Ar} {z:Value}:cp L x (.v z)= .v z:=rfl
theorem Sh {L:List Nat} {x:Ar} {k:IntKind} {i:Int}:cp L x (.int k i)= .int k i:=rfl
theorem NW {L:List Nat} {x:Ar} {b:Bool}:cp L x (.bool b)= .bool b:=rfl
theorem Si {L:List Nat} {x:Ar} {l:List UInt8}:cp L x (.str l)= .str l:=rfl
theorem Sj {L:List Nat} {x:Ar} {s o:Nat}:cp L x (.ptr s o)= .ptr s o:=rfl
theorem VG {L:List Nat} {x:Ar} {a:AV} {o:Nat}:cp L x (.ep a o)= .ep a o:=rfl
theorem VH {L:List Nat} {x:Ar} {f:Nat} {cs:List AV}:cp L x (.fn f cs)= .fn f cs:=rfl
theorem VI {L:List Nat} {x:Ar}:cp L x (.un)= .un:=rfl
theorem VJ {L:List Nat} {x:Ar} {c:UInt8}:cp L x (b8 c)=b8 c:=rfl
theorem VK {L:List Nat} {x:Ar} {k:Nat} {xs:List AV}:cp L x (.sl .n k xs)= .sl .n k xs:=rfl
theorem Sk {L:List Nat} {x:Ar} {k:Nat} {xs:List AV}:cp L x (.sl .ex k xs)= .sl .ex k xs:=rfl
theorem Sl {L:List Nat} {x:Ar} {l:Loc} {k:Nat} {xs:List AV}:cp L x (.sl (.fr l) k xs)= .sl (.fr l) k xs:=rfl
theorem Sm {L:List Nat} {x:Ar} {cs:List AV}:cp L x (.agg cs)= .agg (cs.map AV.bS):=rfl
theorem Sn {L:List Nat} {x:Ar} {cs:List AV}:cp L x (.bK cs)= .bK (cs.map AV.bS):=rfl
theorem So {L:List Nat} {x:Ar} {q0 k0 o0 m0:Nat}:cp L x (.cI q0 k0 o0 m0)= .cI q0 k0 o0 m0:=rfl
theorem Sp {L:List Nat} {x:Ar} {q0 k0 m0 c0:Nat}:cp L x (.cu q0 k0 m0 c0)= .cu q0 k0 m0 c0:=rfl
theorem Sq {L:List Nat} {x:Ar}:cp L x (.dU)= .dU:=rfl
theorem VL {L:List Nat} {x:Ar} {eb:Bool}:cp L x (dW eb)=dW eb:=by cases eb<;>rfl
theorem VM {L:List Nat} {u k:Nat} {xs:List AV}:cp L (.t u) (.sl .own k xs)=if L.contains u then .sl (.fr (.tmp u)) k xs else .sl .n k xs:=rfl
theorem VN {L:List Nat} {a:AV} {k:Nat} {xs:List AV}:cp L (.c a) (.sl .own k xs)= .sl .n k xs:=rfl
theorem VO {P:Program} {L:List Nat} {N n0:Nat} {e:Env} {ah:AH} {t:List It} {Q:Exit→Env→AH→Prop} {r:List aQ} {d:Option Nat} {x:Ar} {z:Value}:jY P L N n0 e ah d r t Q x (.v z)=U P L N n0 (.ops r::t) Q .normal (aI L e d (cp L x (.v z))) ah:=rfl
theorem NX {P:Program} {L:List Nat} {N n0:Nat} {e:Env} {ah:AH} {t:List It} {Q:Exit→Env→AH→Prop} {r:List aQ} {d:Option Nat} {x:Ar} {k:IntKind} {i:Int}:jY P L N n0 e ah d r t Q x (.int k i)=U P L N n0 (.ops r::t) Q .normal (aI L e d (cp L x (.int k i))) ah:=rfl
theorem K9 {P:Program} {L:List Nat} {N n0:Nat} {e:Env} {ah:AH} {t:List It} {Q:Exit→Env→AH→Prop} {r:List aQ} {d:Option Nat} {x:Ar} {b:Bool}:jY P L N n0 e ah d r t Q x (.bool b)=U P L N n0 (.ops r::t) Q .normal (aI L e d (cp L x (.bool b))) ah:=rfl
theorem NY {P:Program} {L:List Nat} {N n0:Nat} {e:Env} {ah:AH} {t:List It} {Q:Exit→Env→AH→Prop} {r:List aQ} {d:Option Nat} {x:Ar} {l:List UInt8}:jY P L N n0 e ah d r t Q x (.str l)=U P L N n0 (.ops r::t) Q .normal (aI L e d (cp L x (.str l))) ah:=rfl
theorem NZ {P:Program} {L:List Nat} {N n0:Nat} {e:Env} {ah:AH} {t:List It} {Q:Exit→Env→AH→Prop} {r:List aQ} {d:Option Nat} {x:Ar} {s o:Nat}:jY P L N n0 e ah d r t Q x (.ptr s o)=U P L N n0 (.ops r::t) Q .normal (aI L e d (cp L x (.ptr s o))) ah:=rfl
theorem Sr {P:Program} {L:List Nat} {N n0:Nat} {e:Env} {ah:AH} {t:List It} {Q:Exit→Env→AH→Prop} {r:List aQ} {d:Option Nat} {x:Ar} {a:AV} {o:Nat}:jY P L N n0 e ah d r t Q x (.ep a o)=U P L N n0 (.ops r::t) Q .normal (aI L e d (cp L x (.ep a o))) ah:=rfl
theorem Ss {P:Program} {L:List Nat} {N n0:Nat} {e:Env} {ah:AH} {t:List It} {Q:Exit→Env→AH→Prop} {r:List aQ} {d:Option Nat} {x:Ar} {f:Nat} {cs:List AV}:jY P L N n0 e ah d r t Q x (.fn f cs)=U P L N n0 (.ops r::t) Q .normal (aI L e d (cp L x (.fn f cs))) ah:=rfl
theorem Su {P:Program} {L:List Nat} {N n0:Nat} {e:Env} {ah:AH} {t:List It} {Q:Exit→Env→AH→Prop} {r:List aQ} {d:Option Nat} {x:Ar}:jY P L N n0 e ah d r t Q x (.un)=U P L N n0 (.ops r::t) Q .normal (aI L e d (cp L x (.un))) ah:=rfl
theorem Sv {P:Program} {L:List Nat} {N n0:Nat} {e:Env} {ah:AH} {t:List It} {Q:Exit→Env→AH→Prop} {r:List aQ} {d:Option Nat} {x:Ar} {c:UInt8}:jY P L N n0 e ah d r t Q x (b8 c)=U P L N n0 (.ops r::t) Q .normal (aI L e d (cp L x (b8 c))) ah:=rfl
theorem Sw {P:Program} {L:List Nat} {N n0:Nat} {e:Env} {ah:AH} {t:List It} {Q:Exit→Env→AH→Prop} {r:List aQ} {d:Option Nat} {x:Ar} {k:Nat} {xs:List AV}:jY P L N n0 e ah d r t Q x (.sl .n k xs)=U P L N n0 (.ops r::t) Q .normal (aI L e d (cp L x (.sl .n k xs))) ah:=rfl
theorem N0 {P:Program} {L:List Nat} {N n0:Nat} {e:Env} {ah:AH} {t:List It} {Q:Exit→Env→AH→Prop} {r:List aQ} {d:Option Nat} {x:Ar} {k:Nat} {xs:List AV}:jY P L N n0 e ah d r t Q x (.sl .ex k xs)=U P L N n0 (.ops r::t) Q .normal (aI L e d (cp L x (.sl .ex k xs))) ah:=rfl
theorem N1 {P:Program} {L:List Nat} {N n0:Nat} {e:Env} {ah:AH} {t:List It} {Q:Exit→Env→AH→Prop} {r:List aQ} {d:Option Nat} {x:Ar} {l:Loc} {k:Nat} {xs:List AV}:jY P L N n0 e ah d r t Q x (.sl (.fr l) k xs)=U P L N n0 (.ops r::t) Q .normal (aI L e d (cp L x (.sl (.fr l) k xs))) ah:=rfl
theorem N2 {P:Program} {L:List Nat} {N n0:Nat} {e:Env} {ah:AH} {t:List It} {Q:Exit→Env→AH→Prop} {r:List aQ} {d:Option Nat} {x:Ar} {cs:List AV}:jY P L N n0 e ah d r t Q x (.agg cs)=U P L N n0 (.ops r::t) Q .normal (aI L e d (cp L x (.agg cs))) ah:=rfl
theorem N3 {P:Program} {L:List Nat} {N n0:Nat} {e:Env} {ah:AH} {t:List It} {Q:Exit→Env→AH→Prop} {r:List aQ} {d:Option Nat} {x:Ar} {cs:List AV}:jY P L N n0 e ah d r t Q x (.bK cs)=U P L N n0 (.ops r::t) Q .normal (aI L e d (cp L x (.bK cs))) ah:=rfl
theorem N4 {P:Program} {L:List Nat} {N n0:Nat} {e:Env} {ah:AH} {t:List It} {Q:Exit→Env→AH→Prop} {r:List aQ} {d:Option Nat} {x:Ar} {q0 k0 o0 m0:Nat}:jY P L N n0 e ah d r t Q x (.cI q0 k0 o0 m0)=U P L N n0 (.ops r::t) Q .normal (aI L e d (cp L x (.cI q0 k0 o0 m0))) ah:=rfl
theorem N5 {P:Program} {L:List Nat} {N n0:Nat} {e:Env} {ah:AH} {t:List It} {Q:Exit→Env→AH→Prop} {r:List aQ} {d:Option Nat} {x:Ar} {q0 k0 m0 c0:Nat}:jY P L N n0 e ah d r t Q x (.cu q0 k0 m0 c0)=U P L N n0 (.ops r::t) Q .normal (aI L e d (cp L x (.cu q0 k0 m0 c0))) ah:=rfl
theorem N6 {P:Program} {L:List Nat} {N n0:Nat} {e:Env} {ah:AH} {t:List It} {Q:Exit→Env→AH→Prop} {r:List aQ} {d:Option Nat} {x:Ar}:jY P L N n0 e ah d r t Q x (.dU)=U P L N n0 (.ops r::t) Q .normal (aI L e d (cp L x (.dU))) ah:=rfl
theorem Sx {P:Program} {L:List Nat} {N n0:Nat} {e:Env} {ah:AH} {t:List It} {Q:Exit→Env→AH→Prop} {r:List aQ} {d:Option Nat} {x:Ar} {eb:Bool}:jY P L N n0 e ah d r t Q x (dW eb)=U P L N n0 (.ops r::t) Q .normal (aI L e d (cp L x (dW eb))) ah:=by cases eb<;>rfl
theorem Sy {P:Program} {L:List Nat} {N n0:Nat} {e:Env} {ah:AH} {t:List It} {Q:Exit→Env→AH→Prop} {r:List aQ} {d:Option Nat} {y k:Nat} {xs:List AV}:jY P L N n0 e ah d r t Q (.t y) (.sl .own k xs)=U P L N n0 (.ops r::t) Q .normal (aI L (put e y (.sl .n k xs)) d (.sl .own k xs)) ah:=rfl
theorem Sz {P:Program} {L:List Nat} {N n0:Nat} {e:Env} {ah:AH} {t:List It} {Q:Exit→Env→AH→Prop} {r:List aQ} {d:Option Nat} {a:AV} {k:Nat} {xs:List AV}:jY P L N n0 e ah d r t Q (.c a) (.sl .own k xs)=U P L N n0 (.ops r::t) Q .normal (aI L e d (cp L (.c a) (.sl .own k xs))) ah:=rfl
theorem SA {L:List Nat} {e:Env} {ah:AH} {d:Option Nat} {a b:Ar}:MJ L e ah d a b (.bool true)=some (aI L e d (ev e a).sh,ah):=rfl
theorem SB {L:List Nat} {e:Env} {ah:AH} {d:Option Nat} {a b:Ar}:MJ L e ah d a b (.bool false)=some (aI L e d (ev e b).sh,ah):=rfl
theorem N7 {L:List Nat} {e:Env} {ah:AH} {d:Option Nat} {s o:Nat}:Ur L e ah d (.ptr s o)=some (aI L e d (.ptr s o),ah):=rfl
theorem SC {L:List Nat} {e:Env} {ah:AH} {d:Option Nat} {a:AV} {o:Nat}:Ur L e ah d (.ep a o)=some (aI L e d (.ep a o),ah):=rfl
theorem N8 {L:List Nat} {e:Env} {ah:AH} {d:Option Nat} {q s o:Nat}:Us L e ah d q (.ptr s o)=some (aI L e d (.ptr s (o+q)),ah):=rfl
theorem SD {L:List Nat} {e:Env} {ah:AH} {d:Option Nat} {q o:Nat} {a:AV}:Us L e ah d q (.ep a o)=some (aI L e d (.ep a (o+q)),ah):=rfl
theorem SE {L:List Nat} {e:Env} {ah:AH} {d:Option Nat} {n:Option Nat} {s o:Nat}:H8 L d n e ah (.ptr s o)=YH L d n s o e ah (ah[s]?):=rfl
theorem VP {L:List Nat} {e:Env} {ah:AH} {d:Option Nat} {o:Nat} {a:AV}:H8 L d none e ah (.ep a o)=QM L d e ah (a.cells[o]?):=rfl
theorem VQ {L:List Nat} {e:Env} {ah:AH} {d:Option Nat} {n o:Nat} {a:AV}:H8 L d (some n) e ah (.ep a o)=if o+n≤a.cells.length∧b5 ((a.cells.drop o).take n) then some (aI L e d (.agg (((a.cells.drop o).take n).map AV.s1)),ah) else none:=rfl
theorem VS {s1 o1:Nat} {z:Value}:lQ s1 o1 (some (.v z))=some (AV.bS (.v z)):=rfl
theorem N9 {s1 o1:Nat} {k:IntKind} {i:Int}:lQ s1 o1 (some (.int k i))=some (AV.bS (.int k i)):=rfl
theorem La {s1 o1:Nat} {b:Bool}:lQ s1 o1 (some (.bool b))=some (AV.bS (.bool b)):=rfl
theorem Oa {s1 o1:Nat} {l:List UInt8}:lQ s1 o1 (some (.str l))=some (AV.bS (.str l)):=rfl
theorem Ob {s1 o1:Nat} {s o:Nat}:lQ s1 o1 (some (.ptr s o))=some (AV.bS (.ptr s o)):=rfl
theorem SF {s1 o1:Nat} {a:AV} {o:Nat}:lQ s1 o1 (some (.ep a o))=some (AV.bS (.ep a o)):=rfl
theorem SG {s1 o1:Nat} {f:Nat} {cs:List AV}:lQ s1 o1 (some (.fn f cs))=some (AV.bS (.fn f cs)):=rfl
theorem SH {s1 o1:Nat}:lQ s1 o1 (some (.un))=some (AV.bS (.un)):=rfl
theorem SI {s1 o1:Nat} {c:UInt8}:lQ s1 o1 (some (b8 c))=some (AV.bS (b8 c)):=rfl
theorem SJ {s1 o1:Nat} {k:Nat} {xs:List AV}:lQ s1 o1 (some (.sl .n k xs))=some (AV.bS (.sl .n k xs)):=rfl
theorem Oc {s1 o1:Nat} {k:Nat} {xs:List AV}:lQ s1 o1 (some (.sl .ex k xs))=some (AV.bS (.sl .ex k xs)):=rfl
theorem Od {s o k:Nat} {xs:List AV}:lQ s o (some (.sl .own k xs))=some (.sl (.fr (.cell s o)) k xs):=rfl
theorem Oe {s1 o1:Nat} {l:Loc} {k:Nat} {xs:List AV}:lQ s1 o1 (some (.sl (.fr l) k xs))=some (AV.bS (.sl (.fr l) k xs)):=rfl
theorem Of {s1 o1:Nat} {q0 k0 o0 m0:Nat}:lQ s1 o1 (some (.cI q0 k0 o0 m0))=some (AV.bS (.cI q0 k0 o0 m0)):=rfl
theorem Og {s1 o1:Nat} {q0 k0 m0 c0:Nat}:lQ s1 o1 (some (.cu q0 k0 m0 c0))=some (AV.bS (.cu q0 k0 m0 c0)):=rfl
theorem Oh {s1 o1:Nat}:lQ s1 o1 (some (.dU))=some (AV.bS (.dU)):=rfl
theorem SK {s1 o1:Nat} {eb:Bool}:lQ s1 o1 (some (dW eb))=some (AV.bS (dW eb)):=by cases eb<;>rfl
theorem Zh {L:List Nat} {e:Env} {ah:AH} {d:Option Nat} {ks:List Pk} {neq:Bool} {zq bs:List AV}:aah L e ah d ks neq (.agg zq) (.agg bs)=(cr ks zq bs).map fun b=>(aI L e d (.bool (if neq then !b else b)),ah):=rfl
theorem Zi {L:List Nat} {e:Env} {ah:AH} {d:Option Nat} {l:List UInt8} {k k2:IntKind} {i j:Int}:PL L e ah d l (.int k i) (.int k2 j)=(sub l i j).map fun m=>(aI L e d (.str m),ah):=rfl
theorem Zj {L:List Nat} {e:Env} {ah:AH} {d:Option Nat} {q:Nat} {xs:List AV} {k k2:IntKind} {i j:Int}:PM L e ah d q xs (.int k i) (.int k2 j)=(sub xs i j).map fun ys=>(aI L e d (.sl .n q ys),ah):=rfl
theorem VT {L:List Nat} {e:Env} {ah:AH} {d:Option Nat} {q:Nat} {xs:List AV} {k k2 k3:IntKind} {i j m:Int}:EE L e ah d q xs (.int k i) (.int k2 j) (.int k3 m)=(wC xs i j m).map fun ys=>(aI L e d (.sl .ex q ys),ah):=rfl
theorem VU {L:List Nat} {e:Env} {ah:AH} {d:Option Nat} {k b:Nat} {x:Ar} {ys xs:List AV} {tg:Tg}:Ig L e ah d k b x ys (.sl tg k xs)=EG L e ah d k x xs tg (cB b xs ys):=by simp [Ig]
theorem VV {L:List Nat} {e:Env} {ah:AH} {d:Option Nat} {k:Nat} {x:Ar} {xs zs:List AV}:sM L e ah d k x xs zs .ex=some (aI L e d (.sl .own k zs),ah):=rfl
theorem SL {L:List Nat} {e:Env} {ah:AH} {d:Option Nat} {k y:Nat} {xs zs:List AV}:sM L e ah d k (.t y) xs zs .own=some (aI L (put e y (.sl .n k xs)) d (.sl .own k zs),ah):=rfl
def aTt (L:List Nat) (e:Env) (ah:AH) (d:Option Nat) (k u:Nat) (zs:List AV):AV→Option (Env×AH)
 | .sl .own k' us=>if k'=k then some (aI L (put e u (.sl .n k' us)) d (.sl .own k zs),ah) else none
 |_=>none
def Zk (L:List Nat) (e:Env) (ah:AH) (d:Option Nat) (k s q:Nat) (zs cs:List AV):Option AV→Option (Env×AH)
 |some (.sl .own k' us)=>if k'=k then (over cs q [.sl .n k' us]).map fun cs=>(aI L e d (.sl .own k zs),ah.set s cs) else none
 |_=>none
def aTh (L:List Nat) (e:Env) (ah:AH) (d:Option Nat) (k s q:Nat) (zs:List AV):Option (List AV)→Option (Env×AH)
 |some cs=>Zk L e ah d k s q zs cs (cs[q]?)
 |none=>none
theorem Zl {L:List Nat} {e:Env} {ah:AH} {d:Option Nat} {k u:Nat} {x:Ar} {xs zs:List AV}:sM L e ah d k x xs zs (.fr (.tmp u))=aTt L e ah d k u zs (Am.get e u):=by simp only [sM];cases Am.get e u with|sl tg k2 us=>cases tg<;>rfl|_=>rfl
theorem Zm {L:List Nat} {e:Env} {ah:AH} {d:Option Nat} {k s q:Nat} {x:Ar} {xs zs:List AV}:sM L e ah d k x xs zs (.fr (.cell s q))=aTh L e ah d k s q zs (ah[s]?):=by simp only [sM];cases ah[s]? with|none=>rfl|some cs=>simp only [aTh];cases cs[q]? with|none=>rfl|some a=>cases a with|sl tg k2 us=>cases tg<;>rfl|_=>rfl
theorem abO {L:List Nat} {e:Env} {ah:AH} {d:Option Nat} {k u:Nat} {zs us:List AV}:aTt L e ah d k u zs (.sl .own k us)=some (aI L (put e u (.sl .n k us)) d (.sl .own k zs),ah):=by simp [aTt]
theorem abP {L:List Nat} {e:Env} {ah:AH} {d:Option Nat} {k s q:Nat} {zs cs:List AV}:aTh L e ah d k s q zs (some cs)=Zk L e ah d k s q zs cs (cs[q]?):=rfl
theorem abQ {L:List Nat} {e:Env} {ah:AH} {d:Option Nat} {k s q:Nat} {zs cs us:List AV}:Zk L e ah d k s q zs cs (some (.sl .own k us))=(over cs q [.sl .n k us]).map fun cs=>(aI L e d (.sl .own k zs),ah.set s cs):=by simp [Zk]
theorem abR:b5 []=true:=rfl
theorem abS {a:AV} {r:List AV}:b5 (a::r)=(a.flat&&b5 r):=rfl
theorem abT:b6 []=true:=rfl
theorem adX {a:AV} {r:List AV}:b6 (a::r)=(a.jj&&b6 r):=rfl
theorem abU:gb []=true:=rfl
theorem adY {a:AV} {r:List AV}:gb (a::r)=(a.np&&gb r):=rfl
theorem adZ {t:Nat}:Am.get [] t= .un:=rfl
theorem ad0 {i t:Nat} {a:AV} {r:Env}:Am.get ((i,a)::r) t=if i=t then a else Am.get r t:=rfl
theorem ad1 {d:Nat} {a:AV}:put [] d a=[(d,a)]:=rfl
theorem ad3 {i d:Nat} {a b:AV} {r:Env}:put ((i,b)::r) d a=if i=d then (d,a)::r else if d<i then (d,a)::(i,b)::r else (i,b)::put r d a:=rfl
theorem ad4 {L:List Nat}:keep L []=[]:=rfl
theorem ad5 {L:List Nat} {i:Nat} {a:AV} {r:Env}:keep L ((i,a)::r)=if L.contains i then (i,a)::keep L r else keep L r:=rfl
theorem ad6 {l:Loc}:lf l []=[]:=rfl
theorem ad7 {l:Loc} {i:Nat} {a:AV} {r:Env}:lf l ((i,a)::r)=(i,a.eB l)::lf l r:=rfl
theorem ad8:wu []=[]:=rfl
theorem ad9 {i:Nat} {a:AV} {r:Env}:wu ((i,a)::r)=(i,a.jh)::wu r:=rfl
theorem aea {e:Env}:p9 e none=e:=rfl
theorem aeb {e:Env} {d:Nat}:p9 e (some d)=put e d (.bK []):=rfl
theorem aec {L:List Nat} {e:Env} {a:AV}:aI L e none a=e:=rfl
theorem aed {L:List Nat} {e:Env} {d:Nat} {a:AV}:aI L e (some d) a=if L.contains d then (if a.bU then put (lf (.tmp d) e) d a else put e d a.df) else put e d a:=rfl
theorem aee {i:Nat}:fo i []=[]:=rfl
theorem aef {i:Nat} {a:AV} {r:List AV}:fo i (a::r)=(i,a)::fo (i+1) r:=rfl
theorem aeg {k:IntKind} {i:Int}:iY k i= .int k i:=rfl
theorem aeh {a b:Nat}:(Loc.tmp a=Loc.tmp b)=(a=b):=by simp
theorem aei {a b c d:Nat}:(Loc.cell a b=Loc.cell c d)=(a=c∧b=d):=by simp
theorem abV {a c d:Nat}:(Loc.tmp a=Loc.cell c d)=False:=by simp
theorem abW {a c d:Nat}:(Loc.cell c d=Loc.tmp a)=False:=by simp
def ur (e:Env) (ah:AH) (s p n:Nat) (x:Ar) (cs:List AV):AV→Option (Env×AH)
 | .sl .own k xs=>match x with
   | .t y=>if n=1 then (over cs p [.sl .own k xs]).map fun cs=>(lf (.cell s p) (put e y (.sl .n k xs)),ah.set s cs) else none
   | .c a=>if (AV.sl .own k xs).cells.length=n∧b6 (AV.sl .own k xs).cells then (over cs p ((AV.sl .own k xs).cells.map AV.bS)).map fun cs=>(e,ah.set s cs) else none
 |w=>if w.cells.length=n∧b6 w.cells then (over cs p (w.cells.map AV.bS)).map fun cs=>(e,ah.set s cs) else none
def Zn (e:Env) (ah:AH) (s p n:Nat) (x:Ar):Option (List AV)→Option (Env×AH)
 |some cs=>ur e ah s p n x cs (ev e x)
 |none=>none
def stK (e:Env) (ah:AH) (n:Nat) (x:Ar):AV→Option (Env×AH)
 | .ptr s p=>Zn e ah s p n x (ah[s]?)
 |_=>none
theorem aar {P:Program} {L:List Nat} {N n0:Nat} {e:Env} {ah:AH} {t:List It} {Q:Exit→Env→AH→Prop} {r:List aQ} {d:Option Nat} {a x:Ar} {n:Nat} {g:Option (Nat×Bool)}:UG P L N n0 ⟨d, .st a x n,g⟩ r t Q e ah (some true)=US P L N n0 r t Q (stK e ah n x (ev e a)):=by
 simp only [UG,bN]
 congr 1
 cases ev e a with
 |ptr s p=>
  simp only [stK]
  cases ah[s]? with
  |none=>rfl
  |some cs=>
   simp only [Zn]
   cases ev e x with
   |sl tg k xs=>cases tg<;>cases x<;>rfl
   |_=>rfl
 |_=>rfl
theorem abX {e:Env} {ah:AH} {s p n:Nat} {x:Ar}:stK e ah n x (.ptr s p)=Zn e ah s p n x (ah[s]?):=rfl
theorem abY {e:Env} {ah:AH} {s p n:Nat} {x:Ar} {cs:List AV}:Zn e ah s p n x (some cs)=ur e ah s p n x cs (ev e x):=rfl
theorem SM {e:Env} {ah:AH} {s p n y k:Nat} {cs xs:List AV}:ur e ah s p n (.t y) cs (.sl .own k xs)=if n=1 then (over cs p [.sl .own k xs]).map fun cs=>(lf (.cell s p) (put e y (.sl .n k xs)),ah.set s cs) else none:=rfl
theorem VW {e:Env} {ah:AH} {s p n:Nat} {x:Ar} {cs:List AV} {z:Value}:ur e ah s p n x cs (.v z)=if (AV.cells (.v z)).length=n∧b6 (AV.cells (.v z)) then (over cs p ((AV.cells (.v z)).map AV.bS)).map fun cs=>(e,ah.set s cs) else none:=rfl
theorem Oi {e:Env} {ah:AH} {s p n:Nat} {x:Ar} {cs:List AV} {k:IntKind} {i:Int}:ur e ah s p n x cs (.int k i)=if (AV.cells (.int k i)).length=n∧b6 (AV.cells (.int k i)) then (over cs p ((AV.cells (.int k i)).map AV.bS)).map fun cs=>(e,ah.set s cs) else none:=rfl
theorem Lb {e:Env} {ah:AH} {s p n:Nat} {x:Ar} {cs:List AV} {b:Bool}:ur e ah s p n x cs (.bool b)=if (AV.cells (.bool b)).length=n∧b6 (AV.cells (.bool b)) then (over cs p ((AV.cells (.bool b)).map AV.bS)).map fun cs=>(e,ah.set s cs) else none:=rfl
theorem Oj {e:Env} {ah:AH} {s p n:Nat} {x:Ar} {cs:List AV} {l:List UInt8}:ur e ah s p n x cs (.str l)=if (AV.cells (.str l)).length=n∧b6 (AV.cells (.str l)) then (over cs p ((AV.cells (.str l)).map AV.bS)).map fun cs=>(e,ah.set s cs) else none:=rfl
theorem Ok {e:Env} {ah:AH} {s p n:Nat} {x:Ar} {cs:List AV} {s0 o:Nat}:ur e ah s p n x cs (.ptr s0 o)=if (AV.cells (.ptr s0 o)).length=n∧b6 (AV.cells (.ptr s0 o)) then (over cs p ((AV.cells (.ptr s0 o)).map AV.bS)).map fun cs=>(e,ah.set s cs) else none:=rfl
theorem SN {e:Env} {ah:AH} {s p n:Nat} {x:Ar} {cs:List AV} {a:AV} {o:Nat}:ur e ah s p n x cs (.ep a o)=if (AV.cells (.ep a o)).length=n∧b6 (AV.cells (.ep a o)) then (over cs p ((AV.cells (.ep a o)).map AV.bS)).map fun cs=>(e,ah.set s cs) else none:=rfl
theorem SP {e:Env} {ah:AH} {s p n:Nat} {x:Ar} {cs:List AV} {f:Nat} {ds:List AV}:ur e ah s p n x cs (.fn f ds)=if (AV.cells (.fn f ds)).length=n∧b6 (AV.cells (.fn f ds)) then (over cs p ((AV.cells (.fn f ds)).map AV.bS)).map fun cs=>(e,ah.set s cs) else none:=rfl
theorem SQ {e:Env} {ah:AH} {s p n:Nat} {x:Ar} {cs:List AV} {c:UInt8}:ur e ah s p n x cs (b8 c)=if (AV.cells (b8 c)).length=n∧b6 (AV.cells (b8 c)) then (over cs p ((AV.cells (b8 c)).map AV.bS)).map fun cs=>(e,ah.set s cs) else none:=rfl
theorem SS {e:Env} {ah:AH} {s p n:Nat} {x:Ar} {cs:List AV} {k:Nat} {xs:List AV}:ur e ah s p n x cs (.sl .n k xs)=if (AV.cells (.sl .n k xs)).length=n∧b6 (AV.cells (.sl .n k xs)) then (over cs p ((AV.cells (.sl .n k xs)).map AV.bS)).map fun cs=>(e,ah.set s cs) else none:=rfl
theorem Ol {e:Env} {ah:AH} {s p n:Nat} {x:Ar} {cs:List AV} {k:Nat} {xs:List AV}:ur e ah s p n x cs (.sl .ex k xs)=if (AV.cells (.sl .ex k xs)).length=n∧b6 (AV.cells (.sl .ex k xs)) then (over cs p ((AV.cells (.sl .ex k xs)).map AV.bS)).map fun cs=>(e,ah.set s cs) else none:=rfl
theorem Om {e:Env} {ah:AH} {s p n:Nat} {x:Ar} {cs:List AV} {l:Loc} {k:Nat} {xs:List AV}:ur e ah s p n x cs (.sl (.fr l) k xs)=if (AV.cells (.sl (.fr l) k xs)).length=n∧b6 (AV.cells (.sl (.fr l) k xs)) then (over cs p ((AV.cells (.sl (.fr l) k xs)).map AV.bS)).map fun cs=>(e,ah.set s cs) else none:=rfl
theorem On {e:Env} {ah:AH} {s p n:Nat} {x:Ar} {cs:List AV} {ds:List AV}:ur e ah s p n x cs (.agg ds)=if (AV.cells (.agg ds)).length=n∧b6 (AV.cells (.agg ds)) then (over cs p ((AV.cells (.agg ds)).map AV.bS)).map fun cs=>(e,ah.set s cs) else none:=rfl
theorem Oo {e:Env} {ah:AH} {s p n:Nat} {x:Ar} {cs:List AV} {q0 k0 o0 m0:Nat}:ur e ah s p n x cs (.cI q0 k0 o0 m0)=if (AV.cells (.cI q0 k0 o0 m0)).length=n∧b6 (AV.cells (.cI q0 k0 o0 m0)) then (over cs p ((AV.cells (.cI q0 k0 o0 m0)).map AV.bS)).map fun cs=>(e,ah.set s cs) else none:=rfl
theorem Oq {e:Env} {ah:AH} {s p n:Nat} {x:Ar} {cs:List AV} {q0 k0 m0 c0:Nat}:ur e ah s p n x cs (.cu q0 k0 m0 c0)=if (AV.cells (.cu q0 k0 m0 c0)).length=n∧b6 (AV.cells (.cu q0 k0 m0 c0)) then (over cs p ((AV.cells (.cu q0 k0 m0 c0)).map AV.bS)).map fun cs=>(e,ah.set s cs) else none:=rfl
theorem Ot {e:Env} {ah:AH} {s p n:Nat} {x:Ar} {cs:List AV}:ur e ah s p n x cs (.dU)=if (AV.cells (.dU)).length=n∧b6 (AV.cells (.dU)) then (over cs p ((AV.cells (.dU)).map AV.bS)).map fun cs=>(e,ah.set s cs) else none:=rfl
theorem SU {e:Env} {ah:AH} {s p n:Nat} {x:Ar} {cs:List AV} {eb:Bool}:ur e ah s p n x cs (dW eb)=if (AV.cells (dW eb)).length=n∧b6 (AV.cells (dW eb)) then (over cs p ((AV.cells (dW eb)).map AV.bS)).map fun cs=>(e,ah.set s cs) else none:=by cases eb<;>rfl
theorem Zo {c0:AV} {cs ws:List AV} {o:Nat}:over (c0::cs) o ws=if o+ws.length≤(c0::cs).length then some ((c0::cs).take o++ws++(c0::cs).drop (o+ws.length)) else none:=rfl
theorem aej {e:Env} {cs:List AV}:fill e cs []=some cs:=rfl
def VX (e:Env) (r:List (Nat×Nat×Ar)):Option (List AV)→Option (List AV)
 |some cs=>fill e cs r
 |none=>none
theorem aek {e:Env} {cs:List AV} {o n:Nat} {x:Ar} {r:List (Nat×Nat×Ar)}:fill e cs ((o,n,x)::r)=if (ev e x).cells.length=n∧b6 (ev e x).cells then VX e r (over cs o ((ev e x).cells.map AV.bS)) else none:=by
 simp only [fill]
 split
 · cases over cs o ((ev e x).cells.map AV.bS)<;>rfl
 · rfl
theorem ael {e:Env} {cs:List AV} {r:List (Nat×Nat×Ar)}:VX e r (some cs)=fill e cs r:=rfl
theorem VY {P:Program} {L:List Nat} {N n0:Nat} {e:Env} {ah:AH} {t:List It} {Q:Exit→Env→AH→Prop} {r:List aQ} {d:Option Nat} {x:Ar} {g:Option (Nat×Bool)}:UG P L N n0 ⟨d, .len x,g⟩ r t Q e ah (some true)=US P L N n0 r t Q (PR L e ah d (ev e x)):=by simp only [UG,bN];cases ev e x<;>rfl
theorem Zp {L:List Nat} {e:Env} {ah:AH} {d:Option Nat} {tg:Tg} {k:Nat} {xs:List AV}:PR L e ah d (.sl tg k xs)=some (aI L e d (.int .i64 xs.length),ah):=rfl
theorem PS {P:Program} {L:List Nat} {N n0:Nat} {e:Env} {ah:AH} {t:List It} {Q:Exit→Env→AH→Prop} {r:List aQ} {d:Option Nat} {x:Ar} {g:Option (Nat×Bool)}:UG P L N n0 ⟨d, .lens x,g⟩ r t Q e ah (some true)=US P L N n0 r t Q (U2 L e ah d (ev e x)):=by simp only [UG,bN];cases ev e x<;>rfl
theorem VZ {L:List Nat} {e:Env} {ah:AH} {d:Option Nat} {l:List UInt8}:U2 L e ah d (.str l)=some (aI L e d (.int .i64 l.length),ah):=rfl
theorem V0 {P:Program} {L:List Nat} {N n0:Nat} {e:Env} {ah:AH} {t:List It} {Q:Exit→Env→AH→Prop} {r:List aQ} {d:Option Nat} {x:Ar} {i:Nat} {g:Option (Nat×Bool)}:UG P L N n0 ⟨d, .ext x i,g⟩ r t Q e ah (some true)=US P L N n0 r t Q (U4 L e ah d i (ev e x)):=by simp only [UG,bN];cases ev e x with|bK cs=>simp only [U4];cases cs[i]? <;>rfl|_=>rfl
theorem Zq {L:List Nat} {e:Env} {ah:AH} {d:Option Nat} {i:Nat} {cs:List AV}:U4 L e ah d i (.bK cs)=U3 L e ah d (cs[i]?):=rfl
theorem Zr {L:List Nat} {e:Env} {ah:AH} {d:Option Nat} {a:AV}:U3 L e ah d (some a)=some (aI L e d a.sh,ah):=rfl
theorem PT {P:Program} {L:List Nat} {N n0:Nat} {e:Env} {ah:AH} {t:List It} {Q:Exit→Env→AH→Prop} {r:List aQ} {d:Option Nat} {x:Ar} {q:Nat} {n:Option Nat} {g:Option (Nat×Bool)}:UG P L N n0 ⟨d, .G8 x q n,g⟩ r t Q e ah (some true)=US P L N n0 r t Q (Ij L e ah d q n (ev e x)):=by
 simp only [UG,bN]
 cases ev e x with
 |agg cs=>
  cases n with
  |some n=>rfl
  |none=>simp only [Ij];cases cs[q]? <;>rfl
 |_=>cases n<;>rfl
theorem abZ {L:List Nat} {e:Env} {ah:AH} {d:Option Nat} {q:Nat} {cs:List AV}:Ij L e ah d q none (.agg cs)=MM L e ah d (cs[q]?):=rfl
theorem ab0 {L:List Nat} {e:Env} {ah:AH} {d:Option Nat} {a:AV}:MM L e ah d (some a)=some (aI L e d a.bS,ah):=rfl
theorem ab1 {L:List Nat} {e:Env} {ah:AH} {d:Option Nat} {q n:Nat} {cs:List AV}:Ij L e ah d q (some n) (.agg cs)=if q+n≤cs.length then some (aI L e d (.agg (((cs.drop q).take n).map AV.bS)),ah) else none:=rfl
theorem V1 {P:Program} {L:List Nat} {N n0:Nat} {e:Env} {ah:AH} {t:List It} {Q:Exit→Env→AH→Prop} {r:List aQ} {d:Option Nat} {x:Ar} {n:Option Nat} {g:Option (Nat×Bool)}:UG P L N n0 ⟨d, .lV x n,g⟩ r t Q e ah (some true)=US P L N n0 r t Q (U5 L e ah d n (ev e x)):=by
 simp only [UG,bN]
 cases ev e x with
 |ep a p=>
  cases n with
  |some n=>rfl
  |none=>simp only [U5,H8,QM];cases a.cells[p]? <;>rfl
 |_=>cases n<;>rfl
theorem ab2 {L:List Nat} {e:Env} {ah:AH} {d:Option Nat} {n:Option Nat} {a:AV} {p:Nat}:U5 L e ah d n (.ep a p)=H8 L d n e ah (.ep a p):=rfl
def WA0:=And.intro @U6<|And.intro @MN<|And.intro @Kn<|And.intro @MO<|And.intro @MP<|And.intro @QT<|And.intro @QU<|And.intro @QV<|And.intro @QW<|And.intro @QX<|And.intro @MQ<|And.intro @Ko<|And.intro @MR<|And.intro @MS<|And.intro @MT<|And.intro @MU<|And.intro @MV<|And.intro @MW<|And.intro @QY<|And.intro @Zb<|And.intro @QZ<|And.intro @MX<|And.intro @Q0<|And.intro @Q1<|And.intro @U7<|And.intro @U8<|And.intro @U9<|And.intro @Va<|And.intro @Vb<|And.intro @Q2<|And.intro @MY<|And.intro @Q3<|And.intro @Q4<|And.intro @Q5<|And.intro @Q6<|And.intro @Q7<|And.intro @Q8<|And.intro @Vc<|And.intro @Zc<|And.intro @Q9<|And.intro @MZ<|And.intro @Ra<|And.intro @Rb<|And.intro @Vd<|And.intro @Ve<|And.intro @Vf<|And.intro @Vg<|And.intro @Vh<|And.intro @Rc<|And.intro @M0<|And.intro @Rd<|And.intro @Re<|And.intro @Rf<|And.intro @Rg<|And.intro @Rh<|And.intro @Ri<|And.intro @Vi<|And.intro @Zd<|And.intro @Rj<|@M1
def WA1:=And.intro @Rk<|And.intro @Rl<|And.intro @Vj<|And.intro @Vk<|And.intro @Vl<|And.intro @Vm<|And.intro @Vn<|And.intro @Rm<|And.intro @M3<|And.intro @Rn<|And.intro @Ro<|And.intro @Rp<|And.intro @Rq<|And.intro @Rr<|And.intro @Rs<|And.intro @Vo<|And.intro @Ze<|And.intro @Rt<|And.intro @M4<|And.intro @Ru<|And.intro @Rv<|And.intro @Vp<|And.intro @Vq<|And.intro @Vr<|And.intro @Vs<|And.intro @Vt<|And.intro @Rx<|And.intro @M5<|And.intro @Ry<|And.intro @Rz<|And.intro @RA<|And.intro @RB<|And.intro @RC<|And.intro @RD<|And.intro @Vu<|And.intro @M6<|And.intro @Ik<|And.intro @Gd<|And.intro @Il<|And.intro @Im<|And.intro @Kp<|And.intro @Kq<|And.intro @Kr<|And.intro @Ks<|And.intro @Kt<|And.intro @Io<|And.intro @Ge<|And.intro @Ip<|And.intro @Iq<|And.intro @Ir<|And.intro @Is<|And.intro @Iu<|And.intro @Iv<|And.intro @Ku<|And.intro @Vv<|And.intro @M7<|And.intro @Kv<|And.intro @M8<|And.intro @M9<|@RE
def WA2:=And.intro @RF<|And.intro @RG<|And.intro @RH<|And.intro @RI<|And.intro @Na<|And.intro @Kw<|And.intro @Nb<|And.intro @Nc<|And.intro @Nd<|And.intro @Nf<|And.intro @Ng<|And.intro @Nh<|And.intro @RJ<|And.intro @RL<|And.intro @Kx<|And.intro @Iw<|And.intro @Ky<|And.intro @Kz<|And.intro @Ni<|And.intro @Nj<|And.intro @Nk<|And.intro @Nl<|And.intro @Nn<|And.intro @KB<|And.intro @Ix<|And.intro @KC<|And.intro @KD<|And.intro @KE<|And.intro @KF<|And.intro @KG<|And.intro @KH<|And.intro @Np<|And.intro @Vw<|And.intro @Nq<|And.intro @KI<|And.intro @Nr<|And.intro @Ns<|And.intro @RM<|And.intro @RN<|And.intro @RO<|And.intro @RP<|And.intro @RQ<|And.intro @Nt<|And.intro @KJ<|And.intro @Nu<|And.intro @Nv<|And.intro @Nw<|And.intro @Nx<|And.intro @Ny<|And.intro @RR<|And.intro @Vx<|And.intro @Vy<|And.intro @Nz<|And.intro @Iy<|And.intro @Gf<|And.intro @Iz<|And.intro @IA<|And.intro @KK<|And.intro @KL<|@KM
def WA3:=And.intro @KN<|And.intro @KO<|And.intro @IB<|And.intro @Gg<|And.intro @IC<|And.intro @ID<|And.intro @IE<|And.intro @IF<|And.intro @IG<|And.intro @II<|And.intro @KP<|And.intro @Vz<|And.intro @NA<|And.intro @KQ<|And.intro @NB<|And.intro @NC<|And.intro @RS<|And.intro @RT<|And.intro @RU<|And.intro @RV<|And.intro @RW<|And.intro @ND<|And.intro @KR<|And.intro @NF<|And.intro @NH<|And.intro @NI<|And.intro @NJ<|And.intro @NK<|And.intro @NL<|And.intro @RX<|And.intro @RY<|And.intro @KS<|And.intro @IJ<|And.intro @KT<|And.intro @KU<|And.intro @NM<|And.intro @NN<|And.intro @NP<|And.intro @NQ<|And.intro @NR<|And.intro @KV<|And.intro @IK<|And.intro @KW<|And.intro @KX<|And.intro @KY<|And.intro @KZ<|And.intro @K1<|And.intro @K2<|And.intro @NS<|And.intro @Zf<|And.intro @RZ<|And.intro @NT<|And.intro @R8<|And.intro @R9<|And.intro @VA<|And.intro @VB<|And.intro @VC<|And.intro @VD<|And.intro @VE<|@Sa
def WA4:=And.intro @NU<|And.intro @Sb<|And.intro @Sc<|And.intro @Sd<|And.intro @Se<|And.intro @Sf<|And.intro @Sg<|And.intro @VF<|And.intro @NV<|And.intro @IL<|And.intro @Gh<|And.intro @IM<|And.intro @IP<|And.intro @K3<|And.intro @K4<|And.intro @K5<|And.intro @K6<|And.intro @K7<|And.intro @IQ<|And.intro @Gi<|And.intro @IU<|And.intro @IV<|And.intro @IW<|And.intro @IX<|And.intro @IY<|And.intro @IZ<|And.intro @K8<|And.intro @Zg<|And.intro @Sh<|And.intro @NW<|And.intro @Si<|And.intro @Sj<|And.intro @VG<|And.intro @VH<|And.intro @VI<|And.intro @VJ<|And.intro @VK<|And.intro @Sk<|And.intro @Sl<|And.intro @Sm<|And.intro @Sn<|And.intro @So<|And.intro @Sp<|And.intro @Sq<|And.intro @VL<|And.intro @VM<|And.intro @VN<|And.intro @VO<|And.intro @NX<|And.intro @K9<|And.intro @NY<|And.intro @NZ<|And.intro @Sr<|And.intro @Ss<|And.intro @Su<|And.intro @Sv<|And.intro @Sw<|And.intro @N0<|And.intro @N1<|@N2
def WA5:=And.intro @N3<|And.intro @N4<|And.intro @N5<|And.intro @N6<|And.intro @Sx<|And.intro @Sy<|And.intro @Sz<|And.intro @SA<|And.intro @SB<|And.intro @N7<|And.intro @SC<|And.intro @N8<|And.intro @SD<|And.intro @SE<|And.intro @VP<|And.intro @VQ<|And.intro @VS<|And.intro @N9<|And.intro @La<|And.intro @Oa<|And.intro @Ob<|And.intro @SF<|And.intro @SG<|And.intro @SH<|And.intro @SI<|And.intro @SJ<|And.intro @Oc<|And.intro @Od<|And.intro @Oe<|And.intro @Of<|And.intro @Og<|And.intro @Oh<|And.intro @SK<|And.intro @Zh<|And.intro @Zi<|And.intro @Zj<|And.intro @VT<|And.intro @VU<|And.intro @VV<|And.intro @SL<|And.intro @Zl<|And.intro @Zm<|And.intro @abO<|And.intro @abP<|And.intro @abQ<|And.intro @abR<|And.intro @abS<|And.intro @abT<|And.intro @adX<|And.intro @abU<|And.intro @adY<|And.intro @adZ<|And.intro @ad0<|And.intro @ad1<|And.intro @ad3<|And.intro @ad4<|And.intro @ad5<|And.intro @ad6<|And.intro @ad7<|@ad8
def WA6:=And.intro @ad9<|And.intro @aea<|And.intro @aeb<|And.intro @aec<|And.intro @aed<|And.intro @aee<|And.intro @aef<|And.intro @aeg<|And.intro @aeh<|And.intro @aei<|And.intro @abV<|And.intro @abW<|And.intro @aar<|And.intro @abX<|And.intro @abY<|And.intro @SM<|And.intro @VW<|And.intro @Oi<|And.intro @Lb<|And.intro @Oj<|And.intro @Ok<|And.intro @SN<|And.intro @SP<|And.intro @SQ<|And.intro @SS<|And.intro @Ol<|And.intro @Om<|And.intro @On<|And.intro @Oo<|And.intro @Oq<|And.intro @Ot<|And.intro @SU<|And.intro @Zo<|And.intro @aej<|And.intro @aek<|And.intro @ael<|And.intro @VY<|And.intro @Zp<|And.intro @PS<|And.intro @VZ<|And.intro @V0<|And.intro @Zq<|And.intro @Zr<|And.intro @PT<|And.intro @abZ<|And.intro @ab0<|And.intro @ab1<|And.intro @V1<|@ab2
end Go.Am
end
section
namespace Go.Am
open Go
variable [Tabs]
def wD (n:Nat) (i:Int):Option Nat:=if 0≤i∧i<n then some i.toNat else none
def aas {α:Type} (xs:List α) (j:Nat) (c:α):Option (List α):=if j<xs.length then some (xs.set j c) else none
section
variable {P:Program} {L:List Nat} {e:Env} {ah:AH} {d:Option Nat}
theorem Zs {xs:List UInt8} {j:Nat} {c:UInt8}:over (ml b8 xs) j [b8 c]=(aas xs j c).map (ml b8):=by
 unfold over aas ml
 simp only [List.length_map,List.length_cons,List.length_nil]
 by_cases h:j<xs.length
 · rw [if_pos (by omega),if_pos h]
   simp only [Option.map_some,Option.some.injEq,List.map_set]
   rw [List.set_eq_take_append_cons_drop,if_pos (by simpa using h)]
   simp
 · rw [if_neg (by omega),if_neg h];rfl
theorem ab3 {xs:List UInt8} {j:Nat}:(ml b8 xs)[j]? =(xs[j]?).map b8:=by simp [ml]
theorem aem {s n:Nat} {ki:IntKind} {i:Int}:tu L e ah d 1 (.cI s 1 0 n) (.int ki i)=(wD n i).map fun j=>(aI L e d (.ptr s j),ah):=by
 simp only [tu,wD,and_true]
 split<;>simp
theorem ab4 {s k o n:Nat}:PR L e ah d (.cI s k o n)=some (aI L e d (.int .i64 n),ah):=rfl
theorem V3 {h:Cv} {l:List UInt8}:EA L e ah d h (.str l)=(fF h (.str l)).map fun a=>(aI L e d a,ah):=rfl
theorem V4 {h:Cv} {k:IntKind} {i:Int}:EA L e ah d h (.int k i)=(fF h (.int k i)).map fun a=>(aI L e d a,ah):=rfl
theorem Zt {h:Cv} {c:UInt8}:EA L e ah d h (b8 c)=(fF h (b8 c)).map fun a=>(aI L e d a,ah):=rfl
theorem Zu {h:Cv} {t:Tg} {k:Nat} {xs:List AV}:EA L e ah d h (.sl t k xs)=(fF h (.sl t k xs)).map fun a=>(aI L e d a,ah):=rfl
theorem V5 {s n:Nat}:EA L e ah d .bs (.cI s 1 0 n)=Ut L e ah d 0 n (ah[s]?):=rfl
theorem M_s {p n:Nat} {cs:List AV}:Ut L e ah d p n (some cs)=Py L e ah d p n cs:=rfl
theorem M_t {n:Nat} {xs:List UInt8}:Py L e ah d 0 n (ml b8 xs)=(sub xs 0 (n:Int)).map fun l=>(aI L e d (.str l),ah):=by
 unfold Py sub
 have hb:bytesOf (((ml b8 xs).drop 0).take n)=some (xs.take n):=by
  have:((ml b8 xs).drop 0).take n=(ml b8 (xs.take n)):=by simp [ml,List.map_take]
  rw [this];exact C7 _
 rw [hb]
 by_cases h:n≤xs.length
 · rw [if_pos (by simp [ml];exact h),if_pos (by omega)];simp
 · rw [if_neg (by simp [ml];omega),if_neg (by omega)];rfl
theorem M_o {l:List UInt8}:Uu L e ah d (.str l)=some (aI L e d (.cI ah.length 1 0 l.length),ah++[ml b8 l]):=rfl
theorem ab5:Mp .dU (.v .nilIface)=some false:=rfl
theorem ab6:Mp (.v .nilIface) (.v .nilIface)=some true:=rfl
theorem ab7 {b:Bool}:Mp (dW b) (.v .nilIface)=some (!b):=by cases b<;>rfl
theorem ab8 {k:IntKind} {i j:Int}:JO true (.int k i) (.int k j)=some (.int k (max i j)):=by simp [JO]
theorem ab9 {k:IntKind} {i j:Int}:JO false (.int k i) (.int k j)=some (.int k (min i j)):=by simp [JO]
end
def WM:=And.intro @Zs<|And.intro @ab3<|And.intro @aem<|And.intro @ab4<|And.intro @V3<|And.intro @V4<|And.intro @Zt<|And.intro @Zu<|And.intro @V5<|And.intro @M_s<|And.intro @M_t<|And.intro @M_o<|And.intro @ab5<|And.intro @ab6<|And.intro @ab7<|And.intro @Bool.not_not<|And.intro @ab8<|And.intro @ab9<|And.intro @YI<|And.intro @YJ<|And.intro @adD @adF
theorem Wx.cI {s k o n:Nat}:Wx (.cI s k o n) (.cI s k o n):= .same (by simp)
theorem Wx.dU:Wx .dU .dU:= .same (by simp)
theorem Wx.epE {a b:AV} {o:Nat} (h:a=b):Wx (.ep a o) (.ep b o):=by subst h;exact Wx.ep
theorem Wx.err {b:Bool}:Wx (dW b) (dW b):= .same (by cases b<;>simp [dW])
end Go.Am
end
section
namespace Go.Am
open Go
variable [Tabs]
section
variable {P:Program} {L:List Nat} {N n0:Nat} {F:Nat→Prop} {γ:List Nat} {C:Nat→List Value} {e e':Env} {ah:AH} {ts:Array Value} {w:World} {Q K:Exit→Env→AH→Prop}
theorem SR.freeze (h:SR L N F γ C e ah ts w) {s:Nat} {cs ds:List AV} (hs:ah[s]? =some cs) (hne:cs≠[]) (hw:cx cs ds)
 (he:∀t,get e' t=get e t∨∃o,get e t= .ptr s o∧get e' t= .ep (.agg ds) o):∃C',SR L N F γ C' e' (ah.set s []) ts w∧Ext F C w C' w:=by
 have hlt:s<γ.length:=by rw [h.mem.len];exact (List.getElem?_eq_some_iff.1 hs).1
 obtain ⟨b,hb⟩:∃b,γ[s]? =some b:=⟨_,List.getElem?_eq_getElem hlt⟩
 obtain ⟨vs,ty,hh,hsz,hcell⟩:=h.mem.obj s b cs hs hb
 have F7:=h.mem.pZ s b cs hs hne hb
 have qX:blk γ e ah ts w (.obj s) b:=hb
 refine ⟨fun x=>if x=b then vs.toList else C x, ?_⟩
 generalize vp:(fun x=>if x=b then vs.toList else C x)=C'
 have c0:C' b=vs.toList:=by rw [←vp];simp
 have c1:∀x,x≠b→C' x=C x:=fun x hx=>by rw [←vp];simp [hx]
 have hpre:∀x,C x <+: C' x:=by
  intro x
  by_cases hx:x=b
  · subst hx;rw [F7];exact List.nil_prefix
  · rw [c1 x hx];exact List.prefix_refl _
 have gX:∀(s':Nat),s'≠s→(ah.set s [])[s']? =ah[s']? :=fun s' hn=>List.getElem?_set_ne (Ne.symm hn)
 have fP:(ah.set s [])[s]? =some []:=List.getElem?_set_self (by rw [←h.mem.len];exact hlt)
 have uk:∀(s':Nat),γ[s']? =some b→s'=s:=fun s' hs'=>by
  have:=h.dG (.obj s') (.obj s) b hs' hb;injection this
 have hbk:∀p x,blk γ e' (ah.set s []) ts w p x→blk γ e ah ts w p x:=by
  intro p x hp
  cases p with
  |obj s'=>exact hp
  |cell s' i=>
   obtain ⟨ds,a,b0,h1,h2,h3,h4⟩:=hp
   by_cases hn:s'=s
   · subst hn;rw [fP] at h1;injection h1 with h1;subst h1;simp at h2
   · rw [gX s' hn] at h1;exact ⟨ds,a,b0,h1,h2,h3,h4⟩
  |tmp t=>
   simp only [blk] at hp ⊢
   rcases he t with h1|⟨o,h1,h2⟩
   · rwa [h1] at hp
   · rw [h2] at hp;simp [bR] at hp
 have n6:∀(a:AV) (v:Value),TC w C a v→(∀x,bR a v=some x→x≠b)→TC w C' a v:=fun a v ht hn=>ht.mono fun x hx=>⟨rfl,c1 x (hn x hx)⟩
 refine ⟨⟨⟨by simp [h.mem.len],fun s' x ds h1 h2=> ?_,fun x hx=> ?_,fun s' x ds h1 h0 h2=> ?_,fun s' x ds us ty' fr h1 h2 h3=> ?_⟩,h.sz,fun t=> ?_,fun p q x hp hq=>h.dG p q x (hbk p x hp) (hbk q x hq),fun p x hp=>h.nf p x (hbk p x hp),h.kA,fun t l k xs ht=> ?_⟩,
  ⟨hpre,fun x hx=>⟨rfl,c1 x (fun e=>h.nf _ _ qX (e▸hx))⟩,Nat.le_refl _,rfl,rfl,rfl⟩⟩
 · by_cases hn:s'=s
   · subst hn
     rw [fP] at h1;injection h1 with h1;subst h1
     rw [hb] at h2;injection h2 with h2;subst h2
     exact ⟨vs,ty,hh,by simp,by simp⟩
   · rw [gX s' hn] at h1
     obtain ⟨us,ty',g1,g2,g3⟩:=h.mem.obj s' x ds h1 h2
     refine ⟨us,ty',g1,g2,fun i a hi=>⟨(g3 i a hi).1.mono hpre _ (fun _ _ h=>h),n6 _ _ (g3 i a hi).2 fun y hy e=> ?_⟩⟩
     subst e
     obtain ⟨v,hv, -, -⟩:=cellAt h.mem h1 hi h2
     have HU:v=us.getD i undef:=by
      have hlt:i<us.size:=Nat.lt_of_lt_of_le (List.getElem?_eq_some_iff.1 hi).1 g2
      rw [di g1,Array.getElem?_eq_getElem hlt] at hv
      simp [Array.getD_eq_getD_getElem?,Array.getElem?_eq_getElem hlt,Option.some.inj hv]
     have:blk γ e ah ts w (.cell s' i) y:=⟨ds,a,x,h1,hi,h2,by rw [hv,HU];exact hy⟩
     have:=h.dG _ _ _ this qX
     cases this
 · by_cases Lc:x=b
   · subst Lc;exact ⟨vs,ty.1,ty.2,hh,by rw [c0];exact List.prefix_refl _⟩
   · rw [c1 x Lc] at hx ⊢;exact h.mem.uf x hx
 · have hn:s'≠s:=by
    rintro rfl
    rw [fP] at h1;injection h1 with h1;exact h0 h1.symm
   rw [gX s' hn] at h1
   rw [c1 x (fun e=>hn (uk s' (e▸h2)))]
   exact h.mem.pZ s' x ds h1 h0 h2
 · by_cases hn:s'=s
   · subst hn
     rw [fP] at h1;injection h1 with h1;subst h1
     intro i hi;simp at hi
   · rw [gX s' hn] at h1
     exact h.mem.BO s' x ds us ty' fr h1 h2 h3
 · rcases he t with h1|⟨o,h1,h2⟩
   · rw [h1]
     refine ⟨(h.env t).1.mono hpre _ (fun _ _ h=>h),n6 _ _ (h.env t).2 fun y hy e=> ?_⟩
     subst e
     have:=h.dG (.tmp t) (.obj s) y hy qX
     cases this
   · have hv:=(h.env t).1
     rw [h1] at hv
     obtain ⟨b',hb',hv⟩:=hv.gM
     rw [hb] at hb';injection hb' with hb';subst hb'
     rw [h2,hv]
     refine ⟨?_,by trivial⟩
     have hep:=VR.ep (C:=C') γ (.agg ds) o b 0 (by rw [c0];simpa [AV.cells,hw.len] using hsz) (fun j a hj=>by
      have hj2:ds[j]? =some a:=hj
      have hjl:j<cs.length:=by rw [←hw.len];exact (List.getElem?_eq_some_iff.1 hj2).1
      have hj':cs[j]? =some cs[j]:=List.getElem?_eq_getElem hjl
      have:=(Wk.iU (hw.get j _ _ hj' hj2)).vr ((hcell j _ hj').1.mono hpre γ (fun _ _ h=>h))
      rw [c0,Nat.zero_add]
      have e1:vs.toList.getD j undef=vs.getD j undef:=by simp [List.getD_eq_getElem?_getD,Array.getD_eq_getD_getElem?]
      rw [e1];exact this)
     rwa [Nat.zero_add] at hep
 · rcases he t with h1|⟨o,h1,h2⟩
   · have hf:=h.fr t l k xs (by rw [←h1];exact ht)
     cases l with
     |tmp u=>
      refine ⟨hf.1,fun hu=>hf.2 ?_⟩
      rcases he u with g1|⟨o,g1,g2⟩
      · rwa [g1] at hu
      · rw [g2] at hu;cases hu
     |cell s' o=>
      intro ds a x g1 g2 g3 g4
      by_cases hn:s'=s
      · subst hn;rw [fP] at g1;injection g1 with g1;subst g1;simp at g2
      · rw [gX s' hn] at g1;exact hf ds a x g1 g2 g3 g4
   · rw [h2] at ht;cases ht
theorem AW.freeze {c:Code} {s:Nat} {cs ds:List AV} (hs:ah[s]? =some cs) (hne:cs≠[]) (hw:cx cs ds)
 (he:∀t,get e' t=get e t∨∃o,get e t= .ptr s o∧get e' t= .ep (.agg ds) o) (h:AW P L N n0 c Q e' (ah.set s [])):AW P L N n0 c Q e ah:=by
 intro F γ C ts w lg hn
 obtain ⟨C',h1,h2⟩:=lg.freeze hs hne hw he
 refine wp_mono (h F γ C' ts w h1 hn) ?_
 rintro x a w' ⟨q1,q2,e2,qY,γ2,C2,q3,q4,q5,q6⟩
 exact ⟨q1,q2,e2,qY,γ2,C2,q3,q4,q5,h2.trans q6⟩
inductive FZ (s:Nat) (cs:List AV):Env→Env→Prop
 |nil:FZ s cs [] []
 |same (i:Nat) (a:AV) (r r':Env):FZ s cs r r'→FZ s cs ((i,a)::r) ((i,a)::r')
 |ep (i o:Nat) (r r':Env):FZ s cs r r'→FZ s cs ((i, .ptr s o)::r) ((i, .ep (.agg cs) o)::r')
theorem FZ.get {s:Nat} {cs:List AV} {e e':Env} (h:FZ s cs e e') (t:Nat):Am.get e' t=Am.get e t∨∃o,Am.get e t= .ptr s o∧Am.get e' t= .ep (.agg cs) o:=by
 induction h with
 |nil=>exact .inl rfl
 |same i a r r' _ ih=>
  simp only [Am.get]
  by_cases hi:i=t
  · simp [hi]
  · simpa [hi] using ih
 |ep i o r r' _ ih=>
  simp only [Am.get]
  by_cases hi:i=t
  · exact .inr ⟨o,by simp [hi],by simp [hi]⟩
  · simpa [hi] using ih
theorem AX.freeze {c:aD} {s:Nat} {cs ds:List AV} (hs:ah[s]? =some cs) (hw:cx cs ds) (hne:cs≠[]) (he:FZ s ds e e') (h:AX P L N n0 c K e' (ah.set s [])):AX P L N n0 c K e ah:=
 fun c' cj=>AW.freeze hs hne hw he.get (h c' cj)
end
end Go.Am
end
