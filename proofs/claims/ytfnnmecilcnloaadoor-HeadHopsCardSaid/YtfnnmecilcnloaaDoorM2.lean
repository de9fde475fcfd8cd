import Derived.Test.YtfnnmecilcnloaaDoorM1
import Derived.Scope
import Derived.Lib.SlBytesConst
import Derived.OrdersHeld
set_option linter.unusedSimpArgs false
set_option linter.unusedVariables false
set_option linter.unusedSectionVars false
set_option linter.defProp false
section
namespace Go.Am
open Go
variable [Tabs]
section
variable {P:Program} {L:List Nat} {N:Nat} {F:Nat→Prop} {γ:List Nat} {C C':Nat→List Value} {e:Env} {ah:AH} {ts:Array Value} {ds:List Deferred} {w w':World} {m:Bool}
variable {e':Env} {aj:AH}
def cN.gW:cN→Bool
 | .call _ _=>true
 | .fD _ _ _ _=>true
 | .nq _ _=>true
 |_=>false
theorem A7 {o:Oper} {op:cN} (h:SR L N F γ C e ah ts w) (hd:∀x,o.dst=some x→x<N) (hc:cop P o=some op) (cu:op.gW=false)
 (hm:m=true∨((∀x n,op≠ .ld x n)∧∀x,op≠ .fC .bs x))
 (hev:aO L ⟨o.dst,op,none⟩ e ah=some (e',aj)):aG m P L N F γ C o ts ds w e' aj:=by
 obtain ⟨d,o,ty,pos,af,g⟩:=o
 simp only at hd hev
 cases o with
 |move x=>
  simp only [cop,Option.map_eq_some_iff] at hc
  obtain ⟨a,ha,rfl⟩:=hc
  simp only [aO,Option.some.injEq,Prod.mk.injEq] at hev
  obtain ⟨rfl,rfl⟩:=hev
  exact Nk h hd ha
 |assign x=>
  simp only [cop,Option.map_eq_some_iff] at hc
  obtain ⟨a,ha,rfl⟩:=hc
  exact Kx h hd ha hev
 |pick c a b=>
  simp only [cop] at hc
  split at hc
  · rename_i c' a' b' h1 h2 h3
    injection hc with hc;subst hc
    exact G8 h hd h1 h2 h3 hev
  · cases hc
 |alloc t=>
  simp only [cop,Option.map_eq_some_iff] at hc
  obtain ⟨a,ha,rfl⟩:=hc
  exact Ee h hd ha hev
 |box t x=>
  simp only [cop,Option.map_eq_some_iff] at hc
  obtain ⟨a,ha,rfl⟩:=hc
  exact KT h hd ha hev
 |build t parts=>
  simp only [cop] at hc
  split at hc
  case h_3=>cases hc
  case h_2=>
   rename_i mm el hu
   split at hc
   case h_2=>cases hc
   rename_i z ps hz hp
   split at hc
   case isFalse=>cases hc
   rename_i hall
   split at hc
   · rename_i gV
     simp only [Option.map_eq_some_iff] at hc
     obtain ⟨z',Tp,rfl⟩:=hc
     refine sX h hd hu hz hp hall ?_
     rw [←hev]
     simp only [aO]
     rw [yQ e ps z gV,Tp]
     rfl
   · injection hc with hc;subst hc
     exact sX h hd hu hz hp hall hev
  rename_i fs hu
  split at hc
  case h_2=>cases hc
  rename_i z ps hz hp
  split at hc
  case isFalse=>cases hc
  rename_i hall
  injection hc with hc;subst hc
  exact Ek h hd hu hz hp hall hev
 |buildSlice t n parts=>
  simp only [cop] at hc
  split at hc
  case h_2=>cases hc
  rename_i el hel
  split at hc
  case isFalse=>cases hc
  rename_i hh
  obtain ⟨h1,h2,h3⟩:=hh
  simp only [Option.map_eq_some_iff] at hc
  obtain ⟨zq,ha,rfl⟩:=hc
  refine K1 h hd ?_ h1 h2 h3 ha hev
  unfold uD at hel
  split at hel
  · rename_i e hu;injection hel with hel;subst hel;exact hu
  · cases hel
 |load t x=>
  simp only [cop] at hc
  split at hc
  case isFalse=>cases hc
  rename_i ht
  simp only [Option.map_eq_some_iff] at hc
  obtain ⟨a,ha,rfl⟩:=hc
  obtain rfl:m=true:=hm.resolve_right (fun h=>h.1 _ _ rfl)
  exact Nn h hd ha ht hev
 |store t a x=>
  simp only [cop] at hc
  split at hc
  case h_2=>cases hc
  rename_i a' x' ha hx
  split at hc
  case isFalse=>cases hc
  rename_i ht
  simp only [Bool.and_eq_true,Option.isNone_iff_eq_none] at ht
  obtain ⟨ht,rfl⟩:=ht
  injection hc with hc;subst hc
  exact Nx h ha hx ht hev
 |nilCheck x=>
  simp only [cop,Option.map_eq_some_iff] at hc
  obtain ⟨a,ha,rfl⟩:=hc
  exact Ky h hd ha hev
 |fieldAddr t x f=>
  simp only [cop] at hc
  split at hc
  case h_2=>cases hc
  rename_i x' fd hx hf
  split at hc
  case isTrue=>cases hc
  rename_i hs
  injection hc with hc;subst hc
  exact Kz h hd hx hf hs hev
 |field t x f=>
  simp only [cop] at hc
  split at hc
  case h_2=>cases hc
  rename_i x' fd hx hf
  split at hc
  case isFalse=>cases hc
  rename_i hs
  injection hc with hc;subst hc
  exact He h hd hx hf hs hev
 |binOp K3 t x y iI=>
  simp only [cop] at hc
  split at hc
  case h_3=>cases hc
  case h_2=>
   rename_i x' hx hy
   split at hc
   · rename_i ms hu
     injection hc with hc;subst hc;exact Hv h hd hx hu rfl hev
   · rename_i ms hu
     injection hc with hc;subst hc;exact Hv h hd hx hu rfl hev
   · injection hc with hc;subst hc;cases cu
   · injection hc with hc;subst hc;cases cu
   · cases hc
  rename_i x' y' hx hy
  split at hc
  · rename_i fs hu
    split at hc
    case h_2=>cases hc
    rename_i ks hk
    split at hc
    · injection hc with hc;subst hc;exact Dp h hd hx hy hu hk rfl hev
    · injection hc with hc;subst hc;exact Dp h hd hx hy hu hk rfl hev
    · cases hc
  · injection hc with hc;subst hc;exact Dn h hd hx hy hev
  · injection hc with hc;subst hc;exact Dn h hd hx hy hev
  · rename_i hu
    split at hc
    · injection hc with hc;subst hc;exact Hf h hd hx hy hu rfl hev
    · injection hc with hc;subst hc;exact Hf h hd hx hy hu rfl hev
    · cases hc
  · rename_i u hu
    split at hc
    · injection hc with hc;subst hc;exact Hg h hd hx hy hu rfl hev
    · injection hc with hc;subst hc;exact Hg h hd hx hy hu rfl hev
    · cases hc
  · cases hc
 |unOp K3 t x=>
  simp only [cop,Option.map_eq_some_iff] at hc
  obtain ⟨a,ha,rfl⟩:=hc
  exact No h hd ha hev
 |convert s t x=>
  simp only [cop] at hc
  split at hc
  case h_2=>cases hc
  rename_i hh x' gX hx
  injection hc with hc;subst hc
  exact KU h hd hx gX (hm.imp id fun q=>by rintro rfl;exact q.2 _ rfl) hev
 |makeFunc fn first cs=>
  cases fn with
  |func f=>
   simp only [cop] at hc
   split at hc
   case isFalse=>cases hc
   rename_i hf
   simp only [Option.map_eq_some_iff] at hc
   obtain ⟨a,ha,rfl⟩:=hc
   exact KH h hd hf ha hev
  |_=>simp [cop] at hc
 |slice t x lo hi mx=>
  simp only [cop] at hc
  split at hc
  case h_2=>cases hc
  rename_i x' lo' hi' Nq hx hlo hhi Ed
  split at hc
  · rename_i hu
    split at hc
    · injection hc with hc;subst hc
      have:mx=none:=by
       cases mx with
       |none=>rfl
       |some y=>simp only [iF] at Ed;cases hy:aK y<;>rw [hy] at Ed<;>simp at Ed
      subst this
      exact KP h hd hx hlo hhi hu hev
    · cases hc
  · rename_i el hu
    split at hc
    case isFalse=>cases hc
    rename_i ht
    injection hc with hc;subst hc
    exact KQ h hd hx hlo hhi Ed hu ht hev
  · cases hc
 |indexAddr t x i=>
  simp only [cop] at hc
  split at hc
  case h_3=>cases hc
  case h_2=>
   rename_i x' i' hel hx hi
   split at hc
   case h_2=>cases hc
   rename_i mm el hu
   split at hc
   case isFalse=>cases hc
   rename_i ht
   injection hc with hc;subst hc
   exact KM h hd hx hi hu ht hev
  rename_i el x' i' hel hx hi
  split at hc
  case isFalse=>cases hc
  rename_i ht
  injection hc with hc;subst hc
  unfold uD at hel
  split at hel
  · rename_i e hu;injection hel with hel;subst hel;exact KL h hd hx hi hu ht hev
  · cases hel
 |index t x i=>
  simp only [cop] at hc
  split at hc
  case h_2=>cases hc
  rename_i x' i' hu hx hi
  injection hc with hc;subst hc
  exact KK h hd hx hi hu hev
 |extract x i=>
  simp only [cop,Option.map_eq_some_iff] at hc
  obtain ⟨a,ha,rfl⟩:=hc
  exact KI h hd ha hev
 |call c=>
  obtain ⟨callee,args,argTypes⟩:=c
  simp only [cop] at hc
  split at hc
  · rename_i x t h1 h2
    have e1:args= #[x]:=by rw [←Array.toArray_toList (xs:=args),h1]
    have e2:argTypes= #[t]:=by rw [←Array.toArray_toList (xs:=argTypes),h2]
    subst e1;subst e2
    split at hc
    · rename_i x' hu hx;injection hc with hc;subst hc;exact Hh h hd hx hu hev
    · rename_i s x' hu hx;injection hc with hc;subst hc;exact KJ h hd hx hu hev
    · cases hc
  · rename_i x y t u h1 h2
    have e1:args= #[x,y]:=by rw [←Array.toArray_toList (xs:=args),h1]
    have e2:argTypes= #[t,u]:=by rw [←Array.toArray_toList (xs:=argTypes),h2]
    subst e1;subst e2
    split at hc
    case h_2=>cases hc
    rename_i x' y' _ _ hx hy
    split at hc
    case isFalse=>cases hc
    rename_i htu
    injection hc with hc;subst hc
    obtain ⟨rfl, -⟩:=htu
    exact Hw (mx:=true) h hd hx hy hev
  · rename_i x y t u h1 h2
    have e1:args= #[x,y]:=by rw [←Array.toArray_toList (xs:=args),h1]
    have e2:argTypes= #[t,u]:=by rw [←Array.toArray_toList (xs:=argTypes),h2]
    subst e1;subst e2
    split at hc
    case h_2=>cases hc
    rename_i x' y' _ _ hx hy
    split at hc
    case isFalse=>cases hc
    rename_i htu
    injection hc with hc;subst hc
    obtain ⟨rfl, -⟩:=htu
    exact Hw (mx:=false) h hd hx hy hev
  · rename_i x y t u h1 h2
    have e1:args= #[x,y]:=by rw [←Array.toArray_toList (xs:=args),h1]
    have e2:argTypes= #[t,u]:=by rw [←Array.toArray_toList (xs:=argTypes),h2]
    subst e1;subst e2
    split at hc
    case h_2=>cases hc
    rename_i el x' hel hx
    have ht:P.underlying t=some (.slice el):=by
     unfold uD at hel
     split at hel
     · rename_i e hu;injection hel with hel;subst hel;exact hu
     · cases hel
    split at hc
    · rename_i s y' hu hy
      split at hc
      case isFalse=>cases hc
      rename_i hz
      injection hc with hc;subst hc
      exact KY h hd hx hy ht hu hz hev
    · rename_i y' hu hy
      split at hc
      case isFalse=>cases hc
      rename_i hz
      injection hc with hc;subst hc
      exact Hz h hd hx hy ht hu hz.2 hz.1 hev
    · cases hc
  · split at hc
    · injection hc with hc;subst hc;cases cu
    · cases hc
  · cases hc
 |_=>simp [cop] at hc
theorem K4 {o:Oper} {op:cN} (h:SR L N F γ C e ah ts w) (hd:∀x,o.dst=some x→x<N) (hc:cc P m o=some op) (cu:op.gW=false)
 (hev:aO L ⟨o.dst,op,none⟩ e ah=some (e',aj)):aG m P L N F γ C o ts ds w e' aj:=by
 cases m with
 |true=>exact A7 h hd (by simpa [cc] using hc) cu (.inl rfl) hev
 |false=>
  simp only [cc,Bool.false_eq_true,if_false,Option.map_eq_some_iff] at hc
  obtain ⟨op',ho,rfl⟩:=hc
  by_cases nP:∃x,op'= .fC .bs x
  · obtain ⟨x,rfl⟩:=nP
    obtain ⟨d,oo,ty,pos,af,g⟩:=o
    cases oo with
    |convert s t y=>
     simp only [cop] at ho
     split at ho
     case h_2=>cases ho
     rename_i hh x' gX hx
     injection ho with ho
     injection ho with e1 e2
     subst e1;subst e2
     exact Ht h hd hx gX hev
    |makeFunc fn first cs=>
     cases fn with
     |func f=>simp only [cop] at ho;split at ho<;>simp at ho
     |_=>simp [cop] at ho
    |_=>
     exfalso
     simp only [cop] at ho
     first
      |cases ho;done
      |(simp at ho;done)
      |(repeat' (split at ho))<;>(first|(cases ho;done)|(simp at ho;done))
  by_cases hl:∃x n,op'= .ld x n
  · obtain ⟨x,n,rfl⟩:=hl
    obtain ⟨d,oo,ty,pos,af,g⟩:=o
    cases oo with
    |load t y=>
     simp only [cop] at ho
     split at ho
     case isFalse=>cases ho
     rename_i ht
     simp only [Option.map_eq_some_iff] at ho
     obtain ⟨a,ha,he⟩:=ho
     injection he with e1 e2
     subst e1;subst e2
     exact Dm h hd ha ht hev
    |makeFunc fn first cs=>
     cases fn with
     |func f=>simp only [cop] at ho;split at ho<;>simp at ho
     |_=>simp [cop] at ho
    |_=>
     exfalso
     simp only [cop] at ho
     first
      |cases ho;done
      |(simp at ho;done)
      |(repeat' (split at ho))<;>(first|(cases ho;done)|(simp at ho;done))
  · have:op'.AR=op':=by
     cases op' with
     |ld x n=>exact absurd ⟨_,_,rfl⟩ hl
     |fC hh x=>cases hh<;>first|rfl|exact absurd ⟨_,rfl⟩ nP
     |_=>rfl
    rw [this] at cu hev
    exact A7 h hd ho cu (.inr ⟨fun x n he=>hl ⟨x,n,he⟩,fun x he=>nP ⟨x,he⟩⟩) hev
theorem HJ {o:Oper} {x':Ar} (hc:cop P o=some (.bg x')):∃x,o=⟨o.dst, .assign x,o.type,o.pos,o.after,o.guard⟩∧bP P o.type x=some x':=by
 obtain ⟨d,oo,ty,pos,af,g⟩:=o
 cases oo with
 |assign y=>
  simp only [cop,Option.map_eq_some_iff] at hc
  obtain ⟨a,ha,he⟩:=hc
  injection he with he
  subst he
  exact ⟨y,rfl,ha⟩
 |makeFunc fn first cs=>
  cases fn with
  |func f=>simp only [cop] at hc;split at hc<;>simp at hc
  |_=>simp [cop] at hc
 |_=>
  exfalso
  simp only [cop] at hc
  first
   |cases hc;done
   |(simp at hc;done)
   |(repeat' (split at hc))<;>(first|(cases hc;done)|(simp at hc;done))
theorem sY {o:Oper} {k b:Nat} {x' y':Ar} (hop:cop P o=some (.app k b x' y')):
 ∃x y t u el s,o=⟨o.dst, .call {callee:= .builtin .append,args:= #[x,y],argTypes:= #[t,u]},o.type,o.pos,o.after,o.guard⟩∧bP P t x=some x'∧bP P u y=some y'∧
  P.underlying t=some (.slice el)∧P.underlying u=some (.slice s)∧(zeroOf P el).map List.length=some (bA P el)∧k=bA P el∧b=vR P el:=by
 obtain ⟨d,oo,ty,pos,af,g⟩:=o
 cases oo with
 |call c=>
  obtain ⟨callee,args,argTypes⟩:=c
  simp only [cop] at hop
  split at hop
  · split at hop<;>simp at hop
  · split at hop
    · split at hop<;>simp at hop
    · cases hop
  · split at hop
    · split at hop<;>simp at hop
    · cases hop
  · rename_i x y t u h1 h2
    have e1:args= #[x,y]:=by rw [←Array.toArray_toList (xs:=args),h1]
    have e2:argTypes= #[t,u]:=by rw [←Array.toArray_toList (xs:=argTypes),h2]
    subst e1;subst e2
    split at hop
    case h_2=>cases hop
    rename_i el x2 hel hx
    have ht:P.underlying t=some (.slice el):=by
     unfold uD at hel
     split at hel
     · rename_i e hu;injection hel with hel;subst hel;exact hu
     · cases hel
    split at hop
    · rename_i s y2 hu hy
      split at hop
      case isFalse=>cases hop
      rename_i hz
      injection hop with hop
      injection hop with q1 q2 q3 q4
      subst q1;subst q2;subst q3;subst q4
      exact ⟨x,y,t,u,el,s,rfl,hx,hy,ht,hu,hz,rfl,rfl⟩
    · split at hop<;>simp at hop
    · cases hop
  · split at hop<;>simp at hop
  · cases hop
 |makeFunc fn first cs=>
  cases fn with
  |func f=>simp only [cop] at hop;split at hop<;>simp at hop
  |_=>simp [cop] at hop
 |_=>
  exfalso
  simp only [cop] at hop
  first
   |cases hop;done
   |(simp at hop;done)
   |(repeat' (split at hop))<;>(first|(cases hop;done)|(simp at hop;done))
theorem Du {o:Oper} {neq:Bool} {x':Ar} (hop:cop P o=some (.nq neq x')):
 ∃op t x iI el,o=⟨o.dst, .binOp op t x (.const (.slice none 0 0)) iI,o.type,o.pos,o.after,o.guard⟩∧aK x=some x'∧P.underlying t=some (.slice el)∧op=if neq then .neq else .eql:=by
 obtain ⟨d,oo,ty,pos,af,g⟩:=o
 cases oo with
 |binOp op t x y iI=>
  simp only [cop] at hop
  split at hop
  case h_3=>cases hop
  case h_2=>
   rename_i x2 hx hy
   split at hop
   · cases hop
   · cases hop
   · rename_i el hu
     injection hop with hop;injection hop with h1 h2;subst h1;subst h2
     exact ⟨_,t,x,iI,el,rfl,hx,hu,rfl⟩
   · rename_i el hu
     injection hop with hop;injection hop with h1 h2;subst h1;subst h2
     exact ⟨_,t,x,iI,el,rfl,hx,hu,rfl⟩
   · cases hop
  exfalso
  (repeat' (split at hop))<;>(first|(cases hop;done)|(simp at hop;done))
 |makeFunc fn first cs=>
  cases fn with
  |func f=>simp only [cop] at hop;split at hop<;>simp at hop
  |_=>simp [cop] at hop
 |_=>
  exfalso
  simp only [cop] at hop
  first
   |cases hop;done
   |(simp at hop;done)
   |(repeat' (split at hop))<;>(first|(cases hop;done)|(simp at hop;done))
theorem K5 {op:cN} {n:Bool} {x:Ar} (h:op.AR= .nq n x):op= .nq n x:=by
 cases op with
 |fC hh x=>cases hh<;>cases h
 |ld x n=>cases h
 |_=>exact h
theorem HK {op:cN} {k b:Nat} {x y:Ar} (h:op.AR= .app k b x y):op= .app k b x y:=by
 cases op with
 |fC hh x=>cases hh<;>cases h
 |ld x n=>cases h
 |_=>exact h
theorem HL {op:cN} {x:Ar} (h:op.AR= .bg x):op= .bg x:=by
 cases op with
 |fC hh x=>cases hh<;>cases h
 |ld x n=>cases h
 |_=>exact h
theorem qk {o:Oper} {k b:Nat} {x y:Ar} (hc:cc P m o=some (.app k b x y)):cop P o=some (.app k b x y):=by
 cases m with
 |true=>simpa [cc] using hc
 |false=>
  simp only [cc,Bool.false_eq_true,if_false,Option.map_eq_some_iff] at hc
  obtain ⟨op',ho,hE⟩:=hc
  rw [ho,HK hE]
theorem En {o:Oper} {x:Ar} (hc:cc P m o=some (.bg x)):cop P o=some (.bg x):=by
 cases m with
 |true=>simpa [cc] using hc
 |false=>
  simp only [cc,Bool.false_eq_true,if_false,Option.map_eq_some_iff] at hc
  obtain ⟨op',ho,hE⟩:=hc
  rw [ho,HL hE]
theorem yR {o:Oper} {n:Bool} {x:Ar} (hc:cc P m o=some (.nq n x)):cop P o=some (.nq n x):=by
 cases m with
 |true=>simpa [cc] using hc
 |false=>
  simp only [cc,Bool.false_eq_true,if_false,Option.map_eq_some_iff] at hc
  obtain ⟨op',ho,hE⟩:=hc
  rw [ho,K5 hE]
theorem wu {o:Oper} {n:Bool} {x:Ar} {K:Env→AH→Prop} (h:SR L N F γ C e ah ts w) (hd:∀x,o.dst=some x→x<N) (hc:cc P m o=some (cN.er (.nq n x)))
 (hk:sJ L o.dst n x e ah K):∃e' aj,K e' aj∧aG m P L N F γ C o ts ds w e' aj:=by
 obtain ⟨op,t,x0,iI,el,ho,hx,hu,hop⟩:=Du (yR hc)
 rw [ho]
 exact Nz (d:=o.dst) h hd hx hu hop hk
theorem vG {o:Oper} {k b:Nat} {x y:Ar} {K:Env→AH→Prop} (h:SR L N F γ C e ah ts w) (hd:∀x,o.dst=some x→x<N) (hc:cc P m o=some (cN.er (.fD k b x y)))
 (hk:iE L o.dst k b x y e ah K):∃e' aj,K e' aj∧aG m P L N F γ C o ts ds w e' aj:=by
 obtain ⟨x0,y0,t,u,el,s,ho,hx,hy,ht,hu,hz,rfl,rfl⟩:=sY (qk hc)
 rw [ho]
 exact HG (d:=o.dst) h hd hx hy ht hu hz hk
theorem yS {o:Oper} {k:Nat} {x:Ar} (h:SR L N F γ C e ah ts w) (hd:∀x,o.dst=some x→x<N) (hc:cc P m o=some (cN.er (.om k x)))
 (hev:aO L ⟨o.dst, .om k x,none⟩ e ah=some (e',aj)):aG m P L N F γ C o ts ds w e' aj:=by
 obtain ⟨x0,ho,hx⟩:=HJ (En hc)
 rw [ho]
 exact KN (d:=o.dst) h hd hx hev
theorem vH {op:cN} {f:Ar} {zq:List Ar} (h:op.AR= .call f zq):op= .call f zq:=by
 cases op with
 |fC hh x=>cases hh<;>cases h
 |ld x n=>cases h
 |_=>exact h
theorem Qn {op:cN} {f:Ar} {zq:List Ar} (h:op.er= .call f zq):op= .call f zq:=by
 cases op with
 |ko x=>cases h
 |fD=>cases h
 |om=>cases h
 |_=>exact h
theorem wv {o:Oper} {op:cN} (h:SR L N F γ C e ah ts w) (hd:∀x,o.dst=some x→x<N) (hc:cop P o=some op.er) (cu:op.gW=false)
 (hev:aO L ⟨o.dst,op,none⟩ e ah=some (e',aj)):aG true P L N F γ C o ts ds w e' aj:=by
 by_cases hx:∃x,op= .ko x
 · obtain ⟨x,rfl⟩:=hx
   obtain ⟨d,oo,ty,pos,af,g⟩:=o
   have hc:cop P ⟨d,oo,ty,pos,af,g⟩=some (.fC .sb x):=hc
   cases oo with
   |convert s t y=>
    simp only [cop] at hc
    split at hc
    case h_2=>cases hc
    rename_i hh x' gX hx
    injection hc with hc
    injection hc with e1 e2
    subst e1;subst e2
    exact Hu h hd hx gX hev
   |makeFunc fn first cs=>
    cases fn with
    |func f=>simp only [cop] at hc;split at hc<;>simp at hc
    |_=>simp [cop] at hc
   |_=>
    exfalso
    simp only [cop] at hc
    first
     |cases hc;done
     |(simp at hc;done)
     |(repeat' (split at hc))<;>(first|(cases hc;done)|(simp at hc;done))
 · by_cases hy:∃k x,op= .om k x
   · obtain ⟨k,x,rfl⟩:=hy
     exact yS (m:=true) h hd (by simpa [cc] using hc) hev
   have:op.er=op:=by
    cases op<;>first|rfl|exact absurd ⟨_,rfl⟩ hx|exact absurd ⟨_,_,rfl⟩ hy|cases cu|rfl
   rw [this] at hc
   exact A7 h hd hc cu (.inl rfl) hev
theorem yT {o:Oper} {op:cN} (h:SR L N F γ C e ah ts w) (hd:∀x,o.dst=some x→x<N) (hc:cc P m o=some op.er) (cu:op.gW=false)
 (hev:aO L ⟨o.dst,op,none⟩ e ah=some (e',aj)):aG m P L N F γ C o ts ds w e' aj:=by
 cases m with
 |true=>exact wv h hd (by simpa [cc] using hc) cu hev
 |false=>
  by_cases hx:∃x,op= .ko x
  · obtain ⟨x,rfl⟩:=hx
    simp only [cc,Bool.false_eq_true,if_false,Option.map_eq_some_iff] at hc
    obtain ⟨op',ho,hE⟩:=hc
    have hE:op'.AR= .fC .sb x:=hE
    have:op'= .fC .sb x:=by
     cases op' with
     |fC hh y=>cases hh<;>first|exact hE|cases hE
     |ld y n=>cases hE
     |_=>exact hE
    subst this
    obtain ⟨v,w',γ',C',h1,h2,h3,h4,h5,h6⟩:=wv (op:= .ko x) (ds:=ds) h hd ho rfl hev
    refine ⟨v,w',γ',C',h1,h2,h3,h4,h5,fun hq=> ?_⟩
    exfalso
    obtain ⟨d,oo,ty,pos,af,g⟩:=o
    cases oo with
    |convert s t y=>
     simp only [cop] at ho
     split at ho
     case h_2=>cases ho
     rename_i hh x' gX hx
     injection ho with ho
     injection ho with e1 e2
     subst e1
     unfold vT at gX
     split at gX
     · cases gX
     · cases gX
     · rename_i el hs ht
       simp [b7,ht] at hq
     · split at gX
       · split at gX<;>cases gX
       · cases gX
     · cases gX
    |makeFunc fn first cs=>
     cases fn with
     |func f=>simp only [cop] at ho;split at ho<;>simp at ho
     |_=>simp [cop] at ho
    |_=>
     simp only [cop] at ho
     first
      |cases ho;done
      |(simp at ho;done)
      |(repeat' (split at ho))<;>(first|(cases ho;done)|(simp at ho;done))
  · by_cases hy:∃k x,op= .om k x
    · obtain ⟨k,x,rfl⟩:=hy
      exact yS h hd hc hev
    have:op.er=op:=by
     cases op<;>first|rfl|exact absurd ⟨_,rfl⟩ hx|exact absurd ⟨_,_,rfl⟩ hy|cases cu|rfl
    rw [this] at hc
    exact K4 h hd hc cu hev
theorem mI (L:List Nat) (d:Option Nat) (op:cN) (g:Option (Nat×Bool)) (e:Env) (ah:AH):aO L ⟨d,op,g⟩ e ah=aO L ⟨d,op,none⟩ e ah:=by
 cases op<;>rfl
def ez (P:Program) (f:Nat):Bool:=match P.funcs[f]? with
 |some fn=>fn.body.isSome&&fn.name != "runtime.NumGoroutine"
 |none=>false
def cx:Nat→List AV→Env
 |_,[]=>[]
 |i,a::r=>(i,a)::cx (i+1) r
theorem cq:∀(l:List AV) (i t:Nat),get (cx i l) t=if i≤t then (l[t - i]?).getD .un else .un:=by
 intro l
 induction l with
 |nil=>intro i t;simp [cx,get]
 |cons a r ih=>
  intro i t
  simp only [cx,get]
  by_cases h:i=t
  · subst h;simp
  · rw [if_neg h,ih]
    by_cases h1:i≤t
    · obtain ⟨q,hq⟩:∃q,t - i=q+1:=⟨t - i - 1,by omega⟩
      rw [if_pos h1,if_pos (by omega),hq,show t - (i+1)=q by omega];simp
    · rw [if_neg h1,if_neg (by omega)]
def av (P:Program) (f:Nat) (args:List AV) (ah:AH) (R:AV→AH→Prop):Prop:=
 ez P f=true∧∀(F:Nat→Prop) (γ:List Nat) (C:Nat→List Value) (w:World) (vs:Array Value),SR [] args.length F γ C (cx 0 args) ah vs w→
  Calls P f vs w fun en w'=>∃r v aj γ' C',en= .returned v∧R r aj∧γ <+: γ'∧SR [] 1 F γ' C' [(0,r)] aj #[v] w'∧Ext F C w C' w'
theorem av.mono {f:Nat} {args:List AV} {ah:AH} {R R':AV→AH→Prop} (h:av P f args ah R) (hr:∀r aj,R r aj→R' r aj):av P f args ah R':=
 ⟨h.1,fun F γ C w vs hs=>(h.2 F γ C w vs hs).mono fun _ _ ⟨r,v,aj,γ',C',h1,h2,h3⟩=>⟨r,v,aj,γ',C',h1,hr _ _ h2,h3⟩⟩
def AV.dU:AV→AV
 | .sl (.fr (.cell _ _)) k xs=> .sl .n k xs
 |a=>a
def mJ:Env→Env
 |[]=>[]
 |(i,a)::r=>(i,a.dU)::mJ r
theorem oZ (e:Env) (t:Nat):get (mJ e) t=(get e t).dU:=by
 induction e with
 |nil=>rfl
 |cons p r ih=>
  obtain ⟨i,b⟩:=p
  simp only [mJ,get]
  by_cases h:i=t<;>simp [h,ih]
theorem Wk.dU (a:AV):Wk a a.dU:=by
 cases a with
 |sl t k xs=>
  cases t with
  |fr m=>cases m<;>first|exact .n .. |exact .same _
  |_=>exact .same _
 |_=>exact .same _
theorem HM (a:AV):a.dU.aT=a.aT:=by
 cases a with
 |sl t k xs=>
  cases t with
  |fr m=>cases m<;>rfl
  |_=>rfl
 |_=>rfl
theorem Eo (a:AV) (v:Value):aV a.dU v=aV a v:=by
 cases a with
 |sl t k xs=>
  cases t with
  |fr m=>cases m<;>simp [AV.dU,aV]
  |_=>rfl
 |_=>rfl
theorem K6 {a:AV} {l:Loc} {k:Nat} {xs:List AV} (h:a.dU= .sl (.fr l) k xs):a= .sl (.fr l) k xs∧∃t,l= .tmp t:=by
 cases a with
 |sl t k' xs'=>
  cases t with
  |fr m=>cases m with
   |tmp u=>simp only [AV.dU] at h;exact ⟨h,u,by injection h with h;injection h with h;exact h.symm⟩
   |cell s o=>simp [AV.dU] at h
  |_=>simp [AV.dU] at h
 |_=>simp [AV.dU] at h
theorem yU {f:Nat} {zq:List AV} {vs:Array Value} {R:AV→AH→Prop} {d:Option Nat} (h:SR L N F γ C e ah ts w) (hd:∀x,d=some x→x<N) (hac:av P f zq ah R)
 (hlen:vs.size=zq.length) (has:∀(i:Nat) (a:AV),zq[i]? =some a→VR C γ a (vs.getD i undef)∧TC w C a (vs.getD i undef)∧a.plain=true):
 Calls P f vs w fun en w'=>∃r v aj γ' C',en= .returned v∧R r aj∧γ <+: γ'∧SR L N F γ' C' (Am.ak L (mJ e) d r.df) aj (Act.put ⟨ts,ds⟩ d v).tmps w'∧Ext F C w C' w':=by
 let F':Nat→Prop:=fun b=>F b∨∃t,blk γ e ah ts w (.tmp t) b
 have Ep:∀t,get (cx 0 zq) t=(zq[t]?).getD .un:=fun t=>by rw [cq];simp
 have hnot:∀t,(get (cx 0 zq) t).aT=false:=by
  intro t
  rw [Ep]
  cases ht:zq[t]? with
  |none=>rfl
  |some a=>exact dy (has t a ht).2.2
 have hsub:∀p b,blk γ (cx 0 zq) ah vs w p b→blk γ e ah ts w p b∧∀t,p≠ .tmp t:=by
  intro p b hp
  cases p with
  |obj s=>exact ⟨hp,by simp⟩
  |cell s i=>exact ⟨hp,by simp⟩
  |tmp t=>simp only [blk] at hp;rw [dL _ (hnot t)] at hp;cases hp
 have hs:SR [] zq.length F' γ C (cx 0 zq) ah vs w:=by
  refine ⟨h.mem,hlen,fun t=> ?_,fun p q b hp hq=>h.cj p q b (hsub p b hp).1 (hsub q b hq).1,fun p b hp=> ?_,⟨fun b hb=> ?_,fun e he=>by obtain ⟨h1,h2⟩:=h.fz.yC e he;exact ⟨.inl h1,h2⟩⟩,fun t l k xs ht=> ?_⟩
  · rw [Ep]
    cases ht:zq[t]? with
    |none=>exact ⟨.un ..,by cases vs.getD t undef<;>trivial⟩
    |some a=>exact ⟨(has t a ht).1,(has t a ht).2.1⟩
  · rintro (hF|⟨t,ht⟩)
    · exact h.nf p b (hsub p b hp).1 hF
    · exact (hsub p b hp).2 t (h.cj p (.tmp t) b (hsub p b hp).1 ht)
  · rcases hb with hF|⟨t,ht⟩
    · exact h.fz.lt b hF
    · exact cY h ht
  · rw [Ep] at ht
    cases hq:zq[t]? with
    |none=>rw [hq] at ht;simp at ht
    |some a=>rw [hq] at ht;exact absurd ht (nJ (has t a hq).2.2 l k xs)
 refine (hac.2 F' γ C w vs hs).mono ?_
 rintro en w' ⟨r,v,aj,γ',C',rfl,hR,hγ,fG,hx⟩
 refine ⟨r,v,aj,γ',C',rfl,hR,hγ, ?_,⟨hx.pre,fun b hb=>hx.keep b (.inl hb),hx.size,hx.out⟩⟩
 have hg:∀(s b:Nat),γ[s]? =some b→γ'[s]? =some b:=by
  intro s b hs
  obtain ⟨q,rfl⟩:=hγ
  rw [List.getElem?_append_left (List.getElem?_eq_some_iff.1 hs).1];exact hs
 have hown:∀t b,aV (get e t) (ts.getD t undef)=some b→F' b:=fun t b hb=> .inr ⟨t,hb⟩
 have hbk:∀p b,blk γ' (mJ e) aj ts w' p b→(∃t,p= .tmp t∧blk γ e ah ts w (.tmp t) b)∨((∀t,p≠ .tmp t)∧blk γ' [(0,r)] aj #[v] w' p b):=by
  intro p b hp
  cases p with
  |obj s=>exact .inr ⟨by simp,hp⟩
  |cell s i=>exact .inr ⟨by simp,hp⟩
  |tmp t=>simp only [blk,oZ,Eo] at hp;exact .inl ⟨t,rfl,hp⟩
 have h2:SR L N F γ' C' (mJ e) aj ts w':=by
  refine ⟨fG.mem,h.sz,fun t=> ?_,fun p q b hp hq=> ?_,fun p b hp=> ?_,h.fz.keep hx.size (fun b hb=>(hx.keep b (.inl hb)).1),fun t l k xs ht=> ?_⟩
  · rw [oZ]
    refine ⟨(Wk.dU _).vr ((h.env t).1.mono hx.pre _ hg),(Wk.dU _).tc ((h.env t).2.mono fun b hb=> ?_)⟩
    exact hx.keep b (hown t b hb)
  · rcases hbk p b hp with ⟨t,rfl,h1⟩|⟨h1,h2⟩<;>rcases hbk q b hq with ⟨u,rfl,h3⟩|⟨h3,h4⟩
    · exact h.cj _ _ b h1 h3
    · exact absurd (hown t b h1) (fG.nf q b h4)
    · exact absurd (hown u b h3) (fG.nf p b h2)
    · exact fG.cj p q b h2 h4
  · rcases hbk p b hp with ⟨t,rfl,h1⟩|⟨h1,h2⟩
    · exact h.nf _ b h1
    · exact fun hF=>fG.nf p b h2 (.inl hF)
  · rw [oZ] at ht
    obtain ⟨h1,u,rfl⟩:=K6 ht
    have:=h.fr t _ k xs h1
    exact ⟨this.1,fun hu=>this.2 (by rw [oZ,HM] at hu;exact hu)⟩
 have hr:=fG.env 0
 simp only [get,if_true] at hr
 have hv0:(#[v]:Array Value).getD 0 undef=v:=rfl
 rw [hv0] at hr
 by_cases ho:r.aT=true
 · cases r with
   |sl t k xs=>
    cases t with
    |own=>
     simp only [AV.df]
     refine h2.kz hd hr.1 hr.2 fun b hb=> ?_
     have hb0:blk γ' [(0, .sl .own k xs)] aj #[v] w' (.tmp 0) b:=hb
     refine ⟨fun hF=>fG.nf _ b hb0 (.inl hF),fun p hp=> ?_⟩
     rcases hbk p b hp with ⟨t,rfl,h1⟩|⟨h1,h3⟩
     · exact fG.nf _ b hb0 (hown t b h1)
     · exact h1 0 (fG.cj p (.tmp 0) b h3 hb0)
    |_=>cases ho
   |_=>cases ho
 · have ho':r.aT=false:=by simpa using ho
   exact h2.ak hd ((Wk.df r).vr hr.1) ((Wk.df r).tc hr.2) (Dl ho') (fun l k xs hl=>absurd hl (AS r l k xs))
end
end Go.Am
end
section
namespace Go.Am
open Go
variable [Tabs]
def o5 (P:Program) (L:List Nat) (o:az) (e:Env) (ah:AH) (K:Env→AH→Prop):Prop:=
 match o.op with
 | .call f zq=>
   match ev e f with
   | .fn f caps=>bz caps=true∧av P f (zq.map (fun x=>(ev e x).sh)++caps.map AV.s1) ah fun r aj=>K (ak L (mJ e) o.d r.df) aj
   |_=>False
 | .fD k b x y=>iE L o.d k b x y e ah K
 | .nq n x=>sJ L o.d n x e ah K
 |_=>match aO L o e ah with
  |some (e',aj)=>K e' aj
  |none=>False
def iL (e:Env):Option Nat→Env
 |some d=>put e d (.aL [])
 |none=>e
def ck (P:Program) (L:List Nat):List az→Env→AH→(Env→AH→Prop)→Prop
 |[],e,ah,K=>K e ah
 |o::r,e,ah,K=>match c6 e o with
  |some true=>o5 P L o e ah fun e ah=>ck P L r e ah K
  |some false=>ck P L r (iL e o.d) ah K
  |none=>False
def fA (N:Nat):List az→Bool
 |[]=>true
 |o::r=>(match o.d with|some d=>decide (d<N)|none=>true)&&(match o.op with| .lit y _=>decide (y<N)|_=>true)&&fA N r
theorem Dv (N:Nat):∀zq:List az,fA N (zq.map az.er)=fA N zq:=by
 intro zq
 induction zq with
 |nil=>rfl
 |cons o r ih=>
  obtain ⟨d,op,g⟩:=o
  simp only [List.map_cons,fA,ih,az.er]
  cases op<;>rfl
def NG:Exit→Prop
 | .goto _=>False
 |_=>True
def AW (P:Program) (L:List Nat) (N n0:Nat) (c:Code) (Q:Exit→Env→AH→Prop) (e:Env) (ah:AH):Prop:=
 ∀(F:Nat→Prop) (γ:List Nat) (C:Nat→List Value) (ts:Array Value) (w:World),SR L N F γ C e ah ts w→n0≤γ.length→
  c.wp P (fun x a' w'=>a'.defers=[]∧NG x∧∃e' aj γ' C',Q x e' aj∧γ.take n0 <+: γ'∧SR L N F γ' C' e' aj a'.tmps w'∧Ext F C w C' w') ⟨ts,[]⟩ w
section
variable {P:Program} {L:List Nat} {N n0:Nat} {F:Nat→Prop} {γ:List Nat} {C C':Nat→List Value} {e:Env} {ah:AH} {ts:Array Value} {w w':World}
variable {e':Env} {aj:AH}
theorem vI {γ γ':List Nat} {n:Nat} (h:γ <+: γ'):γ.take n <+: γ':=(List.take_prefix n γ).trans h
theorem iM {γ γ' Qo:List Nat} {n:Nat} (h0:n≤γ.length) (h:γ.take n <+: γ') (h':γ'.take n <+: Qo):γ.take n <+: Qo:=by
 obtain ⟨r,rfl⟩:=h
 have:(γ.take n++r).take n=γ.take n:=by
  rw [List.take_append_of_le_length (by simp;omega),List.take_take,Nat.min_self]
 rwa [this] at h'
theorem yV {γ γ':List Nat} {n:Nat} (h0:n≤γ.length) (h:γ.take n <+: γ'):n≤γ'.length:=by
 have:=h.length_le;simp at this;omega
theorem AW.mono {c:Code} {Q Q':Exit→Env→AH→Prop} (h:AW P L N n0 c Q e ah) (hq:∀x e ah,Q x e ah→Q' x e ah):AW P L N n0 c Q' e ah:=
 fun F γ C ts w hs hn=>wp_mono (h F γ C ts w hs hn) fun _ _ _ ⟨hd,hg,e',aj,γ',C',h1,h2⟩=>⟨hd,hg,e',aj,γ',C',hq _ _ _ h1,h2⟩
theorem AW.skip {Q:Exit→Env→AH→Prop} (h:Q .normal e ah):AW P L N n0 .skip Q e ah:=
 fun F γ C ts w hs hn=>wp_skip ⟨rfl,trivial,e,ah,γ,C,h,List.take_prefix _ _,hs,Ext.refl ..⟩
theorem AW.label {Q:Exit→Env→AH→Prop} {l:Nat} (h:Q .normal e ah):AW P L N n0 (.label l) Q e ah:=
 fun F γ C ts w hs hn=>wp_label ⟨rfl,trivial,e,ah,γ,C,h,List.take_prefix _ _,hs,Ext.refl ..⟩
theorem AW.ret {Q:Exit→Env→AH→Prop} (h:Q .ret e ah):AW P L N n0 .ret Q e ah:=
 fun F γ C ts w hs hn=>wp_ret ⟨rfl,trivial,e,ah,γ,C,h,List.take_prefix _ _,hs,Ext.refl ..⟩
theorem AW.exit {Q:Exit→Env→AH→Prop} {i:Nat} (h:Q (.exit i) e ah):AW P L N n0 (.exit i) Q e ah:=
 fun F γ C ts w hs hn=>wp_exit ⟨rfl,trivial,e,ah,γ,C,h,List.take_prefix _ _,hs,Ext.refl ..⟩
theorem AW.seq {a b:Code} {Q:Exit→Env→AH→Prop} (h:AW P L N n0 a (fun x e ah=>match x with| .normal=>AW P L N n0 b Q e ah|x=>Q x e ah) e ah):AW P L N n0 (.seq a b) Q e ah:=by
 intro F γ C ts w hs hn
 refine wp_seq (wp_mono (h F γ C ts w hs hn) ?_)
 rintro x ⟨ts',ds'⟩ w' ⟨rfl,hg,e',aj,γ',C',h1,h2,h3,h4⟩
 cases x with
 |normal=>
  refine wp_mono (h1 F γ' C' ts' w' h3 (yV hn h2)) ?_
  rintro x ⟨HN,Qp⟩ w2 ⟨rfl,hg,e2,kB,γ2,C2,g1,g2,g3,g4⟩
  exact ⟨rfl,hg,e2,kB,γ2,C2,g1,iM hn h2 g2,g3,h4.trans g4⟩
 |_=>exact ⟨rfl,hg,e',aj,γ',C',h1,h2,h3,h4⟩
theorem AW.cond {c:Operand} {c':Ar} {a b:Code} {t:Bool} {Q:Exit→Env→AH→Prop} (hc:aK c=some c') (ht:ev e c'= .bool t) (h:AW P L N n0 (if t then a else b) Q e ah):
 AW P L N n0 (.cond c a b) Q e ah:=by
 intro F γ C ts w hs hn
 have:=(aR (ds:=[]) hs hc).1
 rw [ht] at this
 exact wp_cond (t:=t) this.c7 (h F γ C ts w hs hn)
theorem AW.blk {c:Code} {i:Nat} {Q:Exit→Env→AH→Prop} (h:AW P L N n0 c (fun x e ah=>match x with| .exit j=>if j=i then Q .normal e ah else Q (.exit j) e ah|x=>Q x e ah) e ah):
 AW P L N n0 (.block i c) Q e ah:=by
 intro F γ C ts w hs hn
 refine wp_block (wp_mono (h F γ C ts w hs hn) ?_)
 rintro x a w' ⟨hd,hg,e',aj,γ',C',h1,h2⟩
 cases x with
 |exit j=>
  simp only [Exit.inBlock] at h1 ⊢
  by_cases hj:j=i
  · rw [if_pos hj] at h1 ⊢;exact ⟨hd,trivial,e',aj,γ',C',h1,h2⟩
  · rw [if_neg hj] at h1 ⊢;exact ⟨hd,trivial,e',aj,γ',C',h1,h2⟩
 |_=>exact ⟨hd,hg,e',aj,γ',C',h1,h2⟩
theorem AW.loop {c:Code} {Q:Exit→Env→AH→Prop} (I:Nat→Env→AH→Prop) {k0:Nat}
 (round:∀k e ah,I k e ah→AW P L N n0 c (fun x e' aj=>match x with| .normal=>∃k',k'<k∧I k' e' aj|x=>Q x e' aj) e ah) (h0:I k0 e ah):AW P L N n0 (.loop c) Q e ah:=by
 intro F γ C ts w hs hn
 refine wp_loop_ghost (fun k a w'=>a.defers=[]∧∃e' aj γ' C',I k e' aj∧γ.take n0 <+: γ'∧SR L N F γ' C' e' aj a.tmps w'∧Ext F C w C' w') k0
  ⟨rfl,e,ah,γ,C,h0,List.take_prefix _ _,hs,Ext.refl ..⟩ ?_
 rintro k ⟨sZ,Tq⟩ w1 ⟨rfl,e1,aW,γ1,C1,h1,h2,h3,h4⟩
 refine wp_mono (round k e1 aW h1 F γ1 C1 sZ w1 h3 (yV hn h2)) ?_
 rintro x ⟨HN,Qp⟩ w2 ⟨rfl,hg,e2,kB,γ2,C2,g1,g2,g3,g4⟩
 cases x with
 |normal=>obtain ⟨k',hk',hI⟩:=g1;exact ⟨k',hk',rfl,e2,kB,γ2,C2,hI,iM hn h2 g2,g3,h4.trans g4⟩
 |_=>exact ⟨rfl,hg,e2,kB,γ2,C2,g1,iM hn h2 g2,g3,h4.trans g4⟩
theorem AW.scope {c:Code} {Q:Exit→Env→AH→Prop} (h:AW P L N n0 c Q e ah):AW P L N n0 (.scope c) Q e ah:=
 fun F γ C ts w hs hn=>wp_scope_straight (wp_mono (h F γ C ts w hs hn) fun x _ _ h=>by cases x<;>first|exact h|exact h.2.1.elim)
theorem AW.weak {c:Code} {Q:Exit→Env→AH→Prop} {e1:Env} (hw:∀t,Wk (get e t) (get e1 t)) (h:AW P L N n0 c Q e1 ah):AW P L N n0 c Q e ah:=
 fun F γ C ts w hs hn=>h F γ C ts w (hs.wk hw) hn
theorem dM {ops:Array Oper} {o:Oper} {g:Option (Nat×Bool)} {d:Option Nat} {op:cN} {b:Bool} (h:SR L N F γ C e ah ts w) (hg:dr ops o.guard=some g) (hb:c6 e ⟨d,op,g⟩=some b):
 Region.wanted o (yielded ops ts)=b:=by
 unfold Region.wanted
 cases ho:o.guard with
 |none=>
  rw [ho] at hg
  simp only [dr,Option.some.injEq] at hg
  subst hg
  simp only [c6,Option.some.injEq] at hb
  exact hb
 |some jw=>
  obtain ⟨j,want⟩:=jw
  rw [ho] at hg
  simp only [dr,Option.map_eq_some_iff] at hg
  obtain ⟨t,ht,rfl⟩:=hg
  simp only [c6] at hb
  split at hb
  · rename_i b' he
    have hv:=(h.env t).1
    rw [he] at hv
    have hv:=hv.c7
    have hy:yielded ops ts j=some b':=by
     unfold yielded
     rw [ht]
     simp only [Option.bind_some]
     have:ts[t]? =some (.bool b'):=by
      rw [Array.getD_eq_getD_getElem?] at hv
      cases hq:ts[t]? with
      |none=>rw [hq] at hv;simp [undef] at hv
      |some v=>rw [hq] at hv;simp at hv;rw [hv]
     rw [this]
    simp only [hy]
    simp only [Option.some.injEq] at hb
    rw [←hb]
    simp
  · rename_i he
    have hv:=(h.env t).1
    rw [he] at hv
    obtain ⟨vs,hv, -⟩:=hv.mu
    have hy:yielded ops ts j=none:=by
     unfold yielded
     rw [ht]
     simp only [Option.bind_some]
     rw [Array.getD_eq_getD_getElem?] at hv
     cases hq:ts[t]? with
     |none=>rfl
     |some v=>rw [hq] at hv;simp at hv;rw [hv]
    simp only [hy]
    simp only [Option.some.injEq] at hb
    exact hb
  · cases hb
  · cases hb
theorem vJ (h:SR L N F γ C e ah ts w):∀(tys:List TypeId) (l:List Operand) (zq:List Ar),oq P tys l=some zq→zq.length=l.length∧
 ∀(i:Nat) (x:Operand) (a:Ar),l[i]? =some x→zq[i]? =some a→VR C γ (ev e a) (Act.eval ⟨ts,[]⟩ x)∧TC w C (ev e a) (Act.eval ⟨ts,[]⟩ x):=by
 intro tys l
 induction l generalizing tys with
 |nil=>intro zq hc;cases tys<;>(simp [oq] at hc;subst hc;simp)
 |cons x r ih=>
  intro zq hc
  cases tys with
  |nil=>simp [oq] at hc
  |cons t tys=>
   simp only [oq] at hc
   split at hc
   case h_2=>cases hc
   rename_i a zq' ha has
   simp only [Option.some.injEq] at hc
   subst hc
   obtain ⟨h1,h2⟩:=ih tys zq' has
   refine ⟨by simp [h1],fun j y b hy hb=> ?_⟩
   cases j with
   |zero=>simp at hy hb;subst hy;subst hb;exact cL h ha
   |succ j=>exact h2 j y b (by simpa using hy) (by simpa using hb)
theorem s5 {f:Nat} (hf:ez P f=true) {d:Option Nat} {x:Operand} {args:Array Operand} {tys:Array TypeId} {ty:TypeId} {pos:String} {af:Array Edge} {g:Option (Nat×Bool)} {caps:Array Value} {ρ:Operand→Value}
 (hx:ρ x= .func (.func f) #[] caps):
 (execOp ρ ⟨d, .call {callee:= .value x,args:=args,argTypes:=tys},ty,pos,af,g⟩).run P w= .ok (.enter f (args.map ρ++caps)) w:=by
 unfold ez at hf
 split at hf
 case h_2=>cases hf
 rename_i fn hfn
 simp only [Bool.and_eq_true,bne_iff_ne] at hf
 obtain ⟨h1,h2⟩:=hf
 have h3:fn.body.isNone=false:=by cases hb:fn.body<;>simp_all
 have h4:(fn.name== "runtime.NumGoroutine")=false:=by simpa using h2
 have h5:fn.body≠none:=by intro h0;rw [h0] at h1;cases h1
 simp [execOp,resolve,Deferred.ofValue,hx,invoke,callFunc,program,Sem.run,hfn,h2,h5]
theorem ql {o:Oper} {f:Ar} {mK:List Ar} (hop:cop P o=some (.call f mK)):
 ∃x args tys,o=⟨o.dst, .call {callee:= .value x,args:=args,argTypes:=tys},o.type,o.pos,o.after,o.guard⟩∧aK x=some f∧oq P tys.toList args.toList=some mK:=by
 obtain ⟨d,oo,ty,pos,af,gd⟩:=o
 cases oo with
 |call c=>
  obtain ⟨callee,args,tys⟩:=c
  simp only [cop] at hop
  split at hop
  · split at hop<;>simp at hop
  · split at hop
    · split at hop
      · simp at hop
      · cases hop
    · cases hop
  · split at hop
    · split at hop
      · simp at hop
      · cases hop
    · cases hop
  · split at hop
    · split at hop
      · split at hop<;>simp at hop
      · split at hop<;>simp at hop
      · cases hop
    · cases hop
  · rename_i x
    split at hop
    · rename_i f2 Vm h1 h2
      injection hop with hop
      injection hop with e1 e2
      subst e1;subst e2
      exact ⟨x,args,tys,rfl,h1,h2⟩
    · cases hop
  · cases hop
 |makeFunc fn first cs=>
  cases fn with
  |func f=>simp only [cop] at hop;split at hop<;>simp at hop
  |_=>simp [cop] at hop
 |_=>
  exfalso
  simp only [cop] at hop
  first
   |cases hop;done
   |(simp at hop;done)
   |(repeat' (split at hop))<;>(first|(cases hop;done)|(simp at hop;done))
theorem s7 (hs:SR L N F γ C e ah ts w) {mK:List Ar} {caps:List AV} {args:Array Operand} {vs:Array Value} (hfl:bz caps=true) (hcl:caps.length=vs.size)
 (gX:∀(i:Nat) (a:AV),caps[i]? =some a→VR C γ a (vs.getD i undef)) (c1:mK.length=args.toList.length)
 (c2:∀(i:Nat) (x:Operand) (a:Ar),args.toList[i]? =some x→mK[i]? =some a→VR C γ (ev e a) (Act.eval ⟨ts,[]⟩ x)∧TC w C (ev e a) (Act.eval ⟨ts,[]⟩ x)):
 ∀(i:Nat) (a:AV),(mK.map (fun x=>(ev e x).sh)++caps.map AV.s1)[i]? =some a→
  VR C γ a ((args.map (Act.eval ⟨ts,[]⟩)++vs).getD i undef)∧TC w C a ((args.map (Act.eval ⟨ts,[]⟩)++vs).getD i undef)∧a.plain=true:=by
 intro i a hi
 by_cases hlt:i<mK.length
 · rw [List.getElem?_append_left (by simpa using hlt),List.getElem?_map,List.getElem?_eq_getElem hlt] at hi
   obtain rfl:(ev e mK[i]).sh=a:=by simpa using hi
   have yN:i<args.toList.length:=by omega
   have:=c2 i _ _ (List.getElem?_eq_getElem yN) (List.getElem?_eq_getElem hlt)
   have hgd:(args.map (Act.eval ⟨ts,[]⟩)++vs).getD i undef=Act.eval ⟨ts,[]⟩ args.toList[i]:=by
    rw [Array.length_toList] at yN
    simp [Array.getD_eq_getD_getElem?,Array.getElem?_append,yN]
   rw [hgd]
   exact ⟨(Wk.sh _).vr this.1,(Wk.sh _).tc this.2,kA _⟩
 · rw [List.getElem?_append_right (by simpa using hlt),List.getElem?_map] at hi
   simp only [List.length_map] at hi
   cases uJ:caps[i - mK.length]? with
   |none=>rw [uJ] at hi;simp at hi
   |some b=>
    rw [uJ] at hi
    obtain rfl:b.s1=a:=by simpa using hi
    have hgd:(args.map (Act.eval ⟨ts,[]⟩)++vs).getD i undef=vs.getD (i - mK.length) undef:=by
     have Tr:mK.length=args.size:=by simpa using c1
     simp only [Array.getD_eq_getD_getElem?]
     rw [Array.getElem?_append_right (by simp;omega)]
     simp [Tr]
    rw [hgd]
    exact ⟨(Wk.eZ (Wk.s1 _)).vr (gX _ _ uJ),G9 b (ey hfl uJ) _,vB b⟩
theorem yW {o:Oper} {a:cN} (h:Dj P o=some a):cop P o=some a∨a= .bad:=by
 unfold Dj at h
 cases hc:cop P o with
 |none=>rw [hc] at h;injection h with h;exact .inr h.symm
 |some b=>rw [hc] at h;exact .inl h
theorem K7 {op:cN} (h:op.er= .bad):op= .bad:=by cases op<;>first|rfl|cases h
theorem rB {ops:Array Oper} {l:List Oper} {zq:List az} (h:eL P ops l=some zq):(l=[]∧zq=[])∨
 (∃o o2 r a zq',l=o::o2::r∧fX P o o2=some a∧eL P ops r=some zq'∧zq=a::zq')∨
 (∃o o2 r ag zq',l=o::o2::r∧yA P ops o o2=some ag∧eL P ops r=some zq'∧zq=ag++zq')∨
 ∃o r op g zq',l=o::r∧(cop P o=some op∨op= .bad)∧dr ops o.guard=some g∧eL P ops r=some zq'∧zq=⟨o.dst,op,g⟩::zq':=by
 cases l with
 |nil=>simp only [eL,Option.some.injEq] at h;exact .inl ⟨rfl,h.symm⟩
 |cons o r=>
  cases r with
  |nil=>
   simp only [eL] at h
   split at h
   case h_2=>cases h
   rename_i a g h1 h2
   injection h with h
   exact .inr (.inr (.inr ⟨o,[],a,g,[],rfl,yW h1,h2,rfl,h.symm⟩))
  |cons o2 r=>
   rw [eL] at h
   split at h
   · rename_i a ha
     simp only [Option.map_eq_some_iff] at h
     obtain ⟨zq',h1,rfl⟩:=h
     exact .inr (.inl ⟨o,o2,r,a,zq',rfl,ha,h1,rfl⟩)
   · split at h
     · rename_i ag hag
       simp only [Option.map_eq_some_iff] at h
       obtain ⟨zq',h1,rfl⟩:=h
       exact .inr (.inr (.inl ⟨o,o2,r,ag,zq',rfl,hag,h1,rfl⟩))
     · split at h
       case h_2=>cases h
       rename_i a g zq' h1 h2 h3
       injection h with h
       exact .inr (.inr (.inr ⟨o,o2::r,a,g,zq',rfl,yW h1,h2,h3,h.symm⟩))
theorem Dw {a b:az} {y:Nat} {bs:List UInt8} (h:a.er=b) (hb:b.op= .lit y bs):a=b:=by
 obtain ⟨d,op,g⟩:=a
 subst h
 cases op<;>first|rfl|(simp [az.er,cN.er] at hb)
theorem s9 {o o2:Oper} {a:az} (h:fX P o o2=some a):∃y bs,a.op= .lit y bs:=by
 unfold fX at h
 split at h
 case h_2=>cases h
 split at h
 case isFalse=>cases h
 split at h
 case h_2=>cases h
 split at h
 case h_2=>cases h
 split at h
 case isFalse=>cases h
 split at h
 case h_2=>cases h
 simp only [Option.map_eq_some_iff] at h
 obtain ⟨bs, -,rfl⟩:=h
 exact ⟨_,_,rfl⟩
theorem qm {ops:Array Oper} {o o2:Oper} {ag:List az} (h:yA P ops o o2=some ag):∃d y bs t w g,ag=[⟨some y, .mv (.c .un),some (t,w)⟩,⟨d, .lit y bs,some (t,w)⟩]∧t≠y∧
 fX P (bare o) (bare o2)=some ⟨d, .lit y bs,g⟩∧dr ops o.guard=some (some (t,w))∧dr ops o2.guard=some (some (t,w)):=by
 unfold yA at h
 split at h
 case isFalse=>cases h
 rename_i hg
 split at h
 case h_2=>cases h
 rename_i x t w d y bs g h1 h2 h3
 split at h
 · cases h
 · rename_i hty
   injection h with h
   exact ⟨d,y,bs,t,w,g,h.symm,hty,h3,h2,by rw [←hg];exact h2⟩
theorem NA {a b:az} {x:Ar} (h:a.er=b) (hb:b.op= .mv x):a=b:=by
 obtain ⟨d,op,g⟩:=a
 subst h
 cases op<;>first|rfl|(simp [az.er,cN.er] at hb)
theorem wz {ops:Array Oper} {l:List Oper} {zq:List az} (h:eL P ops l=some (zq.map az.er)):(l=[]∧zq=[])∨
 (∃o o2 r a zq',l=o::o2::r∧fX P o o2=some a∧eL P ops r=some (zq'.map az.er)∧zq=a::zq')∨
 (∃o o2 r ag zq',l=o::o2::r∧yA P ops o o2=some ag∧eL P ops r=some (zq'.map az.er)∧zq=ag++zq')∨
 ∃o r op g zq',l=o::r∧(cop P o=some op.er∨op= .bad)∧dr ops o.guard=some g∧eL P ops r=some (zq'.map az.er)∧zq=⟨o.dst,op,g⟩::zq':=by
 rcases rB h with ⟨h1,h2⟩|⟨o,o2,r,a,zq',h1,h2,h3,h4⟩|⟨o,o2,r,ag,zq',h1,h2,h3,h4⟩|⟨o,r,op,g,zq',h1,h2,h3,h4,h5⟩
 · exact .inl ⟨h1,by simpa using h2⟩
 · cases zq with
   |nil=>simp at h4
   |cons x xs=>
    simp only [List.map_cons,List.cons.injEq] at h4
    obtain ⟨y,bs,hl⟩:=s9 h2
    have:=Dw h4.1 hl
    subst this
    exact .inr (.inl ⟨o,o2,r,x,xs,h1,h2,by rw [h3,h4.2],rfl⟩)
 · obtain ⟨d,y,bs,t,w,g,rfl, -⟩:=qm h2
   cases zq with
   |nil=>simp at h4
   |cons x xs=>
    cases xs with
    |nil=>simp at h4
    |cons x2 xs=>
     simp only [List.map_cons,List.cons_append,List.nil_append,List.cons.injEq] at h4
     have e1:=NA h4.1 rfl
     have e2:=Dw h4.2.1 rfl
     subst e1;subst e2
     exact .inr (.inr (.inl ⟨o,o2,r,_,xs,h1,h2,by rw [h3,h4.2.2],rfl⟩))
 · cases zq with
   |nil=>simp at h5
   |cons x xs=>
    simp only [List.map_cons,List.cons.injEq] at h5
    obtain ⟨d,op',g'⟩:=x
    obtain ⟨h6,h7⟩:=h5
    simp only [az.er] at h6
    injection h6 with e1 e2 e3
    subst e1;subst e2;subst e3
    exact .inr (.inr (.inr ⟨o,r,op',g',xs,h1,h2.imp id K7,h3,by rw [h4,h7],rfl⟩))
theorem yX {ops:Array Oper} {o o2:Oper} {l:List Oper} {a:az} {zq:List az} {K:Env→AH→Prop} {Q:Exit→Act→World→Prop} (dm:fX P (bare o) (bare o2)=some a)
 (hw1:Region.wanted o (yielded ops ts)=true) (sS:∀y bs v,a.op= .lit y bs→Region.wanted o2 (yielded ops ((⟨ts,[]⟩:Act).put (some y) v).tmps)=true) (hd:fA N (a::zq)=true)
 (hs:SR L N F γ C e ah ts w) (hk:ck P L (a::zq) e ah K)
 (next:∀e1 aW C1 sZ w1,ck P L zq e1 aW K→fA N zq=true→SR L N F γ C1 e1 aW sZ w1→Ext F C w C1 w1→wpList P ops Q l ⟨sZ,[]⟩ w1):wpList P ops Q (o::o2::l) ⟨ts,[]⟩ w:=by
 obtain ⟨d1,Vn,Ts,pos1,Tt,g1⟩:=o
 obtain ⟨d2,K3,iI,pos2,Tu,g2⟩:=o2
 unfold fX bare at dm
 split at dm
 case h_2=>cases dm
 rename_i t n parts s d x y h1 h2 h3
 simp only at h1 h2 h3
 subst h1;subst h2;subst h3
 split at dm
 case isFalse=>cases dm
 rename_i hcs
 obtain ⟨rfl,rfl,rfl,K8,HO,Tv,hn,hn2⟩:=hcs
 split at dm
 case h_2=>cases dm
 rename_i el hel
 split at dm
 case h_2=>cases dm
 rename_i Tw
 split at dm
 case isFalse=>cases dm
 rename_i hsz
 split at dm
 case h_2=>cases dm
 rename_i mK Qq
 simp only [Option.map_eq_some_iff] at dm
 obtain ⟨bs,A4,rfl⟩:=dm
 have sS:=fun v=>sS _ _ v rfl
 simp only [fA,Bool.and_eq_true] at hd
 obtain ⟨⟨hd1,yY⟩,Qr⟩:=hd
 have hy:x<N:=by simpa using yY
 have eD:∀z,d2=some z→z<N:=by
  intro z hz
  rw [hz] at hd1
  simpa using hd1
 simp only [ck,c6,o5,aO] at hk
 have ht:P.underlying d=some (.slice el):=by
  unfold uD at hel
  split at hel
  · rename_i h;injection hel with hel;subst hel;exact h
  · cases hel
 obtain ⟨q1,q2⟩:=HC A4 e
 obtain ⟨r,hrs,hrun,key⟩:=vF (ds:=[]) (d:=d2) hs eD ht hn (by rw [hsz.1];omega) hsz.2 Qq (by rw [hsz.1];exact q2)
 obtain ⟨C',k1,k2⟩:=key (r.size,r.size+1) (.inr rfl)
 rw [q1,hsz.1] at k1
 have k3:=k1.rz (d:=x) (a:= .un) (v:= .slice (some ⟨w.heap.size,0,none⟩) n n) hy (.un ..) trivial rfl (by simp)
 unfold wpList
 rw [if_pos hw1]
 refine .inl ?_
 unfold Oper.wp
 have e1:(execOp (Act.eval ⟨ts,[]⟩) ⟨some x, .buildSlice d n parts,Ts,pos1,Tt,g1⟩).run P w= .ok (.value (.slice (some ⟨w.heap.size,0,none⟩) n n)) (w.alloc (.cells r el)):=by
  simp [execOp,hrun]
 rw [e1]
 simp only [Oper.upon]
 unfold wpList
 rw [if_pos (sS _)]
 refine .inl ?_
 unfold Oper.wp
 have hlt:x<ts.size:=by rw [hs.sz];exact hy
 have e2:(execOp (Act.eval ((⟨ts,[]⟩:Act).put (some x) (.slice (some ⟨w.heap.size,0,none⟩) n n))) ⟨d2, .convert d d (.tmp x),iI,pos2,Tu,g2⟩).run P (w.alloc (.cells r el))= .ok (.value (.slice (some ⟨w.heap.size,0,none⟩) n n)) (w.alloc (.cells r el (r.size,r.size+1))):=by
  have hev:Act.eval ((⟨ts,[]⟩:Act).put (some x) (.slice (some ⟨w.heap.size,0,none⟩) n n)) (.tmp x)= .slice (some ⟨w.heap.size,0,none⟩) n n:=by
   simp [Act.eval,Act.put,hlt]
  have:=Lib.run_convert_bytes_const (P:=P) w d el r n n ht Tw
  simp only [execOp,hev,Sem.run_bind,this,Result.andThen_ok,Sem.run_pure]
 rw [e2]
 simp only [Oper.upon]
 rw [←SR.sV ts [] Tv]
 have hput:(((⟨ts,[]⟩:Act).put d2 (.slice (some ⟨w.heap.size,0,none⟩) n n)).put (some x) (.slice (some ⟨w.heap.size,0,none⟩) n n))=
  ⟨(((⟨ts,[]⟩:Act).put d2 (.slice (some ⟨w.heap.size,0,none⟩) n n)).tmps).setIfInBounds x (.slice (some ⟨w.heap.size,0,none⟩) n n),[]⟩:=by
  cases d2<;>rfl
 rw [hput]
 exact next _ _ C' _ _ hk Qr k3 k2
theorem K9 {ops:Array Oper} {o o2:Oper} {l:List Oper} {a:az} {zq:List az} {K:Env→AH→Prop} {Q:Exit→Act→World→Prop} (dm:fX P o o2=some a) (hd:fA N (a::zq)=true)
 (hs:SR L N F γ C e ah ts w) (hk:ck P L (a::zq) e ah K)
 (next:∀e1 aW C1 sZ w1,ck P L zq e1 aW K→fA N zq=true→SR L N F γ C1 e1 aW sZ w1→Ext F C w C1 w1→wpList P ops Q l ⟨sZ,[]⟩ w1):wpList P ops Q (o::o2::l) ⟨ts,[]⟩ w:=by
 have hg:o.guard=none∧o2.guard=none:=by
  unfold fX at dm
  split at dm
  case h_2=>cases dm
  split at dm
  case isFalse=>cases dm
  rename_i hcs
  exact ⟨by simpa using hcs.2.2.2.1,by simpa using hcs.2.2.2.2.1⟩
 have e1:bare o=o:=by obtain ⟨d,op,ty,pos,af,g⟩:=o;simp only at hg;simp [bare,hg.1]
 have e2:bare o2=o2:=by obtain ⟨d,op,ty,pos,af,g⟩:=o2;simp only at hg;simp [bare,hg.2]
 exact yX (by rw [e1,e2];exact dm) (by simp [Region.wanted,hg.1]) (fun _ _ _ _=>by simp [Region.wanted,hg.2]) hd hs hk next
theorem HP {ops:Array Oper}:∀(n:Nat) (l:List Oper) (zq:List az) (e:Env) (ah:AH) (K:Env→AH→Prop) (F:Nat→Prop) (γ:List Nat) (C:Nat→List Value) (ts:Array Value) (w:World)
 (Q:Exit→Act→World→Prop),l.length≤n→eL P ops l=some (zq.map az.er)→fA N zq=true→SR L N F γ C e ah ts w→ck P L zq e ah K→
 (∀e' aj γ' C' ts' w',K e' aj→γ <+: γ'→SR L N F γ' C' e' aj ts' w'→Ext F C w C' w'→Q .normal ⟨ts',[]⟩ w')→wpList P ops Q l ⟨ts,[]⟩ w:=by
 intro n
 induction n with
 |zero=>
  intro l zq e ah K F γ C ts w Q hn hc hd hs hk hq
  obtain rfl:l=[]:=List.eq_nil_of_length_eq_zero (by omega)
  simp only [eL,Option.some.injEq] at hc
  obtain rfl:zq=[]:=by simpa using hc.symm
  exact wpList_nil (hq e ah γ C ts w hk (List.prefix_refl _) hs (Ext.refl ..))
 |succ n ih=>
  intro l zq e ah K F γ C ts w Q hn hc hd hs hk hq
  rcases wz hc with ⟨rfl,rfl⟩|⟨o,o2,l,a,zq',rfl,dm,has,rfl⟩|⟨o,o2,l,ag,zq',rfl,dm,has,rfl⟩|⟨o,l,op,g,zq',rfl,hop,hg,has,rfl⟩
  · exact wpList_nil (hq e ah γ C ts w hk (List.prefix_refl _) hs (Ext.refl ..))
  · exact K9 dm hd hs hk fun e1 aW C1 sZ w1 qi hd1 hs1 hx1=>ih l zq' e1 aW K F γ C1 sZ w1 Q (by simp at hn;omega) has hd1 hs1 qi
     fun e' aj γ' C' ts' w' g1 g2 g3 g4=>hq e' aj γ' C' ts' w' g1 g2 g3 (hx1.trans g4)
  · obtain ⟨d,y,bs,tg,want,g0,rfl,hty,hlo,K8,HO⟩:=qm dm
    have hd:fA N [⟨some y, .mv (.c .un),some (tg,want)⟩,⟨d, .lit y bs,some (tg,want)⟩]=true∧fA N zq'=true:=by
     simp only [List.cons_append,List.nil_append,fA,Bool.and_eq_true,Bool.and_true] at hd ⊢
     exact ⟨⟨hd.1,hd.2.1⟩,hd.2.2⟩
    have Qs:y<N:=by
     have:=hd.1
     simp only [fA,Bool.and_eq_true] at this
     simpa using this.1.1
    have Qt:∀v,SR L N F γ C (put e y .un) ah (ts.setIfInBounds y v) w:=fun v=>hs.rz Qs (.un ..) trivial rfl (by simp)
    have hge:∀a,get (put e y a) tg=get e tg:=fun a=>by rw [cw,if_neg hty]
    have oT:∀a (d d2:Option Nat) (op K3:cN),c6 (put e y a) ⟨d,op,some (tg,want)⟩=c6 e ⟨d2,K3,some (tg,want)⟩:=fun a _ _ _ _=>by simp only [c6,hge]
    rw [List.cons_append,List.cons_append,List.nil_append] at hk
    simp only [ck] at hk
    split at hk
    · rename_i k4
      have hw1:=dM hs K8 k4
      have e0:ak L e (some y) (cp L (.c .un) (ev e (.c .un)))=put e y .un:=by
       simp only [ev,cp,ak];split<;>rfl
      simp only [o5,aO] at hk
      rw [e0,oT .un d (some y) (.lit y bs) (.mv (.c .un)),k4] at hk
      simp only at hk
      have Tx:ck P L (⟨d, .lit y bs,g0⟩::zq') (put e y .un) ah K:=by
       have h0:g0=none:=by
        unfold fX at hlo
        split at hlo
        case h_2=>cases hlo
        split at hlo
        case isFalse=>cases hlo
        split at hlo
        case h_2=>cases hlo
        split at hlo
        case h_2=>cases hlo
        split at hlo
        case isFalse=>cases hlo
        split at hlo
        case h_2=>cases hlo
        simp only [Option.map_eq_some_iff] at hlo
        obtain ⟨_, -,hlo⟩:=hlo
        injection hlo with _ _ h3
        exact h3.symm
       subst h0
       exact hk
      refine yX hlo hw1 (fun y' bs' v h=> ?_) (by
       have h1:=hd.1
       simp only [fA,Bool.and_eq_true] at h1 ⊢
       exact ⟨h1.2.1,hd.2⟩) (hs.ku (.un _)) Tx fun e1 aW C1 sZ w1 qi hd1 hs1 hx1=>ih l zq' e1 aW K F γ C1 sZ w1 Q (by simp at hn;omega) has hd1 hs1 qi
       fun e' aj γ' C' ts' w' g1 g2 g3 g4=>hq e' aj γ' C' ts' w' g1 g2 g3 (hx1.trans g4)
      injection h with h1 h2
      subst h1
      exact dM (Qt v) HO (d:=d) (op:= .lit y bs) ((oT .un d (some y) (.lit y bs) (.mv (.c .un))).trans k4)
    · rename_i k4
      have hw1:=dM hs K8 k4
      rw [show iL e (some y)=put e y (.aL []) from rfl,oT (.aL []) d (some y) (.lit y bs) (.mv (.c .un)),k4] at hk
      simp only at hk
      obtain ⟨Ty,Tz⟩:o.dst=some y∧o2.dst=d:=by
       unfold fX bare at hlo
       split at hlo
       case h_2=>cases hlo
       rename_i h1 h2 h3
       simp only at h3
       split at hlo
       case isFalse=>cases hlo
       split at hlo
       case h_2=>cases hlo
       split at hlo
       case h_2=>cases hlo
       split at hlo
       case isFalse=>cases hlo
       split at hlo
       case h_2=>cases hlo
       simp only [Option.map_eq_some_iff] at hlo
       obtain ⟨_, -,hlo⟩:=hlo
       injection hlo with q1 q2 _
       injection q2 with q2 _
       subst q2
       exact ⟨h3,q1⟩
      have hs1:SR L N F γ C (put e y (.aL [])) ah (ts.setIfInBounds y undef) w:=hs.rz Qs (.aL _ [] #[] rfl (by simp)) (by simp [undef,TC]) rfl (by simp)
      unfold wpList
      rw [if_neg (by rw [hw1];simp)]
      unfold wpList
      have NB:(⟨ts,[]⟩:Act).put o.dst undef=⟨ts.setIfInBounds y undef,[]⟩:=by rw [Ty];rfl
      rw [NB]
      have sS:=dM hs1 HO (d:=d) (op:= .lit y bs) ((oT (.aL []) d (some y) (.lit y bs) (.mv (.c .un))).trans k4)
      rw [if_neg (by show ¬(Region.wanted o2 (yielded ops (ts.setIfInBounds y undef))=true);rw [sS];simp)]
      have hput:(⟨ts.setIfInBounds y undef,[]⟩:Act).put o2.dst undef=⟨((⟨ts.setIfInBounds y undef,[]⟩:Act).put o2.dst undef).tmps,[]⟩:=by cases o2.dst<;>rfl
      rw [hput]
      refine ih l zq' _ ah K F γ C _ w Q (by simp at hn;omega) has hd.2 ?_ hk hq
      rw [Tz]
      cases TA:d with
      |none=>exact hs1
      |some d'=>
       have hdN:d'<N:=by
        have:=hd.1
        simp only [fA,Bool.and_eq_true,TA] at this
        simpa using this.2.1.1
       exact hs1.rz hdN (.aL _ [] #[] rfl (by simp)) (by simp [undef,TC]) rfl (by simp)
    · exact hk.elim
  have hn':l.length≤n:=by simp at hn;omega
  simp only [fA,Bool.and_eq_true] at hd
  have eD:∀x,o.dst=some x→x<N:=by
   intro x hx
   have:=hd.1.1
   rw [hx] at this
   simpa using this
  simp only [ck] at hk
  split at hk
  · rename_i k4
    have hw:=dM hs hg k4
    unfold wpList
    rw [if_pos hw]
    refine .inl ?_
    rcases hop with hop|rfl
    case inr=>exact hk.elim
    by_cases cu:op.gW=true
    · cases op with
      |call f mK=>
       simp only [o5] at hk
       split at hk
       case h_2=>exact hk.elim
       rename_i f' caps NC
       obtain ⟨hfl,hk⟩:=hk
       obtain ⟨x,args,tys,ho,hx,hargs⟩:=ql hop
       have h1:=aR (ds:=[]) hs hx
       rw [NC] at h1
       obtain ⟨vs,ND,hcl,gX⟩:=h1.1.vW
       obtain ⟨c1,c2⟩:=vJ hs _ _ _ hargs
       have tf:=yU (d:=o.dst) (ds:=[]) (vs:=args.map (Act.eval ⟨ts,[]⟩)++vs) hs eD hk (by simp [c1,hcl]) (s7 hs hfl hcl gX c1 c2)
       have A8:(execOp (Act.eval ⟨ts,[]⟩) o).run P w= .ok (.enter f' (args.map (Act.eval ⟨ts,[]⟩)++vs)) w:=by
        rw [ho];exact s5 hk.1 ND
       unfold Oper.wp
       rw [A8]
       simp only [Oper.upon]
       refine tf.mono ?_
       rintro en w1 ⟨r,v,aW,γ1,C1,rfl,hR,hγ,hs1,hx1⟩
       have hput:(⟨ts,[]⟩:Act).put o.dst v=⟨((⟨ts,[]⟩:Act).put o.dst v).tmps,[]⟩:=by cases o.dst<;>rfl
       show wpList P ops Q l ((⟨ts,[]⟩:Act).put o.dst v) w1
       rw [hput]
       exact ih l zq' _ aW K F γ1 C1 _ w1 Q hn' has hd.2 hs1 hR fun e' aj γ' C' ts' w' g1 g2 g3 g4=>hq e' aj γ' C' ts' w' g1 (hγ.trans g2) g3 (hx1.trans g4)
      |fD k b x y=>
       simp only [o5] at hk
       obtain ⟨e1,aW,hk',v,w1,γ1,C1,hr,hγ,hs1,hx1, -, -⟩:=vG (m:=true) (ds:=[]) hs eD (by simpa [cc] using hop) hk
       have next:wpList P ops Q l ((⟨ts,[]⟩:Act).put o.dst v) w1:=by
        have hput:(⟨ts,[]⟩:Act).put o.dst v=⟨((⟨ts,[]⟩:Act).put o.dst v).tmps,[]⟩:=by cases o.dst<;>rfl
        rw [hput]
        exact ih l zq' e1 aW K F γ1 C1 _ w1 Q hn' has hd.2 hs1 hk' fun e' aj γ' C' ts' w' g1 g2 g3 g4=>hq e' aj γ' C' ts' w' g1 (hγ.trans g2) g3 (hx1.trans g4)
       unfold Oper.wp
       rcases hr with hr|⟨hr,rfl⟩<;>rw [hr]<;>exact next
      |nq n x=>
       simp only [o5] at hk
       obtain ⟨e1,aW,hk',v,w1,γ1,C1,hr,hγ,hs1,hx1, -, -⟩:=wu (m:=true) (ds:=[]) hs eD (by simpa [cc] using hop) hk
       have next:wpList P ops Q l ((⟨ts,[]⟩:Act).put o.dst v) w1:=by
        have hput:(⟨ts,[]⟩:Act).put o.dst v=⟨((⟨ts,[]⟩:Act).put o.dst v).tmps,[]⟩:=by cases o.dst<;>rfl
        rw [hput]
        exact ih l zq' e1 aW K F γ1 C1 _ w1 Q hn' has hd.2 hs1 hk' fun e' aj γ' C' ts' w' g1 g2 g3 g4=>hq e' aj γ' C' ts' w' g1 (hγ.trans g2) g3 (hx1.trans g4)
       unfold Oper.wp
       rcases hr with hr|⟨hr,rfl⟩<;>rw [hr]<;>exact next
      |_=>cases cu
    · have jA:op.gW=false:=by simpa using cu
      have hk':match aO L ⟨o.dst,op,g⟩ e ah with|some (e',aj)=>ck P L zq' e' aj K|none=>False:=by
       cases op<;>first|exact hk|cases jA
      rw [mI] at hk'
      cases hev:aO L ⟨o.dst,op,none⟩ e ah with
      |none=>rw [hev] at hk';exact hk'.elim
      |some ea=>
       obtain ⟨e1,aW⟩:=ea
       rw [hev] at hk'
       obtain ⟨v,w1,γ1,C1,hr,hγ,hs1,hx1, -, -⟩:=wv (ds:=[]) hs eD hop jA hev
       have next:wpList P ops Q l ((⟨ts,[]⟩:Act).put o.dst v) w1:=by
        have hput:(⟨ts,[]⟩:Act).put o.dst v=⟨((⟨ts,[]⟩:Act).put o.dst v).tmps,[]⟩:=by cases o.dst<;>rfl
        rw [hput]
        exact ih l zq' e1 aW K F γ1 C1 _ w1 Q hn' has hd.2 hs1 hk' fun e' aj γ' C' ts' w' g1 g2 g3 g4=>hq e' aj γ' C' ts' w' g1 (hγ.trans g2) g3 (hx1.trans g4)
       unfold Oper.wp
       rcases hr with hr|⟨hr,rfl⟩<;>rw [hr]<;>exact next
  · rename_i k4
    have hw:=dM hs hg k4
    unfold wpList
    rw [if_neg (by rw [hw];simp)]
    have hput:(⟨ts,[]⟩:Act).put o.dst undef=⟨((⟨ts,[]⟩:Act).put o.dst undef).tmps,[]⟩:=by cases o.dst<;>rfl
    rw [hput]
    refine ih l zq' _ ah K F γ C _ w Q hn' has hd.2 ?_ hk hq
    cases ho:o.dst with
    |none=>exact hs
    |some d=>exact hs.rz (eD d ho) (.aL _ [] #[] rfl (by simp)) (by simp [undef,TC]) rfl (by simp)
  · exact hk.elim
theorem La {ops:Array Oper} (l:List Oper) (zq:List az) (e:Env) (ah:AH) (K:Env→AH→Prop) (F:Nat→Prop) (γ:List Nat) (C:Nat→List Value) (ts:Array Value) (w:World)
 (Q:Exit→Act→World→Prop) (hc:eL P ops l=some (zq.map az.er)) (hd:fA N zq=true) (hs:SR L N F γ C e ah ts w) (hk:ck P L zq e ah K)
 (hq:∀e' aj γ' C' ts' w',K e' aj→γ <+: γ'→SR L N F γ' C' e' aj ts' w'→Ext F C w C' w'→Q .normal ⟨ts',[]⟩ w'):wpList P ops Q l ⟨ts,[]⟩ w:=
 HP l.length l zq e ah K F γ C ts w Q (Nat.le_refl _) hc hd hs hk hq
end
end Go.Am
end
section
namespace Go.Am
open Go
variable [Tabs]
section
variable {P:Program} {ops:Array Oper} {Q:Exit→Act→World→Prop} {md:Region.Mode} {S:World→Prop} {D:Nat→Bool}
def wpS (P:Program) (ops:Array Oper) (Q:Exit→Act→World→Prop) (S:World→Prop) (D:Nat→Bool):Nat→Array Bool→Act→World→Prop
 |0,listed,a,w=>Region.ready .any ops listed=[]∧Q .normal a w
 |n+1,listed,a,w=>(Region.ready .any ops listed=[]→Q .normal a w)∧
  ∀i∈Region.ready .any ops listed,wpOp P ops Q i (fun a' w'=>(D i=false→S w')∧wpS P ops Q S D n (listed.setIfInBounds i true) a' w') a w
theorem wpS.any:∀ {n:Nat} {listed:Array Bool} {a:Act} {w:World},wpS P ops Q S D n listed a w→wpAny P .any ops Q n listed a w
 |0,_,_,_,h=>h
 |_+1,_,_,_,h=>⟨h.1,fun i hi=>wpOp_mono (fun _ _ h'=>h'.2.any) (h.2 i hi)⟩
theorem wpS.mono {S':World→Prop} (hS:∀w,S' w→S w):∀ {n:Nat} {listed:Array Bool} {a:Act} {w:World},wpS P ops Q S' D n listed a w→wpS P ops Q S D n listed a w
 |0,_,_,_,h=>h
 |_+1,_,_,_,h=>⟨h.1,fun i hi=>wpOp_mono (fun _ _ h'=>⟨fun hd=>hS _ (h'.1 hd),h'.2.mono hS⟩) (h.2 i hi)⟩
theorem dI {listed:Array Bool} {i j:Nat} (h:(listed.setIfInBounds i true).getD j true=false):listed.getD j true=false:=by
 by_cases hij:i=j
 · subst hij
   by_cases hlt:i<listed.size
   · simp [hlt] at h
   · simp [Array.getElem?_eq_none (Nat.le_of_not_lt hlt)] at h
 · rwa [getD_set_ne true hij] at h
theorem rC:∀ {n:Nat} {listed:Array Bool} {a:Act} {w:World},(∀j,listed.getD j true=false→D j=true)→wpAny P .any ops Q n listed a w→wpS P ops Q S D n listed a w
 |0,_,_,_,_,h=>h
 |_+1,listed,_,_,hD,h=>⟨h.1,fun i hi=>wpOp_mono (fun _ _ h'=>⟨fun hd=>Bool.noConfusion ((hD i (mem_ready.1 hi).1).symm.trans hd),rC (fun j hj=>hD j (dI hj)) h'⟩) (h.2 i hi)⟩
theorem A9 {i:Nat} {oi:Oper} {v:Value} (hi:ops[i]? =some oi) (hsel:∀(j:Nat) (o:Oper) cs b,ops[j]? =some o→o.op≠ .select cs b)
 (hQ:∀c a w,¬Q (.panic c) a w) (W:Nat→Prop):
 ∀(n:Nat) (listed:Array Bool) (a:Act) (w:World),
  (∀j oj,ops[j]? =some oj→j≠i→listed.getD j true=false→(∀e∈oj.after,Region.binds .any e=true→e.on≠i)→oi.apart ops oj=true)→
  (∀j,W j→listed.getD j true=false∧∃oj,ops[j]? =some oj∧∃e∈oj.after,Region.binds .any e=true∧(e.on=i∨W e.on))→(∀j,j<ops.size→D j=true→listed.getD j true=false→W j)→
  i∈Region.ready .any ops listed→YieldsIf P ops S oi v a→S w→
  wpS P ops Q S D n (listed.setIfInBounds i true) (a.put oi.dst v) w→wpS P ops Q S D (n+1) listed a w:=by
 intro n
 induction n with
 |zero=>
  intro listed a w _ _ _ hr hy hS H
  refine ⟨fun h=>(by rw [h] at hr;cases hr),fun j hj=> ?_⟩
  by_cases hji:j=i
  · subst hji;exact hy.wpOp hi hS ⟨fun _=>hS,H⟩
  · have:=ready_mono hj hji
    rw [H.1] at this
    cases this
 |succ n ih=>
  intro listed a w hfree mL Qu hr hy hS H
  refine ⟨fun h=>(by rw [h] at hr;cases hr),fun j hj=> ?_⟩
  by_cases hji:j=i
  · subst hji;exact hy.wpOp hi hS ⟨fun _=>hS,H⟩
  · have h1:=H.2 j (ready_mono hj hji)
    obtain ⟨MU,oj,Ba,hall⟩:=mem_ready.1 hj
    have hun:∀k,listed.getD k true=false→listed.getD k false=false:=fun k hk=>by
     rcases Nat.lt_or_ge k listed.size with h'|h'
     · simp [h'] at hk ⊢;exact hk
     · simp [Array.getElem?_eq_none h'] at hk
    have hnot:∀e∈oj.after,Region.binds .any e=true→listed.getD e.on true=false→False:=fun e he hb hu=>by
     have h1:=hall e he hb
     rw [hun _ hu] at h1
     cases h1
    have hni:∀e∈oj.after,Region.binds .any e=true→e.on≠i:=fun e he hb heq=>hnot e he hb (by rw [heq];exact (mem_ready.1 hr).1)
    have Qv:¬W j:=by
     intro hw
     obtain ⟨-,Vo,Dx,e,he,hb,h0⟩:=mL j hw
     rw [Ba] at Dx
     injection Dx with Dx
     subst Dx
     rcases h0 with h0|h0
     · exact hni e he hb h0
     · exact hnot e he hb (mL _ h0).1
    have NF:D j=false:=by
     cases hd:D j with
     |false=>rfl
     |true=>exact absurd (Qu j (Array.getElem?_eq_some_iff.1 Ba).1 hd MU) Qv
    have h2:=wpOp_putIf Ba (hfree j oj Ba hji MU hni) (fun cs b=>hsel i oi cs b hi) (fun cs b=>hsel j oj cs b Ba) (fun c a w hq=>(hQ c _ w hq).elim) hy h1
    refine wpOp_mono (fun a' w' h3=> ?_) h2
    have Qw:=h3.2.1 NF
    refine ⟨fun _=>Qw,ih (listed.setIfInBounds j true) a' w' ?_ ?_ ?_ (ready_mono hr (Ne.symm hji)) h3.1 Qw ?_⟩
    · exact fun k ok hk hki NH hno=>hfree k ok hk hki (dI NH) hno
    · intro k hk
      obtain ⟨h5,h6⟩:=mL k hk
      refine ⟨?_,h6⟩
      rw [getD_set_ne true (fun h7=>Qv (by rw [h7];exact hk))]
      exact h5
    · exact fun k hk hd NH=>Qu k hk hd (dI NH)
    · rw [Array.setIfInBounds_comm _ _ hji]
      exact h3.2.2
end
section
variable {P:Program} {L:List Nat} {N n0:Nat} {F:Nat→Prop} {γ:List Nat} {C C':Nat→List Value} {e:Env} {ah:AH} {ts:Array Value} {w w':World} {m:Bool}
variable {e':Env} {aj:AH} {ops:Array Oper} {Q:Exit→Act→World→Prop}
theorem KA.trans {γ':List Nat} {w2:World} (hg:∀(s b:Nat),γ[s]? =some b→γ'[s]? =some b) (hC:∀b,C b <+: C' b) (h:KA m γ C w w') (h':KA m γ' C' w' w2):KA m γ C w w2:=
 ⟨fun b i hi=>(h'.1 b i (Nat.lt_of_lt_of_le hi (hC b).length_le)).trans (h.1 b i hi),fun hm s b hs=>(h'.2 hm s b (hg s b hs)).trans (h.2 hm s b hs)⟩
theorem HQ {γ γ':List Nat} (h:γ <+: γ') {s b:Nat} (hs:γ[s]? =some b):γ'[s]? =some b:=by
 obtain ⟨q,rfl⟩:=h
 rw [List.getElem?_append_left (List.getElem?_eq_some_iff.1 hs).1];exact hs
theorem KA.wA {e ah ts e' aj ts'} {γ':List Nat} (h:SR L N F γ C e ah ts w) (h':SR L N F γ' C' e' aj ts' w') (hx:Ext F C w C' w')
 (ho:m=true→∀(s b:Nat),γ[s]? =some b→w'.heap[b]? =w.heap[b]?):KA m γ C w w':=by
 refine ⟨fun b i hi=> ?_,ho⟩
 rw [iA h hi,iA h' (Nat.lt_of_lt_of_le hi (hx.pre b).length_le),dx (hx.pre b) hi]
theorem qn (a:Act) (d:Option Nat) (v:Value) (h:a.defers=[]):a.put d v=⟨(a.put d v).tmps,[]⟩:=by
 obtain ⟨ts,ds⟩:=a
 simp only at h
 subst h
 cases d<;>rfl
theorem yZ {o:Oper} {i:Nat} {op:cN} {g:Option (Nat×Bool)} {zq:List az} {K:Env→AH→Prop} {R:Act→World→Prop} (hi:ops[i]? =some o) (hop:cc P m o=some op.er) (hg:dr ops o.guard=some g)
 (eD:∀x,o.dst=some x→x<N) (hs:SR L N F γ C e ah ts w) (hk:ck P L (⟨o.dst,op,g⟩::zq) e ah K)
 (next:∀v e' aj γ' C' w',ck P L zq e' aj K→γ <+: γ'→SR L N F γ' C' e' aj ((⟨ts,[]⟩:Act).put o.dst v).tmps w'→Ext F C w C' w'→(vA P m o=true→KA m γ C w w')→R ((⟨ts,[]⟩:Act).put o.dst v) w'):
 wpOp P ops Q i R ⟨ts,[]⟩ w:=by
 unfold wpOp
 simp only [hi]
 simp only [ck] at hk
 split at hk
 · rename_i k4
   rw [if_pos (dM hs hg k4)]
   refine .inl ?_
   by_cases cu:op.gW=true
   · cases op with
     |call f mK=>
      have hop:cop P o=some (.call f mK):=by
       cases m with
       |true=>simpa [cc,cN.er] using hop
       |false=>
        simp only [cc,Bool.false_eq_true,if_false,Option.map_eq_some_iff] at hop
        obtain ⟨op',h1,h2⟩:=hop
        rw [h1,vH h2]
      simp only [o5] at hk
      split at hk
      case h_2=>exact hk.elim
      rename_i f' caps NC
      obtain ⟨hfl,hk⟩:=hk
      obtain ⟨x,args,tys,ho,hx,hargs⟩:=ql hop
      have h1:=aR (ds:=[]) hs hx
      rw [NC] at h1
      obtain ⟨vs,ND,hcl,gX⟩:=h1.1.vW
      obtain ⟨c1,c2⟩:=vJ hs _ _ _ hargs
      have tf:=yU (d:=o.dst) (ds:=[]) (vs:=args.map (Act.eval ⟨ts,[]⟩)++vs) hs eD hk (by simp [c1,hcl]) (s7 hs hfl hcl gX c1 c2)
      have A8:(execOp (Act.eval ⟨ts,[]⟩) o).run P w= .ok (.enter f' (args.map (Act.eval ⟨ts,[]⟩)++vs)) w:=by
       rw [ho];exact s5 hk.1 ND
      unfold Oper.wp
      rw [A8]
      simp only [Oper.upon]
      refine tf.mono ?_
      rintro en w1 ⟨r,v,aW,γ1,C1,rfl,hR,hγ,hs1,hx1⟩
      refine next v _ aW γ1 C1 w1 hR hγ hs1 hx1 fun hst=>KA.wA hs hs1 hx1 fun hm=> ?_
      rw [ho] at hst
      simp [vA,b7,dw,oN,hm] at hst
     |fD k b x y=>
      simp only [o5] at hk
      obtain ⟨e1,aW,hk',v,w1,γ1,C1,hr,hγ,hs1,hx1,hst, -⟩:=vG (ds:=[]) hs eD hop hk
      have nx:=next v e1 aW γ1 C1 w1 hk' hγ hs1 hx1 fun h=>KA.wA hs hs1 hx1 fun hm=>by
       refine hst ?_
       obtain ⟨_,_,_,_,_,_,ho, -⟩:=sY (qk hop)
       rw [ho] at h
       simp [vA,b7,dw,hm] at h
      unfold Oper.wp
      rcases hr with hr|⟨hr,rfl⟩<;>rw [hr]<;>exact nx
     |nq n x=>
      simp only [o5] at hk
      obtain ⟨e1,aW,hk',v,w1,γ1,C1,hr,hγ,hs1,hx1,hst, -⟩:=wu (ds:=[]) hs eD hop hk
      have nx:=next v e1 aW γ1 C1 w1 hk' hγ hs1 hx1 fun h=>KA.wA hs hs1 hx1 fun hm=>by
       refine hst ?_
       obtain ⟨_,_,_,_,_,ho, -⟩:=Du (yR hop)
       rw [ho];rfl
      unfold Oper.wp
      rcases hr with hr|⟨hr,rfl⟩<;>rw [hr]<;>exact nx
     |_=>cases cu
   · have jA:op.gW=false:=by simpa using cu
     have hk':match aO L ⟨o.dst,op,g⟩ e ah with|some (e',aj)=>ck P L zq e' aj K|none=>False:=by
      cases op<;>first|exact hk|cases jA
     rw [mI] at hk'
     cases hev:aO L ⟨o.dst,op,none⟩ e ah with
     |none=>rw [hev] at hk';exact hk'.elim
     |some ea=>
      obtain ⟨e1,aW⟩:=ea
      rw [hev] at hk'
      obtain ⟨v,w1,γ1,C1,hr,hγ,hs1,hx1,hst, -⟩:=yT (ds:=[]) hs eD hop jA hev
      have nx:=next v e1 aW γ1 C1 w1 hk' hγ hs1 hx1 fun h=>KA.wA hs hs1 hx1 fun hm=>by
       refine hst ?_
       cases wo:dw o.op with
       |false=>rfl
       |true=>
        exfalso
        cases ho:o.op with
        |call c=>
         rw [ho] at wo
         obtain ⟨ce,_,_⟩:=c
         cases ce with
         |builtin b=>cases b<;>simp [dw] at wo;simp [vA,b7,dw,ho,hm] at h
         |_=>simp [dw] at wo
        |store a b c=>simp [vA,b7,dw,ho,hm] at h
        |_=>rw [ho] at wo;simp [dw] at wo
      unfold Oper.wp
      rcases hr with hr|⟨hr,rfl⟩<;>rw [hr]<;>exact nx
 · rename_i k4
   have hw:=dM hs hg k4
   rw [if_neg (by rw [hw];simp)]
   refine next undef _ ah γ C w hk (List.prefix_refl _) ?_ (Ext.refl ..) fun _=>KA.refl ..
   cases ho:o.dst with
   |none=>exact hs
   |some d=>exact hs.rz (eD d ho) (.aL _ [] #[] rfl (by simp)) (by simp [undef,TC]) rfl (by simp)
 · exact hk.elim
theorem Er {o:Oper} {op:cN} {g:Option (Nat×Bool)} {zq:List az} {K:Env→AH→Prop} (hq:b7 P o.op=true) (hop:cc P m o=some op.er) (hg:dr ops o.guard=some g)
 (eD:∀x,o.dst=some x→x<N) (hs:SR L N F γ C e ah ts w) (hk:ck P L (⟨o.dst,op,g⟩::zq) e ah K):
 ∃v e' aj,YieldsIf P ops (KA m γ C w) o v ⟨ts,[]⟩∧ck P L zq e' aj K∧SR L N F γ C e' aj ((⟨ts,[]⟩:Act).put o.dst v).tmps w:=by
 simp only [ck] at hk
 split at hk
 · rename_i k4
   have hw:=dM hs hg k4
   by_cases Qx:∃n x,op= .nq n x
   · obtain ⟨n,x,rfl⟩:=Qx
     simp only [o5] at hk
     obtain ⟨e1,aW,hk',v,w1,γ1,C1,hr,hγ,hs1,hx1,hst,Lb⟩:=wu (ds:=[]) hs eD hop hk
     obtain ⟨rfl,rfl,rfl,hrun⟩:=Lb hq
     exact ⟨v,e1,aW, .inl ⟨hw,hrun⟩,hk',hs1⟩
   have jA:op.gW=false:=by
    cases op with
    |call f mK=>
     exfalso
     have hop:cop P o=some (.call f mK):=by
      cases m with
      |true=>simpa [cc,cN.er] using hop
      |false=>
       simp only [cc,Bool.false_eq_true,if_false,Option.map_eq_some_iff] at hop
       obtain ⟨op',h1,h2⟩:=hop
       rw [h1,vH h2]
     obtain ⟨x,args,tys,ho, -, -⟩:=ql hop
     rw [ho] at hq
     simp [b7] at hq
    |fD k b x y=>
     exfalso
     obtain ⟨_,_,_,_,_,_,ho, -⟩:=sY (qk hop)
     rw [ho] at hq
     simp [b7] at hq
    |nq n x=>exact absurd ⟨_,_,rfl⟩ Qx
    |_=>rfl
   have hk':match aO L ⟨o.dst,op,g⟩ e ah with|some (e',aj)=>ck P L zq e' aj K|none=>False:=by
    cases op<;>first|exact hk|cases jA
   rw [mI] at hk'
   cases hev:aO L ⟨o.dst,op,none⟩ e ah with
   |none=>rw [hev] at hk';exact hk'.elim
   |some ea=>
    obtain ⟨e1,aW⟩:=ea
    rw [hev] at hk'
    obtain ⟨v,w1,γ1,C1,hr,hγ,hs1,hx1,hst,Lb⟩:=yT (ds:=[]) hs eD hop jA hev
    obtain ⟨rfl,rfl,rfl,hrun⟩:=Lb hq
    exact ⟨v,e1,aW, .inl ⟨hw,hrun⟩,hk',hs1⟩
 · rename_i k4
   refine ⟨undef,_,ah, .inr ⟨dM hs hg k4,rfl⟩,hk, ?_⟩
   cases ho:o.dst with
   |none=>exact hs
   |some d=>exact hs.rz (eD d ho) (.aL _ [] #[] rfl (by simp)) (by simp [undef,TC]) rfl (by simp)
 · exact hk.elim
theorem Bb:∀(l r:List (Bool×Nat)) (zq:List az),cE P ops (l++r)=some zq→∃a1 a2,cE P ops l=some a1∧cE P ops r=some a2∧zq=a1++a2:=by
 intro l
 induction l with
 |nil=>intro r zq h;exact ⟨[],zq,rfl,h,rfl⟩
 |cons p l ih=>
  intro r zq h
  obtain ⟨m,i⟩:=p
  simp only [List.cons_append,cE] at h
  split at h
  case h_2=>cases h
  rename_i o ho
  split at h
  case h_2=>cases h
  rename_i a g zq' h1 h2 h3
  injection h with h
  obtain ⟨a1,a2,g1,g2,rfl⟩:=ih r zq' h3
  exact ⟨⟨o.dst,a,g⟩::a1,a2,by simp [cE,ho,h1,h2,g1],g2,by rw [←h];rfl⟩
theorem y8 (l r:List (Bool×Nat)) (zq:List az) (h:cE P ops (l++r)=some (zq.map az.er)):∃a1 a2,cE P ops l=some (a1.map az.er)∧cE P ops r=some (a2.map az.er)∧zq=a1++a2:=by
 obtain ⟨b1,b2,h1,h2,h3⟩:=Bb _ _ _ h
 obtain ⟨a1,a2,rfl,rfl,rfl⟩:=List.map_eq_append_iff.1 h3
 exact ⟨a1,a2,h1,h2,rfl⟩
theorem Es:∀(l r:List az) (e:Env) (ah:AH) (K:Env→AH→Prop),ck P L (l++r) e ah K=ck P L l e ah fun e ah=>ck P L r e ah K:=by
 intro l
 induction l with
 |nil=>intros;rfl
 |cons o l ih=>
  intro r e ah K
  simp only [List.cons_append,ck,ih]
theorem HR:∀(l r:List az),fA N (l++r)=true→fA N l=true∧fA N r=true:=by
 intro l
 induction l with
 |nil=>intro r h;exact ⟨rfl,h⟩
 |cons o l ih=>
  intro r h
  simp only [List.cons_append,fA,Bool.and_eq_true] at h ⊢
  obtain ⟨h1,h2⟩:=ih r h.2
  exact ⟨⟨h.1,h1⟩,h2⟩
theorem Dy {o:Oper} {a:cN} {g:Option (Nat×Bool)} {zq:List az} (h:fA N (⟨o.dst,a,g⟩::zq)=true):(∀x,o.dst=some x→x<N)∧fA N zq=true:=by
 simp only [fA,Bool.and_eq_true] at h
 refine ⟨fun x hx=> ?_,h.2⟩
 have:=h.1.1
 rw [hx] at this
 simpa using this
theorem rD {i:Nat} {r:List (Bool×Nat)} {zq:List az} (h:cE P ops ((m,i)::r)=some zq):
 ∃o a g zq',ops[i]? =some o∧cc P m o=some a∧dr ops o.guard=some g∧cE P ops r=some zq'∧zq=⟨o.dst,a,g⟩::zq':=by
 simp only [cE] at h
 split at h
 case h_2=>cases h
 rename_i o ho
 split at h
 case h_2=>cases h
 rename_i a g zq' h1 h2 h3
 injection h with h
 exact ⟨o,a,g,zq',ho,h1,h2,h3,h.symm⟩
theorem o6 {i:Nat} {r:List (Bool×Nat)} {zq:List az} (h:cE P ops ((m,i)::r)=some (zq.map az.er)):
 ∃o a g zq',ops[i]? =some o∧cc P m o=some (cN.er a)∧dr ops o.guard=some g∧cE P ops r=some (zq'.map az.er)∧zq=⟨o.dst,a,g⟩::zq':=by
 obtain ⟨o,a,g,zq',h1,h2,h3,h4,h5⟩:=rD h
 cases zq with
 |nil=>simp at h5
 |cons x xs=>
  simp only [List.map_cons,List.cons.injEq] at h5
  obtain ⟨d,op',g'⟩:=x
  obtain ⟨h6,h7⟩:=h5
  simp only [az.er] at h6
  injection h6 with e1 e2 e3
  subst e1;subst e2;subst e3
  exact ⟨o,op',g',xs,h1,h2,h3,by rw [h4,h7],rfl⟩
theorem Et {D:Nat→Bool} (hsel:Region.noSelect ops=true) (hQ:∀c a w,¬Q (.panic c) a w):∀(l:List Nat) (zq:List az) (e:Env) (ah:AH) (γ:List Nat) (C:Nat→List Value) (ts:Array Value) (w:World) (listed:Array Bool) (n:Nat)
 (K:Env→AH→Prop),cE P ops (l.map fun i=>(m,i))=some (zq.map az.er)→fA N zq=true→SR L N F γ C e ah ts w→ck P L zq e ah K→mq P ops m D l listed=true→
 (∀e' aj γ' C' ts' w',K e' aj→γ <+: γ'→SR L N F γ' C' e' aj ts' w'→Ext F C w C' w'→wpS P ops Q (KA m γ' C' w') D n (l.foldl (fun a i=>a.setIfInBounds i true) listed) ⟨ts',[]⟩ w')→
 wpS P ops Q (KA m γ C w) D (l.length+n) listed ⟨ts,[]⟩ w:=by
 intro l
 induction l with
 |nil=>
  intro zq e ah γ C ts w listed n K hc hd hs hk hst cont
  simp only [List.map_nil,cE,Option.some.injEq] at hc
  obtain rfl:zq=[]:=by simpa using hc.symm
  have:=cont e ah γ C ts w hk (List.prefix_refl _) hs (Ext.refl ..)
  simpa using this
 |cons i l ih=>
  intro zq e ah γ C ts w listed n K hc hd hs hk hst cont
  obtain ⟨o,a,g,zq',ho,hop,hg,has,rfl⟩:=o6 hc
  obtain ⟨eD,hd'⟩:=Dy hd
  simp only [mq,ho,Bool.and_eq_true,Bool.or_eq_true] at hst
  obtain ⟨hst,th⟩:=hst
  have hlen:(i::l).length+n=(l.length+n)+1:=by simp;omega
  rw [hlen]
  rcases hst with ⟨⟨⟨⟨hq,Vp⟩,hr⟩,hfree⟩,mL⟩|⟨hok,hr⟩
  · obtain ⟨v,e1,aW,hy,qi,hs1⟩:=Er hq hop hg eD hs hk
    refine A9 ho (Region.noSelect_spec hsel) hQ (fun j=>j∈yB ops i) _ listed _ w (Region.free_spec ho hfree) (fun j hj=> ?_) (fun j hj NF TB=> ?_) (by simpa using hr) hy (KA.refl ..) ?_
    · simp only [vV,vU,Bool.and_eq_true,List.all_eq_true] at mL
      obtain ⟨h1,h2⟩:=mL.1 j hj
      refine ⟨by simpa using h1, ?_⟩
      split at h2
      · rename_i oj Ba
        obtain ⟨x,hx,hb⟩:=Array.any_eq_true'.1 h2
        simp only [Bool.and_eq_true,Bool.or_eq_true,beq_iff_eq,List.contains_iff_mem] at hb
        exact ⟨oj,Ba,x,hx,hb.1,hb.2⟩
      · cases h2
    · simp only [vV,vU,Bool.and_eq_true,List.all_eq_true,List.mem_range] at mL
      have:=mL.2 j hj
      simpa [NF,TB] using this
    · rw [qn _ _ _ rfl]
      exact ih zq' e1 aW γ C _ w _ n K has hd' hs1 qi th cont
  · have hr:Region.ready .any ops listed=[i]:=by simpa using hr
    refine ⟨fun h=>(by rw [hr] at h;cases h),fun j hj=> ?_⟩
    rw [hr] at hj
    obtain rfl:j=i:=by simpa using hj
    refine yZ ho hop hg eD hs hk fun v e1 aW γ1 C1 w1 qi hγ hs1 hx1 hka=>⟨fun _=>hka hok, ?_⟩
    rw [qn _ _ _ rfl]
    refine (ih zq' e1 aW γ1 C1 _ w1 _ n K has hd' hs1 qi th fun e' aj γ' C' ts' w' g1 g2 g3 g4=> ?_).mono fun w2 h2=>(hka hok).trans (fun s b hs=>HQ hγ hs) hx1.pre h2
    exact cont e' aj γ' C' ts' w' g1 (hγ.trans g2) g3 (hx1.trans g4)
theorem uK:∀(l:List Nat) (listed:Array Bool) (j:Nat),(l.foldl (fun a i=>a.setIfInBounds i true) listed).getD j true=false→listed.getD j true=false∧j∉l:=by
 intro l
 induction l with
 |nil=>intro listed j h;exact ⟨h,by simp⟩
 |cons i l ih=>
  intro listed j h
  obtain ⟨h1,h2⟩:=ih _ j h
  refine ⟨dI h1, ?_⟩
  rw [List.mem_cons,not_or]
  refine ⟨fun hj=> ?_,h2⟩
  subst hj
  by_cases hlt:j<listed.size
  · simp [hlt] at h1
  · have:=dI h1
    simp [Array.getElem?_eq_none (Nat.le_of_not_lt hlt)] at this
theorem Bc (hsel:Region.noSelect ops=true) (hQ:∀c a w,¬Q (.panic c) a w):∀(st:List (Bool×List Nat)) (zq:List az) (e:Env) (ah:AH) (γ:List Nat) (C:Nat→List Value) (ts:Array Value) (w:World) (listed:Array Bool)
 (K:Env→AH→Prop),cE P ops (jM st)=some (zq.map az.er)→fA N zq=true→SR L N F γ C e ah ts w→ck P L zq e ah K→iz P ops st listed=true→
 (∀e' aj γ' C' ts' w',K e' aj→γ <+: γ'→SR L N F γ' C' e' aj ts' w'→Ext F C w C' w'→Q .normal ⟨ts',[]⟩ w')→
 wpAny P .any ops Q (jM st).length listed ⟨ts,[]⟩ w:=by
 intro st
 induction st with
 |nil=>
  intro zq e ah γ C ts w listed K hc hd hs hk hst cont
  simp only [jM,cE,Option.some.injEq] at hc
  obtain rfl:zq=[]:=by simpa using hc.symm
  exact ⟨by simpa [iz] using hst,cont e ah γ C ts w hk (List.prefix_refl _) hs (Ext.refl ..)⟩
 |cons s st ih=>
  intro zq e ah γ C ts w listed K hc hd hs hk hst cont
  obtain ⟨m,l⟩:=s
  simp only [jM] at hc ⊢
  obtain ⟨a1,a2,Nt,Qy,rfl⟩:=y8 _ _ _ hc
  obtain ⟨hd1,yY⟩:=HR _ _ hd
  rw [Es] at hk
  unfold iz at hst
  rw [Bool.and_eq_true] at hst
  obtain ⟨hst,th⟩:=hst
  have key:∀(Q':Nat→Bool),mq P ops m Q' l listed=true→(∀j,Q' j= !l.contains j)→wpAny P .any ops Q (l.map (fun i=>(m,i))++jM st).length listed ⟨ts,[]⟩ w:=by
   intro D Qz hD
   rw [List.length_append,List.length_map]
   refine (Et hsel hQ l a1 e ah γ C ts w listed _ _ Nt hd1 hs hk Qz fun e' aj γ' C' ts' w' g1 g2 g3 g4=> ?_).any
   refine rC (fun j hj=> ?_) (ih a2 e' aj γ' C' ts' w' _ K Qy yY g3 g1 th fun e2 kB γ2 C2 HN w2 q1 q2 q3 q4=>cont e2 kB γ2 C2 HN w2 q1 (g2.trans q2) q3 (g4.trans q4))
   rw [hD]
   simpa using (uK l listed j hj).2
  split at hst
  · rename_i i
    simp only [Bool.and_eq_true,beq_iff_eq] at hst
    obtain ⟨rfl,hr⟩:=hst
    obtain ⟨o,a,g,zq',ho,hop,hg,has,rfl⟩:=o6 Nt
    simp only [List.map_nil,cE,Option.some.injEq] at has
    obtain rfl:zq'=[]:=by simpa using has.symm
    obtain ⟨eD, -⟩:=Dy hd1
    refine ⟨fun h=>(by rw [hr] at h;cases h),fun j hj=> ?_⟩
    rw [hr] at hj
    obtain rfl:j=i:=by simpa using hj
    refine yZ ho hop hg eD hs hk fun v e1 aW γ1 C1 w1 qi hγ hs1 hx1 hka=> ?_
    rw [qn _ _ _ rfl]
    exact ih a2 e1 aW γ1 C1 _ w1 _ K Qy yY hs1 qi th fun e2 kB γ2 C2 HN w2 q1 q2 q3 q4=>cont e2 kB γ2 C2 HN w2 q1 (hγ.trans q2) q3 (hx1.trans q4)
  · exact key _ hst fun _=>rfl
theorem Eu {st:List (Bool×List Nat)} (h:sched P ops=some st):iz P ops st (Array.replicate ops.size false)=true∧(jM st).length=ops.size:=by
 have:oP P ops st=true:=by
  unfold sched at h
  split at h
  · rename_i s hs
    injection h with h;subst h
    exact (Option.filter_eq_some_iff.1 hs).2
  · exact (Option.filter_eq_some_iff.1 h).2
 simpa [oP] using this
theorem AW.drawn {id:Nat} {st:List (Bool×List Nat)} {zq:List az} {Q:Exit→Env→AH→Prop} (hm:P.follows .mixedOrders=true) (hsel:Region.noSelect ops=true) (hst:sched P ops=some st) (hc:cE P ops (jM st)=some (zq.map az.er))
 (hd:fA N zq=true) (h:ck P L zq e ah fun e ah=>Q .normal (keep L e) ah):AW P L N n0 (.region id ops true) Q e ah:=by
 intro F γ C ts w hs hn
 obtain ⟨h1,h2⟩:=Eu hst
 refine wp_mono (Q:=fun x a' w'=>x= .normal∧a'.defers=[]∧NG x∧∃e' aj γ' C',Q x e' aj∧γ.take n0 <+: γ'∧SR L N F γ' C' e' aj a'.tmps w'∧Ext F C w C' w') ?_ (fun _ _ _ h=>h.2)
 refine wp_region_any hm ?_
 have hw0:∀b,b<w.heap.size→({w with drawn:=w.drawn+1}:World).heap[b]? =w.heap[b]? :=fun _ _=>rfl
 obtain ⟨hs1,hx1⟩:=hs.grow (w':= {w with drawn:=w.drawn+1}) (C':=C) hw0 (Nat.le_refl _) (fun _ _=>rfl) (fun b hb hne=>absurd (mF hs hb) hne)
 have rE:=fun q=>Bc (Q:=fun x a' w'=>x= .normal∧a'.defers=[]∧NG x∧∃e' aj γ' C',Q x e' aj∧γ.take n0 <+: γ'∧SR L N F γ' C' e' aj a'.tmps w'∧Ext F C w C' w') hsel (fun c a w hq=>by cases hq.1) st zq e ah γ C ts _ _ _ hc hd hs1 h h1 q
 rw [h2] at rE
 refine rE fun e' aj γ' C' ts' w' q1 q2 q3 q4=> ?_
 exact ⟨rfl,rfl,trivial,keep L e',aj,γ',C',q1,vI q2,q3.keep L,hx1.trans q4⟩
end
end Go.Am
end
section
namespace Go.Am
open Go
variable [Tabs]
def jo (N:Nat):aq→Bool
 | .rg ops=>fA N ops
 | .seq a b| .cond _ a b=>jo N a&&jo N b
 | .blk _ c| .loop c=>jo N c
 |_=>true
def AX (P:Program) (L:List Nat) (N n0:Nat) (c:aq) (Q:Exit→Env→AH→Prop) (e:Env) (ah:AH):Prop:=
 ∀c',aP P c'=some c→AW P L N n0 c' Q e ah
def eH (P:Program) (L:List Nat) (N n0:Nat):aq→(Exit→Env→AH→Prop)→Env→AH→Prop
 | .skip,Q,e,ah=>Q .normal e ah
 | .ret,Q,e,ah=>Q .ret e ah
 | .exit i,Q,e,ah=>Q (.exit i) e ah
 | .rg ops,Q,e,ah=>ck P L ops e ah fun e ah=>Q .normal (keep L e) ah
 | .seq a b,Q,e,ah=>eH P L N n0 a (fun x e ah=>match x with| .normal=>eH P L N n0 b Q e ah|x=>Q x e ah) e ah
 | .cond c a b,Q,e,ah=>match ev e c with
   | .bool t=>if t then eH P L N n0 a Q e ah else eH P L N n0 b Q e ah
   |_=>False
 | .blk i c,Q,e,ah=>eH P L N n0 c (fun x e ah=>match x with| .exit j=>if j=i then Q .normal e ah else Q (.exit j) e ah|x=>Q x e ah) e ah
 | .loop c,Q,e,ah=>AX P L N n0 (.loop c) Q e ah
 | .sem c,Q,e,ah=>AX P L N n0 c Q e ah
section
variable {P:Program} {L:List Nat} {N n0:Nat} {e:Env} {ah:AH}
theorem AW.region {id:Nat} {ops:Array Oper} {zq:List az} {Q:Exit→Env→AH→Prop} (hc:eL P ops ops.toList=some (zq.map az.er)) (hd:fA N zq=true)
 (h:ck P L zq e ah fun e ah=>Q .normal (keep L e) ah):AW P L N n0 (.region id ops false) Q e ah:=by
 intro F γ C ts w hs hn
 refine wp_region_list (La ops.toList zq e ah _ F γ C ts w _ hc hd hs h ?_)
 intro e' aj γ' C' ts' w' hq hγ hs' hx
 exact ⟨rfl,trivial,keep L e',aj,γ',C',hq,vI hγ,hs'.keep L,hx⟩
theorem iB:∀(c':Code) (c:aq) (Q:Exit→Env→AH→Prop) (e:Env) (ah:AH),aP P c'=some (erase c)→jo N (erase c)=true→eH P L N n0 c Q e ah→AW P L N n0 c' Q e ah:=by
 intro c'
 induction c' with
 |skip=>
  intro c Q e ah hc ho h
  cases c with
  |sem c0=>exact h _ hc
  |skip=>exact AW.skip h
  |_=>simp [aP,erase] at hc
 |label l=>
  intro c Q e ah hc ho h
  cases c with
  |sem c0=>exact h _ hc
  |skip=>exact AW.label h
  |_=>simp [aP,erase] at hc
 |ret=>
  intro c Q e ah hc ho h
  cases c with
  |sem c0=>exact h _ hc
  |ret=>exact AW.ret h
  |_=>simp [aP,erase] at hc
 |exit i=>
  intro c Q e ah hc ho h
  cases c with
  |sem c0=>exact h _ hc
  |exit j=>simp [aP,erase] at hc;subst hc;exact AW.exit h
  |_=>simp [aP,erase] at hc
 |region id ops draw=>
  intro c Q e ah hc ho h
  cases c with
  |sem c0=>exact h _ hc
  |rg zq=>
   simp only [aP,erase] at hc
   cases draw with
   |true=>
    simp only [if_true] at hc
    split at hc
    case isFalse=>cases hc
    rename_i hmn
    simp only [Bool.and_eq_true] at hmn
    split at hc
    case h_2=>cases hc
    rename_i st hst
    simp only [Option.map_eq_some_iff] at hc
    obtain ⟨zq',has,he⟩:=hc
    injection he with he
    subst he
    exact AW.drawn hmn.1 hmn.2 hst has (by simpa only [erase,jo,Dv] using ho) h
   |false=>
    simp only [Bool.false_eq_true,if_false,Option.map_eq_some_iff] at hc
    obtain ⟨zq',has,he⟩:=hc
    injection he with he
    subst he
    exact AW.region has (by simpa only [erase,jo,Dv] using ho) h
  |_=>simp only [aP,erase] at hc;repeat' (split at hc)<;>simp at hc
 |seq a b tj tq=>
  intro c Q e ah hc ho h
  cases c with
  |sem c0=>exact h _ hc
  |seq x y=>
   simp only [aP,erase] at hc
   split at hc
   case h_2=>cases hc
   rename_i a' b' ha hb
   injection hc with hc
   injection hc with h1 h2
   subst h1;subst h2
   simp only [erase,jo,Bool.and_eq_true] at ho
   refine AW.seq ((tj x _ e ah ha ho.1 h).mono fun x e ah hx=> ?_)
   cases x with
   |normal=>exact tq y _ e ah hb ho.2 hx
   |_=>exact hx
  |_=>simp only [aP,erase] at hc;split at hc<;>simp at hc
 |cond c0 a b tj tq=>
  intro c Q e ah hc ho h
  cases c with
  |sem c0=>exact h _ hc
  |cond c2 x y=>
   simp only [aP,erase] at hc
   split at hc
   case h_2=>cases hc
   rename_i c1 a' b' h1 ha hb
   injection hc with hc
   injection hc with g0 g1 g2
   subst g0;subst g1;subst g2
   simp only [erase,jo,Bool.and_eq_true] at ho
   simp only [eH] at h
   split at h
   case h_2=>exact h.elim
   rename_i t ht
   refine AW.cond h1 ht ?_
   cases t with
   |true=>exact tj x Q e ah ha ho.1 h
   |false=>exact tq y Q e ah hb ho.2 h
  |_=>simp only [aP,erase] at hc;split at hc<;>simp at hc
 |block i c0 ih=>
  intro c Q e ah hc ho h
  cases c with
  |sem c0=>exact h _ hc
  |blk j x=>
   simp only [aP,erase,Option.map_eq_some_iff] at hc
   obtain ⟨a,ha,he⟩:=hc
   injection he with h1 h2
   subst h1;subst h2
   exact AW.blk (ih x _ e ah ha ho h)
  |_=>simp [aP,erase] at hc
 |loop c0 ih=>
  intro c Q e ah hc ho h
  cases c with
  |sem c0=>exact h _ hc
  |loop x=>exact h _ hc
  |_=>simp [aP,erase] at hc
 |rangeFunc=>intro c Q e ah hc;simp [aP] at hc
 |goto=>intro c Q e ah hc;simp [aP] at hc
 |scope c0 ih=>intro c Q e ah hc ho h;exact AW.scope (ih c Q e ah hc ho h)
 |refuse=>intro c Q e ah hc;simp [aP] at hc
theorem qo {o:Oper} {x:Ar} (h:cop P o=some (.ko x)):False:=by
 obtain ⟨d,oo,ty,pos,af,gd⟩:=o
 cases oo with
 |makeFunc fn first cs=>
  cases fn with
  |func f=>simp only [cop] at h;split at h<;>simp at h
  |_=>simp [cop] at h
 |call c=>
  obtain ⟨callee,args,tys⟩:=c
  simp only [cop] at h
  (repeat' (split at h))<;>(first|(cases h;done)|(simp at h;done))
 |_=>
  simp only [cop] at h
  first
   |cases h;done
   |(simp at h;done)
   |(repeat' (split at h))<;>(first|(cases h;done)|(simp at h;done))
theorem ow {o:Oper} {k b:Nat} {x y:Ar} (h:cop P o=some (.fD k b x y)):False:=by
 obtain ⟨d,oo,ty,pos,af,gd⟩:=o
 cases oo with
 |makeFunc fn first cs=>
  cases fn with
  |func f=>simp only [cop] at h;split at h<;>simp at h
  |_=>simp [cop] at h
 |call c=>
  obtain ⟨callee,args,tys⟩:=c
  simp only [cop] at h
  (repeat' (split at h))<;>(first|(cases h;done)|(simp at h;done))
 |_=>
  simp only [cop] at h
  first
   |cases h;done
   |(simp at h;done)
   |(repeat' (split at h))<;>(first|(cases h;done)|(simp at h;done))
theorem qp {o:Oper} {k:Nat} {x:Ar} (h:cop P o=some (.om k x)):False:=by
 obtain ⟨d,oo,ty,pos,af,gd⟩:=o
 cases oo with
 |makeFunc fn first cs=>
  cases fn with
  |func f=>simp only [cop] at h;split at h<;>simp at h
  |_=>simp [cop] at h
 |call c=>
  obtain ⟨callee,args,tys⟩:=c
  simp only [cop] at h
  (repeat' (split at h))<;>(first|(cases h;done)|(simp at h;done))
 |_=>
  simp only [cop] at h
  first
   |cases h;done
   |(simp at h;done)
   |(repeat' (split at h))<;>(first|(cases h;done)|(simp at h;done))
theorem Lc {o:Oper} {op:cN} (h:cop P o=some op):op.er=op:=by
 cases op with
 |ko x=>exact (qo h).elim
 |fD=>exact (ow h).elim
 |om=>exact (qp h).elim
 |_=>rfl
theorem HS {m:Bool} {o:Oper} {op:cN} (h:cc P m o=some op):op.er=op:=by
 cases op with
 |ko x=>
  exfalso
  cases m with
  |true=>exact qo (by simpa [cc] using h)
  |false=>
   simp only [cc,Bool.false_eq_true,if_false,Option.map_eq_some_iff] at h
   obtain ⟨op',h1,h2⟩:=h
   cases op' with
   |fC hh y=>cases hh<;>cases h2
   |ld y n=>cases h2
   |ko y=>exact qo h1
   |_=>cases h2
 |fD=>
  exfalso
  cases m with
  |true=>exact ow (by simpa [cc] using h)
  |false=>
   simp only [cc,Bool.false_eq_true,if_false,Option.map_eq_some_iff] at h
   obtain ⟨op',h1,h2⟩:=h
   cases op' with
   |fC hh y=>cases hh<;>cases h2
   |ld y n=>cases h2
   |fD=>exact ow h1
   |_=>cases h2
 |om=>
  exfalso
  cases m with
  |true=>exact qp (by simpa [cc] using h)
  |false=>
   simp only [cc,Bool.false_eq_true,if_false,Option.map_eq_some_iff] at h
   obtain ⟨op',h1,h2⟩:=h
   cases op' with
   |fC hh y=>cases hh<;>cases h2
   |ld y n=>cases h2
   |om=>exact qp h1
   |_=>cases h2
 |_=>rfl
theorem HT {ops:Array Oper}:∀(n:Nat) (l:List Oper) (zq:List az),l.length≤n→eL P ops l=some zq→zq.map az.er=zq:=by
 intro n
 induction n with
 |zero=>
  intro l zq hn h
  obtain rfl:l=[]:=List.eq_nil_of_length_eq_zero (by omega)
  simp only [eL,Option.some.injEq] at h;subst h;rfl
 |succ n ih=>
  intro l zq hn h
  rcases rB h with ⟨rfl,rfl⟩|⟨o,o2,r,a,zq',rfl,h2,h3,rfl⟩|⟨o,o2,r,ag,zq',rfl,h2,h3,rfl⟩|⟨o,r,op,g,zq',rfl,h2,h3,h4,rfl⟩
  · rfl
  · obtain ⟨y,bs,hl⟩:=s9 h2
    obtain ⟨d,op,g⟩:=a
    simp only at hl;subst hl
    simp only [List.map_cons,ih r zq' (by simp at hn;omega) h3];rfl
  · obtain ⟨d,y,bs,t,w,g,rfl, -⟩:=qm h2
    simp only [List.cons_append,List.nil_append,List.map_cons,ih r zq' (by simp at hn;omega) h3];rfl
  · have he:op.er=op:=by
     rcases h2 with h2|rfl
     · exact Lc h2
     · rfl
    simp only [List.map_cons,ih r zq' (by simp at hn;omega) h4,az.er,he]
theorem Ev {ops:Array Oper}:∀(l:List (Bool×Nat)) (zq:List az),cE P ops l=some zq→zq.map az.er=zq:=by
 intro l
 induction l with
 |nil=>intro zq h;simp only [cE,Option.some.injEq] at h;subst h;rfl
 |cons p r ih=>
  intro zq h
  obtain ⟨m,i⟩:=p
  obtain ⟨o,a,g,zq',h1,h2,h3,h4,rfl⟩:=rD h
  simp only [List.map_cons,ih zq' h4,az.er,HS h2]
theorem eA:∀(c':Code) (c:aq),aP P c'=some c→erase c=c:=by
 intro c'
 induction c' with
 |skip=>intro c hc;simp [aP] at hc;subst hc;rfl
 |label l=>intro c hc;simp [aP] at hc;subst hc;rfl
 |ret=>intro c hc;simp [aP] at hc;subst hc;rfl
 |exit i=>intro c hc;simp [aP] at hc;subst hc;rfl
 |region id ops draw=>
  intro c hc
  simp only [aP] at hc
  cases draw with
  |true=>
   simp only [if_true] at hc
   split at hc
   · split at hc
     · simp only [Option.map_eq_some_iff] at hc;obtain ⟨zq,has,rfl⟩:=hc;simp only [erase,Ev _ _ has]
     · cases hc
   · cases hc
  |false=>simp only [Bool.false_eq_true,if_false,Option.map_eq_some_iff] at hc;obtain ⟨zq,has,rfl⟩:=hc;simp only [erase,HT _ _ _ (Nat.le_refl _) has]
 |seq a b tj tq=>
  intro c hc
  simp only [aP] at hc
  split at hc
  case h_2=>cases hc
  rename_i a' b' ha hb
  injection hc with hc
  subst hc
  simp only [erase,tj _ ha,tq _ hb]
 |cond c0 a b tj tq=>
  intro c hc
  simp only [aP] at hc
  split at hc
  case h_2=>cases hc
  rename_i c1 a' b' h1 ha hb
  injection hc with hc
  subst hc
  simp only [erase,tj _ ha,tq _ hb]
 |block i c0 ih=>intro c hc;simp only [aP,Option.map_eq_some_iff] at hc;obtain ⟨a,ha,rfl⟩:=hc;simp only [erase,ih _ ha]
 |loop c0 ih=>intro c hc;simp only [aP,Option.map_eq_some_iff] at hc;obtain ⟨a,ha,rfl⟩:=hc;rfl
 |rangeFunc=>intro c hc;simp [aP] at hc
 |goto=>intro c hc;simp [aP] at hc
 |scope c0 ih=>intro c hc;exact ih c hc
 |refuse=>intro c hc;simp [aP] at hc
inductive It where
 |ops (r:List az)
 |keep
 |code (c:aq)
 |blk (i:Nat)
def U (P:Program) (L:List Nat) (N n0:Nat):List It→(Exit→Env→AH→Prop)→Exit→Env→AH→Prop
 |[],Q,x,e,ah=>Q x e ah
 | .code c::t,Q, .normal,e,ah=>eH P L N n0 c (fun x e ah=>U P L N n0 t Q x e ah) e ah
 | .ops r::t,Q, .normal,e,ah=>ck P L r e ah fun e ah=>U P L N n0 t Q .normal e ah
 | .keep::t,Q, .normal,e,ah=>U P L N n0 t Q .normal (keep L e) ah
 | .blk i::t,Q, .exit j,e,ah=>if j=i then U P L N n0 t Q .normal e ah else U P L N n0 t Q (.exit j) e ah
 | .blk _::t,Q,x,e,ah=>U P L N n0 t Q x e ah
 | .code _::t,Q,x,e,ah=>U P L N n0 t Q x e ah
 | .ops _::t,Q,x,e,ah=>U P L N n0 t Q x e ah
 | .keep::t,Q,x,e,ah=>U P L N n0 t Q x e ah
def UK (P:Program) (L:List Nat) (N n0 f:Nat) (zq:List AV) (d:Option Nat) (r:List az) (t:List It) (Q:Exit→Env→AH→Prop) (e:Env) (ah:AH):Prop:=
 av P f zq ah fun v aj=>U P L N n0 (.ops r::t) Q .normal (ak L (mJ e) d v.df) aj
def UF (P:Program) (L:List Nat) (N n0:Nat) (zq:List Ar) (d:Option Nat) (r:List az) (t:List It) (Q:Exit→Env→AH→Prop) (e:Env) (ah:AH):AV→Prop
 | .fn f caps=>if bz caps then UK P L N n0 f (zq.map (fun x=>(ev e x).sh)++caps.map AV.s1) d r t Q e ah else False
 |_=>False
def US (P:Program) (L:List Nat) (N n0:Nat) (r:List az) (t:List It) (Q:Exit→Env→AH→Prop):Option (Env×AH)→Prop
 |some (e,ah)=>U P L N n0 (.ops r::t) Q .normal e ah
 |none=>False
def UG (P:Program) (L:List Nat) (N n0:Nat) (o:az) (r:List az) (t:List It) (Q:Exit→Env→AH→Prop) (e:Env) (ah:AH):Option Bool→Prop
 |some true=>match o.op with
  | .call f zq=>UF P L N n0 zq o.d r t Q e ah (ev e f)
  | .fD k b x y=>iE L o.d k b x y e ah fun e ah=>U P L N n0 (.ops r::t) Q .normal e ah
  | .nq n x=>sJ L o.d n x e ah fun e ah=>U P L N n0 (.ops r::t) Q .normal e ah
  |_=>US P L N n0 r t Q (aO L o e ah)
 |some false=>U P L N n0 (.ops r::t) Q .normal (iL e o.d) ah
 |none=>False
def UC (P:Program) (L:List Nat) (N n0:Nat) (a b:aq) (t:List It) (Q:Exit→Env→AH→Prop) (e:Env) (ah:AH):AV→Prop
 | .bool true=>U P L N n0 (.code a::t) Q .normal e ah
 | .bool false=>U P L N n0 (.code b::t) Q .normal e ah
 |_=>False
def UX (P:Program) (L:List Nat) (N n0:Nat) (c:aq) (t:List It) (Q:Exit→Env→AH→Prop) (e:Env) (ah:AH):Prop:=
 AX P L N n0 c (fun x e ah=>U P L N n0 t Q x e ah) e ah
variable {t:List It} {Q:Exit→Env→AH→Prop} {x:Exit}
@[simp] theorem NI:U P L N n0 [] Q x e ah=Q x e ah:=rfl
@[simp] theorem Ld:U P L N n0 (.code .skip::t) Q .normal e ah=U P L N n0 t Q .normal e ah:=rfl
@[simp] theorem NJ:U P L N n0 (.code .ret::t) Q .normal e ah=U P L N n0 t Q .ret e ah:=rfl
@[simp] theorem Le {i:Nat}:U P L N n0 (.code (.exit i)::t) Q .normal e ah=U P L N n0 t Q (.exit i) e ah:=rfl
theorem HU (b:aq):(fun x e ah=>match x with| .normal=>eH P L N n0 b (fun x e ah=>U P L N n0 t Q x e ah) e ah|x=>U P L N n0 t Q x e ah)=fun x e ah=>U P L N n0 (.code b::t) Q x e ah:=by
 funext x e ah
 cases x<;>rfl
@[simp] theorem NK {a b:aq}:U P L N n0 (.code (.seq a b)::t) Q .normal e ah=U P L N n0 (.code a:: .code b::t) Q .normal e ah:=by
  simp only [U,eH]
  exact congrArg (fun K=>eH P L N n0 a K e ah) (HU b)
@[simp] theorem NL {i:Nat} {c:aq}:U P L N n0 (.code (.blk i c)::t) Q .normal e ah=U P L N n0 (.code c:: .blk i::t) Q .normal e ah:=by
  have:(fun x e ah=>match x with| .exit j=>if j=i then U P L N n0 t Q .normal e ah else U P L N n0 t Q (.exit j) e ah|x=>U P L N n0 t Q x e ah)=fun x e ah=>U P L N n0 (.blk i::t) Q x e ah:=by
   funext x e ah
   cases x<;>rfl
  exact congrArg (fun K=>eH P L N n0 c K e ah) this
@[simp] theorem QA {ops:List az}:U P L N n0 (.code (.rg ops)::t) Q .normal e ah=U P L N n0 (.ops ops:: .keep::t) Q .normal e ah:=rfl
@[simp] theorem Lf {c:aq}:U P L N n0 (.code (.loop c)::t) Q .normal e ah=UX P L N n0 (.loop c) t Q e ah:=rfl
@[simp] theorem NM {c:aq}:U P L N n0 (.code (.sem c)::t) Q .normal e ah=UX P L N n0 c t Q e ah:=rfl
@[simp] theorem Lg {c:Ar} {a b:aq}:U P L N n0 (.code (.cond c a b)::t) Q .normal e ah=UC P L N n0 a b t Q e ah (ev e c):=by
  simp only [U,eH]
  cases ev e c with
  |bool t=>cases t<;>rfl
  |_=>rfl
@[simp] theorem Lh:U P L N n0 (.keep::t) Q .normal e ah=U P L N n0 t Q .normal (keep L e) ah:=rfl
@[simp] theorem HV {i:Nat}:U P L N n0 (.blk i::t) Q .normal e ah=U P L N n0 t Q .normal e ah:=rfl
@[simp] theorem HW {i:Nat}:U P L N n0 (.blk i::t) Q .ret e ah=U P L N n0 t Q .ret e ah:=rfl
@[simp] theorem HX {i j:Nat}:U P L N n0 (.blk i::t) Q (.exit j) e ah=if j=i then U P L N n0 t Q .normal e ah else U P L N n0 t Q (.exit j) e ah:=rfl
@[simp] theorem Ew {c:aq}:U P L N n0 (.code c::t) Q .ret e ah=U P L N n0 t Q .ret e ah:=by cases c<;>rfl
@[simp] theorem Ex {c:aq} {j:Nat}:U P L N n0 (.code c::t) Q (.exit j) e ah=U P L N n0 t Q (.exit j) e ah:=by cases c<;>rfl
@[simp] theorem Be:U P L N n0 (.ops []::t) Q .normal e ah=U P L N n0 t Q .normal e ah:=rfl
@[simp] theorem NN {o:az} {r:List az}:U P L N n0 (.ops (o::r)::t) Q .normal e ah=UG P L N n0 o r t Q e ah (c6 e o):=by
  simp only [U,ck]
  cases c6 e o with
  |none=>rfl
  |some b=>
   cases b with
   |false=>rfl
   |true=>
    obtain ⟨d,op,g⟩:=o
    cases op with
    |call f zq=>
     simp only [o5,UG]
     cases ev e f with
     |fn f' caps=>
      simp only [UF,UK]
      by_cases hf:bz caps=true
      · simp only [hf,if_true,true_and];rfl
      · simp [hf]
     |_=>rfl
    |fD k b x y=>rfl
    |nq n x=>rfl
    |_=>
     simp only [o5,UG,US]
     cases aO L ⟨d,_,g⟩ e ah with
     |none=>rfl
     |some ea=>obtain ⟨e',aj⟩:=ea;rfl
@[simp] theorem HY {r:List az} {e':Env} {aj:AH}:US P L N n0 r t Q (some (e',aj))=U P L N n0 (.ops r::t) Q .normal e' aj:=rfl
@[simp] theorem Ey {o:az} {r:List az}:UG P L N n0 o r t Q e ah (some false)=U P L N n0 (.ops r::t) Q .normal (iL e o.d) ah:=rfl
@[simp] theorem HZ {a b:aq}:UC P L N n0 a b t Q e ah (.bool true)=U P L N n0 (.code a::t) Q .normal e ah:=rfl
@[simp] theorem Ez {a b:aq}:UC P L N n0 a b t Q e ah (.bool false)=U P L N n0 (.code b::t) Q .normal e ah:=rfl
@[simp] theorem NO {zq:List Ar} {d:Option Nat} {r:List az} {f:Nat} {caps:List AV}:UF P L N n0 zq d r t Q e ah (.fn f caps)=
 if bz caps then UK P L N n0 f (zq.map (fun x=>(ev e x).sh)++caps.map AV.s1) d r t Q e ah else False:=rfl
theorem PV {a b:aq} {v:Bool} (h1:v=true→U P L N n0 (.code a::t) Q .normal e ah) (h2:v=false→U P L N n0 (.code b::t) Q .normal e ah):UC P L N n0 a b t Q e ah (.bool v):=by
 cases v
 · exact h2 rfl
 · exact h1 rfl
theorem TD {f:Nat} {zq:List AV} {d:Option Nat} {r:List az} {R:AV→AH→Prop} (h:av P f zq ah R) (hk:∀v aj,R v aj→U P L N n0 (.ops r::t) Q .normal (ak L (mJ e) d v.df) aj):
 UK P L N n0 f zq d r t Q e ah:=h.mono hk
theorem QB {c:aq} (I:Nat→Env→AH→Prop) {k0:Nat} (ho:jo N c=true)
 (round:∀k e ah,I k e ah→U P L N n0 [.code c] (fun x e' aj=>match x with| .normal=>∃k',k'<k∧I k' e' aj|x=>U P L N n0 t Q x e' aj) .normal e ah) (h0:I k0 e ah):
 UX P L N n0 (.loop c) t Q e ah:=by
 intro c'
 induction c' with
 |loop c0 _=>
  intro aZ
  simp only [aP,Option.map_eq_some_iff] at aZ
  obtain ⟨a,ha,he⟩:=aZ
  injection he with he
  subst he
  exact AW.loop I (fun k e ah hI=>iB c0 a _ e ah (by rw [eA c0 a ha];exact ha) (by rw [eA c0 a ha];exact ho) (round k e ah hI)) h0
 |scope c0 ih=>exact fun aZ=>AW.scope (ih aZ)
 |region id ops draw=>intro aZ;simp only [aP] at aZ;repeat' (split at aZ)<;>simp at aZ
 |block i c0=>intro aZ;simp only [aP,Option.map_eq_some_iff] at aZ;obtain ⟨a, -,h⟩:=aZ;cases h
 |seq a b=>intro aZ;simp only [aP] at aZ;split at aZ<;>simp at aZ
 |cond a b c=>intro aZ;simp only [aP] at aZ;split at aZ<;>simp at aZ
 |_=>intro aZ;simp [aP] at aZ
end
end Go.Am
end
section
namespace Go.Am
open Go
variable [Tabs]
def AV.cr:AV→Bool
 | .aL _=>true
 |_=>false
def c8 (P:Program) (e:Env) (ah:AH):List ResultVar→Option (List AV)
 |[]=>some []
 | .tmp t::r=>if (get e t).cr then none else match c8 P e ah r with
   |some vs=>some (get e t::vs)
   |none=>none
 | .cell a ty::r=>if tok P ty then
  match get e a with
  | .ptr s o=>match ah[s]? with
    |some cs=>match fE (tn P ty) s o cs,c8 P e ah r with
     |some v,some vs=>some (v.sh::vs)
     |_,_=>none
    |none=>none
  |_=>none
   else none
def fin:List AV→AV
 |[a]=>a.df
 |l=> .aL (l.map AV.sh)
inductive Cl (n:Nat):AV→Prop
 |ptr (s o):s<n→Cl n (.ptr s o)
 |fn (f cs):(∀a∈cs,Cl n a)→Cl n (.fn f cs)
 |agg (cs):(∀a∈cs,Cl n a)→Cl n (.agg cs)
 |aL (cs):(∀a∈cs,Cl n a)→Cl n (.aL cs)
 |v (x):Cl n (.v x)
 |int (k i):Cl n (.int k i)
 |bool (b):Cl n (.bool b)
 |str (l):Cl n (.str l)
 |sl (t k xs):Cl n (.sl t k xs)
 |ep (e o):Cl n (.ep e o)
 |bD (s k o m):s<n→Cl n (.bD s k o m)
 |jy (s k):Cl n (.bf s k 0 0)
 |bf (s k m c):s<n→Cl n (.bf s k m c)
 |bZ:Cl n .bZ
 |un:Cl n .un
@[simp] theorem Li {n s k o m:Nat}:Cl n (.bD s k o m)↔s<n:=⟨fun h=>by cases h;assumption, .bD _ _ _ _⟩
@[simp] theorem SN {n:Nat}:Cl n .bZ:= .bZ
@[simp] theorem Lj {n s o:Nat}:Cl n (.ptr s o)↔s<n:=⟨fun h=>by cases h;assumption, .ptr _ _⟩
@[simp] theorem NP {n f:Nat} {cs:List AV}:Cl n (.fn f cs)↔∀a∈cs,Cl n a:=⟨fun h=>by cases h;assumption, .fn _ _⟩
@[simp] theorem Ll {n:Nat} {cs:List AV}:Cl n (.agg cs)↔∀a∈cs,Cl n a:=⟨fun h=>by cases h;assumption, .agg _⟩
@[simp] theorem Lm {n:Nat} {cs:List AV}:Cl n (.aL cs)↔∀a∈cs,Cl n a:=⟨fun h=>by cases h;assumption, .aL _⟩
@[simp] theorem UW {n:Nat} {x:Value}:Cl n (.v x):= .v _
@[simp] theorem SO {n:Nat} {k:IntKind} {i:Int}:Cl n (.int k i):= .int ..
@[simp] theorem QC {n:Nat} {b:Bool}:Cl n (.bool b):= .bool _
@[simp] theorem SP {n:Nat} {l:List UInt8}:Cl n (.str l):= .str _
@[simp] theorem TE {n:Nat} {t:Tg} {k:Nat} {xs:List AV}:Cl n (.sl t k xs):= .sl ..
@[simp] theorem TF {n:Nat} {e:AV} {o:Nat}:Cl n (.ep e o):= .ep ..
@[simp] theorem UY {n:Nat}:Cl n .un:= .un
def fO (n:Nat) (ah:AH):Prop:=∀(s:Nat) (cs:List AV),ah[s]? =some cs→∀a∈cs,Cl n a
def Bg (P:Program) (n:Nat) (rs:List ResultVar) (R:AV→AH→Prop) (x:Exit) (e:Env) (ah:AH):Prop:=
 (x= .normal∨x= .ret)∧match c8 P e ah rs with
  |some vs=>Cl n (fin vs)∧fO n (ah.take n)∧n≤ah.length∧R (fin vs) (ah.take n)
  |none=>False
section
variable {P:Program} {L:List Nat} {N n0:Nat} {F:Nat→Prop} {γ:List Nat} {C C':Nat→List Value} {e:Env} {ah:AH} {ts:Array Value} {w w':World}
theorem VR.take {a:AV} {v:Value} {n:Nat} (h:VR C γ a v):Cl n a→VR C (γ.take n) a v:=by
 induction h with
 |v _ _ hs=>intro _;exact .v _ _ hs
 |un=>intro _;exact .un ..
 |int=>intro _;exact .int ..
 |bool=>intro _;exact .bool ..
 |str=>intro _;exact .str ..
 |ptr _ s o b hb=>intro hn;exact .ptr _ _ _ _ (by rw [List.getElem?_take_of_lt (Lj.1 hn)];exact hb)
 |bD _ s k o n b c hb hn'=>intro hn;exact .bD _ _ _ _ _ _ _ (by rw [List.getElem?_take_of_lt (Li.1 hn)];exact hb) hn'
 |jy=>intro _;exact .jy ..
 |bf _ s k n b c hb hn'=>
  intro hn
  cases hn with
  |jy=>exact .jy ..
  |bf _ _ _ _ hs=>exact .bf _ _ _ _ _ _ (by rw [List.getElem?_take_of_lt hs];exact hb) hn'
 |bZ=>intro _;exact .bZ ..
 |jN=>intro _;exact .jN ..
 |sl _ _ _ _ b o n c hn' hc hk hl ho hx=>intro _;exact .sl _ _ _ _ _ _ _ _ hn' hc hk hl ho hx
 |ep _ _ _ b p hl hx=>intro _;exact .ep _ _ _ _ _ hl hx
 |agg _ cs vs hl hx ih=>intro hn;exact .agg _ _ _ hl fun i a hi=>ih i a hi (Ll.1 hn a (List.mem_of_getElem? hi))
 |aL _ cs vs hl hx ih=>intro hn;exact .aL _ _ _ hl fun i a hi=>ih i a hi (Lm.1 hn a (List.mem_of_getElem? hi))
 |fn _ f cs vs hl hx ih=>intro hn;exact .fn _ _ _ _ hl fun i a hi=>ih i a hi (NP.1 hn a (List.mem_of_getElem? hi))
theorem VR.cl {a:AV} {v:Value} (h:VR C γ a v):Cl γ.length a:=by
 have mem:∀ {cs:List AV} {a:AV},a∈cs→∃i:Nat,cs[i]? =some a:=fun ha=>by
  obtain ⟨i,hi,rfl⟩:=List.getElem_of_mem ha;exact ⟨i,List.getElem?_eq_getElem hi⟩
 induction h with
 |ptr _ s o b hb=>exact .ptr _ _ (List.getElem?_eq_some_iff.1 hb).1
 |agg _ cs vs hl hx ih=>exact .agg _ fun a ha=>by obtain ⟨i,hi⟩:=mem ha;exact ih i a hi
 |aL _ cs vs hl hx ih=>exact .aL _ fun a ha=>by obtain ⟨i,hi⟩:=mem ha;exact ih i a hi
 |fn _ f cs vs hl hx ih=>exact .fn _ _ fun a ha=>by obtain ⟨i,hi⟩:=mem ha;exact ih i a hi
 |bD _ s k o n b c hb _=>exact .bD _ _ _ _ (List.getElem?_eq_some_iff.1 hb).1
 |jy=>exact .jy ..
 |bf _ s k n b c hb _=>exact .bf _ _ _ _ (List.getElem?_eq_some_iff.1 hb).1
 |bZ=>exact .bZ
 |v=>exact .v _
 |un=>exact .un
 |int=>exact .int ..
 |bool=>exact .bool _
 |str=>exact .str _
 |jN=>exact .sl ..
 |sl=>exact .sl ..
 |ep=>exact .ep ..
theorem Bh (h:SR L N F γ C e ah ts w) {a s o:Nat} {ty:TypeId} (ht:tok P ty=true) (hp:get e a= .ptr s o) {cs:List AV} (hs:ah[s]? =some cs) {v:AV} (hl:fE (tn P ty) s o cs=some v):
 ∃u ad,ts.getD a undef= .pointer (some ad)∧(loadVar ty ad).run P w= .ok u w∧VR C γ v.sh u∧TC w C v.sh u:=by
 have hv:=(h.env a).1
 rw [hp] at hv
 obtain ⟨b,hb,hv⟩:=hv.dW
 obtain ⟨vs,tv,hh,hsz,hcell⟩:=h.mem.obj s b cs hs hb
 have mB:=bY hh
 cases hn:tn P ty with
 |some n=>
  simp only [hn,fE] at hl
  split at hl
  case isFalse=>cases hl
  rename_i hq
  obtain ⟨hq,hfl⟩:=hq
  injection hl with hl
  subst hl
  obtain ⟨r,hr,hrs,hrc⟩:=(run_load (w:=w) ht (b:=b) (o:=o)).1 n hn (fun j hj=>by
   rw [mB];exact ⟨_,Array.getElem?_eq_getElem (by omega)⟩)
  obtain rfl:r=vs.extract o (o+n):=by
   apply Array.ext_getElem?
   intro j
   by_cases hj:j<n
   · rw [hrc j hj,mB,Array.getElem?_extract,if_pos (by omega)]
   · rw [Array.getElem?_eq_none (by omega),Array.getElem?_eq_none (by simp;omega)]
  refine ⟨_,_,hv,hr, ?_, ?_⟩
  · exact (Wk.sh _).vr ((Wk.gU _ Wk.aS _).vr (sQ hsz (fun i a hi=>(hcell i a hi).1) hq))
  · exact (Wk.sh _).tc ((Wk.gU _ Wk.aS _).tc (mA hsz (fun i a hi hin=>oR (hcell _ a hi).2 (ey hfl (i:=i) (by rw [List.getElem?_take_of_lt hin,List.getElem?_drop];exact hi))) hq))
 |none=>
  simp only [hn,fE] at hl
  have mC:∀c,cs[o]? =some c→w.cell? ⟨b,o,none⟩=some (vs.getD o undef):=by
   intro c gV
   have hlt:o<vs.size:=Nat.lt_of_lt_of_le (List.getElem?_eq_some_iff.1 gV).1 hsz
   rw [mB];simp [Array.getD_eq_getD_getElem?,Array.getElem?_eq_getElem hlt]
  split at hl
  · rename_i k xs gV
    injection hl with hl
    subst hl
    have hr:=(run_load (w:=w) ht (b:=b) (o:=o)).2 _ hn (mC _ gV)
    exact ⟨_,_,hv,hr,(hcell o _ gV).1.eG _,by simp only [AV.sh,AV.aS,Tg.sh];cases (vs.getD o undef)<;>trivial⟩
  · rename_i c hno gV
    split at hl
    case isFalse=>cases hl
    rename_i hfl
    injection hl with hl
    subst hl
    have hr:=(run_load (w:=w) ht (b:=b) (o:=o)).2 _ hn (mC _ gV)
    refine ⟨_,_,hv,hr, ?_, ?_⟩
    · exact (Wk.sh _).vr ((Wk.eZ (Wk.aS c)).vr (hcell o _ gV).1)
    · exact (Wk.sh _).tc (sC (oR (hcell o _ gV).2 hfl))
  · cases hl
theorem Ln (h:SR L N F γ C e ah ts w):∀(rs:List ResultVar) (vs:List AV),c8 P e ah rs=some vs→
 ∃us:List Value,(rs.mapM fun| .tmp t=>pure (ts.getD t undef)| .cell a t=>do loadVar t (←asAddr (ts.getD a undef)):Sem (List Value)).run P w= .ok us w∧us.length=vs.length∧
  (∀(i:Nat) (a:AV),vs[i]? =some a→VR C γ a (us.getD i undef)∧TC w C a (us.getD i undef))∧
  (∀(i:Nat) (a:AV) (b:Nat),vs[i]? =some a→aV a (us.getD i undef)=some b→∃t,blk γ e ah ts w (.tmp t) b)∧∀(i:Nat) (a:AV),vs[i]? =some a→a.cr=false:=by
 intro rs
 induction rs with
 |nil=>intro vs hr;simp [c8] at hr;subst hr;exact ⟨[],rfl,rfl,by simp,by simp,by simp⟩
 |cons r rs ih=>
  intro vs hr
  cases r with
  |tmp t=>
   simp only [c8] at hr
   split at hr
   case isTrue=>cases hr
   rename_i hnt
   split at hr
   case h_2=>cases hr
   rename_i vs' hvs
   injection hr with hr
   subst hr
   obtain ⟨us,h1,h2,h3,h4,h5⟩:=ih vs' hvs
   refine ⟨ts.getD t undef::us, ?_,by simp [h2],fun i a hi=> ?_,fun i a b hi hb=> ?_,fun i a hi=>by
    cases i with
    |zero=>simp at hi;subst hi;simpa using hnt
    |succ i=>exact h5 i a (by simpa using hi)⟩
   · simp only [List.mapM_cons,Sem.run_bind,Sem.run_pure,Result.andThen_ok,h1]
   · cases i with
     |zero=>simp at hi;subst hi;exact h.env t
     |succ i=>exact h3 i a (by simpa using hi)
   · cases i with
     |zero=>simp at hi;subst hi;exact ⟨t,hb⟩
     |succ i=>exact h4 i a b (by simpa using hi) hb
  |cell a ty=>
   simp only [c8] at hr
   split at hr
   case isFalse=>cases hr
   rename_i ht
   split at hr
   case h_2=>cases hr
   rename_i s o hp
   split at hr
   case h_2=>cases hr
   rename_i cs hs
   split at hr
   case h_2=>cases hr
   rename_i v vs' hv hvs
   injection hr with hr
   subst hr
   obtain ⟨us,h1,h2,h3,h4,h5⟩:=ih vs' hvs
   obtain ⟨u,ad,g1,g2,g3,g4⟩:=Bh (P:=P) h ht hp hs hv
   have hnt:v.sh.cr=false:=by
    unfold fE at hv
    split at hv
    · split at hv<;>simp at hv;subst hv;rfl
    · split at hv
      · injection hv with hv;subst hv;rfl
      · split at hv<;>simp at hv
        rename_i c _ _ hf
        subst hv
        cases c<;>first|rfl|cases hf
      · cases hv
   refine ⟨u::us, ?_,by simp [h2],fun i a hi=> ?_,fun i a b hi hb=> ?_,fun i a hi=>by
    cases i with
    |zero=>simp at hi;subst hi;exact hnt
    |succ i=>exact h5 i a (by simpa using hi)⟩
   · have hA:(asAddr (ts.getD a undef)).run P w= .ok ad w:=by rw [g1];rfl
     simp only [List.mapM_cons,Sem.run_bind,hA,Sem.run_pure,Result.andThen_ok,g2,h1]
   · cases i with
     |zero=>simp at hi;subst hi;exact ⟨g3,g4⟩
     |succ i=>exact h3 i a (by simpa using hi)
   · cases i with
     |zero=>simp at hi;subst hi;rw [dL _ (dy (kA v))] at hb;cases hb
     |succ i=>exact h4 i a b (by simpa using hi) hb
def MV (P:Program) (n0:Nat) (rs:List ResultVar) (R:AV→AH→Prop) (x:Exit) (e:Env) (ah:AH):Prop:=
 (∃m,n0≤m∧Bg P m rs R x e ah)∨((x= .normal∨x= .ret)∧match c8 P e ah rs with
  |some vs=>R (fin vs) ah
  |none=>False)
theorem av.Dz {f:Nat} {fn:Func} {c:Code} {ac:aq} {args:List AV} {R:AV→AH→Prop} (L:List Nat) (hf:P.funcs[f]? =some fn) (hname:fn.name≠ "runtime.NumGoroutine") (hb:fn.body=some c)
 (hc:aP P c=some ac) (ho:jo fn.ntmps ac=true) (hN:args.length≤fn.ntmps)
 (h:fO ah.length ah→(∀a∈args,∀s o,a= .ptr s o→s<ah.length)→AX P L fn.ntmps ah.length ac (MV P ah.length fn.results.toList R) (cx 0 args) ah):av P f args ah R:=by
 refine ⟨by simp [ez,hf,hb,hname],fun F γ C w vs hs=> ?_⟩
 have hlen:=hs.mem.len
 have hcl:fO ah.length ah:=by
  intro s cs y9
  have hlt:s<γ.length:=by rw [hlen];exact (List.getElem?_eq_some_iff.1 y9).1
  obtain ⟨us,ty, -,hsz,hcell⟩:=hs.mem.obj s _ cs y9 (List.getElem?_eq_getElem hlt)
  intro a ha
  obtain ⟨i,hi,rfl⟩:=List.getElem_of_mem ha
  rw [←hlen]
  exact (hcell i _ (List.getElem?_eq_getElem hi)).1.cl
 have hargs:∀a∈args,∀s o,a= .ptr s o→s<ah.length:=by
  intro a ha s o he
  obtain ⟨i,hi,rfl⟩:=List.getElem_of_mem ha
  have:=(hs.env i).1
  rw [cq] at this
  simp only [Nat.zero_le,if_true,Nat.sub_zero,List.getElem?_eq_getElem hi,Option.getD_some,he] at this
  obtain ⟨b,hb, -⟩:=this.dW
  rw [←hlen];exact (List.getElem?_eq_some_iff.1 hb).1
 have hU:=h hcl hargs
 have hW:AW P L fn.ntmps ah.length c (MV P ah.length fn.results.toList R) (cx 0 args) ah:=hU c hc
 have hvs:vs.size=args.length:=hs.sz
 have hs2:SR L fn.ntmps F γ C (cx 0 args) ah (vs++Array.replicate (fn.ntmps - vs.size) undef) w:=by
  have hg:∀t,t<vs.size→(vs++Array.replicate (fn.ntmps - vs.size) undef).getD t undef=vs.getD t undef:=by
   intro t ht;simp [Array.getD_eq_getD_getElem?,Array.getElem?_append,ht]
  have hx:∀t,¬t<vs.size→get (cx 0 args) t= .un:=by
   intro t ht;rw [cq];simp only [Nat.zero_le,if_true,Nat.sub_zero];rw [List.getElem?_eq_none (by omega)];rfl
  have hbk:∀p b,blk γ (cx 0 args) ah (vs++Array.replicate (fn.ntmps - vs.size) undef) w p b→blk γ (cx 0 args) ah vs w p b:=by
   intro p b hp
   cases p with
   |obj s=>exact hp
   |cell s i=>exact hp
   |tmp t=>
    by_cases ht:t<vs.size
    · simp only [blk,hg t ht] at hp ⊢;exact hp
    · simp only [blk,hx t ht,aV] at hp;cases hp
  refine ⟨hs.mem,by simp;omega,fun t=> ?_,fun p q b hp hq=>hs.cj p q b (hbk p b hp) (hbk q b hq),fun p b hp=>hs.nf p b (hbk p b hp),hs.fz,fun t l k xs htl=> ?_⟩
  · by_cases ht:t<vs.size
    · rw [hg t ht];exact hs.env t
    · rw [hx t ht];exact ⟨.un ..,by generalize (vs++Array.replicate (fn.ntmps - vs.size) undef).getD t undef=v;cases v<;>trivial⟩
  · by_cases ht:t<vs.size
    · have:=hs.fr t l k xs htl
      cases l with
      |tmp u=>have:=this.1;simp at this
      |cell s o=>intro cs a b h1 h2 h3 h4;rw [hg t ht];exact this cs a b h1 h2 h3 h4
    · rw [hx t ht] at htl;cases htl
 refine calls_of_wp hf hb (wp_mono (hW F γ C _ w hs2 (by omega)) ?_)
 rintro x ⟨ts',ds'⟩ w' ⟨rfl, -,e',aj,γ',C',NQ,hγ,hs',QD⟩
 have hx:x= .normal∨x= .ret:=by
  rcases NQ with ⟨m, -,h, -⟩|⟨h, -⟩<;>exact h
 obtain ⟨mM,AY⟩:∃mM,c8 P e' aj fn.results.toList=some mM:=by
  rcases NQ with ⟨m, -, -,h⟩|⟨-,h⟩
  · split at h
    · rename_i vs hv;exact ⟨vs,hv⟩
    · exact h.elim
  · split at h
    · rename_i vs hv;exact ⟨vs,hv⟩
    · exact h.elim
 obtain ⟨us,u1,u2,u3,u4,u5⟩:=Ln (P:=P) hs' _ _ AY
 have hres:(results fn ts').run P w'= .ok (if us.length=1 then us.getD 0 undef else .tuple us.toArray) w':=by
  unfold results
  rw [Array.mapM_eq_mapM_toList,map_eq_pure_bind]
  simp only [Sem.run_bind,Sem.run_pure]
  refine (congrArg (fun r=>Result.andThen (Result.andThen r fun (a:List Value) w'=> .ok a.toArray w') fun (a:Array Value) w'=> .ok (if h:a.size=1 then a[0] else Value.tuple a) w') u1).trans ?_
  simp only [Result.andThen_ok]
  by_cases h1:us.length=1
  · rw [if_pos h1]
    have:us.toArray.size=1:=by simpa using h1
    rw [dif_pos this]
    simp [List.getD_eq_getElem?_getD,h1]
  · rw [if_neg h1]
    have:¬us.toArray.size=1:=by simpa using h1
    rw [dif_neg this]
 generalize hv:(if us.length=1 then us.getD 0 undef else .tuple us.toArray)=v at hres
 have rE:VR C' γ' (fin mM) v∧TC w' C' (fin mM) v∧(∀b,aV (fin mM) v=some b→∃t,blk γ' e' aj ts' w' (.tmp t) b)∧∀l k xs,fin mM≠ .sl (.fr l) k xs:=by
  by_cases h1:us.length=1
  · rw [if_pos h1] at hv
    obtain ⟨a,rfl⟩:∃a,mM=[a]:=by
     cases mM with
     |nil=>rw [h1] at u2;simp at u2
     |cons a r=>cases r with
      |nil=>exact ⟨a,rfl⟩
      |cons b r=>rw [h1] at u2;simp at u2
    have h3:=u3 0 a rfl
    rw [hv] at h3
    refine ⟨(Wk.df a).vr h3.1,(Wk.df a).tc h3.2,fun b hb=>u4 0 a b rfl ?_,fun l k xs=>AS a l k xs⟩
    rw [hv];exact (Wk.df a).own hb
  · rw [if_neg h1] at hv
    have hf:fin mM= .aL (mM.map AV.sh):=by
     cases mM with
     |nil=>rfl
     |cons a r=>cases r with
      |nil=>exact absurd (by simpa using u2) h1
      |cons b r=>rfl
    rw [hf]
    subst hv
    refine ⟨.aL _ _ _ (by simp [u2]) fun i a hi=> ?_,fun i a hi=> ?_,fun b hb=>by simp [aV] at hb,by simp⟩
    · rw [List.getElem?_map] at hi
      cases hq:mM[i]? with
      |none=>rw [hq] at hi;simp at hi
      |some y=>
       rw [hq] at hi
       obtain rfl:y.sh=a:=by simpa using hi
       have:=(Wk.sh y).vr (u3 i y hq).1
       rwa [←dz]
    · rw [List.getElem?_map] at hi
      cases hq:mM[i]? with
      |none=>rw [hq] at hi;simp at hi
      |some y=>
       rw [hq] at hi
       obtain rfl:y.sh=a:=by simpa using hi
       have h3:=(Wk.sh y).tc (u3 i y hq).2
       have h4:=(Wk.sh y).vr (u3 i y hq).1
       rw [←dz]
       show vZ y.sh (us.getD i undef)
       have h5:y.sh.cr=false:=by have:=u5 i y hq;cases y<;>first|rfl|cases this
       generalize us.getD i undef=u at h3 h4
       generalize hz:y.sh=z at h3 h4 h5
       cases z with
       |agg cs=>obtain ⟨vs,rfl, -⟩:=h4.gr;exact h3
       |aL cs=>cases h5
       |sl t k xs=>cases t<;>cases u<;>first|trivial|exact h3|(exfalso;cases y<;>simp [AV.sh,AV.aS] at hz;done)|skip
       |_=>cases u<;>trivial
 obtain ⟨m,hm,hrc,QE,UZ,TG⟩:∃m,ah.length≤m∧Cl m (fin mM)∧fO m (aj.take m)∧m≤aj.length∧R (fin mM) (aj.take m):=by
  rcases NQ with ⟨m,hm, -,h⟩|⟨-,h⟩
  · rw [AY] at h
    exact ⟨m,hm,h⟩
  · rw [AY] at h
    have hl:aj.take aj.length=aj:=List.take_length
    refine ⟨aj.length, ?_, ?_, ?_,Nat.le_refl _,by rw [hl];exact h⟩
    · rw [←hs'.mem.len]
      have:=hγ.length_le
      rw [←hlen,List.take_length] at this
      omega
    · rw [←hs'.mem.len];exact rE.1.cl
    · rw [hl]
      intro s cs y9
      have hlt:s<γ'.length:=by rw [hs'.mem.len];exact (List.getElem?_eq_some_iff.1 y9).1
      obtain ⟨us',ty', -,U0,sE⟩:=hs'.mem.obj s _ cs y9 (List.getElem?_eq_getElem hlt)
      intro a ha
      obtain ⟨i,hi,rfl⟩:=List.getElem_of_mem ha
      rw [←hs'.mem.len]
      exact (sE i _ (List.getElem?_eq_getElem hi)).1.cl
 have hm0:ah.length≤m:=hm
 have hlen':=hs'.mem.len
 have hpre:γ <+: γ'.take m:=by
  rw [←hlen,List.take_length] at hγ
  obtain ⟨q,rfl⟩:=hγ
  rw [List.take_append]
  rw [List.take_of_length_le (l:=γ) (i:=m) (by omega)]
  exact List.prefix_append _ _
 have TH:bodyPost P fn (fun en w'=>∃r v aj γ' C',en= .returned v∧R r aj∧γ <+: γ'∧SR [] 1 F γ' C' [(0,r)] aj #[v] w'∧Ext F C w C' w') x ⟨ts',[]⟩ w':=by
  have key:∃v',(results fn ts').run P w'= .ok v' w'∧∃r v aj γ' C',Ending.returned v'= .returned v∧R r aj∧γ <+: γ'∧SR [] 1 F γ' C' [(0,r)] aj #[v] w'∧Ext F C w C' w':=by
   refine ⟨v,hres,fin mM,v,aj.take m,γ'.take m,C',rfl,TG,hpre, ?_,QD⟩
   have hgt:∀(s b:Nat),(γ'.take m)[s]? =some b→γ'[s]? =some b∧s<m:=by
    intro s b hsb
    by_cases rP:s<m
    · rw [List.getElem?_take_of_lt rP] at hsb;exact ⟨hsb,rP⟩
    · rw [List.getElem?_eq_none (by simp;omega)] at hsb;cases hsb
   have tr:∀(s:Nat) (cs:List AV),(aj.take m)[s]? =some cs→aj[s]? =some cs:=by
    intro s cs hsb
    by_cases rP:s<m
    · rwa [List.getElem?_take_of_lt rP] at hsb
    · rw [List.getElem?_eq_none (by simp;omega)] at hsb;cases hsb
   have hbk:∀p b,blk (γ'.take m) [(0,fin mM)] (aj.take m) #[v] w' p b→(∃t,p= .tmp 0∧blk γ' e' aj ts' w' (.tmp t) b)∨((∀t,p≠ .tmp t)∧blk γ' e' aj ts' w' p b):=by
    intro p b hp
    cases p with
    |obj s=>exact .inr ⟨by simp,(hgt s b hp).1⟩
    |cell s i=>
     obtain ⟨cs,a,b0,g1,g2,g3,g4⟩:=hp
     exact .inr ⟨by simp,cs,a,b0,tr s cs g1,g2,(hgt s b0 g3).1,g4⟩
    |tmp t=>
     simp only [blk,get] at hp
     by_cases ht:0=t
     · subst ht
       simp only [if_true] at hp
       obtain ⟨t,ht⟩:=rE.2.2.1 b hp
       exact .inl ⟨t,rfl,ht⟩
     · rw [if_neg ht] at hp;simp [aV] at hp
   refine ⟨⟨by simp [hlen'],fun s b cs g1 g2=> ?_,hs'.mem.mz,fun s b cs g1 g0 hsb=>hs'.mem.lG s b cs (tr s cs g1) g0 (hgt s b hsb).1,fun s b cs us ty fr g1 hsb hh=>hs'.mem.sN s b cs us ty fr (tr s cs g1) (hgt s b hsb).1 hh⟩,rfl,fun t=> ?_,fun p q b hp hq=> ?_,fun p b hp=> ?_,hs'.fz,fun t l k xs htl=> ?_⟩
   · obtain ⟨vs,ty,q1,q2,q3⟩:=hs'.mem.obj s b cs (tr s cs g1) (hgt s b g2).1
     exact ⟨vs,ty,q1,q2,fun i a hi=>⟨(q3 i a hi).1.take (QE s cs g1 a (List.mem_of_getElem? hi)),(q3 i a hi).2⟩⟩
   · by_cases ht:0=t
     · subst ht
       simp only [get,if_true]
       exact ⟨rE.1.take hrc,rE.2.1⟩
     · simp only [get,if_neg ht]
       exact ⟨.un ..,by generalize (#[v]:Array Value).getD t undef=u;cases u<;>trivial⟩
   · rcases hbk p b hp with ⟨t,rfl,h1⟩|⟨h1,h2⟩<;>rcases hbk q b hq with ⟨u,rfl,h3⟩|⟨h3,h4⟩
     · rfl
     · exact absurd (hs'.cj _ _ b h1 h4) (fun e=>h3 t e.symm)
     · exact absurd (hs'.cj _ _ b h2 h3) (h1 u)
     · exact hs'.cj p q b h2 h4
   · rcases hbk p b hp with ⟨t,rfl,h1⟩|⟨h1,h2⟩
     · exact hs'.nf _ b h1
     · exact hs'.nf p b h2
   · by_cases ht:0=t
     · subst ht
       simp only [get,if_true] at htl
       exact absurd htl (rE.2.2.2 l k xs)
     · simp only [get,if_neg ht] at htl;cases htl
  rcases hx with rfl|rfl
  · exact ⟨rfl,key⟩
  · exact ⟨rfl,key⟩
 exact TH
theorem AX.up {c:aq} {Q Q':Exit→Env→AH→Prop} {e:Env} {ah:AH} {n0:Nat} (h:AX P L N n0 c Q e ah) (hq:∀x e ah,Q x e ah→Q' x e ah):AX P L N n0 c Q' e ah:=fun c' aZ=>(h c' aZ).mono hq
theorem av.enter {f:Nat} {fn:Func} {c:Code} {ac:aq} {args:List AV} {R:AV→AH→Prop} (L:List Nat) (m:Nat) (hf:P.funcs[f]? =some fn) (hname:fn.name≠ "runtime.NumGoroutine") (hb:fn.body=some c)
 (hc:aP P c=some ac) (ho:jo fn.ntmps ac=true) (hN:args.length≤fn.ntmps) (hm:ah.length≤m)
 (h:fO ah.length ah→(∀a∈args,∀s o,a= .ptr s o→s<ah.length)→U P L fn.ntmps ah.length [.code ac] (Bg P m fn.results.toList R) .normal (cx 0 args) ah):av P f args ah R:=
 av.Dz L hf hname hb hc ho hN fun h1 h2=>AX.up (fun c' aZ=>iB c' ac _ _ _ (by rw [eA c ac hc];exact aZ) (by rw [eA c ac hc];exact ho) (h h1 h2)) fun x e H hR=> .inl ⟨m,hm,hR⟩
end
end Go.Am
end
section
namespace Go.Am
open Go
variable [Tabs]
def bB (P:Program) (f N:Nat) (rs:List ResultVar) (ac:aq):Prop:=
 ∃fn c,P.funcs[f]? =some fn∧fn.name≠ "runtime.NumGoroutine" ∧fn.body=some c∧aP P c=some ac∧fn.ntmps=N∧fn.results.toList=rs
theorem av.go {P:Program} {f N:Nat} {rs:List ResultVar} {ac:aq} (hF:bB P f N rs ac) {args:List AV} {ah:AH} {R:AV→AH→Prop} (L:List Nat) (m:Nat)
 (ho:jo N ac=true) (hN:args.length≤N) (hm:ah.length≤m)
 (h:fO ah.length ah→(∀a∈args,∀s o,a= .ptr s o→s<ah.length)→U P L N ah.length [.code ac] (Bg P m rs R) .normal (cx 0 args) ah):av P f args ah R:=by
 obtain ⟨fn,c,h1,h2,h3,h4,rfl,rfl⟩:=hF
 exact av.enter L m h1 h2 h3 h4 ho hN hm h
section
variable {P:Program} {L:List Nat} {N n0:Nat} {e:Env} {ah:AH} {t:List It} {Q:Exit→Env→AH→Prop} {r:List az} {d:Option Nat} {g:Option (Nat×Bool)}
def NR (want:Bool):AV→Option Bool
 | .bool b=>some (b==want)
 | .aL []=>some false
 |_=>none
theorem Lo {op:cN}:c6 e ⟨d,op,none⟩=some true:=rfl
theorem Lp {op:cN} {x:Nat} {want:Bool}:c6 e ⟨d,op,some (x,want)⟩=NR want (get e x):=by
 simp only [c6]
 cases get e x with
 |aL cs=>cases cs<;>rfl
 |_=>rfl
theorem Lq {want:Bool}:NR want (.aL [])=some false:=rfl
theorem EA {b want:Bool}:NR want (.bool b)=some (b==want):=rfl
theorem QF {x:Ar}:UG P L N n0 ⟨d, .mv x,g⟩ r t Q e ah (some true)=U P L N n0 (It.ops r::t) Q Exit.normal (ak L e d (cp L x (ev e x))) ah:=rfl
def eE (P:Program) (L:List Nat) (N n0:Nat) (e:Env) (ah:AH) (d:Option Nat) (r:List az) (t:List It) (Q:Exit→Env→AH→Prop) (x:Ar):AV→Prop
 | .sl .own k xs=>match x with
   | .t y=>U P L N n0 (.ops r::t) Q .normal (ak L (put e y (.sl .n k xs)) d (.sl .own k xs)) ah
   | .c a=>U P L N n0 (.ops r::t) Q .normal (ak L e d (cp L (.c a) (.sl .own k xs))) ah
 |a=>U P L N n0 (.ops r::t) Q .normal (ak L e d (cp L x a)) ah
theorem NS {x:Ar}:UG P L N n0 ⟨d, .bg x,g⟩ r t Q e ah (some true)=eE P L N n0 e ah d r t Q x (ev e x):=by
 simp only [UG,aO]
 cases h:ev e x with
 |sl tg k xs=>cases tg<;>cases x<;>rfl
 |_=>rfl
def Bi (L:List Nat) (e:Env) (ah:AH) (d:Option Nat) (a b:Ar):AV→Option (Env×AH)
 | .bool t=>some (ak L e d (if t then (ev e a).sh else (ev e b).sh),ah)
 |_=>none
theorem Lr {c a b:Ar}:UG P L N n0 ⟨d, .pick c a b,g⟩ r t Q e ah (some true)=US P L N n0 r t Q (Bi L e ah d a b (ev e c)):=by
 simp only [UG,aO];cases ev e c<;>rfl
theorem H6 {cs:List AV}:UG P L N n0 ⟨d, .alloc cs,g⟩ r t Q e ah (some true)=U P L N n0 (.ops r::t) Q .normal (ak L e d (.ptr ah.length 0)) (ah++[cs]):=rfl
theorem NT {x:Ar}:UG P L N n0 ⟨d, .box x,g⟩ r t Q e ah (some true)=US P L N n0 r t Q (if aY (ev e x).cells then some (ak L e d (.ptr ah.length 0),ah++[(ev e x).cells.map AV.aS]) else none):=rfl
theorem H7 {z:List AV} {ps:List (Nat×Nat×Ar)}:UG P L N n0 ⟨d, .build z ps,g⟩ r t Q e ah (some true)=US P L N n0 r t Q ((fill e z ps).map fun cs=>(ak L e d (.agg cs),ah)):=rfl
theorem NU {k:Nat} {ps:List Ar}:UG P L N n0 ⟨d, .qg k ps,g⟩ r t Q e ah (some true)=US P L N n0 r t Q (if ps.all (fun p=>(ev e p).cells.length=k&&aY (ev e p).cells&&cR (ev e p).cells) then some (ak L e d (.sl .ex k (ps.map fun p=>(ev e p).s0)),ah) else none):=rfl
theorem TI {y:Nat} {bs:List UInt8}:UG P L N n0 ⟨d, .lit y bs,g⟩ r t Q e ah (some true)=U P L N n0 (It.ops r::t) Q Exit.normal (put (ak L e d (.sl .ex 1 (bs.map b8))) y .un) ah:=rfl
def H8 (L:List Nat) (e:Env) (ah:AH) (d:Option Nat):AV→Option (Env×AH)
 | .ptr s p=>some (ak L e d (.ptr s p),ah)
 | .ep a p=>some (ak L e d (.ep a p),ah)
 |_=>none
theorem NV {x:Ar}:UG P L N n0 ⟨d, .Ku x,g⟩ r t Q e ah (some true)=US P L N n0 r t Q (H8 L e ah d (ev e x)):=by
 simp only [UG,aO];cases ev e x<;>rfl
def H9 (L:List Nat) (e:Env) (ah:AH) (d:Option Nat) (q:Nat):AV→Option (Env×AH)
 | .ptr s p=>some (ak L e d (.ptr s (p+q)),ah)
 | .ep a p=>some (ak L e d (.ep a (p+q)),ah)
 |_=>none
theorem NW {x:Ar} {q:Nat}:UG P L N n0 ⟨d, .oh x q,g⟩ r t Q e ah (some true)=US P L N n0 r t Q (H9 L e ah d q (ev e x)):=by
 simp only [UG,aO];cases ev e x<;>rfl
theorem SQ {x:Ar} {q:Nat} {n:Option Nat}:UG P L N n0 ⟨d, .vu x q n,g⟩ r t Q e ah (some true)=US P L N n0 r t Q (aO L ⟨d, .vu x q n,none⟩ e ah):=by simp only [UG,mI L d _ g]
def Ls (L:List Nat) (d:Option Nat) (n:Option Nat) (s p:Nat) (e:Env) (ah:AH):Option (List AV)→Option (Env×AH)
 |some cs=>(fE n s p cs).map fun a=>(ak L e d a,ah)
 |none=>none
def EB (L:List Nat) (d:Option Nat) (e:Env) (ah:AH):Option AV→Option (Env×AH)
 |some c=>if c.flat then some (ak L e d c.s1,ah) else none
 |none=>none
def wB (L:List Nat) (d:Option Nat) (n:Option Nat) (e:Env) (ah:AH):AV→Option (Env×AH)
 | .ptr s p=>Ls L d n s p e ah (ah[s]?)
 | .ep a p=>match n with
   |some n=>if p+n≤a.cells.length∧bz ((a.cells.drop p).take n) then some (ak L e d (.agg (((a.cells.drop p).take n).map AV.s1)),ah) else none
   |none=>EB L d e ah (a.cells[p]?)
 |_=>none
theorem QG {x:Ar} {n:Option Nat}:UG P L N n0 ⟨d, .ld x n,g⟩ r t Q e ah (some true)=US P L N n0 r t Q (wB L d n e ah (ev e x)):=by
 simp only [UG,aO]
 cases ev e x with
 |ptr s p=>simp only [wB,Ls];cases ah[s]? <;>rfl
 |ep a p=>cases n with
  |some n=>rfl
  |none=>simp only [wB,EB];cases a.cells[p]? <;>rfl
 |_=>rfl
def jQ (s o:Nat):Option AV→Option AV
 |some (.sl .own k xs)=>some (.sl (.fr (.cell s o)) k xs)
 |some a=>if a.flat then some a.aS else none
 |none=>none
theorem za {s o:Nat} {cs:List AV}:fE none s o cs=jQ s o (cs[o]?):=by
 simp only [fE,jQ]
 cases cs[o]? with
 |none=>rfl
 |some a=>cases a with
  |sl t k xs=>cases t<;>rfl
  |_=>rfl
theorem zb {n s o:Nat} {cs:List AV}:fE (some n) s o cs=if o+n≤cs.length∧bz ((cs.drop o).take n) then some (.agg (((cs.drop o).take n).map AV.aS)) else none:=rfl
theorem TJ {x:Ar} {n:Option Nat}:UG P L N n0 ⟨d, .yy x n,g⟩ r t Q e ah (some true)=US P L N n0 r t Q (aO L ⟨d, .yy x n,none⟩ e ah):=by simp only [UG,mI L d _ g]
theorem U1 {a x:Ar} {n:Nat}:UG P L N n0 ⟨d, .st a x n,g⟩ r t Q e ah (some true)=US P L N n0 r t Q (aO L ⟨none, .st a x n,none⟩ e ah):=by simp only [UG,aO]
theorem NX {op:BinOp} {x y:Ar}:UG P L N n0 ⟨d, .bin op x y,g⟩ r t Q e ah (some true)=US P L N n0 r t Q ((aI op (ev e x) (ev e y)).map fun a=>(ak L e d a,ah)):=rfl
theorem QH {neq:Bool} {x y:Ar}:UG P L N n0 ⟨d, .bq neq x y,g⟩ r t Q e ah (some true)=US P L N n0 r t Q ((AN (ev e x) (ev e y)).map fun b=>(ak L e d (.bool (if neq then !b else b)),ah)):=rfl
theorem QI {neq:Bool} {x y:Ar}:UG P L N n0 ⟨d, .pq neq x y,g⟩ r t Q e ah (some true)=US P L N n0 r t Q ((AO (ev e x) (ev e y)).map fun b=>(ak L e d (.bool (if neq then !b else b)),ah)):=rfl
def MW (L:List Nat) (e:Env) (ah:AH) (d:Option Nat) (ks:List Pk) (neq:Bool):AV→AV→Option (Env×AH)
 | .agg zq, .agg bs=>(bl ks zq bs).map fun b=>(ak L e d (.bool (if neq then !b else b)),ah)
 |_,_=>none
theorem NY {ks:List Pk} {neq:Bool} {x y:Ar}:UG P L N n0 ⟨d, .seq ks neq x y,g⟩ r t Q e ah (some true)=US P L N n0 r t Q (MW L e ah d ks neq (ev e x) (ev e y)):=by
 simp only [UG,aO];cases ev e x<;>cases ev e y<;>rfl
theorem QJ {op:UnOp} {x:Ar}:UG P L N n0 ⟨d, .un op x,g⟩ r t Q e ah (some true)=US P L N n0 r t Q ((AQ op (ev e x)).map fun a=>(ak L e d a,ah)):=rfl
def DA (L:List Nat) (e:Env) (ah:AH) (d:Option Nat) (p n:Nat) (cs:List AV):Option (Env×AH):=
 if p+n≤cs.length then (bytesOf ((cs.drop p).take n)).map fun l=>(ak L e d (.str l),ah) else none
def Ia (L:List Nat) (e:Env) (ah:AH) (d:Option Nat) (p n:Nat):Option (List AV)→Option (Env×AH)
 |some cs=>DA L e ah d p n cs
 |none=>none
def tu (L:List Nat) (e:Env) (ah:AH) (d:Option Nat) (h:Cv):AV→Option (Env×AH)
 | .bD s k p n=>match h with
   | .bs=>if k=1 then Ia L e ah d p n (ah[s]?) else none
   |h=>(cA h (.bD s k p n)).map fun a=>(ak L e d a,ah)
 |a=>(cA h a).map fun a=>(ak L e d a,ah)
theorem NZ {h:Cv} {x:Ar}:UG P L N n0 ⟨d, .fC h x,g⟩ r t Q e ah (some true)=US P L N n0 r t Q (tu L e ah d h (ev e x)):=by
 simp only [UG,aO]
 congr 1
 cases ev e x with
 |bD s k p n=>
  cases h with
  |bs=>
   simp only [tu]
   split
   · cases ah[s]? <;>rfl
   · rfl
  |_=>rfl
 |_=>cases h<;>rfl
theorem Lt {x:Ar}:UG P L N n0 ⟨d, .vv x,g⟩ r t Q e ah (some true)=US P L N n0 r t Q ((cA .bs (ev e x)).map fun a=>(ak L e d a,ah)):=rfl
def Ib (L:List Nat) (e:Env) (ah:AH) (d:Option Nat):AV→Option (Env×AH)
 | .str l=>some (ak L e d (.bD ah.length 1 0 l.length),ah++[l.map b8])
 |_=>none
theorem Lu {x:Ar}:UG P L N n0 ⟨d, .ko x,g⟩ r t Q e ah (some true)=US P L N n0 r t Q (Ib L e ah d (ev e x)):=by
 simp only [UG,aO];cases ev e x<;>rfl
theorem QK {neq:Bool} {x y:Ar}:UG P L N n0 ⟨d, .iq neq x y,g⟩ r t Q e ah (some true)=US P L N n0 r t Q ((AP (ev e x) (ev e y)).map fun b=>(ak L e d (.bool (if neq then !b else b)),ah)):=rfl
theorem QL {mx:Bool} {x y:Ar}:UG P L N n0 ⟨d, .mm mx x y,g⟩ r t Q e ah (some true)=US P L N n0 r t Q ((yz mx (ev e x) (ev e y)).map fun a=>(ak L e d a,ah)):=rfl
theorem N0 {f:Nat} {cs:List Ar}:UG P L N n0 ⟨d, .Kv f cs,g⟩ r t Q e ah (some true)=U P L N n0 (It.ops r::t) Q Exit.normal (ak L e d (.fn f (cs.map (ev e)))) ah:=rfl
def lH:AV→Option Nat
 | .int _ i=>if 0≤i then some i.toNat else none
 |_=>none
theorem TK {dflt:Nat}:fN e dflt none=some dflt:=rfl
theorem Ic {dflt:Nat} {x:Ar}:fN e dflt (some x)=lH (ev e x):=by
 simp only [fN];cases ev e x<;>rfl
def DB (L:List Nat) (e:Env) (ah:AH) (d:Option Nat) (l:List UInt8):Option Nat→Option Nat→Option (Env×AH)
 |some i,some j=>if i≤j∧j≤l.length then some (ak L e d (.str ((l.take j).drop i)),ah) else none
 |_,_=>none
def DC (L:List Nat) (e:Env) (ah:AH) (d:Option Nat) (lo hi:Option Ar):AV→Option (Env×AH)
 | .str l=>DB L e ah d l (fN e 0 lo) (fN e l.length hi)
 |_=>none
theorem N1 {x:Ar} {lo hi:Option Ar}:UG P L N n0 ⟨d, .AM x lo hi,g⟩ r t Q e ah (some true)=US P L N n0 r t Q (DC L e ah d lo hi (ev e x)):=by
 simp only [UG,aO]
 cases ev e x with
 |str l=>simp only [DC,DB];cases fN e 0 lo<;>cases fN e l.length hi<;>rfl
 |_=>rfl
def DD (L:List Nat) (e:Env) (ah:AH) (d:Option Nat) (k k':Nat) (xs:List AV):Option Nat→Option Nat→Option (Env×AH)
 |some i,some j=>if k'=k∧i≤j∧j≤xs.length then some (ak L e d (.sl .n k ((xs.take j).drop i)),ah) else none
 |_,_=>none
def DE (L:List Nat) (e:Env) (ah:AH) (d:Option Nat) (k:Nat) (lo hi:Option Ar):AV→Option (Env×AH)
 | .sl _ k' xs=>DD L e ah d k k' xs (fN e 0 lo) (fN e xs.length hi)
 |_=>none
theorem N2 {k:Nat} {x:Ar} {lo hi:Option Ar}:UG P L N n0 ⟨d, .slc k x lo hi none,g⟩ r t Q e ah (some true)=US P L N n0 r t Q (DE L e ah d k lo hi (ev e x)):=by
 simp only [UG,aO]
 cases ev e x with
 |sl t k' xs=>simp only [DE,DD];cases fN e 0 lo<;>cases fN e xs.length hi<;>rfl
 |_=>rfl
def wC (L:List Nat) (e:Env) (ah:AH) (d:Option Nat) (k k':Nat) (xs:List AV):Option Nat→Option Nat→Option Nat→Option (Env×AH)
 |some i,some j,some m=>if k'=k∧i≤j∧j=m∧m≤xs.length then some (ak L e d (.sl .ex k ((xs.take j).drop i)),ah) else none
 |_,_,_=>none
def wD (L:List Nat) (e:Env) (ah:AH) (d:Option Nat) (k:Nat) (lo:Option Ar) (hi m:Ar):AV→Option (Env×AH)
 | .sl _ k' xs=>wC L e ah d k k' xs (fN e 0 lo) (fN e xs.length (some hi)) (fN e 0 (some m))
 |_=>none
theorem Lv {k:Nat} {x:Ar} {lo:Option Ar} {hi m:Ar}:UG P L N n0 ⟨d, .slc k x lo (some hi) (some m),g⟩ r t Q e ah (some true)=US P L N n0 r t Q (wD L e ah d k lo hi m (ev e x)):=by
 simp only [UG,aO]
 cases ev e x with
 |sl t k' xs=>
  simp only [wD,wC]
  cases fN e 0 lo with
  |none=>rfl
  |some i=>
   cases fN e xs.length (some hi) with
   |none=>rfl
   |some j=>
    simp only [Option.isNone_some,Bool.false_eq_true,if_false]
    cases fN e 0 (some m)<;>rfl
 |_=>rfl
def DF (L:List Nat) (e:Env) (ah:AH) (d:Option Nat) (k k':Nat):Option AV→Option (Env×AH)
 |some a=>if k'=k then some (ak L e d (.ep a 0),ah) else none
 |none=>none
def o7 (L:List Nat) (e:Env) (ah:AH) (d:Option Nat) (k:Nat):AV→AV→Option (Env×AH)
 | .sl _ k' xs, .int _ i=>if 0≤i then DF L e ah d k k' (xs[i.toNat]?) else none
 | .bD s k' p n, .int _ i=>if 0≤i∧i<n∧k'=k then some (ak L e d (.ptr s (p+i.toNat*k)),ah) else none
 | .bf s k' n _, .int _ i=>if 0≤i∧i<n∧k'=k then some (ak L e d (.ptr s (i.toNat*k)),ah) else none
 |_,_=>none
def zd (L:List Nat) (e:Env) (ah:AH) (d:Option Nat) (k m:Nat):AV→AV→Option (Env×AH)
 | .ptr s p, .int _ i=>if 0≤i∧i<m then some (ak L e d (.ptr s (p+i.toNat*k)),ah) else none
 | .ep a p, .int _ i=>if 0≤i∧i<m then some (ak L e d (.ep a (p+i.toNat*k)),ah) else none
 |_,_=>none
theorem N3 {k m:Nat} {x i:Ar}:UG P L N n0 ⟨d, .G2 k m x i,g⟩ r t Q e ah (some true)=US P L N n0 r t Q (zd L e ah d k m (ev e x) (ev e i)):=by
 simp only [UG,aO]
 cases ev e x with
 |ptr s p=>cases ev e i<;>rfl
 |ep a p=>cases ev e i<;>rfl
 |_=>cases ev e i<;>rfl
def DG (L:List Nat) (e:Env) (ah:AH) (d:Option Nat) (u k:Nat) (xs:List AV):AV→Option (Env×AH)
 | .sl .own k2 zs=>if k2=k then some (ak L (put e u (.sl .n k2 zs)) d (.sl .own k xs),ah) else none
 |_=>none
def ze (L:List Nat) (e:Env) (ah:AH) (d:Option Nat) (k:Nat):AV→Option (Env×AH)
 | .sl .ex k' []=>if k'=k then some (ak L e d (.bf 0 k 0 0),ah) else none
 | .bf s k' n c=>some (ak L e d (.bf s k' n c),ah)
 | .sl (.fr (.tmp u)) k' xs=>DG L e ah d u k' xs (get e u)
 |_=>none
theorem N4 {k:Nat} {x:Ar}:UG P L N n0 ⟨d, .om k x,g⟩ r t Q e ah (some true)=US P L N n0 r t Q (ze L e ah d k (ev e x)):=by
 simp only [UG,aO]
 cases ev e x with
 |sl t k' xs=>cases t<;>cases xs<;>rfl
 |_=>rfl
theorem N5 {k:Nat} {x i:Ar}:UG P L N n0 ⟨d, .iD k x i,g⟩ r t Q e ah (some true)=US P L N n0 r t Q (o7 L e ah d k (ev e x) (ev e i)):=by
 simp only [UG,aO]
 cases ev e x with
 |sl t k' xs=>cases ev e i with
  |int ki n=>simp only [o7,DF];cases xs[n.toNat]? <;>rfl
  |_=>rfl
 |bD s k' p n=>cases ev e i<;>rfl
 |bf s k' n c=>cases ev e i<;>rfl
 |_=>cases ev e i<;>rfl
def Ie (L:List Nat) (e:Env) (ah:AH) (d:Option Nat):Option UInt8→Option (Env×AH)
 |some c=>some (ak L e d (b8 c),ah)
 |none=>none
def zf (L:List Nat) (e:Env) (ah:AH) (d:Option Nat):AV→AV→Option (Env×AH)
 | .str l, .int _ i=>if 0≤i then Ie L e ah d (l[i.toNat]?) else none
 |_,_=>none
theorem N6 {x i:Ar}:UG P L N n0 ⟨d, .ixs x i,g⟩ r t Q e ah (some true)=US P L N n0 r t Q (zf L e ah d (ev e x) (ev e i)):=by
 simp only [UG,aO]
 cases ev e x with
 |str l=>cases ev e i with
  |int ki n=>simp only [zf,Ie];cases l[n.toNat]? <;>rfl
  |_=>rfl
 |_=>cases ev e i<;>rfl
theorem SS {l:List UInt8} {i j:Nat}:DB L e ah d l (some i) (some j)=if i≤j∧j≤l.length then some (ak L e d (.str ((l.take j).drop i)),ah) else none:=rfl
theorem SU {k k' i j:Nat} {xs:List AV}:DD L e ah d k k' xs (some i) (some j)=if k'=k∧i≤j∧j≤xs.length then some (ak L e d (.sl .n k ((xs.take j).drop i)),ah) else none:=rfl
theorem QM {k k' i j m:Nat} {xs:List AV}:wC L e ah d k k' xs (some i) (some j) (some m)=if k'=k∧i≤j∧j=m∧m≤xs.length then some (ak L e d (.sl .ex k ((xs.take j).drop i)),ah) else none:=rfl
theorem SV {k k':Nat} {a:AV}:DF L e ah d k k' (some a)=if k'=k then some (ak L e d (.ep a 0),ah) else none:=rfl
theorem SW {c:UInt8}:Ie L e ah d (some c)=some (ak L e d (b8 c),ah):=rfl
theorem N7 {n:Option Nat} {s p:Nat} {cs:List AV}:Ls L d n s p e ah (some cs)=(fE n s p cs).map fun a=>(ak L e d a,ah):=rfl
theorem N8 {c:AV}:EB L d e ah (some c)=if c.flat then some (ak L e d c.s1,ah) else none:=rfl
theorem SX {α:Type} {c:Prop} [Decidable c] {x:Option α} (h:c):(if c then x else none)=x:=by rw [if_pos h]
theorem QN {α:Type} {c:Prop} [Decidable c] {x:Option α} (h:¬c):(if c then none else x)=x:=by rw [if_neg h]
theorem TL {x:Ar} {i:Nat}:UG P L N n0 ⟨d, .ext x i,g⟩ r t Q e ah (some true)=US P L N n0 r t Q (aO L ⟨d, .ext x i,none⟩ e ah):=by simp only [UG,mI L d _ g]
theorem TM {x:Ar}:UG P L N n0 ⟨d, .len x,g⟩ r t Q e ah (some true)=US P L N n0 r t Q (aO L ⟨d, .len x,none⟩ e ah):=by simp only [UG,mI L d _ g]
theorem SY {x:Ar}:UG P L N n0 ⟨d, .lens x,g⟩ r t Q e ah (some true)=US P L N n0 r t Q (aO L ⟨d, .lens x,none⟩ e ah):=by simp only [UG,mI L d _ g]
def Ig (L:List Nat) (e:Env) (ah:AH) (d:Option Nat) (k b:Nat) (x:Ar):AV→Option (Env×AH)
 | .sl _ k' ys=>if k'=k then nY L e ah d k b x ys else none
 |_=>none
theorem N9 {k b:Nat} {x y:Ar}:UG P L N n0 ⟨d, .app k b x y,g⟩ r t Q e ah (some true)=US P L N n0 r t Q (Ig L e ah d k b x (ev e y)):=by
 simp only [UG,aO];cases ev e y<;>rfl
def Ih (L:List Nat) (e:Env) (ah:AH) (d:Option Nat) (b:Nat) (x:Ar):AV→Option (Env×AH)
 | .str l=>nY L e ah d 1 b x (l.map b8)
 |_=>none
theorem Lw {b:Nat} {x y:Ar}:UG P L N n0 ⟨d, .apps b x y,g⟩ r t Q e ah (some true)=US P L N n0 r t Q (Ih L e ah d b x (ev e y)):=by
 simp only [UG,aO];cases ev e y<;>rfl
theorem Lx {f:Ar} {zq:List Ar}:UG P L N n0 ⟨d, .call f zq,g⟩ r t Q e ah (some true)=UF P L N n0 zq d r t Q e ah (ev e f):=rfl
theorem QO {o:az} {b:Bool}:UG P L N n0 o r t Q e ah (some b)=if b then (UG P L N n0 o r t Q e ah (some true)) else U P L N n0 (.ops r::t) Q .normal (iL e o.d) ah:=by
 cases b<;>rfl
theorem PW {o:az} {b:Bool} (h1:b=true→UG P L N n0 o r t Q e ah (some true)) (h2:b=false→U P L N n0 (.ops r::t) Q .normal (iL e o.d) ah):UG P L N n0 o r t Q e ah (some b):=by
 cases b
 · exact h2 rfl
 · exact h1 rfl
end
end Go.Am
namespace Go.Am
open Go
variable [Tabs]
theorem fO.set {n:Nat} {ah:AH} (h:fO n ah) {s:Nat} {cs:List AV} (hc:∀a∈cs,Cl n a):fO n (ah.set s cs):=by
 intro t ds ht a ha
 rw [List.getElem?_set] at ht
 split at ht
 · split at ht
   · injection ht with ht;subst ht;exact hc a ha
   · cases ht
 · exact h t ds ht a ha
theorem Bg.old {P:Program} {n:Nat} {rs:List ResultVar} {R:AV→AH→Prop} {x:Exit} {e:Env} {ah:AH} {vs:List AV} (hx:x= .normal∨x= .ret) (hr:c8 P e ah rs=some vs)
 (hc:Cl n (fin vs)) (hh:fO n ah) (hn:ah.length=n) (h:R (fin vs) ah):Bg P n rs R x e ah:=by
 refine ⟨hx, ?_⟩
 rw [hr]
 have:ah.take n=ah:=List.take_of_length_le (by omega)
 simp only [this]
 exact ⟨hc,hh,by omega,h⟩
theorem Vq {n:Int} (h1: -9223372036854775808≤n) (h2:n≤9223372036854775807):IntKind.wrap .i64 n=n:=by
 simp only [IntKind.wrap,IntKind.bits,IntKind.signed,Bool.true_and,decide_eq_true_eq,Int.reducePow,Nat.reduceSub,ge_iff_le]
 split<;>omega
theorem w8 {n:Int} (h1:0≤n) (h2:n≤255):IntKind.wrap .u8 n=n:=by
 simp only [IntKind.wrap,IntKind.bits,IntKind.signed,Bool.false_and,if_false,Bool.false_eq_true]
 omega
theorem MX {j:Nat}:((j:Int)+1).toNat=j+1:=by omega
theorem TN {P:Program} {L:List Nat} {N n0:Nat} {t:List It} {Q:Exit→Env→AH→Prop} {r:List az} {c:Prop} [Decidable c] {x:Option (Env×AH)} (h:c):
 US P L N n0 r t Q (if c then x else none)=US P L N n0 r t Q x:=by rw [if_pos h]
theorem map_if {α β:Type} {f:α→β} {c:Prop} [Decidable c] {x:Option α} (h:c):Option.map f (if c then x else none)=Option.map f x:=by rw [if_pos h]
theorem zg {L:List Nat} {d:Option Nat} {k b:Nat} {x y:Ar} {e:Env} {ah:AH} {K K':Env→AH→Prop} (h:iE L d k b x y e ah K) (hk:∀e ah,K e ah→K' e ah):iE L d k b x y e ah K':=by
 unfold iE at h ⊢
 split at h
 · obtain ⟨h1,h2,h3,h4,h5,h6⟩:=h
   refine ⟨h1,h2,h3,h4,h5, ?_⟩
   rcases h6 with ⟨g1,g2,g3⟩|⟨cs,g1,g2,g3,g4,g5,g6,g7⟩
   · exact .inl ⟨g1,g2,fun c hc=>hk _ _ (g3 c hc)⟩
   · exact .inr ⟨cs,g1,g2,g3,g4,g5,fun h=>hk _ _ (g6 h),fun h c hc=>hk _ _ (g7 h c hc)⟩
 · exact h
theorem EC {L:List Nat} {d:Option Nat} {n:Bool} {x:Ar} {e:Env} {ah:AH} {K K':Env→AH→Prop} (h:sJ L d n x e ah K) (hk:∀e ah,K e ah→K' e ah):sJ L d n x e ah K':=by
 unfold sJ at h ⊢
 split at h
 · exact ⟨fun h0 b=>hk _ _ (h.1 h0 b),fun h0=>hk _ _ (h.2 h0)⟩
 · exact h
theorem Bj {P:Program} {L:List Nat}:∀(l:List az) {K K':Env→AH→Prop} {e:Env} {ah:AH},ck P L l e ah K→(∀e ah,K e ah→K' e ah)→ck P L l e ah K':=by
 intro l
 induction l with
 |nil=>intro K K' e ah h hk;exact hk _ _ h
 |cons o r ih=>
  intro K K' e ah h hk
  simp only [ck] at h ⊢
  split at h
  · rename_i hg
    obtain ⟨d,op,g⟩:=o
    cases op with
    |call f zq=>
     simp only [o5] at h ⊢
     split at h
     · exact ⟨h.1,h.2.mono fun v aj h=>ih h hk⟩
     · exact h
    |fD k b x y=>
     have h':iE L d k b x y e ah (fun e ah=>ck P L r e ah K):=h
     exact zg h' fun e ah h=>ih h hk
    |nq n x=>
     have h':sJ L d n x e ah (fun e ah=>ck P L r e ah K):=h
     exact EC h' fun e ah h=>ih h hk
    |_=>
     simp only [o5] at h ⊢
     split at h
     · exact ih h hk
     · exact h
  · exact ih h hk
  · exact h
theorem zh {P:Program} {L:List Nat} {N n0:Nat}:∀(c:aq) {Q Q':Exit→Env→AH→Prop} {e:Env} {ah:AH},eH P L N n0 c Q e ah→(∀x e ah,Q x e ah→Q' x e ah)→eH P L N n0 c Q' e ah:=by
 intro c
 induction c with
 |skip=>intro Q Q' e ah h hq;exact hq _ _ _ h
 |ret=>intro Q Q' e ah h hq;exact hq _ _ _ h
 |exit i=>intro Q Q' e ah h hq;exact hq _ _ _ h
 |rg ops=>intro Q Q' e ah h hq;exact Bj ops h fun e ah h=>hq _ _ _ h
 |seq a b tj tq=>
  intro Q Q' e ah h hq
  refine tj h fun x e ah h=> ?_
  cases x with
  |normal=>exact tq h hq
  |_=>exact hq _ _ _ h
 |cond c a b tj tq=>
  intro Q Q' e ah h hq
  simp only [eH] at h ⊢
  split at h
  · split at h
    · rename_i h1;rw [if_pos h1];exact tj h hq
    · rename_i h1;rw [if_neg h1];exact tq h hq
  · exact h.elim
 |blk i c ih=>
  intro Q Q' e ah h hq
  refine ih h fun x e ah h=> ?_
  cases x with
  |exit j=>
   simp only at h ⊢
   split at h
   · rename_i h1;rw [if_pos h1];exact hq _ _ _ h
   · rename_i h1;rw [if_neg h1];exact hq _ _ _ h
  |_=>exact hq _ _ _ h
 |loop c ih=>
  intro Q Q' e ah h hq
  exact fun c' aZ=>(h c' aZ).mono hq
 |sem c ih=>
  intro Q Q' e ah h hq
  exact fun c' aZ=>(h c' aZ).mono hq
theorem Ly {P:Program} {L:List Nat} {N n0:Nat} {c:aq} {Q Q':Exit→Env→AH→Prop} {e:Env} {ah:AH} (h:U P L N n0 [.code c] Q .normal e ah) (hq:∀x e ah,Q x e ah→Q' x e ah):U P L N n0 [.code c] Q' .normal e ah:=
 zh c h hq
theorem Ii {e e2:Env} (h:∀p∈e2,p.2= .un∨Am.get e p.1=p.2∨∃t k xs,Am.get e p.1= .sl t k xs∧p.2= .sl .n k xs):∀t,Wk (Am.get e t) (Am.get e2 t):=by
 intro t
 have key:∀e2:Env,Am.get e2 t= .un∨∃p∈e2,p.1=t∧Am.get e2 t=p.2:=by
  intro e2
  induction e2 with
  |nil=>exact .inl rfl
  |cons p r ih=>
   obtain ⟨i,a⟩:=p
   simp only [Am.get]
   split
   · rename_i h;exact .inr ⟨(i,a),by simp,h,rfl⟩
   · rcases ih with h|⟨p,hp,h1,h2⟩
     · exact .inl h
     · exact .inr ⟨p,List.mem_cons_of_mem _ hp,h1,h2⟩
 rcases key e2 with h0|⟨p,hp,rfl,h2⟩
 · rw [h0];exact .un _
 · rw [h2]
   rcases h p hp with h3|h3|⟨tg,k,xs,h3,h4⟩
   · rw [h3];exact .un _
   · rw [h3];exact .same _
   · rw [h3,h4];exact .n ..
def qq (e e2:Env):Prop:=∀p∈e2,p.2= .un∨Am.get e p.1=p.2∨∃t k xs,Am.get e p.1= .sl t k xs∧p.2= .sl .n k xs
theorem ED {P:Program} {L:List Nat} {N n0:Nat} {e:Env} {ah:AH} {t:List It} {Q:Exit→Env→AH→Prop} {c:aq} (J:Nat→Env→AH→Prop) (k0:Nat) (e0:Env) (ho:jo N c=true)
 (hw:∀p∈e0,p.2= .un∨Am.get e p.1=p.2∨∃t k xs,Am.get e p.1= .sl t k xs∧p.2= .sl .n k xs) (h0:J k0 e0 ah)
 (round:∀k e ah,J k e ah→U P L N n0 [.code c] (fun x e' aj=>match x with
  | .normal=>∃k' e2,k'<k∧(∀p∈e2,p.2= .un∨Am.get e' p.1=p.2∨∃t k xs,Am.get e' p.1= .sl t k xs∧p.2= .sl .n k xs)∧J k' e2 aj
  |x=>U P L N n0 t Q x e' aj) .normal e ah):
 UX P L N n0 (.loop c) t Q e ah:=by
 intro c'
 induction c' with
 |loop c0 _=>
  intro aZ
  simp only [aP,Option.map_eq_some_iff] at aZ
  obtain ⟨a,ha,he⟩:=aZ
  injection he with he
  subst he
  refine AW.loop (fun k e ah=>∃e1,(∀t,Wk (Am.get e t) (Am.get e1 t))∧J k e1 ah) (k0:=k0) ?_ ⟨e0,Ii hw,h0⟩
  rintro k e ah ⟨e1,hw1,hJ⟩
  refine AW.weak hw1 (iB c0 a _ e1 ah (by rw [eA c0 a ha];exact ha) (by rw [eA c0 a ha];exact ho) ?_)
  have:=round k e1 ah hJ
  refine Ly this fun x e' aj h=> ?_
  cases x with
  |normal=>obtain ⟨k',e2,h1,h2,h3⟩:=h;exact ⟨k',h1,e2,Ii h2,h3⟩
  |_=>exact h
 |scope c0 ih=>exact fun aZ=>AW.scope (ih aZ)
 |region id ops draw=>intro aZ;simp only [aP] at aZ;repeat' (split at aZ)<;>simp at aZ
 |block i c0=>intro aZ;simp only [aP,Option.map_eq_some_iff] at aZ;obtain ⟨a, -,h⟩:=aZ;cases h
 |seq a b=>intro aZ;simp only [aP] at aZ;split at aZ<;>simp at aZ
 |cond a b c=>intro aZ;simp only [aP] at aZ;split at aZ<;>simp at aZ
 |_=>intro aZ;simp [aP] at aZ
theorem PX {P:Program} {L:List Nat} {N n0:Nat} {e:Env} {ah:AH} {t:List It} {Q:Exit→Env→AH→Prop} {c:aq} (J:Nat→Env→AH→Prop) (k0:Nat) (e0:Env) (ho:jo N c=true)
 (hw:qq e e0) (h0:J k0 e0 ah)
 (round:∀(K:Exit→Env→AH→Prop) k e ah,J k e ah→(∀k' e' e2 aj,k'<k→qq e' e2→J k' e2 aj→K .normal e' aj)→(∀e' aj,U P L N n0 t Q .ret e' aj→K .ret e' aj)→
  (∀i e' aj,U P L N n0 t Q (.exit i) e' aj→K (.exit i) e' aj)→U P L N n0 [.code c] K .normal e ah):UX P L N n0 (.loop c) t Q e ah:=
 ED J k0 e0 ho hw h0 fun k e ah hJ=>round _ k e ah hJ (fun k' e' e2 aj h1 h2 h3=>⟨k',e2,h1,h2,h3⟩) (fun _ _ h=>h) (fun _ _ _ h=>h)
theorem qq.nil {e:Env}:qq e []:=by intro p hp;cases hp
theorem qq.same {e r:Env} {i:Nat} {a:AV} (h:Am.get e i=a) (hr:qq e r):qq e ((i,a)::r):=by
 intro p hp
 rcases List.mem_cons.1 hp with rfl|hp
 · exact .inr (.inl h)
 · exact hr p hp
theorem qq.un {e r:Env} {i:Nat} (hr:qq e r):qq e ((i, .un)::r):=by
 intro p hp
 rcases List.mem_cons.1 hp with rfl|hp
 · exact .inl rfl
 · exact hr p hp
theorem qq.sl {e r:Env} {i k:Nat} {tg:Tg} {xs:List AV} (h:Am.get e i= .sl tg k xs) (hr:qq e r):qq e ((i, .sl .n k xs)::r):=by
 intro p hp
 rcases List.mem_cons.1 hp with rfl|hp
 · exact .inr (.inr ⟨_,_,_,h,rfl⟩)
 · exact hr p hp
theorem av.weak {P:Program} {f:Nat} {args args':List AV} {ah:AH} {R:AV→AH→Prop} (hl:args'.length=args.length) (hw:∀(i:Nat) (a a':AV),args[i]? =some a→args'[i]? =some a'→Wk a a') (h:av P f args' ah R):
 av P f args ah R:=by
 refine ⟨h.1,fun F γ C w vs hs=>h.2 F γ C w vs ?_⟩
 rw [hl]
 refine hs.wk fun t=> ?_
 rw [cq,cq]
 simp only [Nat.zero_le,if_true,Nat.sub_zero]
 cases h1:args[t]? with
 |none=>
  have:args'[t]? =none:=by
   rw [List.getElem?_eq_none_iff] at h1 ⊢
   omega
  rw [this];exact .same _
 |some a=>
  have hlt:t<args'.length:=by rw [hl];exact (List.getElem?_eq_some_iff.1 h1).1
  rw [List.getElem?_eq_getElem hlt]
  exact hw t a _ h1 (List.getElem?_eq_getElem hlt)
theorem zi:∀l:List UInt8,bytesOf (l.map b8)=some l:=by
 intro l
 induction l with
 |nil=>rfl
 |cons c r ih=>
  simp only [List.map_cons,b8,bytesOf]
  rw [ih]
  simp
theorem EE {ah:AH} {i:Nat} {x:List AV} (h:ah[i]? =some x):ah.set i x=ah:=by
 have hlt:=(List.getElem?_eq_some_iff.1 h).1
 apply List.ext_getElem?
 intro j
 rw [List.getElem?_set]
 split
 · rename_i hj;subst hj;simp only [h,ite_eq_left_iff];try exact fun h0=>absurd hlt h0
 · rfl
theorem Bg.new {P:Program} {n:Nat} {rs:List ResultVar} {R:AV→AH→Prop} {x:Exit} {e:Env} {ah aj:AH} {vs:List AV} (hx:x= .normal∨x= .ret) (hr:c8 P e ah rs=some vs) (ht:ah.take n=aj)
 (hc:Cl n (fin vs)) (hh:fO n aj) (hn:n≤ah.length) (h:R (fin vs) aj):Bg P n rs R x e ah:=by
 refine ⟨hx, ?_⟩
 rw [hr]
 simp only [ht]
 exact ⟨hc,hh,hn,h⟩
theorem qs {P:Program} {e:Env} {ah:AH}:c8 P e ah []=some []:=rfl
theorem nL {P:Program} {e:Env} {ah:AH} {t:Nat} {rs:List ResultVar} {a:AV} {vs:List AV} (h:Am.get e t=a) (ht:a.cr=false) (hr:c8 P e ah rs=some vs):c8 P e ah (.tmp t::rs)=some (a::vs):=by
 subst h
 simp only [c8,ht,hr,Bool.false_eq_true,if_false]
theorem Bk {P:Program} {e:Env} {ah:AH} {a:Nat} {ty:TypeId} {n:Option Nat} {rs:List ResultVar} {s o:Nat} {cs vs:List AV} {v:AV} (ht:tok P ty=true) (hn:tn P ty=n) (h:Am.get e a= .ptr s o) (hs:ah[s]? =some cs)
 (hl:fE n s o cs=some v) (hr:c8 P e ah rs=some vs):c8 P e ah (.cell a ty::rs)=some (v.sh::vs):=by
 subst hn
 simp only [c8,ht,if_true,h,hs,hl,hr]
theorem av.Vr {P:Program} {f:Nat} {args:List AV} {ah:AH} {R R':AV→AH→Prop} (h:av P f args ah R) (hr:∀r aj,R r aj→∃r',Wk r r'∧R' r' aj):av P f args ah R':=by
 refine ⟨h.1,fun F γ C w vs hs=>(h.2 F γ C w vs hs).mono ?_⟩
 rintro en w' ⟨r,v,aj,γ',C',rfl,h1,h2,h3,h4⟩
 obtain ⟨r',g1,g2⟩:=hr r aj h1
 refine ⟨r',v,aj,γ',C',rfl,g2,h2,h3.wk fun t=> ?_,h4⟩
 simp only [Am.get]
 split
 · exact g1
 · exact .same _
theorem Cl.up {n:Nat} {a:AV} (h:Cl n a) {m:Nat} (hm:n≤m):Cl m a:=by
 induction h with
 |ptr s o hs=>exact .ptr _ _ (by omega)
 |fn f cs _ ih=>exact .fn _ _ fun a ha=>ih a ha
 |agg cs _ ih=>exact .agg _ fun a ha=>ih a ha
 |aL cs _ ih=>exact .aL _ fun a ha=>ih a ha
 |v=>exact .v _
 |int=>exact .int ..
 |bool=>exact .bool _
 |str=>exact .str _
 |sl=>exact .sl ..
 |ep=>exact .ep ..
 |bD s k o n hs=>exact .bD _ _ _ _ (by omega)
 |jy=>exact .jy ..
 |bf s k o n hs=>exact .bf _ _ _ _ (by omega)
 |bZ=>exact .bZ
 |un=>exact .un
theorem fO.up {n m:Nat} {ah:AH} (h:fO n ah) (hm:n≤m):fO m ah:=fun s cs hs a ha=>(h s cs hs a ha).up hm
theorem fO.app {n:Nat} {ah kB:AH} (h:fO n ah) (h2:fO n kB):fO n (ah++kB):=by
 intro s cs hs a ha
 rw [List.getElem?_append] at hs
 split at hs
 · exact h s cs hs a ha
 · exact h2 _ cs hs a ha
theorem fO.one {n:Nat} {cs:List AV} (h:∀a∈cs,Cl n a):fO n [cs]:=by
 intro s ds hs a ha
 rcases s with _|s
 · simp at hs;subst hs;exact h a ha
 · simp at hs
end Go.Am
end
section
namespace Go.Am
open Go
variable [Tabs]
def W1 (a a':AV):Prop:=a'=a∨∃t k xs,a= .sl t k xs∧a'= .sl .n k xs
def fP:List AV→List AV→Prop
 |[],[]=>True
 |a::r,a'::r'=>W1 a a'∧fP r r'
 |_,_=>False
theorem fP.len:∀ {cs cs':List AV},fP cs cs'→cs'.length=cs.length:=by
 intro cs
 induction cs with
 |nil=>intro cs' h;cases cs' with|nil=>rfl|cons=>exact h.elim
 |cons a r ih=>intro cs' h;cases cs' with|nil=>exact h.elim|cons a' r'=>simp [ih h.2]
theorem fP.get:∀ {cs cs':List AV},fP cs cs'→∀(i:Nat) (a a':AV),cs[i]? =some a→cs'[i]? =some a'→W1 a a':=by
 intro cs
 induction cs with
 |nil=>intro cs' _ i a a' h;simp at h
 |cons a r ih=>
  intro cs' h i b b' h1 h2
  cases cs' with
  |nil=>exact h.elim
  |cons a' r'=>
   rcases i with _|i
   · simp at h1 h2;subst h1;subst h2;exact h.1
   · exact ih h.2 i b b' (by simpa using h1) (by simpa using h2)
def W2 (a a':AV):Prop:=W1 a a'∨∃ds ds',a= .agg ds∧a'= .agg ds'∧fP ds ds'
def gY:List AV→List AV→Prop
 |[],[]=>True
 |a::r,a'::r'=>W2 a a'∧gY r r'
 |_,_=>False
theorem gY.len:∀ {cs cs':List AV},gY cs cs'→cs'.length=cs.length:=by
 intro cs
 induction cs with
 |nil=>intro cs' h;cases cs' with|nil=>rfl|cons=>exact h.elim
 |cons a r ih=>intro cs' h;cases cs' with|nil=>exact h.elim|cons a' r'=>simp [ih h.2]
theorem gY.get:∀ {cs cs':List AV},gY cs cs'→∀(i:Nat) (a a':AV),cs[i]? =some a→cs'[i]? =some a'→W2 a a':=by
 intro cs
 induction cs with
 |nil=>intro cs' _ i a a' h;simp at h
 |cons a r ih=>
  intro cs' h i b b' h1 h2
  cases cs' with
  |nil=>exact h.elim
  |cons a' r'=>
   rcases i with _|i
   · simp at h1 h2;subst h1;subst h2;exact h.1
   · exact ih h.2 i b b' (by simpa using h1) (by simpa using h2)
theorem W2.wk {a a':AV} (h:W2 a a'):Wk a a':=by
 rcases h with (rfl|⟨t,k,xs,rfl,rfl⟩)|⟨ds,ds',rfl,rfl,h⟩
 · exact .same _
 · exact .n ..
 · exact .agg _ _ h.len h.get
theorem W2.TO {a a':AV} {v:Value} (h:W2 a a') (ht:vZ a v):vZ a' v:=by
 rcases h with (rfl|⟨t,k,xs,rfl,rfl⟩)|⟨ds,ds',rfl,rfl,h⟩
 · exact ht
 · exact G6 ..
 · cases v with
   |agg vs=>
    intro i a' hi
    have hlt:i<ds.length:=by rw [←h.len];exact (List.getElem?_eq_some_iff.1 hi).1
    rcases h.get i _ _ (List.getElem?_eq_getElem hlt) hi with e|⟨t,k,xs,e1,rfl⟩
    · rw [e];exact ht i _ (List.getElem?_eq_getElem hlt)
    · exact v7 ..
   |_=>trivial
inductive Wx:AV→AV→Prop
 |wk (a a'):Wk a a'→(∀l k xs,a'≠ .sl (.fr l) k xs)→Wx a a'
 |own (k xs):Wx (.sl .ex k xs) (.sl .own k xs)
 |DH (cs cs'):gY cs cs'→Wx (.aL cs) (.aL cs')
def mN (cs cs':List AV):Prop:=cs'.length=cs.length∧∀(i:Nat) (a a':AV),cs[i]? =some a→cs'[i]? =some a'→Wx a a'
def dc (ah aj:AH):Prop:=aj.length=ah.length∧∀(s:Nat) (cs':List AV),aj[s]? =some cs'→∃cs,ah[s]? =some cs∧(cs'=cs∨mN cs cs')
def WS (e:Env) (ah:AH) (e1:Env) (aW:AH):Prop:=(∀t,Wx (get e t) (get e1 t))∧dc ah aW
theorem Wx.vr {C:Nat→List Value} {γ:List Nat} {a a':AV} {v:Value} (hw:Wx a a') (h:VR C γ a v):VR C γ a' v:=by
 cases hw with
 |wk _ _ hk=>exact hk.vr h
 |own=>exact h.eG _
 |DH cs cs' hc=>
  obtain ⟨vs,rfl,hs,hv⟩:=h.mu
  refine .aL _ _ _ (by rw [hc.len];exact hs) fun i a' hi=> ?_
  have hlt:i<cs.length:=by rw [←hc.len];exact (List.getElem?_eq_some_iff.1 hi).1
  exact (hc.get i _ _ (List.getElem?_eq_getElem hlt) hi).wk.vr (hv i _ (List.getElem?_eq_getElem hlt))
theorem Wx.tc {w:World} {C:Nat→List Value} {γ:List Nat} {a a':AV} {v:Value} (hw:Wx a a') (hv:VR C γ a v) (h:TC w C a v):TC w C a' v:=by
 cases hw with
 |wk _ _ hk=>exact hk.tc h
 |own k xs=>
  obtain ⟨ad,c,rfl, -⟩:=hv.cz
  exact .inl h
 |DH cs cs' hc=>
  obtain ⟨vs,rfl, -, -⟩:=hv.mu
  intro i a' hi
  have hlt:i<cs.length:=by rw [←hc.len];exact (List.getElem?_eq_some_iff.1 hi).1
  exact (hc.get i _ _ (List.getElem?_eq_getElem hlt) hi).TO (h i _ (List.getElem?_eq_getElem hlt))
theorem Wx.aV {w:World} {C:Nat→List Value} {γ:List Nat} {a a':AV} {v:Value} {b:Nat} (hw:Wx a a') (hv:VR C γ a v) (ht:TC w C a v) (h:aV a' v=some b):Am.aV a v=some b:=by
 cases hw with
 |wk _ _ hk=>exact hk.own h
 |own k xs=>
  obtain ⟨ad,c,rfl, -⟩:=hv.cz
  have hc:c=xs.length:=ht
  subst hc
  cases ad<;>simp [Am.aV] at h
 |DH=>simp [Am.aV] at h
theorem SR.wx {L N F γ C e ah ts w} (h:SR L N F γ C e ah ts w) {e':Env} {aj:AH} (hw:WS e ah e' aj):SR L N F γ C e' aj ts w:=by
 obtain ⟨he,hl,hh⟩:=hw
 have hb:∀p b,blk γ e' aj ts w p b→blk γ e ah ts w p b:=by
  intro p b hp
  cases p with
  |obj s=>exact hp
  |tmp t=>exact (he t).aV (h.env t).1 (h.env t).2 hp
  |cell s i=>
   obtain ⟨cs',a',b0,h1,h2,h3,h4⟩:=hp
   obtain ⟨cs,g1,g2⟩:=hh s cs' h1
   rcases g2 with rfl|⟨g2,g3⟩
   · exact ⟨_,a',b0,g1,h2,h3,h4⟩
   · have hlt:i<cs.length:=by rw [←g2];exact (List.getElem?_eq_some_iff.1 h2).1
     have h0:cs[i]? =some cs[i]:=List.getElem?_eq_getElem hlt
     refine ⟨cs,cs[i],b0,g1,h0,h3, ?_⟩
     obtain ⟨vs,ty,q1,q2,q3⟩:=h.mem.obj s b0 cs g1 h3
     have hc:(w.cell? ⟨b0,i,none⟩).getD undef=vs.getD i undef:=by
      rw [bY q1];simp [Array.getD_eq_getD_getElem?]
     rw [hc] at h4 ⊢
     exact (g3 i _ _ h0 h2).aV (q3 i _ h0).1 (q3 i _ h0).2 h4
 refine ⟨⟨by rw [h.mem.len,hl],fun s b cs' h1 h2=> ?_,h.mem.mz,fun s b cs' h1 hne h2=> ?_,fun s b cs' us ty fr h1 h2 h3=> ?_⟩,h.sz,fun t=>⟨(he t).vr (h.env t).1,(he t).tc (h.env t).1 (h.env t).2⟩,fun p q b hp hq=>h.cj p q b (hb p b hp) (hb q b hq),
  fun p b hp=>h.nf p b (hb p b hp),h.fz,fun t l k xs ht=> ?_⟩
 · obtain ⟨cs,g1,g2⟩:=hh s cs' h1
   obtain ⟨vs,ty,q1,q2,q3⟩:=h.mem.obj s b cs g1 h2
   rcases g2 with rfl|⟨g2,g3⟩
   · exact ⟨vs,ty,q1,q2,q3⟩
   · refine ⟨vs,ty,q1,by omega,fun i a' hi=> ?_⟩
     have hlt:i<cs.length:=by rw [←g2];exact (List.getElem?_eq_some_iff.1 hi).1
     have h0:cs[i]? =some cs[i]:=List.getElem?_eq_getElem hlt
     exact ⟨(g3 i _ _ h0 hi).vr (q3 i _ h0).1,(g3 i _ _ h0 hi).tc (q3 i _ h0).1 (q3 i _ h0).2⟩
 · obtain ⟨cs,g1,g2⟩:=hh s cs' h1
   refine h.mem.lG s b cs g1 ?_ h2
   rintro rfl
   rcases g2 with rfl|⟨g2, -⟩
   · exact hne rfl
   · exact hne (List.eq_nil_of_length_eq_zero g2)
 · obtain ⟨cs,g1,g2⟩:=hh s cs' h1
   have hl':cs'.length=cs.length:=by
    rcases g2 with rfl|⟨g2, -⟩
    · rfl
    · exact g2
   rw [hl']
   exact h.mem.sN s b cs us ty fr g1 h2 h3
 · exfalso
   have:=he t
   rw [ht] at this
   generalize get e t=a at this
   cases this with
   |wk _ _ _ hn=>exact hn l k xs rfl
theorem dc.refl (ah:AH):dc ah ah:=⟨rfl,fun s cs h=>⟨cs,h, .inl rfl⟩⟩
theorem dc.set {ah:AH} {q:Nat} {cs cs':List AV} (hq:ah[q]? =some cs) (hc:mN cs cs'):dc ah (ah.set q cs'):=by
 refine ⟨by simp,fun s ds hs=> ?_⟩
 rw [List.getElem?_set] at hs
 split at hs
 · rename_i h;subst h
   split at hs
   · injection hs with hs;subst hs;exact ⟨cs,hq, .inr hc⟩
   · cases hs
 · exact ⟨ds,hs, .inl rfl⟩
theorem Wx.un (a:AV):Wx a .un:= .wk _ _ (.un _) (by simp)
theorem Wx.n {t:Tg} {k:Nat} {xs:List AV}:Wx (.sl t k xs) (.sl .n k xs):= .wk _ _ (.n ..) (by simp)
theorem Wx.same {a:AV} (h:∀l k xs,a≠ .sl (.fr l) k xs):Wx a a:= .wk _ _ (.same _) h
theorem Wx.int {k:IntKind} {i:Int}:Wx (.int k i) (.int k i):= .same (by simp)
theorem Wx.b8 {c:UInt8}:Wx (b8 c) (b8 c):= .same (by simp [Am.b8])
theorem Wx.bool {b:Bool}:Wx (.bool b) (.bool b):= .same (by simp)
theorem Wx.str {l:List UInt8}:Wx (.str l) (.str l):= .same (by simp)
theorem Wx.ptr {s o:Nat}:Wx (.ptr s o) (.ptr s o):= .same (by simp)
theorem Wx.v {x:Value}:Wx (.v x) (.v x):= .same (by simp)
theorem Wx.fn {f:Nat} {cs:List AV}:Wx (.fn f cs) (.fn f cs):= .same (by simp)
theorem Wx.ep {a:AV} {o:Nat}:Wx (.ep a o) (.ep a o):= .same (by simp)
theorem Wx.ex {k:Nat} {xs:List AV}:Wx (.sl .ex k xs) (.sl .ex k xs):= .same (by simp)
theorem Wx.nn {k:Nat} {xs:List AV}:Wx (.sl .n k xs) (.sl .n k xs):= .same (by simp)
theorem Wx.oo {k:Nat} {xs:List AV}:Wx (.sl .own k xs) (.sl .own k xs):= .same (by simp)
theorem Wx.agg {cs cs':List AV} (h:fP cs cs'):Wx (.agg cs) (.agg cs'):= .wk _ _ (.agg _ _ h.len h.get) (by simp)
theorem Wx.aL {cs cs':List AV} (h:fP cs cs'):Wx (.aL cs) (.aL cs'):= .wk _ _ (.aL _ _ h.len h.get) (by simp)
theorem Wx.QS {cs cs':List AV} (h:gY cs cs'):Wx (.aL cs) (.aL cs'):= .DH _ _ h
theorem gY.nil:gY [] []:=trivial
theorem gY.same {a:AV} {r r':List AV} (h:gY r r'):gY (a::r) (a::r'):=⟨.inl (.inl rfl),h⟩
theorem gY.n {t:Tg} {k:Nat} {xs:List AV} {r r':List AV} (h:gY r r'):gY (.sl t k xs::r) (.sl .n k xs::r'):=⟨.inl (.inr ⟨_,_,_,rfl,rfl⟩),h⟩
theorem gY.agg {ds ds':List AV} {r r':List AV} (hd:fP ds ds') (h:gY r r'):gY (.agg ds::r) (.agg ds'::r'):=⟨.inr ⟨_,_,rfl,rfl,hd⟩,h⟩
theorem fP.nil:fP [] []:=trivial
theorem fP.same {a:AV} {r r':List AV} (h:fP r r'):fP (a::r) (a::r'):=⟨.inl rfl,h⟩
theorem fP.n {t:Tg} {k:Nat} {xs:List AV} {r r':List AV} (h:fP r r'):fP (.sl t k xs::r) (.sl .n k xs::r'):=⟨.inr ⟨_,_,_,rfl,rfl⟩,h⟩
theorem mN.nil:mN [] []:=⟨rfl,fun i a a' h=>by simp at h⟩
theorem mN.cons {a a':AV} {r r':List AV} (h:Wx a a') (hr:mN r r'):mN (a::r) (a'::r'):=by
 refine ⟨by simp [hr.1],fun i b b' h1 h2=> ?_⟩
 rcases i with _|i
 · simp at h1 h2;subst h1;subst h2;exact h
 · exact hr.2 i b b' (by simpa using h1) (by simpa using h2)
def WE (e e1:Env):Prop:=∀p∈e1,Wx (Am.get e p.1) p.2
theorem WE.nil {e:Env}:WE e []:=by intro p hp;cases hp
theorem WE.cons {e r:Env} {i:Nat} {a:AV} (h:Wx (Am.get e i) a) (hr:WE e r):WE e ((i,a)::r):=by
 intro p hp
 rcases List.mem_cons.1 hp with rfl|hp
 · exact h
 · exact hr p hp
theorem WE.all {e e1:Env} (h:WE e e1):∀t,Wx (Am.get e t) (Am.get e1 t):=by
 intro t
 have key:∀e1:Env,Am.get e1 t= .un∨∃p∈e1,p.1=t∧Am.get e1 t=p.2:=by
  intro e1
  induction e1 with
  |nil=>exact .inl rfl
  |cons p r ih=>
   obtain ⟨i,a⟩:=p
   simp only [Am.get]
   split
   · rename_i h;exact .inr ⟨(i,a),by simp,h,rfl⟩
   · rcases ih with h|⟨p,hp,h1,h2⟩
     · exact .inl h
     · exact .inr ⟨p,List.mem_cons_of_mem _ hp,h1,h2⟩
 rcases key e1 with h0|⟨p,hp,rfl,h2⟩
 · rw [h0];exact Wx.un _
 · rw [h2];exact h p hp
section
variable {P:Program} {L:List Nat} {N n0:Nat} {e:Env} {ah:AH} {t:List It} {Q K:Exit→Env→AH→Prop} {r:List az} {d:Option Nat}
theorem AW.wE {c:Code} {e1:Env} {aW:AH} (hw:WS e ah e1 aW) (h:AW P L N n0 c Q e1 aW):AW P L N n0 c Q e ah:=
 fun F γ C ts w hs hn=>h F γ C ts w (hs.wx hw) hn
theorem AW.closed {c:Code} (h:AW P L N n0 c (fun x e ah=>Q x e ah∨∃e1 aW,WS e ah e1 aW∧Q x e1 aW) e ah):AW P L N n0 c Q e ah:=by
 intro F γ C ts w hs hn
 refine wp_mono (h F γ C ts w hs hn) ?_
 rintro x a w' ⟨hd,hg,e',aj,γ',C',h1,h2,h3,h4⟩
 rcases h1 with h1|⟨e1,aW,hw,h1⟩
 · exact ⟨hd,hg,e',aj,γ',C',h1,h2,h3,h4⟩
 · exact ⟨hd,hg,e1,aW,γ',C',h1,h2,h3.wx hw,h4⟩
theorem AX.weak {c:aq} {e1:Env} {aW:AH} (he:WE e e1) (hh:dc ah aW) (h:AX P L N n0 c Q e1 aW):AX P L N n0 c Q e ah:=
 fun c' aZ=>AW.wE ⟨he.all,hh⟩ (h c' aZ)
theorem AX.mono {c:aq} {Q':Exit→Env→AH→Prop} (h:AX P L N n0 c Q e ah) (hq:∀x e ah,Q x e ah→Q' x e ah):AX P L N n0 c Q' e ah:=
 fun c' aZ=>(h c' aZ).mono hq
theorem AX.go {m c:aq} (hm:erase m=c) (ho:jo N c=true)
 (h:∀K':Exit→Env→AH→Prop,(∀x e ah e1 aW,WE e e1→dc ah aW→K x e1 aW→K' x e ah)→U P L N n0 [.code m] K' .normal e ah):AX P L N n0 c K e ah:=by
 subst hm
 intro c' aZ
 refine AW.closed (iB c' m _ e ah aZ ho (h _ ?_))
 intro x e ah e1 aW h1 h2 h3
 exact .inr ⟨e1,aW,⟨h1.all,h2⟩,h3⟩
theorem Oa {c:aq} (h:AX P L N n0 c (fun x e ah=>U P L N n0 t Q x e ah) e ah):UX P L N n0 c t Q e ah:=h
inductive St (ρ τ σ:Type) where
 |ret (r:ρ)
 |eI (t:τ)
 |cQ (s:σ)
def iter {ρ τ σ:Type} (body:σ→Option (St ρ τ σ)):Nat→σ→Option (ρ⊕τ)
 |0,_=>none
 |n+1,s=>match body s with
  |none=>none
  |some (.ret r)=>some (.inl r)
  |some (.eI t)=>some (.inr t)
  |some (.cQ s')=>iter body n s'
theorem AX.iter {ρ τ σ:Type} {body:σ→Option (St ρ τ σ)} {m c:aq} (hm:erase m=c) (ho:jo N c=true) (J:σ→Env→AH→Prop) {F:Nat} {s0:σ} {o:ρ⊕τ} (hit:Am.iter body F s0=some o) (h0:J s0 e ah)
 (round:∀(K':Exit→Env→AH→Prop) s st e ah,J s e ah→body s=some st→
  (∀s',st= .cQ s'→∀e' aj e1 aW,WE e' e1→dc aj aW→J s' e1 aW→K' .normal e' aj)→
  (∀t,st= .eI t→o= .inr t)→(∀r,st= .ret r→o= .inl r)→
  (∀x e' aj e1 aW,x≠ .normal→WE e' e1→dc aj aW→K x e1 aW→K' x e' aj)→U P L N n0 [.code m] K' .normal e ah):AX P L N n0 (.loop c) K e ah:=by
 subst hm
 intro c'
 induction c' with
 |loop c0 _=>
  intro aZ
  simp only [aP,Option.map_eq_some_iff] at aZ
  obtain ⟨a,ha,he⟩:=aZ
  injection he with he
  subst he
  refine AW.loop (fun k e ah=>∃s e1 aW,WS e ah e1 aW∧J s e1 aW∧Am.iter body k s=some o∨(J s e ah∧Am.iter body k s=some o)) (k0:=F) ?_ ⟨s0,e,ah, .inr ⟨h0,hit⟩⟩
  have main:∀k s e ah,J s e ah→Am.iter body k s=some o→AW P L N n0 c0 (fun x e' aj=>match x with
   | .normal=>∃k',k'<k∧∃s e1 aW,WS e' aj e1 aW∧J s e1 aW∧Am.iter body k' s=some o∨(J s e' aj∧Am.iter body k' s=some o)|x=>K x e' aj) e ah:=by
   intro k s e ah hJ hk
   cases k with
   |zero=>simp [Am.iter] at hk
   |succ k=>
    cases hb:body s with
    |none=>simp [Am.iter,hb] at hk
    |some st=>
     simp only [Am.iter,hb] at hk
     refine AW.closed (iB c0 m _ e ah ha ho (round _ s st e ah hJ hb ?_ ?_ ?_ ?_))
     · rintro s' rfl e' aj e1 aW g1 g2 g3
       exact .inl ⟨k,Nat.lt_succ_self k,s',e1,aW, .inl ⟨⟨g1.all,g2⟩,g3,hk⟩⟩
     · rintro t rfl;simp only [Option.some.injEq] at hk;exact hk.symm
     · rintro r rfl;simp only [Option.some.injEq] at hk;exact hk.symm
     · intro x e' aj e1 aW hx g1 g2 g3
       cases x with
       |normal=>exact absurd rfl hx
       |_=>exact .inr ⟨e1,aW,⟨g1.all,g2⟩,g3⟩
  rintro k e ah ⟨s,e1,aW,⟨hw,hJ,hk⟩|⟨hJ,hk⟩⟩
  · exact AW.wE hw (main k s e1 aW hJ hk)
  · exact main k s e ah hJ hk
 |scope c0 ih=>exact fun aZ=>AW.scope (ih aZ)
 |region id ops draw=>intro aZ;simp only [aP] at aZ;repeat' (split at aZ)<;>simp at aZ
 |block i c0=>intro aZ;simp only [aP,Option.map_eq_some_iff] at aZ;obtain ⟨a, -,h⟩:=aZ;cases h
 |seq a b=>intro aZ;simp only [aP] at aZ;split at aZ<;>simp at aZ
 |cond a b c=>intro aZ;simp only [aP] at aZ;split at aZ<;>simp at aZ
 |_=>intro aZ;simp [aP] at aZ
theorem av.TP {f:Nat} {args:List AV} {ah:AH} {R R':AV→AH→Prop} (h:av P f args ah R) (hr:∀r aj,R r aj→∃r' tA,Wx r r'∧dc aj tA∧R' r' tA):av P f args ah R':=by
 refine ⟨h.1,fun F γ C w vs hs=>(h.2 F γ C w vs hs).mono ?_⟩
 rintro en w' ⟨r,v,aj,γ',C',rfl,h1,h2,h3,h4⟩
 obtain ⟨r',tA,g1,g2,g3⟩:=hr r aj h1
 refine ⟨r',v,tA,γ',C',rfl,g3,h2,h3.wx ⟨fun t=> ?_,g2⟩,h4⟩
 simp only [Am.get]
 split
 · exact g1
 · exact Wx.un _
def WL:List AV→List AV→Prop
 |[],[]=>True
 |a::r,a'::r'=>Wx a a'∧WL r r'
 |_,_=>False
theorem WL.nil:WL [] []:=trivial
theorem WL.cons {a a':AV} {r r':List AV} (h:Wx a a') (hr:WL r r'):WL (a::r) (a'::r'):=⟨h,hr⟩
theorem WL.len:∀ {zq zq':List AV},WL zq zq'→zq'.length=zq.length:=by
 intro zq
 induction zq with
 |nil=>intro zq' h;cases zq' with|nil=>rfl|cons=>exact h.elim
 |cons a r ih=>intro zq' h;cases zq' with|nil=>exact h.elim|cons a' r'=>simp [ih h.2]
theorem WL.get:∀ {zq zq':List AV},WL zq zq'→∀(i:Nat) (a a':AV),zq[i]? =some a→zq'[i]? =some a'→Wx a a':=by
 intro zq
 induction zq with
 |nil=>intro zq' _ i a a' h;simp at h
 |cons a r ih=>
  intro zq' h i b b' h1 h2
  cases zq' with
  |nil=>exact h.elim
  |cons a' r'=>
   rcases i with _|i
   · simp at h1 h2;subst h1;subst h2;exact h.1
   · exact ih h.2 i b b' (by simpa using h1) (by simpa using h2)
theorem av.wE {f:Nat} {args args':List AV} {ah aW:AH} {R:AV→AH→Prop} (hw:WL args args') (hh:dc ah aW) (h:av P f args' aW R):av P f args ah R:=by
 refine ⟨h.1,fun F γ C w vs hs=>h.2 F γ C w vs ?_⟩
 rw [hw.len]
 refine hs.wx ⟨fun t=> ?_,hh⟩
 rw [cq,cq]
 simp only [Nat.zero_le,if_true,Nat.sub_zero]
 cases h1:args[t]? with
 |none=>
  have:args'[t]? =none:=by
   rw [List.getElem?_eq_none_iff] at h1 ⊢
   rw [hw.len];exact h1
  rw [this];exact Wx.un _
 |some a=>
  have hlt:t<args'.length:=by rw [hw.len];exact (List.getElem?_eq_some_iff.1 h1).1
  rw [List.getElem?_eq_getElem hlt]
  exact hw.get t a _ h1 (List.getElem?_eq_getElem hlt)
theorem MY {f:Nat} {zq zq':List AV} {aW:AH} {R:AV→AH→Prop} (h:av P f zq' aW R) (hw:WL zq zq') (hh:dc ah aW) (hk:∀v aj,R v aj→U P L N n0 (.ops r::t) Q .normal (ak L (mJ e) d v.df) aj):
 UK P L N n0 f zq d r t Q e ah:=(h.wE hw hh).mono hk
def mO (P:Program) (ah:AH) (rs:List ResultVar) (R:AV→AH→Prop) (e':Env) (H:AH):Prop:=
 ∃vs r' aj,c8 P e' H rs=some vs∧Wx (fin vs) r'∧R r' aj∧
  ((Cl ah.length (fin vs)∧fO ah.length (H.take ah.length)∧ah.length≤H.length∧dc (H.take ah.length) aj)∨dc H aj)
theorem av.Ob {f:Nat} {rs:List ResultVar} {ac m:aq} (hF:bB P f N rs ac) (hm:erase m=ac) {args:List AV} {R:AV→AH→Prop} (L:List Nat)
 (ho:jo N ac=true) (hN:args.length≤N)
 (h:fO ah.length ah→∀K:Exit→Env→AH→Prop,(∀x e' H,x= .normal∨x= .ret→mO P ah rs R e' H→K x e' H)→
  AX P L N ah.length ac K (cx 0 args) ah):av P f args ah R:=by
 refine av.TP (R:=fun r aj=>∃r' tA,Wx r r'∧dc aj tA∧R r' tA) ?_ (fun r aj h=>h)
 obtain ⟨fn,c,h1,h2,h3,h4,rfl,rfl⟩:=hF
 refine av.Dz L h1 h2 h3 h4 ho hN ?_
 intro hcl hargs
 refine h hcl _ ?_
 rintro x e' H hx ⟨vs,r',aj,g1,g2,g3,⟨g4,g5,g6,g7⟩|g4⟩
 · refine .inl ⟨ah.length,Nat.le_refl _,hx, ?_⟩
   rw [g1]
   exact ⟨g4,g5,g6,r',aj,g2,g7,g3⟩
 · refine .inr ⟨hx, ?_⟩
   rw [g1]
   exact ⟨r',aj,g2,g4,g3⟩
end
end Go.Am
end
section
namespace Go.Am
open Go
variable [Tabs]
def idx {α:Type} (l:List α) (i:Int):Option α:=if 0≤i then l[i.toNat]? else none
def sub {α:Type} (l:List α) (i j:Int):Option (List α):=if 0≤i∧i≤j∧j≤l.length then some ((l.take j.toNat).drop i.toNat) else none
def dn {α:Type} (b:Nat) (xs ys:List α):Option (List α):=if (xs.length+ys.length)*b≤140737488355328∧xs.length+ys.length≤4611686018427387904 then some (xs++ys) else none
def cat (l m:List UInt8):Option (List UInt8):=if l.length+m.length≤9223372036854775807 then some (l++m) else none
def ml {α:Type} (f:α→AV) (xs:List α):List AV:=xs.map f
def dv (k:IntKind) (i j:Int):Option Int:=if j=0 then none else some (k.wrap (i.tdiv j))
def rm (k:IntKind) (i j:Int):Option Int:=if j=0 then none else some (i.tmod j)
def shl (k:IntKind) (i j:Int):Int:=k.wrap (i*2 ^ (min j.toNat k.bits))
def shr (k:IntKind) (i j:Int):Int:=i.fdiv (2 ^ (min j.toNat k.bits))
def Ij (k:IntKind) (i j:Int):Int:=k.wrap (BitVec.ofInt k.bits i &&& BitVec.ofInt k.bits j).toNat
def Oc (k:IntKind) (i j:Int):Int:=k.wrap (BitVec.ofInt k.bits i ||| BitVec.ofInt k.bits j).toNat
def Ik (k:IntKind) (i j:Int):Int:=k.wrap (BitVec.ofInt k.bits i ^^^ BitVec.ofInt k.bits j).toNat
def vK (k:IntKind) (i:Int):AV:= .int k i
theorem au {α β:Type} {o:Option α} {f:α→Option β} {r:β} (h:o.bind f=some r):∃x,o=some x∧f x=some r:=Option.bind_eq_some_iff.1 h
theorem Vs {β:Type} {B:Bool} {x y:Option β} {r:β} (h:(if B=true then x else y)=some r):(B=true∧x=some r)∨(B=false∧y=some r):=by
 cases B
 · exact .inr ⟨rfl,h⟩
 · exact .inl ⟨rfl,h⟩
theorem Bl {β:Type} {p:Prop} [Decidable p] {x:Option β} {r:β} (h:(if p then x else none)=some r):p∧x=some r:=by
 split at h
 · exact ⟨by assumption,h⟩
 · cases h
theorem DI {α:Type} (f:α→AV) (l:List α) (i:Int):idx (ml f l) i=(idx l i).map f:=by
 unfold idx ml;split<;>simp
theorem wF {α:Type} (f:α→AV) (l:List α) (i j:Int):sub (ml f l) i j=(sub l i j).map (ml f):=by
 unfold sub ml;simp only [List.length_map];split<;>simp [List.map_take,List.map_drop,ml]
theorem nM {α:Type} (f:α→AV) (l:List α):(ml f l).length=l.length:=by simp [ml]
theorem k5 {α:Type} {f:α→AV} {b:Nat} {xs ys zs:List α} (h:dn b xs ys=some zs):dn b (ml f xs) (ml f ys)=some (ml f zs):=by
 unfold dn at h ⊢
 simp only [nM]
 obtain ⟨hc,h⟩:=Bl h
 rw [if_pos hc]
 injection h with h
 subst h
 simp [ml]
theorem rF (l:List UInt8):bytesOf (ml b8 l)=some l:=zi l
section
variable {P:Program} {L:List Nat} {N n0:Nat} {e:Env} {ah:AH} {t:List It} {Q:Exit→Env→AH→Prop} {r:List az} {d:Option Nat} {g:Option (Nat×Bool)}
theorem Od {y:Nat} {bs:List UInt8}:UG P L N n0 ⟨d, .lit y bs,g⟩ r t Q e ah (some true)=U P L N n0 (It.ops r::t) Q Exit.normal (put (ak L e d (.sl .ex 1 (ml b8 bs))) y .un) ah:=rfl
theorem DJ {l:List UInt8} {k:IntKind} {i:Int}:zf L e ah d (.str l) (.int k i)=(idx l i).map fun c=>(ak L e d (b8 c),ah):=by
 simp only [zf,idx]
 split
 · cases l[i.toNat]? <;>rfl
 · rfl
theorem DK {tg:Tg} {k:Nat} {xs:List AV} {ki:IntKind} {i:Int}:o7 L e ah d k (.sl tg k xs) (.int ki i)=(idx xs i).map fun a=>(ak L e d (.ep a 0),ah):=by
 simp only [o7,idx]
 split
 · cases xs[i.toNat]? <;>simp [DF]
 · rfl
def bI (e:Env) (dflt:Int):Option Ar→AV
 |none=> .int .i64 dflt
 |some x=>ev e x
def DL (L:List Nat) (e:Env) (ah:AH) (d:Option Nat) (l:List UInt8):AV→AV→Option (Env×AH)
 | .int _ i, .int _ j=>(sub l i j).map fun m=>(ak L e d (.str m),ah)
 |_,_=>none
theorem wG {n:Nat} {x:Option Ar}:fN e n x=lH (bI e n x):=by
 cases x with
 |none=>simp [fN,bI,lH]
 |some x=>simp only [Ic,bI]
theorem tB {x:Option Ar}:fN e 0 x=lH (bI e 0 x):=wG (n:=0)
theorem PY {k:IntKind} {i:Int}:lH (.int k i)=if 0≤i then some i.toNat else none:=rfl
theorem tC {α:Type} (l:List α) (i j:Int):sub l i j=if 0≤i then if 0≤j then if i.toNat≤j.toNat∧j.toNat≤l.length then some ((l.take j.toNat).drop i.toNat) else none else none else none:=by
 unfold sub
 by_cases h1:0≤i
 · by_cases h2:0≤j
   · simp only [if_pos h1,if_pos h2]
     have:(0≤i∧i≤j∧j≤(l.length:Int))↔(i.toNat≤j.toNat∧j.toNat≤l.length):=by omega
     simp only [this]
   · rw [if_neg (by omega)];simp [h2]
 · rw [if_neg (by omega)];simp [h1]
theorem Lz {l:List UInt8} {lo hi:Option Ar}:DC L e ah d lo hi (.str l)=DL L e ah d l (bI e 0 lo) (bI e l.length hi):=by
 simp only [DC,tB,wG]
 generalize bI e 0 lo=a
 generalize bI e l.length hi=b
 cases a with
 |int k i=>
  cases b with
  |int k' j=>
   simp only [lH,DL,tC]
   by_cases h1:0≤i<;>by_cases h2:0≤j<;>simp only [h1,h2,if_true,if_false,DB,Option.map_none]
   split<;>rfl
  |_=>simp only [lH,DL];split<;>rfl
 |_=>cases b<;>rfl
def DM (L:List Nat) (e:Env) (ah:AH) (d:Option Nat) (k:Nat) (xs:List AV):AV→AV→Option (Env×AH)
 | .int _ i, .int _ j=>(sub xs i j).map fun ys=>(ak L e d (.sl .n k ys),ah)
 |_,_=>none
theorem LA {tg:Tg} {k:Nat} {xs:List AV} {lo hi:Option Ar}:DE L e ah d k lo hi (.sl tg k xs)=DM L e ah d k xs (bI e 0 lo) (bI e xs.length hi):=by
 simp only [DE,tB,wG]
 generalize bI e 0 lo=a
 generalize bI e xs.length hi=b
 cases a with
 |int k i=>
  cases b with
  |int k' j=>
   simp only [lH,DM,tC]
   by_cases h1:0≤i<;>by_cases h2:0≤j<;>simp only [h1,h2,if_true,if_false,DD,Option.map_none,true_and]
   split<;>rfl
  |_=>simp only [lH,DM];split<;>rfl
 |_=>cases b<;>rfl
def rG {α:Type} (l:List α) (i j m:Int):Option (List α):=if j=m then sub l i j else none
theorem zj {α:Type} (f:α→AV) (l:List α) (i j m:Int):rG (ml f l) i j m=(rG l i j m).map (ml f):=by
 unfold rG;split
 · exact wF ..
 · rfl
def tD (L:List Nat) (e:Env) (ah:AH) (d:Option Nat) (k:Nat) (xs:List AV):AV→AV→AV→Option (Env×AH)
 | .int _ i, .int _ j, .int _ m=>(rG xs i j m).map fun ys=>(ak L e d (.sl .ex k ys),ah)
 |_,_,_=>none
theorem Il {tg:Tg} {k:Nat} {xs:List AV} {lo:Option Ar} {hi m:Ar}:wD L e ah d k lo hi m (.sl tg k xs)=tD L e ah d k xs (bI e 0 lo) (ev e hi) (ev e m):=by
 simp only [wD,tB,Ic]
 generalize bI e 0 lo=a
 generalize ev e hi=b
 generalize ev e m=c
 cases a with
 |int k i=>
  cases b with
  |int k' j=>
   cases c with
   |int k'' l=>
    simp only [lH,tD,rG,tC]
    by_cases h1:0≤i<;>by_cases h2:0≤j<;>by_cases h3:0≤l<;>by_cases h4:j=l<;>simp only [h1,h2,h3,h4,if_true,if_false,wC,Option.map_none,true_and]
    all_goals first
     |rfl
     |(exfalso;omega)
     |(subst h4;split<;>rename_i q<;>split<;>rename_i q2<;>first|rfl|(exfalso;omega))
     |(split<;>first|rfl|(exfalso;omega))
   |_=>simp only [lH,tD];repeat' split
       all_goals first|rfl|skip
  |_=>simp only [lH,tD];repeat' split
      all_goals first|rfl|skip
 |_=>cases b<;>cases c<;>rfl
theorem LB {tg:Tg} {k b:Nat} {x:Ar} {ys:List AV}:Ig L e ah d k b x (.sl tg k ys)=nY L e ah d k b x ys:=by simp [Ig]
theorem Im {b:Nat} {x:Ar} {l:List UInt8}:Ih L e ah d b x (.str l)=nY L e ah d 1 b x (ml b8 l):=rfl
def jR (L:List Nat) (e:Env) (ah:AH) (d:Option Nat) (k:Nat) (x:Ar) (xs zs:List AV):Tg→Option (Env×AH)
 | .ex=>some (ak L e d (.sl .own k zs),ah)
 | .own=>match x with
   | .t x=>some (ak L (put e x (.sl .n k xs)) d (.sl .own k zs),ah)
   |_=>none
 | .fr (.tmp t)=>match get e t with
   | .sl .own k' us=>if k'=k then some (ak L (put e t (.sl .n k' us)) d (.sl .own k zs),ah) else none
   |_=>none
 | .fr (.cell s q)=>match ah[s]? with
   |some cs=>match cs[q]? with
    |some (.sl .own k' us)=>if k'=k then (over cs q [.sl .n k' us]).map fun cs=>(ak L e d (.sl .own k zs),ah.set s cs) else none
    |_=>none
   |none=>none
 | .n=>none
def tE (L:List Nat) (e:Env) (ah:AH) (d:Option Nat) (k:Nat) (x:Ar) (xs:List AV) (tg:Tg):Option (List AV)→Option (Env×AH)
 |some zs=>jR L e ah d k x xs zs tg
 |none=>none
theorem Io {L:List Nat} {e:Env} {ah:AH} {d:Option Nat} {k:Nat} {x:Ar} {xs zs:List AV} {tg:Tg}:tE L e ah d k x xs tg (some zs)=jR L e ah d k x xs zs tg:=rfl
def wH (L:List Nat) (e:Env) (ah:AH) (d:Option Nat) (k b:Nat) (x:Ar) (ys:List AV):AV→Option (Env×AH)
 | .sl tg k' xs=>if k'=k then tE L e ah d k x xs tg (dn b xs ys) else none
 |_=>none
theorem LC {k b:Nat} {x:Ar} {ys:List AV}:nY L e ah d k b x ys=wH L e ah d k b x ys (ev e x):=by
 simp only [nY]
 cases ev e x with
 |sl tg k' xs=>
  simp only [wH,dn]
  by_cases h1:k'=k
  · subst h1
    simp only [true_and,if_true]
    by_cases h2:(xs.length+ys.length)*b≤140737488355328∧xs.length+ys.length≤4611686018427387904
    · simp only [if_pos h2,tE]
      cases tg with
      |fr l=>cases l with
       |tmp u=>
        simp only [jR]
        cases get e u with
        |sl LD k2 zs=>cases LD<;>rfl
        |_=>rfl
       |cell s q=>
        simp only [jR]
        cases ah[s]? with
        |none=>rfl
        |some cs=>
         simp only []
         cases cs[q]? with
         |none=>rfl
         |some a=>cases a with
          |sl LD k2 zs=>cases LD<;>rfl
          |_=>rfl
      |own=>cases x<;>rfl
      |_=>rfl
    · simp only [if_neg h2,tE]
  · simp [h1]
 |_=>rfl
end
theorem Ip {k:IntKind} {i j:Int}:aI .add (.int k i) (.int k j)=some (.int k (k.wrap (i+j))):=by simp [aI,bx]
theorem Iq {k:IntKind} {i j:Int}:aI .sub (.int k i) (.int k j)=some (.int k (k.wrap (i - j))):=by simp [aI,bx]
theorem Oe {k:IntKind} {i j:Int}:aI .mul (.int k i) (.int k j)=some (.int k (k.wrap (i*j))):=by simp [aI,bx]
theorem Og {k:IntKind} {i j:Int}:aI .quo (.int k i) (.int k j)=(dv k i j).map (.int k):=by simp [aI,bx,dv];split<;>rfl
theorem Ir {k:IntKind} {i j:Int}:aI .rem (.int k i) (.int k j)=(rm k i j).map (.int k):=by simp [aI,bx,rm];split<;>rfl
theorem Is {k:IntKind} {i j:Int}:aI .and (.int k i) (.int k j)=some (.int k (Ij k i j)):=by simp [aI,bx,Ij]
theorem MZ {k:IntKind} {i j:Int}:aI .or (.int k i) (.int k j)=some (.int k (Oc k i j)):=by simp [aI,bx,Oc]
theorem Iu {k:IntKind} {i j:Int}:aI .xor (.int k i) (.int k j)=some (.int k (Ik k i j)):=by simp [aI,bx,Ik]
theorem TQ {k k':IntKind} {i j:Int}:aI .shl (.int k i) (.int k' j)=if j<0 then none else some (.int k (shl k i j)):=by simp [aI,shl]
theorem TR {k k':IntKind} {i j:Int}:aI .shr (.int k i) (.int k' j)=if j<0 then none else some (.int k (shr k i j)):=by simp [aI,shr]
theorem Iv {k:IntKind} {i j:Int}:aI .eql (.int k i) (.int k j)=some (.bool (decide (i=j))):=by simp [aI,bx]
theorem Iw {k:IntKind} {i j:Int}:aI .neq (.int k i) (.int k j)=some (.bool (!decide (i=j))):=by simp [aI,bx]
theorem Ix {k:IntKind} {i j:Int}:aI .lss (.int k i) (.int k j)=some (.bool (decide (i<j))):=by simp [aI,bx]
theorem Iy {k:IntKind} {i j:Int}:aI .leq (.int k i) (.int k j)=some (.bool (decide (i≤j))):=by simp [aI,bx]
theorem Iz {k:IntKind} {i j:Int}:aI .gtr (.int k i) (.int k j)=some (.bool (decide (j<i))):=by simp [aI,bx]
theorem IA {k:IntKind} {i j:Int}:aI .geq (.int k i) (.int k j)=some (.bool (decide (j≤i))):=by simp [aI,bx]
theorem LF {k k':IntKind} {i:Int}:aI .shr (.int k i) (.int k' 1)=some (.int k (shr k i 1)):=by simp [aI,shr]
theorem LG {k k':IntKind} {i:Int}:aI .shl (.int k i) (.int k' 1)=some (.int k (shl k i 1)):=by simp [aI,shl]
theorem LH {k k':IntKind} {i:Int}:aI .shr (.int k i) (.int k' 2)=some (.int k (shr k i 2)):=by simp [aI,shr]
theorem LI {k k':IntKind} {i:Int}:aI .shl (.int k i) (.int k' 2)=some (.int k (shl k i 2)):=by simp [aI,shl]
theorem LJ {k k':IntKind} {i:Int}:aI .shr (.int k i) (.int k' 3)=some (.int k (shr k i 3)):=by simp [aI,shr]
theorem LK {k k':IntKind} {i:Int}:aI .shl (.int k i) (.int k' 3)=some (.int k (shl k i 3)):=by simp [aI,shl]
theorem LL {k k':IntKind} {i:Int}:aI .shr (.int k i) (.int k' 4)=some (.int k (shr k i 4)):=by simp [aI,shr]
theorem LM {k k':IntKind} {i:Int}:aI .shl (.int k i) (.int k' 4)=some (.int k (shl k i 4)):=by simp [aI,shl]
theorem LN {k k':IntKind} {i:Int}:aI .shr (.int k i) (.int k' 5)=some (.int k (shr k i 5)):=by simp [aI,shr]
theorem LO {k k':IntKind} {i:Int}:aI .shl (.int k i) (.int k' 5)=some (.int k (shl k i 5)):=by simp [aI,shl]
theorem LP {k k':IntKind} {i:Int}:aI .shr (.int k i) (.int k' 6)=some (.int k (shr k i 6)):=by simp [aI,shr]
theorem LQ {k k':IntKind} {i:Int}:aI .shl (.int k i) (.int k' 6)=some (.int k (shl k i 6)):=by simp [aI,shl]
theorem LR {k k':IntKind} {i:Int}:aI .shr (.int k i) (.int k' 7)=some (.int k (shr k i 7)):=by simp [aI,shr]
theorem LS {k k':IntKind} {i:Int}:aI .shl (.int k i) (.int k' 7)=some (.int k (shl k i 7)):=by simp [aI,shl]
theorem LU {k k':IntKind} {i:Int}:aI .shr (.int k i) (.int k' 8)=some (.int k (shr k i 8)):=by simp [aI,shr]
theorem LV {k k':IntKind} {i:Int}:aI .shl (.int k i) (.int k' 8)=some (.int k (shl k i 8)):=by simp [aI,shl]
theorem IB {k k':IntKind} {i:Int}:aI .shr (.int k i) (.int k' 16)=some (.int k (shr k i 16)):=by simp [aI,shr]
theorem IC {k k':IntKind} {i:Int}:aI .shl (.int k i) (.int k' 16)=some (.int k (shl k i 16)):=by simp [aI,shl]
theorem ID {k k':IntKind} {i:Int}:aI .shr (.int k i) (.int k' 24)=some (.int k (shr k i 24)):=by simp [aI,shr]
theorem IE {k k':IntKind} {i:Int}:aI .shl (.int k i) (.int k' 24)=some (.int k (shl k i 24)):=by simp [aI,shl]
theorem Oh {l m:List UInt8}:aI .add (.str l) (.str m)=(cat l m).map .str:=by simp only [aI,cat];split<;>rfl
theorem Oi {l m:List UInt8}:aI .eql (.str l) (.str m)=some (.bool (decide (l=m))):=rfl
theorem Oj {l m:List UInt8}:aI .neq (.str l) (.str m)=some (.bool (!decide (l=m))):=rfl
theorem IF (n:Int):IntKind.wrap .u8 n=((UInt8.ofInt n).toNat:Int):=by
 have:(UInt8.ofInt n).toNat=(n % 256).toNat:=by
  rw [UInt8.ofInt]
  simp
  omega
 rw [this]
 simp only [IntKind.wrap,IntKind.bits,IntKind.signed,Bool.false_and,if_false,Bool.false_eq_true]
 omega
theorem LW (a b:UInt8):IntKind.wrap .u8 ((a.toNat:Int)+b.toNat)=((a+b).toNat:Int):=by
 have h1:=a.toNat_lt
 have h2:=b.toNat_lt
 simp only [IntKind.wrap,IntKind.bits,IntKind.signed,Bool.false_and,if_false,Bool.false_eq_true,UInt8.toNat_add]
 omega
theorem LX (a b:UInt8):IntKind.wrap .u8 ((a.toNat:Int) - b.toNat)=((a - b).toNat:Int):=by
 have h1:=a.toNat_lt
 have h2:=b.toNat_lt
 simp only [IntKind.wrap,IntKind.bits,IntKind.signed,Bool.false_and,if_false,Bool.false_eq_true,UInt8.toNat_sub]
 omega
theorem wI (a:UInt8):IntKind.wrap .u8 (a.toNat:Int)=(a.toNat:Int):=by
 have h1:=a.toNat_lt
 simp only [IntKind.wrap,IntKind.bits,IntKind.signed,Bool.false_and,if_false,Bool.false_eq_true]
 omega
theorem ofInt8 (a:UInt8):BitVec.ofInt 8 (a.toNat:Int)=a.toBitVec:=by
 apply BitVec.eq_of_toNat_eq;simp
theorem Ok {a b:UInt8}:aI .add (b8 a) (b8 b)=some (b8 (a+b)):=by simp only [b8];rw [Ip,LW]
theorem Ol {a b:UInt8}:aI .sub (b8 a) (b8 b)=some (b8 (a - b)):=by simp only [b8];rw [Iq,LX]
theorem Om {a b:UInt8}:aI .and (b8 a) (b8 b)=some (b8 (a &&& b)):=by
 simp only [b8];rw [Is,Ij]
 have:((BitVec.ofInt IntKind.u8.bits (a.toNat:Int) &&& BitVec.ofInt IntKind.u8.bits (b.toNat:Int)).toNat:Int)=((a &&& b).toNat:Int):=by
  simp only [IntKind.bits,ofInt8];rfl
 rw [this,wI]
theorem QT {a b:UInt8}:aI .or (b8 a) (b8 b)=some (b8 (a ||| b)):=by
 simp only [b8];rw [MZ,Oc]
 have:((BitVec.ofInt IntKind.u8.bits (a.toNat:Int) ||| BitVec.ofInt IntKind.u8.bits (b.toNat:Int)).toNat:Int)=((a ||| b).toNat:Int):=by
  simp only [IntKind.bits,ofInt8];rfl
 rw [this,wI]
theorem On {a b:UInt8}:aI .xor (b8 a) (b8 b)=some (b8 (a ^^^ b)):=by
 simp only [b8];rw [Iu,Ik]
 have:((BitVec.ofInt IntKind.u8.bits (a.toNat:Int) ^^^ BitVec.ofInt IntKind.u8.bits (b.toNat:Int)).toNat:Int)=((a ^^^ b).toNat:Int):=by
  simp only [IntKind.bits,ofInt8];rfl
 rw [this,wI]
theorem Oo {a b:UInt8}:aI .rem (b8 a) (b8 b)=if b=0 then none else some (b8 (a % b)):=by
 simp only [b8];rw [Ir,rm]
 by_cases h:b=0
 · subst h;simp
 · have h2:¬(b.toNat:Int)=0:=by
    intro h0;apply h;apply UInt8.toNat_inj.1;simp;omega
   rw [if_neg h,if_neg h2]
   simp only [Option.map_some,UInt8.toNat_mod]
   rw [Int.tmod_eq_emod_of_nonneg (by omega)]
   simp
theorem Oq {a b:UInt8}:aI .eql (b8 a) (b8 b)=some (.bool (decide (a=b))):=by
 simp only [b8];rw [Iv];simp [←UInt8.toNat_inj,Int.ofNat_inj]
theorem Ot {a b:UInt8}:aI .neq (b8 a) (b8 b)=some (.bool (!decide (a=b))):=by
 simp only [b8];rw [Iw];simp [←UInt8.toNat_inj,Int.ofNat_inj]
theorem Ou {a b:UInt8}:aI .lss (b8 a) (b8 b)=some (.bool (decide (a<b))):=by
 simp only [b8];rw [Ix];simp [UInt8.lt_iff_toNat_lt]
theorem Ov {a b:UInt8}:aI .leq (b8 a) (b8 b)=some (.bool (decide (a≤b))):=by
 simp only [b8];rw [Iy];simp [UInt8.le_iff_toNat_le]
theorem Ox {a b:UInt8}:aI .gtr (b8 a) (b8 b)=some (.bool (decide (b<a))):=by
 simp only [b8];rw [Iz];simp [UInt8.lt_iff_toNat_lt]
theorem Oy {a b:UInt8}:aI .geq (b8 a) (b8 b)=some (.bool (decide (b≤a))):=by
 simp only [b8];rw [IA];simp [UInt8.le_iff_toNat_le]
theorem QU {k:IntKind} {c:UInt8}:cA (.int k) (b8 c)=some (.int k (k.wrap c.toNat)):=rfl
theorem QV {k:IntKind} {i:Int}:cA (.int .u8) (.int k i)=some (b8 (UInt8.ofInt i)):=by simp only [cA,b8,IF]
theorem QW {c:UInt8}:cA (.int .u8) (b8 c)=some (b8 c):=by simp only [cA,b8,wI]
theorem QX {k':IntKind} {i:Int}:cA (.int .i8) (.int k' i)=some (.int .i8 (IntKind.wrap .i8 i)):=rfl
theorem Oz {k':IntKind} {i:Int}:cA (.int .i16) (.int k' i)=some (.int .i16 (IntKind.wrap .i16 i)):=rfl
theorem OA {k':IntKind} {i:Int}:cA (.int .i32) (.int k' i)=some (.int .i32 (IntKind.wrap .i32 i)):=rfl
theorem OB {k':IntKind} {i:Int}:cA (.int .i64) (.int k' i)=some (.int .i64 (IntKind.wrap .i64 i)):=rfl
theorem OC {k':IntKind} {i:Int}:cA (.int .u16) (.int k' i)=some (.int .u16 (IntKind.wrap .u16 i)):=rfl
theorem OD {k':IntKind} {i:Int}:cA (.int .u32) (.int k' i)=some (.int .u32 (IntKind.wrap .u32 i)):=rfl
theorem OE {k':IntKind} {i:Int}:cA (.int .u64) (.int k' i)=some (.int .u64 (IntKind.wrap .u64 i)):=rfl
theorem QY {l:List UInt8}:cA .same (.str l)=some (.str l):=rfl
theorem QZ {l:List UInt8}:cA .sb (.str l)=some (.sl .own 1 (ml b8 l)):=rfl
theorem Q0 {tg:Tg} {xs:List AV}:cA .bs (.sl tg 1 xs)=(bytesOf xs).map .str:=rfl
theorem OF {k:IntKind} {i:Int}:AQ .neg (.int k i)=some (.int k (k.wrap (0 - i))):=rfl
theorem OG {b:Bool}:AQ .not (.bool b)=some (.bool !b):=rfl
def Q1 (k:IntKind) (i:Int):Int:=k.wrap (BitVec.ofInt k.bits (if k.signed then -1 else k.max) ^^^ BitVec.ofInt k.bits i).toNat
theorem OH {k:IntKind} {i:Int}:AQ .xor (.int k i)=some (.int k (Q1 k i)):=rfl
theorem wJ:bytesOf []=some []:=rfl
theorem Bm {c:UInt8} {r:List AV}:bytesOf (b8 c::r)=(bytesOf r).map (c:: ·):=by
 simp [b8,bytesOf]
theorem TS {ks:List Pk} {k:IntKind} {i j:Int} {zq bs:List AV}:bl (.i::ks) (.int k i::zq) (.int k j::bs)=(bl ks zq bs).map (decide (i=j)&& ·):=by simp [bl]
theorem TT {ks:List Pk} {l m:List UInt8} {zq bs:List AV}:bl (.s::ks) (.str l::zq) (.str m::bs)=(bl ks zq bs).map (decide (l=m)&& ·):=rfl
theorem TU {ks:List Pk} {x y:Bool} {zq bs:List AV}:bl (.b::ks) (.bool x::zq) (.bool y::bs)=(bl ks zq bs).map ((x==y)&& ·):=rfl
theorem TV:bl [] [] []=some true:=rfl
theorem Q2 {x y:Bool}:AN (.bool x) (.bool y)=some (x==y):=rfl
theorem Q3 {s o:Nat}:AO (.ptr s o) (.v (.pointer none))=some false:=rfl
theorem Q4 {s o:Nat}:AO (.v (.pointer none)) (.ptr s o)=some false:=rfl
theorem Q5:AO (.v (.pointer none)) (.v (.pointer none))=some true:=rfl
section
variable {P:Program} {L:List Nat} {N n0:Nat} {e:Env} {ah:AH} {t:List It} {Q:Exit→Env→AH→Prop} {r:List az} {d:Option Nat}
theorem Bn {c:UInt8}:(b8 c).aS=b8 c:=rfl
theorem M0 {c:UInt8}:(b8 c).sh=b8 c:=rfl
theorem U2 {c:UInt8}:(b8 c).s1=b8 c:=rfl
theorem U3 {c:UInt8}:(b8 c).s0=b8 c:=rfl
theorem M1 {c:UInt8}:(b8 c).df=b8 c:=rfl
theorem TW {c:UInt8}:(b8 c).dU=b8 c:=rfl
theorem TX {c:UInt8}:(b8 c).jn=b8 c:=rfl
theorem SZ {c:UInt8} {l:Loc}:(b8 c).b9 l=b8 c:=rfl
theorem TY {c:UInt8}:(b8 c).aT=false:=rfl
theorem LY {c:UInt8}:(b8 c).flat=true:=rfl
theorem TZ {c:UInt8}:(b8 c).dV=true:=rfl
theorem U4 {c:UInt8}:(b8 c).np=true:=rfl
theorem Q6 {c:UInt8}:(b8 c).cells=[b8 c]:=rfl
theorem T0 {c:UInt8}:(b8 c).cr=false:=rfl
theorem U5 {c:UInt8} {x:Ar}:cp L x (b8 c)=b8 c:=rfl
theorem T3 {c:UInt8} {x:Ar}:eE P L N n0 e ah d r t Q x (b8 c)=U P L N n0 (.ops r::t) Q .normal (ak L e d (b8 c)) ah:=rfl
theorem DN {n:Nat} {c:UInt8}:Cl n (b8 c):= .int ..
theorem OI {l:List UInt8} {c:UInt8}:zf L e ah d (.str l) (b8 c)=(idx l c.toNat).map fun c=>(ak L e d (b8 c),ah):=DJ
theorem OJ {tg:Tg} {k:Nat} {xs:List AV} {c:UInt8}:o7 L e ah d k (.sl tg k xs) (b8 c)=(idx xs c.toNat).map fun a=>(ak L e d (.ep a 0),ah):=DK
theorem T4 {s o:Nat} {c:UInt8}:jQ s o (some (b8 c))=some (b8 c):=rfl
theorem OK {c:UInt8}:EB L d e ah (some (b8 c))=some (ak L e d (b8 c),ah):=rfl
end
theorem h_eq {H:AH} {q:Nat} {c:List AV} (h:q<H.length):(H.set q c)[q]? =some c:=List.getElem?_set_self h
theorem M3 {H:AH} {s q:Nat} {c:List AV} (h:s≠q):(H.set s c)[q]? =H[q]? :=List.getElem?_set_ne h
theorem IG {H T:AH} {q:Nat} (h:q<H.length):(H++T)[q]? =H[q]? :=List.getElem?_append_left h
theorem OL {H:AH} {c:List AV}:(H++[c])[H.length]? =some c:=by simp
theorem DO {H:AH} {q:Nat} {c:List AV} (h:q=H.length):(H++[c])[q]? =some c:=by subst h;simp
theorem lI {H:AH} {q:Nat} {c:List AV} (h:H[q]? =some c):q<H.length:=(List.getElem?_eq_some_iff.1 h).1
theorem n5 {H:AH} {q:Nat} {c:List AV}:(H.set q c).length=H.length:=List.length_set
theorem n6 {H:AH} {c:List AV}:(H++[c]).length=H.length+1:=by simp
structure Fr (ah:AH) (n0:Nat) (S:List Nat) (H:AH):Prop where
 le:n0≤H.length
 eq:∀j,j<n0→j∉S→H[j]? =ah[j]?
theorem Fr.refl (ah:AH) (S:List Nat):Fr ah ah.length S ah:=⟨Nat.le_refl _,fun _ _ _=>rfl⟩
theorem Fr.set {ah H:AH} {n0 s:Nat} {S:List Nat} {c:List AV} (h:Fr ah n0 S H) (hs:s∈S∨n0≤s):Fr ah n0 S (H.set s c):=by
 refine ⟨by simpa using h.le,fun j hj tF=> ?_⟩
 rw [List.getElem?_set_ne,h.eq j hj tF]
 rintro rfl
 rcases hs with hs|hs
 · exact tF hs
 · omega
theorem Fr.app {ah H T:AH} {n0:Nat} {S:List Nat} (h:Fr ah n0 S H):Fr ah n0 S (H++T):=by
 have:=h.le
 exact ⟨by simp;omega,fun j hj tF=>by rw [List.getElem?_append_left (by omega),h.eq j hj tF]⟩
theorem Fr.M4 {ah H:AH} (h:Fr ah ah.length [] H):H.take ah.length=ah:=by
 apply List.ext_getElem?
 intro j
 by_cases hj:j<ah.length
 · rw [List.getElem?_take_of_lt hj,h.eq j hj (by simp)]
 · rw [List.getElem?_eq_none (by simp;omega),List.getElem?_eq_none (by omega)]
theorem Fr.M5 {ah H:AH} {s:Nat} {c:List AV} (h:Fr ah ah.length [s] H) (hs:H[s]? =some c) (hl:s<ah.length):H.take ah.length=ah.set s c:=by
 apply List.ext_getElem?
 intro j
 by_cases hj:j<ah.length
 · rw [List.getElem?_take_of_lt hj]
   by_cases he:j=s
   · subst he;rw [hs,List.getElem?_set_self hl]
   · rw [List.getElem?_set_ne (Ne.symm he),h.eq j hj (by simpa using he)]
 · rw [List.getElem?_eq_none (by simp;omega),List.getElem?_eq_none (by simp;omega)]
theorem Fr.M6 {ah H:AH} {s s2:Nat} {c c2:List AV} (h:Fr ah ah.length [s,s2] H) (hs:H[s]? =some c) (hs2:H[s2]? =some c2) (hl:s<ah.length) (nP:s2<ah.length) (hne:s≠s2):H.take ah.length=(ah.set s c).set s2 c2:=by
 apply List.ext_getElem?
 intro j
 by_cases hj:j<ah.length
 · rw [List.getElem?_take_of_lt hj]
   by_cases he:j=s2
   · subst he;rw [hs2,List.getElem?_set_self (by simpa using nP)]
   · rw [List.getElem?_set_ne (Ne.symm he)]
     by_cases OM:j=s
     · subst OM;rw [hs,List.getElem?_set_self hl]
     · rw [List.getElem?_set_ne (Ne.symm OM),h.eq j hj (by simp;exact ⟨OM,he⟩)]
 · rw [List.getElem?_eq_none (by simp;omega),List.getElem?_eq_none (by simp;omega)]
end Go.Am
end
section
namespace Go.Am
open Go
variable [Tabs]
def b6:Bool→AV
 |true=> .bZ
 |false=> .v .nilIface
def DP (L:List Nat) (e:Env) (ah:AH) (d:Option Nat):AV→Option (Env×AH)
 | .sl _ _ xs=>some (ak L e d (.int .i64 xs.length),ah)
 | .bD _ _ _ n=>some (ak L e d (.int .i64 n),ah)
 | .bf _ _ n _=>some (ak L e d (.int .i64 n),ah)
 |_=>none
def II (L:List Nat) (e:Env) (ah:AH) (d:Option Nat):AV→Option (Env×AH)
 | .str l=>some (ak L e d (.int .i64 l.length),ah)
 |_=>none
def IJ (L:List Nat) (e:Env) (ah:AH) (d:Option Nat):Option AV→Option (Env×AH)
 |some a=>some (ak L e d a.sh,ah)
 |none=>none
def IK (L:List Nat) (e:Env) (ah:AH) (d:Option Nat) (i:Nat):AV→Option (Env×AH)
 | .aL cs=>IJ L e ah d (cs[i]?)
 |_=>none
def Bo (L:List Nat) (e:Env) (ah:AH) (d:Option Nat):Option AV→Option (Env×AH)
 |some a=>some (ak L e d a.aS,ah)
 |none=>none
def wK (L:List Nat) (e:Env) (ah:AH) (d:Option Nat) (q:Nat):Option Nat→AV→Option (Env×AH)
 |some n, .agg cs=>if q+n≤cs.length then some (ak L e d (.agg (((cs.drop q).take n).map AV.aS)),ah) else none
 |none, .agg cs=>Bo L e ah d (cs[q]?)
 |_,_=>none
def IL (L:List Nat) (e:Env) (ah:AH) (d:Option Nat) (n:Option Nat):AV→Option (Env×AH)
 | .ep a p=>wB L d n e ah (.ep a p)
 |_=>none
theorem IM {z:Value}:AV.aS (.v z)=(.v z:AV):=rfl
theorem Bp {k:IntKind} {i:Int}:AV.aS (.int k i)=(.int k i:AV):=rfl
theorem zk {b:Bool}:AV.aS (.bool b)=(.bool b:AV):=rfl
theorem Bq {l:List UInt8}:AV.aS (.str l)=(.str l:AV):=rfl
theorem Br {s o:Nat}:AV.aS (.ptr s o)=(.ptr s o:AV):=rfl
theorem EG {a:AV} {o:Nat}:AV.aS (.ep a o)=(.ep a o:AV):=rfl
theorem EH {f:Nat} {cs:List AV}:AV.aS (.fn f cs)=(.fn f cs:AV):=rfl
theorem EI:AV.aS (.un)=(.un:AV):=rfl
theorem EJ {c:UInt8}:AV.aS (b8 c)=(b8 c:AV):=rfl
theorem EL {k:Nat} {xs:List AV}:AV.aS (.sl .n k xs)=(.sl .n k xs:AV):=rfl
theorem Bs {k:Nat} {xs:List AV}:AV.aS (.sl .ex k xs)=(.sl .ex k xs:AV):=rfl
theorem zm {k:Nat} {xs:List AV}:AV.aS (.sl .own k xs)=(.sl .n k xs:AV):=rfl
theorem Bt {l:Loc} {k:Nat} {xs:List AV}:AV.aS (.sl (.fr l) k xs)=(.sl .n k xs:AV):=rfl
theorem Bu {cs:List AV}:AV.aS (.agg cs)=(.agg cs:AV):=rfl
theorem Bv {cs:List AV}:AV.aS (.aL cs)=(.aL cs:AV):=rfl
theorem Bw {q0 k0 o0 m0:Nat}:AV.aS (.bD q0 k0 o0 m0)=(.bD q0 k0 o0 m0:AV):=rfl
theorem Bx {q0 k0 m0 c0:Nat}:AV.aS (.bf q0 k0 m0 c0)=(.bf q0 k0 m0 c0:AV):=rfl
theorem By:AV.aS (.bZ)=(.bZ:AV):=rfl
theorem EM {eb:Bool}:AV.aS (b6 eb)=(b6 eb:AV):=by cases eb<;>rfl
theorem LZ {z:Value}:AV.sh (.v z)=(.v z:AV):=rfl
theorem EN {k:IntKind} {i:Int}:AV.sh (.int k i)=(.int k i:AV):=rfl
theorem Bz {b:Bool}:AV.sh (.bool b)=(.bool b:AV):=rfl
theorem EO {l:List UInt8}:AV.sh (.str l)=(.str l:AV):=rfl
theorem EP {s o:Nat}:AV.sh (.ptr s o)=(.ptr s o:AV):=rfl
theorem IN {a:AV} {o:Nat}:AV.sh (.ep a o)=(.ep a o:AV):=rfl
theorem IP {f:Nat} {cs:List AV}:AV.sh (.fn f cs)=(.fn f cs:AV):=rfl
theorem IQ:AV.sh (.un)=(.un:AV):=rfl
theorem IT {c:UInt8}:AV.sh (b8 c)=(b8 c:AV):=rfl
theorem IU {k:Nat} {xs:List AV}:AV.sh (.sl .n k xs)=(.sl .n k xs:AV):=rfl
theorem ER {k:Nat} {xs:List AV}:AV.sh (.sl .ex k xs)=(.sl .ex k xs:AV):=rfl
theorem BA {k:Nat} {xs:List AV}:AV.sh (.sl .own k xs)=(.sl .n k xs:AV):=rfl
theorem ES {l:Loc} {k:Nat} {xs:List AV}:AV.sh (.sl (.fr l) k xs)=(.sl .n k xs:AV):=rfl
theorem ET {cs:List AV}:AV.sh (.agg cs)=(.agg (cs.map AV.aS):AV):=rfl
theorem EU {cs:List AV}:AV.sh (.aL cs)=(.aL (cs.map AV.aS):AV):=rfl
theorem EV {q0 k0 o0 m0:Nat}:AV.sh (.bD q0 k0 o0 m0)=(.bD q0 k0 o0 m0:AV):=rfl
theorem EW {q0 k0 m0 c0:Nat}:AV.sh (.bf q0 k0 m0 c0)=(.bf q0 k0 m0 c0:AV):=rfl
theorem EX:AV.sh (.bZ)=(.bZ:AV):=rfl
theorem IV {eb:Bool}:AV.sh (b6 eb)=(b6 eb:AV):=by cases eb<;>rfl
theorem L0 {z:Value}:AV.s1 (.v z)=(.v z:AV):=rfl
theorem EY {k:IntKind} {i:Int}:AV.s1 (.int k i)=(.int k i:AV):=rfl
theorem BB {b:Bool}:AV.s1 (.bool b)=(.bool b:AV):=rfl
theorem EZ {l:List UInt8}:AV.s1 (.str l)=(.str l:AV):=rfl
theorem E0 {s o:Nat}:AV.s1 (.ptr s o)=(.ptr s o:AV):=rfl
theorem IW {a:AV} {o:Nat}:AV.s1 (.ep a o)=(.ep a o:AV):=rfl
theorem IX {f:Nat} {cs:List AV}:AV.s1 (.fn f cs)=(.fn f cs:AV):=rfl
theorem IY:AV.s1 (.un)=(.un:AV):=rfl
theorem IZ {c:UInt8}:AV.s1 (b8 c)=(b8 c:AV):=rfl
theorem I0 {k:Nat} {xs:List AV}:AV.s1 (.sl .n k xs)=(.sl .n k xs:AV):=rfl
theorem E1 {k:Nat} {xs:List AV}:AV.s1 (.sl .ex k xs)=(.sl .n k xs:AV):=rfl
theorem BC {k:Nat} {xs:List AV}:AV.s1 (.sl .own k xs)=(.sl .n k xs:AV):=rfl
theorem E2 {l:Loc} {k:Nat} {xs:List AV}:AV.s1 (.sl (.fr l) k xs)=(.sl .n k xs:AV):=rfl
theorem E3 {cs:List AV}:AV.s1 (.agg cs)=(.agg cs:AV):=rfl
theorem E4 {cs:List AV}:AV.s1 (.aL cs)=(.aL cs:AV):=rfl
theorem E5 {q0 k0 o0 m0:Nat}:AV.s1 (.bD q0 k0 o0 m0)=(.bD q0 k0 o0 m0:AV):=rfl
theorem E6 {q0 k0 m0 c0:Nat}:AV.s1 (.bf q0 k0 m0 c0)=(.bf q0 k0 m0 c0:AV):=rfl
theorem E7:AV.s1 (.bZ)=(.bZ:AV):=rfl
theorem I1 {eb:Bool}:AV.s1 (b6 eb)=(b6 eb:AV):=by cases eb<;>rfl
theorem L1 {z:Value}:AV.s0 (.v z)=(.v z:AV):=rfl
theorem E8 {k:IntKind} {i:Int}:AV.s0 (.int k i)=(.int k i:AV):=rfl
theorem BD {b:Bool}:AV.s0 (.bool b)=(.bool b:AV):=rfl
theorem E9 {l:List UInt8}:AV.s0 (.str l)=(.str l:AV):=rfl
theorem Fa {s o:Nat}:AV.s0 (.ptr s o)=(.ptr s o:AV):=rfl
theorem I2 {a:AV} {o:Nat}:AV.s0 (.ep a o)=(.ep a o:AV):=rfl
theorem I3 {f:Nat} {cs:List AV}:AV.s0 (.fn f cs)=(.fn f cs:AV):=rfl
theorem I4:AV.s0 (.un)=(.un:AV):=rfl
theorem I5 {c:UInt8}:AV.s0 (b8 c)=(b8 c:AV):=rfl
theorem I6 {k:Nat} {xs:List AV}:AV.s0 (.sl .n k xs)=(.sl .n k xs:AV):=rfl
theorem Fb {k:Nat} {xs:List AV}:AV.s0 (.sl .ex k xs)=(.sl .n k xs:AV):=rfl
theorem BE {k:Nat} {xs:List AV}:AV.s0 (.sl .own k xs)=(.sl .n k xs:AV):=rfl
theorem Fc {l:Loc} {k:Nat} {xs:List AV}:AV.s0 (.sl (.fr l) k xs)=(.sl .n k xs:AV):=rfl
theorem Fe {cs:List AV}:AV.s0 (.agg cs)=(.agg (cs.map AV.s1):AV):=rfl
theorem Ff {cs:List AV}:AV.s0 (.aL cs)=(.aL cs:AV):=rfl
theorem Fg {q0 k0 o0 m0:Nat}:AV.s0 (.bD q0 k0 o0 m0)=(.bD q0 k0 o0 m0:AV):=rfl
theorem Fh {q0 k0 m0 c0:Nat}:AV.s0 (.bf q0 k0 m0 c0)=(.bf q0 k0 m0 c0:AV):=rfl
theorem Fi:AV.s0 (.bZ)=(.bZ:AV):=rfl
theorem I7 {eb:Bool}:AV.s0 (b6 eb)=(b6 eb:AV):=by cases eb<;>rfl
theorem L2 {z:Value}:AV.df (.v z)=(.v z:AV):=rfl
theorem Fj {k:IntKind} {i:Int}:AV.df (.int k i)=(.int k i:AV):=rfl
theorem BF {b:Bool}:AV.df (.bool b)=(.bool b:AV):=rfl
theorem Fk {l:List UInt8}:AV.df (.str l)=(.str l:AV):=rfl
theorem Fl {s o:Nat}:AV.df (.ptr s o)=(.ptr s o:AV):=rfl
theorem I8 {a:AV} {o:Nat}:AV.df (.ep a o)=(.ep a o:AV):=rfl
theorem I9 {f:Nat} {cs:List AV}:AV.df (.fn f cs)=(.fn f cs:AV):=rfl
theorem Ja:AV.df (.un)=(.un:AV):=rfl
theorem Jb {c:UInt8}:AV.df (b8 c)=(b8 c:AV):=rfl
theorem Jc {k:Nat} {xs:List AV}:AV.df (.sl .n k xs)=(.sl .n k xs:AV):=rfl
theorem Fm {k:Nat} {xs:List AV}:AV.df (.sl .ex k xs)=(.sl .ex k xs:AV):=rfl
theorem BG {k:Nat} {xs:List AV}:AV.df (.sl .own k xs)=(.sl .own k xs:AV):=rfl
theorem Fo {l:Loc} {k:Nat} {xs:List AV}:AV.df (.sl (.fr l) k xs)=(.sl .n k xs:AV):=rfl
theorem Fp {cs:List AV}:AV.df (.agg cs)=(.agg cs:AV):=rfl
theorem Fq {cs:List AV}:AV.df (.aL cs)=(.aL cs:AV):=rfl
theorem Fs {q0 k0 o0 m0:Nat}:AV.df (.bD q0 k0 o0 m0)=(.bD q0 k0 o0 m0:AV):=rfl
theorem Ft {q0 k0 m0 c0:Nat}:AV.df (.bf q0 k0 m0 c0)=(.bf q0 k0 m0 c0:AV):=rfl
theorem Fu:AV.df (.bZ)=(.bZ:AV):=rfl
theorem Jd {eb:Bool}:AV.df (b6 eb)=(b6 eb:AV):=by cases eb<;>rfl
theorem BH {z:Value}:AV.aT (.v z)=false:=rfl
theorem wL {k:IntKind} {i:Int}:AV.aT (.int k i)=false:=rfl
theorem uL {b:Bool}:AV.aT (.bool b)=false:=rfl
theorem wM {l:List UInt8}:AV.aT (.str l)=false:=rfl
theorem wN {s o:Nat}:AV.aT (.ptr s o)=false:=rfl
theorem zn {a:AV} {o:Nat}:AV.aT (.ep a o)=false:=rfl
theorem zo {f:Nat} {cs:List AV}:AV.aT (.fn f cs)=false:=rfl
theorem zp:AV.aT (.un)=false:=rfl
theorem zq {c:UInt8}:AV.aT (b8 c)=false:=rfl
theorem zu {k:Nat} {xs:List AV}:AV.aT (.sl .n k xs)=false:=rfl
theorem wO {k:Nat} {xs:List AV}:AV.aT (.sl .ex k xs)=false:=rfl
theorem uM {k:Nat} {xs:List AV}:AV.aT (.sl .own k xs)=true:=rfl
theorem wP {l:Loc} {k:Nat} {xs:List AV}:AV.aT (.sl (.fr l) k xs)=false:=rfl
theorem wQ {cs:List AV}:AV.aT (.agg cs)=false:=rfl
theorem wR {cs:List AV}:AV.aT (.aL cs)=false:=rfl
theorem wS {q0 k0 o0 m0:Nat}:AV.aT (.bD q0 k0 o0 m0)=false:=rfl
theorem wT {q0 k0 m0 c0:Nat}:AV.aT (.bf q0 k0 m0 c0)=false:=rfl
theorem wU:AV.aT (.bZ)=false:=rfl
theorem zw {eb:Bool}:AV.aT (b6 eb)=false:=by cases eb<;>rfl
theorem Je {z:Value}:AV.jn (.v z)=(.v z:AV):=rfl
theorem BI {k:IntKind} {i:Int}:AV.jn (.int k i)=(.int k i:AV):=rfl
theorem zx {b:Bool}:AV.jn (.bool b)=(.bool b:AV):=rfl
theorem BJ {l:List UInt8}:AV.jn (.str l)=(.str l:AV):=rfl
theorem BK {s o:Nat}:AV.jn (.ptr s o)=(.ptr s o:AV):=rfl
theorem Fv {a:AV} {o:Nat}:AV.jn (.ep a o)=(.ep a o:AV):=rfl
theorem Fw {f:Nat} {cs:List AV}:AV.jn (.fn f cs)=(.fn f cs:AV):=rfl
theorem Fx:AV.jn (.un)=(.un:AV):=rfl
theorem Fy {c:UInt8}:AV.jn (b8 c)=(b8 c:AV):=rfl
theorem Fz {k:Nat} {xs:List AV}:AV.jn (.sl .n k xs)=(.sl .n k xs:AV):=rfl
theorem BL {k:Nat} {xs:List AV}:AV.jn (.sl .ex k xs)=(.sl .ex k xs:AV):=rfl
theorem zy {k:Nat} {xs:List AV}:AV.jn (.sl .own k xs)=(.sl .n k xs:AV):=rfl
theorem BM {l:Loc} {k:Nat} {xs:List AV}:AV.jn (.sl (.fr l) k xs)=(.sl (.fr l) k xs:AV):=rfl
theorem BN {cs:List AV}:AV.jn (.agg cs)=(.agg cs:AV):=rfl
theorem BO {cs:List AV}:AV.jn (.aL cs)=(.aL cs:AV):=rfl
theorem BP {q0 k0 o0 m0:Nat}:AV.jn (.bD q0 k0 o0 m0)=(.bD q0 k0 o0 m0:AV):=rfl
theorem BQ {q0 k0 m0 c0:Nat}:AV.jn (.bf q0 k0 m0 c0)=(.bf q0 k0 m0 c0:AV):=rfl
theorem BR:AV.jn (.bZ)=(.bZ:AV):=rfl
theorem FA {eb:Bool}:AV.jn (b6 eb)=(b6 eb:AV):=by cases eb<;>rfl
theorem FB {z:Value} {l0:Loc}:AV.b9 l0 (.v z)=(.v z:AV):=rfl
theorem zz {k:IntKind} {i:Int} {l0:Loc}:AV.b9 l0 (.int k i)=(.int k i:AV):=rfl
theorem wV {b:Bool} {l0:Loc}:AV.b9 l0 (.bool b)=(.bool b:AV):=rfl
theorem zA {l:List UInt8} {l0:Loc}:AV.b9 l0 (.str l)=(.str l:AV):=rfl
theorem zB {s o:Nat} {l0:Loc}:AV.b9 l0 (.ptr s o)=(.ptr s o:AV):=rfl
theorem BS {a:AV} {o:Nat} {l0:Loc}:AV.b9 l0 (.ep a o)=(.ep a o:AV):=rfl
theorem BT {f:Nat} {cs:List AV} {l0:Loc}:AV.b9 l0 (.fn f cs)=(.fn f cs:AV):=rfl
theorem BU {l0:Loc}:AV.b9 l0 (.un)=(.un:AV):=rfl
theorem BV {c:UInt8} {l0:Loc}:AV.b9 l0 (b8 c)=(b8 c:AV):=rfl
theorem BW {k:Nat} {xs:List AV} {l0:Loc}:AV.b9 l0 (.sl .n k xs)=(.sl .n k xs:AV):=rfl
theorem zC {k:Nat} {xs:List AV} {l0:Loc}:AV.b9 l0 (.sl .ex k xs)=(.sl .ex k xs:AV):=rfl
theorem wW {k:Nat} {xs:List AV} {l0:Loc}:AV.b9 l0 (.sl .own k xs)=(.sl .own k xs:AV):=rfl
theorem zD {l:Loc} {k:Nat} {xs:List AV} {l0:Loc}:AV.b9 l0 (.sl (.fr l) k xs)=if l=l0 then .sl .n k xs else .sl (.fr l) k xs:=rfl
theorem zE {cs:List AV} {l0:Loc}:AV.b9 l0 (.agg cs)=(.agg cs:AV):=rfl
theorem zF {cs:List AV} {l0:Loc}:AV.b9 l0 (.aL cs)=(.aL cs:AV):=rfl
theorem zG {q0 k0 o0 m0:Nat} {l0:Loc}:AV.b9 l0 (.bD q0 k0 o0 m0)=(.bD q0 k0 o0 m0:AV):=rfl
theorem zH {q0 k0 m0 c0:Nat} {l0:Loc}:AV.b9 l0 (.bf q0 k0 m0 c0)=(.bf q0 k0 m0 c0:AV):=rfl
theorem zI {l0:Loc}:AV.b9 l0 (.bZ)=(.bZ:AV):=rfl
theorem BX {eb:Bool} {l0:Loc}:AV.b9 l0 (b6 eb)=(b6 eb:AV):=by cases eb<;>rfl
theorem Jf {z:Value}:AV.dU (.v z)=(.v z:AV):=rfl
theorem BY {k:IntKind} {i:Int}:AV.dU (.int k i)=(.int k i:AV):=rfl
theorem zJ {b:Bool}:AV.dU (.bool b)=(.bool b:AV):=rfl
theorem BZ {l:List UInt8}:AV.dU (.str l)=(.str l:AV):=rfl
theorem B0 {s o:Nat}:AV.dU (.ptr s o)=(.ptr s o:AV):=rfl
theorem FC {a:AV} {o:Nat}:AV.dU (.ep a o)=(.ep a o:AV):=rfl
theorem FD {f:Nat} {cs:List AV}:AV.dU (.fn f cs)=(.fn f cs:AV):=rfl
theorem FE:AV.dU (.un)=(.un:AV):=rfl
theorem FF {c:UInt8}:AV.dU (b8 c)=(b8 c:AV):=rfl
theorem FH {k:Nat} {xs:List AV}:AV.dU (.sl .n k xs)=(.sl .n k xs:AV):=rfl
theorem B1 {k:Nat} {xs:List AV}:AV.dU (.sl .ex k xs)=(.sl .ex k xs:AV):=rfl
theorem zK {k:Nat} {xs:List AV}:AV.dU (.sl .own k xs)=(.sl .own k xs:AV):=rfl
theorem B2 {cs:List AV}:AV.dU (.agg cs)=(.agg cs:AV):=rfl
theorem B3 {cs:List AV}:AV.dU (.aL cs)=(.aL cs:AV):=rfl
theorem B4 {q0 k0 o0 m0:Nat}:AV.dU (.bD q0 k0 o0 m0)=(.bD q0 k0 o0 m0:AV):=rfl
theorem B5 {q0 k0 m0 c0:Nat}:AV.dU (.bf q0 k0 m0 c0)=(.bf q0 k0 m0 c0:AV):=rfl
theorem B6:AV.dU (.bZ)=(.bZ:AV):=rfl
theorem FI {eb:Bool}:AV.dU (b6 eb)=(b6 eb:AV):=by cases eb<;>rfl
theorem Jg {a b k:Nat} {xs:List AV}:AV.dU (.sl (.fr (.cell a b)) k xs)= .sl .n k xs:=rfl
theorem Jh {a k:Nat} {xs:List AV}:AV.dU (.sl (.fr (.tmp a)) k xs)= .sl (.fr (.tmp a)) k xs:=rfl
theorem B7 {z:Value}:AV.cells (.v z)=[.v z]:=rfl
theorem wX {k:IntKind} {i:Int}:AV.cells (.int k i)=[.int k i]:=rfl
theorem uN {b:Bool}:AV.cells (.bool b)=[.bool b]:=rfl
theorem wY {l:List UInt8}:AV.cells (.str l)=[.str l]:=rfl
theorem wZ {s o:Nat}:AV.cells (.ptr s o)=[.ptr s o]:=rfl
theorem zL {a:AV} {o:Nat}:AV.cells (.ep a o)=[.ep a o]:=rfl
theorem zM {f:Nat} {cs:List AV}:AV.cells (.fn f cs)=[.fn f cs]:=rfl
theorem zN:AV.cells (.un)=[.un]:=rfl
theorem zO {c:UInt8}:AV.cells (b8 c)=[b8 c]:=rfl
theorem zP {k:Nat} {xs:List AV}:AV.cells (.sl .n k xs)=[.sl .n k xs]:=rfl
theorem w5 {k:Nat} {xs:List AV}:AV.cells (.sl .ex k xs)=[.sl .ex k xs]:=rfl
theorem uO {k:Nat} {xs:List AV}:AV.cells (.sl .own k xs)=[.sl .own k xs]:=rfl
theorem w6 {l:Loc} {k:Nat} {xs:List AV}:AV.cells (.sl (.fr l) k xs)=[.sl (.fr l) k xs]:=rfl
theorem w7 {cs:List AV}:AV.cells (.agg cs)=cs:=rfl
theorem w9 {cs:List AV}:AV.cells (.aL cs)=[.aL cs]:=rfl
theorem xb {q0 k0 o0 m0:Nat}:AV.cells (.bD q0 k0 o0 m0)=[.bD q0 k0 o0 m0]:=rfl
theorem xd {q0 k0 m0 c0:Nat}:AV.cells (.bf q0 k0 m0 c0)=[.bf q0 k0 m0 c0]:=rfl
theorem xe:AV.cells (.bZ)=[.bZ]:=rfl
theorem zQ {eb:Bool}:AV.cells (b6 eb)=[b6 eb]:=by cases eb<;>rfl
theorem Ji {z:Value}:AV.dV (.v z)=true:=rfl
theorem B8 {k:IntKind} {i:Int}:AV.dV (.int k i)=true:=rfl
theorem zR {b:Bool}:AV.dV (.bool b)=true:=rfl
theorem B9 {l:List UInt8}:AV.dV (.str l)=true:=rfl
theorem Ca {s o:Nat}:AV.dV (.ptr s o)=true:=rfl
theorem FJ {a:AV} {o:Nat}:AV.dV (.ep a o)=true:=rfl
theorem FK {f:Nat} {cs:List AV}:AV.dV (.fn f cs)=true:=rfl
theorem FM:AV.dV (.un)=false:=rfl
theorem FN {c:UInt8}:AV.dV (b8 c)=true:=rfl
theorem FO {k:Nat} {xs:List AV}:AV.dV (.sl .n k xs)=true:=rfl
theorem Cb {k:Nat} {xs:List AV}:AV.dV (.sl .ex k xs)=true:=rfl
theorem zS {k:Nat} {xs:List AV}:AV.dV (.sl .own k xs)=true:=rfl
theorem Cc {l:Loc} {k:Nat} {xs:List AV}:AV.dV (.sl (.fr l) k xs)=true:=rfl
theorem Cd {cs:List AV}:AV.dV (.agg cs)=false:=rfl
theorem Ce {cs:List AV}:AV.dV (.aL cs)=false:=rfl
theorem Cf {q0 k0 o0 m0:Nat}:AV.dV (.bD q0 k0 o0 m0)=true:=rfl
theorem Cg {q0 k0 m0 c0:Nat}:AV.dV (.bf q0 k0 m0 c0)=true:=rfl
theorem Ch:AV.dV (.bZ)=true:=rfl
theorem FP {eb:Bool}:AV.dV (b6 eb)=true:=by cases eb<;>rfl
theorem FQ {z:Value}:AV.flat (.v z)=true:=rfl
theorem zT {k:IntKind} {i:Int}:AV.flat (.int k i)=true:=rfl
theorem xg {b:Bool}:AV.flat (.bool b)=true:=rfl
theorem zU {l:List UInt8}:AV.flat (.str l)=true:=rfl
theorem zV {s o:Nat}:AV.flat (.ptr s o)=true:=rfl
theorem Ci {a:AV} {o:Nat}:AV.flat (.ep a o)=true:=rfl
theorem Cj {f:Nat} {cs:List AV}:AV.flat (.fn f cs)=true:=rfl
theorem Ck:AV.flat (.un)=true:=rfl
theorem Cm {c:UInt8}:AV.flat (b8 c)=true:=rfl
theorem Cn {k:Nat} {xs:List AV}:AV.flat (.sl .n k xs)=true:=rfl
theorem zW {k:Nat} {xs:List AV}:AV.flat (.sl .ex k xs)=true:=rfl
theorem xh {k:Nat} {xs:List AV}:AV.flat (.sl .own k xs)=true:=rfl
theorem zX {l:Loc} {k:Nat} {xs:List AV}:AV.flat (.sl (.fr l) k xs)=true:=rfl
theorem zY {cs:List AV}:AV.flat (.agg cs)=false:=rfl
theorem zZ {cs:List AV}:AV.flat (.aL cs)=false:=rfl
theorem z1 {q0 k0 o0 m0:Nat}:AV.flat (.bD q0 k0 o0 m0)=true:=rfl
theorem z6 {q0 k0 m0 c0:Nat}:AV.flat (.bf q0 k0 m0 c0)=true:=rfl
theorem z7:AV.flat (.bZ)=true:=rfl
theorem Co {eb:Bool}:AV.flat (b6 eb)=true:=by cases eb<;>rfl
theorem L3 {z:Value}:AV.np (.v z)=true:=rfl
theorem FR {k:IntKind} {i:Int}:AV.np (.int k i)=true:=rfl
theorem Cp {b:Bool}:AV.np (.bool b)=true:=rfl
theorem FT {l:List UInt8}:AV.np (.str l)=true:=rfl
theorem FU {s o:Nat}:AV.np (.ptr s o)=false:=rfl
theorem Jj {a:AV} {o:Nat}:AV.np (.ep a o)=true:=rfl
theorem Jk {f:Nat} {cs:List AV}:AV.np (.fn f cs)=cs.isEmpty:=rfl
theorem Jl:AV.np (.un)=true:=rfl
theorem Jm {c:UInt8}:AV.np (b8 c)=true:=rfl
theorem Jn {k:Nat} {xs:List AV}:AV.np (.sl .n k xs)=true:=rfl
theorem FV {k:Nat} {xs:List AV}:AV.np (.sl .ex k xs)=true:=rfl
theorem Cq {k:Nat} {xs:List AV}:AV.np (.sl .own k xs)=true:=rfl
theorem FW {l:Loc} {k:Nat} {xs:List AV}:AV.np (.sl (.fr l) k xs)=true:=rfl
theorem FX {cs:List AV}:AV.np (.agg cs)=false:=rfl
theorem FY {cs:List AV}:AV.np (.aL cs)=false:=rfl
theorem F1 {q0 k0 o0 m0:Nat}:AV.np (.bD q0 k0 o0 m0)=false:=rfl
theorem F2 {q0 k0 m0 c0:Nat}:AV.np (.bf q0 k0 m0 c0)=false:=rfl
theorem F3:AV.np (.bZ)=true:=rfl
theorem Jo {eb:Bool}:AV.np (b6 eb)=true:=by cases eb<;>rfl
theorem Cr {z:Value}:AV.cr (.v z)=false:=rfl
theorem xj {k:IntKind} {i:Int}:AV.cr (.int k i)=false:=rfl
theorem uP {b:Bool}:AV.cr (.bool b)=false:=rfl
theorem xk {l:List UInt8}:AV.cr (.str l)=false:=rfl
theorem xl {s o:Nat}:AV.cr (.ptr s o)=false:=rfl
theorem z8 {a:AV} {o:Nat}:AV.cr (.ep a o)=false:=rfl
theorem Aa {f:Nat} {cs:List AV}:AV.cr (.fn f cs)=false:=rfl
theorem Ab:AV.cr (.un)=false:=rfl
theorem Ac {c:UInt8}:AV.cr (b8 c)=false:=rfl
theorem Ad {k:Nat} {xs:List AV}:AV.cr (.sl .n k xs)=false:=rfl
theorem xm {k:Nat} {xs:List AV}:AV.cr (.sl .ex k xs)=false:=rfl
theorem uQ {k:Nat} {xs:List AV}:AV.cr (.sl .own k xs)=false:=rfl
theorem xo {l:Loc} {k:Nat} {xs:List AV}:AV.cr (.sl (.fr l) k xs)=false:=rfl
theorem xp {cs:List AV}:AV.cr (.agg cs)=false:=rfl
theorem xq {cs:List AV}:AV.cr (.aL cs)=true:=rfl
theorem xu {q0 k0 o0 m0:Nat}:AV.cr (.bD q0 k0 o0 m0)=false:=rfl
theorem xw {q0 k0 m0 c0:Nat}:AV.cr (.bf q0 k0 m0 c0)=false:=rfl
theorem xx:AV.cr (.bZ)=false:=rfl
theorem Ae {eb:Bool}:AV.cr (b6 eb)=false:=by cases eb<;>rfl
theorem L4 {L:List Nat} {x:Ar} {z:Value}:cp L x (.v z)= .v z:=rfl
theorem F4 {L:List Nat} {x:Ar} {k:IntKind} {i:Int}:cp L x (.int k i)= .int k i:=rfl
theorem Cs {L:List Nat} {x:Ar} {b:Bool}:cp L x (.bool b)= .bool b:=rfl
theorem F5 {L:List Nat} {x:Ar} {l:List UInt8}:cp L x (.str l)= .str l:=rfl
theorem F6 {L:List Nat} {x:Ar} {s o:Nat}:cp L x (.ptr s o)= .ptr s o:=rfl
theorem Jp {L:List Nat} {x:Ar} {a:AV} {o:Nat}:cp L x (.ep a o)= .ep a o:=rfl
theorem Jq {L:List Nat} {x:Ar} {f:Nat} {cs:List AV}:cp L x (.fn f cs)= .fn f cs:=rfl
theorem Jr {L:List Nat} {x:Ar}:cp L x (.un)= .un:=rfl
theorem Js {L:List Nat} {x:Ar} {c:UInt8}:cp L x (b8 c)=b8 c:=rfl
theorem Jt {L:List Nat} {x:Ar} {k:Nat} {xs:List AV}:cp L x (.sl .n k xs)= .sl .n k xs:=rfl
theorem F7 {L:List Nat} {x:Ar} {k:Nat} {xs:List AV}:cp L x (.sl .ex k xs)= .sl .ex k xs:=rfl
theorem F8 {L:List Nat} {x:Ar} {l:Loc} {k:Nat} {xs:List AV}:cp L x (.sl (.fr l) k xs)= .sl (.fr l) k xs:=rfl
theorem F9 {L:List Nat} {x:Ar} {cs:List AV}:cp L x (.agg cs)= .agg (cs.map AV.aS):=rfl
theorem Ga {L:List Nat} {x:Ar} {cs:List AV}:cp L x (.aL cs)= .aL (cs.map AV.aS):=rfl
theorem Gb {L:List Nat} {x:Ar} {q0 k0 o0 m0:Nat}:cp L x (.bD q0 k0 o0 m0)= .bD q0 k0 o0 m0:=rfl
theorem Gc {L:List Nat} {x:Ar} {q0 k0 m0 c0:Nat}:cp L x (.bf q0 k0 m0 c0)= .bf q0 k0 m0 c0:=rfl
theorem Gd {L:List Nat} {x:Ar}:cp L x (.bZ)= .bZ:=rfl
theorem Ju {L:List Nat} {x:Ar} {eb:Bool}:cp L x (b6 eb)=b6 eb:=by cases eb<;>rfl
theorem Jv {L:List Nat} {u k:Nat} {xs:List AV}:cp L (.t u) (.sl .own k xs)=if L.contains u then .sl (.fr (.tmp u)) k xs else .sl .n k xs:=rfl
theorem Jw {L:List Nat} {a:AV} {k:Nat} {xs:List AV}:cp L (.c a) (.sl .own k xs)= .sl .n k xs:=rfl
theorem Jx {P:Program} {L:List Nat} {N n0:Nat} {e:Env} {ah:AH} {t:List It} {Q:Exit→Env→AH→Prop} {r:List az} {d:Option Nat} {x:Ar} {z:Value}:eE P L N n0 e ah d r t Q x (.v z)=U P L N n0 (.ops r::t) Q .normal (ak L e d (cp L x (.v z))) ah:=rfl
theorem Ct {P:Program} {L:List Nat} {N n0:Nat} {e:Env} {ah:AH} {t:List It} {Q:Exit→Env→AH→Prop} {r:List az} {d:Option Nat} {x:Ar} {k:IntKind} {i:Int}:eE P L N n0 e ah d r t Q x (.int k i)=U P L N n0 (.ops r::t) Q .normal (ak L e d (cp L x (.int k i))) ah:=rfl
theorem Af {P:Program} {L:List Nat} {N n0:Nat} {e:Env} {ah:AH} {t:List It} {Q:Exit→Env→AH→Prop} {r:List az} {d:Option Nat} {x:Ar} {b:Bool}:eE P L N n0 e ah d r t Q x (.bool b)=U P L N n0 (.ops r::t) Q .normal (ak L e d (cp L x (.bool b))) ah:=rfl
theorem Cu {P:Program} {L:List Nat} {N n0:Nat} {e:Env} {ah:AH} {t:List It} {Q:Exit→Env→AH→Prop} {r:List az} {d:Option Nat} {x:Ar} {l:List UInt8}:eE P L N n0 e ah d r t Q x (.str l)=U P L N n0 (.ops r::t) Q .normal (ak L e d (cp L x (.str l))) ah:=rfl
theorem Cw {P:Program} {L:List Nat} {N n0:Nat} {e:Env} {ah:AH} {t:List It} {Q:Exit→Env→AH→Prop} {r:List az} {d:Option Nat} {x:Ar} {s o:Nat}:eE P L N n0 e ah d r t Q x (.ptr s o)=U P L N n0 (.ops r::t) Q .normal (ak L e d (cp L x (.ptr s o))) ah:=rfl
theorem Ge {P:Program} {L:List Nat} {N n0:Nat} {e:Env} {ah:AH} {t:List It} {Q:Exit→Env→AH→Prop} {r:List az} {d:Option Nat} {x:Ar} {a:AV} {o:Nat}:eE P L N n0 e ah d r t Q x (.ep a o)=U P L N n0 (.ops r::t) Q .normal (ak L e d (cp L x (.ep a o))) ah:=rfl
theorem Gf {P:Program} {L:List Nat} {N n0:Nat} {e:Env} {ah:AH} {t:List It} {Q:Exit→Env→AH→Prop} {r:List az} {d:Option Nat} {x:Ar} {f:Nat} {cs:List AV}:eE P L N n0 e ah d r t Q x (.fn f cs)=U P L N n0 (.ops r::t) Q .normal (ak L e d (cp L x (.fn f cs))) ah:=rfl
theorem Gg {P:Program} {L:List Nat} {N n0:Nat} {e:Env} {ah:AH} {t:List It} {Q:Exit→Env→AH→Prop} {r:List az} {d:Option Nat} {x:Ar}:eE P L N n0 e ah d r t Q x (.un)=U P L N n0 (.ops r::t) Q .normal (ak L e d (cp L x (.un))) ah:=rfl
theorem Gh {P:Program} {L:List Nat} {N n0:Nat} {e:Env} {ah:AH} {t:List It} {Q:Exit→Env→AH→Prop} {r:List az} {d:Option Nat} {x:Ar} {c:UInt8}:eE P L N n0 e ah d r t Q x (b8 c)=U P L N n0 (.ops r::t) Q .normal (ak L e d (cp L x (b8 c))) ah:=rfl
theorem Gi {P:Program} {L:List Nat} {N n0:Nat} {e:Env} {ah:AH} {t:List It} {Q:Exit→Env→AH→Prop} {r:List az} {d:Option Nat} {x:Ar} {k:Nat} {xs:List AV}:eE P L N n0 e ah d r t Q x (.sl .n k xs)=U P L N n0 (.ops r::t) Q .normal (ak L e d (cp L x (.sl .n k xs))) ah:=rfl
theorem Cy {P:Program} {L:List Nat} {N n0:Nat} {e:Env} {ah:AH} {t:List It} {Q:Exit→Env→AH→Prop} {r:List az} {d:Option Nat} {x:Ar} {k:Nat} {xs:List AV}:eE P L N n0 e ah d r t Q x (.sl .ex k xs)=U P L N n0 (.ops r::t) Q .normal (ak L e d (cp L x (.sl .ex k xs))) ah:=rfl
theorem Cz {P:Program} {L:List Nat} {N n0:Nat} {e:Env} {ah:AH} {t:List It} {Q:Exit→Env→AH→Prop} {r:List az} {d:Option Nat} {x:Ar} {l:Loc} {k:Nat} {xs:List AV}:eE P L N n0 e ah d r t Q x (.sl (.fr l) k xs)=U P L N n0 (.ops r::t) Q .normal (ak L e d (cp L x (.sl (.fr l) k xs))) ah:=rfl
theorem CA {P:Program} {L:List Nat} {N n0:Nat} {e:Env} {ah:AH} {t:List It} {Q:Exit→Env→AH→Prop} {r:List az} {d:Option Nat} {x:Ar} {cs:List AV}:eE P L N n0 e ah d r t Q x (.agg cs)=U P L N n0 (.ops r::t) Q .normal (ak L e d (cp L x (.agg cs))) ah:=rfl
theorem CB {P:Program} {L:List Nat} {N n0:Nat} {e:Env} {ah:AH} {t:List It} {Q:Exit→Env→AH→Prop} {r:List az} {d:Option Nat} {x:Ar} {cs:List AV}:eE P L N n0 e ah d r t Q x (.aL cs)=U P L N n0 (.ops r::t) Q .normal (ak L e d (cp L x (.aL cs))) ah:=rfl
theorem CC {P:Program} {L:List Nat} {N n0:Nat} {e:Env} {ah:AH} {t:List It} {Q:Exit→Env→AH→Prop} {r:List az} {d:Option Nat} {x:Ar} {q0 k0 o0 m0:Nat}:eE P L N n0 e ah d r t Q x (.bD q0 k0 o0 m0)=U P L N n0 (.ops r::t) Q .normal (ak L e d (cp L x (.bD q0 k0 o0 m0))) ah:=rfl
theorem CD {P:Program} {L:List Nat} {N n0:Nat} {e:Env} {ah:AH} {t:List It} {Q:Exit→Env→AH→Prop} {r:List az} {d:Option Nat} {x:Ar} {q0 k0 m0 c0:Nat}:eE P L N n0 e ah d r t Q x (.bf q0 k0 m0 c0)=U P L N n0 (.ops r::t) Q .normal (ak L e d (cp L x (.bf q0 k0 m0 c0))) ah:=rfl
theorem CE {P:Program} {L:List Nat} {N n0:Nat} {e:Env} {ah:AH} {t:List It} {Q:Exit→Env→AH→Prop} {r:List az} {d:Option Nat} {x:Ar}:eE P L N n0 e ah d r t Q x (.bZ)=U P L N n0 (.ops r::t) Q .normal (ak L e d (cp L x (.bZ))) ah:=rfl
theorem Gj {P:Program} {L:List Nat} {N n0:Nat} {e:Env} {ah:AH} {t:List It} {Q:Exit→Env→AH→Prop} {r:List az} {d:Option Nat} {x:Ar} {eb:Bool}:eE P L N n0 e ah d r t Q x (b6 eb)=U P L N n0 (.ops r::t) Q .normal (ak L e d (cp L x (b6 eb))) ah:=by cases eb<;>rfl
theorem Gk {P:Program} {L:List Nat} {N n0:Nat} {e:Env} {ah:AH} {t:List It} {Q:Exit→Env→AH→Prop} {r:List az} {d:Option Nat} {y k:Nat} {xs:List AV}:eE P L N n0 e ah d r t Q (.t y) (.sl .own k xs)=U P L N n0 (.ops r::t) Q .normal (ak L (put e y (.sl .n k xs)) d (.sl .own k xs)) ah:=rfl
theorem Gl {P:Program} {L:List Nat} {N n0:Nat} {e:Env} {ah:AH} {t:List It} {Q:Exit→Env→AH→Prop} {r:List az} {d:Option Nat} {a:AV} {k:Nat} {xs:List AV}:eE P L N n0 e ah d r t Q (.c a) (.sl .own k xs)=U P L N n0 (.ops r::t) Q .normal (ak L e d (cp L (.c a) (.sl .own k xs))) ah:=rfl
theorem Gm {L:List Nat} {e:Env} {ah:AH} {d:Option Nat} {a b:Ar}:Bi L e ah d a b (.bool true)=some (ak L e d (ev e a).sh,ah):=rfl
theorem Gn {L:List Nat} {e:Env} {ah:AH} {d:Option Nat} {a b:Ar}:Bi L e ah d a b (.bool false)=some (ak L e d (ev e b).sh,ah):=rfl
theorem CF {L:List Nat} {e:Env} {ah:AH} {d:Option Nat} {s o:Nat}:H8 L e ah d (.ptr s o)=some (ak L e d (.ptr s o),ah):=rfl
theorem Gp {L:List Nat} {e:Env} {ah:AH} {d:Option Nat} {a:AV} {o:Nat}:H8 L e ah d (.ep a o)=some (ak L e d (.ep a o),ah):=rfl
theorem CG {L:List Nat} {e:Env} {ah:AH} {d:Option Nat} {q s o:Nat}:H9 L e ah d q (.ptr s o)=some (ak L e d (.ptr s (o+q)),ah):=rfl
theorem Gq {L:List Nat} {e:Env} {ah:AH} {d:Option Nat} {q o:Nat} {a:AV}:H9 L e ah d q (.ep a o)=some (ak L e d (.ep a (o+q)),ah):=rfl
theorem Gr {L:List Nat} {e:Env} {ah:AH} {d:Option Nat} {n:Option Nat} {s o:Nat}:wB L d n e ah (.ptr s o)=Ls L d n s o e ah (ah[s]?):=rfl
theorem Jy {L:List Nat} {e:Env} {ah:AH} {d:Option Nat} {o:Nat} {a:AV}:wB L d none e ah (.ep a o)=EB L d e ah (a.cells[o]?):=rfl
theorem Jz {L:List Nat} {e:Env} {ah:AH} {d:Option Nat} {n o:Nat} {a:AV}:wB L d (some n) e ah (.ep a o)=if o+n≤a.cells.length∧bz ((a.cells.drop o).take n) then some (ak L e d (.agg (((a.cells.drop o).take n).map AV.s1)),ah) else none:=rfl
theorem JA {s1 o1:Nat} {z:Value}:jQ s1 o1 (some (.v z))=some (AV.aS (.v z)):=rfl
theorem CH {s1 o1:Nat} {k:IntKind} {i:Int}:jQ s1 o1 (some (.int k i))=some (AV.aS (.int k i)):=rfl
theorem Ag {s1 o1:Nat} {b:Bool}:jQ s1 o1 (some (.bool b))=some (AV.aS (.bool b)):=rfl
theorem CI {s1 o1:Nat} {l:List UInt8}:jQ s1 o1 (some (.str l))=some (AV.aS (.str l)):=rfl
theorem CJ {s1 o1:Nat} {s o:Nat}:jQ s1 o1 (some (.ptr s o))=some (AV.aS (.ptr s o)):=rfl
theorem Gs {s1 o1:Nat} {a:AV} {o:Nat}:jQ s1 o1 (some (.ep a o))=some (AV.aS (.ep a o)):=rfl
theorem Gt {s1 o1:Nat} {f:Nat} {cs:List AV}:jQ s1 o1 (some (.fn f cs))=some (AV.aS (.fn f cs)):=rfl
theorem Gu {s1 o1:Nat}:jQ s1 o1 (some (.un))=some (AV.aS (.un)):=rfl
theorem Gv {s1 o1:Nat} {c:UInt8}:jQ s1 o1 (some (b8 c))=some (AV.aS (b8 c)):=rfl
theorem Gw {s1 o1:Nat} {k:Nat} {xs:List AV}:jQ s1 o1 (some (.sl .n k xs))=some (AV.aS (.sl .n k xs)):=rfl
theorem CK {s1 o1:Nat} {k:Nat} {xs:List AV}:jQ s1 o1 (some (.sl .ex k xs))=some (AV.aS (.sl .ex k xs)):=rfl
theorem CL {s o k:Nat} {xs:List AV}:jQ s o (some (.sl .own k xs))=some (.sl (.fr (.cell s o)) k xs):=rfl
theorem CM {s1 o1:Nat} {l:Loc} {k:Nat} {xs:List AV}:jQ s1 o1 (some (.sl (.fr l) k xs))=some (AV.aS (.sl (.fr l) k xs)):=rfl
theorem CN {s1 o1:Nat} {q0 k0 o0 m0:Nat}:jQ s1 o1 (some (.bD q0 k0 o0 m0))=some (AV.aS (.bD q0 k0 o0 m0)):=rfl
theorem CO {s1 o1:Nat} {q0 k0 m0 c0:Nat}:jQ s1 o1 (some (.bf q0 k0 m0 c0))=some (AV.aS (.bf q0 k0 m0 c0)):=rfl
theorem CP {s1 o1:Nat}:jQ s1 o1 (some (.bZ))=some (AV.aS (.bZ)):=rfl
theorem Gx {s1 o1:Nat} {eb:Bool}:jQ s1 o1 (some (b6 eb))=some (AV.aS (b6 eb)):=by cases eb<;>rfl
theorem L5 {L:List Nat} {e:Env} {ah:AH} {d:Option Nat} {ks:List Pk} {neq:Bool} {zq bs:List AV}:MW L e ah d ks neq (.agg zq) (.agg bs)=(bl ks zq bs).map fun b=>(ak L e d (.bool (if neq then !b else b)),ah):=rfl
theorem L6 {L:List Nat} {e:Env} {ah:AH} {d:Option Nat} {l:List UInt8} {k k2:IntKind} {i j:Int}:DL L e ah d l (.int k i) (.int k2 j)=(sub l i j).map fun m=>(ak L e d (.str m),ah):=rfl
theorem L7 {L:List Nat} {e:Env} {ah:AH} {d:Option Nat} {q:Nat} {xs:List AV} {k k2:IntKind} {i j:Int}:DM L e ah d q xs (.int k i) (.int k2 j)=(sub xs i j).map fun ys=>(ak L e d (.sl .n q ys),ah):=rfl
theorem JB {L:List Nat} {e:Env} {ah:AH} {d:Option Nat} {q:Nat} {xs:List AV} {k k2 k3:IntKind} {i j m:Int}:tD L e ah d q xs (.int k i) (.int k2 j) (.int k3 m)=(rG xs i j m).map fun ys=>(ak L e d (.sl .ex q ys),ah):=rfl
theorem JC {L:List Nat} {e:Env} {ah:AH} {d:Option Nat} {k b:Nat} {x:Ar} {ys xs:List AV} {tg:Tg}:wH L e ah d k b x ys (.sl tg k xs)=tE L e ah d k x xs tg (dn b xs ys):=by simp [wH]
theorem JD {L:List Nat} {e:Env} {ah:AH} {d:Option Nat} {k:Nat} {x:Ar} {xs zs:List AV}:jR L e ah d k x xs zs .ex=some (ak L e d (.sl .own k zs),ah):=rfl
theorem Gy {L:List Nat} {e:Env} {ah:AH} {d:Option Nat} {k y:Nat} {xs zs:List AV}:jR L e ah d k (.t y) xs zs .own=some (ak L (put e y (.sl .n k xs)) d (.sl .own k zs),ah):=rfl
def ON (L:List Nat) (e:Env) (ah:AH) (d:Option Nat) (k u:Nat) (zs:List AV):AV→Option (Env×AH)
 | .sl .own k' us=>if k'=k then some (ak L (put e u (.sl .n k' us)) d (.sl .own k zs),ah) else none
 |_=>none
def L8 (L:List Nat) (e:Env) (ah:AH) (d:Option Nat) (k s q:Nat) (zs cs:List AV):Option AV→Option (Env×AH)
 |some (.sl .own k' us)=>if k'=k then (over cs q [.sl .n k' us]).map fun cs=>(ak L e d (.sl .own k zs),ah.set s cs) else none
 |_=>none
def OO (L:List Nat) (e:Env) (ah:AH) (d:Option Nat) (k s q:Nat) (zs:List AV):Option (List AV)→Option (Env×AH)
 |some cs=>L8 L e ah d k s q zs cs (cs[q]?)
 |none=>none
theorem L9 {L:List Nat} {e:Env} {ah:AH} {d:Option Nat} {k u:Nat} {x:Ar} {xs zs:List AV}:jR L e ah d k x xs zs (.fr (.tmp u))=ON L e ah d k u zs (Am.get e u):=by simp only [jR];cases Am.get e u with|sl tg k2 us=>cases tg<;>rfl|_=>rfl
theorem Ma {L:List Nat} {e:Env} {ah:AH} {d:Option Nat} {k s q:Nat} {x:Ar} {xs zs:List AV}:jR L e ah d k x xs zs (.fr (.cell s q))=OO L e ah d k s q zs (ah[s]?):=by simp only [jR];cases ah[s]? with|none=>rfl|some cs=>simp only [OO];cases cs[q]? with|none=>rfl|some a=>cases a with|sl tg k2 us=>cases tg<;>rfl|_=>rfl
theorem OP {L:List Nat} {e:Env} {ah:AH} {d:Option Nat} {k u:Nat} {zs us:List AV}:ON L e ah d k u zs (.sl .own k us)=some (ak L (put e u (.sl .n k us)) d (.sl .own k zs),ah):=by simp [ON]
theorem OQ {L:List Nat} {e:Env} {ah:AH} {d:Option Nat} {k s q:Nat} {zs cs:List AV}:OO L e ah d k s q zs (some cs)=L8 L e ah d k s q zs cs (cs[q]?):=rfl
theorem OR {L:List Nat} {e:Env} {ah:AH} {d:Option Nat} {k s q:Nat} {zs cs us:List AV}:L8 L e ah d k s q zs cs (some (.sl .own k us))=(over cs q [.sl .n k us]).map fun cs=>(ak L e d (.sl .own k zs),ah.set s cs):=by simp [L8]
theorem OS:bz []=true:=rfl
theorem OT {a:AV} {r:List AV}:bz (a::r)=(a.flat&&bz r):=rfl
theorem OU:aY []=true:=rfl
theorem Q7 {a:AV} {r:List AV}:aY (a::r)=(a.dV&&aY r):=rfl
theorem OV:cR []=true:=rfl
theorem Q8 {a:AV} {r:List AV}:cR (a::r)=(a.np&&cR r):=rfl
theorem Q9 {t:Nat}:Am.get [] t= .un:=rfl
theorem Ra {i t:Nat} {a:AV} {r:Env}:Am.get ((i,a)::r) t=if i=t then a else Am.get r t:=rfl
theorem Rb {d:Nat} {a:AV}:put [] d a=[(d,a)]:=rfl
theorem Rc {i d:Nat} {a b:AV} {r:Env}:put ((i,b)::r) d a=if i=d then (d,a)::r else if d<i then (d,a)::(i,b)::r else (i,b)::put r d a:=rfl
theorem Rd {L:List Nat}:keep L []=[]:=rfl
theorem Re {L:List Nat} {i:Nat} {a:AV} {r:Env}:keep L ((i,a)::r)=if L.contains i then (i,a)::keep L r else keep L r:=rfl
theorem Rf {l:Loc}:eW l []=[]:=rfl
theorem Rg {l:Loc} {i:Nat} {a:AV} {r:Env}:eW l ((i,a)::r)=(i,a.b9 l)::eW l r:=rfl
theorem Rh:mJ []=[]:=rfl
theorem Ri {i:Nat} {a:AV} {r:Env}:mJ ((i,a)::r)=(i,a.dU)::mJ r:=rfl
theorem Rj {e:Env}:iL e none=e:=rfl
theorem Rk {e:Env} {d:Nat}:iL e (some d)=put e d (.aL []):=rfl
theorem Rl {L:List Nat} {e:Env} {a:AV}:ak L e none a=e:=rfl
theorem Rm {L:List Nat} {e:Env} {d:Nat} {a:AV}:ak L e (some d) a=if L.contains d then (if a.aT then put (eW (.tmp d) e) d a else put e d a.df) else put e d a:=rfl
theorem Rn {i:Nat}:cx i []=[]:=rfl
theorem Ro {i:Nat} {a:AV} {r:List AV}:cx i (a::r)=(i,a)::cx (i+1) r:=rfl
theorem Rp {k:IntKind} {i:Int}:vK k i= .int k i:=rfl
theorem Rq {a b:Nat}:(Loc.tmp a=Loc.tmp b)=(a=b):=by simp
theorem Rr {a b c d:Nat}:(Loc.cell a b=Loc.cell c d)=(a=c∧b=d):=by simp
theorem OW {a c d:Nat}:(Loc.tmp a=Loc.cell c d)=False:=by simp
theorem OX {a c d:Nat}:(Loc.cell c d=Loc.tmp a)=False:=by simp
def k6 (e:Env) (ah:AH) (s p n:Nat) (x:Ar) (cs:List AV):AV→Option (Env×AH)
 | .sl .own k xs=>match x with
   | .t y=>if n=1 then (over cs p [.sl .own k xs]).map fun cs=>(eW (.cell s p) (put e y (.sl .n k xs)),ah.set s cs) else none
   | .c a=>if (AV.sl .own k xs).cells.length=n∧aY (AV.sl .own k xs).cells then (over cs p ((AV.sl .own k xs).cells.map AV.aS)).map fun cs=>(e,ah.set s cs) else none
 |w=>if w.cells.length=n∧aY w.cells then (over cs p (w.cells.map AV.aS)).map fun cs=>(e,ah.set s cs) else none
def Mb (e:Env) (ah:AH) (s p n:Nat) (x:Ar):Option (List AV)→Option (Env×AH)
 |some cs=>k6 e ah s p n x cs (ev e x)
 |none=>none
def OY (e:Env) (ah:AH) (n:Nat) (x:Ar):AV→Option (Env×AH)
 | .ptr s p=>Mb e ah s p n x (ah[s]?)
 |_=>none
theorem M7 {P:Program} {L:List Nat} {N n0:Nat} {e:Env} {ah:AH} {t:List It} {Q:Exit→Env→AH→Prop} {r:List az} {d:Option Nat} {a x:Ar} {n:Nat} {g:Option (Nat×Bool)}:UG P L N n0 ⟨d, .st a x n,g⟩ r t Q e ah (some true)=US P L N n0 r t Q (OY e ah n x (ev e a)):=by
 simp only [UG,aO]
 congr 1
 cases ev e a with
 |ptr s p=>
  simp only [OY]
  cases ah[s]? with
  |none=>rfl
  |some cs=>
   simp only [Mb]
   cases ev e x with
   |sl tg k xs=>cases tg<;>cases x<;>rfl
   |_=>rfl
 |_=>rfl
theorem OZ {e:Env} {ah:AH} {s p n:Nat} {x:Ar}:OY e ah n x (.ptr s p)=Mb e ah s p n x (ah[s]?):=rfl
theorem O0 {e:Env} {ah:AH} {s p n:Nat} {x:Ar} {cs:List AV}:Mb e ah s p n x (some cs)=k6 e ah s p n x cs (ev e x):=rfl
theorem Gz {e:Env} {ah:AH} {s p n y k:Nat} {cs xs:List AV}:k6 e ah s p n (.t y) cs (.sl .own k xs)=if n=1 then (over cs p [.sl .own k xs]).map fun cs=>(eW (.cell s p) (put e y (.sl .n k xs)),ah.set s cs) else none:=rfl
theorem JE {e:Env} {ah:AH} {s p n:Nat} {x:Ar} {cs:List AV} {z:Value}:k6 e ah s p n x cs (.v z)=if (AV.cells (.v z)).length=n∧aY (AV.cells (.v z)) then (over cs p ((AV.cells (.v z)).map AV.aS)).map fun cs=>(e,ah.set s cs) else none:=rfl
theorem CQ {e:Env} {ah:AH} {s p n:Nat} {x:Ar} {cs:List AV} {k:IntKind} {i:Int}:k6 e ah s p n x cs (.int k i)=if (AV.cells (.int k i)).length=n∧aY (AV.cells (.int k i)) then (over cs p ((AV.cells (.int k i)).map AV.aS)).map fun cs=>(e,ah.set s cs) else none:=rfl
theorem Ah {e:Env} {ah:AH} {s p n:Nat} {x:Ar} {cs:List AV} {b:Bool}:k6 e ah s p n x cs (.bool b)=if (AV.cells (.bool b)).length=n∧aY (AV.cells (.bool b)) then (over cs p ((AV.cells (.bool b)).map AV.aS)).map fun cs=>(e,ah.set s cs) else none:=rfl
theorem CS {e:Env} {ah:AH} {s p n:Nat} {x:Ar} {cs:List AV} {l:List UInt8}:k6 e ah s p n x cs (.str l)=if (AV.cells (.str l)).length=n∧aY (AV.cells (.str l)) then (over cs p ((AV.cells (.str l)).map AV.aS)).map fun cs=>(e,ah.set s cs) else none:=rfl
theorem CT {e:Env} {ah:AH} {s p n:Nat} {x:Ar} {cs:List AV} {s0 o:Nat}:k6 e ah s p n x cs (.ptr s0 o)=if (AV.cells (.ptr s0 o)).length=n∧aY (AV.cells (.ptr s0 o)) then (over cs p ((AV.cells (.ptr s0 o)).map AV.aS)).map fun cs=>(e,ah.set s cs) else none:=rfl
theorem GA {e:Env} {ah:AH} {s p n:Nat} {x:Ar} {cs:List AV} {a:AV} {o:Nat}:k6 e ah s p n x cs (.ep a o)=if (AV.cells (.ep a o)).length=n∧aY (AV.cells (.ep a o)) then (over cs p ((AV.cells (.ep a o)).map AV.aS)).map fun cs=>(e,ah.set s cs) else none:=rfl
theorem GB {e:Env} {ah:AH} {s p n:Nat} {x:Ar} {cs:List AV} {f:Nat} {ds:List AV}:k6 e ah s p n x cs (.fn f ds)=if (AV.cells (.fn f ds)).length=n∧aY (AV.cells (.fn f ds)) then (over cs p ((AV.cells (.fn f ds)).map AV.aS)).map fun cs=>(e,ah.set s cs) else none:=rfl
theorem GC {e:Env} {ah:AH} {s p n:Nat} {x:Ar} {cs:List AV} {c:UInt8}:k6 e ah s p n x cs (b8 c)=if (AV.cells (b8 c)).length=n∧aY (AV.cells (b8 c)) then (over cs p ((AV.cells (b8 c)).map AV.aS)).map fun cs=>(e,ah.set s cs) else none:=rfl
theorem GD {e:Env} {ah:AH} {s p n:Nat} {x:Ar} {cs:List AV} {k:Nat} {xs:List AV}:k6 e ah s p n x cs (.sl .n k xs)=if (AV.cells (.sl .n k xs)).length=n∧aY (AV.cells (.sl .n k xs)) then (over cs p ((AV.cells (.sl .n k xs)).map AV.aS)).map fun cs=>(e,ah.set s cs) else none:=rfl
theorem CU {e:Env} {ah:AH} {s p n:Nat} {x:Ar} {cs:List AV} {k:Nat} {xs:List AV}:k6 e ah s p n x cs (.sl .ex k xs)=if (AV.cells (.sl .ex k xs)).length=n∧aY (AV.cells (.sl .ex k xs)) then (over cs p ((AV.cells (.sl .ex k xs)).map AV.aS)).map fun cs=>(e,ah.set s cs) else none:=rfl
theorem CV {e:Env} {ah:AH} {s p n:Nat} {x:Ar} {cs:List AV} {l:Loc} {k:Nat} {xs:List AV}:k6 e ah s p n x cs (.sl (.fr l) k xs)=if (AV.cells (.sl (.fr l) k xs)).length=n∧aY (AV.cells (.sl (.fr l) k xs)) then (over cs p ((AV.cells (.sl (.fr l) k xs)).map AV.aS)).map fun cs=>(e,ah.set s cs) else none:=rfl
theorem CW {e:Env} {ah:AH} {s p n:Nat} {x:Ar} {cs:List AV} {ds:List AV}:k6 e ah s p n x cs (.agg ds)=if (AV.cells (.agg ds)).length=n∧aY (AV.cells (.agg ds)) then (over cs p ((AV.cells (.agg ds)).map AV.aS)).map fun cs=>(e,ah.set s cs) else none:=rfl
theorem CX {e:Env} {ah:AH} {s p n:Nat} {x:Ar} {cs:List AV} {q0 k0 o0 m0:Nat}:k6 e ah s p n x cs (.bD q0 k0 o0 m0)=if (AV.cells (.bD q0 k0 o0 m0)).length=n∧aY (AV.cells (.bD q0 k0 o0 m0)) then (over cs p ((AV.cells (.bD q0 k0 o0 m0)).map AV.aS)).map fun cs=>(e,ah.set s cs) else none:=rfl
theorem CY {e:Env} {ah:AH} {s p n:Nat} {x:Ar} {cs:List AV} {q0 k0 m0 c0:Nat}:k6 e ah s p n x cs (.bf q0 k0 m0 c0)=if (AV.cells (.bf q0 k0 m0 c0)).length=n∧aY (AV.cells (.bf q0 k0 m0 c0)) then (over cs p ((AV.cells (.bf q0 k0 m0 c0)).map AV.aS)).map fun cs=>(e,ah.set s cs) else none:=rfl
theorem CZ {e:Env} {ah:AH} {s p n:Nat} {x:Ar} {cs:List AV}:k6 e ah s p n x cs (.bZ)=if (AV.cells (.bZ)).length=n∧aY (AV.cells (.bZ)) then (over cs p ((AV.cells (.bZ)).map AV.aS)).map fun cs=>(e,ah.set s cs) else none:=rfl
theorem GG {e:Env} {ah:AH} {s p n:Nat} {x:Ar} {cs:List AV} {eb:Bool}:k6 e ah s p n x cs (b6 eb)=if (AV.cells (b6 eb)).length=n∧aY (AV.cells (b6 eb)) then (over cs p ((AV.cells (b6 eb)).map AV.aS)).map fun cs=>(e,ah.set s cs) else none:=by cases eb<;>rfl
theorem Mc {c0:AV} {cs ws:List AV} {o:Nat}:over (c0::cs) o ws=if o+ws.length≤(c0::cs).length then some ((c0::cs).take o++ws++(c0::cs).drop (o+ws.length)) else none:=rfl
theorem Rs {e:Env} {cs:List AV}:fill e cs []=some cs:=rfl
def JF (e:Env) (r:List (Nat×Nat×Ar)):Option (List AV)→Option (List AV)
 |some cs=>fill e cs r
 |none=>none
theorem Rt {e:Env} {cs:List AV} {o n:Nat} {x:Ar} {r:List (Nat×Nat×Ar)}:fill e cs ((o,n,x)::r)=if (ev e x).cells.length=n∧aY (ev e x).cells then JF e r (over cs o ((ev e x).cells.map AV.aS)) else none:=by
 simp only [fill]
 split
 · cases over cs o ((ev e x).cells.map AV.aS)<;>rfl
 · rfl
theorem Ru {e:Env} {cs:List AV} {r:List (Nat×Nat×Ar)}:JF e r (some cs)=fill e cs r:=rfl
theorem JG {P:Program} {L:List Nat} {N n0:Nat} {e:Env} {ah:AH} {t:List It} {Q:Exit→Env→AH→Prop} {r:List az} {d:Option Nat} {x:Ar} {g:Option (Nat×Bool)}:UG P L N n0 ⟨d, .len x,g⟩ r t Q e ah (some true)=US P L N n0 r t Q (DP L e ah d (ev e x)):=by simp only [UG,aO];cases ev e x<;>rfl
theorem Md {L:List Nat} {e:Env} {ah:AH} {d:Option Nat} {tg:Tg} {k:Nat} {xs:List AV}:DP L e ah d (.sl tg k xs)=some (ak L e d (.int .i64 xs.length),ah):=rfl
theorem DQ {P:Program} {L:List Nat} {N n0:Nat} {e:Env} {ah:AH} {t:List It} {Q:Exit→Env→AH→Prop} {r:List az} {d:Option Nat} {x:Ar} {g:Option (Nat×Bool)}:UG P L N n0 ⟨d, .lens x,g⟩ r t Q e ah (some true)=US P L N n0 r t Q (II L e ah d (ev e x)):=by simp only [UG,aO];cases ev e x<;>rfl
theorem JH {L:List Nat} {e:Env} {ah:AH} {d:Option Nat} {l:List UInt8}:II L e ah d (.str l)=some (ak L e d (.int .i64 l.length),ah):=rfl
theorem JI {P:Program} {L:List Nat} {N n0:Nat} {e:Env} {ah:AH} {t:List It} {Q:Exit→Env→AH→Prop} {r:List az} {d:Option Nat} {x:Ar} {i:Nat} {g:Option (Nat×Bool)}:UG P L N n0 ⟨d, .ext x i,g⟩ r t Q e ah (some true)=US P L N n0 r t Q (IK L e ah d i (ev e x)):=by simp only [UG,aO];cases ev e x with|aL cs=>simp only [IK];cases cs[i]? <;>rfl|_=>rfl
theorem Me {L:List Nat} {e:Env} {ah:AH} {d:Option Nat} {i:Nat} {cs:List AV}:IK L e ah d i (.aL cs)=IJ L e ah d (cs[i]?):=rfl
theorem Mf {L:List Nat} {e:Env} {ah:AH} {d:Option Nat} {a:AV}:IJ L e ah d (some a)=some (ak L e d a.sh,ah):=rfl
theorem DR {P:Program} {L:List Nat} {N n0:Nat} {e:Env} {ah:AH} {t:List It} {Q:Exit→Env→AH→Prop} {r:List az} {d:Option Nat} {x:Ar} {q:Nat} {n:Option Nat} {g:Option (Nat×Bool)}:UG P L N n0 ⟨d, .vu x q n,g⟩ r t Q e ah (some true)=US P L N n0 r t Q (wK L e ah d q n (ev e x)):=by
 simp only [UG,aO]
 cases ev e x with
 |agg cs=>
  cases n with
  |some n=>rfl
  |none=>simp only [wK];cases cs[q]? <;>rfl
 |_=>cases n<;>rfl
theorem O1 {L:List Nat} {e:Env} {ah:AH} {d:Option Nat} {q:Nat} {cs:List AV}:wK L e ah d q none (.agg cs)=Bo L e ah d (cs[q]?):=rfl
theorem O2 {L:List Nat} {e:Env} {ah:AH} {d:Option Nat} {a:AV}:Bo L e ah d (some a)=some (ak L e d a.aS,ah):=rfl
theorem O3 {L:List Nat} {e:Env} {ah:AH} {d:Option Nat} {q n:Nat} {cs:List AV}:wK L e ah d q (some n) (.agg cs)=if q+n≤cs.length then some (ak L e d (.agg (((cs.drop q).take n).map AV.aS)),ah) else none:=rfl
theorem JJ {P:Program} {L:List Nat} {N n0:Nat} {e:Env} {ah:AH} {t:List It} {Q:Exit→Env→AH→Prop} {r:List az} {d:Option Nat} {x:Ar} {n:Option Nat} {g:Option (Nat×Bool)}:UG P L N n0 ⟨d, .yy x n,g⟩ r t Q e ah (some true)=US P L N n0 r t Q (IL L e ah d n (ev e x)):=by
 simp only [UG,aO]
 cases ev e x with
 |ep a p=>
  cases n with
  |some n=>rfl
  |none=>simp only [IL,wB,EB];cases a.cells[p]? <;>rfl
 |_=>cases n<;>rfl
theorem O4 {L:List Nat} {e:Env} {ah:AH} {d:Option Nat} {n:Option Nat} {a:AV} {p:Nat}:IL L e ah d n (.ep a p)=wB L d n e ah (.ep a p):=rfl
def T5:=And.intro @IM<|And.intro @Bp<|And.intro @zk<|And.intro @Bq<|And.intro @Br<|And.intro @EG<|And.intro @EH<|And.intro @EI<|And.intro @EJ<|And.intro @EL<|And.intro @Bs<|And.intro @zm<|And.intro @Bt<|And.intro @Bu<|And.intro @Bv<|And.intro @Bw<|And.intro @Bx<|And.intro @By<|And.intro @EM<|And.intro @LZ<|And.intro @EN<|And.intro @Bz<|And.intro @EO<|And.intro @EP<|And.intro @IN<|And.intro @IP<|And.intro @IQ<|And.intro @IT<|And.intro @IU<|And.intro @ER<|And.intro @BA<|And.intro @ES<|And.intro @ET<|And.intro @EU<|And.intro @EV<|And.intro @EW<|And.intro @EX<|And.intro @IV<|And.intro @L0<|And.intro @EY<|And.intro @BB<|And.intro @EZ<|And.intro @E0<|And.intro @IW<|And.intro @IX<|And.intro @IY<|And.intro @IZ<|And.intro @I0<|And.intro @E1<|And.intro @BC<|And.intro @E2<|And.intro @E3<|And.intro @E4<|And.intro @E5<|And.intro @E6<|And.intro @E7<|And.intro @I1<|And.intro @L1<|And.intro @E8<|@BD
def T6:=And.intro @E9<|And.intro @Fa<|And.intro @I2<|And.intro @I3<|And.intro @I4<|And.intro @I5<|And.intro @I6<|And.intro @Fb<|And.intro @BE<|And.intro @Fc<|And.intro @Fe<|And.intro @Ff<|And.intro @Fg<|And.intro @Fh<|And.intro @Fi<|And.intro @I7<|And.intro @L2<|And.intro @Fj<|And.intro @BF<|And.intro @Fk<|And.intro @Fl<|And.intro @I8<|And.intro @I9<|And.intro @Ja<|And.intro @Jb<|And.intro @Jc<|And.intro @Fm<|And.intro @BG<|And.intro @Fo<|And.intro @Fp<|And.intro @Fq<|And.intro @Fs<|And.intro @Ft<|And.intro @Fu<|And.intro @Jd<|And.intro @BH<|And.intro @wL<|And.intro @uL<|And.intro @wM<|And.intro @wN<|And.intro @zn<|And.intro @zo<|And.intro @zp<|And.intro @zq<|And.intro @zu<|And.intro @wO<|And.intro @uM<|And.intro @wP<|And.intro @wQ<|And.intro @wR<|And.intro @wS<|And.intro @wT<|And.intro @wU<|And.intro @zw<|And.intro @Je<|And.intro @BI<|And.intro @zx<|And.intro @BJ<|And.intro @BK<|@Fv
def T7:=And.intro @Fw<|And.intro @Fx<|And.intro @Fy<|And.intro @Fz<|And.intro @BL<|And.intro @zy<|And.intro @BM<|And.intro @BN<|And.intro @BO<|And.intro @BP<|And.intro @BQ<|And.intro @BR<|And.intro @FA<|And.intro @FB<|And.intro @zz<|And.intro @wV<|And.intro @zA<|And.intro @zB<|And.intro @BS<|And.intro @BT<|And.intro @BU<|And.intro @BV<|And.intro @BW<|And.intro @zC<|And.intro @wW<|And.intro @zD<|And.intro @zE<|And.intro @zF<|And.intro @zG<|And.intro @zH<|And.intro @zI<|And.intro @BX<|And.intro @Jf<|And.intro @BY<|And.intro @zJ<|And.intro @BZ<|And.intro @B0<|And.intro @FC<|And.intro @FD<|And.intro @FE<|And.intro @FF<|And.intro @FH<|And.intro @B1<|And.intro @zK<|And.intro @B2<|And.intro @B3<|And.intro @B4<|And.intro @B5<|And.intro @B6<|And.intro @FI<|And.intro @Jg<|And.intro @Jh<|And.intro @B7<|And.intro @wX<|And.intro @uN<|And.intro @wY<|And.intro @wZ<|And.intro @zL<|And.intro @zM<|@zN
def T8:=And.intro @zO<|And.intro @zP<|And.intro @w5<|And.intro @uO<|And.intro @w6<|And.intro @w7<|And.intro @w9<|And.intro @xb<|And.intro @xd<|And.intro @xe<|And.intro @zQ<|And.intro @Ji<|And.intro @B8<|And.intro @zR<|And.intro @B9<|And.intro @Ca<|And.intro @FJ<|And.intro @FK<|And.intro @FM<|And.intro @FN<|And.intro @FO<|And.intro @Cb<|And.intro @zS<|And.intro @Cc<|And.intro @Cd<|And.intro @Ce<|And.intro @Cf<|And.intro @Cg<|And.intro @Ch<|And.intro @FP<|And.intro @FQ<|And.intro @zT<|And.intro @xg<|And.intro @zU<|And.intro @zV<|And.intro @Ci<|And.intro @Cj<|And.intro @Ck<|And.intro @Cm<|And.intro @Cn<|And.intro @zW<|And.intro @xh<|And.intro @zX<|And.intro @zY<|And.intro @zZ<|And.intro @z1<|And.intro @z6<|And.intro @z7<|And.intro @Co<|And.intro @L3<|And.intro @FR<|And.intro @Cp<|And.intro @FT<|And.intro @FU<|And.intro @Jj<|And.intro @Jk<|And.intro @Jl<|And.intro @Jm<|And.intro @Jn<|@FV
def T9:=And.intro @Cq<|And.intro @FW<|And.intro @FX<|And.intro @FY<|And.intro @F1<|And.intro @F2<|And.intro @F3<|And.intro @Jo<|And.intro @Cr<|And.intro @xj<|And.intro @uP<|And.intro @xk<|And.intro @xl<|And.intro @z8<|And.intro @Aa<|And.intro @Ab<|And.intro @Ac<|And.intro @Ad<|And.intro @xm<|And.intro @uQ<|And.intro @xo<|And.intro @xp<|And.intro @xq<|And.intro @xu<|And.intro @xw<|And.intro @xx<|And.intro @Ae<|And.intro @L4<|And.intro @F4<|And.intro @Cs<|And.intro @F5<|And.intro @F6<|And.intro @Jp<|And.intro @Jq<|And.intro @Jr<|And.intro @Js<|And.intro @Jt<|And.intro @F7<|And.intro @F8<|And.intro @F9<|And.intro @Ga<|And.intro @Gb<|And.intro @Gc<|And.intro @Gd<|And.intro @Ju<|And.intro @Jv<|And.intro @Jw<|And.intro @Jx<|And.intro @Ct<|And.intro @Af<|And.intro @Cu<|And.intro @Cw<|And.intro @Ge<|And.intro @Gf<|And.intro @Gg<|And.intro @Gh<|And.intro @Gi<|And.intro @Cy<|And.intro @Cz<|@CA
def Ua:=And.intro @CB<|And.intro @CC<|And.intro @CD<|And.intro @CE<|And.intro @Gj<|And.intro @Gk<|And.intro @Gl<|And.intro @Gm<|And.intro @Gn<|And.intro @CF<|And.intro @Gp<|And.intro @CG<|And.intro @Gq<|And.intro @Gr<|And.intro @Jy<|And.intro @Jz<|And.intro @JA<|And.intro @CH<|And.intro @Ag<|And.intro @CI<|And.intro @CJ<|And.intro @Gs<|And.intro @Gt<|And.intro @Gu<|And.intro @Gv<|And.intro @Gw<|And.intro @CK<|And.intro @CL<|And.intro @CM<|And.intro @CN<|And.intro @CO<|And.intro @CP<|And.intro @Gx<|And.intro @L5<|And.intro @L6<|And.intro @L7<|And.intro @JB<|And.intro @JC<|And.intro @JD<|And.intro @Gy<|And.intro @L9<|And.intro @Ma<|And.intro @OP<|And.intro @OQ<|And.intro @OR<|And.intro @OS<|And.intro @OT<|And.intro @OU<|And.intro @Q7<|And.intro @OV<|And.intro @Q8<|And.intro @Q9<|And.intro @Ra<|And.intro @Rb<|And.intro @Rc<|And.intro @Rd<|And.intro @Re<|And.intro @Rf<|And.intro @Rg<|@Rh
def Ub:=And.intro @Ri<|And.intro @Rj<|And.intro @Rk<|And.intro @Rl<|And.intro @Rm<|And.intro @Rn<|And.intro @Ro<|And.intro @Rp<|And.intro @Rq<|And.intro @Rr<|And.intro @OW<|And.intro @OX<|And.intro @M7<|And.intro @OZ<|And.intro @O0<|And.intro @Gz<|And.intro @JE<|And.intro @CQ<|And.intro @Ah<|And.intro @CS<|And.intro @CT<|And.intro @GA<|And.intro @GB<|And.intro @GC<|And.intro @GD<|And.intro @CU<|And.intro @CV<|And.intro @CW<|And.intro @CX<|And.intro @CY<|And.intro @CZ<|And.intro @GG<|And.intro @Mc<|And.intro @Rs<|And.intro @Rt<|And.intro @Ru<|And.intro @JG<|And.intro @Md<|And.intro @DQ<|And.intro @JH<|And.intro @JI<|And.intro @Me<|And.intro @Mf<|And.intro @DR<|And.intro @O1<|And.intro @O2<|And.intro @O3<|And.intro @JJ<|@O4
end Go.Am
end
section
namespace Go.Am
open Go
variable [Tabs]
def ox (n:Nat) (i:Int):Option Nat:=if 0≤i∧i<n then some i.toNat else none
def Ai {α:Type} (xs:List α) (j:Nat) (c:α):Option (List α):=if j<xs.length then some (xs.set j c) else none
section
variable {P:Program} {L:List Nat} {e:Env} {ah:AH} {d:Option Nat}
theorem Mg {xs:List UInt8} {j:Nat} {c:UInt8}:over (ml b8 xs) j [b8 c]=(Ai xs j c).map (ml b8):=by
 unfold over Ai ml
 simp only [List.length_map,List.length_cons,List.length_nil]
 by_cases h:j<xs.length
 · rw [if_pos (by omega),if_pos h]
   simp only [Option.map_some,Option.some.injEq,List.map_set]
   rw [List.set_eq_take_append_cons_drop,if_pos (by simpa using h)]
   simp
 · rw [if_neg (by omega),if_neg h];rfl
theorem O5 {xs:List UInt8} {j:Nat}:(ml b8 xs)[j]? =(xs[j]?).map b8:=by simp [ml]
theorem Rv {s n:Nat} {ki:IntKind} {i:Int}:o7 L e ah d 1 (.bD s 1 0 n) (.int ki i)=(ox n i).map fun j=>(ak L e d (.ptr s j),ah):=by
 simp only [o7,ox,and_true]
 split<;>simp
theorem O6 {s k o n:Nat}:DP L e ah d (.bD s k o n)=some (ak L e d (.int .i64 n),ah):=rfl
theorem JK {h:Cv} {l:List UInt8}:tu L e ah d h (.str l)=(cA h (.str l)).map fun a=>(ak L e d a,ah):=rfl
theorem JL {h:Cv} {k:IntKind} {i:Int}:tu L e ah d h (.int k i)=(cA h (.int k i)).map fun a=>(ak L e d a,ah):=rfl
theorem Mh {h:Cv} {c:UInt8}:tu L e ah d h (b8 c)=(cA h (b8 c)).map fun a=>(ak L e d a,ah):=rfl
theorem Mi {h:Cv} {t:Tg} {k:Nat} {xs:List AV}:tu L e ah d h (.sl t k xs)=(cA h (.sl t k xs)).map fun a=>(ak L e d a,ah):=rfl
theorem JM {s n:Nat}:tu L e ah d .bs (.bD s 1 0 n)=Ia L e ah d 0 n (ah[s]?):=rfl
theorem Uc {p n:Nat} {cs:List AV}:Ia L e ah d p n (some cs)=DA L e ah d p n cs:=rfl
theorem Ud {n:Nat} {xs:List UInt8}:DA L e ah d 0 n (ml b8 xs)=(sub xs 0 (n:Int)).map fun l=>(ak L e d (.str l),ah):=by
 unfold DA sub
 have hb:bytesOf (((ml b8 xs).drop 0).take n)=some (xs.take n):=by
  have:((ml b8 xs).drop 0).take n=(ml b8 (xs.take n)):=by simp [ml,List.map_take]
  rw [this];exact rF _
 rw [hb]
 by_cases h:n≤xs.length
 · rw [if_pos (by simp [ml];exact h),if_pos (by omega)];simp
 · rw [if_neg (by simp [ml];omega),if_neg (by omega)];rfl
theorem Ue {l:List UInt8}:Ib L e ah d (.str l)=some (ak L e d (.bD ah.length 1 0 l.length),ah++[ml b8 l]):=rfl
theorem O7:AP .bZ (.v .nilIface)=some false:=rfl
theorem O8:AP (.v .nilIface) (.v .nilIface)=some true:=rfl
theorem O9 {b:Bool}:AP (b6 b) (.v .nilIface)=some (!b):=by cases b<;>rfl
theorem Pa {k:IntKind} {i j:Int}:yz true (.int k i) (.int k j)=some (.int k (max i j)):=by simp [yz]
theorem Pb {k:IntKind} {i j:Int}:yz false (.int k i) (.int k j)=some (.int k (min i j)):=by simp [yz]
end
def WM:=And.intro @Mg<|And.intro @O5<|And.intro @Rv<|And.intro @O6<|And.intro @JK<|And.intro @JL<|And.intro @Mh<|And.intro @Mi<|And.intro @JM<|And.intro @Uc<|And.intro @Ud<|And.intro @Ue<|And.intro @O7<|And.intro @O8<|And.intro @O9<|And.intro @Bool.not_not<|And.intro @Pa<|And.intro @Pb<|And.intro @Lt<|And.intro @Lu<|And.intro @QK @QL
theorem Wx.bD {s k o n:Nat}:Wx (.bD s k o n) (.bD s k o n):= .same (by simp)
theorem Wx.bZ:Wx .bZ .bZ:= .same (by simp)
theorem Wx.Vt {a b:AV} {o:Nat} (h:a=b):Wx (.ep a o) (.ep b o):=by subst h;exact Wx.ep
theorem Wx.err {b:Bool}:Wx (b6 b) (b6 b):= .same (by cases b<;>simp [b6])
end Go.Am
end
section
namespace Go.Am
open Go
variable [Tabs]
section
variable {P:Program} {L:List Nat} {N n0:Nat} {F:Nat→Prop} {γ:List Nat} {C:Nat→List Value} {e e':Env} {ah:AH} {ts:Array Value} {w:World} {Q K:Exit→Env→AH→Prop}
theorem SR.freeze (h:SR L N F γ C e ah ts w) {s:Nat} {cs ds:List AV} (hs:ah[s]? =some cs) (hne:cs≠[]) (hnp:cR cs=true) (hw:fP cs ds)
 (he:∀t,get e' t=get e t∨∃o,get e t= .ptr s o∧get e' t= .ep (.agg ds) o):∃C',SR L N F γ C' e' (ah.set s []) ts w∧Ext F C w C' w:=by
 have hlt:s<γ.length:=by rw [h.mem.len];exact (List.getElem?_eq_some_iff.1 hs).1
 obtain ⟨b,hb⟩:∃b,γ[s]? =some b:=⟨_,List.getElem?_eq_getElem hlt⟩
 obtain ⟨vs,ty,hh,hsz,hcell⟩:=h.mem.obj s b cs hs hb
 have yH:=h.mem.lG s b cs hs hne hb
 have oV:blk γ e ah ts w (.obj s) b:=hb
 refine ⟨fun x=>if x=b then vs.toList else C x, ?_⟩
 generalize ot:(fun x=>if x=b then vs.toList else C x)=C'
 have c0:C' b=vs.toList:=by rw [←ot];simp
 have c1:∀x,x≠b→C' x=C x:=fun x hx=>by rw [←ot];simp [hx]
 have hpre:∀x,C x <+: C' x:=by
  intro x
  by_cases hx:x=b
  · subst hx;rw [yH];exact List.nil_prefix
  · rw [c1 x hx];exact List.prefix_refl _
 have fj:∀(s':Nat),s'≠s→(ah.set s [])[s']? =ah[s']? :=fun s' hn=>List.getElem?_set_ne (Ne.symm hn)
 have dX:(ah.set s [])[s]? =some []:=List.getElem?_set_self (by rw [←h.mem.len];exact hlt)
 have ou:∀(s':Nat),γ[s']? =some b→s'=s:=fun s' hs'=>by
  have:=h.cj (.obj s') (.obj s) b hs' hb;injection this
 have hbk:∀p x,blk γ e' (ah.set s []) ts w p x→blk γ e ah ts w p x:=by
  intro p x hp
  cases p with
  |obj s'=>exact hp
  |cell s' i=>
   obtain ⟨ds,a,b0,h1,h2,h3,h4⟩:=hp
   by_cases hn:s'=s
   · subst hn;rw [dX] at h1;injection h1 with h1;subst h1;simp at h2
   · rw [fj s' hn] at h1;exact ⟨ds,a,b0,h1,h2,h3,h4⟩
  |tmp t=>
   simp only [blk] at hp ⊢
   rcases he t with h1|⟨o,h1,h2⟩
   · rwa [h1] at hp
   · rw [h2] at hp;simp [aV] at hp
 have iH:∀(a:AV) (v:Value),TC w C a v→(∀x,aV a v=some x→x≠b)→TC w C' a v:=fun a v ht hn=>ht.mono fun x hx=>⟨rfl,c1 x (hn x hx)⟩
 refine ⟨⟨⟨by simp [h.mem.len],fun s' x ds h1 h2=> ?_,fun x hx=> ?_,fun s' x ds h1 h0 h2=> ?_,fun s' x ds us ty' fr h1 h2 h3=> ?_⟩,h.sz,fun t=> ?_,fun p q x hp hq=>h.cj p q x (hbk p x hp) (hbk q x hq),fun p x hp=>h.nf p x (hbk p x hp),h.fz,fun t l k xs ht=> ?_⟩,
  ⟨hpre,fun x hx=>⟨rfl,c1 x (fun e=>h.nf _ _ oV (e▸hx))⟩,Nat.le_refl _,rfl,rfl,rfl⟩⟩
 · by_cases hn:s'=s
   · subst hn
     rw [dX] at h1;injection h1 with h1;subst h1
     rw [hb] at h2;injection h2 with h2;subst h2
     exact ⟨vs,ty,hh,by simp,by simp⟩
   · rw [fj s' hn] at h1
     obtain ⟨us,ty',g1,g2,g3⟩:=h.mem.obj s' x ds h1 h2
     refine ⟨us,ty',g1,g2,fun i a hi=>⟨(g3 i a hi).1.mono hpre _ (fun _ _ h=>h),iH _ _ (g3 i a hi).2 fun y hy e=> ?_⟩⟩
     subst e
     obtain ⟨v,hv, -, -⟩:=cellAt h.mem h1 hi h2
     have A2:v=us.getD i undef:=by
      have hlt:i<us.size:=Nat.lt_of_lt_of_le (List.getElem?_eq_some_iff.1 hi).1 g2
      rw [bY g1,Array.getElem?_eq_getElem hlt] at hv
      simp [Array.getD_eq_getD_getElem?,Array.getElem?_eq_getElem hlt,Option.some.inj hv]
     have:blk γ e ah ts w (.cell s' i) y:=⟨ds,a,x,h1,hi,h2,by rw [hv,A2];exact hy⟩
     have:=h.cj _ _ _ this oV
     cases this
 · by_cases JN:x=b
   · subst JN;exact ⟨vs,ty.1,ty.2,hh,by rw [c0];exact List.prefix_refl _⟩
   · rw [c1 x JN] at hx ⊢;exact h.mem.mz x hx
 · have hn:s'≠s:=by
    rintro rfl
    rw [dX] at h1;injection h1 with h1;exact h0 h1.symm
   rw [fj s' hn] at h1
   rw [c1 x (fun e=>hn (ou s' (e▸h2)))]
   exact h.mem.lG s' x ds h1 h0 h2
 · by_cases hn:s'=s
   · subst hn
     rw [dX] at h1;injection h1 with h1;subst h1
     intro i hi;simp at hi
   · rw [fj s' hn] at h1
     exact h.mem.sN s' x ds us ty' fr h1 h2 h3
 · rcases he t with h1|⟨o,h1,h2⟩
   · rw [h1]
     refine ⟨(h.env t).1.mono hpre _ (fun _ _ h=>h),iH _ _ (h.env t).2 fun y hy e=> ?_⟩
     subst e
     have:=h.cj (.tmp t) (.obj s) y hy oV
     cases this
   · have hv:=(h.env t).1
     rw [h1] at hv
     obtain ⟨b',hb',hv⟩:=hv.dW
     rw [hb] at hb';injection hb' with hb';subst hb'
     rw [h2,hv]
     refine ⟨?_,by trivial⟩
     have Uf:=VR.ep (C:=C') γ (.agg ds) o b 0 (by rw [c0];simpa [AV.cells,hw.len] using hsz) (fun j a hj=>by
      have hj2:ds[j]? =some a:=hj
      have hjl:j<cs.length:=by rw [←hw.len];exact (List.getElem?_eq_some_iff.1 hj2).1
      have hj':cs[j]? =some cs[j]:=List.getElem?_eq_getElem hjl
      have:=(Wk.eZ (hw.get j _ _ hj' hj2)).vr (((hcell j _ hj').1.np (kZ hnp hj')).mono hpre [] (fun _ _ h=>h))
      rw [c0,Nat.zero_add]
      have e1:vs.toList.getD j undef=vs.getD j undef:=by simp [List.getD_eq_getElem?_getD,Array.getD_eq_getD_getElem?]
      rw [e1];exact this)
     rwa [Nat.zero_add] at Uf
 · rcases he t with h1|⟨o,h1,h2⟩
   · have hf:=h.fr t l k xs (by rw [←h1];exact ht)
     cases l with
     |tmp u=>
      refine ⟨hf.1,fun hu=>hf.2 ?_⟩
      rcases he u with g1|⟨o,g1,g2⟩
      · rwa [g1] at hu
      · rw [g2] at hu;cases hu
     |cell s' o=>
      intro ds a x g1 g2 g3 g4
      by_cases hn:s'=s
      · subst hn;rw [dX] at g1;injection g1 with g1;subst g1;simp at g2
      · rw [fj s' hn] at g1;exact hf ds a x g1 g2 g3 g4
   · rw [h2] at ht;cases ht
theorem AW.freeze {c:Code} {s:Nat} {cs ds:List AV} (hs:ah[s]? =some cs) (hne:cs≠[]) (hnp:cR cs=true) (hw:fP cs ds)
 (he:∀t,get e' t=get e t∨∃o,get e t= .ptr s o∧get e' t= .ep (.agg ds) o) (h:AW P L N n0 c Q e' (ah.set s [])):AW P L N n0 c Q e ah:=by
 intro F γ C ts w fG hn
 obtain ⟨C',h1,h2⟩:=fG.freeze hs hne hnp hw he
 refine wp_mono (h F γ C' ts w h1 hn) ?_
 rintro x a w' ⟨q1,q2,e2,kB,γ2,C2,q3,q4,q5,q6⟩
 exact ⟨q1,q2,e2,kB,γ2,C2,q3,q4,q5,h2.trans q6⟩
inductive FZ (s:Nat) (cs:List AV):Env→Env→Prop
 |nil:FZ s cs [] []
 |same (i:Nat) (a:AV) (r r':Env):FZ s cs r r'→FZ s cs ((i,a)::r) ((i,a)::r')
 |ep (i o:Nat) (r r':Env):FZ s cs r r'→FZ s cs ((i, .ptr s o)::r) ((i, .ep (.agg cs) o)::r')
theorem FZ.get {s:Nat} {cs:List AV} {e e':Env} (h:FZ s cs e e') (t:Nat):Am.get e' t=Am.get e t∨∃o,Am.get e t= .ptr s o∧Am.get e' t= .ep (.agg cs) o:=by
 induction h with
 |nil=>exact .inl rfl
 |same i a r r' _ ih=>
  simp only [Am.get]
  by_cases hi:i=t
  · simp [hi]
  · simpa [hi] using ih
 |ep i o r r' _ ih=>
  simp only [Am.get]
  by_cases hi:i=t
  · exact .inr ⟨o,by simp [hi],by simp [hi]⟩
  · simpa [hi] using ih
theorem AX.freeze {c:aq} {s:Nat} {cs ds:List AV} (hs:ah[s]? =some cs) (hw:fP cs ds) (hne:cs≠[]) (hnp:cR cs=true) (he:FZ s ds e e') (h:AX P L N n0 c K e' (ah.set s [])):AX P L N n0 c K e ah:=
 fun c' aZ=>AW.freeze hs hne hnp hw he.get (h c' aZ)
end
end Go.Am
end
