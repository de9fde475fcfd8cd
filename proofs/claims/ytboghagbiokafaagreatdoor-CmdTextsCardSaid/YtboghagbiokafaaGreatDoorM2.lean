import Derived.Test.YtboghagbiokafaaGreatDoorM1
import Derived.Scope
import Derived.Lib.SlBytesConst
import Derived.OrdersHeld
set_option linter.unusedSimpArgs false
set_option linter.unusedVariables false
set_option linter.unusedSectionVars false
set_option linter.defProp false
section
namespace Go.Am
open Go
variable [Tabs]
section
variable {P:Program} {L:List Nat} {N:Nat} {F:Nat→Prop} {γ:List Nat} {C C':Nat→List Value} {e:Env} {ah:AH} {ts:Array Value} {ds:List Deferred} {w w':World} {m:Bool}
variable {e':Env} {aE:AH}
def fK.nX:fK→Bool
 | .call _ _=>true
 | .me _ _ _ _=>true
 | .nq _ _=>true
 |_=>false
theorem Kz {o:Oper} {op:fK} (h:SR L N F γ C e ah ts w) (hd:∀x,o.dst=some x→x<N) (hc:cop P o=some op) (eN:op.nX=false)
 (hm:m=true∨((∀x n,op≠ .ld x n)∧∀x,op≠ .mj .bs x))
 (hev:bK L ⟨o.dst,op,none⟩ e ah=some (e',aE)):bp m P L N F γ C o ts ds w e' aE:=by
 obtain ⟨d,o,ty,pos,af,g⟩:=o
 simp only at hd hev
 cases o with
 |move x=>
  simp only [cop,Option.map_eq_some_iff] at hc
  obtain ⟨a,ha,rfl⟩:=hc
  simp only [bK,Option.some.injEq,Prod.mk.injEq] at hev
  obtain ⟨rfl,rfl⟩:=hev
  exact X2 h hd ha
 |assign x=>
  simp only [cop,Option.map_eq_some_iff] at hc
  obtain ⟨a,ha,rfl⟩:=hc
  exact UZ h hd ha hev
 |pick c a b=>
  simp only [cop] at hc
  split at hc
  · rename_i c' a' b' h1 h2 h3
    injection hc with hc;subst hc
    exact Rj h hd h1 h2 h3 hev
  · cases hc
 |alloc t=>
  simp only [cop,Option.map_eq_some_iff] at hc
  obtain ⟨a,ha,rfl⟩:=hc
  exact N3 h hd ha hev
 |box t x=>
  simp only [cop,Option.map_eq_some_iff] at hc
  obtain ⟨a,ha,rfl⟩:=hc
  exact Vk h hd ha hev
 |build t parts=>
  simp only [cop] at hc
  split at hc
  case h_3=>cases hc
  case h_2=>
   rename_i mm el hu
   split at hc
   case h_2=>cases hc
   rename_i z ps hz hp
   split at hc
   case isFalse=>cases hc
   rename_i hall
   split at hc
   · rename_i js
     simp only [Option.map_eq_some_iff] at hc
     obtain ⟨z',hz',rfl⟩:=hc
     refine CF h hd hu hz hp hall ?_
     rw [←hev]
     simp only [bK]
     rw [HZ e ps z js,hz']
     rfl
   · injection hc with hc;subst hc
     exact CF h hd hu hz hp hall hev
  rename_i fs hu
  split at hc
  case h_2=>cases hc
  rename_i z ps hz hp
  split at hc
  case isFalse=>cases hc
  rename_i hall
  injection hc with hc;subst hc
  exact N9 h hd hu hz hp hall hev
 |buildSlice t n parts=>
  simp only [cop] at hc
  split at hc
  case h_2=>cases hc
  rename_i el hel
  split at hc
  case isFalse=>cases hc
  rename_i hh
  obtain ⟨h1,h2,h3⟩:=hh
  simp only [Option.map_eq_some_iff] at hc
  obtain ⟨zq,ha,rfl⟩:=hc
  refine Vr h hd ?_ h1 h2 h3 ha hev
  unfold D9 at hel
  split at hel
  · rename_i e hu;injection hel with hel;subst hel;exact hu
  · cases hel
 |load t x=>
  simp only [cop] at hc
  split at hc
  case isFalse=>cases hc
  rename_i ht
  simp only [Option.map_eq_some_iff] at hc
  obtain ⟨a,ha,rfl⟩:=hc
  obtain rfl:m=true:=hm.resolve_right (fun h=>h.1 _ _ rfl)
  exact X4 h hd ha ht hev
 |store t a x=>
  simp only [cop] at hc
  split at hc
  case h_2=>cases hc
  rename_i a' x' ha hx
  split at hc
  case isFalse=>cases hc
  rename_i ht
  simp only [Bool.and_eq_true,Option.isNone_iff_eq_none] at ht
  obtain ⟨ht,rfl⟩:=ht
  injection hc with hc;subst hc
  exact Yc h ha hx ht hev
 |nilCheck x=>
  simp only [cop,Option.map_eq_some_iff] at hc
  obtain ⟨a,ha,rfl⟩:=hc
  exact U0 h hd ha hev
 |fieldAddr t x f=>
  simp only [cop] at hc
  split at hc
  case h_2=>cases hc
  rename_i x' fd hx hf
  split at hc
  case isTrue=>cases hc
  rename_i hs
  injection hc with hc;subst hc
  exact U1 h hd hx hf hs hev
 |field t x f=>
  simp only [cop] at hc
  split at hc
  case h_2=>cases hc
  rename_i x' fd hx hf
  split at hc
  case isFalse=>cases hc
  rename_i hs
  injection hc with hc;subst hc
  exact Rl h hd hx hf hs hev
 |binOp Vt t x y oD=>
  simp only [cop] at hc
  split at hc
  case h_3=>cases hc
  case h_2=>
   rename_i x' hx hy
   split at hc
   · rename_i ms hu
     injection hc with hc;subst hc;exact Rz h hd hx hu rfl hev
   · rename_i ms hu
     injection hc with hc;subst hc;exact Rz h hd hx hu rfl hev
   · injection hc with hc;subst hc;cases eN
   · injection hc with hc;subst hc;cases eN
   · cases hc
  rename_i x' y' hx hy
  split at hc
  · rename_i fs hu
    split at hc
    case h_2=>cases hc
    rename_i ks hk
    split at hc
    · injection hc with hc;subst hc;exact M4 h hd hx hy hu hk rfl hev
    · injection hc with hc;subst hc;exact M4 h hd hx hy hu hk rfl hev
    · cases hc
  · injection hc with hc;subst hc;exact M3 h hd hx hy hev
  · injection hc with hc;subst hc;exact M3 h hd hx hy hev
  · rename_i hu
    split at hc
    · injection hc with hc;subst hc;exact Rm h hd hx hy hu rfl hev
    · injection hc with hc;subst hc;exact Rm h hd hx hy hu rfl hev
    · cases hc
  · rename_i u hu
    split at hc
    · injection hc with hc;subst hc;exact Rn h hd hx hy hu rfl hev
    · injection hc with hc;subst hc;exact Rn h hd hx hy hu rfl hev
    · cases hc
  · cases hc
 |unOp Vt t x=>
  simp only [cop,Option.map_eq_some_iff] at hc
  obtain ⟨a,ha,rfl⟩:=hc
  exact X5 h hd ha hev
 |convert s t x=>
  simp only [cop] at hc
  split at hc
  case h_2=>cases hc
  rename_i hh x' nY hx
  injection hc with hc;subst hc
  exact Vl h hd hx nY (hm.imp id fun q=>by rintro rfl;exact q.2 _ rfl) hev
 |makeFunc fn first cs=>
  cases fn with
  |func f=>
   simp only [cop] at hc
   split at hc
   case isFalse=>cases hc
   rename_i hf
   simp only [Option.map_eq_some_iff] at hc
   obtain ⟨a,ha,rfl⟩:=hc
   exact U8 h hd hf ha hev
  |_=>simp [cop] at hc
 |slice t x lo hi mx=>
  simp only [cop] at hc
  split at hc
  case h_2=>cases hc
  rename_i x' lo' hi' X7 hx hlo hhi N2
  split at hc
  · rename_i hu
    split at hc
    · injection hc with hc;subst hc
      have:mx=none:=by
       cases mx with
       |none=>rfl
       |some y=>simp only [oA] at N2;cases hy:bx y<;>rw [hy] at N2<;>simp at N2
      subst this
      exact Vg h hd hx hlo hhi hu hev
    · cases hc
  · rename_i el hu
    split at hc
    case isFalse=>cases hc
    rename_i ht
    injection hc with hc;subst hc
    exact Vh h hd hx hlo hhi N2 hu ht hev
  · cases hc
 |indexAddr t x i=>
  simp only [cop] at hc
  split at hc
  case h_3=>cases hc
  case h_2=>
   rename_i x' i' hel hx hi
   split at hc
   case h_2=>cases hc
   rename_i mm el hu
   split at hc
   case isFalse=>cases hc
   rename_i ht
   injection hc with hc;subst hc
   exact Vd h hd hx hi hu ht hev
  rename_i el x' i' hel hx hi
  split at hc
  case isFalse=>cases hc
  rename_i ht
  injection hc with hc;subst hc
  unfold D9 at hel
  split at hel
  · rename_i e hu;injection hel with hel;subst hel;exact Vc h hd hx hi hu ht hev
  · cases hel
 |index t x i=>
  simp only [cop] at hc
  split at hc
  case h_2=>cases hc
  rename_i x' i' hu hx hi
  injection hc with hc;subst hc
  exact Vb h hd hx hi hu hev
 |extract x i=>
  simp only [cop,Option.map_eq_some_iff] at hc
  obtain ⟨a,ha,rfl⟩:=hc
  exact U9 h hd ha hev
 |call c=>
  obtain ⟨callee,args,argTypes⟩:=c
  simp only [cop] at hc
  split at hc
  · rename_i x t h1 h2
    have e1:args= #[x]:=by rw [←Array.toArray_toList (xs:=args),h1]
    have e2:argTypes= #[t]:=by rw [←Array.toArray_toList (xs:=argTypes),h2]
    subst e1;subst e2
    split at hc
    · rename_i x' hu hx;injection hc with hc;subst hc;exact Ro h hd hx hu hev
    · rename_i s x' hu hx;injection hc with hc;subst hc;exact Va h hd hx hu hev
    · cases hc
  · rename_i x y t u h1 h2
    have e1:args= #[x,y]:=by rw [←Array.toArray_toList (xs:=args),h1]
    have e2:argTypes= #[t,u]:=by rw [←Array.toArray_toList (xs:=argTypes),h2]
    subst e1;subst e2
    split at hc
    case h_2=>cases hc
    rename_i x' y' _ _ hx hy
    split at hc
    case isFalse=>cases hc
    rename_i htu
    injection hc with hc;subst hc
    obtain ⟨rfl, -⟩:=htu
    exact RA (mx:=true) h hd hx hy hev
  · rename_i x y t u h1 h2
    have e1:args= #[x,y]:=by rw [←Array.toArray_toList (xs:=args),h1]
    have e2:argTypes= #[t,u]:=by rw [←Array.toArray_toList (xs:=argTypes),h2]
    subst e1;subst e2
    split at hc
    case h_2=>cases hc
    rename_i x' y' _ _ hx hy
    split at hc
    case isFalse=>cases hc
    rename_i htu
    injection hc with hc;subst hc
    obtain ⟨rfl, -⟩:=htu
    exact RA (mx:=false) h hd hx hy hev
  · rename_i x y t u h1 h2
    have e1:args= #[x,y]:=by rw [←Array.toArray_toList (xs:=args),h1]
    have e2:argTypes= #[t,u]:=by rw [←Array.toArray_toList (xs:=argTypes),h2]
    subst e1;subst e2
    split at hc
    case h_2=>cases hc
    rename_i el x' hel hx
    have ht:P.underlying t=some (.slice el):=by
     unfold D9 at hel
     split at hel
     · rename_i e hu;injection hel with hel;subst hel;exact hu
     · cases hel
    split at hc
    · rename_i s y' hu hy
      split at hc
      case isFalse=>cases hc
      rename_i hz
      injection hc with hc;subst hc
      exact Vp h hd hx hy ht hu hz hev
    · rename_i y' hu hy
      split at hc
      case isFalse=>cases hc
      rename_i hz
      injection hc with hc;subst hc
      exact RC h hd hx hy ht hu hz.2 hz.1 hev
    · cases hc
  · split at hc
    · injection hc with hc;subst hc;cases eN
    · cases hc
  · cases hc
 |_=>simp [cop] at hc
theorem Vu {o:Oper} {op:fK} (h:SR L N F γ C e ah ts w) (hd:∀x,o.dst=some x→x<N) (hc:eu P m o=some op) (eN:op.nX=false)
 (hev:bK L ⟨o.dst,op,none⟩ e ah=some (e',aE)):bp m P L N F γ C o ts ds w e' aE:=by
 cases m with
 |true=>exact Kz h hd (by simpa [eu] using hc) eN (.inl rfl) hev
 |false=>
  simp only [eu,Bool.false_eq_true,if_false,Option.map_eq_some_iff] at hc
  obtain ⟨op',ho,rfl⟩:=hc
  by_cases nW:∃x,op'= .mj .bs x
  · obtain ⟨x,rfl⟩:=nW
    obtain ⟨d,oo,ty,pos,af,g⟩:=o
    cases oo with
    |convert s t y=>
     simp only [cop] at ho
     split at ho
     case h_2=>cases ho
     rename_i hh x' nY hx
     injection ho with ho
     injection ho with e1 e2
     subst e1;subst e2
     exact Rw h hd hx nY hev
    |makeFunc fn first cs=>
     cases fn with
     |func f=>simp only [cop] at ho;split at ho<;>simp at ho
     |_=>simp [cop] at ho
    |_=>
     exfalso
     simp only [cop] at ho
     first
      |cases ho;done
      |(simp at ho;done)
      |(repeat' (split at ho))<;>(first|(cases ho;done)|(simp at ho;done))
  by_cases hl:∃x n,op'= .ld x n
  · obtain ⟨x,n,rfl⟩:=hl
    obtain ⟨d,oo,ty,pos,af,g⟩:=o
    cases oo with
    |load t y=>
     simp only [cop] at ho
     split at ho
     case isFalse=>cases ho
     rename_i ht
     simp only [Option.map_eq_some_iff] at ho
     obtain ⟨a,ha,he⟩:=ho
     injection he with e1 e2
     subst e1;subst e2
     exact M1 h hd ha ht hev
    |makeFunc fn first cs=>
     cases fn with
     |func f=>simp only [cop] at ho;split at ho<;>simp at ho
     |_=>simp [cop] at ho
    |_=>
     exfalso
     simp only [cop] at ho
     first
      |cases ho;done
      |(simp at ho;done)
      |(repeat' (split at ho))<;>(first|(cases ho;done)|(simp at ho;done))
  · have:op'.Kl=op':=by
     cases op' with
     |ld x n=>exact absurd ⟨_,_,rfl⟩ hl
     |mj hh x=>cases hh<;>first|rfl|exact absurd ⟨_,rfl⟩ nW
     |_=>rfl
    rw [this] at eN hev
    exact Kz h hd ho eN (.inr ⟨fun x n he=>hl ⟨x,n,he⟩,fun x he=>nW ⟨x,he⟩⟩) hev
theorem RM {o:Oper} {x':Ar} (hc:cop P o=some (.aO x')):∃x,o=⟨o.dst, .assign x,o.type,o.pos,o.after,o.guard⟩∧cU P o.type x=some x':=by
 obtain ⟨d,oo,ty,pos,af,g⟩:=o
 cases oo with
 |assign y=>
  simp only [cop,Option.map_eq_some_iff] at hc
  obtain ⟨a,ha,he⟩:=hc
  injection he with he
  subst he
  exact ⟨y,rfl,ha⟩
 |makeFunc fn first cs=>
  cases fn with
  |func f=>simp only [cop] at hc;split at hc<;>simp at hc
  |_=>simp [cop] at hc
 |_=>
  exfalso
  simp only [cop] at hc
  first
   |cases hc;done
   |(simp at hc;done)
   |(repeat' (split at hc))<;>(first|(cases hc;done)|(simp at hc;done))
theorem CG {o:Oper} {k b:Nat} {x' y':Ar} (hop:cop P o=some (.app k b x' y')):
 ∃x y t u el s,o=⟨o.dst, .call {callee:= .builtin .append,args:= #[x,y],argTypes:= #[t,u]},o.type,o.pos,o.after,o.guard⟩∧cU P t x=some x'∧cU P u y=some y'∧
  P.underlying t=some (.slice el)∧P.underlying u=some (.slice s)∧(zeroOf P el).map List.length=some (cI P el)∧k=cI P el∧b=FE P el:=by
 obtain ⟨d,oo,ty,pos,af,g⟩:=o
 cases oo with
 |call c=>
  obtain ⟨callee,args,argTypes⟩:=c
  simp only [cop] at hop
  split at hop
  · split at hop<;>simp at hop
  · split at hop
    · split at hop<;>simp at hop
    · cases hop
  · split at hop
    · split at hop<;>simp at hop
    · cases hop
  · rename_i x y t u h1 h2
    have e1:args= #[x,y]:=by rw [←Array.toArray_toList (xs:=args),h1]
    have e2:argTypes= #[t,u]:=by rw [←Array.toArray_toList (xs:=argTypes),h2]
    subst e1;subst e2
    split at hop
    case h_2=>cases hop
    rename_i el x2 hel hx
    have ht:P.underlying t=some (.slice el):=by
     unfold D9 at hel
     split at hel
     · rename_i e hu;injection hel with hel;subst hel;exact hu
     · cases hel
    split at hop
    · rename_i s y2 hu hy
      split at hop
      case isFalse=>cases hop
      rename_i hz
      injection hop with hop
      injection hop with q1 q2 q3 q4
      subst q1;subst q2;subst q3;subst q4
      exact ⟨x,y,t,u,el,s,rfl,hx,hy,ht,hu,hz,rfl,rfl⟩
    · split at hop<;>simp at hop
    · cases hop
  · split at hop<;>simp at hop
  · cases hop
 |makeFunc fn first cs=>
  cases fn with
  |func f=>simp only [cop] at hop;split at hop<;>simp at hop
  |_=>simp [cop] at hop
 |_=>
  exfalso
  simp only [cop] at hop
  first
   |cases hop;done
   |(simp at hop;done)
   |(repeat' (split at hop))<;>(first|(cases hop;done)|(simp at hop;done))
theorem M9 {o:Oper} {neq:Bool} {x':Ar} (hop:cop P o=some (.nq neq x')):
 ∃op t x oD el,o=⟨o.dst, .binOp op t x (.const (.slice none 0 0)) oD,o.type,o.pos,o.after,o.guard⟩∧bx x=some x'∧P.underlying t=some (.slice el)∧op=if neq then .neq else .eql:=by
 obtain ⟨d,oo,ty,pos,af,g⟩:=o
 cases oo with
 |binOp op t x y oD=>
  simp only [cop] at hop
  split at hop
  case h_3=>cases hop
  case h_2=>
   rename_i x2 hx hy
   split at hop
   · cases hop
   · cases hop
   · rename_i el hu
     injection hop with hop;injection hop with h1 h2;subst h1;subst h2
     exact ⟨_,t,x,oD,el,rfl,hx,hu,rfl⟩
   · rename_i el hu
     injection hop with hop;injection hop with h1 h2;subst h1;subst h2
     exact ⟨_,t,x,oD,el,rfl,hx,hu,rfl⟩
   · cases hop
  exfalso
  (repeat' (split at hop))<;>(first|(cases hop;done)|(simp at hop;done))
 |makeFunc fn first cs=>
  cases fn with
  |func f=>simp only [cop] at hop;split at hop<;>simp at hop
  |_=>simp [cop] at hop
 |_=>
  exfalso
  simp only [cop] at hop
  first
   |cases hop;done
   |(simp at hop;done)
   |(repeat' (split at hop))<;>(first|(cases hop;done)|(simp at hop;done))
theorem Vv {op:fK} {n:Bool} {x:Ar} (h:op.Kl= .nq n x):op= .nq n x:=by
 cases op with
 |mj hh x=>cases hh<;>cases h
 |ld x n=>cases h
 |_=>exact h
theorem RN {op:fK} {k b:Nat} {x y:Ar} (h:op.Kl= .app k b x y):op= .app k b x y:=by
 cases op with
 |mj hh x=>cases hh<;>cases h
 |ld x n=>cases h
 |_=>exact h
theorem RO {op:fK} {x:Ar} (h:op.Kl= .aO x):op= .aO x:=by
 cases op with
 |mj hh x=>cases hh<;>cases h
 |ld x n=>cases h
 |_=>exact h
theorem Ad {o:Oper} {k b:Nat} {x y:Ar} (hc:eu P m o=some (.app k b x y)):cop P o=some (.app k b x y):=by
 cases m with
 |true=>simpa [eu] using hc
 |false=>
  simp only [eu,Bool.false_eq_true,if_false,Option.map_eq_some_iff] at hc
  obtain ⟨op',ho,hE⟩:=hc
  rw [ho,RN hE]
theorem Oc {o:Oper} {x:Ar} (hc:eu P m o=some (.aO x)):cop P o=some (.aO x):=by
 cases m with
 |true=>simpa [eu] using hc
 |false=>
  simp only [eu,Bool.false_eq_true,if_false,Option.map_eq_some_iff] at hc
  obtain ⟨op',ho,hE⟩:=hc
  rw [ho,RO hE]
theorem H6 {o:Oper} {n:Bool} {x:Ar} (hc:eu P m o=some (.nq n x)):cop P o=some (.nq n x):=by
 cases m with
 |true=>simpa [eu] using hc
 |false=>
  simp only [eu,Bool.false_eq_true,if_false,Option.map_eq_some_iff] at hc
  obtain ⟨op',ho,hE⟩:=hc
  rw [ho,Vv hE]
theorem F0 {o:Oper} {n:Bool} {x:Ar} {K:Env→AH→Prop} (h:SR L N F γ C e ah ts w) (hd:∀x,o.dst=some x→x<N) (hc:eu P m o=some (fK.er (.nq n x)))
 (hk:Cp L o.dst n x e ah K):∃e' aE,K e' aE∧bp m P L N F γ C o ts ds w e' aE:=by
 obtain ⟨op,t,x0,oD,el,ho,hx,hu,hop⟩:=M9 (H6 hc)
 rw [ho]
 exact Ye (d:=o.dst) h hd hx hu hop hk
theorem Fj {o:Oper} {k b:Nat} {x y:Ar} {K:Env→AH→Prop} (h:SR L N F γ C e ah ts w) (hd:∀x,o.dst=some x→x<N) (hc:eu P m o=some (fK.er (.me k b x y)))
 (hk:oz L o.dst k b x y e ah K):∃e' aE,K e' aE∧bp m P L N F γ C o ts ds w e' aE:=by
 obtain ⟨x0,y0,t,u,el,s,ho,hx,hy,ht,hu,hz,rfl,rfl⟩:=CG (Ad hc)
 rw [ho]
 exact RI (d:=o.dst) h hd hx hy ht hu hz hk
theorem H7 {o:Oper} {k:Nat} {x:Ar} (h:SR L N F γ C e ah ts w) (hd:∀x,o.dst=some x→x<N) (hc:eu P m o=some (fK.er (.Aa k x)))
 (hev:bK L ⟨o.dst, .Aa k x,none⟩ e ah=some (e',aE)):bp m P L N F γ C o ts ds w e' aE:=by
 obtain ⟨x0,ho,hx⟩:=RM (Oc hc)
 rw [ho]
 exact Ve (d:=o.dst) h hd hx hev
theorem Fk {op:fK} {f:Ar} {zq:List Ar} (h:op.Kl= .call f zq):op= .call f zq:=by
 cases op with
 |mj hh x=>cases hh<;>cases h
 |ld x n=>cases h
 |_=>exact h
theorem aaM {op:fK} {f:Ar} {zq:List Ar} (h:op.er= .call f zq):op= .call f zq:=by
 cases op with
 |qn x=>cases h
 |me=>cases h
 |Aa=>cases h
 |_=>exact h
theorem F1 {o:Oper} {op:fK} (h:SR L N F γ C e ah ts w) (hd:∀x,o.dst=some x→x<N) (hc:cop P o=some op.er) (eN:op.nX=false)
 (hev:bK L ⟨o.dst,op,none⟩ e ah=some (e',aE)):bp true P L N F γ C o ts ds w e' aE:=by
 by_cases hx:∃x,op= .qn x
 · obtain ⟨x,rfl⟩:=hx
   obtain ⟨d,oo,ty,pos,af,g⟩:=o
   have hc:cop P ⟨d,oo,ty,pos,af,g⟩=some (.mj .sb x):=hc
   cases oo with
   |convert s t y=>
    simp only [cop] at hc
    split at hc
    case h_2=>cases hc
    rename_i hh x' nY hx
    injection hc with hc
    injection hc with e1 e2
    subst e1;subst e2
    exact Rx h hd hx nY hev
   |makeFunc fn first cs=>
    cases fn with
    |func f=>simp only [cop] at hc;split at hc<;>simp at hc
    |_=>simp [cop] at hc
   |_=>
    exfalso
    simp only [cop] at hc
    first
     |cases hc;done
     |(simp at hc;done)
     |(repeat' (split at hc))<;>(first|(cases hc;done)|(simp at hc;done))
 · by_cases hy:∃k x,op= .Aa k x
   · obtain ⟨k,x,rfl⟩:=hy
     exact H7 (m:=true) h hd (by simpa [eu] using hc) hev
   have:op.er=op:=by
    cases op<;>first|rfl|exact absurd ⟨_,rfl⟩ hx|exact absurd ⟨_,_,rfl⟩ hy|cases eN|rfl
   rw [this] at hc
   exact Kz h hd hc eN (.inl rfl) hev
theorem H8 {o:Oper} {op:fK} (h:SR L N F γ C e ah ts w) (hd:∀x,o.dst=some x→x<N) (hc:eu P m o=some op.er) (eN:op.nX=false)
 (hev:bK L ⟨o.dst,op,none⟩ e ah=some (e',aE)):bp m P L N F γ C o ts ds w e' aE:=by
 cases m with
 |true=>exact F1 h hd (by simpa [eu] using hc) eN hev
 |false=>
  by_cases hx:∃x,op= .qn x
  · obtain ⟨x,rfl⟩:=hx
    simp only [eu,Bool.false_eq_true,if_false,Option.map_eq_some_iff] at hc
    obtain ⟨op',ho,hE⟩:=hc
    have hE:op'.Kl= .mj .sb x:=hE
    have:op'= .mj .sb x:=by
     cases op' with
     |mj hh y=>cases hh<;>first|exact hE|cases hE
     |ld y n=>cases hE
     |_=>exact hE
    subst this
    obtain ⟨v,w',γ',C',h1,h2,h3,h4,h5,h6⟩:=F1 (op:= .qn x) (ds:=ds) h hd ho rfl hev
    refine ⟨v,w',γ',C',h1,h2,h3,h4,h5,fun hq=> ?_⟩
    exfalso
    obtain ⟨d,oo,ty,pos,af,g⟩:=o
    cases oo with
    |convert s t y=>
     simp only [cop] at ho
     split at ho
     case h_2=>cases ho
     rename_i hh x' nY hx
     injection ho with ho
     injection ho with e1 e2
     subst e1
     unfold FI at nY
     split at nY
     · cases nY
     · cases nY
     · rename_i el hs ht
       simp [ek,ht] at hq
     · split at nY
       · split at nY<;>cases nY
       · cases nY
     · cases nY
    |makeFunc fn first cs=>
     cases fn with
     |func f=>simp only [cop] at ho;split at ho<;>simp at ho
     |_=>simp [cop] at ho
    |_=>
     simp only [cop] at ho
     first
      |cases ho;done
      |(simp at ho;done)
      |(repeat' (split at ho))<;>(first|(cases ho;done)|(simp at ho;done))
  · by_cases hy:∃k x,op= .Aa k x
    · obtain ⟨k,x,rfl⟩:=hy
      exact H7 h hd hc hev
    have:op.er=op:=by
     cases op<;>first|rfl|exact absurd ⟨_,rfl⟩ hx|exact absurd ⟨_,_,rfl⟩ hy|cases eN|rfl
    rw [this] at hc
    exact Vu h hd hc eN hev
theorem vu (L:List Nat) (d:Option Nat) (op:fK) (g:Option (Nat×Bool)) (e:Env) (ah:AH):bK L ⟨d,op,g⟩ e ah=bK L ⟨d,op,none⟩ e ah:=by
 cases op<;>rfl
def jt (P:Program) (f:Nat):Bool:=match P.funcs[f]? with
 |some fn=>fn.body.isSome&&fn.name != "runtime.NumGoroutine"
 |none=>false
def e4:Nat→List AV→Env
 |_,[]=>[]
 |i,a::r=>(i,a)::e4 (i+1) r
theorem eA:∀(l:List AV) (i t:Nat),get (e4 i l) t=if i≤t then (l[t - i]?).getD .un else .un:=by
 intro l
 induction l with
 |nil=>intro i t;simp [e4,get]
 |cons a r ih=>
  intro i t
  simp only [e4,get]
  by_cases h:i=t
  · subst h;simp
  · rw [if_neg h,ih]
    by_cases h1:i≤t
    · obtain ⟨q,hq⟩:∃q,t - i=q+1:=⟨t - i - 1,by omega⟩
      rw [if_pos h1,if_pos (by omega),hq,show t - (i+1)=q by omega];simp
    · rw [if_neg h1,if_neg (by omega)]
def aF (P:Program) (f:Nat) (args:List AV) (ah:AH) (R:AV→AH→Prop):Prop:=
 jt P f=true∧∀(F:Nat→Prop) (γ:List Nat) (C:Nat→List Value) (w:World) (vs:Array Value),SR [] args.length F γ C (e4 0 args) ah vs w→
  Calls P f vs w fun en w'=>∃r v aE γ' C',en= .returned v∧R r aE∧γ <+: γ'∧SR [] 1 F γ' C' [(0,r)] aE #[v] w'∧Ext F C w C' w'
theorem aF.mono {f:Nat} {args:List AV} {ah:AH} {R R':AV→AH→Prop} (h:aF P f args ah R) (hr:∀r aE,R r aE→R' r aE):aF P f args ah R':=
 ⟨h.1,fun F γ C w vs hs=>(h.2 F γ C w vs hs).mono fun _ _ ⟨r,v,aE,γ',C',h1,h2,h3⟩=>⟨r,v,aE,γ',C',h1,hr _ _ h2,h3⟩⟩
def AV.iT:AV→AV
 | .sl (.fr (.cell _ _)) k xs=> .sl .n k xs
 |a=>a
def vv:Env→Env
 |[]=>[]
 |(i,a)::r=>(i,a.iT)::vv r
theorem yY (e:Env) (t:Nat):get (vv e) t=(get e t).iT:=by
 induction e with
 |nil=>rfl
 |cons p r ih=>
  obtain ⟨i,b⟩:=p
  simp only [vv,get]
  by_cases h:i=t<;>simp [h,ih]
theorem Wk.iT (a:AV):Wk a a.iT:=by
 cases a with
 |sl t k xs=>
  cases t with
  |fr m=>cases m<;>first|exact .n .. |exact .same _
  |_=>exact .same _
 |_=>exact .same _
theorem RP (a:AV):a.iT.bR=a.bR:=by
 cases a with
 |sl t k xs=>
  cases t with
  |fr m=>cases m<;>rfl
  |_=>rfl
 |_=>rfl
theorem Od (a:AV) (v:Value):bS a.iT v=bS a v:=by
 cases a with
 |sl t k xs=>
  cases t with
  |fr m=>cases m<;>simp [AV.iT,bS]
  |_=>rfl
 |_=>rfl
theorem Vw {a:AV} {l:Loc} {k:Nat} {xs:List AV} (h:a.iT= .sl (.fr l) k xs):a= .sl (.fr l) k xs∧∃t,l= .tmp t:=by
 cases a with
 |sl t k' xs'=>
  cases t with
  |fr m=>cases m with
   |tmp u=>simp only [AV.iT] at h;exact ⟨h,u,by injection h with h;injection h with h;exact h.symm⟩
   |cell s o=>simp [AV.iT] at h
  |_=>simp [AV.iT] at h
 |_=>simp [AV.iT] at h
theorem H9 {f:Nat} {zq:List AV} {vs:Array Value} {R:AV→AH→Prop} {d:Option Nat} (h:SR L N F γ C e ah ts w) (hd:∀x,d=some x→x<N) (hac:aF P f zq ah R)
 (hlen:vs.size=zq.length) (has:∀(i:Nat) (a:AV),zq[i]? =some a→VR C γ a (vs.getD i undef)∧TC w C a (vs.getD i undef)∧a.plain=true):
 Calls P f vs w fun en w'=>∃r v aE γ' C',en= .returned v∧R r aE∧γ <+: γ'∧SR L N F γ' C' (Am.aG L (vv e) d r.df) aE (Act.put ⟨ts,ds⟩ d v).tmps w'∧Ext F C w C' w':=by
 let F':Nat→Prop:=fun b=>F b∨∃t,blk γ e ah ts w (.tmp t) b
 have Oe:∀t,get (e4 0 zq) t=(zq[t]?).getD .un:=fun t=>by rw [eA];simp
 have hnot:∀t,(get (e4 0 zq) t).bR=false:=by
  intro t
  rw [Oe]
  cases ht:zq[t]? with
  |none=>rfl
  |some a=>exact gJ (has t a ht).2.2
 have hsub:∀p b,blk γ (e4 0 zq) ah vs w p b→blk γ e ah ts w p b∧∀t,p≠ .tmp t:=by
  intro p b hp
  cases p with
  |obj s=>exact ⟨hp,by simp⟩
  |cell s i=>exact ⟨hp,by simp⟩
  |tmp t=>simp only [blk] at hp;rw [iE _ (hnot t)] at hp;cases hp
 have hs:SR [] zq.length F' γ C (e4 0 zq) ah vs w:=by
  refine ⟨h.mem,hlen,fun t=> ?_,fun p q b hp hq=>h.ew p q b (hsub p b hp).1 (hsub q b hq).1,fun p b hp=> ?_,⟨fun b hb=> ?_,fun e he=>by obtain ⟨h1,h2⟩:=h.k9.HM e he;exact ⟨.inl h1,h2⟩⟩,fun t l k xs ht=> ?_⟩
  · rw [Oe]
    cases ht:zq[t]? with
    |none=>exact ⟨.un ..,by cases vs.getD t undef<;>trivial⟩
    |some a=>exact ⟨(has t a ht).1,(has t a ht).2.1⟩
  · rintro (hF|⟨t,ht⟩)
    · exact h.nf p b (hsub p b hp).1 hF
    · exact (hsub p b hp).2 t (h.ew p (.tmp t) b (hsub p b hp).1 ht)
  · rcases hb with hF|⟨t,ht⟩
    · exact h.k9.lt b hF
    · exact gi h ht
  · rw [Oe] at ht
    cases hq:zq[t]? with
    |none=>rw [hq] at ht;simp at ht
    |some a=>rw [hq] at ht;exact absurd ht (wA (has t a hq).2.2 l k xs)
 refine (hac.2 F' γ C w vs hs).mono ?_
 rintro en w' ⟨r,v,aE,γ',C',rfl,hR,hγ,lu,hx⟩
 refine ⟨r,v,aE,γ',C',rfl,hR,hγ, ?_,⟨hx.pre,fun b hb=>hx.keep b (.inl hb),hx.size,hx.out⟩⟩
 have hg:∀(s b:Nat),γ[s]? =some b→γ'[s]? =some b:=by
  intro s b hs
  obtain ⟨q,rfl⟩:=hγ
  rw [List.getElem?_append_left (List.getElem?_eq_some_iff.1 hs).1];exact hs
 have hown:∀t b,bS (get e t) (ts.getD t undef)=some b→F' b:=fun t b hb=> .inr ⟨t,hb⟩
 have hbk:∀p b,blk γ' (vv e) aE ts w' p b→(∃t,p= .tmp t∧blk γ e ah ts w (.tmp t) b)∨((∀t,p≠ .tmp t)∧blk γ' [(0,r)] aE #[v] w' p b):=by
  intro p b hp
  cases p with
  |obj s=>exact .inr ⟨by simp,hp⟩
  |cell s i=>exact .inr ⟨by simp,hp⟩
  |tmp t=>simp only [blk,yY,Od] at hp;exact .inl ⟨t,rfl,hp⟩
 have h2:SR L N F γ' C' (vv e) aE ts w':=by
  refine ⟨lu.mem,h.sz,fun t=> ?_,fun p q b hp hq=> ?_,fun p b hp=> ?_,h.k9.keep hx.size (fun b hb=>(hx.keep b (.inl hb)).1),fun t l k xs ht=> ?_⟩
  · rw [yY]
    refine ⟨(Wk.iT _).vr ((h.env t).1.mono hx.pre _ hg),(Wk.iT _).tc ((h.env t).2.mono fun b hb=> ?_)⟩
    exact hx.keep b (hown t b hb)
  · rcases hbk p b hp with ⟨t,rfl,h1⟩|⟨h1,h2⟩<;>rcases hbk q b hq with ⟨u,rfl,h3⟩|⟨h3,h4⟩
    · exact h.ew _ _ b h1 h3
    · exact absurd (hown t b h1) (lu.nf q b h4)
    · exact absurd (hown u b h3) (lu.nf p b h2)
    · exact lu.ew p q b h2 h4
  · rcases hbk p b hp with ⟨t,rfl,h1⟩|⟨h1,h2⟩
    · exact h.nf _ b h1
    · exact fun hF=>lu.nf p b h2 (.inl hF)
  · rw [yY] at ht
    obtain ⟨h1,u,rfl⟩:=Vw ht
    have:=h.fr t _ k xs h1
    exact ⟨this.1,fun hu=>this.2 (by rw [yY,RP] at hu;exact hu)⟩
 have hr:=lu.env 0
 simp only [get,if_true] at hr
 have hv0:(#[v]:Array Value).getD 0 undef=v:=rfl
 rw [hv0] at hr
 by_cases ho:r.bR=true
 · cases r with
   |sl t k xs=>
    cases t with
    |own=>
     simp only [AV.df]
     refine h2.sy hd hr.1 hr.2 fun b hb=> ?_
     have hb0:blk γ' [(0, .sl .own k xs)] aE #[v] w' (.tmp 0) b:=hb
     refine ⟨fun hF=>lu.nf _ b hb0 (.inl hF),fun p hp=> ?_⟩
     rcases hbk p b hp with ⟨t,rfl,h1⟩|⟨h1,h3⟩
     · exact lu.nf _ b hb0 (hown t b h1)
     · exact h1 0 (lu.ew p (.tmp 0) b h3 hb0)
    |_=>cases ho
   |_=>cases ho
 · have ho':r.bR=false:=by simpa using ho
   exact h2.aG hd ((Wk.df r).vr hr.1) ((Wk.df r).tc hr.2) (M0 ho') (fun l k xs hl=>absurd hl (Km r l k xs))
end
end Go.Am
end
section
namespace Go.Am
open Go
variable [Tabs]
def yZ (P:Program) (L:List Nat) (o:aL) (e:Env) (ah:AH) (K:Env→AH→Prop):Prop:=
 match o.op with
 | .call f zq=>
   match ev e f with
   | .fn f caps=>aU caps=true∧aF P f (zq.map (fun x=>(ev e x).sh)++caps.map AV.s1) ah fun r aE=>K (aG L (vv e) o.d r.df) aE
   |_=>False
 | .me k b x y=>oz L o.d k b x y e ah K
 | .nq n x=>Cp L o.d n x e ah K
 |_=>match bK L o e ah with
  |some (e',aE)=>K e' aE
  |none=>False
def oG (e:Env):Option Nat→Env
 |some d=>put e d (.bz [])
 |none=>e
def ey (P:Program) (L:List Nat):List aL→Env→AH→(Env→AH→Prop)→Prop
 |[],e,ah,K=>K e ah
 |o::r,e,ah,K=>match gp e o with
  |some true=>yZ P L o e ah fun e ah=>ey P L r e ah K
  |some false=>ey P L r (oG e o.d) ah K
  |none=>False
def lf (N:Nat):List aL→Bool
 |[]=>true
 |o::r=>(match o.d with|some d=>decide (d<N)|none=>true)&&(match o.op with| .lit y _=>decide (y<N)|_=>true)&&lf N r
theorem Na (N:Nat):∀zq:List aL,lf N (zq.map aL.er)=lf N zq:=by
 intro zq
 induction zq with
 |nil=>rfl
 |cons o r ih=>
  obtain ⟨d,op,g⟩:=o
  simp only [List.map_cons,lf,ih,aL.er]
  cases op<;>rfl
def NG:Exit→Prop
 | .goto _=>False
 |_=>True
def AW (P:Program) (L:List Nat) (N n0:Nat) (c:Code) (Q:Exit→Env→AH→Prop) (e:Env) (ah:AH):Prop:=
 ∀(F:Nat→Prop) (γ:List Nat) (C:Nat→List Value) (ts:Array Value) (w:World),SR L N F γ C e ah ts w→n0≤γ.length→
  c.wp P (fun x a' w'=>a'.defers=[]∧NG x∧∃e' aE γ' C',Q x e' aE∧γ.take n0 <+: γ'∧SR L N F γ' C' e' aE a'.tmps w'∧Ext F C w C' w') ⟨ts,[]⟩ w
section
variable {P:Program} {L:List Nat} {N n0:Nat} {F:Nat→Prop} {γ:List Nat} {C C':Nat→List Value} {e:Env} {ah:AH} {ts:Array Value} {w w':World}
variable {e':Env} {aE:AH}
theorem Fl {γ γ':List Nat} {n:Nat} (h:γ <+: γ'):γ.take n <+: γ':=(List.take_prefix n γ).trans h
theorem oH {γ γ' γ'':List Nat} {n:Nat} (h0:n≤γ.length) (h:γ.take n <+: γ') (h':γ'.take n <+: γ''):γ.take n <+: γ'':=by
 obtain ⟨r,rfl⟩:=h
 have:(γ.take n++r).take n=γ.take n:=by
  rw [List.take_append_of_le_length (by simp;omega),List.take_take,Nat.min_self]
 rwa [this] at h'
theorem Ia {γ γ':List Nat} {n:Nat} (h0:n≤γ.length) (h:γ.take n <+: γ'):n≤γ'.length:=by
 have:=h.length_le;simp at this;omega
theorem AW.mono {c:Code} {Q Q':Exit→Env→AH→Prop} (h:AW P L N n0 c Q e ah) (hq:∀x e ah,Q x e ah→Q' x e ah):AW P L N n0 c Q' e ah:=
 fun F γ C ts w hs hn=>wp_mono (h F γ C ts w hs hn) fun _ _ _ ⟨hd,hg,e',aE,γ',C',h1,h2⟩=>⟨hd,hg,e',aE,γ',C',hq _ _ _ h1,h2⟩
theorem AW.skip {Q:Exit→Env→AH→Prop} (h:Q .normal e ah):AW P L N n0 .skip Q e ah:=
 fun F γ C ts w hs hn=>wp_skip ⟨rfl,trivial,e,ah,γ,C,h,List.take_prefix _ _,hs,Ext.refl ..⟩
theorem AW.label {Q:Exit→Env→AH→Prop} {l:Nat} (h:Q .normal e ah):AW P L N n0 (.label l) Q e ah:=
 fun F γ C ts w hs hn=>wp_label ⟨rfl,trivial,e,ah,γ,C,h,List.take_prefix _ _,hs,Ext.refl ..⟩
theorem AW.ret {Q:Exit→Env→AH→Prop} (h:Q .ret e ah):AW P L N n0 .ret Q e ah:=
 fun F γ C ts w hs hn=>wp_ret ⟨rfl,trivial,e,ah,γ,C,h,List.take_prefix _ _,hs,Ext.refl ..⟩
theorem AW.exit {Q:Exit→Env→AH→Prop} {i:Nat} (h:Q (.exit i) e ah):AW P L N n0 (.exit i) Q e ah:=
 fun F γ C ts w hs hn=>wp_exit ⟨rfl,trivial,e,ah,γ,C,h,List.take_prefix _ _,hs,Ext.refl ..⟩
theorem AW.seq {a b:Code} {Q:Exit→Env→AH→Prop} (h:AW P L N n0 a (fun x e ah=>match x with| .normal=>AW P L N n0 b Q e ah|x=>Q x e ah) e ah):AW P L N n0 (.seq a b) Q e ah:=by
 intro F γ C ts w hs hn
 refine wp_seq (wp_mono (h F γ C ts w hs hn) ?_)
 rintro x ⟨ts',ds'⟩ w' ⟨rfl,hg,e',aE,γ',C',h1,h2,h3,h4⟩
 cases x with
 |normal=>
  refine wp_mono (h1 F γ' C' ts' w' h3 (Ia hn h2)) ?_
  rintro x ⟨RQ,ds2⟩ w2 ⟨rfl,hg,e2,sB,γ2,C2,g1,g2,g3,g4⟩
  exact ⟨rfl,hg,e2,sB,γ2,C2,g1,oH hn h2 g2,g3,h4.trans g4⟩
 |_=>exact ⟨rfl,hg,e',aE,γ',C',h1,h2,h3,h4⟩
theorem AW.cond {c:Operand} {c':Ar} {a b:Code} {t:Bool} {Q:Exit→Env→AH→Prop} (hc:bx c=some c') (ht:ev e c'= .bool t) (h:AW P L N n0 (if t then a else b) Q e ah):
 AW P L N n0 (.cond c a b) Q e ah:=by
 intro F γ C ts w hs hn
 have:=(bP (ds:=[]) hs hc).1
 rw [ht] at this
 exact wp_cond (t:=t) this.gq (h F γ C ts w hs hn)
theorem AW.blk {c:Code} {i:Nat} {Q:Exit→Env→AH→Prop} (h:AW P L N n0 c (fun x e ah=>match x with| .exit j=>if j=i then Q .normal e ah else Q (.exit j) e ah|x=>Q x e ah) e ah):
 AW P L N n0 (.block i c) Q e ah:=by
 intro F γ C ts w hs hn
 refine wp_block (wp_mono (h F γ C ts w hs hn) ?_)
 rintro x a w' ⟨hd,hg,e',aE,γ',C',h1,h2⟩
 cases x with
 |exit j=>
  simp only [Exit.inBlock] at h1 ⊢
  by_cases hj:j=i
  · rw [if_pos hj] at h1 ⊢;exact ⟨hd,trivial,e',aE,γ',C',h1,h2⟩
  · rw [if_neg hj] at h1 ⊢;exact ⟨hd,trivial,e',aE,γ',C',h1,h2⟩
 |_=>exact ⟨hd,hg,e',aE,γ',C',h1,h2⟩
theorem AW.loop {c:Code} {Q:Exit→Env→AH→Prop} (I:Nat→Env→AH→Prop) {k0:Nat}
 (round:∀k e ah,I k e ah→AW P L N n0 c (fun x e' aE=>match x with| .normal=>∃k',k'<k∧I k' e' aE|x=>Q x e' aE) e ah) (h0:I k0 e ah):AW P L N n0 (.loop c) Q e ah:=by
 intro F γ C ts w hs hn
 refine wp_loop_ghost (fun k a w'=>a.defers=[]∧∃e' aE γ' C',I k e' aE∧γ.take n0 <+: γ'∧SR L N F γ' C' e' aE a.tmps w'∧Ext F C w C' w') k0
  ⟨rfl,e,ah,γ,C,h0,List.take_prefix _ _,hs,Ext.refl ..⟩ ?_
 rintro k ⟨CH,ds1⟩ w1 ⟨rfl,e1,bU,γ1,C1,h1,h2,h3,h4⟩
 refine wp_mono (round k e1 bU h1 F γ1 C1 CH w1 h3 (Ia hn h2)) ?_
 rintro x ⟨RQ,ds2⟩ w2 ⟨rfl,hg,e2,sB,γ2,C2,g1,g2,g3,g4⟩
 cases x with
 |normal=>obtain ⟨k',hk',hI⟩:=g1;exact ⟨k',hk',rfl,e2,sB,γ2,C2,hI,oH hn h2 g2,g3,h4.trans g4⟩
 |_=>exact ⟨rfl,hg,e2,sB,γ2,C2,g1,oH hn h2 g2,g3,h4.trans g4⟩
theorem AW.scope {c:Code} {Q:Exit→Env→AH→Prop} (h:AW P L N n0 c Q e ah):AW P L N n0 (.scope c) Q e ah:=
 fun F γ C ts w hs hn=>wp_scope_straight (wp_mono (h F γ C ts w hs hn) fun x _ _ h=>by cases x<;>first|exact h|exact h.2.1.elim)
theorem AW.weak {c:Code} {Q:Exit→Env→AH→Prop} {e1:Env} (hw:∀t,Wk (get e t) (get e1 t)) (h:AW P L N n0 c Q e1 ah):AW P L N n0 c Q e ah:=
 fun F γ C ts w hs hn=>h F γ C ts w (hs.wk hw) hn
theorem iF {ops:Array Oper} {o:Oper} {g:Option (Nat×Bool)} {d:Option Nat} {op:fK} {b:Bool} (h:SR L N F γ C e ah ts w) (hg:gG ops o.guard=some g) (hb:gp e ⟨d,op,g⟩=some b):
 Region.wanted o (yielded ops ts)=b:=by
 unfold Region.wanted
 cases ho:o.guard with
 |none=>
  rw [ho] at hg
  simp only [gG,Option.some.injEq] at hg
  subst hg
  simp only [gp,Option.some.injEq] at hb
  exact hb
 |some jw=>
  obtain ⟨j,want⟩:=jw
  rw [ho] at hg
  simp only [gG,Option.map_eq_some_iff] at hg
  obtain ⟨t,ht,rfl⟩:=hg
  simp only [gp] at hb
  split at hb
  · rename_i b' he
    have hv:=(h.env t).1
    rw [he] at hv
    have hv:=hv.gq
    have hy:yielded ops ts j=some b':=by
     unfold yielded
     rw [ht]
     simp only [Option.bind_some]
     have:ts[t]? =some (.bool b'):=by
      rw [Array.getD_eq_getD_getElem?] at hv
      cases hq:ts[t]? with
      |none=>rw [hq] at hv;simp [undef] at hv
      |some v=>rw [hq] at hv;simp at hv;rw [hv]
     rw [this]
    simp only [hy]
    simp only [Option.some.injEq] at hb
    rw [←hb]
    simp
  · rename_i he
    have hv:=(h.env t).1
    rw [he] at hv
    obtain ⟨vs,hv, -⟩:=hv.vg
    have hy:yielded ops ts j=none:=by
     unfold yielded
     rw [ht]
     simp only [Option.bind_some]
     rw [Array.getD_eq_getD_getElem?] at hv
     cases hq:ts[t]? with
     |none=>rfl
     |some v=>rw [hq] at hv;simp at hv;rw [hv]
    simp only [hy]
    simp only [Option.some.injEq] at hb
    exact hb
  · cases hb
  · cases hb
theorem Fm (h:SR L N F γ C e ah ts w):∀(tys:List TypeId) (l:List Operand) (zq:List Ar),xl P tys l=some zq→zq.length=l.length∧
 ∀(i:Nat) (x:Operand) (a:Ar),l[i]? =some x→zq[i]? =some a→VR C γ (ev e a) (Act.eval ⟨ts,[]⟩ x)∧TC w C (ev e a) (Act.eval ⟨ts,[]⟩ x):=by
 intro tys l
 induction l generalizing tys with
 |nil=>intro zq hc;cases tys<;>(simp [xl] at hc;subst hc;simp)
 |cons x r ih=>
  intro zq hc
  cases tys with
  |nil=>simp [xl] at hc
  |cons t tys=>
   simp only [xl] at hc
   split at hc
   case h_2=>cases hc
   rename_i a zq' ha has
   simp only [Option.some.injEq] at hc
   subst hc
   obtain ⟨h1,h2⟩:=ih tys zq' has
   refine ⟨by simp [h1],fun j y b hy hb=> ?_⟩
   cases j with
   |zero=>simp at hy hb;subst hy;subst hb;exact fE h ha
   |succ j=>exact h2 j y b (by simpa using hy) (by simpa using hb)
theorem CI {f:Nat} (hf:jt P f=true) {d:Option Nat} {x:Operand} {args:Array Operand} {tys:Array TypeId} {ty:TypeId} {pos:String} {af:Array Edge} {g:Option (Nat×Bool)} {caps:Array Value} {ρ:Operand→Value}
 (hx:ρ x= .func (.func f) #[] caps):
 (execOp ρ ⟨d, .call {callee:= .value x,args:=args,argTypes:=tys},ty,pos,af,g⟩).run P w= .ok (.enter f (args.map ρ++caps)) w:=by
 unfold jt at hf
 split at hf
 case h_2=>cases hf
 rename_i fn hfn
 simp only [Bool.and_eq_true,bne_iff_ne] at hf
 obtain ⟨h1,h2⟩:=hf
 have h3:fn.body.isNone=false:=by cases hb:fn.body<;>simp_all
 have h4:(fn.name== "runtime.NumGoroutine")=false:=by simpa using h2
 have h5:fn.body≠none:=by intro h0;rw [h0] at h1;cases h1
 simp [execOp,resolve,Deferred.ofValue,hx,invoke,callFunc,program,Sem.run,hfn,h2,h5]
theorem Ae {o:Oper} {f:Ar} {vw:List Ar} (hop:cop P o=some (.call f vw)):
 ∃x args tys,o=⟨o.dst, .call {callee:= .value x,args:=args,argTypes:=tys},o.type,o.pos,o.after,o.guard⟩∧bx x=some f∧xl P tys.toList args.toList=some vw:=by
 obtain ⟨d,oo,ty,pos,af,gd⟩:=o
 cases oo with
 |call c=>
  obtain ⟨callee,args,tys⟩:=c
  simp only [cop] at hop
  split at hop
  · split at hop<;>simp at hop
  · split at hop
    · split at hop
      · simp at hop
      · cases hop
    · cases hop
  · split at hop
    · split at hop
      · simp at hop
      · cases hop
    · cases hop
  · split at hop
    · split at hop
      · split at hop<;>simp at hop
      · split at hop<;>simp at hop
      · cases hop
    · cases hop
  · rename_i x
    split at hop
    · rename_i f2 as2 h1 h2
      injection hop with hop
      injection hop with e1 e2
      subst e1;subst e2
      exact ⟨x,args,tys,rfl,h1,h2⟩
    · cases hop
  · cases hop
 |makeFunc fn first cs=>
  cases fn with
  |func f=>simp only [cop] at hop;split at hop<;>simp at hop
  |_=>simp [cop] at hop
 |_=>
  exfalso
  simp only [cop] at hop
  first
   |cases hop;done
   |(simp at hop;done)
   |(repeat' (split at hop))<;>(first|(cases hop;done)|(simp at hop;done))
theorem CJ (hs:SR L N F γ C e ah ts w) {vw:List Ar} {caps:List AV} {args:Array Operand} {vs:Array Value} (hfl:aU caps=true) (hcl:caps.length=vs.size)
 (nY:∀(i:Nat) (a:AV),caps[i]? =some a→VR C γ a (vs.getD i undef)) (c1:vw.length=args.toList.length)
 (c2:∀(i:Nat) (x:Operand) (a:Ar),args.toList[i]? =some x→vw[i]? =some a→VR C γ (ev e a) (Act.eval ⟨ts,[]⟩ x)∧TC w C (ev e a) (Act.eval ⟨ts,[]⟩ x)):
 ∀(i:Nat) (a:AV),(vw.map (fun x=>(ev e x).sh)++caps.map AV.s1)[i]? =some a→
  VR C γ a ((args.map (Act.eval ⟨ts,[]⟩)++vs).getD i undef)∧TC w C a ((args.map (Act.eval ⟨ts,[]⟩)++vs).getD i undef)∧a.plain=true:=by
 intro i a hi
 by_cases hlt:i<vw.length
 · rw [List.getElem?_append_left (by simpa using hlt),List.getElem?_map,List.getElem?_eq_getElem hlt] at hi
   obtain rfl:(ev e vw[i]).sh=a:=by simpa using hi
   have Fi:i<args.toList.length:=by omega
   have:=c2 i _ _ (List.getElem?_eq_getElem Fi) (List.getElem?_eq_getElem hlt)
   have hgd:(args.map (Act.eval ⟨ts,[]⟩)++vs).getD i undef=Act.eval ⟨ts,[]⟩ args.toList[i]:=by
    rw [Array.length_toList] at Fi
    simp [Array.getD_eq_getD_getElem?,Array.getElem?_append,Fi]
   rw [hgd]
   exact ⟨(Wk.sh _).vr this.1,(Wk.sh _).tc this.2,sA _⟩
 · rw [List.getElem?_append_right (by simpa using hlt),List.getElem?_map] at hi
   simp only [List.length_map] at hi
   cases Eg:caps[i - vw.length]? with
   |none=>rw [Eg] at hi;simp at hi
   |some b=>
    rw [Eg] at hi
    obtain rfl:b.s1=a:=by simpa using hi
    have hgd:(args.map (Act.eval ⟨ts,[]⟩)++vs).getD i undef=vs.getD (i - vw.length) undef:=by
     have c1':vw.length=args.size:=by simpa using c1
     simp only [Array.getD_eq_getD_getElem?]
     rw [Array.getElem?_append_right (by simp;omega)]
     simp [c1']
    rw [hgd]
    exact ⟨(Wk.kT (Wk.s1 _)).vr (nY _ _ Eg),Rk b (jr hfl Eg) _,Fc b⟩
theorem Ib {o:Oper} {a:fK} (h:MY P o=some a):cop P o=some a∨a= .bad:=by
 unfold MY at h
 cases hc:cop P o with
 |none=>rw [hc] at h;injection h with h;exact .inr h.symm
 |some b=>rw [hc] at h;exact .inl h
theorem Vx {op:fK} (h:op.er= .bad):op= .bad:=by cases op<;>first|rfl|cases h
theorem Bd {ops:Array Oper} {l:List Oper} {zq:List aL} (h:jX P ops l=some zq):(l=[]∧zq=[])∨
 (∃o o2 r a zq',l=o::o2::r∧mo P o o2=some a∧jX P ops r=some zq'∧zq=a::zq')∨
 (∃o o2 r ag zq',l=o::o2::r∧HK P ops o o2=some ag∧jX P ops r=some zq'∧zq=ag++zq')∨
 ∃o r op g zq',l=o::r∧(cop P o=some op∨op= .bad)∧gG ops o.guard=some g∧jX P ops r=some zq'∧zq=⟨o.dst,op,g⟩::zq':=by
 cases l with
 |nil=>simp only [jX,Option.some.injEq] at h;exact .inl ⟨rfl,h.symm⟩
 |cons o r=>
  cases r with
  |nil=>
   simp only [jX] at h
   split at h
   case h_2=>cases h
   rename_i a g h1 h2
   injection h with h
   exact .inr (.inr (.inr ⟨o,[],a,g,[],rfl,Ib h1,h2,rfl,h.symm⟩))
  |cons o2 r=>
   rw [jX] at h
   split at h
   · rename_i a ha
     simp only [Option.map_eq_some_iff] at h
     obtain ⟨zq',h1,rfl⟩:=h
     exact .inr (.inl ⟨o,o2,r,a,zq',rfl,ha,h1,rfl⟩)
   · split at h
     · rename_i ag hag
       simp only [Option.map_eq_some_iff] at h
       obtain ⟨zq',h1,rfl⟩:=h
       exact .inr (.inr (.inl ⟨o,o2,r,ag,zq',rfl,hag,h1,rfl⟩))
     · split at h
       case h_2=>cases h
       rename_i a g zq' h1 h2 h3
       injection h with h
       exact .inr (.inr (.inr ⟨o,o2::r,a,g,zq',rfl,Ib h1,h2,h3,h.symm⟩))
theorem Nb {a b:aL} {y:Nat} {bs:List UInt8} (h:a.er=b) (hb:b.op= .lit y bs):a=b:=by
 obtain ⟨d,op,g⟩:=a
 subst h
 cases op<;>first|rfl|(simp [aL.er,fK.er] at hb)
theorem CK {o o2:Oper} {a:aL} (h:mo P o o2=some a):∃y bs,a.op= .lit y bs:=by
 unfold mo at h
 split at h
 case h_2=>cases h
 split at h
 case isFalse=>cases h
 split at h
 case h_2=>cases h
 split at h
 case h_2=>cases h
 split at h
 case isFalse=>cases h
 split at h
 case h_2=>cases h
 simp only [Option.map_eq_some_iff] at h
 obtain ⟨bs, -,rfl⟩:=h
 exact ⟨_,_,rfl⟩
theorem Af {ops:Array Oper} {o o2:Oper} {ag:List aL} (h:HK P ops o o2=some ag):∃d y bs t w g,ag=[⟨some y, .mv (.c .un),some (t,w)⟩,⟨d, .lit y bs,some (t,w)⟩]∧t≠y∧
 mo P (bare o) (bare o2)=some ⟨d, .lit y bs,g⟩∧gG ops o.guard=some (some (t,w))∧gG ops o2.guard=some (some (t,w)):=by
 unfold HK at h
 split at h
 case isFalse=>cases h
 rename_i hg
 split at h
 case h_2=>cases h
 rename_i x t w d y bs g h1 h2 h3
 split at h
 · cases h
 · rename_i hty
   injection h with h
   exact ⟨d,y,bs,t,w,g,h.symm,hty,h3,h2,by rw [←hg];exact h2⟩
theorem Yf {a b:aL} {x:Ar} (h:a.er=b) (hb:b.op= .mv x):a=b:=by
 obtain ⟨d,op,g⟩:=a
 subst h
 cases op<;>first|rfl|(simp [aL.er,fK.er] at hb)
theorem F2 {ops:Array Oper} {l:List Oper} {zq:List aL} (h:jX P ops l=some (zq.map aL.er)):(l=[]∧zq=[])∨
 (∃o o2 r a zq',l=o::o2::r∧mo P o o2=some a∧jX P ops r=some (zq'.map aL.er)∧zq=a::zq')∨
 (∃o o2 r ag zq',l=o::o2::r∧HK P ops o o2=some ag∧jX P ops r=some (zq'.map aL.er)∧zq=ag++zq')∨
 ∃o r op g zq',l=o::r∧(cop P o=some op.er∨op= .bad)∧gG ops o.guard=some g∧jX P ops r=some (zq'.map aL.er)∧zq=⟨o.dst,op,g⟩::zq':=by
 rcases Bd h with ⟨h1,h2⟩|⟨o,o2,r,a,zq',h1,h2,h3,h4⟩|⟨o,o2,r,ag,zq',h1,h2,h3,h4⟩|⟨o,r,op,g,zq',h1,h2,h3,h4,h5⟩
 · exact .inl ⟨h1,by simpa using h2⟩
 · cases zq with
   |nil=>simp at h4
   |cons x xs=>
    simp only [List.map_cons,List.cons.injEq] at h4
    obtain ⟨y,bs,hl⟩:=CK h2
    have:=Nb h4.1 hl
    subst this
    exact .inr (.inl ⟨o,o2,r,x,xs,h1,h2,by rw [h3,h4.2],rfl⟩)
 · obtain ⟨d,y,bs,t,w,g,rfl, -⟩:=Af h2
   cases zq with
   |nil=>simp at h4
   |cons x xs=>
    cases xs with
    |nil=>simp at h4
    |cons x2 xs=>
     simp only [List.map_cons,List.cons_append,List.nil_append,List.cons.injEq] at h4
     have e1:=Yf h4.1 rfl
     have e2:=Nb h4.2.1 rfl
     subst e1;subst e2
     exact .inr (.inr (.inl ⟨o,o2,r,_,xs,h1,h2,by rw [h3,h4.2.2],rfl⟩))
 · cases zq with
   |nil=>simp at h5
   |cons x xs=>
    simp only [List.map_cons,List.cons.injEq] at h5
    obtain ⟨d,op',g'⟩:=x
    obtain ⟨h6,h7⟩:=h5
    simp only [aL.er] at h6
    injection h6 with e1 e2 e3
    subst e1;subst e2;subst e3
    exact .inr (.inr (.inr ⟨o,r,op',g',xs,h1,h2.imp id Vx,h3,by rw [h4,h7],rfl⟩))
theorem Ic {ops:Array Oper} {o o2:Oper} {l:List Oper} {a:aL} {zq:List aL} {K:Env→AH→Prop} {Q:Exit→Act→World→Prop} (gF:mo P (bare o) (bare o2)=some a)
 (hw1:Region.wanted o (yielded ops ts)=true) (CA:∀y bs v,a.op= .lit y bs→Region.wanted o2 (yielded ops ((⟨ts,[]⟩:Act).put (some y) v).tmps)=true) (hd:lf N (a::zq)=true)
 (hs:SR L N F γ C e ah ts w) (hk:ey P L (a::zq) e ah K)
 (next:∀e1 bU C1 CH w1,ey P L zq e1 bU K→lf N zq=true→SR L N F γ C1 e1 bU CH w1→Ext F C w C1 w1→wpList P ops Q l ⟨CH,[]⟩ w1):wpList P ops Q (o::o2::l) ⟨ts,[]⟩ w:=by
 obtain ⟨d1,op1,ty1,pos1,af1,g1⟩:=o
 obtain ⟨d2,Vt,oD,pos2,af2,g2⟩:=o2
 unfold mo bare at gF
 split at gF
 case h_2=>cases gF
 rename_i t n parts s d x y h1 h2 h3
 simp only at h1 h2 h3
 subst h1;subst h2;subst h3
 split at gF
 case isFalse=>cases gF
 rename_i hcs
 obtain ⟨rfl,rfl,rfl,Vy,RR,hyd,hn,hn2⟩:=hcs
 split at gF
 case h_2=>cases gF
 rename_i el hel
 split at gF
 case h_2=>cases gF
 rename_i hu8
 split at gF
 case isFalse=>cases gF
 rename_i hsz
 split at gF
 case h_2=>cases gF
 rename_i vw aaN
 simp only [Option.map_eq_some_iff] at gF
 obtain ⟨bs,Kv,rfl⟩:=gF
 have CA:=fun v=>CA _ _ v rfl
 simp only [lf,Bool.and_eq_true] at hd
 obtain ⟨⟨hd1,Ie⟩,hd3⟩:=hd
 have hy:x<N:=by simpa using Ie
 have jK:∀z,d2=some z→z<N:=by
  intro z hz
  rw [hz] at hd1
  simpa using hd1
 simp only [ey,gp,yZ,bK] at hk
 have ht:P.underlying d=some (.slice el):=by
  unfold D9 at hel
  split at hel
  · rename_i h;injection hel with hel;subst hel;exact h
  · cases hel
 obtain ⟨q1,q2⟩:=RF Kv e
 obtain ⟨r,hrs,hrun,key⟩:=Fh (ds:=[]) (d:=d2) hs jK ht hn (by rw [hsz.1];omega) hsz.2 aaN (by rw [hsz.1];exact q2)
 obtain ⟨C',k1,k2⟩:=key (r.size,r.size+1) (.inr rfl)
 rw [q1,hsz.1] at k1
 have k3:=k1.Bb (d:=x) (a:= .un) (v:= .slice (some ⟨w.heap.size,0,none⟩) n n) hy (.un ..) trivial rfl (by simp)
 unfold wpList
 rw [if_pos hw1]
 refine .inl ?_
 unfold Oper.wp
 have e1:(execOp (Act.eval ⟨ts,[]⟩) ⟨some x, .buildSlice d n parts,ty1,pos1,af1,g1⟩).run P w= .ok (.value (.slice (some ⟨w.heap.size,0,none⟩) n n)) (w.alloc (.cells r el)):=by
  simp [execOp,hrun]
 rw [e1]
 simp only [Oper.upon]
 unfold wpList
 rw [if_pos (CA _)]
 refine .inl ?_
 unfold Oper.wp
 have hlt:x<ts.size:=by rw [hs.sz];exact hy
 have e2:(execOp (Act.eval ((⟨ts,[]⟩:Act).put (some x) (.slice (some ⟨w.heap.size,0,none⟩) n n))) ⟨d2, .convert d d (.tmp x),oD,pos2,af2,g2⟩).run P (w.alloc (.cells r el))= .ok (.value (.slice (some ⟨w.heap.size,0,none⟩) n n)) (w.alloc (.cells r el (r.size,r.size+1))):=by
  have hev:Act.eval ((⟨ts,[]⟩:Act).put (some x) (.slice (some ⟨w.heap.size,0,none⟩) n n)) (.tmp x)= .slice (some ⟨w.heap.size,0,none⟩) n n:=by
   simp [Act.eval,Act.put,hlt]
  have:=Lib.run_convert_bytes_const (P:=P) w d el r n n ht hu8
  simp only [execOp,hev,Sem.run_bind,this,Result.andThen_ok,Sem.run_pure]
 rw [e2]
 simp only [Oper.upon]
 rw [←SR.CD ts [] hyd]
 have hput:(((⟨ts,[]⟩:Act).put d2 (.slice (some ⟨w.heap.size,0,none⟩) n n)).put (some x) (.slice (some ⟨w.heap.size,0,none⟩) n n))=
  ⟨(((⟨ts,[]⟩:Act).put d2 (.slice (some ⟨w.heap.size,0,none⟩) n n)).tmps).setIfInBounds x (.slice (some ⟨w.heap.size,0,none⟩) n n),[]⟩:=by
  cases d2<;>rfl
 rw [hput]
 exact next _ _ C' _ _ hk hd3 k3 k2
theorem Vz {ops:Array Oper} {o o2:Oper} {l:List Oper} {a:aL} {zq:List aL} {K:Env→AH→Prop} {Q:Exit→Act→World→Prop} (gF:mo P o o2=some a) (hd:lf N (a::zq)=true)
 (hs:SR L N F γ C e ah ts w) (hk:ey P L (a::zq) e ah K)
 (next:∀e1 bU C1 CH w1,ey P L zq e1 bU K→lf N zq=true→SR L N F γ C1 e1 bU CH w1→Ext F C w C1 w1→wpList P ops Q l ⟨CH,[]⟩ w1):wpList P ops Q (o::o2::l) ⟨ts,[]⟩ w:=by
 have hg:o.guard=none∧o2.guard=none:=by
  unfold mo at gF
  split at gF
  case h_2=>cases gF
  split at gF
  case isFalse=>cases gF
  rename_i hcs
  exact ⟨by simpa using hcs.2.2.2.1,by simpa using hcs.2.2.2.2.1⟩
 have e1:bare o=o:=by obtain ⟨d,op,ty,pos,af,g⟩:=o;simp only at hg;simp [bare,hg.1]
 have e2:bare o2=o2:=by obtain ⟨d,op,ty,pos,af,g⟩:=o2;simp only at hg;simp [bare,hg.2]
 exact Ic (by rw [e1,e2];exact gF) (by simp [Region.wanted,hg.1]) (fun _ _ _ _=>by simp [Region.wanted,hg.2]) hd hs hk next
theorem RS {ops:Array Oper}:∀(n:Nat) (l:List Oper) (zq:List aL) (e:Env) (ah:AH) (K:Env→AH→Prop) (F:Nat→Prop) (γ:List Nat) (C:Nat→List Value) (ts:Array Value) (w:World)
 (Q:Exit→Act→World→Prop),l.length≤n→jX P ops l=some (zq.map aL.er)→lf N zq=true→SR L N F γ C e ah ts w→ey P L zq e ah K→
 (∀e' aE γ' C' ts' w',K e' aE→γ <+: γ'→SR L N F γ' C' e' aE ts' w'→Ext F C w C' w'→Q .normal ⟨ts',[]⟩ w')→wpList P ops Q l ⟨ts,[]⟩ w:=by
 intro n
 induction n with
 |zero=>
  intro l zq e ah K F γ C ts w Q hn hc hd hs hk hq
  obtain rfl:l=[]:=List.eq_nil_of_length_eq_zero (by omega)
  simp only [jX,Option.some.injEq] at hc
  obtain rfl:zq=[]:=by simpa using hc.symm
  exact wpList_nil (hq e ah γ C ts w hk (List.prefix_refl _) hs (Ext.refl ..))
 |succ n ih=>
  intro l zq e ah K F γ C ts w Q hn hc hd hs hk hq
  rcases F2 hc with ⟨rfl,rfl⟩|⟨o,o2,l,a,zq',rfl,gF,has,rfl⟩|⟨o,o2,l,ag,zq',rfl,gF,has,rfl⟩|⟨o,l,op,g,zq',rfl,hop,hg,has,rfl⟩
  · exact wpList_nil (hq e ah γ C ts w hk (List.prefix_refl _) hs (Ext.refl ..))
  · exact Vz gF hd hs hk fun e1 bU C1 CH w1 Ab hd1 hs1 hx1=>ih l zq' e1 bU K F γ C1 CH w1 Q (by simp at hn;omega) has hd1 hs1 Ab
     fun e' aE γ' C' ts' w' g1 g2 g3 g4=>hq e' aE γ' C' ts' w' g1 g2 g3 (hx1.trans g4)
  · obtain ⟨d,y,bs,tg,want,g0,rfl,hty,hlo,Vy,RR⟩:=Af gF
    have hd:lf N [⟨some y, .mv (.c .un),some (tg,want)⟩,⟨d, .lit y bs,some (tg,want)⟩]=true∧lf N zq'=true:=by
     simp only [List.cons_append,List.nil_append,lf,Bool.and_eq_true,Bool.and_true] at hd ⊢
     exact ⟨⟨hd.1,hd.2.1⟩,hd.2.2⟩
    have hyN:y<N:=by
     have:=hd.1
     simp only [lf,Bool.and_eq_true] at this
     simpa using this.1.1
    have aaO:∀v,SR L N F γ C (put e y .un) ah (ts.setIfInBounds y v) w:=fun v=>hs.Bb hyN (.un ..) trivial rfl (by simp)
    have hge:∀a,get (put e y a) tg=get e tg:=fun a=>by rw [eZ,if_neg hty]
    have yT:∀a (d d2:Option Nat) (op Vt:fK),gp (put e y a) ⟨d,op,some (tg,want)⟩=gp e ⟨d2,Vt,some (tg,want)⟩:=fun a _ _ _ _=>by simp only [gp,hge]
    rw [List.cons_append,List.cons_append,List.nil_append] at hk
    simp only [ey] at hk
    split at hk
    · rename_i tN
      have hw1:=iF hs Vy tN
      have e0:aG L e (some y) (cp L (.c .un) (ev e (.c .un)))=put e y .un:=by
       simp only [ev,cp,aG];split<;>rfl
      simp only [yZ,bK] at hk
      rw [e0,yT .un d (some y) (.lit y bs) (.mv (.c .un)),tN] at hk
      simp only at hk
      have hk3:ey P L (⟨d, .lit y bs,g0⟩::zq') (put e y .un) ah K:=by
       have h0:g0=none:=by
        unfold mo at hlo
        split at hlo
        case h_2=>cases hlo
        split at hlo
        case isFalse=>cases hlo
        split at hlo
        case h_2=>cases hlo
        split at hlo
        case h_2=>cases hlo
        split at hlo
        case isFalse=>cases hlo
        split at hlo
        case h_2=>cases hlo
        simp only [Option.map_eq_some_iff] at hlo
        obtain ⟨_, -,hlo⟩:=hlo
        injection hlo with _ _ h3
        exact h3.symm
       subst h0
       exact hk
      refine Ic hlo hw1 (fun y' bs' v h=> ?_) (by
       have h1:=hd.1
       simp only [lf,Bool.and_eq_true] at h1 ⊢
       exact ⟨h1.2.1,hd.2⟩) (hs.sx (.un _)) hk3 fun e1 bU C1 CH w1 Ab hd1 hs1 hx1=>ih l zq' e1 bU K F γ C1 CH w1 Q (by simp at hn;omega) has hd1 hs1 Ab
       fun e' aE γ' C' ts' w' g1 g2 g3 g4=>hq e' aE γ' C' ts' w' g1 g2 g3 (hx1.trans g4)
      injection h with h1 h2
      subst h1
      exact iF (aaO v) RR (d:=d) (op:= .lit y bs) ((yT .un d (some y) (.lit y bs) (.mv (.c .un))).trans tN)
    · rename_i tN
      have hw1:=iF hs Vy tN
      rw [show oG e (some y)=put e y (.bz []) from rfl,yT (.bz []) d (some y) (.lit y bs) (.mv (.c .un)),tN] at hk
      simp only at hk
      obtain ⟨KB,hdy⟩:o.dst=some y∧o2.dst=d:=by
       unfold mo bare at hlo
       split at hlo
       case h_2=>cases hlo
       rename_i h1 h2 h3
       simp only at h3
       split at hlo
       case isFalse=>cases hlo
       split at hlo
       case h_2=>cases hlo
       split at hlo
       case h_2=>cases hlo
       split at hlo
       case isFalse=>cases hlo
       split at hlo
       case h_2=>cases hlo
       simp only [Option.map_eq_some_iff] at hlo
       obtain ⟨_, -,hlo⟩:=hlo
       injection hlo with q1 q2 _
       injection q2 with q2 _
       subst q2
       exact ⟨h3,q1⟩
      have hs1:SR L N F γ C (put e y (.bz [])) ah (ts.setIfInBounds y undef) w:=hs.Bb hyN (.bz _ [] #[] rfl (by simp)) (by simp [undef,TC]) rfl (by simp)
      unfold wpList
      rw [if_neg (by rw [hw1];simp)]
      unfold wpList
      have Yg:(⟨ts,[]⟩:Act).put o.dst undef=⟨ts.setIfInBounds y undef,[]⟩:=by rw [KB];rfl
      rw [Yg]
      have CA:=iF hs1 RR (d:=d) (op:= .lit y bs) ((yT (.bz []) d (some y) (.lit y bs) (.mv (.c .un))).trans tN)
      rw [if_neg (by show ¬(Region.wanted o2 (yielded ops (ts.setIfInBounds y undef))=true);rw [CA];simp)]
      have hput:(⟨ts.setIfInBounds y undef,[]⟩:Act).put o2.dst undef=⟨((⟨ts.setIfInBounds y undef,[]⟩:Act).put o2.dst undef).tmps,[]⟩:=by cases o2.dst<;>rfl
      rw [hput]
      refine ih l zq' _ ah K F γ C _ w Q (by simp at hn;omega) has hd.2 ?_ hk hq
      rw [hdy]
      cases hdd:d with
      |none=>exact hs1
      |some d'=>
       have hdN:d'<N:=by
        have:=hd.1
        simp only [lf,Bool.and_eq_true,hdd] at this
        simpa using this.2.1.1
       exact hs1.Bb hdN (.bz _ [] #[] rfl (by simp)) (by simp [undef,TC]) rfl (by simp)
    · exact hk.elim
  have hn':l.length≤n:=by simp at hn;omega
  simp only [lf,Bool.and_eq_true] at hd
  have jK:∀x,o.dst=some x→x<N:=by
   intro x hx
   have:=hd.1.1
   rw [hx] at this
   simpa using this
  simp only [ey] at hk
  split at hk
  · rename_i tN
    have hw:=iF hs hg tN
    unfold wpList
    rw [if_pos hw]
    refine .inl ?_
    rcases hop with hop|rfl
    case inr=>exact hk.elim
    by_cases eN:op.nX=true
    · cases op with
      |call f vw=>
       simp only [yZ] at hk
       split at hk
       case h_2=>exact hk.elim
       rename_i f' caps Yh
       obtain ⟨hfl,hk⟩:=hk
       obtain ⟨x,args,tys,ho,hx,hargs⟩:=Ae hop
       have h1:=bP (ds:=[]) hs hx
       rw [Yh] at h1
       obtain ⟨vs,Yi,hcl,nY⟩:=h1.1.FM
       obtain ⟨c1,c2⟩:=Fm hs _ _ _ hargs
       have CL:=H9 (d:=o.dst) (ds:=[]) (vs:=args.map (Act.eval ⟨ts,[]⟩)++vs) hs jK hk (by simp [c1,hcl]) (CJ hs hfl hcl nY c1 c2)
       have KC:(execOp (Act.eval ⟨ts,[]⟩) o).run P w= .ok (.enter f' (args.map (Act.eval ⟨ts,[]⟩)++vs)) w:=by
        rw [ho];exact CI hk.1 Yi
       unfold Oper.wp
       rw [KC]
       simp only [Oper.upon]
       refine CL.mono ?_
       rintro en w1 ⟨r,v,bU,γ1,C1,rfl,hR,hγ,hs1,hx1⟩
       have hput:(⟨ts,[]⟩:Act).put o.dst v=⟨((⟨ts,[]⟩:Act).put o.dst v).tmps,[]⟩:=by cases o.dst<;>rfl
       show wpList P ops Q l ((⟨ts,[]⟩:Act).put o.dst v) w1
       rw [hput]
       exact ih l zq' _ bU K F γ1 C1 _ w1 Q hn' has hd.2 hs1 hR fun e' aE γ' C' ts' w' g1 g2 g3 g4=>hq e' aE γ' C' ts' w' g1 (hγ.trans g2) g3 (hx1.trans g4)
      |me k b x y=>
       simp only [yZ] at hk
       obtain ⟨e1,bU,hk',v,w1,γ1,C1,hr,hγ,hs1,hx1, -, -⟩:=Fj (m:=true) (ds:=[]) hs jK (by simpa [eu] using hop) hk
       have next:wpList P ops Q l ((⟨ts,[]⟩:Act).put o.dst v) w1:=by
        have hput:(⟨ts,[]⟩:Act).put o.dst v=⟨((⟨ts,[]⟩:Act).put o.dst v).tmps,[]⟩:=by cases o.dst<;>rfl
        rw [hput]
        exact ih l zq' e1 bU K F γ1 C1 _ w1 Q hn' has hd.2 hs1 hk' fun e' aE γ' C' ts' w' g1 g2 g3 g4=>hq e' aE γ' C' ts' w' g1 (hγ.trans g2) g3 (hx1.trans g4)
       unfold Oper.wp
       rcases hr with hr|⟨hr,rfl⟩<;>rw [hr]<;>exact next
      |nq n x=>
       simp only [yZ] at hk
       obtain ⟨e1,bU,hk',v,w1,γ1,C1,hr,hγ,hs1,hx1, -, -⟩:=F0 (m:=true) (ds:=[]) hs jK (by simpa [eu] using hop) hk
       have next:wpList P ops Q l ((⟨ts,[]⟩:Act).put o.dst v) w1:=by
        have hput:(⟨ts,[]⟩:Act).put o.dst v=⟨((⟨ts,[]⟩:Act).put o.dst v).tmps,[]⟩:=by cases o.dst<;>rfl
        rw [hput]
        exact ih l zq' e1 bU K F γ1 C1 _ w1 Q hn' has hd.2 hs1 hk' fun e' aE γ' C' ts' w' g1 g2 g3 g4=>hq e' aE γ' C' ts' w' g1 (hγ.trans g2) g3 (hx1.trans g4)
       unfold Oper.wp
       rcases hr with hr|⟨hr,rfl⟩<;>rw [hr]<;>exact next
      |_=>cases eN
    · have qs:op.nX=false:=by simpa using eN
      have hk':match bK L ⟨o.dst,op,g⟩ e ah with|some (e',aE)=>ey P L zq' e' aE K|none=>False:=by
       cases op<;>first|exact hk|cases qs
      rw [vu] at hk'
      cases hev:bK L ⟨o.dst,op,none⟩ e ah with
      |none=>rw [hev] at hk';exact hk'.elim
      |some ea=>
       obtain ⟨e1,bU⟩:=ea
       rw [hev] at hk'
       obtain ⟨v,w1,γ1,C1,hr,hγ,hs1,hx1, -, -⟩:=F1 (ds:=[]) hs jK hop qs hev
       have next:wpList P ops Q l ((⟨ts,[]⟩:Act).put o.dst v) w1:=by
        have hput:(⟨ts,[]⟩:Act).put o.dst v=⟨((⟨ts,[]⟩:Act).put o.dst v).tmps,[]⟩:=by cases o.dst<;>rfl
        rw [hput]
        exact ih l zq' e1 bU K F γ1 C1 _ w1 Q hn' has hd.2 hs1 hk' fun e' aE γ' C' ts' w' g1 g2 g3 g4=>hq e' aE γ' C' ts' w' g1 (hγ.trans g2) g3 (hx1.trans g4)
       unfold Oper.wp
       rcases hr with hr|⟨hr,rfl⟩<;>rw [hr]<;>exact next
  · rename_i tN
    have hw:=iF hs hg tN
    unfold wpList
    rw [if_neg (by rw [hw];simp)]
    have hput:(⟨ts,[]⟩:Act).put o.dst undef=⟨((⟨ts,[]⟩:Act).put o.dst undef).tmps,[]⟩:=by cases o.dst<;>rfl
    rw [hput]
    refine ih l zq' _ ah K F γ C _ w Q hn' has hd.2 ?_ hk hq
    cases ho:o.dst with
    |none=>exact hs
    |some d=>exact hs.Bb (jK d ho) (.bz _ [] #[] rfl (by simp)) (by simp [undef,TC]) rfl (by simp)
  · exact hk.elim
theorem VA {ops:Array Oper} (l:List Oper) (zq:List aL) (e:Env) (ah:AH) (K:Env→AH→Prop) (F:Nat→Prop) (γ:List Nat) (C:Nat→List Value) (ts:Array Value) (w:World)
 (Q:Exit→Act→World→Prop) (hc:jX P ops l=some (zq.map aL.er)) (hd:lf N zq=true) (hs:SR L N F γ C e ah ts w) (hk:ey P L zq e ah K)
 (hq:∀e' aE γ' C' ts' w',K e' aE→γ <+: γ'→SR L N F γ' C' e' aE ts' w'→Ext F C w C' w'→Q .normal ⟨ts',[]⟩ w'):wpList P ops Q l ⟨ts,[]⟩ w:=
 RS l.length l zq e ah K F γ C ts w Q (Nat.le_refl _) hc hd hs hk hq
end
end Go.Am
end
section
namespace Go.Am
open Go
variable [Tabs]
section
variable {P:Program} {ops:Array Oper} {Q:Exit→Act→World→Prop} {md:Region.Mode} {S:World→Prop} {D:Nat→Bool}
def wpS (P:Program) (ops:Array Oper) (Q:Exit→Act→World→Prop) (S:World→Prop) (D:Nat→Bool):Nat→Array Bool→Act→World→Prop
 |0,listed,a,w=>Region.ready .any ops listed=[]∧Q .normal a w
 |n+1,listed,a,w=>(Region.ready .any ops listed=[]→Q .normal a w)∧
  ∀i∈Region.ready .any ops listed,wpOp P ops Q i (fun a' w'=>(D i=false→S w')∧wpS P ops Q S D n (listed.setIfInBounds i true) a' w') a w
theorem wpS.any:∀ {n:Nat} {listed:Array Bool} {a:Act} {w:World},wpS P ops Q S D n listed a w→wpAny P .any ops Q n listed a w
 |0,_,_,_,h=>h
 |_+1,_,_,_,h=>⟨h.1,fun i hi=>wpOp_mono (fun _ _ h'=>h'.2.any) (h.2 i hi)⟩
theorem wpS.mono {S':World→Prop} (hS:∀w,S' w→S w):∀ {n:Nat} {listed:Array Bool} {a:Act} {w:World},wpS P ops Q S' D n listed a w→wpS P ops Q S D n listed a w
 |0,_,_,_,h=>h
 |_+1,_,_,_,h=>⟨h.1,fun i hi=>wpOp_mono (fun _ _ h'=>⟨fun hd=>hS _ (h'.1 hd),h'.2.mono hS⟩) (h.2 i hi)⟩
theorem gU {listed:Array Bool} {i j:Nat} (h:(listed.setIfInBounds i true).getD j true=false):listed.getD j true=false:=by
 by_cases hij:i=j
 · subst hij
   by_cases hlt:i<listed.size
   · simp [hlt] at h
   · simp [Array.getElem?_eq_none (Nat.le_of_not_lt hlt)] at h
 · rwa [getD_set_ne true hij] at h
theorem Be:∀ {n:Nat} {listed:Array Bool} {a:Act} {w:World},(∀j,listed.getD j true=false→D j=true)→wpAny P .any ops Q n listed a w→wpS P ops Q S D n listed a w
 |0,_,_,_,_,h=>h
 |_+1,listed,_,_,hD,h=>⟨h.1,fun i hi=>wpOp_mono (fun _ _ h'=>⟨fun hd=>Bool.noConfusion ((hD i (mem_ready.1 hi).1).symm.trans hd),Be (fun j hj=>hD j (gU hj)) h'⟩) (h.2 i hi)⟩
theorem KD {i:Nat} {oi:Oper} {v:Value} (hi:ops[i]? =some oi) (hsel:∀(j:Nat) (o:Oper) cs b,ops[j]? =some o→o.op≠ .select cs b)
 (hQ:∀c a w,¬Q (.panic c) a w) (W:Nat→Prop):
 ∀(n:Nat) (listed:Array Bool) (a:Act) (w:World),
  (∀j oj,ops[j]? =some oj→j≠i→listed.getD j true=false→(∀e∈oj.after,Region.binds .any e=true→e.on≠i)→oi.apart ops oj=true)→
  (∀j,W j→listed.getD j true=false∧∃oj,ops[j]? =some oj∧∃e∈oj.after,Region.binds .any e=true∧(e.on=i∨W e.on))→(∀j,j<ops.size→D j=true→listed.getD j true=false→W j)→
  i∈Region.ready .any ops listed→YieldsIf P ops S oi v a→S w→
  wpS P ops Q S D n (listed.setIfInBounds i true) (a.put oi.dst v) w→wpS P ops Q S D (n+1) listed a w:=by
 intro n
 induction n with
 |zero=>
  intro listed a w _ _ _ hr hy hS H
  refine ⟨fun h=>(by rw [h] at hr;cases hr),fun j hj=> ?_⟩
  by_cases hji:j=i
  · subst hji;exact hy.wpOp hi hS ⟨fun _=>hS,H⟩
  · have:=ready_mono hj hji
    rw [H.1] at this
    cases this
 |succ n ih=>
  intro listed a w hfree vz hDW hr hy hS H
  refine ⟨fun h=>(by rw [h] at hr;cases hr),fun j hj=> ?_⟩
  by_cases hji:j=i
  · subst hji;exact hy.wpOp hi hS ⟨fun _=>hS,H⟩
  · have h1:=H.2 j (ready_mono hj hji)
    obtain ⟨Xz,oj,KE,hall⟩:=mem_ready.1 hj
    have hun:∀k,listed.getD k true=false→listed.getD k false=false:=fun k hk=>by
     rcases Nat.lt_or_ge k listed.size with h'|h'
     · simp [h'] at hk ⊢;exact hk
     · simp [Array.getElem?_eq_none h'] at hk
    have hnot:∀e∈oj.after,Region.binds .any e=true→listed.getD e.on true=false→False:=fun e he hb hu=>by
     have h1:=hall e he hb
     rw [hun _ hu] at h1
     cases h1
    have hni:∀e∈oj.after,Region.binds .any e=true→e.on≠i:=fun e he hb heq=>hnot e he hb (by rw [heq];exact (mem_ready.1 hr).1)
    have hWj:¬W j:=by
     intro hw
     obtain ⟨-,oj',Nc,e,he,hb,h0⟩:=vz j hw
     rw [KE] at Nc
     injection Nc with Nc
     subst Nc
     rcases h0 with h0|h0
     · exact hni e he hb h0
     · exact hnot e he hb (vz _ h0).1
    have Yj:D j=false:=by
     cases hd:D j with
     |false=>rfl
     |true=>exact absurd (hDW j (Array.getElem?_eq_some_iff.1 KE).1 hd Xz) hWj
    have h2:=wpOp_putIf KE (hfree j oj KE hji Xz hni) (fun cs b=>hsel i oi cs b hi) (fun cs b=>hsel j oj cs b KE) (fun c a w hq=>(hQ c _ w hq).elim) hy h1
    refine wpOp_mono (fun a' w' h3=> ?_) h2
    have hS':=h3.2.1 Yj
    refine ⟨fun _=>hS',ih (listed.setIfInBounds j true) a' w' ?_ ?_ ?_ (ready_mono hr (Ne.symm hji)) h3.1 hS' ?_⟩
    · exact fun k ok hk hki Yk hno=>hfree k ok hk hki (gU Yk) hno
    · intro k hk
      obtain ⟨h5,h6⟩:=vz k hk
      refine ⟨?_,h6⟩
      rw [getD_set_ne true (fun h7=>hWj (by rw [h7];exact hk))]
      exact h5
    · exact fun k hk hd Yk=>hDW k hk hd (gU Yk)
    · rw [Array.setIfInBounds_comm _ _ hji]
      exact h3.2.2
end
section
variable {P:Program} {L:List Nat} {N n0:Nat} {F:Nat→Prop} {γ:List Nat} {C C':Nat→List Value} {e:Env} {ah:AH} {ts:Array Value} {w w':World} {m:Bool}
variable {e':Env} {aE:AH} {ops:Array Oper} {Q:Exit→Act→World→Prop}
theorem KA.trans {γ':List Nat} {w2:World} (hg:∀(s b:Nat),γ[s]? =some b→γ'[s]? =some b) (hC:∀b,C b <+: C' b) (h:KA m γ C w w') (h':KA m γ' C' w' w2):KA m γ C w w2:=
 ⟨fun b i hi=>(h'.1 b i (Nat.lt_of_lt_of_le hi (hC b).length_le)).trans (h.1 b i hi),fun hm s b hs=>(h'.2 hm s b (hg s b hs)).trans (h.2 hm s b hs)⟩
theorem RT {γ γ':List Nat} (h:γ <+: γ') {s b:Nat} (hs:γ[s]? =some b):γ'[s]? =some b:=by
 obtain ⟨q,rfl⟩:=h
 rw [List.getElem?_append_left (List.getElem?_eq_some_iff.1 hs).1];exact hs
theorem KA.F3 {e ah ts e' aE ts'} {γ':List Nat} (h:SR L N F γ C e ah ts w) (h':SR L N F γ' C' e' aE ts' w') (hx:Ext F C w C' w')
 (ho:m=true→∀(s b:Nat),γ[s]? =some b→w'.heap[b]? =w.heap[b]?):KA m γ C w w':=by
 refine ⟨fun b i hi=> ?_,ho⟩
 rw [ou h hi,ou h' (Nat.lt_of_lt_of_le hi (hx.pre b).length_le),gI (hx.pre b) hi]
theorem Ag (a:Act) (d:Option Nat) (v:Value) (h:a.defers=[]):a.put d v=⟨(a.put d v).tmps,[]⟩:=by
 obtain ⟨ts,ds⟩:=a
 simp only at h
 subst h
 cases d<;>rfl
theorem Ig {o:Oper} {i:Nat} {op:fK} {g:Option (Nat×Bool)} {zq:List aL} {K:Env→AH→Prop} {R:Act→World→Prop} (hi:ops[i]? =some o) (hop:eu P m o=some op.er) (hg:gG ops o.guard=some g)
 (jK:∀x,o.dst=some x→x<N) (hs:SR L N F γ C e ah ts w) (hk:ey P L (⟨o.dst,op,g⟩::zq) e ah K)
 (next:∀v e' aE γ' C' w',ey P L zq e' aE K→γ <+: γ'→SR L N F γ' C' e' aE ((⟨ts,[]⟩:Act).put o.dst v).tmps w'→Ext F C w C' w'→(Fb P m o=true→KA m γ C w w')→R ((⟨ts,[]⟩:Act).put o.dst v) w'):
 wpOp P ops Q i R ⟨ts,[]⟩ w:=by
 unfold wpOp
 simp only [hi]
 simp only [ey] at hk
 split at hk
 · rename_i tN
   rw [if_pos (iF hs hg tN)]
   refine .inl ?_
   by_cases eN:op.nX=true
   · cases op with
     |call f vw=>
      have hop:cop P o=some (.call f vw):=by
       cases m with
       |true=>simpa [eu,fK.er] using hop
       |false=>
        simp only [eu,Bool.false_eq_true,if_false,Option.map_eq_some_iff] at hop
        obtain ⟨op',h1,h2⟩:=hop
        rw [h1,Fk h2]
      simp only [yZ] at hk
      split at hk
      case h_2=>exact hk.elim
      rename_i f' caps Yh
      obtain ⟨hfl,hk⟩:=hk
      obtain ⟨x,args,tys,ho,hx,hargs⟩:=Ae hop
      have h1:=bP (ds:=[]) hs hx
      rw [Yh] at h1
      obtain ⟨vs,Yi,hcl,nY⟩:=h1.1.FM
      obtain ⟨c1,c2⟩:=Fm hs _ _ _ hargs
      have CL:=H9 (d:=o.dst) (ds:=[]) (vs:=args.map (Act.eval ⟨ts,[]⟩)++vs) hs jK hk (by simp [c1,hcl]) (CJ hs hfl hcl nY c1 c2)
      have KC:(execOp (Act.eval ⟨ts,[]⟩) o).run P w= .ok (.enter f' (args.map (Act.eval ⟨ts,[]⟩)++vs)) w:=by
       rw [ho];exact CI hk.1 Yi
      unfold Oper.wp
      rw [KC]
      simp only [Oper.upon]
      refine CL.mono ?_
      rintro en w1 ⟨r,v,bU,γ1,C1,rfl,hR,hγ,hs1,hx1⟩
      refine next v _ bU γ1 C1 w1 hR hγ hs1 hx1 fun hst=>KA.F3 hs hs1 hx1 fun hm=> ?_
      rw [ho] at hst
      simp [Fb,ek,gH,yO,hm] at hst
     |me k b x y=>
      simp only [yZ] at hk
      obtain ⟨e1,bU,hk',v,w1,γ1,C1,hr,hγ,hs1,hx1,hst, -⟩:=Fj (ds:=[]) hs jK hop hk
      have nx:=next v e1 bU γ1 C1 w1 hk' hγ hs1 hx1 fun h=>KA.F3 hs hs1 hx1 fun hm=>by
       refine hst ?_
       obtain ⟨_,_,_,_,_,_,ho, -⟩:=CG (Ad hop)
       rw [ho] at h
       simp [Fb,ek,gH,hm] at h
      unfold Oper.wp
      rcases hr with hr|⟨hr,rfl⟩<;>rw [hr]<;>exact nx
     |nq n x=>
      simp only [yZ] at hk
      obtain ⟨e1,bU,hk',v,w1,γ1,C1,hr,hγ,hs1,hx1,hst, -⟩:=F0 (ds:=[]) hs jK hop hk
      have nx:=next v e1 bU γ1 C1 w1 hk' hγ hs1 hx1 fun h=>KA.F3 hs hs1 hx1 fun hm=>by
       refine hst ?_
       obtain ⟨_,_,_,_,_,ho, -⟩:=M9 (H6 hop)
       rw [ho];rfl
      unfold Oper.wp
      rcases hr with hr|⟨hr,rfl⟩<;>rw [hr]<;>exact nx
     |_=>cases eN
   · have qs:op.nX=false:=by simpa using eN
     have hk':match bK L ⟨o.dst,op,g⟩ e ah with|some (e',aE)=>ey P L zq e' aE K|none=>False:=by
      cases op<;>first|exact hk|cases qs
     rw [vu] at hk'
     cases hev:bK L ⟨o.dst,op,none⟩ e ah with
     |none=>rw [hev] at hk';exact hk'.elim
     |some ea=>
      obtain ⟨e1,bU⟩:=ea
      rw [hev] at hk'
      obtain ⟨v,w1,γ1,C1,hr,hγ,hs1,hx1,hst, -⟩:=H8 (ds:=[]) hs jK hop qs hev
      have nx:=next v e1 bU γ1 C1 w1 hk' hγ hs1 hx1 fun h=>KA.F3 hs hs1 hx1 fun hm=>by
       refine hst ?_
       cases FX:gH o.op with
       |false=>rfl
       |true=>
        exfalso
        cases ho:o.op with
        |call c=>
         rw [ho] at FX
         obtain ⟨ce,_,_⟩:=c
         cases ce with
         |builtin b=>cases b<;>simp [gH] at FX;simp [Fb,ek,gH,ho,hm] at h
         |_=>simp [gH] at FX
        |store a b c=>simp [Fb,ek,gH,ho,hm] at h
        |_=>rw [ho] at FX;simp [gH] at FX
      unfold Oper.wp
      rcases hr with hr|⟨hr,rfl⟩<;>rw [hr]<;>exact nx
 · rename_i tN
   have hw:=iF hs hg tN
   rw [if_neg (by rw [hw];simp)]
   refine next undef _ ah γ C w hk (List.prefix_refl _) ?_ (Ext.refl ..) fun _=>KA.refl ..
   cases ho:o.dst with
   |none=>exact hs
   |some d=>exact hs.Bb (jK d ho) (.bz _ [] #[] rfl (by simp)) (by simp [undef,TC]) rfl (by simp)
 · exact hk.elim
theorem Og {o:Oper} {op:fK} {g:Option (Nat×Bool)} {zq:List aL} {K:Env→AH→Prop} (hq:ek P o.op=true) (hop:eu P m o=some op.er) (hg:gG ops o.guard=some g)
 (jK:∀x,o.dst=some x→x<N) (hs:SR L N F γ C e ah ts w) (hk:ey P L (⟨o.dst,op,g⟩::zq) e ah K):
 ∃v e' aE,YieldsIf P ops (KA m γ C w) o v ⟨ts,[]⟩∧ey P L zq e' aE K∧SR L N F γ C e' aE ((⟨ts,[]⟩:Act).put o.dst v).tmps w:=by
 simp only [ey] at hk
 split at hk
 · rename_i tN
   have hw:=iF hs hg tN
   by_cases hnq:∃n x,op= .nq n x
   · obtain ⟨n,x,rfl⟩:=hnq
     simp only [yZ] at hk
     obtain ⟨e1,bU,hk',v,w1,γ1,C1,hr,hγ,hs1,hx1,hst,Yl⟩:=F0 (ds:=[]) hs jK hop hk
     obtain ⟨rfl,rfl,rfl,hrun⟩:=Yl hq
     exact ⟨v,e1,bU, .inl ⟨hw,hrun⟩,hk',hs1⟩
   have qs:op.nX=false:=by
    cases op with
    |call f vw=>
     exfalso
     have hop:cop P o=some (.call f vw):=by
      cases m with
      |true=>simpa [eu,fK.er] using hop
      |false=>
       simp only [eu,Bool.false_eq_true,if_false,Option.map_eq_some_iff] at hop
       obtain ⟨op',h1,h2⟩:=hop
       rw [h1,Fk h2]
     obtain ⟨x,args,tys,ho, -, -⟩:=Ae hop
     rw [ho] at hq
     simp [ek] at hq
    |me k b x y=>
     exfalso
     obtain ⟨_,_,_,_,_,_,ho, -⟩:=CG (Ad hop)
     rw [ho] at hq
     simp [ek] at hq
    |nq n x=>exact absurd ⟨_,_,rfl⟩ hnq
    |_=>rfl
   have hk':match bK L ⟨o.dst,op,g⟩ e ah with|some (e',aE)=>ey P L zq e' aE K|none=>False:=by
    cases op<;>first|exact hk|cases qs
   rw [vu] at hk'
   cases hev:bK L ⟨o.dst,op,none⟩ e ah with
   |none=>rw [hev] at hk';exact hk'.elim
   |some ea=>
    obtain ⟨e1,bU⟩:=ea
    rw [hev] at hk'
    obtain ⟨v,w1,γ1,C1,hr,hγ,hs1,hx1,hst,Yl⟩:=H8 (ds:=[]) hs jK hop qs hev
    obtain ⟨rfl,rfl,rfl,hrun⟩:=Yl hq
    exact ⟨v,e1,bU, .inl ⟨hw,hrun⟩,hk',hs1⟩
 · rename_i tN
   refine ⟨undef,_,ah, .inr ⟨iF hs hg tN,rfl⟩,hk, ?_⟩
   cases ho:o.dst with
   |none=>exact hs
   |some d=>exact hs.Bb (jK d ho) (.bz _ [] #[] rfl (by simp)) (by simp [undef,TC]) rfl (by simp)
 · exact hk.elim
theorem KF:∀(l r:List (Bool×Nat)) (zq:List aL),fo P ops (l++r)=some zq→∃a1 a2,fo P ops l=some a1∧fo P ops r=some a2∧zq=a1++a2:=by
 intro l
 induction l with
 |nil=>intro r zq h;exact ⟨[],zq,rfl,h,rfl⟩
 |cons p l ih=>
  intro r zq h
  obtain ⟨m,i⟩:=p
  simp only [List.cons_append,fo] at h
  split at h
  case h_2=>cases h
  rename_i o ho
  split at h
  case h_2=>cases h
  rename_i a g zq' h1 h2 h3
  injection h with h
  obtain ⟨a1,a2,g1,g2,rfl⟩:=ih r zq' h3
  exact ⟨⟨o.dst,a,g⟩::a1,a2,by simp [fo,ho,h1,h2,g1],g2,by rw [←h];rfl⟩
theorem Ih (l r:List (Bool×Nat)) (zq:List aL) (h:fo P ops (l++r)=some (zq.map aL.er)):∃a1 a2,fo P ops l=some (a1.map aL.er)∧fo P ops r=some (a2.map aL.er)∧zq=a1++a2:=by
 obtain ⟨b1,b2,h1,h2,h3⟩:=KF _ _ _ h
 obtain ⟨a1,a2,rfl,rfl,rfl⟩:=List.map_eq_append_iff.1 h3
 exact ⟨a1,a2,h1,h2,rfl⟩
theorem Oh:∀(l r:List aL) (e:Env) (ah:AH) (K:Env→AH→Prop),ey P L (l++r) e ah K=ey P L l e ah fun e ah=>ey P L r e ah K:=by
 intro l
 induction l with
 |nil=>intros;rfl
 |cons o l ih=>
  intro r e ah K
  simp only [List.cons_append,ey,ih]
theorem RU:∀(l r:List aL),lf N (l++r)=true→lf N l=true∧lf N r=true:=by
 intro l
 induction l with
 |nil=>intro r h;exact ⟨rfl,h⟩
 |cons o l ih=>
  intro r h
  simp only [List.cons_append,lf,Bool.and_eq_true] at h ⊢
  obtain ⟨h1,h2⟩:=ih r h.2
  exact ⟨⟨h.1,h1⟩,h2⟩
theorem Nd {o:Oper} {a:fK} {g:Option (Nat×Bool)} {zq:List aL} (h:lf N (⟨o.dst,a,g⟩::zq)=true):(∀x,o.dst=some x→x<N)∧lf N zq=true:=by
 simp only [lf,Bool.and_eq_true] at h
 refine ⟨fun x hx=> ?_,h.2⟩
 have:=h.1.1
 rw [hx] at this
 simpa using this
theorem Bg {i:Nat} {r:List (Bool×Nat)} {zq:List aL} (h:fo P ops ((m,i)::r)=some zq):
 ∃o a g zq',ops[i]? =some o∧eu P m o=some a∧gG ops o.guard=some g∧fo P ops r=some zq'∧zq=⟨o.dst,a,g⟩::zq':=by
 simp only [fo] at h
 split at h
 case h_2=>cases h
 rename_i o ho
 split at h
 case h_2=>cases h
 rename_i a g zq' h1 h2 h3
 injection h with h
 exact ⟨o,a,g,zq',ho,h1,h2,h3,h.symm⟩
theorem y8 {i:Nat} {r:List (Bool×Nat)} {zq:List aL} (h:fo P ops ((m,i)::r)=some (zq.map aL.er)):
 ∃o a g zq',ops[i]? =some o∧eu P m o=some (fK.er a)∧gG ops o.guard=some g∧fo P ops r=some (zq'.map aL.er)∧zq=⟨o.dst,a,g⟩::zq':=by
 obtain ⟨o,a,g,zq',h1,h2,h3,h4,h5⟩:=Bg h
 cases zq with
 |nil=>simp at h5
 |cons x xs=>
  simp only [List.map_cons,List.cons.injEq] at h5
  obtain ⟨d,op',g'⟩:=x
  obtain ⟨h6,h7⟩:=h5
  simp only [aL.er] at h6
  injection h6 with e1 e2 e3
  subst e1;subst e2;subst e3
  exact ⟨o,op',g',xs,h1,h2,h3,by rw [h4,h7],rfl⟩
theorem Oi {D:Nat→Bool} (hsel:Region.noSelect ops=true) (hQ:∀c a w,¬Q (.panic c) a w):∀(l:List Nat) (zq:List aL) (e:Env) (ah:AH) (γ:List Nat) (C:Nat→List Value) (ts:Array Value) (w:World) (listed:Array Bool) (n:Nat)
 (K:Env→AH→Prop),fo P ops (l.map fun i=>(m,i))=some (zq.map aL.er)→lf N zq=true→SR L N F γ C e ah ts w→ey P L zq e ah K→vf P ops m D l listed=true→
 (∀e' aE γ' C' ts' w',K e' aE→γ <+: γ'→SR L N F γ' C' e' aE ts' w'→Ext F C w C' w'→wpS P ops Q (KA m γ' C' w') D n (l.foldl (fun a i=>a.setIfInBounds i true) listed) ⟨ts',[]⟩ w')→
 wpS P ops Q (KA m γ C w) D (l.length+n) listed ⟨ts,[]⟩ w:=by
 intro l
 induction l with
 |nil=>
  intro zq e ah γ C ts w listed n K hc hd hs hk hst cont
  simp only [List.map_nil,fo,Option.some.injEq] at hc
  obtain rfl:zq=[]:=by simpa using hc.symm
  have:=cont e ah γ C ts w hk (List.prefix_refl _) hs (Ext.refl ..)
  simpa using this
 |cons i l ih=>
  intro zq e ah γ C ts w listed n K hc hd hs hk hst cont
  obtain ⟨o,a,g,zq',ho,hop,hg,has,rfl⟩:=y8 hc
  obtain ⟨jK,hd'⟩:=Nd hd
  simp only [vf,ho,Bool.and_eq_true,Bool.or_eq_true] at hst
  obtain ⟨hst,CM⟩:=hst
  have hlen:(i::l).length+n=(l.length+n)+1:=by simp;omega
  rw [hlen]
  rcases hst with ⟨⟨⟨⟨hq,hDi⟩,hr⟩,hfree⟩,vz⟩|⟨hok,hr⟩
  · obtain ⟨v,e1,bU,hy,Ab,hs1⟩:=Og hq hop hg jK hs hk
    refine KD ho (Region.noSelect_spec hsel) hQ (fun j=>j∈HL ops i) _ listed _ w (Region.free_spec ho hfree) (fun j hj=> ?_) (fun j hj Yj hju=> ?_) (by simpa using hr) hy (KA.refl ..) ?_
    · simp only [FK,FJ,Bool.and_eq_true,List.all_eq_true] at vz
      obtain ⟨h1,h2⟩:=vz.1 j hj
      refine ⟨by simpa using h1, ?_⟩
      split at h2
      · rename_i oj KE
        obtain ⟨x,hx,hb⟩:=Array.any_eq_true'.1 h2
        simp only [Bool.and_eq_true,Bool.or_eq_true,beq_iff_eq,List.contains_iff_mem] at hb
        exact ⟨oj,KE,x,hx,hb.1,hb.2⟩
      · cases h2
    · simp only [FK,FJ,Bool.and_eq_true,List.all_eq_true,List.mem_range] at vz
      have:=vz.2 j hj
      simpa [Yj,hju] using this
    · rw [Ag _ _ _ rfl]
      exact ih zq' e1 bU γ C _ w _ n K has hd' hs1 Ab CM cont
  · have hr:Region.ready .any ops listed=[i]:=by simpa using hr
    refine ⟨fun h=>(by rw [hr] at h;cases h),fun j hj=> ?_⟩
    rw [hr] at hj
    obtain rfl:j=i:=by simpa using hj
    refine Ig ho hop hg jK hs hk fun v e1 bU γ1 C1 w1 Ab hγ hs1 hx1 hka=>⟨fun _=>hka hok, ?_⟩
    rw [Ag _ _ _ rfl]
    refine (ih zq' e1 bU γ1 C1 _ w1 _ n K has hd' hs1 Ab CM fun e' aE γ' C' ts' w' g1 g2 g3 g4=> ?_).mono fun w2 h2=>(hka hok).trans (fun s b hs=>RT hγ hs) hx1.pre h2
    exact cont e' aE γ' C' ts' w' g1 (hγ.trans g2) g3 (hx1.trans g4)
theorem Eh:∀(l:List Nat) (listed:Array Bool) (j:Nat),(l.foldl (fun a i=>a.setIfInBounds i true) listed).getD j true=false→listed.getD j true=false∧j∉l:=by
 intro l
 induction l with
 |nil=>intro listed j h;exact ⟨h,by simp⟩
 |cons i l ih=>
  intro listed j h
  obtain ⟨h1,h2⟩:=ih _ j h
  refine ⟨gU h1, ?_⟩
  rw [List.mem_cons,not_or]
  refine ⟨fun hj=> ?_,h2⟩
  subst hj
  by_cases hlt:j<listed.size
  · simp [hlt] at h1
  · have:=gU h1
    simp [Array.getElem?_eq_none (Nat.le_of_not_lt hlt)] at this
theorem KG (hsel:Region.noSelect ops=true) (hQ:∀c a w,¬Q (.panic c) a w):∀(st:List (Bool×List Nat)) (zq:List aL) (e:Env) (ah:AH) (γ:List Nat) (C:Nat→List Value) (ts:Array Value) (w:World) (listed:Array Bool)
 (K:Env→AH→Prop),fo P ops (rL st)=some (zq.map aL.er)→lf N zq=true→SR L N F γ C e ah ts w→ey P L zq e ah K→ot P ops st listed=true→
 (∀e' aE γ' C' ts' w',K e' aE→γ <+: γ'→SR L N F γ' C' e' aE ts' w'→Ext F C w C' w'→Q .normal ⟨ts',[]⟩ w')→
 wpAny P .any ops Q (rL st).length listed ⟨ts,[]⟩ w:=by
 intro st
 induction st with
 |nil=>
  intro zq e ah γ C ts w listed K hc hd hs hk hst cont
  simp only [rL,fo,Option.some.injEq] at hc
  obtain rfl:zq=[]:=by simpa using hc.symm
  exact ⟨by simpa [ot] using hst,cont e ah γ C ts w hk (List.prefix_refl _) hs (Ext.refl ..)⟩
 |cons s st ih=>
  intro zq e ah γ C ts w listed K hc hd hs hk hst cont
  obtain ⟨m,l⟩:=s
  simp only [rL] at hc ⊢
  obtain ⟨a1,a2,hc1,Ei,rfl⟩:=Ih _ _ _ hc
  obtain ⟨hd1,Ie⟩:=RU _ _ hd
  rw [Oh] at hk
  unfold ot at hst
  rw [Bool.and_eq_true] at hst
  obtain ⟨hst,CM⟩:=hst
  have key:∀(Q':Nat→Bool),vf P ops m Q' l listed=true→(∀j,Q' j= !l.contains j)→wpAny P .any ops Q (l.map (fun i=>(m,i))++rL st).length listed ⟨ts,[]⟩ w:=by
   intro D aaP hD
   rw [List.length_append,List.length_map]
   refine (Oi hsel hQ l a1 e ah γ C ts w listed _ _ hc1 hd1 hs hk aaP fun e' aE γ' C' ts' w' g1 g2 g3 g4=> ?_).any
   refine Be (fun j hj=> ?_) (ih a2 e' aE γ' C' ts' w' _ K Ei Ie g3 g1 CM fun e2 sB γ2 C2 RQ w2 q1 q2 q3 q4=>cont e2 sB γ2 C2 RQ w2 q1 (g2.trans q2) q3 (g4.trans q4))
   rw [hD]
   simpa using (Eh l listed j hj).2
  split at hst
  · rename_i i
    simp only [Bool.and_eq_true,beq_iff_eq] at hst
    obtain ⟨rfl,hr⟩:=hst
    obtain ⟨o,a,g,zq',ho,hop,hg,has,rfl⟩:=y8 hc1
    simp only [List.map_nil,fo,Option.some.injEq] at has
    obtain rfl:zq'=[]:=by simpa using has.symm
    obtain ⟨jK, -⟩:=Nd hd1
    refine ⟨fun h=>(by rw [hr] at h;cases h),fun j hj=> ?_⟩
    rw [hr] at hj
    obtain rfl:j=i:=by simpa using hj
    refine Ig ho hop hg jK hs hk fun v e1 bU γ1 C1 w1 Ab hγ hs1 hx1 hka=> ?_
    rw [Ag _ _ _ rfl]
    exact ih a2 e1 bU γ1 C1 _ w1 _ K Ei Ie hs1 Ab CM fun e2 sB γ2 C2 RQ w2 q1 q2 q3 q4=>cont e2 sB γ2 C2 RQ w2 q1 (hγ.trans q2) q3 (hx1.trans q4)
  · exact key _ hst fun _=>rfl
theorem Oj {st:List (Bool×List Nat)} (h:sched P ops=some st):ot P ops st (Array.replicate ops.size false)=true∧(rL st).length=ops.size:=by
 have:yQ P ops st=true:=by
  unfold sched at h
  split at h
  · rename_i s hs
    injection h with h;subst h
    exact (Option.filter_eq_some_iff.1 hs).2
  · exact (Option.filter_eq_some_iff.1 h).2
 simpa [yQ] using this
theorem AW.drawn {id:Nat} {st:List (Bool×List Nat)} {zq:List aL} {Q:Exit→Env→AH→Prop} (hm:P.follows .mixedOrders=true) (hsel:Region.noSelect ops=true) (hst:sched P ops=some st) (hc:fo P ops (rL st)=some (zq.map aL.er))
 (hd:lf N zq=true) (h:ey P L zq e ah fun e ah=>Q .normal (keep L e) ah):AW P L N n0 (.region id ops true) Q e ah:=by
 intro F γ C ts w hs hn
 obtain ⟨h1,h2⟩:=Oj hst
 refine wp_mono (Q:=fun x a' w'=>x= .normal∧a'.defers=[]∧NG x∧∃e' aE γ' C',Q x e' aE∧γ.take n0 <+: γ'∧SR L N F γ' C' e' aE a'.tmps w'∧Ext F C w C' w') ?_ (fun _ _ _ h=>h.2)
 refine wp_region_any hm ?_
 have hw0:∀b,b<w.heap.size→({w with drawn:=w.drawn+1}:World).heap[b]? =w.heap[b]? :=fun _ _=>rfl
 obtain ⟨hs1,hx1⟩:=hs.grow (w':= {w with drawn:=w.drawn+1}) (C':=C) hw0 (Nat.le_refl _) (fun _ _=>rfl) (fun b hb hne=>absurd (vp hs hb) hne)
 have Bh:=fun q=>KG (Q:=fun x a' w'=>x= .normal∧a'.defers=[]∧NG x∧∃e' aE γ' C',Q x e' aE∧γ.take n0 <+: γ'∧SR L N F γ' C' e' aE a'.tmps w'∧Ext F C w C' w') hsel (fun c a w hq=>by cases hq.1) st zq e ah γ C ts _ _ _ hc hd hs1 h h1 q
 rw [h2] at Bh
 refine Bh fun e' aE γ' C' ts' w' q1 q2 q3 q4=> ?_
 exact ⟨rfl,rfl,trivial,keep L e',aE,γ',C',q1,Fl q2,q3.keep L,hx1.trans q4⟩
end
end Go.Am
end
section
namespace Go.Am
open Go
variable [Tabs]
def qb (N:Nat):av→Bool
 | .rg ops=>lf N ops
 | .seq a b| .cond _ a b=>qb N a&&qb N b
 | .blk _ c| .loop c=>qb N c
 |_=>true
def AX (P:Program) (L:List Nat) (N n0:Nat) (c:av) (Q:Exit→Env→AH→Prop) (e:Env) (ah:AH):Prop:=
 ∀c',bL P c'=some c→AW P L N n0 c' Q e ah
def jW (P:Program) (L:List Nat) (N n0:Nat):av→(Exit→Env→AH→Prop)→Env→AH→Prop
 | .skip,Q,e,ah=>Q .normal e ah
 | .ret,Q,e,ah=>Q .ret e ah
 | .exit i,Q,e,ah=>Q (.exit i) e ah
 | .rg ops,Q,e,ah=>ey P L ops e ah fun e ah=>Q .normal (keep L e) ah
 | .seq a b,Q,e,ah=>jW P L N n0 a (fun x e ah=>match x with| .normal=>jW P L N n0 b Q e ah|x=>Q x e ah) e ah
 | .cond c a b,Q,e,ah=>match ev e c with
   | .bool t=>if t then jW P L N n0 a Q e ah else jW P L N n0 b Q e ah
   |_=>False
 | .blk i c,Q,e,ah=>jW P L N n0 c (fun x e ah=>match x with| .exit j=>if j=i then Q .normal e ah else Q (.exit j) e ah|x=>Q x e ah) e ah
 | .loop c,Q,e,ah=>AX P L N n0 (.loop c) Q e ah
 | .sem c,Q,e,ah=>AX P L N n0 c Q e ah
section
variable {P:Program} {L:List Nat} {N n0:Nat} {e:Env} {ah:AH}
theorem AW.region {id:Nat} {ops:Array Oper} {zq:List aL} {Q:Exit→Env→AH→Prop} (hc:jX P ops ops.toList=some (zq.map aL.er)) (hd:lf N zq=true)
 (h:ey P L zq e ah fun e ah=>Q .normal (keep L e) ah):AW P L N n0 (.region id ops false) Q e ah:=by
 intro F γ C ts w hs hn
 refine wp_region_list (VA ops.toList zq e ah _ F γ C ts w _ hc hd hs h ?_)
 intro e' aE γ' C' ts' w' hq hγ hs' hx
 exact ⟨rfl,trivial,keep L e',aE,γ',C',hq,Fl hγ,hs'.keep L,hx⟩
theorem ov:∀(c':Code) (c:av) (Q:Exit→Env→AH→Prop) (e:Env) (ah:AH),bL P c'=some (erase c)→qb N (erase c)=true→jW P L N n0 c Q e ah→AW P L N n0 c' Q e ah:=by
 intro c'
 induction c' with
 |skip=>
  intro c Q e ah hc ho h
  cases c with
  |sem c0=>exact h _ hc
  |skip=>exact AW.skip h
  |_=>simp [bL,erase] at hc
 |label l=>
  intro c Q e ah hc ho h
  cases c with
  |sem c0=>exact h _ hc
  |skip=>exact AW.label h
  |_=>simp [bL,erase] at hc
 |ret=>
  intro c Q e ah hc ho h
  cases c with
  |sem c0=>exact h _ hc
  |ret=>exact AW.ret h
  |_=>simp [bL,erase] at hc
 |exit i=>
  intro c Q e ah hc ho h
  cases c with
  |sem c0=>exact h _ hc
  |exit j=>simp [bL,erase] at hc;subst hc;exact AW.exit h
  |_=>simp [bL,erase] at hc
 |region id ops draw=>
  intro c Q e ah hc ho h
  cases c with
  |sem c0=>exact h _ hc
  |rg zq=>
   simp only [bL,erase] at hc
   cases draw with
   |true=>
    simp only [if_true] at hc
    split at hc
    case isFalse=>cases hc
    rename_i hmn
    simp only [Bool.and_eq_true] at hmn
    split at hc
    case h_2=>cases hc
    rename_i st hst
    simp only [Option.map_eq_some_iff] at hc
    obtain ⟨zq',has,he⟩:=hc
    injection he with he
    subst he
    exact AW.drawn hmn.1 hmn.2 hst has (by simpa only [erase,qb,Na] using ho) h
   |false=>
    simp only [Bool.false_eq_true,if_false,Option.map_eq_some_iff] at hc
    obtain ⟨zq',has,he⟩:=hc
    injection he with he
    subst he
    exact AW.region has (by simpa only [erase,qb,Na] using ho) h
  |_=>simp only [bL,erase] at hc;repeat' (split at hc)<;>simp at hc
 |seq a b CN CO=>
  intro c Q e ah hc ho h
  cases c with
  |sem c0=>exact h _ hc
  |seq x y=>
   simp only [bL,erase] at hc
   split at hc
   case h_2=>cases hc
   rename_i a' b' ha hb
   injection hc with hc
   injection hc with h1 h2
   subst h1;subst h2
   simp only [erase,qb,Bool.and_eq_true] at ho
   refine AW.seq ((CN x _ e ah ha ho.1 h).mono fun x e ah hx=> ?_)
   cases x with
   |normal=>exact CO y _ e ah hb ho.2 hx
   |_=>exact hx
  |_=>simp only [bL,erase] at hc;split at hc<;>simp at hc
 |cond c0 a b CN CO=>
  intro c Q e ah hc ho h
  cases c with
  |sem c0=>exact h _ hc
  |cond c2 x y=>
   simp only [bL,erase] at hc
   split at hc
   case h_2=>cases hc
   rename_i c1 a' b' h1 ha hb
   injection hc with hc
   injection hc with g0 g1 g2
   subst g0;subst g1;subst g2
   simp only [erase,qb,Bool.and_eq_true] at ho
   simp only [jW] at h
   split at h
   case h_2=>exact h.elim
   rename_i t ht
   refine AW.cond h1 ht ?_
   cases t with
   |true=>exact CN x Q e ah ha ho.1 h
   |false=>exact CO y Q e ah hb ho.2 h
  |_=>simp only [bL,erase] at hc;split at hc<;>simp at hc
 |block i c0 ih=>
  intro c Q e ah hc ho h
  cases c with
  |sem c0=>exact h _ hc
  |blk j x=>
   simp only [bL,erase,Option.map_eq_some_iff] at hc
   obtain ⟨a,ha,he⟩:=hc
   injection he with h1 h2
   subst h1;subst h2
   exact AW.blk (ih x _ e ah ha ho h)
  |_=>simp [bL,erase] at hc
 |loop c0 ih=>
  intro c Q e ah hc ho h
  cases c with
  |sem c0=>exact h _ hc
  |loop x=>exact h _ hc
  |_=>simp [bL,erase] at hc
 |rangeFunc=>intro c Q e ah hc;simp [bL] at hc
 |goto=>intro c Q e ah hc;simp [bL] at hc
 |scope c0 ih=>intro c Q e ah hc ho h;exact AW.scope (ih c Q e ah hc ho h)
 |refuse=>intro c Q e ah hc;simp [bL] at hc
theorem Ah {o:Oper} {x:Ar} (h:cop P o=some (.qn x)):False:=by
 obtain ⟨d,oo,ty,pos,af,gd⟩:=o
 cases oo with
 |makeFunc fn first cs=>
  cases fn with
  |func f=>simp only [cop] at h;split at h<;>simp at h
  |_=>simp [cop] at h
 |call c=>
  obtain ⟨callee,args,tys⟩:=c
  simp only [cop] at h
  (repeat' (split at h))<;>(first|(cases h;done)|(simp at h;done))
 |_=>
  simp only [cop] at h
  first
   |cases h;done
   |(simp at h;done)
   |(repeat' (split at h))<;>(first|(cases h;done)|(simp at h;done))
theorem xq {o:Oper} {k b:Nat} {x y:Ar} (h:cop P o=some (.me k b x y)):False:=by
 obtain ⟨d,oo,ty,pos,af,gd⟩:=o
 cases oo with
 |makeFunc fn first cs=>
  cases fn with
  |func f=>simp only [cop] at h;split at h<;>simp at h
  |_=>simp [cop] at h
 |call c=>
  obtain ⟨callee,args,tys⟩:=c
  simp only [cop] at h
  (repeat' (split at h))<;>(first|(cases h;done)|(simp at h;done))
 |_=>
  simp only [cop] at h
  first
   |cases h;done
   |(simp at h;done)
   |(repeat' (split at h))<;>(first|(cases h;done)|(simp at h;done))
theorem Ai {o:Oper} {k:Nat} {x:Ar} (h:cop P o=some (.Aa k x)):False:=by
 obtain ⟨d,oo,ty,pos,af,gd⟩:=o
 cases oo with
 |makeFunc fn first cs=>
  cases fn with
  |func f=>simp only [cop] at h;split at h<;>simp at h
  |_=>simp [cop] at h
 |call c=>
  obtain ⟨callee,args,tys⟩:=c
  simp only [cop] at h
  (repeat' (split at h))<;>(first|(cases h;done)|(simp at h;done))
 |_=>
  simp only [cop] at h
  first
   |cases h;done
   |(simp at h;done)
   |(repeat' (split at h))<;>(first|(cases h;done)|(simp at h;done))
theorem VB {o:Oper} {op:fK} (h:cop P o=some op):op.er=op:=by
 cases op with
 |qn x=>exact (Ah h).elim
 |me=>exact (xq h).elim
 |Aa=>exact (Ai h).elim
 |_=>rfl
theorem RV {m:Bool} {o:Oper} {op:fK} (h:eu P m o=some op):op.er=op:=by
 cases op with
 |qn x=>
  exfalso
  cases m with
  |true=>exact Ah (by simpa [eu] using h)
  |false=>
   simp only [eu,Bool.false_eq_true,if_false,Option.map_eq_some_iff] at h
   obtain ⟨op',h1,h2⟩:=h
   cases op' with
   |mj hh y=>cases hh<;>cases h2
   |ld y n=>cases h2
   |qn y=>exact Ah h1
   |_=>cases h2
 |me=>
  exfalso
  cases m with
  |true=>exact xq (by simpa [eu] using h)
  |false=>
   simp only [eu,Bool.false_eq_true,if_false,Option.map_eq_some_iff] at h
   obtain ⟨op',h1,h2⟩:=h
   cases op' with
   |mj hh y=>cases hh<;>cases h2
   |ld y n=>cases h2
   |me=>exact xq h1
   |_=>cases h2
 |Aa=>
  exfalso
  cases m with
  |true=>exact Ai (by simpa [eu] using h)
  |false=>
   simp only [eu,Bool.false_eq_true,if_false,Option.map_eq_some_iff] at h
   obtain ⟨op',h1,h2⟩:=h
   cases op' with
   |mj hh y=>cases hh<;>cases h2
   |ld y n=>cases h2
   |Aa=>exact Ai h1
   |_=>cases h2
 |_=>rfl
theorem RW {ops:Array Oper}:∀(n:Nat) (l:List Oper) (zq:List aL),l.length≤n→jX P ops l=some zq→zq.map aL.er=zq:=by
 intro n
 induction n with
 |zero=>
  intro l zq hn h
  obtain rfl:l=[]:=List.eq_nil_of_length_eq_zero (by omega)
  simp only [jX,Option.some.injEq] at h;subst h;rfl
 |succ n ih=>
  intro l zq hn h
  rcases Bd h with ⟨rfl,rfl⟩|⟨o,o2,r,a,zq',rfl,h2,h3,rfl⟩|⟨o,o2,r,ag,zq',rfl,h2,h3,rfl⟩|⟨o,r,op,g,zq',rfl,h2,h3,h4,rfl⟩
  · rfl
  · obtain ⟨y,bs,hl⟩:=CK h2
    obtain ⟨d,op,g⟩:=a
    simp only at hl;subst hl
    simp only [List.map_cons,ih r zq' (by simp at hn;omega) h3];rfl
  · obtain ⟨d,y,bs,t,w,g,rfl, -⟩:=Af h2
    simp only [List.cons_append,List.nil_append,List.map_cons,ih r zq' (by simp at hn;omega) h3];rfl
  · have he:op.er=op:=by
     rcases h2 with h2|rfl
     · exact VB h2
     · rfl
    simp only [List.map_cons,ih r zq' (by simp at hn;omega) h4,aL.er,he]
theorem Ok {ops:Array Oper}:∀(l:List (Bool×Nat)) (zq:List aL),fo P ops l=some zq→zq.map aL.er=zq:=by
 intro l
 induction l with
 |nil=>intro zq h;simp only [fo,Option.some.injEq] at h;subst h;rfl
 |cons p r ih=>
  intro zq h
  obtain ⟨m,i⟩:=p
  obtain ⟨o,a,g,zq',h1,h2,h3,h4,rfl⟩:=Bg h
  simp only [List.map_cons,ih zq' h4,aL.er,RV h2]
theorem ju:∀(c':Code) (c:av),bL P c'=some c→erase c=c:=by
 intro c'
 induction c' with
 |skip=>intro c hc;simp [bL] at hc;subst hc;rfl
 |label l=>intro c hc;simp [bL] at hc;subst hc;rfl
 |ret=>intro c hc;simp [bL] at hc;subst hc;rfl
 |exit i=>intro c hc;simp [bL] at hc;subst hc;rfl
 |region id ops draw=>
  intro c hc
  simp only [bL] at hc
  cases draw with
  |true=>
   simp only [if_true] at hc
   split at hc
   · split at hc
     · simp only [Option.map_eq_some_iff] at hc;obtain ⟨zq,has,rfl⟩:=hc;simp only [erase,Ok _ _ has]
     · cases hc
   · cases hc
  |false=>simp only [Bool.false_eq_true,if_false,Option.map_eq_some_iff] at hc;obtain ⟨zq,has,rfl⟩:=hc;simp only [erase,RW _ _ _ (Nat.le_refl _) has]
 |seq a b CN CO=>
  intro c hc
  simp only [bL] at hc
  split at hc
  case h_2=>cases hc
  rename_i a' b' ha hb
  injection hc with hc
  subst hc
  simp only [erase,CN _ ha,CO _ hb]
 |cond c0 a b CN CO=>
  intro c hc
  simp only [bL] at hc
  split at hc
  case h_2=>cases hc
  rename_i c1 a' b' h1 ha hb
  injection hc with hc
  subst hc
  simp only [erase,CN _ ha,CO _ hb]
 |block i c0 ih=>intro c hc;simp only [bL,Option.map_eq_some_iff] at hc;obtain ⟨a,ha,rfl⟩:=hc;simp only [erase,ih _ ha]
 |loop c0 ih=>intro c hc;simp only [bL,Option.map_eq_some_iff] at hc;obtain ⟨a,ha,rfl⟩:=hc;rfl
 |rangeFunc=>intro c hc;simp [bL] at hc
 |goto=>intro c hc;simp [bL] at hc
 |scope c0 ih=>intro c hc;exact ih c hc
 |refuse=>intro c hc;simp [bL] at hc
inductive It where
 |ops (r:List aL)
 |keep
 |code (c:av)
 |blk (i:Nat)
def U (P:Program) (L:List Nat) (N n0:Nat):List It→(Exit→Env→AH→Prop)→Exit→Env→AH→Prop
 |[],Q,x,e,ah=>Q x e ah
 | .code c::t,Q, .normal,e,ah=>jW P L N n0 c (fun x e ah=>U P L N n0 t Q x e ah) e ah
 | .ops r::t,Q, .normal,e,ah=>ey P L r e ah fun e ah=>U P L N n0 t Q .normal e ah
 | .keep::t,Q, .normal,e,ah=>U P L N n0 t Q .normal (keep L e) ah
 | .blk i::t,Q, .exit j,e,ah=>if j=i then U P L N n0 t Q .normal e ah else U P L N n0 t Q (.exit j) e ah
 | .blk _::t,Q,x,e,ah=>U P L N n0 t Q x e ah
 | .code _::t,Q,x,e,ah=>U P L N n0 t Q x e ah
 | .ops _::t,Q,x,e,ah=>U P L N n0 t Q x e ah
 | .keep::t,Q,x,e,ah=>U P L N n0 t Q x e ah
def UK (P:Program) (L:List Nat) (N n0 f:Nat) (zq:List AV) (d:Option Nat) (r:List aL) (t:List It) (Q:Exit→Env→AH→Prop) (e:Env) (ah:AH):Prop:=
 aF P f zq ah fun v aE=>U P L N n0 (.ops r::t) Q .normal (aG L (vv e) d v.df) aE
def UF (P:Program) (L:List Nat) (N n0:Nat) (zq:List Ar) (d:Option Nat) (r:List aL) (t:List It) (Q:Exit→Env→AH→Prop) (e:Env) (ah:AH):AV→Prop
 | .fn f caps=>if aU caps then UK P L N n0 f (zq.map (fun x=>(ev e x).sh)++caps.map AV.s1) d r t Q e ah else False
 |_=>False
def US (P:Program) (L:List Nat) (N n0:Nat) (r:List aL) (t:List It) (Q:Exit→Env→AH→Prop):Option (Env×AH)→Prop
 |some (e,ah)=>U P L N n0 (.ops r::t) Q .normal e ah
 |none=>False
def UG (P:Program) (L:List Nat) (N n0:Nat) (o:aL) (r:List aL) (t:List It) (Q:Exit→Env→AH→Prop) (e:Env) (ah:AH):Option Bool→Prop
 |some true=>match o.op with
  | .call f zq=>UF P L N n0 zq o.d r t Q e ah (ev e f)
  | .me k b x y=>oz L o.d k b x y e ah fun e ah=>U P L N n0 (.ops r::t) Q .normal e ah
  | .nq n x=>Cp L o.d n x e ah fun e ah=>U P L N n0 (.ops r::t) Q .normal e ah
  |_=>US P L N n0 r t Q (bK L o e ah)
 |some false=>U P L N n0 (.ops r::t) Q .normal (oG e o.d) ah
 |none=>False
def UC (P:Program) (L:List Nat) (N n0:Nat) (a b:av) (t:List It) (Q:Exit→Env→AH→Prop) (e:Env) (ah:AH):AV→Prop
 | .bool true=>U P L N n0 (.code a::t) Q .normal e ah
 | .bool false=>U P L N n0 (.code b::t) Q .normal e ah
 |_=>False
def UX (P:Program) (L:List Nat) (N n0:Nat) (c:av) (t:List It) (Q:Exit→Env→AH→Prop) (e:Env) (ah:AH):Prop:=
 AX P L N n0 c (fun x e ah=>U P L N n0 t Q x e ah) e ah
variable {t:List It} {Q:Exit→Env→AH→Prop} {x:Exit}
@[simp] theorem Ym:U P L N n0 [] Q x e ah=Q x e ah:=rfl
@[simp] theorem VC:U P L N n0 (.code .skip::t) Q .normal e ah=U P L N n0 t Q .normal e ah:=rfl
@[simp] theorem Yn:U P L N n0 (.code .ret::t) Q .normal e ah=U P L N n0 t Q .ret e ah:=rfl
@[simp] theorem VD {i:Nat}:U P L N n0 (.code (.exit i)::t) Q .normal e ah=U P L N n0 t Q (.exit i) e ah:=rfl
theorem RX (b:av):(fun x e ah=>match x with| .normal=>jW P L N n0 b (fun x e ah=>U P L N n0 t Q x e ah) e ah|x=>U P L N n0 t Q x e ah)=fun x e ah=>U P L N n0 (.code b::t) Q x e ah:=by
 funext x e ah
 cases x<;>rfl
@[simp] theorem Yo {a b:av}:U P L N n0 (.code (.seq a b)::t) Q .normal e ah=U P L N n0 (.code a:: .code b::t) Q .normal e ah:=by
  simp only [U,jW]
  exact congrArg (fun K=>jW P L N n0 a K e ah) (RX b)
@[simp] theorem Yp {i:Nat} {c:av}:U P L N n0 (.code (.blk i c)::t) Q .normal e ah=U P L N n0 (.code c:: .blk i::t) Q .normal e ah:=by
  have:(fun x e ah=>match x with| .exit j=>if j=i then U P L N n0 t Q .normal e ah else U P L N n0 t Q (.exit j) e ah|x=>U P L N n0 t Q x e ah)=fun x e ah=>U P L N n0 (.blk i::t) Q x e ah:=by
   funext x e ah
   cases x<;>rfl
  exact congrArg (fun K=>jW P L N n0 c K e ah) this
@[simp] theorem aaQ {ops:List aL}:U P L N n0 (.code (.rg ops)::t) Q .normal e ah=U P L N n0 (.ops ops:: .keep::t) Q .normal e ah:=rfl
@[simp] theorem VE {c:av}:U P L N n0 (.code (.loop c)::t) Q .normal e ah=UX P L N n0 (.loop c) t Q e ah:=rfl
@[simp] theorem Yq {c:av}:U P L N n0 (.code (.sem c)::t) Q .normal e ah=UX P L N n0 c t Q e ah:=rfl
@[simp] theorem VF {c:Ar} {a b:av}:U P L N n0 (.code (.cond c a b)::t) Q .normal e ah=UC P L N n0 a b t Q e ah (ev e c):=by
  simp only [U,jW]
  cases ev e c with
  |bool t=>cases t<;>rfl
  |_=>rfl
@[simp] theorem VG:U P L N n0 (.keep::t) Q .normal e ah=U P L N n0 t Q .normal (keep L e) ah:=rfl
@[simp] theorem RY {i:Nat}:U P L N n0 (.blk i::t) Q .normal e ah=U P L N n0 t Q .normal e ah:=rfl
@[simp] theorem RZ {i:Nat}:U P L N n0 (.blk i::t) Q .ret e ah=U P L N n0 t Q .ret e ah:=rfl
@[simp] theorem R0 {i j:Nat}:U P L N n0 (.blk i::t) Q (.exit j) e ah=if j=i then U P L N n0 t Q .normal e ah else U P L N n0 t Q (.exit j) e ah:=rfl
@[simp] theorem Ol {c:av}:U P L N n0 (.code c::t) Q .ret e ah=U P L N n0 t Q .ret e ah:=by cases c<;>rfl
@[simp] theorem Om {c:av} {j:Nat}:U P L N n0 (.code c::t) Q (.exit j) e ah=U P L N n0 t Q (.exit j) e ah:=by cases c<;>rfl
@[simp] theorem KH:U P L N n0 (.ops []::t) Q .normal e ah=U P L N n0 t Q .normal e ah:=rfl
@[simp] theorem Yr {o:aL} {r:List aL}:U P L N n0 (.ops (o::r)::t) Q .normal e ah=UG P L N n0 o r t Q e ah (gp e o):=by
  simp only [U,ey]
  cases gp e o with
  |none=>rfl
  |some b=>
   cases b with
   |false=>rfl
   |true=>
    obtain ⟨d,op,g⟩:=o
    cases op with
    |call f zq=>
     simp only [yZ,UG]
     cases ev e f with
     |fn f' caps=>
      simp only [UF,UK]
      by_cases hf:aU caps=true
      · simp only [hf,if_true,true_and];rfl
      · simp [hf]
     |_=>rfl
    |me k b x y=>rfl
    |nq n x=>rfl
    |_=>
     simp only [yZ,UG,US]
     cases bK L ⟨d,_,g⟩ e ah with
     |none=>rfl
     |some ea=>obtain ⟨e',aE⟩:=ea;rfl
@[simp] theorem R1 {r:List aL} {e':Env} {aE:AH}:US P L N n0 r t Q (some (e',aE))=U P L N n0 (.ops r::t) Q .normal e' aE:=rfl
@[simp] theorem On {o:aL} {r:List aL}:UG P L N n0 o r t Q e ah (some false)=U P L N n0 (.ops r::t) Q .normal (oG e o.d) ah:=rfl
@[simp] theorem R2 {a b:av}:UC P L N n0 a b t Q e ah (.bool true)=U P L N n0 (.code a::t) Q .normal e ah:=rfl
@[simp] theorem Oo {a b:av}:UC P L N n0 a b t Q e ah (.bool false)=U P L N n0 (.code b::t) Q .normal e ah:=rfl
@[simp] theorem Ys {zq:List Ar} {d:Option Nat} {r:List aL} {f:Nat} {caps:List AV}:UF P L N n0 zq d r t Q e ah (.fn f caps)=
 if aU caps then UK P L N n0 f (zq.map (fun x=>(ev e x).sh)++caps.map AV.s1) d r t Q e ah else False:=rfl
theorem aas {a b:av} {v:Bool} (h1:v=true→U P L N n0 (.code a::t) Q .normal e ah) (h2:v=false→U P L N n0 (.code b::t) Q .normal e ah):UC P L N n0 a b t Q e ah (.bool v):=by
 cases v
 · exact h2 rfl
 · exact h1 rfl
theorem acI {f:Nat} {zq:List AV} {d:Option Nat} {r:List aL} {R:AV→AH→Prop} (h:aF P f zq ah R) (hk:∀v aE,R v aE→U P L N n0 (.ops r::t) Q .normal (aG L (vv e) d v.df) aE):
 UK P L N n0 f zq d r t Q e ah:=h.mono hk
theorem aaR {c:av} (I:Nat→Env→AH→Prop) {k0:Nat} (ho:qb N c=true)
 (round:∀k e ah,I k e ah→U P L N n0 [.code c] (fun x e' aE=>match x with| .normal=>∃k',k'<k∧I k' e' aE|x=>U P L N n0 t Q x e' aE) .normal e ah) (h0:I k0 e ah):
 UX P L N n0 (.loop c) t Q e ah:=by
 intro c'
 induction c' with
 |loop c0 _=>
  intro b6
  simp only [bL,Option.map_eq_some_iff] at b6
  obtain ⟨a,ha,he⟩:=b6
  injection he with he
  subst he
  exact AW.loop I (fun k e ah hI=>ov c0 a _ e ah (by rw [ju c0 a ha];exact ha) (by rw [ju c0 a ha];exact ho) (round k e ah hI)) h0
 |scope c0 ih=>exact fun b6=>AW.scope (ih b6)
 |region id ops draw=>intro b6;simp only [bL] at b6;repeat' (split at b6)<;>simp at b6
 |block i c0=>intro b6;simp only [bL,Option.map_eq_some_iff] at b6;obtain ⟨a, -,h⟩:=b6;cases h
 |seq a b=>intro b6;simp only [bL] at b6;split at b6<;>simp at b6
 |cond a b c=>intro b6;simp only [bL] at b6;split at b6<;>simp at b6
 |_=>intro b6;simp [bL] at b6
end
end Go.Am
end
section
namespace Go.Am
open Go
variable [Tabs]
def AV.eH:AV→Bool
 | .bz _=>true
 |_=>false
def gr (P:Program) (e:Env) (ah:AH):List ResultVar→Option (List AV)
 |[]=>some []
 | .tmp t::r=>if (get e t).eH then none else match gr P e ah r with
   |some vs=>some (get e t::vs)
   |none=>none
 | .cell a ty::r=>if tok P ty then
  match get e a with
  | .ptr s o=>match ah[s]? with
    |some cs=>match lg (tn P ty) s o cs,gr P e ah r with
     |some v,some vs=>some (v.sh::vs)
     |_,_=>none
    |none=>none
  |_=>none
   else none
def fin:List AV→AV
 |[a]=>a.df
 |l=> .bz (l.map AV.sh)
inductive Cl (n:Nat):AV→Prop
 |ptr (s o):s<n→Cl n (.ptr s o)
 |fn (f cs):(∀a∈cs,Cl n a)→Cl n (.fn f cs)
 |agg (cs):(∀a∈cs,Cl n a)→Cl n (.agg cs)
 |bz (cs):(∀a∈cs,Cl n a)→Cl n (.bz cs)
 |v (x):Cl n (.v x)
 |int (k i):Cl n (.int k i)
 |bool (b):Cl n (.bool b)
 |str (l):Cl n (.str l)
 |sl (t k xs):Cl n (.sl t k xs)
 |ep (e o):Cl n (.ep e o)
 |cA (s k o m):s<n→Cl n (.cA s k o m)
 |qp (s k):Cl n (.cv s k 0 0)
 |cv (s k m c):s<n→Cl n (.cv s k m c)
 |dN:Cl n .dN
 |un:Cl n .un
@[simp] theorem VH {n s k o m:Nat}:Cl n (.cA s k o m)↔s<n:=⟨fun h=>by cases h;assumption, .cA _ _ _ _⟩
@[simp] theorem acq {n:Nat}:Cl n .dN:= .dN
@[simp] theorem VI {n s o:Nat}:Cl n (.ptr s o)↔s<n:=⟨fun h=>by cases h;assumption, .ptr _ _⟩
@[simp] theorem Yt {n f:Nat} {cs:List AV}:Cl n (.fn f cs)↔∀a∈cs,Cl n a:=⟨fun h=>by cases h;assumption, .fn _ _⟩
@[simp] theorem VJ {n:Nat} {cs:List AV}:Cl n (.agg cs)↔∀a∈cs,Cl n a:=⟨fun h=>by cases h;assumption, .agg _⟩
@[simp] theorem VK {n:Nat} {cs:List AV}:Cl n (.bz cs)↔∀a∈cs,Cl n a:=⟨fun h=>by cases h;assumption, .bz _⟩
@[simp] theorem ac8 {n:Nat} {x:Value}:Cl n (.v x):= .v _
@[simp] theorem acr {n:Nat} {k:IntKind} {i:Int}:Cl n (.int k i):= .int ..
@[simp] theorem aaS {n:Nat} {b:Bool}:Cl n (.bool b):= .bool _
@[simp] theorem acs {n:Nat} {l:List UInt8}:Cl n (.str l):= .str _
@[simp] theorem acJ {n:Nat} {t:Tg} {k:Nat} {xs:List AV}:Cl n (.sl t k xs):= .sl ..
@[simp] theorem acK {n:Nat} {e:AV} {o:Nat}:Cl n (.ep e o):= .ep ..
@[simp] theorem ac9 {n:Nat}:Cl n .un:= .un
def l8 (n:Nat) (ah:AH):Prop:=∀(s:Nat) (cs:List AV),ah[s]? =some cs→∀a∈cs,Cl n a
def KI (P:Program) (n:Nat) (rs:List ResultVar) (R:AV→AH→Prop) (x:Exit) (e:Env) (ah:AH):Prop:=
 (x= .normal∨x= .ret)∧match gr P e ah rs with
  |some vs=>Cl n (fin vs)∧l8 n (ah.take n)∧n≤ah.length∧R (fin vs) (ah.take n)
  |none=>False
section
variable {P:Program} {L:List Nat} {N n0:Nat} {F:Nat→Prop} {γ:List Nat} {C C':Nat→List Value} {e:Env} {ah:AH} {ts:Array Value} {w w':World}
theorem VR.take {a:AV} {v:Value} {n:Nat} (h:VR C γ a v):Cl n a→VR C (γ.take n) a v:=by
 induction h with
 |v _ _ hs=>intro _;exact .v _ _ hs
 |un=>intro _;exact .un ..
 |int=>intro _;exact .int ..
 |bool=>intro _;exact .bool ..
 |str=>intro _;exact .str ..
 |ptr _ s o b hb=>intro hn;exact .ptr _ _ _ _ (by rw [List.getElem?_take_of_lt (VI.1 hn)];exact hb)
 |cA _ s k o n b c hb hn'=>intro hn;exact .cA _ _ _ _ _ _ _ (by rw [List.getElem?_take_of_lt (VH.1 hn)];exact hb) hn'
 |qp=>intro _;exact .qp ..
 |cv _ s k n b c hb hn'=>
  intro hn
  cases hn with
  |qp=>exact .qp ..
  |cv _ _ _ _ hs=>exact .cv _ _ _ _ _ _ (by rw [List.getElem?_take_of_lt hs];exact hb) hn'
 |dN=>intro _;exact .dN ..
 |rM=>intro _;exact .rM ..
 |sl _ _ _ _ b o n c hn' hc hk hl ho hx=>intro _;exact .sl _ _ _ _ _ _ _ _ hn' hc hk hl ho hx
 |ep _ _ _ b p hl hx=>intro _;exact .ep _ _ _ _ _ hl hx
 |agg _ cs vs hl hx ih=>intro hn;exact .agg _ _ _ hl fun i a hi=>ih i a hi (VJ.1 hn a (List.mem_of_getElem? hi))
 |bz _ cs vs hl hx ih=>intro hn;exact .bz _ _ _ hl fun i a hi=>ih i a hi (VK.1 hn a (List.mem_of_getElem? hi))
 |fn _ f cs vs hl hx ih=>intro hn;exact .fn _ _ _ _ hl fun i a hi=>ih i a hi (Yt.1 hn a (List.mem_of_getElem? hi))
theorem VR.cl {a:AV} {v:Value} (h:VR C γ a v):Cl γ.length a:=by
 have mem:∀ {cs:List AV} {a:AV},a∈cs→∃i:Nat,cs[i]? =some a:=fun ha=>by
  obtain ⟨i,hi,rfl⟩:=List.getElem_of_mem ha;exact ⟨i,List.getElem?_eq_getElem hi⟩
 induction h with
 |ptr _ s o b hb=>exact .ptr _ _ (List.getElem?_eq_some_iff.1 hb).1
 |agg _ cs vs hl hx ih=>exact .agg _ fun a ha=>by obtain ⟨i,hi⟩:=mem ha;exact ih i a hi
 |bz _ cs vs hl hx ih=>exact .bz _ fun a ha=>by obtain ⟨i,hi⟩:=mem ha;exact ih i a hi
 |fn _ f cs vs hl hx ih=>exact .fn _ _ fun a ha=>by obtain ⟨i,hi⟩:=mem ha;exact ih i a hi
 |cA _ s k o n b c hb _=>exact .cA _ _ _ _ (List.getElem?_eq_some_iff.1 hb).1
 |qp=>exact .qp ..
 |cv _ s k n b c hb _=>exact .cv _ _ _ _ (List.getElem?_eq_some_iff.1 hb).1
 |dN=>exact .dN
 |v=>exact .v _
 |un=>exact .un
 |int=>exact .int ..
 |bool=>exact .bool _
 |str=>exact .str _
 |rM=>exact .sl ..
 |sl=>exact .sl ..
 |ep=>exact .ep ..
theorem KJ (h:SR L N F γ C e ah ts w) {a s o:Nat} {ty:TypeId} (ht:tok P ty=true) (hp:get e a= .ptr s o) {cs:List AV} (hs:ah[s]? =some cs) {v:AV} (hl:lg (tn P ty) s o cs=some v):
 ∃u ad,ts.getD a undef= .pointer (some ad)∧(loadVar ty ad).run P w= .ok u w∧VR C γ v.sh u∧TC w C v.sh u:=by
 have hv:=(h.env a).1
 rw [hp] at hv
 obtain ⟨b,hb,hv⟩:=hv.iW
 obtain ⟨vs,tv,hh,hsz,hcell⟩:=h.mem.obj s b cs hs hb
 have vk:=dA hh
 cases hn:tn P ty with
 |some n=>
  simp only [hn,lg] at hl
  split at hl
  case isFalse=>cases hl
  rename_i hq
  obtain ⟨hq,hfl⟩:=hq
  injection hl with hl
  subst hl
  obtain ⟨r,hr,hrs,hrc⟩:=(run_load (w:=w) ht (b:=b) (o:=o)).1 n hn (fun j hj=>by
   rw [vk];exact ⟨_,Array.getElem?_eq_getElem (by omega)⟩)
  obtain rfl:r=vs.extract o (o+n):=by
   apply Array.ext_getElem?
   intro j
   by_cases hj:j<n
   · rw [hrc j hj,vk,Array.getElem?_extract,if_pos (by omega)]
   · rw [Array.getElem?_eq_none (by omega),Array.getElem?_eq_none (by simp;omega)]
  refine ⟨_,_,hv,hr, ?_, ?_⟩
  · exact (Wk.sh _).vr ((Wk.nV _ Wk.br _).vr (Cy hsz (fun i a hi=>(hcell i a hi).1) hq))
  · exact (Wk.sh _).tc ((Wk.nV _ Wk.br _).tc (vj hsz (fun i a hi hin=>yS (hcell _ a hi).2 (jr hfl (i:=i) (by rw [List.getElem?_take_of_lt hin,List.getElem?_drop];exact hi))) hq))
 |none=>
  simp only [hn,lg] at hl
  have vl:∀c,cs[o]? =some c→w.cell? ⟨b,o,none⟩=some (vs.getD o undef):=by
   intro c js
   have hlt:o<vs.size:=Nat.lt_of_lt_of_le (List.getElem?_eq_some_iff.1 js).1 hsz
   rw [vk];simp [Array.getD_eq_getD_getElem?,Array.getElem?_eq_getElem hlt]
  split at hl
  · rename_i k xs js
    injection hl with hl
    subst hl
    have hr:=(run_load (w:=w) ht (b:=b) (o:=o)).2 _ hn (vl _ js)
    exact ⟨_,_,hv,hr,(hcell o _ js).1.jV _,by simp only [AV.sh,AV.br,Tg.sh];cases (vs.getD o undef)<;>trivial⟩
  · rename_i c hno js
    split at hl
    case isFalse=>cases hl
    rename_i hfl
    injection hl with hl
    subst hl
    have hr:=(run_load (w:=w) ht (b:=b) (o:=o)).2 _ hn (vl _ js)
    refine ⟨_,_,hv,hr, ?_, ?_⟩
    · exact (Wk.sh _).vr ((Wk.kT (Wk.br c)).vr (hcell o _ js).1)
    · exact (Wk.sh _).tc (Cf (yS (hcell o _ js).2 hfl))
  · cases hl
theorem VL (h:SR L N F γ C e ah ts w):∀(rs:List ResultVar) (vs:List AV),gr P e ah rs=some vs→
 ∃us:List Value,(rs.mapM fun| .tmp t=>pure (ts.getD t undef)| .cell a t=>do loadVar t (←asAddr (ts.getD a undef)):Sem (List Value)).run P w= .ok us w∧us.length=vs.length∧
  (∀(i:Nat) (a:AV),vs[i]? =some a→VR C γ a (us.getD i undef)∧TC w C a (us.getD i undef))∧
  (∀(i:Nat) (a:AV) (b:Nat),vs[i]? =some a→bS a (us.getD i undef)=some b→∃t,blk γ e ah ts w (.tmp t) b)∧∀(i:Nat) (a:AV),vs[i]? =some a→a.eH=false:=by
 intro rs
 induction rs with
 |nil=>intro vs hr;simp [gr] at hr;subst hr;exact ⟨[],rfl,rfl,by simp,by simp,by simp⟩
 |cons r rs ih=>
  intro vs hr
  cases r with
  |tmp t=>
   simp only [gr] at hr
   split at hr
   case isTrue=>cases hr
   rename_i hnt
   split at hr
   case h_2=>cases hr
   rename_i vs' hvs
   injection hr with hr
   subst hr
   obtain ⟨us,h1,h2,h3,h4,h5⟩:=ih vs' hvs
   refine ⟨ts.getD t undef::us, ?_,by simp [h2],fun i a hi=> ?_,fun i a b hi hb=> ?_,fun i a hi=>by
    cases i with
    |zero=>simp at hi;subst hi;simpa using hnt
    |succ i=>exact h5 i a (by simpa using hi)⟩
   · simp only [List.mapM_cons,Sem.run_bind,Sem.run_pure,Result.andThen_ok,h1]
   · cases i with
     |zero=>simp at hi;subst hi;exact h.env t
     |succ i=>exact h3 i a (by simpa using hi)
   · cases i with
     |zero=>simp at hi;subst hi;exact ⟨t,hb⟩
     |succ i=>exact h4 i a b (by simpa using hi) hb
  |cell a ty=>
   simp only [gr] at hr
   split at hr
   case isFalse=>cases hr
   rename_i ht
   split at hr
   case h_2=>cases hr
   rename_i s o hp
   split at hr
   case h_2=>cases hr
   rename_i cs hs
   split at hr
   case h_2=>cases hr
   rename_i v vs' hv hvs
   injection hr with hr
   subst hr
   obtain ⟨us,h1,h2,h3,h4,h5⟩:=ih vs' hvs
   obtain ⟨u,ad,g1,g2,g3,g4⟩:=KJ (P:=P) h ht hp hs hv
   have hnt:v.sh.eH=false:=by
    unfold lg at hv
    split at hv
    · split at hv<;>simp at hv;subst hv;rfl
    · split at hv
      · injection hv with hv;subst hv;rfl
      · split at hv<;>simp at hv
        rename_i c _ _ hf
        subst hv
        cases c<;>first|rfl|cases hf
      · cases hv
   refine ⟨u::us, ?_,by simp [h2],fun i a hi=> ?_,fun i a b hi hb=> ?_,fun i a hi=>by
    cases i with
    |zero=>simp at hi;subst hi;exact hnt
    |succ i=>exact h5 i a (by simpa using hi)⟩
   · have hA:(asAddr (ts.getD a undef)).run P w= .ok ad w:=by rw [g1];rfl
     simp only [List.mapM_cons,Sem.run_bind,hA,Sem.run_pure,Result.andThen_ok,g2,h1]
   · cases i with
     |zero=>simp at hi;subst hi;exact ⟨g3,g4⟩
     |succ i=>exact h3 i a (by simpa using hi)
   · cases i with
     |zero=>simp at hi;subst hi;rw [iE _ (gJ (sA v))] at hb;cases hb
     |succ i=>exact h4 i a b (by simpa using hi) hb
def XA (P:Program) (n0:Nat) (rs:List ResultVar) (R:AV→AH→Prop) (x:Exit) (e:Env) (ah:AH):Prop:=
 (∃m,n0≤m∧KI P m rs R x e ah)∨((x= .normal∨x= .ret)∧match gr P e ah rs with
  |some vs=>R (fin vs) ah
  |none=>False)
theorem aF.Nf {f:Nat} {fn:Func} {c:Code} {ac:av} {args:List AV} {R:AV→AH→Prop} (L:List Nat) (hf:P.funcs[f]? =some fn) (hname:fn.name≠ "runtime.NumGoroutine") (hb:fn.body=some c)
 (hc:bL P c=some ac) (ho:qb fn.ntmps ac=true) (hN:args.length≤fn.ntmps)
 (h:l8 ah.length ah→(∀a∈args,∀s o,a= .ptr s o→s<ah.length)→AX P L fn.ntmps ah.length ac (XA P ah.length fn.results.toList R) (e4 0 args) ah):aF P f args ah R:=by
 refine ⟨by simp [jt,hf,hb,hname],fun F γ C w vs hs=> ?_⟩
 have hlen:=hs.mem.len
 have hcl:l8 ah.length ah:=by
  intro s cs Ii
  have hlt:s<γ.length:=by rw [hlen];exact (List.getElem?_eq_some_iff.1 Ii).1
  obtain ⟨us,ty, -,hsz,hcell⟩:=hs.mem.obj s _ cs Ii (List.getElem?_eq_getElem hlt)
  intro a ha
  obtain ⟨i,hi,rfl⟩:=List.getElem_of_mem ha
  rw [←hlen]
  exact (hcell i _ (List.getElem?_eq_getElem hi)).1.cl
 have hargs:∀a∈args,∀s o,a= .ptr s o→s<ah.length:=by
  intro a ha s o he
  obtain ⟨i,hi,rfl⟩:=List.getElem_of_mem ha
  have:=(hs.env i).1
  rw [eA] at this
  simp only [Nat.zero_le,if_true,Nat.sub_zero,List.getElem?_eq_getElem hi,Option.getD_some,he] at this
  obtain ⟨b,hb, -⟩:=this.iW
  rw [←hlen];exact (List.getElem?_eq_some_iff.1 hb).1
 have hU:=h hcl hargs
 have hW:AW P L fn.ntmps ah.length c (XA P ah.length fn.results.toList R) (e4 0 args) ah:=hU c hc
 have hvs:vs.size=args.length:=hs.sz
 have hs2:SR L fn.ntmps F γ C (e4 0 args) ah (vs++Array.replicate (fn.ntmps - vs.size) undef) w:=by
  have hg:∀t,t<vs.size→(vs++Array.replicate (fn.ntmps - vs.size) undef).getD t undef=vs.getD t undef:=by
   intro t ht;simp [Array.getD_eq_getD_getElem?,Array.getElem?_append,ht]
  have hx:∀t,¬t<vs.size→get (e4 0 args) t= .un:=by
   intro t ht;rw [eA];simp only [Nat.zero_le,if_true,Nat.sub_zero];rw [List.getElem?_eq_none (by omega)];rfl
  have hbk:∀p b,blk γ (e4 0 args) ah (vs++Array.replicate (fn.ntmps - vs.size) undef) w p b→blk γ (e4 0 args) ah vs w p b:=by
   intro p b hp
   cases p with
   |obj s=>exact hp
   |cell s i=>exact hp
   |tmp t=>
    by_cases ht:t<vs.size
    · simp only [blk,hg t ht] at hp ⊢;exact hp
    · simp only [blk,hx t ht,bS] at hp;cases hp
  refine ⟨hs.mem,by simp;omega,fun t=> ?_,fun p q b hp hq=>hs.ew p q b (hbk p b hp) (hbk q b hq),fun p b hp=>hs.nf p b (hbk p b hp),hs.k9,fun t l k xs htl=> ?_⟩
  · by_cases ht:t<vs.size
    · rw [hg t ht];exact hs.env t
    · rw [hx t ht];exact ⟨.un ..,by generalize (vs++Array.replicate (fn.ntmps - vs.size) undef).getD t undef=v;cases v<;>trivial⟩
  · by_cases ht:t<vs.size
    · have:=hs.fr t l k xs htl
      cases l with
      |tmp u=>have:=this.1;simp at this
      |cell s o=>intro cs a b h1 h2 h3 h4;rw [hg t ht];exact this cs a b h1 h2 h3 h4
    · rw [hx t ht] at htl;cases htl
 refine calls_of_wp hf hb (wp_mono (hW F γ C _ w hs2 (by omega)) ?_)
 rintro x ⟨ts',ds'⟩ w' ⟨rfl, -,e',aE,γ',C',Yu,hγ,hs',aaT⟩
 have hx:x= .normal∨x= .ret:=by
  rcases Yu with ⟨m, -,h, -⟩|⟨h, -⟩<;>exact h
 obtain ⟨vA,Kp⟩:∃vA,gr P e' aE fn.results.toList=some vA:=by
  rcases Yu with ⟨m, -, -,h⟩|⟨-,h⟩
  · split at h
    · rename_i vs hv;exact ⟨vs,hv⟩
    · exact h.elim
  · split at h
    · rename_i vs hv;exact ⟨vs,hv⟩
    · exact h.elim
 obtain ⟨us,u1,u2,u3,u4,u5⟩:=VL (P:=P) hs' _ _ Kp
 have hres:(results fn ts').run P w'= .ok (if us.length=1 then us.getD 0 undef else .tuple us.toArray) w':=by
  unfold results
  rw [Array.mapM_eq_mapM_toList,map_eq_pure_bind]
  simp only [Sem.run_bind,Sem.run_pure]
  refine (congrArg (fun r=>Result.andThen (Result.andThen r fun (a:List Value) w'=> .ok a.toArray w') fun (a:Array Value) w'=> .ok (if h:a.size=1 then a[0] else Value.tuple a) w') u1).trans ?_
  simp only [Result.andThen_ok]
  by_cases h1:us.length=1
  · rw [if_pos h1]
    have:us.toArray.size=1:=by simpa using h1
    rw [dif_pos this]
    simp [List.getD_eq_getElem?_getD,h1]
  · rw [if_neg h1]
    have:¬us.toArray.size=1:=by simpa using h1
    rw [dif_neg this]
 generalize hv:(if us.length=1 then us.getD 0 undef else .tuple us.toArray)=v at hres
 have Bh:VR C' γ' (fin vA) v∧TC w' C' (fin vA) v∧(∀b,bS (fin vA) v=some b→∃t,blk γ' e' aE ts' w' (.tmp t) b)∧∀l k xs,fin vA≠ .sl (.fr l) k xs:=by
  by_cases h1:us.length=1
  · rw [if_pos h1] at hv
    obtain ⟨a,rfl⟩:∃a,vA=[a]:=by
     cases vA with
     |nil=>rw [h1] at u2;simp at u2
     |cons a r=>cases r with
      |nil=>exact ⟨a,rfl⟩
      |cons b r=>rw [h1] at u2;simp at u2
    have h3:=u3 0 a rfl
    rw [hv] at h3
    refine ⟨(Wk.df a).vr h3.1,(Wk.df a).tc h3.2,fun b hb=>u4 0 a b rfl ?_,fun l k xs=>Km a l k xs⟩
    rw [hv];exact (Wk.df a).own hb
  · rw [if_neg h1] at hv
    have hf:fin vA= .bz (vA.map AV.sh):=by
     cases vA with
     |nil=>rfl
     |cons a r=>cases r with
      |nil=>exact absurd (by simpa using u2) h1
      |cons b r=>rfl
    rw [hf]
    subst hv
    refine ⟨.bz _ _ _ (by simp [u2]) fun i a hi=> ?_,fun i a hi=> ?_,fun b hb=>by simp [bS] at hb,by simp⟩
    · rw [List.getElem?_map] at hi
      cases hq:vA[i]? with
      |none=>rw [hq] at hi;simp at hi
      |some y=>
       rw [hq] at hi
       obtain rfl:y.sh=a:=by simpa using hi
       have:=(Wk.sh y).vr (u3 i y hq).1
       rwa [←gK]
    · rw [List.getElem?_map] at hi
      cases hq:vA[i]? with
      |none=>rw [hq] at hi;simp at hi
      |some y=>
       rw [hq] at hi
       obtain rfl:y.sh=a:=by simpa using hi
       have h3:=(Wk.sh y).tc (u3 i y hq).2
       have h4:=(Wk.sh y).vr (u3 i y hq).1
       rw [←gK]
       show FP y.sh (us.getD i undef)
       have h5:y.sh.eH=false:=by have:=u5 i y hq;cases y<;>first|rfl|cases this
       generalize us.getD i undef=u at h3 h4
       generalize hz:y.sh=z at h3 h4 h5
       cases z with
       |agg cs=>obtain ⟨vs,rfl, -⟩:=h4.mP;exact h3
       |bz cs=>cases h5
       |sl t k xs=>cases t<;>cases u<;>first|trivial|exact h3|(exfalso;cases y<;>simp [AV.sh,AV.br] at hz;done)|skip
       |_=>cases u<;>trivial
 obtain ⟨m,hm,hrc,aaU,ada,hRR⟩:∃m,ah.length≤m∧Cl m (fin vA)∧l8 m (aE.take m)∧m≤aE.length∧R (fin vA) (aE.take m):=by
  rcases Yu with ⟨m,hm, -,h⟩|⟨-,h⟩
  · rw [Kp] at h
    exact ⟨m,hm,h⟩
  · rw [Kp] at h
    have hl:aE.take aE.length=aE:=List.take_length
    refine ⟨aE.length, ?_, ?_, ?_,Nat.le_refl _,by rw [hl];exact h⟩
    · rw [←hs'.mem.len]
      have:=hγ.length_le
      rw [←hlen,List.take_length] at this
      omega
    · rw [←hs'.mem.len];exact Bh.1.cl
    · rw [hl]
      intro s cs Ii
      have hlt:s<γ'.length:=by rw [hs'.mem.len];exact (List.getElem?_eq_some_iff.1 Ii).1
      obtain ⟨us',ty', -,adb,Ch⟩:=hs'.mem.obj s _ cs Ii (List.getElem?_eq_getElem hlt)
      intro a ha
      obtain ⟨i,hi,rfl⟩:=List.getElem_of_mem ha
      rw [←hs'.mem.len]
      exact (Ch i _ (List.getElem?_eq_getElem hi)).1.cl
 have hm0:ah.length≤m:=hm
 have hlen':=hs'.mem.len
 have hpre:γ <+: γ'.take m:=by
  rw [←hlen,List.take_length] at hγ
  obtain ⟨q,rfl⟩:=hγ
  rw [List.take_append]
  rw [List.take_of_length_le (l:=γ) (i:=m) (by omega)]
  exact List.prefix_append _ _
 have hbp:bodyPost P fn (fun en w'=>∃r v aE γ' C',en= .returned v∧R r aE∧γ <+: γ'∧SR [] 1 F γ' C' [(0,r)] aE #[v] w'∧Ext F C w C' w') x ⟨ts',[]⟩ w':=by
  have key:∃v',(results fn ts').run P w'= .ok v' w'∧∃r v aE γ' C',Ending.returned v'= .returned v∧R r aE∧γ <+: γ'∧SR [] 1 F γ' C' [(0,r)] aE #[v] w'∧Ext F C w C' w':=by
   refine ⟨v,hres,fin vA,v,aE.take m,γ'.take m,C',rfl,hRR,hpre, ?_,aaT⟩
   have hgt:∀(s b:Nat),(γ'.take m)[s]? =some b→γ'[s]? =some b∧s<m:=by
    intro s b hsb
    by_cases VM:s<m
    · rw [List.getElem?_take_of_lt VM] at hsb;exact ⟨hsb,VM⟩
    · rw [List.getElem?_eq_none (by simp;omega)] at hsb;cases hsb
   have xu:∀(s:Nat) (cs:List AV),(aE.take m)[s]? =some cs→aE[s]? =some cs:=by
    intro s cs hsb
    by_cases VM:s<m
    · rwa [List.getElem?_take_of_lt VM] at hsb
    · rw [List.getElem?_eq_none (by simp;omega)] at hsb;cases hsb
   have hbk:∀p b,blk (γ'.take m) [(0,fin vA)] (aE.take m) #[v] w' p b→(∃t,p= .tmp 0∧blk γ' e' aE ts' w' (.tmp t) b)∨((∀t,p≠ .tmp t)∧blk γ' e' aE ts' w' p b):=by
    intro p b hp
    cases p with
    |obj s=>exact .inr ⟨by simp,(hgt s b hp).1⟩
    |cell s i=>
     obtain ⟨cs,a,b0,g1,g2,g3,g4⟩:=hp
     exact .inr ⟨by simp,cs,a,b0,xu s cs g1,g2,(hgt s b0 g3).1,g4⟩
    |tmp t=>
     simp only [blk,get] at hp
     by_cases ht:0=t
     · subst ht
       simp only [if_true] at hp
       obtain ⟨t,ht⟩:=Bh.2.2.1 b hp
       exact .inl ⟨t,rfl,ht⟩
     · rw [if_neg ht] at hp;simp [bS] at hp
   refine ⟨⟨by simp [hlen'],fun s b cs g1 g2=> ?_,hs'.mem.vi,fun s b cs g1 g0 hsb=>hs'.mem.uo s b cs (xu s cs g1) g0 (hgt s b hsb).1,fun s b cs us ty fr g1 hsb hh=>hs'.mem.Ct s b cs us ty fr (xu s cs g1) (hgt s b hsb).1 hh⟩,rfl,fun t=> ?_,fun p q b hp hq=> ?_,fun p b hp=> ?_,hs'.k9,fun t l k xs htl=> ?_⟩
   · obtain ⟨vs,ty,q1,q2,q3⟩:=hs'.mem.obj s b cs (xu s cs g1) (hgt s b g2).1
     exact ⟨vs,ty,q1,q2,fun i a hi=>⟨(q3 i a hi).1.take (aaU s cs g1 a (List.mem_of_getElem? hi)),(q3 i a hi).2⟩⟩
   · by_cases ht:0=t
     · subst ht
       simp only [get,if_true]
       exact ⟨Bh.1.take hrc,Bh.2.1⟩
     · simp only [get,if_neg ht]
       exact ⟨.un ..,by generalize (#[v]:Array Value).getD t undef=u;cases u<;>trivial⟩
   · rcases hbk p b hp with ⟨t,rfl,h1⟩|⟨h1,h2⟩<;>rcases hbk q b hq with ⟨u,rfl,h3⟩|⟨h3,h4⟩
     · rfl
     · exact absurd (hs'.ew _ _ b h1 h4) (fun e=>h3 t e.symm)
     · exact absurd (hs'.ew _ _ b h2 h3) (h1 u)
     · exact hs'.ew p q b h2 h4
   · rcases hbk p b hp with ⟨t,rfl,h1⟩|⟨h1,h2⟩
     · exact hs'.nf _ b h1
     · exact hs'.nf p b h2
   · by_cases ht:0=t
     · subst ht
       simp only [get,if_true] at htl
       exact absurd htl (Bh.2.2.2 l k xs)
     · simp only [get,if_neg ht] at htl;cases htl
  rcases hx with rfl|rfl
  · exact ⟨rfl,key⟩
  · exact ⟨rfl,key⟩
 exact hbp
theorem AX.up {c:av} {Q Q':Exit→Env→AH→Prop} {e:Env} {ah:AH} {n0:Nat} (h:AX P L N n0 c Q e ah) (hq:∀x e ah,Q x e ah→Q' x e ah):AX P L N n0 c Q' e ah:=fun c' b6=>(h c' b6).mono hq
theorem aF.enter {f:Nat} {fn:Func} {c:Code} {ac:av} {args:List AV} {R:AV→AH→Prop} (L:List Nat) (m:Nat) (hf:P.funcs[f]? =some fn) (hname:fn.name≠ "runtime.NumGoroutine") (hb:fn.body=some c)
 (hc:bL P c=some ac) (ho:qb fn.ntmps ac=true) (hN:args.length≤fn.ntmps) (hm:ah.length≤m)
 (h:l8 ah.length ah→(∀a∈args,∀s o,a= .ptr s o→s<ah.length)→U P L fn.ntmps ah.length [.code ac] (KI P m fn.results.toList R) .normal (e4 0 args) ah):aF P f args ah R:=
 aF.Nf L hf hname hb hc ho hN fun h1 h2=>AX.up (fun c' b6=>ov c' ac _ _ _ (by rw [ju c ac hc];exact b6) (by rw [ju c ac hc];exact ho) (h h1 h2)) fun x e H hR=> .inl ⟨m,hm,hR⟩
end
end Go.Am
end
section
namespace Go.Am
open Go
variable [Tabs]
def bQ (P:Program) (f N:Nat) (rs:List ResultVar) (ac:av):Prop:=
 ∃fn c,P.funcs[f]? =some fn∧fn.name≠ "runtime.NumGoroutine" ∧fn.body=some c∧bL P c=some ac∧fn.ntmps=N∧fn.results.toList=rs
theorem aF.go {P:Program} {f N:Nat} {rs:List ResultVar} {ac:av} (hF:bQ P f N rs ac) {args:List AV} {ah:AH} {R:AV→AH→Prop} (L:List Nat) (m:Nat)
 (ho:qb N ac=true) (hN:args.length≤N) (hm:ah.length≤m)
 (h:l8 ah.length ah→(∀a∈args,∀s o,a= .ptr s o→s<ah.length)→U P L N ah.length [.code ac] (KI P m rs R) .normal (e4 0 args) ah):aF P f args ah R:=by
 obtain ⟨fn,c,h1,h2,h3,h4,rfl,rfl⟩:=hF
 exact aF.enter L m h1 h2 h3 h4 ho hN hm h
section
variable {P:Program} {L:List Nat} {N n0:Nat} {e:Env} {ah:AH} {t:List It} {Q:Exit→Env→AH→Prop} {r:List aL} {d:Option Nat} {g:Option (Nat×Bool)}
def Yv (want:Bool):AV→Option Bool
 | .bool b=>some (b==want)
 | .bz []=>some false
 |_=>none
theorem VN {op:fK}:gp e ⟨d,op,none⟩=some true:=rfl
theorem VO {op:fK} {x:Nat} {want:Bool}:gp e ⟨d,op,some (x,want)⟩=Yv want (get e x):=by
 simp only [gp]
 cases get e x with
 |bz cs=>cases cs<;>rfl
 |_=>rfl
theorem VP {want:Bool}:Yv want (.bz [])=some false:=rfl
theorem Oq {b want:Bool}:Yv want (.bool b)=some (b==want):=rfl
theorem aaV {x:Ar}:UG P L N n0 ⟨d, .mv x,g⟩ r t Q e ah (some true)=U P L N n0 (It.ops r::t) Q Exit.normal (aG L e d (cp L x (ev e x))) ah:=rfl
def jL (P:Program) (L:List Nat) (N n0:Nat) (e:Env) (ah:AH) (d:Option Nat) (r:List aL) (t:List It) (Q:Exit→Env→AH→Prop) (x:Ar):AV→Prop
 | .sl .own k xs=>match x with
   | .t y=>U P L N n0 (.ops r::t) Q .normal (aG L (put e y (.sl .n k xs)) d (.sl .own k xs)) ah
   | .c a=>U P L N n0 (.ops r::t) Q .normal (aG L e d (cp L (.c a) (.sl .own k xs))) ah
 |a=>U P L N n0 (.ops r::t) Q .normal (aG L e d (cp L x a)) ah
theorem Yw {x:Ar}:UG P L N n0 ⟨d, .aO x,g⟩ r t Q e ah (some true)=jL P L N n0 e ah d r t Q x (ev e x):=by
 simp only [UG,bK]
 cases h:ev e x with
 |sl tg k xs=>cases tg<;>cases x<;>rfl
 |_=>rfl
def KK (L:List Nat) (e:Env) (ah:AH) (d:Option Nat) (a b:Ar):AV→Option (Env×AH)
 | .bool t=>some (aG L e d (if t then (ev e a).sh else (ev e b).sh),ah)
 |_=>none
theorem VQ {c a b:Ar}:UG P L N n0 ⟨d, .pick c a b,g⟩ r t Q e ah (some true)=US P L N n0 r t Q (KK L e ah d a b (ev e c)):=by
 simp only [UG,bK];cases ev e c<;>rfl
theorem R3 {cs:List AV}:UG P L N n0 ⟨d, .alloc cs,g⟩ r t Q e ah (some true)=U P L N n0 (.ops r::t) Q .normal (aG L e d (.ptr ah.length 0)) (ah++[cs]):=rfl
theorem Yx {x:Ar}:UG P L N n0 ⟨d, .box x,g⟩ r t Q e ah (some true)=US P L N n0 r t Q (if bZ (ev e x).cells then some (aG L e d (.ptr ah.length 0),ah++[(ev e x).cells.map AV.br]) else none):=rfl
theorem R4 {z:List AV} {ps:List (Nat×Nat×Ar)}:UG P L N n0 ⟨d, .build z ps,g⟩ r t Q e ah (some true)=US P L N n0 r t Q ((fill e z ps).map fun cs=>(aG L e d (.agg cs),ah)):=rfl
theorem Yy {k:Nat} {ps:List Ar}:UG P L N n0 ⟨d, .ve k ps,g⟩ r t Q e ah (some true)=US P L N n0 r t Q (if ps.all (fun p=>(ev e p).cells.length=k&&bZ (ev e p).cells&&fY (ev e p).cells) then some (aG L e d (.sl .ex k (ps.map fun p=>(ev e p).s0)),ah) else none):=rfl
theorem acL {y:Nat} {bs:List UInt8}:UG P L N n0 ⟨d, .lit y bs,g⟩ r t Q e ah (some true)=U P L N n0 (It.ops r::t) Q Exit.normal (put (aG L e d (.sl .ex 1 (bs.map b8))) y .un) ah:=rfl
def R5 (L:List Nat) (e:Env) (ah:AH) (d:Option Nat):AV→Option (Env×AH)
 | .ptr s p=>some (aG L e d (.ptr s p),ah)
 | .ep a p=>some (aG L e d (.ep a p),ah)
 |_=>none
theorem Yz {x:Ar}:UG P L N n0 ⟨d, .iL x,g⟩ r t Q e ah (some true)=US P L N n0 r t Q (R5 L e ah d (ev e x)):=by
 simp only [UG,bK];cases ev e x<;>rfl
def R6 (L:List Nat) (e:Env) (ah:AH) (d:Option Nat) (q:Nat):AV→Option (Env×AH)
 | .ptr s p=>some (aG L e d (.ptr s (p+q)),ah)
 | .ep a p=>some (aG L e d (.ep a (p+q)),ah)
 |_=>none
theorem YA {x:Ar} {q:Nat}:UG P L N n0 ⟨d, .cR x q,g⟩ r t Q e ah (some true)=US P L N n0 r t Q (R6 L e ah d q (ev e x)):=by
 simp only [UG,bK];cases ev e x<;>rfl
theorem acu {x:Ar} {q:Nat} {n:Option Nat}:UG P L N n0 ⟨d, .E8 x q n,g⟩ r t Q e ah (some true)=US P L N n0 r t Q (bK L ⟨d, .E8 x q n,none⟩ e ah):=by simp only [UG,vu L d _ g]
def VS (L:List Nat) (d:Option Nat) (n:Option Nat) (s p:Nat) (e:Env) (ah:AH):Option (List AV)→Option (Env×AH)
 |some cs=>(lg n s p cs).map fun a=>(aG L e d a,ah)
 |none=>none
def Ot (L:List Nat) (d:Option Nat) (e:Env) (ah:AH):Option AV→Option (Env×AH)
 |some c=>if c.flat then some (aG L e d c.s1,ah) else none
 |none=>none
def F4 (L:List Nat) (d:Option Nat) (n:Option Nat) (e:Env) (ah:AH):AV→Option (Env×AH)
 | .ptr s p=>VS L d n s p e ah (ah[s]?)
 | .ep a p=>match n with
   |some n=>if p+n≤a.cells.length∧aU ((a.cells.drop p).take n) then some (aG L e d (.agg (((a.cells.drop p).take n).map AV.s1)),ah) else none
   |none=>Ot L d e ah (a.cells[p]?)
 |_=>none
theorem aaW {x:Ar} {n:Option Nat}:UG P L N n0 ⟨d, .ld x n,g⟩ r t Q e ah (some true)=US P L N n0 r t Q (F4 L d n e ah (ev e x)):=by
 simp only [UG,bK]
 cases ev e x with
 |ptr s p=>simp only [F4,VS];cases ah[s]? <;>rfl
 |ep a p=>cases n with
  |some n=>rfl
  |none=>simp only [F4,Ot];cases a.cells[p]? <;>rfl
 |_=>rfl
def dM (s o:Nat):Option AV→Option AV
 |some (.sl .own k xs)=>some (.sl (.fr (.cell s o)) k xs)
 |some a=>if a.flat then some a.br else none
 |none=>none
theorem bF {s o:Nat} {cs:List AV}:lg none s o cs=dM s o (cs[o]?):=by
 simp only [lg,dM]
 cases cs[o]? with
 |none=>rfl
 |some a=>cases a with
  |sl t k xs=>cases t<;>rfl
  |_=>rfl
theorem bG {n s o:Nat} {cs:List AV}:lg (some n) s o cs=if o+n≤cs.length∧aU ((cs.drop o).take n) then some (.agg (((cs.drop o).take n).map AV.br)) else none:=rfl
theorem acM {x:Ar} {n:Option Nat}:UG P L N n0 ⟨d, .Ea x n,g⟩ r t Q e ah (some true)=US P L N n0 r t Q (bK L ⟨d, .Ea x n,none⟩ e ah):=by simp only [UG,vu L d _ g]
theorem ade {a x:Ar} {n:Nat}:UG P L N n0 ⟨d, .st a x n,g⟩ r t Q e ah (some true)=US P L N n0 r t Q (bK L ⟨none, .st a x n,none⟩ e ah):=by simp only [UG,bK]
theorem YB {op:BinOp} {x y:Ar}:UG P L N n0 ⟨d, .bin op x y,g⟩ r t Q e ah (some true)=US P L N n0 r t Q ((bu op (ev e x) (ev e y)).map fun a=>(aG L e d a,ah)):=rfl
theorem aaX {neq:Bool} {x y:Ar}:UG P L N n0 ⟨d, .bq neq x y,g⟩ r t Q e ah (some true)=US P L N n0 r t Q ((Kh (ev e x) (ev e y)).map fun b=>(aG L e d (.bool (if neq then !b else b)),ah)):=rfl
theorem aaY {neq:Bool} {x y:Ar}:UG P L N n0 ⟨d, .pq neq x y,g⟩ r t Q e ah (some true)=US P L N n0 r t Q ((Ki (ev e x) (ev e y)).map fun b=>(aG L e d (.bool (if neq then !b else b)),ah)):=rfl
def XB (L:List Nat) (e:Env) (ah:AH) (d:Option Nat) (ks:List Pk) (neq:Bool):AV→AV→Option (Env×AH)
 | .agg zq, .agg bs=>(cq ks zq bs).map fun b=>(aG L e d (.bool (if neq then !b else b)),ah)
 |_,_=>none
theorem YC {ks:List Pk} {neq:Bool} {x y:Ar}:UG P L N n0 ⟨d, .seq ks neq x y,g⟩ r t Q e ah (some true)=US P L N n0 r t Q (XB L e ah d ks neq (ev e x) (ev e y)):=by
 simp only [UG,bK];cases ev e x<;>cases ev e y<;>rfl
theorem aaZ {op:UnOp} {x:Ar}:UG P L N n0 ⟨d, .un op x,g⟩ r t Q e ah (some true)=US P L N n0 r t Q ((Kk op (ev e x)).map fun a=>(aG L e d a,ah)):=rfl
def Ng (L:List Nat) (e:Env) (ah:AH) (d:Option Nat) (p n:Nat) (cs:List AV):Option (Env×AH):=
 if p+n≤cs.length then (bytesOf ((cs.drop p).take n)).map fun l=>(aG L e d (.str l),ah) else none
def R7 (L:List Nat) (e:Env) (ah:AH) (d:Option Nat) (p n:Nat):Option (List AV)→Option (Env×AH)
 |some cs=>Ng L e ah d p n cs
 |none=>none
def CP (L:List Nat) (e:Env) (ah:AH) (d:Option Nat) (h:Cv):AV→Option (Env×AH)
 | .cA s k p n=>match h with
   | .bs=>if k=1 then R7 L e ah d p n (ah[s]?) else none
   |h=>(fh h (.cA s k p n)).map fun a=>(aG L e d a,ah)
 |a=>(fh h a).map fun a=>(aG L e d a,ah)
theorem YD {h:Cv} {x:Ar}:UG P L N n0 ⟨d, .mj h x,g⟩ r t Q e ah (some true)=US P L N n0 r t Q (CP L e ah d h (ev e x)):=by
 simp only [UG,bK]
 congr 1
 cases ev e x with
 |cA s k p n=>
  cases h with
  |bs=>
   simp only [CP]
   split
   · cases ah[s]? <;>rfl
   · rfl
  |_=>rfl
 |_=>cases h<;>rfl
theorem VT {x:Ar}:UG P L N n0 ⟨d, .HI x,g⟩ r t Q e ah (some true)=US P L N n0 r t Q ((fh .bs (ev e x)).map fun a=>(aG L e d a,ah)):=rfl
def R8 (L:List Nat) (e:Env) (ah:AH) (d:Option Nat):AV→Option (Env×AH)
 | .str l=>some (aG L e d (.cA ah.length 1 0 l.length),ah++[l.map b8])
 |_=>none
theorem VU {x:Ar}:UG P L N n0 ⟨d, .qn x,g⟩ r t Q e ah (some true)=US P L N n0 r t Q (R8 L e ah d (ev e x)):=by
 simp only [UG,bK];cases ev e x<;>rfl
theorem aa0 {neq:Bool} {x y:Ar}:UG P L N n0 ⟨d, .iq neq x y,g⟩ r t Q e ah (some true)=US P L N n0 r t Q ((Kj (ev e x) (ev e y)).map fun b=>(aG L e d (.bool (if neq then !b else b)),ah)):=rfl
theorem aa1 {mx:Bool} {x y:Ar}:UG P L N n0 ⟨d, .mm mx x y,g⟩ r t Q e ah (some true)=US P L N n0 r t Q ((HJ mx (ev e x) (ev e y)).map fun a=>(aG L e d a,ah)):=rfl
theorem YE {f:Nat} {cs:List Ar}:UG P L N n0 ⟨d, .UU f cs,g⟩ r t Q e ah (some true)=U P L N n0 (It.ops r::t) Q Exit.normal (aG L e d (.fn f (cs.map (ev e)))) ah:=rfl
def uq:AV→Option Nat
 | .int _ i=>if 0≤i then some i.toNat else none
 |_=>none
theorem acN {dflt:Nat}:l7 e dflt none=some dflt:=rfl
theorem R9 {dflt:Nat} {x:Ar}:l7 e dflt (some x)=uq (ev e x):=by
 simp only [l7];cases ev e x<;>rfl
def Nh (L:List Nat) (e:Env) (ah:AH) (d:Option Nat) (l:List UInt8):Option Nat→Option Nat→Option (Env×AH)
 |some i,some j=>if i≤j∧j≤l.length then some (aG L e d (.str ((l.take j).drop i)),ah) else none
 |_,_=>none
def Ni (L:List Nat) (e:Env) (ah:AH) (d:Option Nat) (lo hi:Option Ar):AV→Option (Env×AH)
 | .str l=>Nh L e ah d l (l7 e 0 lo) (l7 e l.length hi)
 |_=>none
theorem YF {x:Ar} {lo hi:Option Ar}:UG P L N n0 ⟨d, .gT x lo hi,g⟩ r t Q e ah (some true)=US P L N n0 r t Q (Ni L e ah d lo hi (ev e x)):=by
 simp only [UG,bK]
 cases ev e x with
 |str l=>simp only [Ni,Nh];cases l7 e 0 lo<;>cases l7 e l.length hi<;>rfl
 |_=>rfl
def Nj (L:List Nat) (e:Env) (ah:AH) (d:Option Nat) (k k':Nat) (xs:List AV):Option Nat→Option Nat→Option (Env×AH)
 |some i,some j=>if k'=k∧i≤j∧j≤xs.length then some (aG L e d (.sl .n k ((xs.take j).drop i)),ah) else none
 |_,_=>none
def Nk (L:List Nat) (e:Env) (ah:AH) (d:Option Nat) (k:Nat) (lo hi:Option Ar):AV→Option (Env×AH)
 | .sl _ k' xs=>Nj L e ah d k k' xs (l7 e 0 lo) (l7 e xs.length hi)
 |_=>none
theorem YG {k:Nat} {x:Ar} {lo hi:Option Ar}:UG P L N n0 ⟨d, .slc k x lo hi none,g⟩ r t Q e ah (some true)=US P L N n0 r t Q (Nk L e ah d k lo hi (ev e x)):=by
 simp only [UG,bK]
 cases ev e x with
 |sl t k' xs=>simp only [Nk,Nj];cases l7 e 0 lo<;>cases l7 e xs.length hi<;>rfl
 |_=>rfl
def F5 (L:List Nat) (e:Env) (ah:AH) (d:Option Nat) (k k':Nat) (xs:List AV):Option Nat→Option Nat→Option Nat→Option (Env×AH)
 |some i,some j,some m=>if k'=k∧i≤j∧j=m∧m≤xs.length then some (aG L e d (.sl .ex k ((xs.take j).drop i)),ah) else none
 |_,_,_=>none
def F6 (L:List Nat) (e:Env) (ah:AH) (d:Option Nat) (k:Nat) (lo:Option Ar) (hi m:Ar):AV→Option (Env×AH)
 | .sl _ k' xs=>F5 L e ah d k k' xs (l7 e 0 lo) (l7 e xs.length (some hi)) (l7 e 0 (some m))
 |_=>none
theorem VV {k:Nat} {x:Ar} {lo:Option Ar} {hi m:Ar}:UG P L N n0 ⟨d, .slc k x lo (some hi) (some m),g⟩ r t Q e ah (some true)=US P L N n0 r t Q (F6 L e ah d k lo hi m (ev e x)):=by
 simp only [UG,bK]
 cases ev e x with
 |sl t k' xs=>
  simp only [F6,F5]
  cases l7 e 0 lo with
  |none=>rfl
  |some i=>
   cases l7 e xs.length (some hi) with
   |none=>rfl
   |some j=>
    simp only [Option.isNone_some,Bool.false_eq_true,if_false]
    cases l7 e 0 (some m)<;>rfl
 |_=>rfl
def Nl (L:List Nat) (e:Env) (ah:AH) (d:Option Nat) (k k':Nat):Option AV→Option (Env×AH)
 |some a=>if k'=k then some (aG L e d (.ep a 0),ah) else none
 |none=>none
def y9 (L:List Nat) (e:Env) (ah:AH) (d:Option Nat) (k:Nat):AV→AV→Option (Env×AH)
 | .sl _ k' xs, .int _ i=>if 0≤i then Nl L e ah d k k' (xs[i.toNat]?) else none
 | .cA s k' p n, .int _ i=>if 0≤i∧i<n∧k'=k then some (aG L e d (.ptr s (p+i.toNat*k)),ah) else none
 | .cv s k' n _, .int _ i=>if 0≤i∧i<n∧k'=k then some (aG L e d (.ptr s (i.toNat*k)),ah) else none
 |_,_=>none
def Ij (L:List Nat) (e:Env) (ah:AH) (d:Option Nat) (k m:Nat):AV→AV→Option (Env×AH)
 | .ptr s p, .int _ i=>if 0≤i∧i<m then some (aG L e d (.ptr s (p+i.toNat*k)),ah) else none
 | .ep a p, .int _ i=>if 0≤i∧i<m then some (aG L e d (.ep a (p+i.toNat*k)),ah) else none
 |_,_=>none
theorem YH {k m:Nat} {x i:Ar}:UG P L N n0 ⟨d, .UW k m x i,g⟩ r t Q e ah (some true)=US P L N n0 r t Q (Ij L e ah d k m (ev e x) (ev e i)):=by
 simp only [UG,bK]
 cases ev e x with
 |ptr s p=>cases ev e i<;>rfl
 |ep a p=>cases ev e i<;>rfl
 |_=>cases ev e i<;>rfl
def Nn (L:List Nat) (e:Env) (ah:AH) (d:Option Nat) (u k:Nat) (xs:List AV):AV→Option (Env×AH)
 | .sl .own k2 zs=>if k2=k then some (aG L (put e u (.sl .n k2 zs)) d (.sl .own k xs),ah) else none
 |_=>none
def Ik (L:List Nat) (e:Env) (ah:AH) (d:Option Nat) (k:Nat):AV→Option (Env×AH)
 | .sl .ex k' []=>if k'=k then some (aG L e d (.cv 0 k 0 0),ah) else none
 | .cv s k' n c=>some (aG L e d (.cv s k' n c),ah)
 | .sl (.fr (.tmp u)) k' xs=>Nn L e ah d u k' xs (get e u)
 |_=>none
theorem YI {k:Nat} {x:Ar}:UG P L N n0 ⟨d, .Aa k x,g⟩ r t Q e ah (some true)=US P L N n0 r t Q (Ik L e ah d k (ev e x)):=by
 simp only [UG,bK]
 cases ev e x with
 |sl t k' xs=>cases t<;>cases xs<;>rfl
 |_=>rfl
theorem YJ {k:Nat} {x i:Ar}:UG P L N n0 ⟨d, .wI k x i,g⟩ r t Q e ah (some true)=US P L N n0 r t Q (y9 L e ah d k (ev e x) (ev e i)):=by
 simp only [UG,bK]
 cases ev e x with
 |sl t k' xs=>cases ev e i with
  |int ki n=>simp only [y9,Nl];cases xs[n.toNat]? <;>rfl
  |_=>rfl
 |cA s k' p n=>cases ev e i<;>rfl
 |cv s k' n c=>cases ev e i<;>rfl
 |_=>cases ev e i<;>rfl
def Sa (L:List Nat) (e:Env) (ah:AH) (d:Option Nat):Option UInt8→Option (Env×AH)
 |some c=>some (aG L e d (b8 c),ah)
 |none=>none
def Il (L:List Nat) (e:Env) (ah:AH) (d:Option Nat):AV→AV→Option (Env×AH)
 | .str l, .int _ i=>if 0≤i then Sa L e ah d (l[i.toNat]?) else none
 |_,_=>none
theorem YK {x i:Ar}:UG P L N n0 ⟨d, .ixs x i,g⟩ r t Q e ah (some true)=US P L N n0 r t Q (Il L e ah d (ev e x) (ev e i)):=by
 simp only [UG,bK]
 cases ev e x with
 |str l=>cases ev e i with
  |int ki n=>simp only [Il,Sa];cases l[n.toNat]? <;>rfl
  |_=>rfl
 |_=>cases ev e i<;>rfl
theorem acv {l:List UInt8} {i j:Nat}:Nh L e ah d l (some i) (some j)=if i≤j∧j≤l.length then some (aG L e d (.str ((l.take j).drop i)),ah) else none:=rfl
theorem acw {k k' i j:Nat} {xs:List AV}:Nj L e ah d k k' xs (some i) (some j)=if k'=k∧i≤j∧j≤xs.length then some (aG L e d (.sl .n k ((xs.take j).drop i)),ah) else none:=rfl
theorem aa2 {k k' i j m:Nat} {xs:List AV}:F5 L e ah d k k' xs (some i) (some j) (some m)=if k'=k∧i≤j∧j=m∧m≤xs.length then some (aG L e d (.sl .ex k ((xs.take j).drop i)),ah) else none:=rfl
theorem acy {k k':Nat} {a:AV}:Nl L e ah d k k' (some a)=if k'=k then some (aG L e d (.ep a 0),ah) else none:=rfl
theorem acz {c:UInt8}:Sa L e ah d (some c)=some (aG L e d (b8 c),ah):=rfl
theorem YL {n:Option Nat} {s p:Nat} {cs:List AV}:VS L d n s p e ah (some cs)=(lg n s p cs).map fun a=>(aG L e d a,ah):=rfl
theorem YM {c:AV}:Ot L d e ah (some c)=if c.flat then some (aG L e d c.s1,ah) else none:=rfl
theorem acA {α:Type} {c:Prop} [Decidable c] {x:Option α} (h:c):(if c then x else none)=x:=by rw [if_pos h]
theorem aa3 {α:Type} {c:Prop} [Decidable c] {x:Option α} (h:¬c):(if c then none else x)=x:=by rw [if_neg h]
theorem acO {x:Ar} {i:Nat}:UG P L N n0 ⟨d, .ext x i,g⟩ r t Q e ah (some true)=US P L N n0 r t Q (bK L ⟨d, .ext x i,none⟩ e ah):=by simp only [UG,vu L d _ g]
theorem acP {x:Ar}:UG P L N n0 ⟨d, .len x,g⟩ r t Q e ah (some true)=US P L N n0 r t Q (bK L ⟨d, .len x,none⟩ e ah):=by simp only [UG,vu L d _ g]
theorem acB {x:Ar}:UG P L N n0 ⟨d, .lens x,g⟩ r t Q e ah (some true)=US P L N n0 r t Q (bK L ⟨d, .lens x,none⟩ e ah):=by simp only [UG,vu L d _ g]
def Sb (L:List Nat) (e:Env) (ah:AH) (d:Option Nat) (k b:Nat) (x:Ar):AV→Option (Env×AH)
 | .sl _ k' ys=>if k'=k then w5 L e ah d k b x ys else none
 |_=>none
theorem YN {k b:Nat} {x y:Ar}:UG P L N n0 ⟨d, .app k b x y,g⟩ r t Q e ah (some true)=US P L N n0 r t Q (Sb L e ah d k b x (ev e y)):=by
 simp only [UG,bK];cases ev e y<;>rfl
def Sc (L:List Nat) (e:Env) (ah:AH) (d:Option Nat) (b:Nat) (x:Ar):AV→Option (Env×AH)
 | .str l=>w5 L e ah d 1 b x (l.map b8)
 |_=>none
theorem VW {b:Nat} {x y:Ar}:UG P L N n0 ⟨d, .apps b x y,g⟩ r t Q e ah (some true)=US P L N n0 r t Q (Sc L e ah d b x (ev e y)):=by
 simp only [UG,bK];cases ev e y<;>rfl
theorem VX {f:Ar} {zq:List Ar}:UG P L N n0 ⟨d, .call f zq,g⟩ r t Q e ah (some true)=UF P L N n0 zq d r t Q e ah (ev e f):=rfl
theorem aa4 {o:aL} {b:Bool}:UG P L N n0 o r t Q e ah (some b)=if b then (UG P L N n0 o r t Q e ah (some true)) else U P L N n0 (.ops r::t) Q .normal (oG e o.d) ah:=by
 cases b<;>rfl
theorem aat {o:aL} {b:Bool} (h1:b=true→UG P L N n0 o r t Q e ah (some true)) (h2:b=false→U P L N n0 (.ops r::t) Q .normal (oG e o.d) ah):UG P L N n0 o r t Q e ah (some b):=by
 cases b
 · exact h2 rfl
 · exact h1 rfl
end
end Go.Am
namespace Go.Am
open Go
variable [Tabs]
theorem l8.set {n:Nat} {ah:AH} (h:l8 n ah) {s:Nat} {cs:List AV} (hc:∀a∈cs,Cl n a):l8 n (ah.set s cs):=by
 intro t ds ht a ha
 rw [List.getElem?_set] at ht
 split at ht
 · split at ht
   · injection ht with ht;subst ht;exact hc a ha
   · cases ht
 · exact h t ds ht a ha
theorem KI.old {P:Program} {n:Nat} {rs:List ResultVar} {R:AV→AH→Prop} {x:Exit} {e:Env} {ah:AH} {vs:List AV} (hx:x= .normal∨x= .ret) (hr:gr P e ah rs=some vs)
 (hc:Cl n (fin vs)) (hh:l8 n ah) (hn:ah.length=n) (h:R (fin vs) ah):KI P n rs R x e ah:=by
 refine ⟨hx, ?_⟩
 rw [hr]
 have:ah.take n=ah:=List.take_of_length_le (by omega)
 simp only [this]
 exact ⟨hc,hh,by omega,h⟩
theorem w64 {n:Int} (h1: -9223372036854775808≤n) (h2:n≤9223372036854775807):IntKind.wrap .i64 n=n:=by
 simp only [IntKind.wrap,IntKind.bits,IntKind.signed,Bool.true_and,decide_eq_true_eq,Int.reducePow,Nat.reduceSub,ge_iff_le]
 split<;>omega
theorem w8 {n:Int} (h1:0≤n) (h2:n≤255):IntKind.wrap .u8 n=n:=by
 simp only [IntKind.wrap,IntKind.bits,IntKind.signed,Bool.false_and,if_false,Bool.false_eq_true]
 omega
theorem XC {j:Nat}:((j:Int)+1).toNat=j+1:=by omega
theorem acQ {P:Program} {L:List Nat} {N n0:Nat} {t:List It} {Q:Exit→Env→AH→Prop} {r:List aL} {c:Prop} [Decidable c] {x:Option (Env×AH)} (h:c):
 US P L N n0 r t Q (if c then x else none)=US P L N n0 r t Q x:=by rw [if_pos h]
theorem map_if {α β:Type} {f:α→β} {c:Prop} [Decidable c] {x:Option α} (h:c):Option.map f (if c then x else none)=Option.map f x:=by rw [if_pos h]
theorem Im {L:List Nat} {d:Option Nat} {k b:Nat} {x y:Ar} {e:Env} {ah:AH} {K K':Env→AH→Prop} (h:oz L d k b x y e ah K) (hk:∀e ah,K e ah→K' e ah):oz L d k b x y e ah K':=by
 unfold oz at h ⊢
 split at h
 · obtain ⟨h1,h2,h3,h4,h5,h6⟩:=h
   refine ⟨h1,h2,h3,h4,h5, ?_⟩
   rcases h6 with ⟨g1,g2,g3⟩|⟨cs,g1,g2,g3,g4,g5,g6,g7⟩
   · exact .inl ⟨g1,g2,fun c hc=>hk _ _ (g3 c hc)⟩
   · exact .inr ⟨cs,g1,g2,g3,g4,g5,fun h=>hk _ _ (g6 h),fun h c hc=>hk _ _ (g7 h c hc)⟩
 · exact h
theorem Ou {L:List Nat} {d:Option Nat} {n:Bool} {x:Ar} {e:Env} {ah:AH} {K K':Env→AH→Prop} (h:Cp L d n x e ah K) (hk:∀e ah,K e ah→K' e ah):Cp L d n x e ah K':=by
 unfold Cp at h ⊢
 split at h
 · exact ⟨fun h0 b=>hk _ _ (h.1 h0 b),fun h0=>hk _ _ (h.2 h0)⟩
 · exact h
theorem KL {P:Program} {L:List Nat}:∀(l:List aL) {K K':Env→AH→Prop} {e:Env} {ah:AH},ey P L l e ah K→(∀e ah,K e ah→K' e ah)→ey P L l e ah K':=by
 intro l
 induction l with
 |nil=>intro K K' e ah h hk;exact hk _ _ h
 |cons o r ih=>
  intro K K' e ah h hk
  simp only [ey] at h ⊢
  split at h
  · rename_i hg
    obtain ⟨d,op,g⟩:=o
    cases op with
    |call f zq=>
     simp only [yZ] at h ⊢
     split at h
     · exact ⟨h.1,h.2.mono fun v aE h=>ih h hk⟩
     · exact h
    |me k b x y=>
     have h':oz L d k b x y e ah (fun e ah=>ey P L r e ah K):=h
     exact Im h' fun e ah h=>ih h hk
    |nq n x=>
     have h':Cp L d n x e ah (fun e ah=>ey P L r e ah K):=h
     exact Ou h' fun e ah h=>ih h hk
    |_=>
     simp only [yZ] at h ⊢
     split at h
     · exact ih h hk
     · exact h
  · exact ih h hk
  · exact h
theorem Io {P:Program} {L:List Nat} {N n0:Nat}:∀(c:av) {Q Q':Exit→Env→AH→Prop} {e:Env} {ah:AH},jW P L N n0 c Q e ah→(∀x e ah,Q x e ah→Q' x e ah)→jW P L N n0 c Q' e ah:=by
 intro c
 induction c with
 |skip=>intro Q Q' e ah h hq;exact hq _ _ _ h
 |ret=>intro Q Q' e ah h hq;exact hq _ _ _ h
 |exit i=>intro Q Q' e ah h hq;exact hq _ _ _ h
 |rg ops=>intro Q Q' e ah h hq;exact KL ops h fun e ah h=>hq _ _ _ h
 |seq a b CN CO=>
  intro Q Q' e ah h hq
  refine CN h fun x e ah h=> ?_
  cases x with
  |normal=>exact CO h hq
  |_=>exact hq _ _ _ h
 |cond c a b CN CO=>
  intro Q Q' e ah h hq
  simp only [jW] at h ⊢
  split at h
  · split at h
    · rename_i h1;rw [if_pos h1];exact CN h hq
    · rename_i h1;rw [if_neg h1];exact CO h hq
  · exact h.elim
 |blk i c ih=>
  intro Q Q' e ah h hq
  refine ih h fun x e ah h=> ?_
  cases x with
  |exit j=>
   simp only at h ⊢
   split at h
   · rename_i h1;rw [if_pos h1];exact hq _ _ _ h
   · rename_i h1;rw [if_neg h1];exact hq _ _ _ h
  |_=>exact hq _ _ _ h
 |loop c ih=>
  intro Q Q' e ah h hq
  exact fun c' b6=>(h c' b6).mono hq
 |sem c ih=>
  intro Q Q' e ah h hq
  exact fun c' b6=>(h c' b6).mono hq
theorem VY {P:Program} {L:List Nat} {N n0:Nat} {c:av} {Q Q':Exit→Env→AH→Prop} {e:Env} {ah:AH} (h:U P L N n0 [.code c] Q .normal e ah) (hq:∀x e ah,Q x e ah→Q' x e ah):U P L N n0 [.code c] Q' .normal e ah:=
 Io c h hq
theorem Sd {e e2:Env} (h:∀p∈e2,p.2= .un∨Am.get e p.1=p.2∨∃t k xs,Am.get e p.1= .sl t k xs∧p.2= .sl .n k xs):∀t,Wk (Am.get e t) (Am.get e2 t):=by
 intro t
 have key:∀e2:Env,Am.get e2 t= .un∨∃p∈e2,p.1=t∧Am.get e2 t=p.2:=by
  intro e2
  induction e2 with
  |nil=>exact .inl rfl
  |cons p r ih=>
   obtain ⟨i,a⟩:=p
   simp only [Am.get]
   split
   · rename_i h;exact .inr ⟨(i,a),by simp,h,rfl⟩
   · rcases ih with h|⟨p,hp,h1,h2⟩
     · exact .inl h
     · exact .inr ⟨p,List.mem_cons_of_mem _ hp,h1,h2⟩
 rcases key e2 with h0|⟨p,hp,rfl,h2⟩
 · rw [h0];exact .un _
 · rw [h2]
   rcases h p hp with h3|h3|⟨tg,k,xs,h3,h4⟩
   · rw [h3];exact .un _
   · rw [h3];exact .same _
   · rw [h3,h4];exact .n ..
def Aj (e e2:Env):Prop:=∀p∈e2,p.2= .un∨Am.get e p.1=p.2∨∃t k xs,Am.get e p.1= .sl t k xs∧p.2= .sl .n k xs
theorem Ov {P:Program} {L:List Nat} {N n0:Nat} {e:Env} {ah:AH} {t:List It} {Q:Exit→Env→AH→Prop} {c:av} (J:Nat→Env→AH→Prop) (k0:Nat) (e0:Env) (ho:qb N c=true)
 (hw:∀p∈e0,p.2= .un∨Am.get e p.1=p.2∨∃t k xs,Am.get e p.1= .sl t k xs∧p.2= .sl .n k xs) (h0:J k0 e0 ah)
 (round:∀k e ah,J k e ah→U P L N n0 [.code c] (fun x e' aE=>match x with
  | .normal=>∃k' e2,k'<k∧(∀p∈e2,p.2= .un∨Am.get e' p.1=p.2∨∃t k xs,Am.get e' p.1= .sl t k xs∧p.2= .sl .n k xs)∧J k' e2 aE
  |x=>U P L N n0 t Q x e' aE) .normal e ah):
 UX P L N n0 (.loop c) t Q e ah:=by
 intro c'
 induction c' with
 |loop c0 _=>
  intro b6
  simp only [bL,Option.map_eq_some_iff] at b6
  obtain ⟨a,ha,he⟩:=b6
  injection he with he
  subst he
  refine AW.loop (fun k e ah=>∃e1,(∀t,Wk (Am.get e t) (Am.get e1 t))∧J k e1 ah) (k0:=k0) ?_ ⟨e0,Sd hw,h0⟩
  rintro k e ah ⟨e1,hw1,hJ⟩
  refine AW.weak hw1 (ov c0 a _ e1 ah (by rw [ju c0 a ha];exact ha) (by rw [ju c0 a ha];exact ho) ?_)
  have:=round k e1 ah hJ
  refine VY this fun x e' aE h=> ?_
  cases x with
  |normal=>obtain ⟨k',e2,h1,h2,h3⟩:=h;exact ⟨k',h1,e2,Sd h2,h3⟩
  |_=>exact h
 |scope c0 ih=>exact fun b6=>AW.scope (ih b6)
 |region id ops draw=>intro b6;simp only [bL] at b6;repeat' (split at b6)<;>simp at b6
 |block i c0=>intro b6;simp only [bL,Option.map_eq_some_iff] at b6;obtain ⟨a, -,h⟩:=b6;cases h
 |seq a b=>intro b6;simp only [bL] at b6;split at b6<;>simp at b6
 |cond a b c=>intro b6;simp only [bL] at b6;split at b6<;>simp at b6
 |_=>intro b6;simp [bL] at b6
theorem aau {P:Program} {L:List Nat} {N n0:Nat} {e:Env} {ah:AH} {t:List It} {Q:Exit→Env→AH→Prop} {c:av} (J:Nat→Env→AH→Prop) (k0:Nat) (e0:Env) (ho:qb N c=true)
 (hw:Aj e e0) (h0:J k0 e0 ah)
 (round:∀(K:Exit→Env→AH→Prop) k e ah,J k e ah→(∀k' e' e2 aE,k'<k→Aj e' e2→J k' e2 aE→K .normal e' aE)→(∀e' aE,U P L N n0 t Q .ret e' aE→K .ret e' aE)→
  (∀i e' aE,U P L N n0 t Q (.exit i) e' aE→K (.exit i) e' aE)→U P L N n0 [.code c] K .normal e ah):UX P L N n0 (.loop c) t Q e ah:=
 Ov J k0 e0 ho hw h0 fun k e ah hJ=>round _ k e ah hJ (fun k' e' e2 aE h1 h2 h3=>⟨k',e2,h1,h2,h3⟩) (fun _ _ h=>h) (fun _ _ _ h=>h)
theorem Aj.nil {e:Env}:Aj e []:=by intro p hp;cases hp
theorem Aj.same {e r:Env} {i:Nat} {a:AV} (h:Am.get e i=a) (hr:Aj e r):Aj e ((i,a)::r):=by
 intro p hp
 rcases List.mem_cons.1 hp with rfl|hp
 · exact .inr (.inl h)
 · exact hr p hp
theorem Aj.un {e r:Env} {i:Nat} (hr:Aj e r):Aj e ((i, .un)::r):=by
 intro p hp
 rcases List.mem_cons.1 hp with rfl|hp
 · exact .inl rfl
 · exact hr p hp
theorem Aj.sl {e r:Env} {i k:Nat} {tg:Tg} {xs:List AV} (h:Am.get e i= .sl tg k xs) (hr:Aj e r):Aj e ((i, .sl .n k xs)::r):=by
 intro p hp
 rcases List.mem_cons.1 hp with rfl|hp
 · exact .inr (.inr ⟨_,_,_,h,rfl⟩)
 · exact hr p hp
theorem aF.weak {P:Program} {f:Nat} {args args':List AV} {ah:AH} {R:AV→AH→Prop} (hl:args'.length=args.length) (hw:∀(i:Nat) (a a':AV),args[i]? =some a→args'[i]? =some a'→Wk a a') (h:aF P f args' ah R):
 aF P f args ah R:=by
 refine ⟨h.1,fun F γ C w vs hs=>h.2 F γ C w vs ?_⟩
 rw [hl]
 refine hs.wk fun t=> ?_
 rw [eA,eA]
 simp only [Nat.zero_le,if_true,Nat.sub_zero]
 cases h1:args[t]? with
 |none=>
  have:args'[t]? =none:=by
   rw [List.getElem?_eq_none_iff] at h1 ⊢
   omega
  rw [this];exact .same _
 |some a=>
  have hlt:t<args'.length:=by rw [hl];exact (List.getElem?_eq_some_iff.1 h1).1
  rw [List.getElem?_eq_getElem hlt]
  exact hw t a _ h1 (List.getElem?_eq_getElem hlt)
theorem Ip:∀l:List UInt8,bytesOf (l.map b8)=some l:=by
 intro l
 induction l with
 |nil=>rfl
 |cons c r ih=>
  simp only [List.map_cons,b8,bytesOf]
  rw [ih]
  simp
theorem Ox {ah:AH} {i:Nat} {x:List AV} (h:ah[i]? =some x):ah.set i x=ah:=by
 have hlt:=(List.getElem?_eq_some_iff.1 h).1
 apply List.ext_getElem?
 intro j
 rw [List.getElem?_set]
 split
 · rename_i hj;subst hj;simp only [h,ite_eq_left_iff];try exact fun h0=>absurd hlt h0
 · rfl
theorem KI.new {P:Program} {n:Nat} {rs:List ResultVar} {R:AV→AH→Prop} {x:Exit} {e:Env} {ah aE:AH} {vs:List AV} (hx:x= .normal∨x= .ret) (hr:gr P e ah rs=some vs) (ht:ah.take n=aE)
 (hc:Cl n (fin vs)) (hh:l8 n aE) (hn:n≤ah.length) (h:R (fin vs) aE):KI P n rs R x e ah:=by
 refine ⟨hx, ?_⟩
 rw [hr]
 simp only [ht]
 exact ⟨hc,hh,hn,h⟩
theorem Ak {P:Program} {e:Env} {ah:AH}:gr P e ah []=some []:=rfl
theorem wC {P:Program} {e:Env} {ah:AH} {t:Nat} {rs:List ResultVar} {a:AV} {vs:List AV} (h:Am.get e t=a) (ht:a.eH=false) (hr:gr P e ah rs=some vs):gr P e ah (.tmp t::rs)=some (a::vs):=by
 subst h
 simp only [gr,ht,hr,Bool.false_eq_true,if_false]
theorem bh {P:Program} {e:Env} {ah:AH} {a:Nat} {ty:TypeId} {n:Option Nat} {rs:List ResultVar} {s o:Nat} {cs vs:List AV} {v:AV} (ht:tok P ty=true) (hn:tn P ty=n) (h:Am.get e a= .ptr s o) (hs:ah[s]? =some cs)
 (hl:lg n s o cs=some v) (hr:gr P e ah rs=some vs):gr P e ah (.cell a ty::rs)=some (v.sh::vs):=by
 subst hn
 simp only [gr,ht,if_true,h,hs,hl,hr]
theorem aF.wkR {P:Program} {f:Nat} {args:List AV} {ah:AH} {R R':AV→AH→Prop} (h:aF P f args ah R) (hr:∀r aE,R r aE→∃r',Wk r r'∧R' r' aE):aF P f args ah R':=by
 refine ⟨h.1,fun F γ C w vs hs=>(h.2 F γ C w vs hs).mono ?_⟩
 rintro en w' ⟨r,v,aE,γ',C',rfl,h1,h2,h3,h4⟩
 obtain ⟨r',g1,g2⟩:=hr r aE h1
 refine ⟨r',v,aE,γ',C',rfl,g2,h2,h3.wk fun t=> ?_,h4⟩
 simp only [Am.get]
 split
 · exact g1
 · exact .same _
theorem Cl.up {n:Nat} {a:AV} (h:Cl n a) {m:Nat} (hm:n≤m):Cl m a:=by
 induction h with
 |ptr s o hs=>exact .ptr _ _ (by omega)
 |fn f cs _ ih=>exact .fn _ _ fun a ha=>ih a ha
 |agg cs _ ih=>exact .agg _ fun a ha=>ih a ha
 |bz cs _ ih=>exact .bz _ fun a ha=>ih a ha
 |v=>exact .v _
 |int=>exact .int ..
 |bool=>exact .bool _
 |str=>exact .str _
 |sl=>exact .sl ..
 |ep=>exact .ep ..
 |cA s k o n hs=>exact .cA _ _ _ _ (by omega)
 |qp=>exact .qp ..
 |cv s k o n hs=>exact .cv _ _ _ _ (by omega)
 |dN=>exact .dN
 |un=>exact .un
theorem l8.up {n m:Nat} {ah:AH} (h:l8 n ah) (hm:n≤m):l8 m ah:=fun s cs hs a ha=>(h s cs hs a ha).up hm
theorem l8.app {n:Nat} {ah sB:AH} (h:l8 n ah) (h2:l8 n sB):l8 n (ah++sB):=by
 intro s cs hs a ha
 rw [List.getElem?_append] at hs
 split at hs
 · exact h s cs hs a ha
 · exact h2 _ cs hs a ha
theorem l8.one {n:Nat} {cs:List AV} (h:∀a∈cs,Cl n a):l8 n [cs]:=by
 intro s ds hs a ha
 rcases s with _|s
 · simp at hs;subst hs;exact h a ha
 · simp at hs
end Go.Am
end
section
namespace Go.Am
open Go
variable [Tabs]
def W1 (a a':AV):Prop:=a'=a∨∃t k xs,a= .sl t k xs∧a'= .sl .n k xs
def gV:List AV→List AV→Prop
 |[],[]=>True
 |a::r,a'::r'=>W1 a a'∧gV r r'
 |_,_=>False
theorem gV.len:∀ {cs cs':List AV},gV cs cs'→cs'.length=cs.length:=by
 intro cs
 induction cs with
 |nil=>intro cs' h;cases cs' with|nil=>rfl|cons=>exact h.elim
 |cons a r ih=>intro cs' h;cases cs' with|nil=>exact h.elim|cons a' r'=>simp [ih h.2]
theorem gV.get:∀ {cs cs':List AV},gV cs cs'→∀(i:Nat) (a a':AV),cs[i]? =some a→cs'[i]? =some a'→W1 a a':=by
 intro cs
 induction cs with
 |nil=>intro cs' _ i a a' h;simp at h
 |cons a r ih=>
  intro cs' h i b b' h1 h2
  cases cs' with
  |nil=>exact h.elim
  |cons a' r'=>
   rcases i with _|i
   · simp at h1 h2;subst h1;subst h2;exact h.1
   · exact ih h.2 i b b' (by simpa using h1) (by simpa using h2)
def W2 (a a':AV):Prop:=W1 a a'∨∃ds ds',a= .agg ds∧a'= .agg ds'∧gV ds ds'
def nZ:List AV→List AV→Prop
 |[],[]=>True
 |a::r,a'::r'=>W2 a a'∧nZ r r'
 |_,_=>False
theorem nZ.len:∀ {cs cs':List AV},nZ cs cs'→cs'.length=cs.length:=by
 intro cs
 induction cs with
 |nil=>intro cs' h;cases cs' with|nil=>rfl|cons=>exact h.elim
 |cons a r ih=>intro cs' h;cases cs' with|nil=>exact h.elim|cons a' r'=>simp [ih h.2]
theorem nZ.get:∀ {cs cs':List AV},nZ cs cs'→∀(i:Nat) (a a':AV),cs[i]? =some a→cs'[i]? =some a'→W2 a a':=by
 intro cs
 induction cs with
 |nil=>intro cs' _ i a a' h;simp at h
 |cons a r ih=>
  intro cs' h i b b' h1 h2
  cases cs' with
  |nil=>exact h.elim
  |cons a' r'=>
   rcases i with _|i
   · simp at h1 h2;subst h1;subst h2;exact h.1
   · exact ih h.2 i b b' (by simpa using h1) (by simpa using h2)
theorem W2.wk {a a':AV} (h:W2 a a'):Wk a a':=by
 rcases h with (rfl|⟨t,k,xs,rfl,rfl⟩)|⟨ds,ds',rfl,rfl,h⟩
 · exact .same _
 · exact .n ..
 · exact .agg _ _ h.len h.get
theorem W2.tcy {a a':AV} {v:Value} (h:W2 a a') (ht:FP a v):FP a' v:=by
 rcases h with (rfl|⟨t,k,xs,rfl,rfl⟩)|⟨ds,ds',rfl,rfl,h⟩
 · exact ht
 · exact Rh ..
 · cases v with
   |agg vs=>
    intro i a' hi
    have hlt:i<ds.length:=by rw [←h.len];exact (List.getElem?_eq_some_iff.1 hi).1
    rcases h.get i _ _ (List.getElem?_eq_getElem hlt) hi with e|⟨t,k,xs,e1,rfl⟩
    · rw [e];exact ht i _ (List.getElem?_eq_getElem hlt)
    · exact FQ ..
   |_=>trivial
inductive Wx:AV→AV→Prop
 |wk (a a'):Wk a a'→(∀l k xs,a'≠ .sl (.fr l) k xs)→Wx a a'
 |own (k xs):Wx (.sl .ex k xs) (.sl .own k xs)
 |No (cs cs'):nZ cs cs'→Wx (.bz cs) (.bz cs')
def vB (cs cs':List AV):Prop:=cs'.length=cs.length∧∀(i:Nat) (a a':AV),cs[i]? =some a→cs'[i]? =some a'→Wx a a'
def gu (ah aE:AH):Prop:=aE.length=ah.length∧∀(s:Nat) (cs':List AV),aE[s]? =some cs'→∃cs,ah[s]? =some cs∧(cs'=cs∨vB cs cs')
def WS (e:Env) (ah:AH) (e1:Env) (bU:AH):Prop:=(∀t,Wx (get e t) (get e1 t))∧gu ah bU
theorem Wx.vr {C:Nat→List Value} {γ:List Nat} {a a':AV} {v:Value} (hw:Wx a a') (h:VR C γ a v):VR C γ a' v:=by
 cases hw with
 |wk _ _ hk=>exact hk.vr h
 |own=>exact h.jV _
 |No cs cs' hc=>
  obtain ⟨vs,rfl,hs,hv⟩:=h.vg
  refine .bz _ _ _ (by rw [hc.len];exact hs) fun i a' hi=> ?_
  have hlt:i<cs.length:=by rw [←hc.len];exact (List.getElem?_eq_some_iff.1 hi).1
  exact (hc.get i _ _ (List.getElem?_eq_getElem hlt) hi).wk.vr (hv i _ (List.getElem?_eq_getElem hlt))
theorem Wx.tc {w:World} {C:Nat→List Value} {γ:List Nat} {a a':AV} {v:Value} (hw:Wx a a') (hv:VR C γ a v) (h:TC w C a v):TC w C a' v:=by
 cases hw with
 |wk _ _ hk=>exact hk.tc h
 |own k xs=>
  obtain ⟨ad,c,rfl, -⟩:=hv.e7
  exact .inl h
 |No cs cs' hc=>
  obtain ⟨vs,rfl, -, -⟩:=hv.vg
  intro i a' hi
  have hlt:i<cs.length:=by rw [←hc.len];exact (List.getElem?_eq_some_iff.1 hi).1
  exact (hc.get i _ _ (List.getElem?_eq_getElem hlt) hi).tcy (h i _ (List.getElem?_eq_getElem hlt))
theorem Wx.bS {w:World} {C:Nat→List Value} {γ:List Nat} {a a':AV} {v:Value} {b:Nat} (hw:Wx a a') (hv:VR C γ a v) (ht:TC w C a v) (h:bS a' v=some b):Am.bS a v=some b:=by
 cases hw with
 |wk _ _ hk=>exact hk.own h
 |own k xs=>
  obtain ⟨ad,c,rfl, -⟩:=hv.e7
  have hc:c=xs.length:=ht
  subst hc
  cases ad<;>simp [Am.bS] at h
 |No=>simp [Am.bS] at h
theorem SR.wx {L N F γ C e ah ts w} (h:SR L N F γ C e ah ts w) {e':Env} {aE:AH} (hw:WS e ah e' aE):SR L N F γ C e' aE ts w:=by
 obtain ⟨he,hl,hh⟩:=hw
 have hb:∀p b,blk γ e' aE ts w p b→blk γ e ah ts w p b:=by
  intro p b hp
  cases p with
  |obj s=>exact hp
  |tmp t=>exact (he t).bS (h.env t).1 (h.env t).2 hp
  |cell s i=>
   obtain ⟨cs',a',b0,h1,h2,h3,h4⟩:=hp
   obtain ⟨cs,g1,g2⟩:=hh s cs' h1
   rcases g2 with rfl|⟨g2,g3⟩
   · exact ⟨_,a',b0,g1,h2,h3,h4⟩
   · have hlt:i<cs.length:=by rw [←g2];exact (List.getElem?_eq_some_iff.1 h2).1
     have h0:cs[i]? =some cs[i]:=List.getElem?_eq_getElem hlt
     refine ⟨cs,cs[i],b0,g1,h0,h3, ?_⟩
     obtain ⟨vs,ty,q1,q2,q3⟩:=h.mem.obj s b0 cs g1 h3
     have hc:(w.cell? ⟨b0,i,none⟩).getD undef=vs.getD i undef:=by
      rw [dA q1];simp [Array.getD_eq_getD_getElem?]
     rw [hc] at h4 ⊢
     exact (g3 i _ _ h0 h2).bS (q3 i _ h0).1 (q3 i _ h0).2 h4
 refine ⟨⟨by rw [h.mem.len,hl],fun s b cs' h1 h2=> ?_,h.mem.vi,fun s b cs' h1 hne h2=> ?_,fun s b cs' us ty fr h1 h2 h3=> ?_⟩,h.sz,fun t=>⟨(he t).vr (h.env t).1,(he t).tc (h.env t).1 (h.env t).2⟩,fun p q b hp hq=>h.ew p q b (hb p b hp) (hb q b hq),
  fun p b hp=>h.nf p b (hb p b hp),h.k9,fun t l k xs ht=> ?_⟩
 · obtain ⟨cs,g1,g2⟩:=hh s cs' h1
   obtain ⟨vs,ty,q1,q2,q3⟩:=h.mem.obj s b cs g1 h2
   rcases g2 with rfl|⟨g2,g3⟩
   · exact ⟨vs,ty,q1,q2,q3⟩
   · refine ⟨vs,ty,q1,by omega,fun i a' hi=> ?_⟩
     have hlt:i<cs.length:=by rw [←g2];exact (List.getElem?_eq_some_iff.1 hi).1
     have h0:cs[i]? =some cs[i]:=List.getElem?_eq_getElem hlt
     exact ⟨(g3 i _ _ h0 hi).vr (q3 i _ h0).1,(g3 i _ _ h0 hi).tc (q3 i _ h0).1 (q3 i _ h0).2⟩
 · obtain ⟨cs,g1,g2⟩:=hh s cs' h1
   refine h.mem.uo s b cs g1 ?_ h2
   rintro rfl
   rcases g2 with rfl|⟨g2, -⟩
   · exact hne rfl
   · exact hne (List.eq_nil_of_length_eq_zero g2)
 · obtain ⟨cs,g1,g2⟩:=hh s cs' h1
   have hl':cs'.length=cs.length:=by
    rcases g2 with rfl|⟨g2, -⟩
    · rfl
    · exact g2
   rw [hl']
   exact h.mem.Ct s b cs us ty fr g1 h2 h3
 · exfalso
   have:=he t
   rw [ht] at this
   generalize get e t=a at this
   cases this with
   |wk _ _ _ hn=>exact hn l k xs rfl
theorem gu.refl (ah:AH):gu ah ah:=⟨rfl,fun s cs h=>⟨cs,h, .inl rfl⟩⟩
theorem gu.set {ah:AH} {q:Nat} {cs cs':List AV} (hq:ah[q]? =some cs) (hc:vB cs cs'):gu ah (ah.set q cs'):=by
 refine ⟨by simp,fun s ds hs=> ?_⟩
 rw [List.getElem?_set] at hs
 split at hs
 · rename_i h;subst h
   split at hs
   · injection hs with hs;subst hs;exact ⟨cs,hq, .inr hc⟩
   · cases hs
 · exact ⟨ds,hs, .inl rfl⟩
theorem Wx.un (a:AV):Wx a .un:= .wk _ _ (.un _) (by simp)
theorem Wx.n {t:Tg} {k:Nat} {xs:List AV}:Wx (.sl t k xs) (.sl .n k xs):= .wk _ _ (.n ..) (by simp)
theorem Wx.same {a:AV} (h:∀l k xs,a≠ .sl (.fr l) k xs):Wx a a:= .wk _ _ (.same _) h
theorem Wx.int {k:IntKind} {i:Int}:Wx (.int k i) (.int k i):= .same (by simp)
theorem Wx.b8 {c:UInt8}:Wx (b8 c) (b8 c):= .same (by simp [Am.b8])
theorem Wx.bool {b:Bool}:Wx (.bool b) (.bool b):= .same (by simp)
theorem Wx.str {l:List UInt8}:Wx (.str l) (.str l):= .same (by simp)
theorem Wx.ptr {s o:Nat}:Wx (.ptr s o) (.ptr s o):= .same (by simp)
theorem Wx.v {x:Value}:Wx (.v x) (.v x):= .same (by simp)
theorem Wx.fn {f:Nat} {cs:List AV}:Wx (.fn f cs) (.fn f cs):= .same (by simp)
theorem Wx.ep {a:AV} {o:Nat}:Wx (.ep a o) (.ep a o):= .same (by simp)
theorem Wx.ex {k:Nat} {xs:List AV}:Wx (.sl .ex k xs) (.sl .ex k xs):= .same (by simp)
theorem Wx.nn {k:Nat} {xs:List AV}:Wx (.sl .n k xs) (.sl .n k xs):= .same (by simp)
theorem Wx.oo {k:Nat} {xs:List AV}:Wx (.sl .own k xs) (.sl .own k xs):= .same (by simp)
theorem Wx.agg {cs cs':List AV} (h:gV cs cs'):Wx (.agg cs) (.agg cs'):= .wk _ _ (.agg _ _ h.len h.get) (by simp)
theorem Wx.bz {cs cs':List AV} (h:gV cs cs'):Wx (.bz cs) (.bz cs'):= .wk _ _ (.bz _ _ h.len h.get) (by simp)
theorem Wx.aa5 {cs cs':List AV} (h:nZ cs cs'):Wx (.bz cs) (.bz cs'):= .No _ _ h
theorem nZ.nil:nZ [] []:=trivial
theorem nZ.same {a:AV} {r r':List AV} (h:nZ r r'):nZ (a::r) (a::r'):=⟨.inl (.inl rfl),h⟩
theorem nZ.n {t:Tg} {k:Nat} {xs:List AV} {r r':List AV} (h:nZ r r'):nZ (.sl t k xs::r) (.sl .n k xs::r'):=⟨.inl (.inr ⟨_,_,_,rfl,rfl⟩),h⟩
theorem nZ.agg {ds ds':List AV} {r r':List AV} (hd:gV ds ds') (h:nZ r r'):nZ (.agg ds::r) (.agg ds'::r'):=⟨.inr ⟨_,_,rfl,rfl,hd⟩,h⟩
theorem gV.nil:gV [] []:=trivial
theorem gV.same {a:AV} {r r':List AV} (h:gV r r'):gV (a::r) (a::r'):=⟨.inl rfl,h⟩
theorem gV.n {t:Tg} {k:Nat} {xs:List AV} {r r':List AV} (h:gV r r'):gV (.sl t k xs::r) (.sl .n k xs::r'):=⟨.inr ⟨_,_,_,rfl,rfl⟩,h⟩
theorem vB.nil:vB [] []:=⟨rfl,fun i a a' h=>by simp at h⟩
theorem vB.cons {a a':AV} {r r':List AV} (h:Wx a a') (hr:vB r r'):vB (a::r) (a'::r'):=by
 refine ⟨by simp [hr.1],fun i b b' h1 h2=> ?_⟩
 rcases i with _|i
 · simp at h1 h2;subst h1;subst h2;exact h
 · exact hr.2 i b b' (by simpa using h1) (by simpa using h2)
def WE (e e1:Env):Prop:=∀p∈e1,Wx (Am.get e p.1) p.2
theorem WE.nil {e:Env}:WE e []:=by intro p hp;cases hp
theorem WE.cons {e r:Env} {i:Nat} {a:AV} (h:Wx (Am.get e i) a) (hr:WE e r):WE e ((i,a)::r):=by
 intro p hp
 rcases List.mem_cons.1 hp with rfl|hp
 · exact h
 · exact hr p hp
theorem WE.all {e e1:Env} (h:WE e e1):∀t,Wx (Am.get e t) (Am.get e1 t):=by
 intro t
 have key:∀e1:Env,Am.get e1 t= .un∨∃p∈e1,p.1=t∧Am.get e1 t=p.2:=by
  intro e1
  induction e1 with
  |nil=>exact .inl rfl
  |cons p r ih=>
   obtain ⟨i,a⟩:=p
   simp only [Am.get]
   split
   · rename_i h;exact .inr ⟨(i,a),by simp,h,rfl⟩
   · rcases ih with h|⟨p,hp,h1,h2⟩
     · exact .inl h
     · exact .inr ⟨p,List.mem_cons_of_mem _ hp,h1,h2⟩
 rcases key e1 with h0|⟨p,hp,rfl,h2⟩
 · rw [h0];exact Wx.un _
 · rw [h2];exact h p hp
section
variable {P:Program} {L:List Nat} {N n0:Nat} {e:Env} {ah:AH} {t:List It} {Q K:Exit→Env→AH→Prop} {r:List aL} {d:Option Nat}
theorem AW.F7 {c:Code} {e1:Env} {bU:AH} (hw:WS e ah e1 bU) (h:AW P L N n0 c Q e1 bU):AW P L N n0 c Q e ah:=
 fun F γ C ts w hs hn=>h F γ C ts w (hs.wx hw) hn
theorem AW.closed {c:Code} (h:AW P L N n0 c (fun x e ah=>Q x e ah∨∃e1 bU,WS e ah e1 bU∧Q x e1 bU) e ah):AW P L N n0 c Q e ah:=by
 intro F γ C ts w hs hn
 refine wp_mono (h F γ C ts w hs hn) ?_
 rintro x a w' ⟨hd,hg,e',aE,γ',C',h1,h2,h3,h4⟩
 rcases h1 with h1|⟨e1,bU,hw,h1⟩
 · exact ⟨hd,hg,e',aE,γ',C',h1,h2,h3,h4⟩
 · exact ⟨hd,hg,e1,bU,γ',C',h1,h2,h3.wx hw,h4⟩
theorem AX.weak {c:av} {e1:Env} {bU:AH} (he:WE e e1) (hh:gu ah bU) (h:AX P L N n0 c Q e1 bU):AX P L N n0 c Q e ah:=
 fun c' b6=>AW.F7 ⟨he.all,hh⟩ (h c' b6)
theorem AX.mono {c:av} {Q':Exit→Env→AH→Prop} (h:AX P L N n0 c Q e ah) (hq:∀x e ah,Q x e ah→Q' x e ah):AX P L N n0 c Q' e ah:=
 fun c' b6=>(h c' b6).mono hq
theorem AX.go {m c:av} (hm:erase m=c) (ho:qb N c=true)
 (h:∀K':Exit→Env→AH→Prop,(∀x e ah e1 bU,WE e e1→gu ah bU→K x e1 bU→K' x e ah)→U P L N n0 [.code m] K' .normal e ah):AX P L N n0 c K e ah:=by
 subst hm
 intro c' b6
 refine AW.closed (ov c' m _ e ah b6 ho (h _ ?_))
 intro x e ah e1 bU h1 h2 h3
 exact .inr ⟨e1,bU,⟨h1.all,h2⟩,h3⟩
theorem YO {c:av} (h:AX P L N n0 c (fun x e ah=>U P L N n0 t Q x e ah) e ah):UX P L N n0 c t Q e ah:=h
inductive St (ρ τ σ:Type) where
 |ret (r:ρ)
 |eg (t:τ)
 |cB (s:σ)
def iter {ρ τ σ:Type} (body:σ→Option (St ρ τ σ)):Nat→σ→Option (ρ⊕τ)
 |0,_=>none
 |n+1,s=>match body s with
  |none=>none
  |some (.ret r)=>some (.inl r)
  |some (.eg t)=>some (.inr t)
  |some (.cB s')=>iter body n s'
theorem AX.iter {ρ τ σ:Type} {body:σ→Option (St ρ τ σ)} {m c:av} (hm:erase m=c) (ho:qb N c=true) (J:σ→Env→AH→Prop) {F:Nat} {s0:σ} {o:ρ⊕τ} (hit:Am.iter body F s0=some o) (h0:J s0 e ah)
 (round:∀(K':Exit→Env→AH→Prop) s st e ah,J s e ah→body s=some st→
  (∀s',st= .cB s'→∀e' aE e1 bU,WE e' e1→gu aE bU→J s' e1 bU→K' .normal e' aE)→
  (∀t,st= .eg t→o= .inr t)→(∀r,st= .ret r→o= .inl r)→
  (∀x e' aE e1 bU,x≠ .normal→WE e' e1→gu aE bU→K x e1 bU→K' x e' aE)→U P L N n0 [.code m] K' .normal e ah):AX P L N n0 (.loop c) K e ah:=by
 subst hm
 intro c'
 induction c' with
 |loop c0 _=>
  intro b6
  simp only [bL,Option.map_eq_some_iff] at b6
  obtain ⟨a,ha,he⟩:=b6
  injection he with he
  subst he
  refine AW.loop (fun k e ah=>∃s e1 bU,WS e ah e1 bU∧J s e1 bU∧Am.iter body k s=some o∨(J s e ah∧Am.iter body k s=some o)) (k0:=F) ?_ ⟨s0,e,ah, .inr ⟨h0,hit⟩⟩
  have main:∀k s e ah,J s e ah→Am.iter body k s=some o→AW P L N n0 c0 (fun x e' aE=>match x with
   | .normal=>∃k',k'<k∧∃s e1 bU,WS e' aE e1 bU∧J s e1 bU∧Am.iter body k' s=some o∨(J s e' aE∧Am.iter body k' s=some o)|x=>K x e' aE) e ah:=by
   intro k s e ah hJ hk
   cases k with
   |zero=>simp [Am.iter] at hk
   |succ k=>
    cases hb:body s with
    |none=>simp [Am.iter,hb] at hk
    |some st=>
     simp only [Am.iter,hb] at hk
     refine AW.closed (ov c0 m _ e ah ha ho (round _ s st e ah hJ hb ?_ ?_ ?_ ?_))
     · rintro s' rfl e' aE e1 bU g1 g2 g3
       exact .inl ⟨k,Nat.lt_succ_self k,s',e1,bU, .inl ⟨⟨g1.all,g2⟩,g3,hk⟩⟩
     · rintro t rfl;simp only [Option.some.injEq] at hk;exact hk.symm
     · rintro r rfl;simp only [Option.some.injEq] at hk;exact hk.symm
     · intro x e' aE e1 bU hx g1 g2 g3
       cases x with
       |normal=>exact absurd rfl hx
       |_=>exact .inr ⟨e1,bU,⟨g1.all,g2⟩,g3⟩
  rintro k e ah ⟨s,e1,bU,⟨hw,hJ,hk⟩|⟨hJ,hk⟩⟩
  · exact AW.F7 hw (main k s e1 bU hJ hk)
  · exact main k s e ah hJ hk
 |scope c0 ih=>exact fun b6=>AW.scope (ih b6)
 |region id ops draw=>intro b6;simp only [bL] at b6;repeat' (split at b6)<;>simp at b6
 |block i c0=>intro b6;simp only [bL,Option.map_eq_some_iff] at b6;obtain ⟨a, -,h⟩:=b6;cases h
 |seq a b=>intro b6;simp only [bL] at b6;split at b6<;>simp at b6
 |cond a b c=>intro b6;simp only [bL] at b6;split at b6<;>simp at b6
 |_=>intro b6;simp [bL] at b6
theorem aF.wkx {f:Nat} {args:List AV} {ah:AH} {R R':AV→AH→Prop} (h:aF P f args ah R) (hr:∀r aE,R r aE→∃r' CQ,Wx r r'∧gu aE CQ∧R' r' CQ):aF P f args ah R':=by
 refine ⟨h.1,fun F γ C w vs hs=>(h.2 F γ C w vs hs).mono ?_⟩
 rintro en w' ⟨r,v,aE,γ',C',rfl,h1,h2,h3,h4⟩
 obtain ⟨r',CQ,g1,g2,g3⟩:=hr r aE h1
 refine ⟨r',v,CQ,γ',C',rfl,g3,h2,h3.wx ⟨fun t=> ?_,g2⟩,h4⟩
 simp only [Am.get]
 split
 · exact g1
 · exact Wx.un _
def WL:List AV→List AV→Prop
 |[],[]=>True
 |a::r,a'::r'=>Wx a a'∧WL r r'
 |_,_=>False
theorem WL.nil:WL [] []:=trivial
theorem WL.cons {a a':AV} {r r':List AV} (h:Wx a a') (hr:WL r r'):WL (a::r) (a'::r'):=⟨h,hr⟩
theorem WL.len:∀ {zq zq':List AV},WL zq zq'→zq'.length=zq.length:=by
 intro zq
 induction zq with
 |nil=>intro zq' h;cases zq' with|nil=>rfl|cons=>exact h.elim
 |cons a r ih=>intro zq' h;cases zq' with|nil=>exact h.elim|cons a' r'=>simp [ih h.2]
theorem WL.get:∀ {zq zq':List AV},WL zq zq'→∀(i:Nat) (a a':AV),zq[i]? =some a→zq'[i]? =some a'→Wx a a':=by
 intro zq
 induction zq with
 |nil=>intro zq' _ i a a' h;simp at h
 |cons a r ih=>
  intro zq' h i b b' h1 h2
  cases zq' with
  |nil=>exact h.elim
  |cons a' r'=>
   rcases i with _|i
   · simp at h1 h2;subst h1;subst h2;exact h.1
   · exact ih h.2 i b b' (by simpa using h1) (by simpa using h2)
theorem aF.F7 {f:Nat} {args args':List AV} {ah bU:AH} {R:AV→AH→Prop} (hw:WL args args') (hh:gu ah bU) (h:aF P f args' bU R):aF P f args ah R:=by
 refine ⟨h.1,fun F γ C w vs hs=>h.2 F γ C w vs ?_⟩
 rw [hw.len]
 refine hs.wx ⟨fun t=> ?_,hh⟩
 rw [eA,eA]
 simp only [Nat.zero_le,if_true,Nat.sub_zero]
 cases h1:args[t]? with
 |none=>
  have:args'[t]? =none:=by
   rw [List.getElem?_eq_none_iff] at h1 ⊢
   rw [hw.len];exact h1
  rw [this];exact Wx.un _
 |some a=>
  have hlt:t<args'.length:=by rw [hw.len];exact (List.getElem?_eq_some_iff.1 h1).1
  rw [List.getElem?_eq_getElem hlt]
  exact hw.get t a _ h1 (List.getElem?_eq_getElem hlt)
theorem XD {f:Nat} {zq zq':List AV} {bU:AH} {R:AV→AH→Prop} (h:aF P f zq' bU R) (hw:WL zq zq') (hh:gu ah bU) (hk:∀v aE,R v aE→U P L N n0 (.ops r::t) Q .normal (aG L (vv e) d v.df) aE):
 UK P L N n0 f zq d r t Q e ah:=(h.F7 hw hh).mono hk
def vC (P:Program) (ah:AH) (rs:List ResultVar) (R:AV→AH→Prop) (e':Env) (H:AH):Prop:=
 ∃vs r' aE,gr P e' H rs=some vs∧Wx (fin vs) r'∧R r' aE∧
  ((Cl ah.length (fin vs)∧l8 ah.length (H.take ah.length)∧ah.length≤H.length∧gu (H.take ah.length) aE)∨gu H aE)
theorem aF.YP {f:Nat} {rs:List ResultVar} {ac m:av} (hF:bQ P f N rs ac) (hm:erase m=ac) {args:List AV} {R:AV→AH→Prop} (L:List Nat)
 (ho:qb N ac=true) (hN:args.length≤N)
 (h:l8 ah.length ah→∀K:Exit→Env→AH→Prop,(∀x e' H,x= .normal∨x= .ret→vC P ah rs R e' H→K x e' H)→
  AX P L N ah.length ac K (e4 0 args) ah):aF P f args ah R:=by
 refine aF.wkx (R:=fun r aE=>∃r' CQ,Wx r r'∧gu aE CQ∧R r' CQ) ?_ (fun r aE h=>h)
 obtain ⟨fn,c,h1,h2,h3,h4,rfl,rfl⟩:=hF
 refine aF.Nf L h1 h2 h3 h4 ho hN ?_
 intro hcl hargs
 refine h hcl _ ?_
 rintro x e' H hx ⟨vs,r',aE,g1,g2,g3,⟨g4,g5,g6,g7⟩|g4⟩
 · refine .inl ⟨ah.length,Nat.le_refl _,hx, ?_⟩
   rw [g1]
   exact ⟨g4,g5,g6,r',aE,g2,g7,g3⟩
 · refine .inr ⟨hx, ?_⟩
   rw [g1]
   exact ⟨r',aE,g2,g4,g3⟩
end
end Go.Am
end
section
namespace Go.Am
open Go
variable [Tabs]
def idx {α:Type} (l:List α) (i:Int):Option α:=if 0≤i then l[i.toNat]? else none
def sub {α:Type} (l:List α) (i j:Int):Option (List α):=if 0≤i∧i≤j∧j≤l.length then some ((l.take j.toNat).drop i.toNat) else none
def eE {α:Type} (b:Nat) (xs ys:List α):Option (List α):=if (xs.length+ys.length)*b≤140737488355328∧xs.length+ys.length≤4611686018427387904 then some (xs++ys) else none
def cat (l m:List UInt8):Option (List UInt8):=if l.length+m.length≤9223372036854775807 then some (l++m) else none
def ml {α:Type} (f:α→AV) (xs:List α):List AV:=xs.map f
def dv (k:IntKind) (i j:Int):Option Int:=if j=0 then none else some (k.wrap (i.tdiv j))
def rm (k:IntKind) (i j:Int):Option Int:=if j=0 then none else some (i.tmod j)
def shl (k:IntKind) (i j:Int):Int:=k.wrap (i*2 ^ (min j.toNat k.bits))
def shr (k:IntKind) (i j:Int):Int:=i.fdiv (2 ^ (min j.toNat k.bits))
def Se (k:IntKind) (i j:Int):Int:=k.wrap (BitVec.ofInt k.bits i &&& BitVec.ofInt k.bits j).toNat
def YQ (k:IntKind) (i j:Int):Int:=k.wrap (BitVec.ofInt k.bits i ||| BitVec.ofInt k.bits j).toNat
def Sf (k:IntKind) (i j:Int):Int:=k.wrap (BitVec.ofInt k.bits i ^^^ BitVec.ofInt k.bits j).toNat
def XE (k:IntKind) (i:Int):AV:= .int k i
theorem aq {α β:Type} {o:Option α} {f:α→Option β} {r:β} (h:o.bind f=some r):∃x,o=some x∧f x=some r:=Option.bind_eq_some_iff.1 h
theorem ifb {β:Type} {B:Bool} {x y:Option β} {r:β} (h:(if B=true then x else y)=some r):(B=true∧x=some r)∨(B=false∧y=some r):=by
 cases B
 · exact .inr ⟨rfl,h⟩
 · exact .inl ⟨rfl,h⟩
theorem F8 {β:Type} {p:Prop} [Decidable p] {x:Option β} {r:β} (h:(if p then x else none)=some r):p∧x=some r:=by
 split at h
 · exact ⟨by assumption,h⟩
 · cases h
theorem Np {α:Type} (f:α→AV) (l:List α) (i:Int):idx (ml f l) i=(idx l i).map f:=by
 unfold idx ml;split<;>simp
theorem F9 {α:Type} (f:α→AV) (l:List α) (i j:Int):sub (ml f l) i j=(sub l i j).map (ml f):=by
 unfold sub ml;simp only [List.length_map];split<;>simp [List.map_take,List.map_drop,ml]
theorem Ga {α:Type} (f:α→AV) (l:List α):(ml f l).length=l.length:=by simp [ml]
theorem mJ {α:Type} {f:α→AV} {b:Nat} {xs ys zs:List α} (h:eE b xs ys=some zs):eE b (ml f xs) (ml f ys)=some (ml f zs):=by
 unfold eE at h ⊢
 simp only [Ga]
 obtain ⟨hc,h⟩:=F8 h
 rw [if_pos hc]
 injection h with h
 subst h
 simp [ml]
theorem Bi (l:List UInt8):bytesOf (ml b8 l)=some l:=Ip l
section
variable {P:Program} {L:List Nat} {N n0:Nat} {e:Env} {ah:AH} {t:List It} {Q:Exit→Env→AH→Prop} {r:List aL} {d:Option Nat} {g:Option (Nat×Bool)}
theorem YR {y:Nat} {bs:List UInt8}:UG P L N n0 ⟨d, .lit y bs,g⟩ r t Q e ah (some true)=U P L N n0 (It.ops r::t) Q Exit.normal (put (aG L e d (.sl .ex 1 (ml b8 bs))) y .un) ah:=rfl
theorem Nq {l:List UInt8} {k:IntKind} {i:Int}:Il L e ah d (.str l) (.int k i)=(idx l i).map fun c=>(aG L e d (b8 c),ah):=by
 simp only [Il,idx]
 split
 · cases l[i.toNat]? <;>rfl
 · rfl
theorem Nr {tg:Tg} {k:Nat} {xs:List AV} {ki:IntKind} {i:Int}:y9 L e ah d k (.sl tg k xs) (.int ki i)=(idx xs i).map fun a=>(aG L e d (.ep a 0),ah):=by
 simp only [y9,idx]
 split
 · cases xs[i.toNat]? <;>simp [Nl]
 · rfl
def bI (e:Env) (dflt:Int):Option Ar→AV
 |none=> .int .i64 dflt
 |some x=>ev e x
def Ns (L:List Nat) (e:Env) (ah:AH) (d:Option Nat) (l:List UInt8):AV→AV→Option (Env×AH)
 | .int _ i, .int _ j=>(sub l i j).map fun m=>(aG L e d (.str m),ah)
 |_,_=>none
theorem Gb {n:Nat} {x:Option Ar}:l7 e n x=uq (bI e n x):=by
 cases x with
 |none=>simp [l7,bI,uq]
 |some x=>simp only [R9,bI]
theorem CS {x:Option Ar}:l7 e 0 x=uq (bI e 0 x):=Gb (n:=0)
theorem aav {k:IntKind} {i:Int}:uq (.int k i)=if 0≤i then some i.toNat else none:=rfl
theorem CT {α:Type} (l:List α) (i j:Int):sub l i j=if 0≤i then if 0≤j then if i.toNat≤j.toNat∧j.toNat≤l.length then some ((l.take j.toNat).drop i.toNat) else none else none else none:=by
 unfold sub
 by_cases h1:0≤i
 · by_cases h2:0≤j
   · simp only [if_pos h1,if_pos h2]
     have:(0≤i∧i≤j∧j≤(l.length:Int))↔(i.toNat≤j.toNat∧j.toNat≤l.length):=by omega
     simp only [this]
   · rw [if_neg (by omega)];simp [h2]
 · rw [if_neg (by omega)];simp [h1]
theorem VZ {l:List UInt8} {lo hi:Option Ar}:Ni L e ah d lo hi (.str l)=Ns L e ah d l (bI e 0 lo) (bI e l.length hi):=by
 simp only [Ni,CS,Gb]
 generalize bI e 0 lo=a
 generalize bI e l.length hi=b
 cases a with
 |int k i=>
  cases b with
  |int k' j=>
   simp only [uq,Ns,CT]
   by_cases h1:0≤i<;>by_cases h2:0≤j<;>simp only [h1,h2,if_true,if_false,Nh,Option.map_none]
   split<;>rfl
  |_=>simp only [uq,Ns];split<;>rfl
 |_=>cases b<;>rfl
def Nt (L:List Nat) (e:Env) (ah:AH) (d:Option Nat) (k:Nat) (xs:List AV):AV→AV→Option (Env×AH)
 | .int _ i, .int _ j=>(sub xs i j).map fun ys=>(aG L e d (.sl .n k ys),ah)
 |_,_=>none
theorem V0 {tg:Tg} {k:Nat} {xs:List AV} {lo hi:Option Ar}:Nk L e ah d k lo hi (.sl tg k xs)=Nt L e ah d k xs (bI e 0 lo) (bI e xs.length hi):=by
 simp only [Nk,CS,Gb]
 generalize bI e 0 lo=a
 generalize bI e xs.length hi=b
 cases a with
 |int k i=>
  cases b with
  |int k' j=>
   simp only [uq,Nt,CT]
   by_cases h1:0≤i<;>by_cases h2:0≤j<;>simp only [h1,h2,if_true,if_false,Nj,Option.map_none,true_and]
   split<;>rfl
  |_=>simp only [uq,Nt];split<;>rfl
 |_=>cases b<;>rfl
def Bj {α:Type} (l:List α) (i j m:Int):Option (List α):=if j=m then sub l i j else none
theorem Iq {α:Type} (f:α→AV) (l:List α) (i j m:Int):Bj (ml f l) i j m=(Bj l i j m).map (ml f):=by
 unfold Bj;split
 · exact F9 ..
 · rfl
def CU (L:List Nat) (e:Env) (ah:AH) (d:Option Nat) (k:Nat) (xs:List AV):AV→AV→AV→Option (Env×AH)
 | .int _ i, .int _ j, .int _ m=>(Bj xs i j m).map fun ys=>(aG L e d (.sl .ex k ys),ah)
 |_,_,_=>none
theorem Sg {tg:Tg} {k:Nat} {xs:List AV} {lo:Option Ar} {hi m:Ar}:F6 L e ah d k lo hi m (.sl tg k xs)=CU L e ah d k xs (bI e 0 lo) (ev e hi) (ev e m):=by
 simp only [F6,CS,R9]
 generalize bI e 0 lo=a
 generalize ev e hi=b
 generalize ev e m=c
 cases a with
 |int k i=>
  cases b with
  |int k' j=>
   cases c with
   |int k'' l=>
    simp only [uq,CU,Bj,CT]
    by_cases h1:0≤i<;>by_cases h2:0≤j<;>by_cases h3:0≤l<;>by_cases h4:j=l<;>simp only [h1,h2,h3,h4,if_true,if_false,F5,Option.map_none,true_and]
    all_goals first
     |rfl
     |(exfalso;omega)
     |(subst h4;split<;>rename_i q<;>split<;>rename_i q2<;>first|rfl|(exfalso;omega))
     |(split<;>first|rfl|(exfalso;omega))
   |_=>simp only [uq,CU];repeat' split
       all_goals first|rfl|skip
  |_=>simp only [uq,CU];repeat' split
      all_goals first|rfl|skip
 |_=>cases b<;>cases c<;>rfl
theorem V1 {tg:Tg} {k b:Nat} {x:Ar} {ys:List AV}:Sb L e ah d k b x (.sl tg k ys)=w5 L e ah d k b x ys:=by simp [Sb]
theorem Sh {b:Nat} {x:Ar} {l:List UInt8}:Sc L e ah d b x (.str l)=w5 L e ah d 1 b x (ml b8 l):=rfl
def rP (L:List Nat) (e:Env) (ah:AH) (d:Option Nat) (k:Nat) (x:Ar) (xs zs:List AV):Tg→Option (Env×AH)
 | .ex=>some (aG L e d (.sl .own k zs),ah)
 | .own=>match x with
   | .t x=>some (aG L (put e x (.sl .n k xs)) d (.sl .own k zs),ah)
   |_=>none
 | .fr (.tmp t)=>match get e t with
   | .sl .own k' us=>if k'=k then some (aG L (put e t (.sl .n k' us)) d (.sl .own k zs),ah) else none
   |_=>none
 | .fr (.cell s q)=>match ah[s]? with
   |some cs=>match cs[q]? with
    |some (.sl .own k' us)=>if k'=k then (over cs q [.sl .n k' us]).map fun cs=>(aG L e d (.sl .own k zs),ah.set s cs) else none
    |_=>none
   |none=>none
 | .n=>none
def CV (L:List Nat) (e:Env) (ah:AH) (d:Option Nat) (k:Nat) (x:Ar) (xs:List AV) (tg:Tg):Option (List AV)→Option (Env×AH)
 |some zs=>rP L e ah d k x xs zs tg
 |none=>none
theorem Si {L:List Nat} {e:Env} {ah:AH} {d:Option Nat} {k:Nat} {x:Ar} {xs zs:List AV} {tg:Tg}:CV L e ah d k x xs tg (some zs)=rP L e ah d k x xs zs tg:=rfl
def Gc (L:List Nat) (e:Env) (ah:AH) (d:Option Nat) (k b:Nat) (x:Ar) (ys:List AV):AV→Option (Env×AH)
 | .sl tg k' xs=>if k'=k then CV L e ah d k x xs tg (eE b xs ys) else none
 |_=>none
theorem V3 {k b:Nat} {x:Ar} {ys:List AV}:w5 L e ah d k b x ys=Gc L e ah d k b x ys (ev e x):=by
 simp only [w5]
 cases ev e x with
 |sl tg k' xs=>
  simp only [Gc,eE]
  by_cases h1:k'=k
  · subst h1
    simp only [true_and,if_true]
    by_cases h2:(xs.length+ys.length)*b≤140737488355328∧xs.length+ys.length≤4611686018427387904
    · simp only [if_pos h2,CV]
      cases tg with
      |fr l=>cases l with
       |tmp u=>
        simp only [rP]
        cases get e u with
        |sl V4 k2 zs=>cases V4<;>rfl
        |_=>rfl
       |cell s q=>
        simp only [rP]
        cases ah[s]? with
        |none=>rfl
        |some cs=>
         simp only []
         cases cs[q]? with
         |none=>rfl
         |some a=>cases a with
          |sl V4 k2 zs=>cases V4<;>rfl
          |_=>rfl
      |own=>cases x<;>rfl
      |_=>rfl
    · simp only [if_neg h2,CV]
  · simp [h1]
 |_=>rfl
end
theorem Sj {k:IntKind} {i j:Int}:bu .add (.int k i) (.int k j)=some (.int k (k.wrap (i+j))):=by simp [bu,cH]
theorem Sk {k:IntKind} {i j:Int}:bu .sub (.int k i) (.int k j)=some (.int k (k.wrap (i - j))):=by simp [bu,cH]
theorem YS {k:IntKind} {i j:Int}:bu .mul (.int k i) (.int k j)=some (.int k (k.wrap (i*j))):=by simp [bu,cH]
theorem YT {k:IntKind} {i j:Int}:bu .quo (.int k i) (.int k j)=(dv k i j).map (.int k):=by simp [bu,cH,dv];split<;>rfl
theorem Sl {k:IntKind} {i j:Int}:bu .rem (.int k i) (.int k j)=(rm k i j).map (.int k):=by simp [bu,cH,rm];split<;>rfl
theorem Sm {k:IntKind} {i j:Int}:bu .and (.int k i) (.int k j)=some (.int k (Se k i j)):=by simp [bu,cH,Se]
theorem XF {k:IntKind} {i j:Int}:bu .or (.int k i) (.int k j)=some (.int k (YQ k i j)):=by simp [bu,cH,YQ]
theorem Sn {k:IntKind} {i j:Int}:bu .xor (.int k i) (.int k j)=some (.int k (Sf k i j)):=by simp [bu,cH,Sf]
theorem acR {k k':IntKind} {i j:Int}:bu .shl (.int k i) (.int k' j)=if j<0 then none else some (.int k (shl k i j)):=by simp [bu,shl]
theorem acS {k k':IntKind} {i j:Int}:bu .shr (.int k i) (.int k' j)=if j<0 then none else some (.int k (shr k i j)):=by simp [bu,shr]
theorem So {k:IntKind} {i j:Int}:bu .eql (.int k i) (.int k j)=some (.bool (decide (i=j))):=by simp [bu,cH]
theorem Sp {k:IntKind} {i j:Int}:bu .neq (.int k i) (.int k j)=some (.bool (!decide (i=j))):=by simp [bu,cH]
theorem Sq {k:IntKind} {i j:Int}:bu .lss (.int k i) (.int k j)=some (.bool (decide (i<j))):=by simp [bu,cH]
theorem Sr {k:IntKind} {i j:Int}:bu .leq (.int k i) (.int k j)=some (.bool (decide (i≤j))):=by simp [bu,cH]
theorem Ss {k:IntKind} {i j:Int}:bu .gtr (.int k i) (.int k j)=some (.bool (decide (j<i))):=by simp [bu,cH]
theorem Su {k:IntKind} {i j:Int}:bu .geq (.int k i) (.int k j)=some (.bool (decide (j≤i))):=by simp [bu,cH]
theorem V5 {k k':IntKind} {i:Int}:bu .shr (.int k i) (.int k' 1)=some (.int k (shr k i 1)):=by simp [bu,shr]
theorem V6 {k k':IntKind} {i:Int}:bu .shl (.int k i) (.int k' 1)=some (.int k (shl k i 1)):=by simp [bu,shl]
theorem V7 {k k':IntKind} {i:Int}:bu .shr (.int k i) (.int k' 2)=some (.int k (shr k i 2)):=by simp [bu,shr]
theorem V8 {k k':IntKind} {i:Int}:bu .shl (.int k i) (.int k' 2)=some (.int k (shl k i 2)):=by simp [bu,shl]
theorem V9 {k k':IntKind} {i:Int}:bu .shr (.int k i) (.int k' 3)=some (.int k (shr k i 3)):=by simp [bu,shr]
theorem Wa {k k':IntKind} {i:Int}:bu .shl (.int k i) (.int k' 3)=some (.int k (shl k i 3)):=by simp [bu,shl]
theorem Wb {k k':IntKind} {i:Int}:bu .shr (.int k i) (.int k' 4)=some (.int k (shr k i 4)):=by simp [bu,shr]
theorem Wc {k k':IntKind} {i:Int}:bu .shl (.int k i) (.int k' 4)=some (.int k (shl k i 4)):=by simp [bu,shl]
theorem Wd {k k':IntKind} {i:Int}:bu .shr (.int k i) (.int k' 5)=some (.int k (shr k i 5)):=by simp [bu,shr]
theorem We {k k':IntKind} {i:Int}:bu .shl (.int k i) (.int k' 5)=some (.int k (shl k i 5)):=by simp [bu,shl]
theorem Wf {k k':IntKind} {i:Int}:bu .shr (.int k i) (.int k' 6)=some (.int k (shr k i 6)):=by simp [bu,shr]
theorem Wg {k k':IntKind} {i:Int}:bu .shl (.int k i) (.int k' 6)=some (.int k (shl k i 6)):=by simp [bu,shl]
theorem Wh {k k':IntKind} {i:Int}:bu .shr (.int k i) (.int k' 7)=some (.int k (shr k i 7)):=by simp [bu,shr]
theorem Wi {k k':IntKind} {i:Int}:bu .shl (.int k i) (.int k' 7)=some (.int k (shl k i 7)):=by simp [bu,shl]
theorem Wj {k k':IntKind} {i:Int}:bu .shr (.int k i) (.int k' 8)=some (.int k (shr k i 8)):=by simp [bu,shr]
theorem Wl {k k':IntKind} {i:Int}:bu .shl (.int k i) (.int k' 8)=some (.int k (shl k i 8)):=by simp [bu,shl]
theorem Sv {k k':IntKind} {i:Int}:bu .shr (.int k i) (.int k' 16)=some (.int k (shr k i 16)):=by simp [bu,shr]
theorem Sw {k k':IntKind} {i:Int}:bu .shl (.int k i) (.int k' 16)=some (.int k (shl k i 16)):=by simp [bu,shl]
theorem Sx {k k':IntKind} {i:Int}:bu .shr (.int k i) (.int k' 24)=some (.int k (shr k i 24)):=by simp [bu,shr]
theorem Sy {k k':IntKind} {i:Int}:bu .shl (.int k i) (.int k' 24)=some (.int k (shl k i 24)):=by simp [bu,shl]
theorem YU {l m:List UInt8}:bu .add (.str l) (.str m)=(cat l m).map .str:=by simp only [bu,cat];split<;>rfl
theorem YV {l m:List UInt8}:bu .eql (.str l) (.str m)=some (.bool (decide (l=m))):=rfl
theorem YW {l m:List UInt8}:bu .neq (.str l) (.str m)=some (.bool (!decide (l=m))):=rfl
theorem Sz (n:Int):IntKind.wrap .u8 n=((UInt8.ofInt n).toNat:Int):=by
 have:(UInt8.ofInt n).toNat=(n % 256).toNat:=by
  rw [UInt8.ofInt]
  simp
  omega
 rw [this]
 simp only [IntKind.wrap,IntKind.bits,IntKind.signed,Bool.false_and,if_false,Bool.false_eq_true]
 omega
theorem Wm (a b:UInt8):IntKind.wrap .u8 ((a.toNat:Int)+b.toNat)=((a+b).toNat:Int):=by
 have h1:=a.toNat_lt
 have h2:=b.toNat_lt
 simp only [IntKind.wrap,IntKind.bits,IntKind.signed,Bool.false_and,if_false,Bool.false_eq_true,UInt8.toNat_add]
 omega
theorem Wn (a b:UInt8):IntKind.wrap .u8 ((a.toNat:Int) - b.toNat)=((a - b).toNat:Int):=by
 have h1:=a.toNat_lt
 have h2:=b.toNat_lt
 simp only [IntKind.wrap,IntKind.bits,IntKind.signed,Bool.false_and,if_false,Bool.false_eq_true,UInt8.toNat_sub]
 omega
theorem Gd (a:UInt8):IntKind.wrap .u8 (a.toNat:Int)=(a.toNat:Int):=by
 have h1:=a.toNat_lt
 simp only [IntKind.wrap,IntKind.bits,IntKind.signed,Bool.false_and,if_false,Bool.false_eq_true]
 omega
theorem ofInt8 (a:UInt8):BitVec.ofInt 8 (a.toNat:Int)=a.toBitVec:=by
 apply BitVec.eq_of_toNat_eq;simp
theorem YX {a b:UInt8}:bu .add (b8 a) (b8 b)=some (b8 (a+b)):=by simp only [b8];rw [Sj,Wm]
theorem YY {a b:UInt8}:bu .sub (b8 a) (b8 b)=some (b8 (a - b)):=by simp only [b8];rw [Sk,Wn]
theorem YZ {a b:UInt8}:bu .and (b8 a) (b8 b)=some (b8 (a &&& b)):=by
 simp only [b8];rw [Sm,Se]
 have:((BitVec.ofInt IntKind.u8.bits (a.toNat:Int) &&& BitVec.ofInt IntKind.u8.bits (b.toNat:Int)).toNat:Int)=((a &&& b).toNat:Int):=by
  simp only [IntKind.bits,ofInt8];rfl
 rw [this,Gd]
theorem aa6 {a b:UInt8}:bu .or (b8 a) (b8 b)=some (b8 (a ||| b)):=by
 simp only [b8];rw [XF,YQ]
 have:((BitVec.ofInt IntKind.u8.bits (a.toNat:Int) ||| BitVec.ofInt IntKind.u8.bits (b.toNat:Int)).toNat:Int)=((a ||| b).toNat:Int):=by
  simp only [IntKind.bits,ofInt8];rfl
 rw [this,Gd]
theorem Y0 {a b:UInt8}:bu .xor (b8 a) (b8 b)=some (b8 (a ^^^ b)):=by
 simp only [b8];rw [Sn,Sf]
 have:((BitVec.ofInt IntKind.u8.bits (a.toNat:Int) ^^^ BitVec.ofInt IntKind.u8.bits (b.toNat:Int)).toNat:Int)=((a ^^^ b).toNat:Int):=by
  simp only [IntKind.bits,ofInt8];rfl
 rw [this,Gd]
theorem Y1 {a b:UInt8}:bu .rem (b8 a) (b8 b)=if b=0 then none else some (b8 (a % b)):=by
 simp only [b8];rw [Sl,rm]
 by_cases h:b=0
 · subst h;simp
 · have h2:¬(b.toNat:Int)=0:=by
    intro h0;apply h;apply UInt8.toNat_inj.1;simp;omega
   rw [if_neg h,if_neg h2]
   simp only [Option.map_some,UInt8.toNat_mod]
   rw [Int.tmod_eq_emod_of_nonneg (by omega)]
   simp
theorem Y2 {a b:UInt8}:bu .eql (b8 a) (b8 b)=some (.bool (decide (a=b))):=by
 simp only [b8];rw [So];simp [←UInt8.toNat_inj,Int.ofNat_inj]
theorem Y3 {a b:UInt8}:bu .neq (b8 a) (b8 b)=some (.bool (!decide (a=b))):=by
 simp only [b8];rw [Sp];simp [←UInt8.toNat_inj,Int.ofNat_inj]
theorem Y4 {a b:UInt8}:bu .lss (b8 a) (b8 b)=some (.bool (decide (a<b))):=by
 simp only [b8];rw [Sq];simp [UInt8.lt_iff_toNat_lt]
theorem Y5 {a b:UInt8}:bu .leq (b8 a) (b8 b)=some (.bool (decide (a≤b))):=by
 simp only [b8];rw [Sr];simp [UInt8.le_iff_toNat_le]
theorem Y6 {a b:UInt8}:bu .gtr (b8 a) (b8 b)=some (.bool (decide (b<a))):=by
 simp only [b8];rw [Ss];simp [UInt8.lt_iff_toNat_lt]
theorem Y7 {a b:UInt8}:bu .geq (b8 a) (b8 b)=some (.bool (decide (b≤a))):=by
 simp only [b8];rw [Su];simp [UInt8.le_iff_toNat_le]
theorem aa7 {k:IntKind} {c:UInt8}:fh (.int k) (b8 c)=some (.int k (k.wrap c.toNat)):=rfl
theorem aa8 {k:IntKind} {i:Int}:fh (.int .u8) (.int k i)=some (b8 (UInt8.ofInt i)):=by simp only [fh,b8,Sz]
theorem aa9 {c:UInt8}:fh (.int .u8) (b8 c)=some (b8 c):=by simp only [fh,b8,Gd]
theorem abb {k':IntKind} {i:Int}:fh (.int .i8) (.int k' i)=some (.int .i8 (IntKind.wrap .i8 i)):=rfl
theorem Y8 {k':IntKind} {i:Int}:fh (.int .i16) (.int k' i)=some (.int .i16 (IntKind.wrap .i16 i)):=rfl
theorem Y9 {k':IntKind} {i:Int}:fh (.int .i32) (.int k' i)=some (.int .i32 (IntKind.wrap .i32 i)):=rfl
theorem Za {k':IntKind} {i:Int}:fh (.int .i64) (.int k' i)=some (.int .i64 (IntKind.wrap .i64 i)):=rfl
theorem Zb {k':IntKind} {i:Int}:fh (.int .u16) (.int k' i)=some (.int .u16 (IntKind.wrap .u16 i)):=rfl
theorem Zc {k':IntKind} {i:Int}:fh (.int .u32) (.int k' i)=some (.int .u32 (IntKind.wrap .u32 i)):=rfl
theorem Zd {k':IntKind} {i:Int}:fh (.int .u64) (.int k' i)=some (.int .u64 (IntKind.wrap .u64 i)):=rfl
theorem abd {l:List UInt8}:fh .same (.str l)=some (.str l):=rfl
theorem abe {l:List UInt8}:fh .sb (.str l)=some (.sl .own 1 (ml b8 l)):=rfl
theorem abf {tg:Tg} {xs:List AV}:fh .bs (.sl tg 1 xs)=(bytesOf xs).map .str:=rfl
theorem Ze {k:IntKind} {i:Int}:Kk .neg (.int k i)=some (.int k (k.wrap (0 - i))):=rfl
theorem Zf {b:Bool}:Kk .not (.bool b)=some (.bool !b):=rfl
def abg (k:IntKind) (i:Int):Int:=k.wrap (BitVec.ofInt k.bits (if k.signed then -1 else k.max) ^^^ BitVec.ofInt k.bits i).toNat
theorem Zg {k:IntKind} {i:Int}:Kk .xor (.int k i)=some (.int k (abg k i)):=rfl
theorem Ge:bytesOf []=some []:=rfl
theorem KM {c:UInt8} {r:List AV}:bytesOf (b8 c::r)=(bytesOf r).map (c:: ·):=by
 simp [b8,bytesOf]
theorem Q_i {ks:List Pk} {k:IntKind} {i j:Int} {zq bs:List AV}:cq (.i::ks) (.int k i::zq) (.int k j::bs)=(cq ks zq bs).map (decide (i=j)&& ·):=by simp [cq]
theorem Q_s {ks:List Pk} {l m:List UInt8} {zq bs:List AV}:cq (.s::ks) (.str l::zq) (.str m::bs)=(cq ks zq bs).map (decide (l=m)&& ·):=rfl
theorem Q_b {ks:List Pk} {x y:Bool} {zq bs:List AV}:cq (.b::ks) (.bool x::zq) (.bool y::bs)=(cq ks zq bs).map ((x==y)&& ·):=rfl
theorem Q_n:cq [] [] []=some true:=rfl
theorem abh {x y:Bool}:Kh (.bool x) (.bool y)=some (x==y):=rfl
theorem abi {s o:Nat}:Ki (.ptr s o) (.v (.pointer none))=some false:=rfl
theorem abj {s o:Nat}:Ki (.v (.pointer none)) (.ptr s o)=some false:=rfl
theorem abk:Ki (.v (.pointer none)) (.v (.pointer none))=some true:=rfl
section
variable {P:Program} {L:List Nat} {N n0:Nat} {e:Env} {ah:AH} {t:List It} {Q:Exit→Env→AH→Prop} {r:List aL} {d:Option Nat}
theorem cz {c:UInt8}:(b8 c).br=b8 c:=rfl
theorem XG {c:UInt8}:(b8 c).sh=b8 c:=rfl
theorem adf {c:UInt8}:(b8 c).s1=b8 c:=rfl
theorem adg {c:UInt8}:(b8 c).s0=b8 c:=rfl
theorem XH {c:UInt8}:(b8 c).df=b8 c:=rfl
theorem acT {c:UInt8}:(b8 c).iT=b8 c:=rfl
theorem acU {c:UInt8}:(b8 c).qa=b8 c:=rfl
theorem acC {c:UInt8} {l:Loc}:(b8 c).eo l=b8 c:=rfl
theorem acV {c:UInt8}:(b8 c).bR=false:=rfl
theorem bX {c:UInt8}:(b8 c).flat=true:=rfl
theorem acW {c:UInt8}:(b8 c).iV=true:=rfl
theorem adh {c:UInt8}:(b8 c).np=true:=rfl
theorem abl {c:UInt8}:(b8 c).cells=[b8 c]:=rfl
theorem acX {c:UInt8}:(b8 c).eH=false:=rfl
theorem adi {c:UInt8} {x:Ar}:cp L x (b8 c)=b8 c:=rfl
theorem acY {c:UInt8} {x:Ar}:jL P L N n0 e ah d r t Q x (b8 c)=U P L N n0 (.ops r::t) Q .normal (aG L e d (b8 c)) ah:=rfl
theorem Nu {n:Nat} {c:UInt8}:Cl n (b8 c):= .int ..
theorem Zh {l:List UInt8} {c:UInt8}:Il L e ah d (.str l) (b8 c)=(idx l c.toNat).map fun c=>(aG L e d (b8 c),ah):=Nq
theorem Zi {tg:Tg} {k:Nat} {xs:List AV} {c:UInt8}:y9 L e ah d k (.sl tg k xs) (b8 c)=(idx xs c.toNat).map fun a=>(aG L e d (.ep a 0),ah):=Nr
theorem acZ {s o:Nat} {c:UInt8}:dM s o (some (b8 c))=some (b8 c):=rfl
theorem Zj {c:UInt8}:Ot L d e ah (some (b8 c))=some (aG L e d (b8 c),ah):=rfl
end
theorem h_eq {H:AH} {q:Nat} {c:List AV} (h:q<H.length):(H.set q c)[q]? =some c:=List.getElem?_set_self h
theorem XI {H:AH} {s q:Nat} {c:List AV} (h:s≠q):(H.set s c)[q]? =H[q]? :=List.getElem?_set_ne h
theorem SA {H T:AH} {q:Nat} (h:q<H.length):(H++T)[q]? =H[q]? :=List.getElem?_append_left h
theorem Zk {H:AH} {c:List AV}:(H++[c])[H.length]? =some c:=by simp
theorem Nv {H:AH} {q:Nat} {c:List AV} (h:q=H.length):(H++[c])[q]? =some c:=by subst h;simp
theorem aQ {H:AH} {q:Nat} {c:List AV} (h:H[q]? =some c):q<H.length:=(List.getElem?_eq_some_iff.1 h).1
theorem za {H:AH} {q:Nat} {c:List AV}:(H.set q c).length=H.length:=List.length_set
theorem zb {H:AH} {c:List AV}:(H++[c]).length=H.length+1:=by simp
structure Fr (ah:AH) (n0:Nat) (S:List Nat) (H:AH):Prop where
 le:n0≤H.length
 eq:∀j,j<n0→j∉S→H[j]? =ah[j]?
theorem Fr.refl (ah:AH) (S:List Nat):Fr ah ah.length S ah:=⟨Nat.le_refl _,fun _ _ _=>rfl⟩
theorem Fr.set {ah H:AH} {n0 s:Nat} {S:List Nat} {c:List AV} (h:Fr ah n0 S H) (hs:s∈S∨n0≤s):Fr ah n0 S (H.set s c):=by
 refine ⟨by simpa using h.le,fun j hj CW=> ?_⟩
 rw [List.getElem?_set_ne,h.eq j hj CW]
 rintro rfl
 rcases hs with hs|hs
 · exact CW hs
 · omega
theorem Fr.app {ah H T:AH} {n0:Nat} {S:List Nat} (h:Fr ah n0 S H):Fr ah n0 S (H++T):=by
 have:=h.le
 exact ⟨by simp;omega,fun j hj CW=>by rw [List.getElem?_append_left (by omega),h.eq j hj CW]⟩
theorem Fr.XJ {ah H:AH} (h:Fr ah ah.length [] H):H.take ah.length=ah:=by
 apply List.ext_getElem?
 intro j
 by_cases hj:j<ah.length
 · rw [List.getElem?_take_of_lt hj,h.eq j hj (by simp)]
 · rw [List.getElem?_eq_none (by simp;omega),List.getElem?_eq_none (by omega)]
theorem Fr.XK {ah H:AH} {s:Nat} {c:List AV} (h:Fr ah ah.length [s] H) (hs:H[s]? =some c) (hl:s<ah.length):H.take ah.length=ah.set s c:=by
 apply List.ext_getElem?
 intro j
 by_cases hj:j<ah.length
 · rw [List.getElem?_take_of_lt hj]
   by_cases he:j=s
   · subst he;rw [hs,List.getElem?_set_self hl]
   · rw [List.getElem?_set_ne (Ne.symm he),h.eq j hj (by simpa using he)]
 · rw [List.getElem?_eq_none (by simp;omega),List.getElem?_eq_none (by simp;omega)]
theorem Fr.XL {ah H:AH} {s s2:Nat} {c c2:List AV} (h:Fr ah ah.length [s,s2] H) (hs:H[s]? =some c) (hs2:H[s2]? =some c2) (hl:s<ah.length) (nW:s2<ah.length) (hne:s≠s2):H.take ah.length=(ah.set s c).set s2 c2:=by
 apply List.ext_getElem?
 intro j
 by_cases hj:j<ah.length
 · rw [List.getElem?_take_of_lt hj]
   by_cases he:j=s2
   · subst he;rw [hs2,List.getElem?_set_self (by simpa using nW)]
   · rw [List.getElem?_set_ne (Ne.symm he)]
     by_cases Zl:j=s
     · subst Zl;rw [hs,List.getElem?_set_self hl]
     · rw [List.getElem?_set_ne (Ne.symm Zl),h.eq j hj (by simp;exact ⟨Zl,he⟩)]
 · rw [List.getElem?_eq_none (by simp;omega),List.getElem?_eq_none (by simp;omega)]
end Go.Am
end
section
namespace Go.Am
open Go
variable [Tabs]
def dL:Bool→AV
 |true=> .dN
 |false=> .v .nilIface
def Nw (L:List Nat) (e:Env) (ah:AH) (d:Option Nat):AV→Option (Env×AH)
 | .sl _ _ xs=>some (aG L e d (.int .i64 xs.length),ah)
 | .cA _ _ _ n=>some (aG L e d (.int .i64 n),ah)
 | .cv _ _ n _=>some (aG L e d (.int .i64 n),ah)
 |_=>none
def SB (L:List Nat) (e:Env) (ah:AH) (d:Option Nat):AV→Option (Env×AH)
 | .str l=>some (aG L e d (.int .i64 l.length),ah)
 |_=>none
def SC (L:List Nat) (e:Env) (ah:AH) (d:Option Nat):Option AV→Option (Env×AH)
 |some a=>some (aG L e d a.sh,ah)
 |none=>none
def SD (L:List Nat) (e:Env) (ah:AH) (d:Option Nat) (i:Nat):AV→Option (Env×AH)
 | .bz cs=>SC L e ah d (cs[i]?)
 |_=>none
def KN (L:List Nat) (e:Env) (ah:AH) (d:Option Nat):Option AV→Option (Env×AH)
 |some a=>some (aG L e d a.br,ah)
 |none=>none
def Gf (L:List Nat) (e:Env) (ah:AH) (d:Option Nat) (q:Nat):Option Nat→AV→Option (Env×AH)
 |some n, .agg cs=>if q+n≤cs.length then some (aG L e d (.agg (((cs.drop q).take n).map AV.br)),ah) else none
 |none, .agg cs=>KN L e ah d (cs[q]?)
 |_,_=>none
def SE (L:List Nat) (e:Env) (ah:AH) (d:Option Nat) (n:Option Nat):AV→Option (Env×AH)
 | .ep a p=>F4 L d n e ah (.ep a p)
 |_=>none
theorem SF {z:Value}:AV.br (.v z)=(.v z:AV):=rfl
theorem KO {k:IntKind} {i:Int}:AV.br (.int k i)=(.int k i:AV):=rfl
theorem Ir {b:Bool}:AV.br (.bool b)=(.bool b:AV):=rfl
theorem KP {l:List UInt8}:AV.br (.str l)=(.str l:AV):=rfl
theorem KQ {s o:Nat}:AV.br (.ptr s o)=(.ptr s o:AV):=rfl
theorem Oy {a:AV} {o:Nat}:AV.br (.ep a o)=(.ep a o:AV):=rfl
theorem Oz {f:Nat} {cs:List AV}:AV.br (.fn f cs)=(.fn f cs:AV):=rfl
theorem OA:AV.br (.un)=(.un:AV):=rfl
theorem OB {c:UInt8}:AV.br (b8 c)=(b8 c:AV):=rfl
theorem OC {k:Nat} {xs:List AV}:AV.br (.sl .n k xs)=(.sl .n k xs:AV):=rfl
theorem KR {k:Nat} {xs:List AV}:AV.br (.sl .ex k xs)=(.sl .ex k xs:AV):=rfl
theorem Is {k:Nat} {xs:List AV}:AV.br (.sl .own k xs)=(.sl .n k xs:AV):=rfl
theorem KS {l:Loc} {k:Nat} {xs:List AV}:AV.br (.sl (.fr l) k xs)=(.sl .n k xs:AV):=rfl
theorem KT {cs:List AV}:AV.br (.agg cs)=(.agg cs:AV):=rfl
theorem KU {cs:List AV}:AV.br (.bz cs)=(.bz cs:AV):=rfl
theorem KV {q0 k0 o0 m0:Nat}:AV.br (.cA q0 k0 o0 m0)=(.cA q0 k0 o0 m0:AV):=rfl
theorem KW {q0 k0 m0 c0:Nat}:AV.br (.cv q0 k0 m0 c0)=(.cv q0 k0 m0 c0:AV):=rfl
theorem KX:AV.br (.dN)=(.dN:AV):=rfl
theorem OD {eb:Bool}:AV.br (dL eb)=(dL eb:AV):=by cases eb<;>rfl
theorem Wo {z:Value}:AV.sh (.v z)=(.v z:AV):=rfl
theorem OE {k:IntKind} {i:Int}:AV.sh (.int k i)=(.int k i:AV):=rfl
theorem KY {b:Bool}:AV.sh (.bool b)=(.bool b:AV):=rfl
theorem OF {l:List UInt8}:AV.sh (.str l)=(.str l:AV):=rfl
theorem OG {s o:Nat}:AV.sh (.ptr s o)=(.ptr s o:AV):=rfl
theorem SG {a:AV} {o:Nat}:AV.sh (.ep a o)=(.ep a o:AV):=rfl
theorem SH {f:Nat} {cs:List AV}:AV.sh (.fn f cs)=(.fn f cs:AV):=rfl
theorem SI:AV.sh (.un)=(.un:AV):=rfl
theorem SJ {c:UInt8}:AV.sh (b8 c)=(b8 c:AV):=rfl
theorem SK {k:Nat} {xs:List AV}:AV.sh (.sl .n k xs)=(.sl .n k xs:AV):=rfl
theorem OH {k:Nat} {xs:List AV}:AV.sh (.sl .ex k xs)=(.sl .ex k xs:AV):=rfl
theorem KZ {k:Nat} {xs:List AV}:AV.sh (.sl .own k xs)=(.sl .n k xs:AV):=rfl
theorem OI {l:Loc} {k:Nat} {xs:List AV}:AV.sh (.sl (.fr l) k xs)=(.sl .n k xs:AV):=rfl
theorem OJ {cs:List AV}:AV.sh (.agg cs)=(.agg (cs.map AV.br):AV):=rfl
theorem OK {cs:List AV}:AV.sh (.bz cs)=(.bz (cs.map AV.br):AV):=rfl
theorem OL {q0 k0 o0 m0:Nat}:AV.sh (.cA q0 k0 o0 m0)=(.cA q0 k0 o0 m0:AV):=rfl
theorem OM {q0 k0 m0 c0:Nat}:AV.sh (.cv q0 k0 m0 c0)=(.cv q0 k0 m0 c0:AV):=rfl
theorem ON:AV.sh (.dN)=(.dN:AV):=rfl
theorem SL {eb:Bool}:AV.sh (dL eb)=(dL eb:AV):=by cases eb<;>rfl
theorem Wp {z:Value}:AV.s1 (.v z)=(.v z:AV):=rfl
theorem OO {k:IntKind} {i:Int}:AV.s1 (.int k i)=(.int k i:AV):=rfl
theorem K1 {b:Bool}:AV.s1 (.bool b)=(.bool b:AV):=rfl
theorem OP {l:List UInt8}:AV.s1 (.str l)=(.str l:AV):=rfl
theorem OQ {s o:Nat}:AV.s1 (.ptr s o)=(.ptr s o:AV):=rfl
theorem SM {a:AV} {o:Nat}:AV.s1 (.ep a o)=(.ep a o:AV):=rfl
theorem SN {f:Nat} {cs:List AV}:AV.s1 (.fn f cs)=(.fn f cs:AV):=rfl
theorem SO:AV.s1 (.un)=(.un:AV):=rfl
theorem SP {c:UInt8}:AV.s1 (b8 c)=(b8 c:AV):=rfl
theorem SQ {k:Nat} {xs:List AV}:AV.s1 (.sl .n k xs)=(.sl .n k xs:AV):=rfl
theorem OR {k:Nat} {xs:List AV}:AV.s1 (.sl .ex k xs)=(.sl .n k xs:AV):=rfl
theorem K2 {k:Nat} {xs:List AV}:AV.s1 (.sl .own k xs)=(.sl .n k xs:AV):=rfl
theorem OS {l:Loc} {k:Nat} {xs:List AV}:AV.s1 (.sl (.fr l) k xs)=(.sl .n k xs:AV):=rfl
theorem OT {cs:List AV}:AV.s1 (.agg cs)=(.agg cs:AV):=rfl
theorem OU {cs:List AV}:AV.s1 (.bz cs)=(.bz cs:AV):=rfl
theorem OV {q0 k0 o0 m0:Nat}:AV.s1 (.cA q0 k0 o0 m0)=(.cA q0 k0 o0 m0:AV):=rfl
theorem OW {q0 k0 m0 c0:Nat}:AV.s1 (.cv q0 k0 m0 c0)=(.cv q0 k0 m0 c0:AV):=rfl
theorem OX:AV.s1 (.dN)=(.dN:AV):=rfl
theorem SS {eb:Bool}:AV.s1 (dL eb)=(dL eb:AV):=by cases eb<;>rfl
theorem Wq {z:Value}:AV.s0 (.v z)=(.v z:AV):=rfl
theorem OY {k:IntKind} {i:Int}:AV.s0 (.int k i)=(.int k i:AV):=rfl
theorem K3 {b:Bool}:AV.s0 (.bool b)=(.bool b:AV):=rfl
theorem OZ {l:List UInt8}:AV.s0 (.str l)=(.str l:AV):=rfl
theorem O0 {s o:Nat}:AV.s0 (.ptr s o)=(.ptr s o:AV):=rfl
theorem SU {a:AV} {o:Nat}:AV.s0 (.ep a o)=(.ep a o:AV):=rfl
theorem SV {f:Nat} {cs:List AV}:AV.s0 (.fn f cs)=(.fn f cs:AV):=rfl
theorem SW:AV.s0 (.un)=(.un:AV):=rfl
theorem SX {c:UInt8}:AV.s0 (b8 c)=(b8 c:AV):=rfl
theorem SY {k:Nat} {xs:List AV}:AV.s0 (.sl .n k xs)=(.sl .n k xs:AV):=rfl
theorem O1 {k:Nat} {xs:List AV}:AV.s0 (.sl .ex k xs)=(.sl .n k xs:AV):=rfl
theorem K4 {k:Nat} {xs:List AV}:AV.s0 (.sl .own k xs)=(.sl .n k xs:AV):=rfl
theorem O2 {l:Loc} {k:Nat} {xs:List AV}:AV.s0 (.sl (.fr l) k xs)=(.sl .n k xs:AV):=rfl
theorem O3 {cs:List AV}:AV.s0 (.agg cs)=(.agg (cs.map AV.s1):AV):=rfl
theorem O4 {cs:List AV}:AV.s0 (.bz cs)=(.bz cs:AV):=rfl
theorem O5 {q0 k0 o0 m0:Nat}:AV.s0 (.cA q0 k0 o0 m0)=(.cA q0 k0 o0 m0:AV):=rfl
theorem O6 {q0 k0 m0 c0:Nat}:AV.s0 (.cv q0 k0 m0 c0)=(.cv q0 k0 m0 c0:AV):=rfl
theorem O7:AV.s0 (.dN)=(.dN:AV):=rfl
theorem SZ {eb:Bool}:AV.s0 (dL eb)=(dL eb:AV):=by cases eb<;>rfl
theorem Wr {z:Value}:AV.df (.v z)=(.v z:AV):=rfl
theorem O8 {k:IntKind} {i:Int}:AV.df (.int k i)=(.int k i:AV):=rfl
theorem K5 {b:Bool}:AV.df (.bool b)=(.bool b:AV):=rfl
theorem O9 {l:List UInt8}:AV.df (.str l)=(.str l:AV):=rfl
theorem Pa {s o:Nat}:AV.df (.ptr s o)=(.ptr s o:AV):=rfl
theorem S0 {a:AV} {o:Nat}:AV.df (.ep a o)=(.ep a o:AV):=rfl
theorem S1 {f:Nat} {cs:List AV}:AV.df (.fn f cs)=(.fn f cs:AV):=rfl
theorem S3:AV.df (.un)=(.un:AV):=rfl
theorem S4 {c:UInt8}:AV.df (b8 c)=(b8 c:AV):=rfl
theorem S5 {k:Nat} {xs:List AV}:AV.df (.sl .n k xs)=(.sl .n k xs:AV):=rfl
theorem Pb {k:Nat} {xs:List AV}:AV.df (.sl .ex k xs)=(.sl .ex k xs:AV):=rfl
theorem K6 {k:Nat} {xs:List AV}:AV.df (.sl .own k xs)=(.sl .own k xs:AV):=rfl
theorem Pc {l:Loc} {k:Nat} {xs:List AV}:AV.df (.sl (.fr l) k xs)=(.sl .n k xs:AV):=rfl
theorem Pd {cs:List AV}:AV.df (.agg cs)=(.agg cs:AV):=rfl
theorem Pe {cs:List AV}:AV.df (.bz cs)=(.bz cs:AV):=rfl
theorem Pf {q0 k0 o0 m0:Nat}:AV.df (.cA q0 k0 o0 m0)=(.cA q0 k0 o0 m0:AV):=rfl
theorem Pg {q0 k0 m0 c0:Nat}:AV.df (.cv q0 k0 m0 c0)=(.cv q0 k0 m0 c0:AV):=rfl
theorem Ph:AV.df (.dN)=(.dN:AV):=rfl
theorem S6 {eb:Bool}:AV.df (dL eb)=(dL eb:AV):=by cases eb<;>rfl
theorem K7 {z:Value}:AV.bR (.v z)=false:=rfl
theorem Gg {k:IntKind} {i:Int}:AV.bR (.int k i)=false:=rfl
theorem Ej {b:Bool}:AV.bR (.bool b)=false:=rfl
theorem Gh {l:List UInt8}:AV.bR (.str l)=false:=rfl
theorem Gi {s o:Nat}:AV.bR (.ptr s o)=false:=rfl
theorem Iu {a:AV} {o:Nat}:AV.bR (.ep a o)=false:=rfl
theorem Iv {f:Nat} {cs:List AV}:AV.bR (.fn f cs)=false:=rfl
theorem Iw:AV.bR (.un)=false:=rfl
theorem Ix {c:UInt8}:AV.bR (b8 c)=false:=rfl
theorem Iy {k:Nat} {xs:List AV}:AV.bR (.sl .n k xs)=false:=rfl
theorem Gj {k:Nat} {xs:List AV}:AV.bR (.sl .ex k xs)=false:=rfl
theorem Ek {k:Nat} {xs:List AV}:AV.bR (.sl .own k xs)=true:=rfl
theorem Gk {l:Loc} {k:Nat} {xs:List AV}:AV.bR (.sl (.fr l) k xs)=false:=rfl
theorem Gl {cs:List AV}:AV.bR (.agg cs)=false:=rfl
theorem Gm {cs:List AV}:AV.bR (.bz cs)=false:=rfl
theorem Gn {q0 k0 o0 m0:Nat}:AV.bR (.cA q0 k0 o0 m0)=false:=rfl
theorem Gp {q0 k0 m0 c0:Nat}:AV.bR (.cv q0 k0 m0 c0)=false:=rfl
theorem Gq:AV.bR (.dN)=false:=rfl
theorem Iz {eb:Bool}:AV.bR (dL eb)=false:=by cases eb<;>rfl
theorem S7 {z:Value}:AV.qa (.v z)=(.v z:AV):=rfl
theorem K8 {k:IntKind} {i:Int}:AV.qa (.int k i)=(.int k i:AV):=rfl
theorem IA {b:Bool}:AV.qa (.bool b)=(.bool b:AV):=rfl
theorem K9 {l:List UInt8}:AV.qa (.str l)=(.str l:AV):=rfl
theorem La {s o:Nat}:AV.qa (.ptr s o)=(.ptr s o:AV):=rfl
theorem Pj {a:AV} {o:Nat}:AV.qa (.ep a o)=(.ep a o:AV):=rfl
theorem Pm {f:Nat} {cs:List AV}:AV.qa (.fn f cs)=(.fn f cs:AV):=rfl
theorem Pn:AV.qa (.un)=(.un:AV):=rfl
theorem Po {c:UInt8}:AV.qa (b8 c)=(b8 c:AV):=rfl
theorem Pp {k:Nat} {xs:List AV}:AV.qa (.sl .n k xs)=(.sl .n k xs:AV):=rfl
theorem Lb {k:Nat} {xs:List AV}:AV.qa (.sl .ex k xs)=(.sl .ex k xs:AV):=rfl
theorem IB {k:Nat} {xs:List AV}:AV.qa (.sl .own k xs)=(.sl .n k xs:AV):=rfl
theorem Lc {l:Loc} {k:Nat} {xs:List AV}:AV.qa (.sl (.fr l) k xs)=(.sl (.fr l) k xs:AV):=rfl
theorem Ld {cs:List AV}:AV.qa (.agg cs)=(.agg cs:AV):=rfl
theorem Le {cs:List AV}:AV.qa (.bz cs)=(.bz cs:AV):=rfl
theorem Lf {q0 k0 o0 m0:Nat}:AV.qa (.cA q0 k0 o0 m0)=(.cA q0 k0 o0 m0:AV):=rfl
theorem Lg {q0 k0 m0 c0:Nat}:AV.qa (.cv q0 k0 m0 c0)=(.cv q0 k0 m0 c0:AV):=rfl
theorem Lh:AV.qa (.dN)=(.dN:AV):=rfl
theorem Pq {eb:Bool}:AV.qa (dL eb)=(dL eb:AV):=by cases eb<;>rfl
theorem Pr {z:Value} {l0:Loc}:AV.eo l0 (.v z)=(.v z:AV):=rfl
theorem IC {k:IntKind} {i:Int} {l0:Loc}:AV.eo l0 (.int k i)=(.int k i:AV):=rfl
theorem Gr {b:Bool} {l0:Loc}:AV.eo l0 (.bool b)=(.bool b:AV):=rfl
theorem ID {l:List UInt8} {l0:Loc}:AV.eo l0 (.str l)=(.str l:AV):=rfl
theorem IE {s o:Nat} {l0:Loc}:AV.eo l0 (.ptr s o)=(.ptr s o:AV):=rfl
theorem Li {a:AV} {o:Nat} {l0:Loc}:AV.eo l0 (.ep a o)=(.ep a o:AV):=rfl
theorem Lj {f:Nat} {cs:List AV} {l0:Loc}:AV.eo l0 (.fn f cs)=(.fn f cs:AV):=rfl
theorem Ll {l0:Loc}:AV.eo l0 (.un)=(.un:AV):=rfl
theorem Lm {c:UInt8} {l0:Loc}:AV.eo l0 (b8 c)=(b8 c:AV):=rfl
theorem Ln {k:Nat} {xs:List AV} {l0:Loc}:AV.eo l0 (.sl .n k xs)=(.sl .n k xs:AV):=rfl
theorem IF {k:Nat} {xs:List AV} {l0:Loc}:AV.eo l0 (.sl .ex k xs)=(.sl .ex k xs:AV):=rfl
theorem Gs {k:Nat} {xs:List AV} {l0:Loc}:AV.eo l0 (.sl .own k xs)=(.sl .own k xs:AV):=rfl
theorem IG {l:Loc} {k:Nat} {xs:List AV} {l0:Loc}:AV.eo l0 (.sl (.fr l) k xs)=if l=l0 then .sl .n k xs else .sl (.fr l) k xs:=rfl
theorem II {cs:List AV} {l0:Loc}:AV.eo l0 (.agg cs)=(.agg cs:AV):=rfl
theorem IJ {cs:List AV} {l0:Loc}:AV.eo l0 (.bz cs)=(.bz cs:AV):=rfl
theorem IK {q0 k0 o0 m0:Nat} {l0:Loc}:AV.eo l0 (.cA q0 k0 o0 m0)=(.cA q0 k0 o0 m0:AV):=rfl
theorem IL {q0 k0 m0 c0:Nat} {l0:Loc}:AV.eo l0 (.cv q0 k0 m0 c0)=(.cv q0 k0 m0 c0:AV):=rfl
theorem IM {l0:Loc}:AV.eo l0 (.dN)=(.dN:AV):=rfl
theorem Lo {eb:Bool} {l0:Loc}:AV.eo l0 (dL eb)=(dL eb:AV):=by cases eb<;>rfl
theorem S8 {z:Value}:AV.iT (.v z)=(.v z:AV):=rfl
theorem Lp {k:IntKind} {i:Int}:AV.iT (.int k i)=(.int k i:AV):=rfl
theorem IN {b:Bool}:AV.iT (.bool b)=(.bool b:AV):=rfl
theorem Lq {l:List UInt8}:AV.iT (.str l)=(.str l:AV):=rfl
theorem Lr {s o:Nat}:AV.iT (.ptr s o)=(.ptr s o:AV):=rfl
theorem Pt {a:AV} {o:Nat}:AV.iT (.ep a o)=(.ep a o:AV):=rfl
theorem Pu {f:Nat} {cs:List AV}:AV.iT (.fn f cs)=(.fn f cs:AV):=rfl
theorem Pv:AV.iT (.un)=(.un:AV):=rfl
theorem Pw {c:UInt8}:AV.iT (b8 c)=(b8 c:AV):=rfl
theorem Px {k:Nat} {xs:List AV}:AV.iT (.sl .n k xs)=(.sl .n k xs:AV):=rfl
theorem Ls {k:Nat} {xs:List AV}:AV.iT (.sl .ex k xs)=(.sl .ex k xs:AV):=rfl
theorem IP {k:Nat} {xs:List AV}:AV.iT (.sl .own k xs)=(.sl .own k xs:AV):=rfl
theorem Lt {cs:List AV}:AV.iT (.agg cs)=(.agg cs:AV):=rfl
theorem Lu {cs:List AV}:AV.iT (.bz cs)=(.bz cs:AV):=rfl
theorem Lv {q0 k0 o0 m0:Nat}:AV.iT (.cA q0 k0 o0 m0)=(.cA q0 k0 o0 m0:AV):=rfl
theorem Lw {q0 k0 m0 c0:Nat}:AV.iT (.cv q0 k0 m0 c0)=(.cv q0 k0 m0 c0:AV):=rfl
theorem Lx:AV.iT (.dN)=(.dN:AV):=rfl
theorem Py {eb:Bool}:AV.iT (dL eb)=(dL eb:AV):=by cases eb<;>rfl
theorem S9 {a b k:Nat} {xs:List AV}:AV.iT (.sl (.fr (.cell a b)) k xs)= .sl .n k xs:=rfl
theorem Ta {a k:Nat} {xs:List AV}:AV.iT (.sl (.fr (.tmp a)) k xs)= .sl (.fr (.tmp a)) k xs:=rfl
theorem Ly {z:Value}:AV.cells (.v z)=[.v z]:=rfl
theorem Gt {k:IntKind} {i:Int}:AV.cells (.int k i)=[.int k i]:=rfl
theorem El {b:Bool}:AV.cells (.bool b)=[.bool b]:=rfl
theorem Gu {l:List UInt8}:AV.cells (.str l)=[.str l]:=rfl
theorem Gv {s o:Nat}:AV.cells (.ptr s o)=[.ptr s o]:=rfl
theorem IQ {a:AV} {o:Nat}:AV.cells (.ep a o)=[.ep a o]:=rfl
theorem IT {f:Nat} {cs:List AV}:AV.cells (.fn f cs)=[.fn f cs]:=rfl
theorem IU:AV.cells (.un)=[.un]:=rfl
theorem IV {c:UInt8}:AV.cells (b8 c)=[b8 c]:=rfl
theorem IW {k:Nat} {xs:List AV}:AV.cells (.sl .n k xs)=[.sl .n k xs]:=rfl
theorem Gw {k:Nat} {xs:List AV}:AV.cells (.sl .ex k xs)=[.sl .ex k xs]:=rfl
theorem Em {k:Nat} {xs:List AV}:AV.cells (.sl .own k xs)=[.sl .own k xs]:=rfl
theorem Gx {l:Loc} {k:Nat} {xs:List AV}:AV.cells (.sl (.fr l) k xs)=[.sl (.fr l) k xs]:=rfl
theorem Gy {cs:List AV}:AV.cells (.agg cs)=cs:=rfl
theorem Gz {cs:List AV}:AV.cells (.bz cs)=[.bz cs]:=rfl
theorem GA {q0 k0 o0 m0:Nat}:AV.cells (.cA q0 k0 o0 m0)=[.cA q0 k0 o0 m0]:=rfl
theorem GB {q0 k0 m0 c0:Nat}:AV.cells (.cv q0 k0 m0 c0)=[.cv q0 k0 m0 c0]:=rfl
theorem GC:AV.cells (.dN)=[.dN]:=rfl
theorem IX {eb:Bool}:AV.cells (dL eb)=[dL eb]:=by cases eb<;>rfl
theorem Tb {z:Value}:AV.iV (.v z)=true:=rfl
theorem Lz {k:IntKind} {i:Int}:AV.iV (.int k i)=true:=rfl
theorem IY {b:Bool}:AV.iV (.bool b)=true:=rfl
theorem LA {l:List UInt8}:AV.iV (.str l)=true:=rfl
theorem LB {s o:Nat}:AV.iV (.ptr s o)=true:=rfl
theorem Pz {a:AV} {o:Nat}:AV.iV (.ep a o)=true:=rfl
theorem PA {f:Nat} {cs:List AV}:AV.iV (.fn f cs)=true:=rfl
theorem PB:AV.iV (.un)=false:=rfl
theorem PD {c:UInt8}:AV.iV (b8 c)=true:=rfl
theorem PF {k:Nat} {xs:List AV}:AV.iV (.sl .n k xs)=true:=rfl
theorem LC {k:Nat} {xs:List AV}:AV.iV (.sl .ex k xs)=true:=rfl
theorem IZ {k:Nat} {xs:List AV}:AV.iV (.sl .own k xs)=true:=rfl
theorem LD {l:Loc} {k:Nat} {xs:List AV}:AV.iV (.sl (.fr l) k xs)=true:=rfl
theorem LF {cs:List AV}:AV.iV (.agg cs)=false:=rfl
theorem LG {cs:List AV}:AV.iV (.bz cs)=false:=rfl
theorem LH {q0 k0 o0 m0:Nat}:AV.iV (.cA q0 k0 o0 m0)=true:=rfl
theorem LI {q0 k0 m0 c0:Nat}:AV.iV (.cv q0 k0 m0 c0)=true:=rfl
theorem LJ:AV.iV (.dN)=true:=rfl
theorem PG {eb:Bool}:AV.iV (dL eb)=true:=by cases eb<;>rfl
theorem PI {z:Value}:AV.flat (.v z)=true:=rfl
theorem I0 {k:IntKind} {i:Int}:AV.flat (.int k i)=true:=rfl
theorem GD {b:Bool}:AV.flat (.bool b)=true:=rfl
theorem I1 {l:List UInt8}:AV.flat (.str l)=true:=rfl
theorem I2 {s o:Nat}:AV.flat (.ptr s o)=true:=rfl
theorem LK {a:AV} {o:Nat}:AV.flat (.ep a o)=true:=rfl
theorem LL {f:Nat} {cs:List AV}:AV.flat (.fn f cs)=true:=rfl
theorem LM:AV.flat (.un)=true:=rfl
theorem LN {c:UInt8}:AV.flat (b8 c)=true:=rfl
theorem LO {k:Nat} {xs:List AV}:AV.flat (.sl .n k xs)=true:=rfl
theorem I3 {k:Nat} {xs:List AV}:AV.flat (.sl .ex k xs)=true:=rfl
theorem GG {k:Nat} {xs:List AV}:AV.flat (.sl .own k xs)=true:=rfl
theorem I4 {l:Loc} {k:Nat} {xs:List AV}:AV.flat (.sl (.fr l) k xs)=true:=rfl
theorem I5 {cs:List AV}:AV.flat (.agg cs)=false:=rfl
theorem I6 {cs:List AV}:AV.flat (.bz cs)=false:=rfl
theorem I7 {q0 k0 o0 m0:Nat}:AV.flat (.cA q0 k0 o0 m0)=true:=rfl
theorem I8 {q0 k0 m0 c0:Nat}:AV.flat (.cv q0 k0 m0 c0)=true:=rfl
theorem I9:AV.flat (.dN)=true:=rfl
theorem LP {eb:Bool}:AV.flat (dL eb)=true:=by cases eb<;>rfl
theorem Ws {z:Value}:AV.np (.v z)=true:=rfl
theorem PJ {k:IntKind} {i:Int}:AV.np (.int k i)=true:=rfl
theorem LQ {b:Bool}:AV.np (.bool b)=true:=rfl
theorem PK {l:List UInt8}:AV.np (.str l)=true:=rfl
theorem PL {s o:Nat}:AV.np (.ptr s o)=false:=rfl
theorem Tc {a:AV} {o:Nat}:AV.np (.ep a o)=true:=rfl
theorem Td {f:Nat} {cs:List AV}:AV.np (.fn f cs)=cs.isEmpty:=rfl
theorem Te:AV.np (.un)=true:=rfl
theorem Tf {c:UInt8}:AV.np (b8 c)=true:=rfl
theorem Th {k:Nat} {xs:List AV}:AV.np (.sl .n k xs)=true:=rfl
theorem PM {k:Nat} {xs:List AV}:AV.np (.sl .ex k xs)=true:=rfl
theorem LR {k:Nat} {xs:List AV}:AV.np (.sl .own k xs)=true:=rfl
theorem PN {l:Loc} {k:Nat} {xs:List AV}:AV.np (.sl (.fr l) k xs)=true:=rfl
theorem PO {cs:List AV}:AV.np (.agg cs)=false:=rfl
theorem PR {cs:List AV}:AV.np (.bz cs)=false:=rfl
theorem PS {q0 k0 o0 m0:Nat}:AV.np (.cA q0 k0 o0 m0)=false:=rfl
theorem PT {q0 k0 m0 c0:Nat}:AV.np (.cv q0 k0 m0 c0)=false:=rfl
theorem PU:AV.np (.dN)=true:=rfl
theorem Ti {eb:Bool}:AV.np (dL eb)=true:=by cases eb<;>rfl
theorem LS {z:Value}:AV.eH (.v z)=false:=rfl
theorem GH {k:IntKind} {i:Int}:AV.eH (.int k i)=false:=rfl
theorem En {b:Bool}:AV.eH (.bool b)=false:=rfl
theorem GI {l:List UInt8}:AV.eH (.str l)=false:=rfl
theorem GJ {s o:Nat}:AV.eH (.ptr s o)=false:=rfl
theorem Ja {a:AV} {o:Nat}:AV.eH (.ep a o)=false:=rfl
theorem Jb {f:Nat} {cs:List AV}:AV.eH (.fn f cs)=false:=rfl
theorem Jc:AV.eH (.un)=false:=rfl
theorem Jd {c:UInt8}:AV.eH (b8 c)=false:=rfl
theorem Je {k:Nat} {xs:List AV}:AV.eH (.sl .n k xs)=false:=rfl
theorem GK {k:Nat} {xs:List AV}:AV.eH (.sl .ex k xs)=false:=rfl
theorem Eo {k:Nat} {xs:List AV}:AV.eH (.sl .own k xs)=false:=rfl
theorem GL {l:Loc} {k:Nat} {xs:List AV}:AV.eH (.sl (.fr l) k xs)=false:=rfl
theorem GM {cs:List AV}:AV.eH (.agg cs)=false:=rfl
theorem GN {cs:List AV}:AV.eH (.bz cs)=true:=rfl
theorem GP {q0 k0 o0 m0:Nat}:AV.eH (.cA q0 k0 o0 m0)=false:=rfl
theorem GQ {q0 k0 m0 c0:Nat}:AV.eH (.cv q0 k0 m0 c0)=false:=rfl
theorem GR:AV.eH (.dN)=false:=rfl
theorem Jf {eb:Bool}:AV.eH (dL eb)=false:=by cases eb<;>rfl
theorem Wt {L:List Nat} {x:Ar} {z:Value}:cp L x (.v z)= .v z:=rfl
theorem PV {L:List Nat} {x:Ar} {k:IntKind} {i:Int}:cp L x (.int k i)= .int k i:=rfl
theorem LU {L:List Nat} {x:Ar} {b:Bool}:cp L x (.bool b)= .bool b:=rfl
theorem PW {L:List Nat} {x:Ar} {l:List UInt8}:cp L x (.str l)= .str l:=rfl
theorem PX {L:List Nat} {x:Ar} {s o:Nat}:cp L x (.ptr s o)= .ptr s o:=rfl
theorem Tj {L:List Nat} {x:Ar} {a:AV} {o:Nat}:cp L x (.ep a o)= .ep a o:=rfl
theorem Tk {L:List Nat} {x:Ar} {f:Nat} {cs:List AV}:cp L x (.fn f cs)= .fn f cs:=rfl
theorem Tl {L:List Nat} {x:Ar}:cp L x (.un)= .un:=rfl
theorem Tm {L:List Nat} {x:Ar} {c:UInt8}:cp L x (b8 c)=b8 c:=rfl
theorem Tn {L:List Nat} {x:Ar} {k:Nat} {xs:List AV}:cp L x (.sl .n k xs)= .sl .n k xs:=rfl
theorem PY {L:List Nat} {x:Ar} {k:Nat} {xs:List AV}:cp L x (.sl .ex k xs)= .sl .ex k xs:=rfl
theorem PZ {L:List Nat} {x:Ar} {l:Loc} {k:Nat} {xs:List AV}:cp L x (.sl (.fr l) k xs)= .sl (.fr l) k xs:=rfl
theorem P0 {L:List Nat} {x:Ar} {cs:List AV}:cp L x (.agg cs)= .agg (cs.map AV.br):=rfl
theorem P1 {L:List Nat} {x:Ar} {cs:List AV}:cp L x (.bz cs)= .bz (cs.map AV.br):=rfl
theorem P2 {L:List Nat} {x:Ar} {q0 k0 o0 m0:Nat}:cp L x (.cA q0 k0 o0 m0)= .cA q0 k0 o0 m0:=rfl
theorem P3 {L:List Nat} {x:Ar} {q0 k0 m0 c0:Nat}:cp L x (.cv q0 k0 m0 c0)= .cv q0 k0 m0 c0:=rfl
theorem P4 {L:List Nat} {x:Ar}:cp L x (.dN)= .dN:=rfl
theorem To {L:List Nat} {x:Ar} {eb:Bool}:cp L x (dL eb)=dL eb:=by cases eb<;>rfl
theorem Tp {L:List Nat} {u k:Nat} {xs:List AV}:cp L (.t u) (.sl .own k xs)=if L.contains u then .sl (.fr (.tmp u)) k xs else .sl .n k xs:=rfl
theorem Tq {L:List Nat} {a:AV} {k:Nat} {xs:List AV}:cp L (.c a) (.sl .own k xs)= .sl .n k xs:=rfl
theorem Tr {P:Program} {L:List Nat} {N n0:Nat} {e:Env} {ah:AH} {t:List It} {Q:Exit→Env→AH→Prop} {r:List aL} {d:Option Nat} {x:Ar} {z:Value}:jL P L N n0 e ah d r t Q x (.v z)=U P L N n0 (.ops r::t) Q .normal (aG L e d (cp L x (.v z))) ah:=rfl
theorem LV {P:Program} {L:List Nat} {N n0:Nat} {e:Env} {ah:AH} {t:List It} {Q:Exit→Env→AH→Prop} {r:List aL} {d:Option Nat} {x:Ar} {k:IntKind} {i:Int}:jL P L N n0 e ah d r t Q x (.int k i)=U P L N n0 (.ops r::t) Q .normal (aG L e d (cp L x (.int k i))) ah:=rfl
theorem Jg {P:Program} {L:List Nat} {N n0:Nat} {e:Env} {ah:AH} {t:List It} {Q:Exit→Env→AH→Prop} {r:List aL} {d:Option Nat} {x:Ar} {b:Bool}:jL P L N n0 e ah d r t Q x (.bool b)=U P L N n0 (.ops r::t) Q .normal (aG L e d (cp L x (.bool b))) ah:=rfl
theorem LW {P:Program} {L:List Nat} {N n0:Nat} {e:Env} {ah:AH} {t:List It} {Q:Exit→Env→AH→Prop} {r:List aL} {d:Option Nat} {x:Ar} {l:List UInt8}:jL P L N n0 e ah d r t Q x (.str l)=U P L N n0 (.ops r::t) Q .normal (aG L e d (cp L x (.str l))) ah:=rfl
theorem LX {P:Program} {L:List Nat} {N n0:Nat} {e:Env} {ah:AH} {t:List It} {Q:Exit→Env→AH→Prop} {r:List aL} {d:Option Nat} {x:Ar} {s o:Nat}:jL P L N n0 e ah d r t Q x (.ptr s o)=U P L N n0 (.ops r::t) Q .normal (aG L e d (cp L x (.ptr s o))) ah:=rfl
theorem P5 {P:Program} {L:List Nat} {N n0:Nat} {e:Env} {ah:AH} {t:List It} {Q:Exit→Env→AH→Prop} {r:List aL} {d:Option Nat} {x:Ar} {a:AV} {o:Nat}:jL P L N n0 e ah d r t Q x (.ep a o)=U P L N n0 (.ops r::t) Q .normal (aG L e d (cp L x (.ep a o))) ah:=rfl
theorem P6 {P:Program} {L:List Nat} {N n0:Nat} {e:Env} {ah:AH} {t:List It} {Q:Exit→Env→AH→Prop} {r:List aL} {d:Option Nat} {x:Ar} {f:Nat} {cs:List AV}:jL P L N n0 e ah d r t Q x (.fn f cs)=U P L N n0 (.ops r::t) Q .normal (aG L e d (cp L x (.fn f cs))) ah:=rfl
theorem P7 {P:Program} {L:List Nat} {N n0:Nat} {e:Env} {ah:AH} {t:List It} {Q:Exit→Env→AH→Prop} {r:List aL} {d:Option Nat} {x:Ar}:jL P L N n0 e ah d r t Q x (.un)=U P L N n0 (.ops r::t) Q .normal (aG L e d (cp L x (.un))) ah:=rfl
theorem P8 {P:Program} {L:List Nat} {N n0:Nat} {e:Env} {ah:AH} {t:List It} {Q:Exit→Env→AH→Prop} {r:List aL} {d:Option Nat} {x:Ar} {c:UInt8}:jL P L N n0 e ah d r t Q x (b8 c)=U P L N n0 (.ops r::t) Q .normal (aG L e d (cp L x (b8 c))) ah:=rfl
theorem P9 {P:Program} {L:List Nat} {N n0:Nat} {e:Env} {ah:AH} {t:List It} {Q:Exit→Env→AH→Prop} {r:List aL} {d:Option Nat} {x:Ar} {k:Nat} {xs:List AV}:jL P L N n0 e ah d r t Q x (.sl .n k xs)=U P L N n0 (.ops r::t) Q .normal (aG L e d (cp L x (.sl .n k xs))) ah:=rfl
theorem LY {P:Program} {L:List Nat} {N n0:Nat} {e:Env} {ah:AH} {t:List It} {Q:Exit→Env→AH→Prop} {r:List aL} {d:Option Nat} {x:Ar} {k:Nat} {xs:List AV}:jL P L N n0 e ah d r t Q x (.sl .ex k xs)=U P L N n0 (.ops r::t) Q .normal (aG L e d (cp L x (.sl .ex k xs))) ah:=rfl
theorem LZ {P:Program} {L:List Nat} {N n0:Nat} {e:Env} {ah:AH} {t:List It} {Q:Exit→Env→AH→Prop} {r:List aL} {d:Option Nat} {x:Ar} {l:Loc} {k:Nat} {xs:List AV}:jL P L N n0 e ah d r t Q x (.sl (.fr l) k xs)=U P L N n0 (.ops r::t) Q .normal (aG L e d (cp L x (.sl (.fr l) k xs))) ah:=rfl
theorem L0 {P:Program} {L:List Nat} {N n0:Nat} {e:Env} {ah:AH} {t:List It} {Q:Exit→Env→AH→Prop} {r:List aL} {d:Option Nat} {x:Ar} {cs:List AV}:jL P L N n0 e ah d r t Q x (.agg cs)=U P L N n0 (.ops r::t) Q .normal (aG L e d (cp L x (.agg cs))) ah:=rfl
theorem L1 {P:Program} {L:List Nat} {N n0:Nat} {e:Env} {ah:AH} {t:List It} {Q:Exit→Env→AH→Prop} {r:List aL} {d:Option Nat} {x:Ar} {cs:List AV}:jL P L N n0 e ah d r t Q x (.bz cs)=U P L N n0 (.ops r::t) Q .normal (aG L e d (cp L x (.bz cs))) ah:=rfl
theorem L2 {P:Program} {L:List Nat} {N n0:Nat} {e:Env} {ah:AH} {t:List It} {Q:Exit→Env→AH→Prop} {r:List aL} {d:Option Nat} {x:Ar} {q0 k0 o0 m0:Nat}:jL P L N n0 e ah d r t Q x (.cA q0 k0 o0 m0)=U P L N n0 (.ops r::t) Q .normal (aG L e d (cp L x (.cA q0 k0 o0 m0))) ah:=rfl
theorem L3 {P:Program} {L:List Nat} {N n0:Nat} {e:Env} {ah:AH} {t:List It} {Q:Exit→Env→AH→Prop} {r:List aL} {d:Option Nat} {x:Ar} {q0 k0 m0 c0:Nat}:jL P L N n0 e ah d r t Q x (.cv q0 k0 m0 c0)=U P L N n0 (.ops r::t) Q .normal (aG L e d (cp L x (.cv q0 k0 m0 c0))) ah:=rfl
theorem L4 {P:Program} {L:List Nat} {N n0:Nat} {e:Env} {ah:AH} {t:List It} {Q:Exit→Env→AH→Prop} {r:List aL} {d:Option Nat} {x:Ar}:jL P L N n0 e ah d r t Q x (.dN)=U P L N n0 (.ops r::t) Q .normal (aG L e d (cp L x (.dN))) ah:=rfl
theorem Qa {P:Program} {L:List Nat} {N n0:Nat} {e:Env} {ah:AH} {t:List It} {Q:Exit→Env→AH→Prop} {r:List aL} {d:Option Nat} {x:Ar} {eb:Bool}:jL P L N n0 e ah d r t Q x (dL eb)=U P L N n0 (.ops r::t) Q .normal (aG L e d (cp L x (dL eb))) ah:=by cases eb<;>rfl
theorem Qb {P:Program} {L:List Nat} {N n0:Nat} {e:Env} {ah:AH} {t:List It} {Q:Exit→Env→AH→Prop} {r:List aL} {d:Option Nat} {y k:Nat} {xs:List AV}:jL P L N n0 e ah d r t Q (.t y) (.sl .own k xs)=U P L N n0 (.ops r::t) Q .normal (aG L (put e y (.sl .n k xs)) d (.sl .own k xs)) ah:=rfl
theorem Qc {P:Program} {L:List Nat} {N n0:Nat} {e:Env} {ah:AH} {t:List It} {Q:Exit→Env→AH→Prop} {r:List aL} {d:Option Nat} {a:AV} {k:Nat} {xs:List AV}:jL P L N n0 e ah d r t Q (.c a) (.sl .own k xs)=U P L N n0 (.ops r::t) Q .normal (aG L e d (cp L (.c a) (.sl .own k xs))) ah:=rfl
theorem Qd {L:List Nat} {e:Env} {ah:AH} {d:Option Nat} {a b:Ar}:KK L e ah d a b (.bool true)=some (aG L e d (ev e a).sh,ah):=rfl
theorem Qe {L:List Nat} {e:Env} {ah:AH} {d:Option Nat} {a b:Ar}:KK L e ah d a b (.bool false)=some (aG L e d (ev e b).sh,ah):=rfl
theorem L5 {L:List Nat} {e:Env} {ah:AH} {d:Option Nat} {s o:Nat}:R5 L e ah d (.ptr s o)=some (aG L e d (.ptr s o),ah):=rfl
theorem Qf {L:List Nat} {e:Env} {ah:AH} {d:Option Nat} {a:AV} {o:Nat}:R5 L e ah d (.ep a o)=some (aG L e d (.ep a o),ah):=rfl
theorem L6 {L:List Nat} {e:Env} {ah:AH} {d:Option Nat} {q s o:Nat}:R6 L e ah d q (.ptr s o)=some (aG L e d (.ptr s (o+q)),ah):=rfl
theorem Qg {L:List Nat} {e:Env} {ah:AH} {d:Option Nat} {q o:Nat} {a:AV}:R6 L e ah d q (.ep a o)=some (aG L e d (.ep a (o+q)),ah):=rfl
theorem Qh {L:List Nat} {e:Env} {ah:AH} {d:Option Nat} {n:Option Nat} {s o:Nat}:F4 L d n e ah (.ptr s o)=VS L d n s o e ah (ah[s]?):=rfl
theorem Ts {L:List Nat} {e:Env} {ah:AH} {d:Option Nat} {o:Nat} {a:AV}:F4 L d none e ah (.ep a o)=Ot L d e ah (a.cells[o]?):=rfl
theorem Tt {L:List Nat} {e:Env} {ah:AH} {d:Option Nat} {n o:Nat} {a:AV}:F4 L d (some n) e ah (.ep a o)=if o+n≤a.cells.length∧aU ((a.cells.drop o).take n) then some (aG L e d (.agg (((a.cells.drop o).take n).map AV.s1)),ah) else none:=rfl
theorem Tu {s1 o1:Nat} {z:Value}:dM s1 o1 (some (.v z))=some (AV.br (.v z)):=rfl
theorem L7 {s1 o1:Nat} {k:IntKind} {i:Int}:dM s1 o1 (some (.int k i))=some (AV.br (.int k i)):=rfl
theorem Jh {s1 o1:Nat} {b:Bool}:dM s1 o1 (some (.bool b))=some (AV.br (.bool b)):=rfl
theorem L8 {s1 o1:Nat} {l:List UInt8}:dM s1 o1 (some (.str l))=some (AV.br (.str l)):=rfl
theorem L9 {s1 o1:Nat} {s o:Nat}:dM s1 o1 (some (.ptr s o))=some (AV.br (.ptr s o)):=rfl
theorem Qi {s1 o1:Nat} {a:AV} {o:Nat}:dM s1 o1 (some (.ep a o))=some (AV.br (.ep a o)):=rfl
theorem Qj {s1 o1:Nat} {f:Nat} {cs:List AV}:dM s1 o1 (some (.fn f cs))=some (AV.br (.fn f cs)):=rfl
theorem Qk {s1 o1:Nat}:dM s1 o1 (some (.un))=some (AV.br (.un)):=rfl
theorem Ql {s1 o1:Nat} {c:UInt8}:dM s1 o1 (some (b8 c))=some (AV.br (b8 c)):=rfl
theorem Qm {s1 o1:Nat} {k:Nat} {xs:List AV}:dM s1 o1 (some (.sl .n k xs))=some (AV.br (.sl .n k xs)):=rfl
theorem Ma {s1 o1:Nat} {k:Nat} {xs:List AV}:dM s1 o1 (some (.sl .ex k xs))=some (AV.br (.sl .ex k xs)):=rfl
theorem Mb {s o k:Nat} {xs:List AV}:dM s o (some (.sl .own k xs))=some (.sl (.fr (.cell s o)) k xs):=rfl
theorem Mc {s1 o1:Nat} {l:Loc} {k:Nat} {xs:List AV}:dM s1 o1 (some (.sl (.fr l) k xs))=some (AV.br (.sl (.fr l) k xs)):=rfl
theorem Md {s1 o1:Nat} {q0 k0 o0 m0:Nat}:dM s1 o1 (some (.cA q0 k0 o0 m0))=some (AV.br (.cA q0 k0 o0 m0)):=rfl
theorem Me {s1 o1:Nat} {q0 k0 m0 c0:Nat}:dM s1 o1 (some (.cv q0 k0 m0 c0))=some (AV.br (.cv q0 k0 m0 c0)):=rfl
theorem Mf {s1 o1:Nat}:dM s1 o1 (some (.dN))=some (AV.br (.dN)):=rfl
theorem Qn {s1 o1:Nat} {eb:Bool}:dM s1 o1 (some (dL eb))=some (AV.br (dL eb)):=by cases eb<;>rfl
theorem Wu {L:List Nat} {e:Env} {ah:AH} {d:Option Nat} {ks:List Pk} {neq:Bool} {zq bs:List AV}:XB L e ah d ks neq (.agg zq) (.agg bs)=(cq ks zq bs).map fun b=>(aG L e d (.bool (if neq then !b else b)),ah):=rfl
theorem Wv {L:List Nat} {e:Env} {ah:AH} {d:Option Nat} {l:List UInt8} {k k2:IntKind} {i j:Int}:Ns L e ah d l (.int k i) (.int k2 j)=(sub l i j).map fun m=>(aG L e d (.str m),ah):=rfl
theorem Ww {L:List Nat} {e:Env} {ah:AH} {d:Option Nat} {q:Nat} {xs:List AV} {k k2:IntKind} {i j:Int}:Nt L e ah d q xs (.int k i) (.int k2 j)=(sub xs i j).map fun ys=>(aG L e d (.sl .n q ys),ah):=rfl
theorem Tv {L:List Nat} {e:Env} {ah:AH} {d:Option Nat} {q:Nat} {xs:List AV} {k k2 k3:IntKind} {i j m:Int}:CU L e ah d q xs (.int k i) (.int k2 j) (.int k3 m)=(Bj xs i j m).map fun ys=>(aG L e d (.sl .ex q ys),ah):=rfl
theorem Tw {L:List Nat} {e:Env} {ah:AH} {d:Option Nat} {k b:Nat} {x:Ar} {ys xs:List AV} {tg:Tg}:Gc L e ah d k b x ys (.sl tg k xs)=CV L e ah d k x xs tg (eE b xs ys):=by simp [Gc]
theorem Tx {L:List Nat} {e:Env} {ah:AH} {d:Option Nat} {k:Nat} {x:Ar} {xs zs:List AV}:rP L e ah d k x xs zs .ex=some (aG L e d (.sl .own k zs),ah):=rfl
theorem Qo {L:List Nat} {e:Env} {ah:AH} {d:Option Nat} {k y:Nat} {xs zs:List AV}:rP L e ah d k (.t y) xs zs .own=some (aG L (put e y (.sl .n k xs)) d (.sl .own k zs),ah):=rfl
def Zm (L:List Nat) (e:Env) (ah:AH) (d:Option Nat) (k u:Nat) (zs:List AV):AV→Option (Env×AH)
 | .sl .own k' us=>if k'=k then some (aG L (put e u (.sl .n k' us)) d (.sl .own k zs),ah) else none
 |_=>none
def Wy (L:List Nat) (e:Env) (ah:AH) (d:Option Nat) (k s q:Nat) (zs cs:List AV):Option AV→Option (Env×AH)
 |some (.sl .own k' us)=>if k'=k then (over cs q [.sl .n k' us]).map fun cs=>(aG L e d (.sl .own k zs),ah.set s cs) else none
 |_=>none
def Zn (L:List Nat) (e:Env) (ah:AH) (d:Option Nat) (k s q:Nat) (zs:List AV):Option (List AV)→Option (Env×AH)
 |some cs=>Wy L e ah d k s q zs cs (cs[q]?)
 |none=>none
theorem Wz {L:List Nat} {e:Env} {ah:AH} {d:Option Nat} {k u:Nat} {x:Ar} {xs zs:List AV}:rP L e ah d k x xs zs (.fr (.tmp u))=Zm L e ah d k u zs (Am.get e u):=by simp only [rP];cases Am.get e u with|sl tg k2 us=>cases tg<;>rfl|_=>rfl
theorem WA {L:List Nat} {e:Env} {ah:AH} {d:Option Nat} {k s q:Nat} {x:Ar} {xs zs:List AV}:rP L e ah d k x xs zs (.fr (.cell s q))=Zn L e ah d k s q zs (ah[s]?):=by simp only [rP];cases ah[s]? with|none=>rfl|some cs=>simp only [Zn];cases cs[q]? with|none=>rfl|some a=>cases a with|sl tg k2 us=>cases tg<;>rfl|_=>rfl
theorem Zo {L:List Nat} {e:Env} {ah:AH} {d:Option Nat} {k u:Nat} {zs us:List AV}:Zm L e ah d k u zs (.sl .own k us)=some (aG L (put e u (.sl .n k us)) d (.sl .own k zs),ah):=by simp [Zm]
theorem Zp {L:List Nat} {e:Env} {ah:AH} {d:Option Nat} {k s q:Nat} {zs cs:List AV}:Zn L e ah d k s q zs (some cs)=Wy L e ah d k s q zs cs (cs[q]?):=rfl
theorem Zq {L:List Nat} {e:Env} {ah:AH} {d:Option Nat} {k s q:Nat} {zs cs us:List AV}:Wy L e ah d k s q zs cs (some (.sl .own k us))=(over cs q [.sl .n k us]).map fun cs=>(aG L e d (.sl .own k zs),ah.set s cs):=by simp [Wy]
theorem Zr:aU []=true:=rfl
theorem Zs {a:AV} {r:List AV}:aU (a::r)=(a.flat&&aU r):=rfl
theorem Zt:bZ []=true:=rfl
theorem abm {a:AV} {r:List AV}:bZ (a::r)=(a.iV&&bZ r):=rfl
theorem Zu:fY []=true:=rfl
theorem abn {a:AV} {r:List AV}:fY (a::r)=(a.np&&fY r):=rfl
theorem abo {t:Nat}:Am.get [] t= .un:=rfl
theorem abp {i t:Nat} {a:AV} {r:Env}:Am.get ((i,a)::r) t=if i=t then a else Am.get r t:=rfl
theorem abr {d:Nat} {a:AV}:put [] d a=[(d,a)]:=rfl
theorem abt {i d:Nat} {a b:AV} {r:Env}:put ((i,b)::r) d a=if i=d then (d,a)::r else if d<i then (d,a)::(i,b)::r else (i,b)::put r d a:=rfl
theorem abu {L:List Nat}:keep L []=[]:=rfl
theorem abv {L:List Nat} {i:Nat} {a:AV} {r:Env}:keep L ((i,a)::r)=if L.contains i then (i,a)::keep L r else keep L r:=rfl
theorem abw {l:Loc}:kR l []=[]:=rfl
theorem abx {l:Loc} {i:Nat} {a:AV} {r:Env}:kR l ((i,a)::r)=(i,a.eo l)::kR l r:=rfl
theorem aby:vv []=[]:=rfl
theorem abz {i:Nat} {a:AV} {r:Env}:vv ((i,a)::r)=(i,a.iT)::vv r:=rfl
theorem abA {e:Env}:oG e none=e:=rfl
theorem abB {e:Env} {d:Nat}:oG e (some d)=put e d (.bz []):=rfl
theorem abC {L:List Nat} {e:Env} {a:AV}:aG L e none a=e:=rfl
theorem abD {L:List Nat} {e:Env} {d:Nat} {a:AV}:aG L e (some d) a=if L.contains d then (if a.bR then put (kR (.tmp d) e) d a else put e d a.df) else put e d a:=rfl
theorem abE {i:Nat}:e4 i []=[]:=rfl
theorem abF {i:Nat} {a:AV} {r:List AV}:e4 i (a::r)=(i,a)::e4 (i+1) r:=rfl
theorem abG {k:IntKind} {i:Int}:XE k i= .int k i:=rfl
theorem abH {a b:Nat}:(Loc.tmp a=Loc.tmp b)=(a=b):=by simp
theorem abI {a b c d:Nat}:(Loc.cell a b=Loc.cell c d)=(a=c∧b=d):=by simp
theorem Zv {a c d:Nat}:(Loc.tmp a=Loc.cell c d)=False:=by simp
theorem Zw {a c d:Nat}:(Loc.cell c d=Loc.tmp a)=False:=by simp
def tO (e:Env) (ah:AH) (s p n:Nat) (x:Ar) (cs:List AV):AV→Option (Env×AH)
 | .sl .own k xs=>match x with
   | .t y=>if n=1 then (over cs p [.sl .own k xs]).map fun cs=>(kR (.cell s p) (put e y (.sl .n k xs)),ah.set s cs) else none
   | .c a=>if (AV.sl .own k xs).cells.length=n∧bZ (AV.sl .own k xs).cells then (over cs p ((AV.sl .own k xs).cells.map AV.br)).map fun cs=>(e,ah.set s cs) else none
 |w=>if w.cells.length=n∧bZ w.cells then (over cs p (w.cells.map AV.br)).map fun cs=>(e,ah.set s cs) else none
def WC (e:Env) (ah:AH) (s p n:Nat) (x:Ar):Option (List AV)→Option (Env×AH)
 |some cs=>tO e ah s p n x cs (ev e x)
 |none=>none
def Zx (e:Env) (ah:AH) (n:Nat) (x:Ar):AV→Option (Env×AH)
 | .ptr s p=>WC e ah s p n x (ah[s]?)
 |_=>none
theorem XM {P:Program} {L:List Nat} {N n0:Nat} {e:Env} {ah:AH} {t:List It} {Q:Exit→Env→AH→Prop} {r:List aL} {d:Option Nat} {a x:Ar} {n:Nat} {g:Option (Nat×Bool)}:UG P L N n0 ⟨d, .st a x n,g⟩ r t Q e ah (some true)=US P L N n0 r t Q (Zx e ah n x (ev e a)):=by
 simp only [UG,bK]
 congr 1
 cases ev e a with
 |ptr s p=>
  simp only [Zx]
  cases ah[s]? with
  |none=>rfl
  |some cs=>
   simp only [WC]
   cases ev e x with
   |sl tg k xs=>cases tg<;>cases x<;>rfl
   |_=>rfl
 |_=>rfl
theorem Zy {e:Env} {ah:AH} {s p n:Nat} {x:Ar}:Zx e ah n x (.ptr s p)=WC e ah s p n x (ah[s]?):=rfl
theorem Zz {e:Env} {ah:AH} {s p n:Nat} {x:Ar} {cs:List AV}:WC e ah s p n x (some cs)=tO e ah s p n x cs (ev e x):=rfl
theorem Qp {e:Env} {ah:AH} {s p n y k:Nat} {cs xs:List AV}:tO e ah s p n (.t y) cs (.sl .own k xs)=if n=1 then (over cs p [.sl .own k xs]).map fun cs=>(kR (.cell s p) (put e y (.sl .n k xs)),ah.set s cs) else none:=rfl
theorem Ty {e:Env} {ah:AH} {s p n:Nat} {x:Ar} {cs:List AV} {z:Value}:tO e ah s p n x cs (.v z)=if (AV.cells (.v z)).length=n∧bZ (AV.cells (.v z)) then (over cs p ((AV.cells (.v z)).map AV.br)).map fun cs=>(e,ah.set s cs) else none:=rfl
theorem Mg {e:Env} {ah:AH} {s p n:Nat} {x:Ar} {cs:List AV} {k:IntKind} {i:Int}:tO e ah s p n x cs (.int k i)=if (AV.cells (.int k i)).length=n∧bZ (AV.cells (.int k i)) then (over cs p ((AV.cells (.int k i)).map AV.br)).map fun cs=>(e,ah.set s cs) else none:=rfl
theorem Ji {e:Env} {ah:AH} {s p n:Nat} {x:Ar} {cs:List AV} {b:Bool}:tO e ah s p n x cs (.bool b)=if (AV.cells (.bool b)).length=n∧bZ (AV.cells (.bool b)) then (over cs p ((AV.cells (.bool b)).map AV.br)).map fun cs=>(e,ah.set s cs) else none:=rfl
theorem Mh {e:Env} {ah:AH} {s p n:Nat} {x:Ar} {cs:List AV} {l:List UInt8}:tO e ah s p n x cs (.str l)=if (AV.cells (.str l)).length=n∧bZ (AV.cells (.str l)) then (over cs p ((AV.cells (.str l)).map AV.br)).map fun cs=>(e,ah.set s cs) else none:=rfl
theorem Mi {e:Env} {ah:AH} {s p n:Nat} {x:Ar} {cs:List AV} {s0 o:Nat}:tO e ah s p n x cs (.ptr s0 o)=if (AV.cells (.ptr s0 o)).length=n∧bZ (AV.cells (.ptr s0 o)) then (over cs p ((AV.cells (.ptr s0 o)).map AV.br)).map fun cs=>(e,ah.set s cs) else none:=rfl
theorem Qq {e:Env} {ah:AH} {s p n:Nat} {x:Ar} {cs:List AV} {a:AV} {o:Nat}:tO e ah s p n x cs (.ep a o)=if (AV.cells (.ep a o)).length=n∧bZ (AV.cells (.ep a o)) then (over cs p ((AV.cells (.ep a o)).map AV.br)).map fun cs=>(e,ah.set s cs) else none:=rfl
theorem Qr {e:Env} {ah:AH} {s p n:Nat} {x:Ar} {cs:List AV} {f:Nat} {ds:List AV}:tO e ah s p n x cs (.fn f ds)=if (AV.cells (.fn f ds)).length=n∧bZ (AV.cells (.fn f ds)) then (over cs p ((AV.cells (.fn f ds)).map AV.br)).map fun cs=>(e,ah.set s cs) else none:=rfl
theorem Qs {e:Env} {ah:AH} {s p n:Nat} {x:Ar} {cs:List AV} {c:UInt8}:tO e ah s p n x cs (b8 c)=if (AV.cells (b8 c)).length=n∧bZ (AV.cells (b8 c)) then (over cs p ((AV.cells (b8 c)).map AV.br)).map fun cs=>(e,ah.set s cs) else none:=rfl
theorem Qt {e:Env} {ah:AH} {s p n:Nat} {x:Ar} {cs:List AV} {k:Nat} {xs:List AV}:tO e ah s p n x cs (.sl .n k xs)=if (AV.cells (.sl .n k xs)).length=n∧bZ (AV.cells (.sl .n k xs)) then (over cs p ((AV.cells (.sl .n k xs)).map AV.br)).map fun cs=>(e,ah.set s cs) else none:=rfl
theorem Mj {e:Env} {ah:AH} {s p n:Nat} {x:Ar} {cs:List AV} {k:Nat} {xs:List AV}:tO e ah s p n x cs (.sl .ex k xs)=if (AV.cells (.sl .ex k xs)).length=n∧bZ (AV.cells (.sl .ex k xs)) then (over cs p ((AV.cells (.sl .ex k xs)).map AV.br)).map fun cs=>(e,ah.set s cs) else none:=rfl
theorem Mk {e:Env} {ah:AH} {s p n:Nat} {x:Ar} {cs:List AV} {l:Loc} {k:Nat} {xs:List AV}:tO e ah s p n x cs (.sl (.fr l) k xs)=if (AV.cells (.sl (.fr l) k xs)).length=n∧bZ (AV.cells (.sl (.fr l) k xs)) then (over cs p ((AV.cells (.sl (.fr l) k xs)).map AV.br)).map fun cs=>(e,ah.set s cs) else none:=rfl
theorem Ml {e:Env} {ah:AH} {s p n:Nat} {x:Ar} {cs:List AV} {ds:List AV}:tO e ah s p n x cs (.agg ds)=if (AV.cells (.agg ds)).length=n∧bZ (AV.cells (.agg ds)) then (over cs p ((AV.cells (.agg ds)).map AV.br)).map fun cs=>(e,ah.set s cs) else none:=rfl
theorem Mm {e:Env} {ah:AH} {s p n:Nat} {x:Ar} {cs:List AV} {q0 k0 o0 m0:Nat}:tO e ah s p n x cs (.cA q0 k0 o0 m0)=if (AV.cells (.cA q0 k0 o0 m0)).length=n∧bZ (AV.cells (.cA q0 k0 o0 m0)) then (over cs p ((AV.cells (.cA q0 k0 o0 m0)).map AV.br)).map fun cs=>(e,ah.set s cs) else none:=rfl
theorem Mn {e:Env} {ah:AH} {s p n:Nat} {x:Ar} {cs:List AV} {q0 k0 m0 c0:Nat}:tO e ah s p n x cs (.cv q0 k0 m0 c0)=if (AV.cells (.cv q0 k0 m0 c0)).length=n∧bZ (AV.cells (.cv q0 k0 m0 c0)) then (over cs p ((AV.cells (.cv q0 k0 m0 c0)).map AV.br)).map fun cs=>(e,ah.set s cs) else none:=rfl
theorem Mo {e:Env} {ah:AH} {s p n:Nat} {x:Ar} {cs:List AV}:tO e ah s p n x cs (.dN)=if (AV.cells (.dN)).length=n∧bZ (AV.cells (.dN)) then (over cs p ((AV.cells (.dN)).map AV.br)).map fun cs=>(e,ah.set s cs) else none:=rfl
theorem Qu {e:Env} {ah:AH} {s p n:Nat} {x:Ar} {cs:List AV} {eb:Bool}:tO e ah s p n x cs (dL eb)=if (AV.cells (dL eb)).length=n∧bZ (AV.cells (dL eb)) then (over cs p ((AV.cells (dL eb)).map AV.br)).map fun cs=>(e,ah.set s cs) else none:=by cases eb<;>rfl
theorem WD {c0:AV} {cs ws:List AV} {o:Nat}:over (c0::cs) o ws=if o+ws.length≤(c0::cs).length then some ((c0::cs).take o++ws++(c0::cs).drop (o+ws.length)) else none:=rfl
theorem abJ {e:Env} {cs:List AV}:fill e cs []=some cs:=rfl
def Tz (e:Env) (r:List (Nat×Nat×Ar)):Option (List AV)→Option (List AV)
 |some cs=>fill e cs r
 |none=>none
theorem abK {e:Env} {cs:List AV} {o n:Nat} {x:Ar} {r:List (Nat×Nat×Ar)}:fill e cs ((o,n,x)::r)=if (ev e x).cells.length=n∧bZ (ev e x).cells then Tz e r (over cs o ((ev e x).cells.map AV.br)) else none:=by
 simp only [fill]
 split
 · cases over cs o ((ev e x).cells.map AV.br)<;>rfl
 · rfl
theorem abL {e:Env} {cs:List AV} {r:List (Nat×Nat×Ar)}:Tz e r (some cs)=fill e cs r:=rfl
theorem TA {P:Program} {L:List Nat} {N n0:Nat} {e:Env} {ah:AH} {t:List It} {Q:Exit→Env→AH→Prop} {r:List aL} {d:Option Nat} {x:Ar} {g:Option (Nat×Bool)}:UG P L N n0 ⟨d, .len x,g⟩ r t Q e ah (some true)=US P L N n0 r t Q (Nw L e ah d (ev e x)):=by simp only [UG,bK];cases ev e x<;>rfl
theorem WI {L:List Nat} {e:Env} {ah:AH} {d:Option Nat} {tg:Tg} {k:Nat} {xs:List AV}:Nw L e ah d (.sl tg k xs)=some (aG L e d (.int .i64 xs.length),ah):=rfl
theorem Nx {P:Program} {L:List Nat} {N n0:Nat} {e:Env} {ah:AH} {t:List It} {Q:Exit→Env→AH→Prop} {r:List aL} {d:Option Nat} {x:Ar} {g:Option (Nat×Bool)}:UG P L N n0 ⟨d, .lens x,g⟩ r t Q e ah (some true)=US P L N n0 r t Q (SB L e ah d (ev e x)):=by simp only [UG,bK];cases ev e x<;>rfl
theorem TB {L:List Nat} {e:Env} {ah:AH} {d:Option Nat} {l:List UInt8}:SB L e ah d (.str l)=some (aG L e d (.int .i64 l.length),ah):=rfl
theorem TD {P:Program} {L:List Nat} {N n0:Nat} {e:Env} {ah:AH} {t:List It} {Q:Exit→Env→AH→Prop} {r:List aL} {d:Option Nat} {x:Ar} {i:Nat} {g:Option (Nat×Bool)}:UG P L N n0 ⟨d, .ext x i,g⟩ r t Q e ah (some true)=US P L N n0 r t Q (SD L e ah d i (ev e x)):=by simp only [UG,bK];cases ev e x with|bz cs=>simp only [SD];cases cs[i]? <;>rfl|_=>rfl
theorem WJ {L:List Nat} {e:Env} {ah:AH} {d:Option Nat} {i:Nat} {cs:List AV}:SD L e ah d i (.bz cs)=SC L e ah d (cs[i]?):=rfl
theorem WK {L:List Nat} {e:Env} {ah:AH} {d:Option Nat} {a:AV}:SC L e ah d (some a)=some (aG L e d a.sh,ah):=rfl
theorem Ny {P:Program} {L:List Nat} {N n0:Nat} {e:Env} {ah:AH} {t:List It} {Q:Exit→Env→AH→Prop} {r:List aL} {d:Option Nat} {x:Ar} {q:Nat} {n:Option Nat} {g:Option (Nat×Bool)}:UG P L N n0 ⟨d, .E8 x q n,g⟩ r t Q e ah (some true)=US P L N n0 r t Q (Gf L e ah d q n (ev e x)):=by
 simp only [UG,bK]
 cases ev e x with
 |agg cs=>
  cases n with
  |some n=>rfl
  |none=>simp only [Gf];cases cs[q]? <;>rfl
 |_=>cases n<;>rfl
theorem ZA {L:List Nat} {e:Env} {ah:AH} {d:Option Nat} {q:Nat} {cs:List AV}:Gf L e ah d q none (.agg cs)=KN L e ah d (cs[q]?):=rfl
theorem ZB {L:List Nat} {e:Env} {ah:AH} {d:Option Nat} {a:AV}:KN L e ah d (some a)=some (aG L e d a.br,ah):=rfl
theorem ZC {L:List Nat} {e:Env} {ah:AH} {d:Option Nat} {q n:Nat} {cs:List AV}:Gf L e ah d q (some n) (.agg cs)=if q+n≤cs.length then some (aG L e d (.agg (((cs.drop q).take n).map AV.br)),ah) else none:=rfl
theorem TE {P:Program} {L:List Nat} {N n0:Nat} {e:Env} {ah:AH} {t:List It} {Q:Exit→Env→AH→Prop} {r:List aL} {d:Option Nat} {x:Ar} {n:Option Nat} {g:Option (Nat×Bool)}:UG P L N n0 ⟨d, .Ea x n,g⟩ r t Q e ah (some true)=US P L N n0 r t Q (SE L e ah d n (ev e x)):=by
 simp only [UG,bK]
 cases ev e x with
 |ep a p=>
  cases n with
  |some n=>rfl
  |none=>simp only [SE,F4,Ot];cases a.cells[p]? <;>rfl
 |_=>cases n<;>rfl
theorem ZD {L:List Nat} {e:Env} {ah:AH} {d:Option Nat} {n:Option Nat} {a:AV} {p:Nat}:SE L e ah d n (.ep a p)=F4 L d n e ah (.ep a p):=rfl
def WA0:=And.intro @SF<|And.intro @KO<|And.intro @Ir<|And.intro @KP<|And.intro @KQ<|And.intro @Oy<|And.intro @Oz<|And.intro @OA<|And.intro @OB<|And.intro @OC<|And.intro @KR<|And.intro @Is<|And.intro @KS<|And.intro @KT<|And.intro @KU<|And.intro @KV<|And.intro @KW<|And.intro @KX<|And.intro @OD<|And.intro @Wo<|And.intro @OE<|And.intro @KY<|And.intro @OF<|And.intro @OG<|And.intro @SG<|And.intro @SH<|And.intro @SI<|And.intro @SJ<|And.intro @SK<|And.intro @OH<|And.intro @KZ<|And.intro @OI<|And.intro @OJ<|And.intro @OK<|And.intro @OL<|And.intro @OM<|And.intro @ON<|And.intro @SL<|And.intro @Wp<|And.intro @OO<|And.intro @K1<|And.intro @OP<|And.intro @OQ<|And.intro @SM<|And.intro @SN<|And.intro @SO<|And.intro @SP<|And.intro @SQ<|And.intro @OR<|And.intro @K2<|And.intro @OS<|And.intro @OT<|And.intro @OU<|And.intro @OV<|And.intro @OW<|And.intro @OX<|And.intro @SS<|And.intro @Wq<|And.intro @OY<|@K3
def WA1:=And.intro @OZ<|And.intro @O0<|And.intro @SU<|And.intro @SV<|And.intro @SW<|And.intro @SX<|And.intro @SY<|And.intro @O1<|And.intro @K4<|And.intro @O2<|And.intro @O3<|And.intro @O4<|And.intro @O5<|And.intro @O6<|And.intro @O7<|And.intro @SZ<|And.intro @Wr<|And.intro @O8<|And.intro @K5<|And.intro @O9<|And.intro @Pa<|And.intro @S0<|And.intro @S1<|And.intro @S3<|And.intro @S4<|And.intro @S5<|And.intro @Pb<|And.intro @K6<|And.intro @Pc<|And.intro @Pd<|And.intro @Pe<|And.intro @Pf<|And.intro @Pg<|And.intro @Ph<|And.intro @S6<|And.intro @K7<|And.intro @Gg<|And.intro @Ej<|And.intro @Gh<|And.intro @Gi<|And.intro @Iu<|And.intro @Iv<|And.intro @Iw<|And.intro @Ix<|And.intro @Iy<|And.intro @Gj<|And.intro @Ek<|And.intro @Gk<|And.intro @Gl<|And.intro @Gm<|And.intro @Gn<|And.intro @Gp<|And.intro @Gq<|And.intro @Iz<|And.intro @S7<|And.intro @K8<|And.intro @IA<|And.intro @K9<|And.intro @La<|@Pj
def WA2:=And.intro @Pm<|And.intro @Pn<|And.intro @Po<|And.intro @Pp<|And.intro @Lb<|And.intro @IB<|And.intro @Lc<|And.intro @Ld<|And.intro @Le<|And.intro @Lf<|And.intro @Lg<|And.intro @Lh<|And.intro @Pq<|And.intro @Pr<|And.intro @IC<|And.intro @Gr<|And.intro @ID<|And.intro @IE<|And.intro @Li<|And.intro @Lj<|And.intro @Ll<|And.intro @Lm<|And.intro @Ln<|And.intro @IF<|And.intro @Gs<|And.intro @IG<|And.intro @II<|And.intro @IJ<|And.intro @IK<|And.intro @IL<|And.intro @IM<|And.intro @Lo<|And.intro @S8<|And.intro @Lp<|And.intro @IN<|And.intro @Lq<|And.intro @Lr<|And.intro @Pt<|And.intro @Pu<|And.intro @Pv<|And.intro @Pw<|And.intro @Px<|And.intro @Ls<|And.intro @IP<|And.intro @Lt<|And.intro @Lu<|And.intro @Lv<|And.intro @Lw<|And.intro @Lx<|And.intro @Py<|And.intro @S9<|And.intro @Ta<|And.intro @Ly<|And.intro @Gt<|And.intro @El<|And.intro @Gu<|And.intro @Gv<|And.intro @IQ<|And.intro @IT<|@IU
def WA3:=And.intro @IV<|And.intro @IW<|And.intro @Gw<|And.intro @Em<|And.intro @Gx<|And.intro @Gy<|And.intro @Gz<|And.intro @GA<|And.intro @GB<|And.intro @GC<|And.intro @IX<|And.intro @Tb<|And.intro @Lz<|And.intro @IY<|And.intro @LA<|And.intro @LB<|And.intro @Pz<|And.intro @PA<|And.intro @PB<|And.intro @PD<|And.intro @PF<|And.intro @LC<|And.intro @IZ<|And.intro @LD<|And.intro @LF<|And.intro @LG<|And.intro @LH<|And.intro @LI<|And.intro @LJ<|And.intro @PG<|And.intro @PI<|And.intro @I0<|And.intro @GD<|And.intro @I1<|And.intro @I2<|And.intro @LK<|And.intro @LL<|And.intro @LM<|And.intro @LN<|And.intro @LO<|And.intro @I3<|And.intro @GG<|And.intro @I4<|And.intro @I5<|And.intro @I6<|And.intro @I7<|And.intro @I8<|And.intro @I9<|And.intro @LP<|And.intro @Ws<|And.intro @PJ<|And.intro @LQ<|And.intro @PK<|And.intro @PL<|And.intro @Tc<|And.intro @Td<|And.intro @Te<|And.intro @Tf<|And.intro @Th<|@PM
def WA4:=And.intro @LR<|And.intro @PN<|And.intro @PO<|And.intro @PR<|And.intro @PS<|And.intro @PT<|And.intro @PU<|And.intro @Ti<|And.intro @LS<|And.intro @GH<|And.intro @En<|And.intro @GI<|And.intro @GJ<|And.intro @Ja<|And.intro @Jb<|And.intro @Jc<|And.intro @Jd<|And.intro @Je<|And.intro @GK<|And.intro @Eo<|And.intro @GL<|And.intro @GM<|And.intro @GN<|And.intro @GP<|And.intro @GQ<|And.intro @GR<|And.intro @Jf<|And.intro @Wt<|And.intro @PV<|And.intro @LU<|And.intro @PW<|And.intro @PX<|And.intro @Tj<|And.intro @Tk<|And.intro @Tl<|And.intro @Tm<|And.intro @Tn<|And.intro @PY<|And.intro @PZ<|And.intro @P0<|And.intro @P1<|And.intro @P2<|And.intro @P3<|And.intro @P4<|And.intro @To<|And.intro @Tp<|And.intro @Tq<|And.intro @Tr<|And.intro @LV<|And.intro @Jg<|And.intro @LW<|And.intro @LX<|And.intro @P5<|And.intro @P6<|And.intro @P7<|And.intro @P8<|And.intro @P9<|And.intro @LY<|And.intro @LZ<|@L0
def WA5:=And.intro @L1<|And.intro @L2<|And.intro @L3<|And.intro @L4<|And.intro @Qa<|And.intro @Qb<|And.intro @Qc<|And.intro @Qd<|And.intro @Qe<|And.intro @L5<|And.intro @Qf<|And.intro @L6<|And.intro @Qg<|And.intro @Qh<|And.intro @Ts<|And.intro @Tt<|And.intro @Tu<|And.intro @L7<|And.intro @Jh<|And.intro @L8<|And.intro @L9<|And.intro @Qi<|And.intro @Qj<|And.intro @Qk<|And.intro @Ql<|And.intro @Qm<|And.intro @Ma<|And.intro @Mb<|And.intro @Mc<|And.intro @Md<|And.intro @Me<|And.intro @Mf<|And.intro @Qn<|And.intro @Wu<|And.intro @Wv<|And.intro @Ww<|And.intro @Tv<|And.intro @Tw<|And.intro @Tx<|And.intro @Qo<|And.intro @Wz<|And.intro @WA<|And.intro @Zo<|And.intro @Zp<|And.intro @Zq<|And.intro @Zr<|And.intro @Zs<|And.intro @Zt<|And.intro @abm<|And.intro @Zu<|And.intro @abn<|And.intro @abo<|And.intro @abp<|And.intro @abr<|And.intro @abt<|And.intro @abu<|And.intro @abv<|And.intro @abw<|And.intro @abx<|@aby
def WA6:=And.intro @abz<|And.intro @abA<|And.intro @abB<|And.intro @abC<|And.intro @abD<|And.intro @abE<|And.intro @abF<|And.intro @abG<|And.intro @abH<|And.intro @abI<|And.intro @Zv<|And.intro @Zw<|And.intro @XM<|And.intro @Zy<|And.intro @Zz<|And.intro @Qp<|And.intro @Ty<|And.intro @Mg<|And.intro @Ji<|And.intro @Mh<|And.intro @Mi<|And.intro @Qq<|And.intro @Qr<|And.intro @Qs<|And.intro @Qt<|And.intro @Mj<|And.intro @Mk<|And.intro @Ml<|And.intro @Mm<|And.intro @Mn<|And.intro @Mo<|And.intro @Qu<|And.intro @WD<|And.intro @abJ<|And.intro @abK<|And.intro @abL<|And.intro @TA<|And.intro @WI<|And.intro @Nx<|And.intro @TB<|And.intro @TD<|And.intro @WJ<|And.intro @WK<|And.intro @Ny<|And.intro @ZA<|And.intro @ZB<|And.intro @ZC<|And.intro @TE<|@ZD
end Go.Am
end
section
namespace Go.Am
open Go
variable [Tabs]
def Al (n:Nat) (i:Int):Option Nat:=if 0≤i∧i<n then some i.toNat else none
def Fo {α:Type} (xs:List α) (j:Nat) (c:α):Option (List α):=if j<xs.length then some (xs.set j c) else none
section
variable {P:Program} {L:List Nat} {e:Env} {ah:AH} {d:Option Nat}
theorem WN {xs:List UInt8} {j:Nat} {c:UInt8}:over (ml b8 xs) j [b8 c]=(Fo xs j c).map (ml b8):=by
 unfold over Fo ml
 simp only [List.length_map,List.length_cons,List.length_nil]
 by_cases h:j<xs.length
 · rw [if_pos (by omega),if_pos h]
   simp only [Option.map_some,Option.some.injEq,List.map_set]
   rw [List.set_eq_take_append_cons_drop,if_pos (by simpa using h)]
   simp
 · rw [if_neg (by omega),if_neg h];rfl
theorem ZE {xs:List UInt8} {j:Nat}:(ml b8 xs)[j]? =(xs[j]?).map b8:=by simp [ml]
theorem abM {s n:Nat} {ki:IntKind} {i:Int}:y9 L e ah d 1 (.cA s 1 0 n) (.int ki i)=(Al n i).map fun j=>(aG L e d (.ptr s j),ah):=by
 simp only [y9,Al,and_true]
 split<;>simp
theorem ZF {s k o n:Nat}:Nw L e ah d (.cA s k o n)=some (aG L e d (.int .i64 n),ah):=rfl
theorem TF {h:Cv} {l:List UInt8}:CP L e ah d h (.str l)=(fh h (.str l)).map fun a=>(aG L e d a,ah):=rfl
theorem TG {h:Cv} {k:IntKind} {i:Int}:CP L e ah d h (.int k i)=(fh h (.int k i)).map fun a=>(aG L e d a,ah):=rfl
theorem WO {h:Cv} {c:UInt8}:CP L e ah d h (b8 c)=(fh h (b8 c)).map fun a=>(aG L e d a,ah):=rfl
theorem WQ {h:Cv} {t:Tg} {k:Nat} {xs:List AV}:CP L e ah d h (.sl t k xs)=(fh h (.sl t k xs)).map fun a=>(aG L e d a,ah):=rfl
theorem TH {s n:Nat}:CP L e ah d .bs (.cA s 1 0 n)=R7 L e ah d 0 n (ah[s]?):=rfl
theorem M_s {p n:Nat} {cs:List AV}:R7 L e ah d p n (some cs)=Ng L e ah d p n cs:=rfl
theorem M_t {n:Nat} {xs:List UInt8}:Ng L e ah d 0 n (ml b8 xs)=(sub xs 0 (n:Int)).map fun l=>(aG L e d (.str l),ah):=by
 unfold Ng sub
 have hb:bytesOf (((ml b8 xs).drop 0).take n)=some (xs.take n):=by
  have:((ml b8 xs).drop 0).take n=(ml b8 (xs.take n)):=by simp [ml,List.map_take]
  rw [this];exact Bi _
 rw [hb]
 by_cases h:n≤xs.length
 · rw [if_pos (by simp [ml];exact h),if_pos (by omega)];simp
 · rw [if_neg (by simp [ml];omega),if_neg (by omega)];rfl
theorem M_o {l:List UInt8}:R8 L e ah d (.str l)=some (aG L e d (.cA ah.length 1 0 l.length),ah++[ml b8 l]):=rfl
theorem ZG:Kj .dN (.v .nilIface)=some false:=rfl
theorem ZH:Kj (.v .nilIface) (.v .nilIface)=some true:=rfl
theorem ZI {b:Bool}:Kj (dL b) (.v .nilIface)=some (!b):=by cases b<;>rfl
theorem ZJ {k:IntKind} {i j:Int}:HJ true (.int k i) (.int k j)=some (.int k (max i j)):=by simp [HJ]
theorem ZK {k:IntKind} {i j:Int}:HJ false (.int k i) (.int k j)=some (.int k (min i j)):=by simp [HJ]
end
def WM:=And.intro @WN<|And.intro @ZE<|And.intro @abM<|And.intro @ZF<|And.intro @TF<|And.intro @TG<|And.intro @WO<|And.intro @WQ<|And.intro @TH<|And.intro @M_s<|And.intro @M_t<|And.intro @M_o<|And.intro @ZG<|And.intro @ZH<|And.intro @ZI<|And.intro @Bool.not_not<|And.intro @ZJ<|And.intro @ZK<|And.intro @VT<|And.intro @VU<|And.intro @aa0 @aa1
theorem Wx.cA {s k o n:Nat}:Wx (.cA s k o n) (.cA s k o n):= .same (by simp)
theorem Wx.dN:Wx .dN .dN:= .same (by simp)
theorem Wx.epE {a b:AV} {o:Nat} (h:a=b):Wx (.ep a o) (.ep b o):=by subst h;exact Wx.ep
theorem Wx.err {b:Bool}:Wx (dL b) (dL b):= .same (by cases b<;>simp [dL])
end Go.Am
end
section
namespace Go.Am
open Go
variable [Tabs]
section
variable {P:Program} {L:List Nat} {N n0:Nat} {F:Nat→Prop} {γ:List Nat} {C:Nat→List Value} {e e':Env} {ah:AH} {ts:Array Value} {w:World} {Q K:Exit→Env→AH→Prop}
theorem SR.freeze (h:SR L N F γ C e ah ts w) {s:Nat} {cs ds:List AV} (hs:ah[s]? =some cs) (hne:cs≠[]) (hnp:fY cs=true) (hw:gV cs ds)
 (he:∀t,get e' t=get e t∨∃o,get e t= .ptr s o∧get e' t= .ep (.agg ds) o):∃C',SR L N F γ C' e' (ah.set s []) ts w∧Ext F C w C' w:=by
 have hlt:s<γ.length:=by rw [h.mem.len];exact (List.getElem?_eq_some_iff.1 hs).1
 obtain ⟨b,hb⟩:∃b,γ[s]? =some b:=⟨_,List.getElem?_eq_getElem hlt⟩
 obtain ⟨vs,ty,hh,hsz,hcell⟩:=h.mem.obj s b cs hs hb
 have HR:=h.mem.uo s b cs hs hne hb
 have yV:blk γ e ah ts w (.obj s) b:=hb
 refine ⟨fun x=>if x=b then vs.toList else C x, ?_⟩
 generalize xm:(fun x=>if x=b then vs.toList else C x)=C'
 have c0:C' b=vs.toList:=by rw [←xm];simp
 have c1:∀x,x≠b→C' x=C x:=fun x hx=>by rw [←xm];simp [hx]
 have hpre:∀x,C x <+: C' x:=by
  intro x
  by_cases hx:x=b
  · subst hx;rw [HR];exact List.nil_prefix
  · rw [c1 x hx];exact List.prefix_refl _
 have hset:∀(s':Nat),s'≠s→(ah.set s [])[s']? =ah[s']? :=fun s' hn=>List.getElem?_set_ne (Ne.symm hn)
 have iX:(ah.set s [])[s]? =some []:=List.getElem?_set_self (by rw [←h.mem.len];exact hlt)
 have xo:∀(s':Nat),γ[s']? =some b→s'=s:=fun s' hs'=>by
  have:=h.ew (.obj s') (.obj s) b hs' hb;injection this
 have hbk:∀p x,blk γ e' (ah.set s []) ts w p x→blk γ e ah ts w p x:=by
  intro p x hp
  cases p with
  |obj s'=>exact hp
  |cell s' i=>
   obtain ⟨ds,a,b0,h1,h2,h3,h4⟩:=hp
   by_cases hn:s'=s
   · subst hn;rw [iX] at h1;injection h1 with h1;subst h1;simp at h2
   · rw [hset s' hn] at h1;exact ⟨ds,a,b0,h1,h2,h3,h4⟩
  |tmp t=>
   simp only [blk] at hp ⊢
   rcases he t with h1|⟨o,h1,h2⟩
   · rwa [h1] at hp
   · rw [h2] at hp;simp [bS] at hp
 have oC:∀(a:AV) (v:Value),TC w C a v→(∀x,bS a v=some x→x≠b)→TC w C' a v:=fun a v ht hn=>ht.mono fun x hx=>⟨rfl,c1 x (hn x hx)⟩
 refine ⟨⟨⟨by simp [h.mem.len],fun s' x ds h1 h2=> ?_,fun x hx=> ?_,fun s' x ds h1 h0 h2=> ?_,fun s' x ds us ty' fr h1 h2 h3=> ?_⟩,h.sz,fun t=> ?_,fun p q x hp hq=>h.ew p q x (hbk p x hp) (hbk q x hq),fun p x hp=>h.nf p x (hbk p x hp),h.k9,fun t l k xs ht=> ?_⟩,
  ⟨hpre,fun x hx=>⟨rfl,c1 x (fun e=>h.nf _ _ yV (e▸hx))⟩,Nat.le_refl _,rfl,rfl,rfl⟩⟩
 · by_cases hn:s'=s
   · subst hn
     rw [iX] at h1;injection h1 with h1;subst h1
     rw [hb] at h2;injection h2 with h2;subst h2
     exact ⟨vs,ty,hh,by simp,by simp⟩
   · rw [hset s' hn] at h1
     obtain ⟨us,ty',g1,g2,g3⟩:=h.mem.obj s' x ds h1 h2
     refine ⟨us,ty',g1,g2,fun i a hi=>⟨(g3 i a hi).1.mono hpre _ (fun _ _ h=>h),oC _ _ (g3 i a hi).2 fun y hy e=> ?_⟩⟩
     subst e
     obtain ⟨v,hv, -, -⟩:=cellAt h.mem h1 hi h2
     have Kt:v=us.getD i undef:=by
      have hlt:i<us.size:=Nat.lt_of_lt_of_le (List.getElem?_eq_some_iff.1 hi).1 g2
      rw [dA g1,Array.getElem?_eq_getElem hlt] at hv
      simp [Array.getD_eq_getD_getElem?,Array.getElem?_eq_getElem hlt,Option.some.inj hv]
     have:blk γ e ah ts w (.cell s' i) y:=⟨ds,a,x,h1,hi,h2,by rw [hv,Kt];exact hy⟩
     have:=h.ew _ _ _ this yV
     cases this
 · by_cases TI:x=b
   · subst TI;exact ⟨vs,ty.1,ty.2,hh,by rw [c0];exact List.prefix_refl _⟩
   · rw [c1 x TI] at hx ⊢;exact h.mem.vi x hx
 · have hn:s'≠s:=by
    rintro rfl
    rw [iX] at h1;injection h1 with h1;exact h0 h1.symm
   rw [hset s' hn] at h1
   rw [c1 x (fun e=>hn (xo s' (e▸h2)))]
   exact h.mem.uo s' x ds h1 h0 h2
 · by_cases hn:s'=s
   · subst hn
     rw [iX] at h1;injection h1 with h1;subst h1
     intro i hi;simp at hi
   · rw [hset s' hn] at h1
     exact h.mem.Ct s' x ds us ty' fr h1 h2 h3
 · rcases he t with h1|⟨o,h1,h2⟩
   · rw [h1]
     refine ⟨(h.env t).1.mono hpre _ (fun _ _ h=>h),oC _ _ (h.env t).2 fun y hy e=> ?_⟩
     subst e
     have:=h.ew (.tmp t) (.obj s) y hy yV
     cases this
   · have hv:=(h.env t).1
     rw [h1] at hv
     obtain ⟨b',hb',hv⟩:=hv.iW
     rw [hb] at hb';injection hb' with hb';subst hb'
     rw [h2,hv]
     refine ⟨?_,by trivial⟩
     have hep:=VR.ep (C:=C') γ (.agg ds) o b 0 (by rw [c0];simpa [AV.cells,hw.len] using hsz) (fun j a hj=>by
      have hj2:ds[j]? =some a:=hj
      have hjl:j<cs.length:=by rw [←hw.len];exact (List.getElem?_eq_some_iff.1 hj2).1
      have hj':cs[j]? =some cs[j]:=List.getElem?_eq_getElem hjl
      have:=(Wk.kT (hw.get j _ _ hj' hj2)).vr (((hcell j _ hj').1.np (tM hnp hj')).mono hpre [] (fun _ _ h=>h))
      rw [c0,Nat.zero_add]
      have e1:vs.toList.getD j undef=vs.getD j undef:=by simp [List.getD_eq_getElem?_getD,Array.getD_eq_getD_getElem?]
      rw [e1];exact this)
     rwa [Nat.zero_add] at hep
 · rcases he t with h1|⟨o,h1,h2⟩
   · have hf:=h.fr t l k xs (by rw [←h1];exact ht)
     cases l with
     |tmp u=>
      refine ⟨hf.1,fun hu=>hf.2 ?_⟩
      rcases he u with g1|⟨o,g1,g2⟩
      · rwa [g1] at hu
      · rw [g2] at hu;cases hu
     |cell s' o=>
      intro ds a x g1 g2 g3 g4
      by_cases hn:s'=s
      · subst hn;rw [iX] at g1;injection g1 with g1;subst g1;simp at g2
      · rw [hset s' hn] at g1;exact hf ds a x g1 g2 g3 g4
   · rw [h2] at ht;cases ht
theorem AW.freeze {c:Code} {s:Nat} {cs ds:List AV} (hs:ah[s]? =some cs) (hne:cs≠[]) (hnp:fY cs=true) (hw:gV cs ds)
 (he:∀t,get e' t=get e t∨∃o,get e t= .ptr s o∧get e' t= .ep (.agg ds) o) (h:AW P L N n0 c Q e' (ah.set s [])):AW P L N n0 c Q e ah:=by
 intro F γ C ts w lu hn
 obtain ⟨C',h1,h2⟩:=lu.freeze hs hne hnp hw he
 refine wp_mono (h F γ C' ts w h1 hn) ?_
 rintro x a w' ⟨q1,q2,e2,sB,γ2,C2,q3,q4,q5,q6⟩
 exact ⟨q1,q2,e2,sB,γ2,C2,q3,q4,q5,h2.trans q6⟩
inductive FZ (s:Nat) (cs:List AV):Env→Env→Prop
 |nil:FZ s cs [] []
 |same (i:Nat) (a:AV) (r r':Env):FZ s cs r r'→FZ s cs ((i,a)::r) ((i,a)::r')
 |ep (i o:Nat) (r r':Env):FZ s cs r r'→FZ s cs ((i, .ptr s o)::r) ((i, .ep (.agg cs) o)::r')
theorem FZ.get {s:Nat} {cs:List AV} {e e':Env} (h:FZ s cs e e') (t:Nat):Am.get e' t=Am.get e t∨∃o,Am.get e t= .ptr s o∧Am.get e' t= .ep (.agg cs) o:=by
 induction h with
 |nil=>exact .inl rfl
 |same i a r r' _ ih=>
  simp only [Am.get]
  by_cases hi:i=t
  · simp [hi]
  · simpa [hi] using ih
 |ep i o r r' _ ih=>
  simp only [Am.get]
  by_cases hi:i=t
  · exact .inr ⟨o,by simp [hi],by simp [hi]⟩
  · simpa [hi] using ih
theorem AX.freeze {c:av} {s:Nat} {cs ds:List AV} (hs:ah[s]? =some cs) (hw:gV cs ds) (hne:cs≠[]) (hnp:fY cs=true) (he:FZ s ds e e') (h:AX P L N n0 c K e' (ah.set s [])):AX P L N n0 c K e ah:=
 fun c' b6=>AW.freeze hs hne hnp hw he.get (h c' b6)
end
end Go.Am
end
