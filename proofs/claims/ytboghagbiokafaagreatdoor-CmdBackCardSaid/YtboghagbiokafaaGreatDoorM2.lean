import Derived.Test.YtboghagbiokafaaGreatDoorM1
import Derived.Scope
import Derived.Lib.SlBytesConst
import Derived.OrdersHeld
set_option linter.unusedSimpArgs false
set_option linter.unusedVariables false
set_option linter.unusedSectionVars false
set_option linter.defProp false
section
namespace Go.Am
open Go
variable [Tabs]
section
variable {P:Program} {L:List Nat} {N:Nat} {F:Nat→Prop} {γ:List Nat} {C C':Nat→List Value} {e:Env} {ah:AH} {ts:Array Value} {ds:List Deferred} {w w':World} {m:Bool}
variable {e':Env} {aH:AH}
def gK.qe:gK→Bool
 | .call _ _=>true
 | .oc _ _ _ _=>true
 | .nq _ _=>true
 |_=>false
theorem N7 {o:Oper} {op:gK} (h:SR L N F γ C e ah ts w) (hd:∀x,o.dst=some x→x<N) (hc:cop P o=some op) (fG:op.qe=false)
 (hm:m=true∨((∀x n,op≠ .ld x n)∧∀x,op≠ .iT .bs x))
 (hev:bR L ⟨o.dst,op,none⟩ e ah=some (e',aH)):bx m P L N F γ C o ts ds w e' aH:=by
 obtain ⟨d,o,ty,pos,af,g⟩:=o
 simp only at hd hev
 cases o with
 |move x=>
  simp only [cop,Option.map_eq_some_iff] at hc
  obtain ⟨a,ha,rfl⟩:=hc
  simp only [bR,Option.some.injEq,Prod.mk.injEq] at hev
  obtain ⟨rfl,rfl⟩:=hev
  exact abW h hd ha
 |assign x=>
  simp only [cop,Option.map_eq_some_iff] at hc
  obtain ⟨a,ha,rfl⟩:=hc
  exact Zd h hd ha hev
 |pick c a b=>
  simp only [cop] at hc
  split at hc
  · rename_i c' a' b' h1 h2 h3
    injection hc with hc;subst hc
    exact Vc h hd h1 h2 h3 hev
  · cases hc
 |alloc t=>
  simp only [cop,Option.map_eq_some_iff] at hc
  obtain ⟨a,ha,rfl⟩:=hc
  exact RR h hd ha hev
 |box t x=>
  simp only [cop,Option.map_eq_some_iff] at hc
  obtain ⟨a,ha,rfl⟩:=hc
  exact Zy h hd ha hev
 |build t parts=>
  simp only [cop] at hc
  split at hc
  case h_3=>cases hc
  case h_2=>
   rename_i mm el hu
   split at hc
   case h_2=>cases hc
   rename_i z ps hz hp
   split at hc
   case isFalse=>cases hc
   rename_i hall
   split at hc
   · rename_i kM
     simp only [Option.map_eq_some_iff] at hc
     obtain ⟨z',hz',rfl⟩:=hc
     refine Ft h hd hu hz hp hall ?_
     rw [←hev]
     simp only [bR]
     rw [Ls e ps z kM,hz']
     rfl
   · injection hc with hc;subst hc
     exact Ft h hd hu hz hp hall hev
  rename_i fs hu
  split at hc
  case h_2=>cases hc
  rename_i z ps hz hp
  split at hc
  case isFalse=>cases hc
  rename_i hall
  injection hc with hc;subst hc
  exact RX h hd hu hz hp hall hev
 |buildSlice t n parts=>
  simp only [cop] at hc
  split at hc
  case h_2=>cases hc
  rename_i el hel
  split at hc
  case isFalse=>cases hc
  rename_i hh
  obtain ⟨h1,h2,h3⟩:=hh
  simp only [Option.map_eq_some_iff] at hc
  obtain ⟨zq,ha,rfl⟩:=hc
  refine ZF h hd ?_ h1 h2 h3 ha hev
  unfold Hv at hel
  split at hel
  · rename_i e hu;injection hel with hel;subst hel;exact hu
  · cases hel
 |load t x=>
  simp only [cop] at hc
  split at hc
  case isFalse=>cases hc
  rename_i ht
  simp only [Option.map_eq_some_iff] at hc
  obtain ⟨a,ha,rfl⟩:=hc
  obtain rfl:m=true:=hm.resolve_right (fun h=>h.1 _ _ rfl)
  exact abX h hd ha ht hev
 |store t a x=>
  simp only [cop] at hc
  split at hc
  case h_2=>cases hc
  rename_i a' x' ha hx
  split at hc
  case isFalse=>cases hc
  rename_i ht
  simp only [Bool.and_eq_true,Option.isNone_iff_eq_none] at ht
  obtain ⟨ht,rfl⟩:=ht
  injection hc with hc;subst hc
  exact ab0 h ha hx ht hev
 |nilCheck x=>
  simp only [cop,Option.map_eq_some_iff] at hc
  obtain ⟨a,ha,rfl⟩:=hc
  exact Ze h hd ha hev
 |fieldAddr t x f=>
  simp only [cop] at hc
  split at hc
  case h_2=>cases hc
  rename_i x' fd hx hf
  split at hc
  case isTrue=>cases hc
  rename_i hs
  injection hc with hc;subst hc
  exact Zf h hd hx hf hs hev
 |field t x f=>
  simp only [cop] at hc
  split at hc
  case h_2=>cases hc
  rename_i x' fd hx hf
  split at hc
  case isFalse=>cases hc
  rename_i hs
  injection hc with hc;subst hc
  exact Ve h hd hx hf hs hev
 |binOp ZH t x y qH=>
  simp only [cop] at hc
  split at hc
  case h_3=>cases hc
  case h_2=>
   rename_i x' hx hy
   split at hc
   · rename_i ms hu
     injection hc with hc;subst hc;exact Vs h hd hx hu rfl hev
   · rename_i ms hu
     injection hc with hc;subst hc;exact Vs h hd hx hu rfl hev
   · injection hc with hc;subst hc;cases fG
   · injection hc with hc;subst hc;cases fG
   · cases hc
  rename_i x' y' hx hy
  split at hc
  · rename_i fs hu
    split at hc
    case h_2=>cases hc
    rename_i ks hk
    split at hc
    · injection hc with hc;subst hc;exact QT h hd hx hy hu hk rfl hev
    · injection hc with hc;subst hc;exact QT h hd hx hy hu hk rfl hev
    · cases hc
  · injection hc with hc;subst hc;exact QS h hd hx hy hev
  · injection hc with hc;subst hc;exact QS h hd hx hy hev
  · rename_i hu
    split at hc
    · injection hc with hc;subst hc;exact Vf h hd hx hy hu rfl hev
    · injection hc with hc;subst hc;exact Vf h hd hx hy hu rfl hev
    · cases hc
  · rename_i u hu
    split at hc
    · injection hc with hc;subst hc;exact Vg h hd hx hy hu rfl hev
    · injection hc with hc;subst hc;exact Vg h hd hx hy hu rfl hev
    · cases hc
  · cases hc
 |unOp ZH t x=>
  simp only [cop,Option.map_eq_some_iff] at hc
  obtain ⟨a,ha,rfl⟩:=hc
  exact abY h hd ha hev
 |convert s t x=>
  simp only [cop] at hc
  split at hc
  case h_2=>cases hc
  rename_i hh x' qf hx
  injection hc with hc;subst hc
  exact Zz h hd hx qf (hm.imp id fun q=>by rintro rfl;exact q.2 _ rfl) hev
 |makeFunc fn first cs=>
  cases fn with
  |func f=>
   simp only [cop] at hc
   split at hc
   case isFalse=>cases hc
   rename_i hf
   simp only [Option.map_eq_some_iff] at hc
   obtain ⟨a,ha,rfl⟩:=hc
   exact Zm h hd hf ha hev
  |_=>simp [cop] at hc
 |slice t x lo hi mx=>
  simp only [cop] at hc
  split at hc
  case h_2=>cases hc
  rename_i x' lo' hi' mx' hx hlo hhi RQ
  split at hc
  · rename_i hu
    split at hc
    · injection hc with hc;subst hc
      have:mx=none:=by
       cases mx with
       |none=>rfl
       |some y=>simp only [qE] at RQ;cases hy:bF y<;>rw [hy] at RQ<;>simp at RQ
      subst this
      exact Zu h hd hx hlo hhi hu hev
    · cases hc
  · rename_i el hu
    split at hc
    case isFalse=>cases hc
    rename_i ht
    injection hc with hc;subst hc
    exact Zv h hd hx hlo hhi RQ hu ht hev
  · cases hc
 |indexAddr t x i=>
  simp only [cop] at hc
  split at hc
  case h_3=>cases hc
  case h_2=>
   rename_i x' i' hel hx hi
   split at hc
   case h_2=>cases hc
   rename_i mm el hu
   split at hc
   case isFalse=>cases hc
   rename_i ht
   injection hc with hc;subst hc
   exact Zr h hd hx hi hu ht hev
  rename_i el x' i' hel hx hi
  split at hc
  case isFalse=>cases hc
  rename_i ht
  injection hc with hc;subst hc
  unfold Hv at hel
  split at hel
  · rename_i e hu;injection hel with hel;subst hel;exact Zq h hd hx hi hu ht hev
  · cases hel
 |index t x i=>
  simp only [cop] at hc
  split at hc
  case h_2=>cases hc
  rename_i x' i' hu hx hi
  injection hc with hc;subst hc
  exact Zp h hd hx hi hu hev
 |extract x i=>
  simp only [cop,Option.map_eq_some_iff] at hc
  obtain ⟨a,ha,rfl⟩:=hc
  exact Zn h hd ha hev
 |call c=>
  obtain ⟨callee,args,argTypes⟩:=c
  simp only [cop] at hc
  split at hc
  · rename_i x t h1 h2
    have e1:args= #[x]:=by rw [←Array.toArray_toList (xs:=args),h1]
    have e2:argTypes= #[t]:=by rw [←Array.toArray_toList (xs:=argTypes),h2]
    subst e1;subst e2
    split at hc
    · rename_i x' hu hx;injection hc with hc;subst hc;exact Vh h hd hx hu hev
    · rename_i s x' hu hx;injection hc with hc;subst hc;exact Zo h hd hx hu hev
    · cases hc
  · rename_i x y t u h1 h2
    have e1:args= #[x,y]:=by rw [←Array.toArray_toList (xs:=args),h1]
    have e2:argTypes= #[t,u]:=by rw [←Array.toArray_toList (xs:=argTypes),h2]
    subst e1;subst e2
    split at hc
    case h_2=>cases hc
    rename_i x' y' _ _ hx hy
    split at hc
    case isFalse=>cases hc
    rename_i htu
    injection hc with hc;subst hc
    obtain ⟨rfl, -⟩:=htu
    exact Vt (mx:=true) h hd hx hy hev
  · rename_i x y t u h1 h2
    have e1:args= #[x,y]:=by rw [←Array.toArray_toList (xs:=args),h1]
    have e2:argTypes= #[t,u]:=by rw [←Array.toArray_toList (xs:=argTypes),h2]
    subst e1;subst e2
    split at hc
    case h_2=>cases hc
    rename_i x' y' _ _ hx hy
    split at hc
    case isFalse=>cases hc
    rename_i htu
    injection hc with hc;subst hc
    obtain ⟨rfl, -⟩:=htu
    exact Vt (mx:=false) h hd hx hy hev
  · rename_i x y t u h1 h2
    have e1:args= #[x,y]:=by rw [←Array.toArray_toList (xs:=args),h1]
    have e2:argTypes= #[t,u]:=by rw [←Array.toArray_toList (xs:=argTypes),h2]
    subst e1;subst e2
    split at hc
    case h_2=>cases hc
    rename_i el x' hel hx
    have ht:P.underlying t=some (.slice el):=by
     unfold Hv at hel
     split at hel
     · rename_i e hu;injection hel with hel;subst hel;exact hu
     · cases hel
    split at hc
    · rename_i s y' hu hy
      split at hc
      case isFalse=>cases hc
      rename_i hz
      injection hc with hc;subst hc
      exact ZD h hd hx hy ht hu hz hev
    · rename_i y' hu hy
      split at hc
      case isFalse=>cases hc
      rename_i hz
      injection hc with hc;subst hc
      exact Vv h hd hx hy ht hu hz.2 hz.1 hev
    · cases hc
  · split at hc
    · injection hc with hc;subst hc;cases fG
    · cases hc
  · cases hc
 |_=>simp [cop] at hc
theorem ZI {o:Oper} {op:gK} (h:SR L N F γ C e ah ts w) (hd:∀x,o.dst=some x→x<N) (hc:e9 P m o=some op) (fG:op.qe=false)
 (hev:bR L ⟨o.dst,op,none⟩ e ah=some (e',aH)):bx m P L N F γ C o ts ds w e' aH:=by
 cases m with
 |true=>exact N7 h hd (by simpa [e9] using hc) fG (.inl rfl) hev
 |false=>
  simp only [e9,Bool.false_eq_true,if_false,Option.map_eq_some_iff] at hc
  obtain ⟨op',ho,rfl⟩:=hc
  by_cases qd:∃x,op'= .iT .bs x
  · obtain ⟨x,rfl⟩:=qd
    obtain ⟨d,oo,ty,pos,af,g⟩:=o
    cases oo with
    |convert s t y=>
     simp only [cop] at ho
     split at ho
     case h_2=>cases ho
     rename_i hh x' qf hx
     injection ho with ho
     injection ho with e1 e2
     subst e1;subst e2
     exact Vp h hd hx qf hev
    |makeFunc fn first cs=>
     cases fn with
     |func f=>simp only [cop] at ho;split at ho<;>simp at ho
     |_=>simp [cop] at ho
    |_=>
     exfalso
     simp only [cop] at ho
     first
      |cases ho;done
      |(simp at ho;done)
      |(repeat' (split at ho))<;>(first|(cases ho;done)|(simp at ho;done))
  by_cases hl:∃x n,op'= .ld x n
  · obtain ⟨x,n,rfl⟩:=hl
    obtain ⟨d,oo,ty,pos,af,g⟩:=o
    cases oo with
    |load t y=>
     simp only [cop] at ho
     split at ho
     case isFalse=>cases ho
     rename_i ht
     simp only [Option.map_eq_some_iff] at ho
     obtain ⟨a,ha,he⟩:=ho
     injection he with e1 e2
     subst e1;subst e2
     exact QO h hd ha ht hev
    |makeFunc fn first cs=>
     cases fn with
     |func f=>simp only [cop] at ho;split at ho<;>simp at ho
     |_=>simp [cop] at ho
    |_=>
     exfalso
     simp only [cop] at ho
     first
      |cases ho;done
      |(simp at ho;done)
      |(repeat' (split at ho))<;>(first|(cases ho;done)|(simp at ho;done))
  · have:op'.NT=op':=by
     cases op' with
     |ld x n=>exact absurd ⟨_,_,rfl⟩ hl
     |iT hh x=>cases hh<;>first|rfl|exact absurd ⟨_,rfl⟩ qd
     |_=>rfl
    rw [this] at fG hev
    exact N7 h hd ho fG (.inr ⟨fun x n he=>hl ⟨x,n,he⟩,fun x he=>qd ⟨x,he⟩⟩) hev
theorem VE {o:Oper} {x':Ar} (hc:cop P o=some (.aT x')):∃x,o=⟨o.dst, .assign x,o.type,o.pos,o.after,o.guard⟩∧dA P o.type x=some x':=by
 obtain ⟨d,oo,ty,pos,af,g⟩:=o
 cases oo with
 |assign y=>
  simp only [cop,Option.map_eq_some_iff] at hc
  obtain ⟨a,ha,he⟩:=hc
  injection he with he
  subst he
  exact ⟨y,rfl,ha⟩
 |makeFunc fn first cs=>
  cases fn with
  |func f=>simp only [cop] at hc;split at hc<;>simp at hc
  |_=>simp [cop] at hc
 |_=>
  exfalso
  simp only [cop] at hc
  first
   |cases hc;done
   |(simp at hc;done)
   |(repeat' (split at hc))<;>(first|(cases hc;done)|(simp at hc;done))
theorem Fu {o:Oper} {k b:Nat} {x' y':Ar} (hop:cop P o=some (.app k b x' y')):
 ∃x y t u el s,o=⟨o.dst, .call {callee:= .builtin .append,args:= #[x,y],argTypes:= #[t,u]},o.type,o.pos,o.after,o.guard⟩∧dA P t x=some x'∧dA P u y=some y'∧
  P.underlying t=some (.slice el)∧P.underlying u=some (.slice s)∧(zeroOf P el).map List.length=some (cY P el)∧k=cY P el∧b=Jc P el:=by
 obtain ⟨d,oo,ty,pos,af,g⟩:=o
 cases oo with
 |call c=>
  obtain ⟨callee,args,argTypes⟩:=c
  simp only [cop] at hop
  split at hop
  · split at hop<;>simp at hop
  · split at hop
    · split at hop<;>simp at hop
    · cases hop
  · split at hop
    · split at hop<;>simp at hop
    · cases hop
  · rename_i x y t u h1 h2
    have e1:args= #[x,y]:=by rw [←Array.toArray_toList (xs:=args),h1]
    have e2:argTypes= #[t,u]:=by rw [←Array.toArray_toList (xs:=argTypes),h2]
    subst e1;subst e2
    split at hop
    case h_2=>cases hop
    rename_i el x2 hel hx
    have ht:P.underlying t=some (.slice el):=by
     unfold Hv at hel
     split at hel
     · rename_i e hu;injection hel with hel;subst hel;exact hu
     · cases hel
    split at hop
    · rename_i s y2 hu hy
      split at hop
      case isFalse=>cases hop
      rename_i hz
      injection hop with hop
      injection hop with q1 q2 q3 q4
      subst q1;subst q2;subst q3;subst q4
      exact ⟨x,y,t,u,el,s,rfl,hx,hy,ht,hu,hz,rfl,rfl⟩
    · split at hop<;>simp at hop
    · cases hop
  · split at hop<;>simp at hop
  · cases hop
 |makeFunc fn first cs=>
  cases fn with
  |func f=>simp only [cop] at hop;split at hop<;>simp at hop
  |_=>simp [cop] at hop
 |_=>
  exfalso
  simp only [cop] at hop
  first
   |cases hop;done
   |(simp at hop;done)
   |(repeat' (split at hop))<;>(first|(cases hop;done)|(simp at hop;done))
theorem QY {o:Oper} {neq:Bool} {x':Ar} (hop:cop P o=some (.nq neq x')):
 ∃op t x qH el,o=⟨o.dst, .binOp op t x (.const (.slice none 0 0)) qH,o.type,o.pos,o.after,o.guard⟩∧bF x=some x'∧P.underlying t=some (.slice el)∧op=if neq then .neq else .eql:=by
 obtain ⟨d,oo,ty,pos,af,g⟩:=o
 cases oo with
 |binOp op t x y qH=>
  simp only [cop] at hop
  split at hop
  case h_3=>cases hop
  case h_2=>
   rename_i x2 hx hy
   split at hop
   · cases hop
   · cases hop
   · rename_i el hu
     injection hop with hop;injection hop with h1 h2;subst h1;subst h2
     exact ⟨_,t,x,qH,el,rfl,hx,hu,rfl⟩
   · rename_i el hu
     injection hop with hop;injection hop with h1 h2;subst h1;subst h2
     exact ⟨_,t,x,qH,el,rfl,hx,hu,rfl⟩
   · cases hop
  exfalso
  (repeat' (split at hop))<;>(first|(cases hop;done)|(simp at hop;done))
 |makeFunc fn first cs=>
  cases fn with
  |func f=>simp only [cop] at hop;split at hop<;>simp at hop
  |_=>simp [cop] at hop
 |_=>
  exfalso
  simp only [cop] at hop
  first
   |cases hop;done
   |(simp at hop;done)
   |(repeat' (split at hop))<;>(first|(cases hop;done)|(simp at hop;done))
theorem ZJ {op:gK} {n:Bool} {x:Ar} (h:op.NT= .nq n x):op= .nq n x:=by
 cases op with
 |iT hh x=>cases hh<;>cases h
 |ld x n=>cases h
 |_=>exact h
theorem VF {op:gK} {k b:Nat} {x y:Ar} (h:op.NT= .app k b x y):op= .app k b x y:=by
 cases op with
 |iT hh x=>cases hh<;>cases h
 |ld x n=>cases h
 |_=>exact h
theorem VG {op:gK} {x:Ar} (h:op.NT= .aT x):op= .aT x:=by
 cases op with
 |iT hh x=>cases hh<;>cases h
 |ld x n=>cases h
 |_=>exact h
theorem CX {o:Oper} {k b:Nat} {x y:Ar} (hc:e9 P m o=some (.app k b x y)):cop P o=some (.app k b x y):=by
 cases m with
 |true=>simpa [e9] using hc
 |false=>
  simp only [e9,Bool.false_eq_true,if_false,Option.map_eq_some_iff] at hc
  obtain ⟨op',ho,hE⟩:=hc
  rw [ho,VF hE]
theorem R0 {o:Oper} {x:Ar} (hc:e9 P m o=some (.aT x)):cop P o=some (.aT x):=by
 cases m with
 |true=>simpa [e9] using hc
 |false=>
  simp only [e9,Bool.false_eq_true,if_false,Option.map_eq_some_iff] at hc
  obtain ⟨op',ho,hE⟩:=hc
  rw [ho,VG hE]
theorem Lt {o:Oper} {n:Bool} {x:Ar} (hc:e9 P m o=some (.nq n x)):cop P o=some (.nq n x):=by
 cases m with
 |true=>simpa [e9] using hc
 |false=>
  simp only [e9,Bool.false_eq_true,if_false,Option.map_eq_some_iff] at hc
  obtain ⟨op',ho,hE⟩:=hc
  rw [ho,ZJ hE]
theorem Jt {o:Oper} {n:Bool} {x:Ar} {K:Env→AH→Prop} (h:SR L N F γ C e ah ts w) (hd:∀x,o.dst=some x→x<N) (hc:e9 P m o=some (gK.er (.nq n x)))
 (hk:Fc L o.dst n x e ah K):∃e' aH,K e' aH∧bx m P L N F γ C o ts ds w e' aH:=by
 obtain ⟨op,t,x0,qH,el,ho,hx,hu,hop⟩:=QY (Lt hc)
 rw [ho]
 exact ab1 (d:=o.dst) h hd hx hu hop hk
theorem IM {o:Oper} {k b:Nat} {x y:Ar} {K:Env→AH→Prop} (h:SR L N F γ C e ah ts w) (hd:∀x,o.dst=some x→x<N) (hc:e9 P m o=some (gK.er (.oc k b x y)))
 (hk:qD L o.dst k b x y e ah K):∃e' aH,K e' aH∧bx m P L N F γ C o ts ds w e' aH:=by
 obtain ⟨x0,y0,t,u,el,s,ho,hx,hy,ht,hu,hz,rfl,rfl⟩:=Fu (CX hc)
 rw [ho]
 exact VB (d:=o.dst) h hd hx hy ht hu hz hk
theorem Lu {o:Oper} {k:Nat} {x:Ar} (h:SR L N F γ C e ah ts w) (hd:∀x,o.dst=some x→x<N) (hc:e9 P m o=some (gK.er (.CU k x)))
 (hev:bR L ⟨o.dst, .CU k x,none⟩ e ah=some (e',aH)):bx m P L N F γ C o ts ds w e' aH:=by
 obtain ⟨x0,ho,hx⟩:=VE (R0 hc)
 rw [ho]
 exact Zs (d:=o.dst) h hd hx hev
theorem IN {op:gK} {f:Ar} {zq:List Ar} (h:op.NT= .call f zq):op= .call f zq:=by
 cases op with
 |iT hh x=>cases hh<;>cases h
 |ld x n=>cases h
 |_=>exact h
theorem aek {op:gK} {f:Ar} {zq:List Ar} (h:op.er= .call f zq):op= .call f zq:=by
 cases op with
 |qC x=>cases h
 |oc=>cases h
 |CU=>cases h
 |_=>exact h
theorem Ju {o:Oper} {op:gK} (h:SR L N F γ C e ah ts w) (hd:∀x,o.dst=some x→x<N) (hc:cop P o=some op.er) (fG:op.qe=false)
 (hev:bR L ⟨o.dst,op,none⟩ e ah=some (e',aH)):bx true P L N F γ C o ts ds w e' aH:=by
 by_cases hx:∃x,op= .qC x
 · obtain ⟨x,rfl⟩:=hx
   obtain ⟨d,oo,ty,pos,af,g⟩:=o
   have hc:cop P ⟨d,oo,ty,pos,af,g⟩=some (.iT .sb x):=hc
   cases oo with
   |convert s t y=>
    simp only [cop] at hc
    split at hc
    case h_2=>cases hc
    rename_i hh x' qf hx
    injection hc with hc
    injection hc with e1 e2
    subst e1;subst e2
    exact Vq h hd hx qf hev
   |makeFunc fn first cs=>
    cases fn with
    |func f=>simp only [cop] at hc;split at hc<;>simp at hc
    |_=>simp [cop] at hc
   |_=>
    exfalso
    simp only [cop] at hc
    first
     |cases hc;done
     |(simp at hc;done)
     |(repeat' (split at hc))<;>(first|(cases hc;done)|(simp at hc;done))
 · by_cases hy:∃k x,op= .CU k x
   · obtain ⟨k,x,rfl⟩:=hy
     exact Lu (m:=true) h hd (by simpa [e9] using hc) hev
   have:op.er=op:=by
    cases op<;>first|rfl|exact absurd ⟨_,rfl⟩ hx|exact absurd ⟨_,_,rfl⟩ hy|cases fG|rfl
   rw [this] at hc
   exact N7 h hd hc fG (.inl rfl) hev
theorem Lv {o:Oper} {op:gK} (h:SR L N F γ C e ah ts w) (hd:∀x,o.dst=some x→x<N) (hc:e9 P m o=some op.er) (fG:op.qe=false)
 (hev:bR L ⟨o.dst,op,none⟩ e ah=some (e',aH)):bx m P L N F γ C o ts ds w e' aH:=by
 cases m with
 |true=>exact Ju h hd (by simpa [e9] using hc) fG hev
 |false=>
  by_cases hx:∃x,op= .qC x
  · obtain ⟨x,rfl⟩:=hx
    simp only [e9,Bool.false_eq_true,if_false,Option.map_eq_some_iff] at hc
    obtain ⟨op',ho,hE⟩:=hc
    have hE:op'.NT= .iT .sb x:=hE
    have:op'= .iT .sb x:=by
     cases op' with
     |iT hh y=>cases hh<;>first|exact hE|cases hE
     |ld y n=>cases hE
     |_=>exact hE
    subst this
    obtain ⟨v,w',γ',C',h1,h2,h3,h4,h5,h6⟩:=Ju (op:= .qC x) (ds:=ds) h hd ho rfl hev
    refine ⟨v,w',γ',C',h1,h2,h3,h4,h5,fun hq=> ?_⟩
    exfalso
    obtain ⟨d,oo,ty,pos,af,g⟩:=o
    cases oo with
    |convert s t y=>
     simp only [cop] at ho
     split at ho
     case h_2=>cases ho
     rename_i hh x' qf hx
     injection ho with ho
     injection ho with e1 e2
     subst e1
     unfold Je at qf
     split at qf
     · cases qf
     · cases qf
     · rename_i el hs ht
       simp [eZ,ht] at hq
     · split at qf
       · split at qf<;>cases qf
       · cases qf
     · cases qf
    |makeFunc fn first cs=>
     cases fn with
     |func f=>simp only [cop] at ho;split at ho<;>simp at ho
     |_=>simp [cop] at ho
    |_=>
     simp only [cop] at ho
     first
      |cases ho;done
      |(simp at ho;done)
      |(repeat' (split at ho))<;>(first|(cases ho;done)|(simp at ho;done))
  · by_cases hy:∃k x,op= .CU k x
    · obtain ⟨k,x,rfl⟩:=hy
      exact Lu h hd hc hev
    have:op.er=op:=by
     cases op<;>first|rfl|exact absurd ⟨_,rfl⟩ hx|exact absurd ⟨_,_,rfl⟩ hy|cases fG|rfl
    rw [this] at hc
    exact ZI h hd hc fG hev
theorem ym (L:List Nat) (d:Option Nat) (op:gK) (g:Option (Nat×Bool)) (e:Env) (ah:AH):bR L ⟨d,op,g⟩ e ah=bR L ⟨d,op,none⟩ e ah:=by
 cases op<;>rfl
def kN (P:Program) (f:Nat):Bool:=match P.funcs[f]? with
 |some fn=>fn.body.isSome&&fn.name != "runtime.NumGoroutine"
 |none=>false
def fR:Nat→List AV→Env
 |_,[]=>[]
 |i,a::r=>(i,a)::fR (i+1) r
theorem fj:∀(l:List AV) (i t:Nat),get (fR i l) t=if i≤t then (l[t - i]?).getD .un else .un:=by
 intro l
 induction l with
 |nil=>intro i t;simp [fR,get]
 |cons a r ih=>
  intro i t
  simp only [fR,get]
  by_cases h:i=t
  · subst h;simp
  · rw [if_neg h,ih]
    by_cases h1:i≤t
    · obtain ⟨q,hq⟩:∃q,t - i=q+1:=⟨t - i - 1,by omega⟩
      rw [if_pos h1,if_pos (by omega),hq,show t - (i+1)=q by omega];simp
    · rw [if_neg h1,if_neg (by omega)]
def aG (P:Program) (f:Nat) (args:List AV) (ah:AH) (R:AV→AH→Prop):Prop:=
 kN P f=true∧∀(F:Nat→Prop) (γ:List Nat) (C:Nat→List Value) (w:World) (vs:Array Value),SR [] args.length F γ C (fR 0 args) ah vs w→
  Calls P f vs w fun en w'=>∃r v aH γ' C',en= .returned v∧R r aH∧γ <+: γ'∧SR [] 1 F γ' C' [(0,r)] aH #[v] w'∧Ext F C w C' w'
theorem aG.mono {f:Nat} {args:List AV} {ah:AH} {R R':AV→AH→Prop} (h:aG P f args ah R) (hr:∀r aH,R r aH→R' r aH):aG P f args ah R':=
 ⟨h.1,fun F γ C w vs hs=>(h.2 F γ C w vs hs).mono fun _ _ ⟨r,v,aH,γ',C',h1,h2,h3⟩=>⟨r,v,aH,γ',C',h1,hr _ _ h2,h3⟩⟩
def AV.jZ:AV→AV
 | .sl (.fr (.cell _ _)) k xs=> .sl .n k xs
 |a=>a
def yo:Env→Env
 |[]=>[]
 |(i,a)::r=>(i,a.jZ)::yo r
theorem BM (e:Env) (t:Nat):get (yo e) t=(get e t).jZ:=by
 induction e with
 |nil=>rfl
 |cons p r ih=>
  obtain ⟨i,b⟩:=p
  simp only [yo,get]
  by_cases h:i=t<;>simp [h,ih]
theorem Wk.jZ (a:AV):Wk a a.jZ:=by
 cases a with
 |sl t k xs=>
  cases t with
  |fr m=>cases m<;>first|exact .n .. |exact .same _
  |_=>exact .same _
 |_=>exact .same _
theorem VH (a:AV):a.jZ.bZ=a.bZ:=by
 cases a with
 |sl t k xs=>
  cases t with
  |fr m=>cases m<;>rfl
  |_=>rfl
 |_=>rfl
theorem R1 (a:AV) (v:Value):b7 a.jZ v=b7 a v:=by
 cases a with
 |sl t k xs=>
  cases t with
  |fr m=>cases m<;>simp [AV.jZ,b7]
  |_=>rfl
 |_=>rfl
theorem ZK {a:AV} {l:Loc} {k:Nat} {xs:List AV} (h:a.jZ= .sl (.fr l) k xs):a= .sl (.fr l) k xs∧∃t,l= .tmp t:=by
 cases a with
 |sl t k' xs'=>
  cases t with
  |fr m=>cases m with
   |tmp u=>simp only [AV.jZ] at h;exact ⟨h,u,by injection h with h;injection h with h;exact h.symm⟩
   |cell s o=>simp [AV.jZ] at h
  |_=>simp [AV.jZ] at h
 |_=>simp [AV.jZ] at h
theorem Lw {f:Nat} {zq:List AV} {vs:Array Value} {R:AV→AH→Prop} {d:Option Nat} (h:SR L N F γ C e ah ts w) (hd:∀x,d=some x→x<N) (hac:aG P f zq ah R)
 (hlen:vs.size=zq.length) (has:∀(i:Nat) (a:AV),zq[i]? =some a→VR C γ a (vs.getD i undef)∧TC w C a (vs.getD i undef)∧a.plain=true):
 Calls P f vs w fun en w'=>∃r v aH γ' C',en= .returned v∧R r aH∧γ <+: γ'∧SR L N F γ' C' (Am.aI L (yo e) d r.df) aH (Act.put ⟨ts,ds⟩ d v).tmps w'∧Ext F C w C' w':=by
 let F':Nat→Prop:=fun b=>F b∨∃t,blk γ e ah ts w (.tmp t) b
 have R2:∀t,get (fR 0 zq) t=(zq[t]?).getD .un:=fun t=>by rw [fj];simp
 have hnot:∀t,(get (fR 0 zq) t).bZ=false:=by
  intro t
  rw [R2]
  cases ht:zq[t]? with
  |none=>rfl
  |some a=>exact iX (has t a ht).2.2
 have hsub:∀p b,blk γ (fR 0 zq) ah vs w p b→blk γ e ah ts w p b∧∀t,p≠ .tmp t:=by
  intro p b hp
  cases p with
  |obj s=>exact ⟨hp,by simp⟩
  |cell s i=>exact ⟨hp,by simp⟩
  |tmp t=>simp only [blk] at hp;rw [jI _ (hnot t)] at hp;cases hp
 have hs:SR [] zq.length F' γ C (fR 0 zq) ah vs w:=by
  refine ⟨h.mem,hlen,fun t=> ?_,fun p q b hp hq=>h.fc p q b (hsub p b hp).1 (hsub q b hq).1,fun p b hp=> ?_,⟨fun b hb=> ?_,fun e he=>by obtain ⟨h1,h2⟩:=h.mW.Le e he;exact ⟨.inl h1,h2⟩⟩,fun t l k xs ht=> ?_⟩
  · rw [R2]
    cases ht:zq[t]? with
    |none=>exact ⟨.un ..,by cases vs.getD t undef<;>trivial⟩
    |some a=>exact ⟨(has t a ht).1,(has t a ht).2.1⟩
  · rintro (hF|⟨t,ht⟩)
    · exact h.nf p b (hsub p b hp).1 hF
    · exact (hsub p b hp).2 t (h.fc p (.tmp t) b (hsub p b hp).1 ht)
  · rcases hb with hF|⟨t,ht⟩
    · exact h.mW.lt b hF
    · exact iw h ht
  · rw [R2] at ht
    cases hq:zq[t]? with
    |none=>rw [hq] at ht;simp at ht
    |some a=>rw [hq] at ht;exact absurd ht (zp (has t a hq).2.2 l k xs)
 refine (hac.2 F' γ C w vs hs).mono ?_
 rintro en w' ⟨r,v,aH,γ',C',rfl,hR,hγ,ni,hx⟩
 refine ⟨r,v,aH,γ',C',rfl,hR,hγ, ?_,⟨hx.pre,fun b hb=>hx.keep b (.inl hb),hx.size,hx.out⟩⟩
 have hg:∀(s b:Nat),γ[s]? =some b→γ'[s]? =some b:=by
  intro s b hs
  obtain ⟨q,rfl⟩:=hγ
  rw [List.getElem?_append_left (List.getElem?_eq_some_iff.1 hs).1];exact hs
 have hown:∀t b,b7 (get e t) (ts.getD t undef)=some b→F' b:=fun t b hb=> .inr ⟨t,hb⟩
 have hbk:∀p b,blk γ' (yo e) aH ts w' p b→(∃t,p= .tmp t∧blk γ e ah ts w (.tmp t) b)∨((∀t,p≠ .tmp t)∧blk γ' [(0,r)] aH #[v] w' p b):=by
  intro p b hp
  cases p with
  |obj s=>exact .inr ⟨by simp,hp⟩
  |cell s i=>exact .inr ⟨by simp,hp⟩
  |tmp t=>simp only [blk,BM,R1] at hp;exact .inl ⟨t,rfl,hp⟩
 have h2:SR L N F γ' C' (yo e) aH ts w':=by
  refine ⟨ni.mem,h.sz,fun t=> ?_,fun p q b hp hq=> ?_,fun p b hp=> ?_,h.mW.keep hx.size (fun b hb=>(hx.keep b (.inl hb)).1),fun t l k xs ht=> ?_⟩
  · rw [BM]
    refine ⟨(Wk.jZ _).vr ((h.env t).1.mono hx.pre _ hg),(Wk.jZ _).tc ((h.env t).2.mono fun b hb=> ?_)⟩
    exact hx.keep b (hown t b hb)
  · rcases hbk p b hp with ⟨t,rfl,h1⟩|⟨h1,h2⟩<;>rcases hbk q b hq with ⟨u,rfl,h3⟩|⟨h3,h4⟩
    · exact h.fc _ _ b h1 h3
    · exact absurd (hown t b h1) (ni.nf q b h4)
    · exact absurd (hown u b h3) (ni.nf p b h2)
    · exact ni.fc p q b h2 h4
  · rcases hbk p b hp with ⟨t,rfl,h1⟩|⟨h1,h2⟩
    · exact h.nf _ b h1
    · exact fun hF=>ni.nf p b h2 (.inl hF)
  · rw [BM] at ht
    obtain ⟨h1,u,rfl⟩:=ZK ht
    have:=h.fr t _ k xs h1
    exact ⟨this.1,fun hu=>this.2 (by rw [BM,VH] at hu;exact hu)⟩
 have hr:=ni.env 0
 simp only [get,if_true] at hr
 have hv0:(#[v]:Array Value).getD 0 undef=v:=rfl
 rw [hv0] at hr
 by_cases ho:r.bZ=true
 · cases r with
   |sl t k xs=>
    cases t with
    |own=>
     simp only [AV.df]
     refine h2.uR hd hr.1 hr.2 fun b hb=> ?_
     have hb0:blk γ' [(0, .sl .own k xs)] aH #[v] w' (.tmp 0) b:=hb
     refine ⟨fun hF=>ni.nf _ b hb0 (.inl hF),fun p hp=> ?_⟩
     rcases hbk p b hp with ⟨t,rfl,h1⟩|⟨h1,h3⟩
     · exact ni.nf _ b hb0 (hown t b h1)
     · exact h1 0 (ni.fc p (.tmp 0) b h3 hb0)
    |_=>cases ho
   |_=>cases ho
 · have ho':r.bZ=false:=by simpa using ho
   exact h2.aI hd ((Wk.df r).vr hr.1) ((Wk.df r).tc hr.2) (QN ho') (fun l k xs hl=>absurd hl (NU r l k xs))
end
end Go.Am
end
section
namespace Go.Am
open Go
variable [Tabs]
def BN (P:Program) (L:List Nat) (o:aQ) (e:Env) (ah:AH) (K:Env→AH→Prop):Prop:=
 match o.op with
 | .call f zq=>
   match ev e f with
   | .fn f caps=>aX caps=true∧aG P f (zq.map (fun x=>(ev e x).sh)++caps.map AV.s1) ah fun r aH=>K (aI L (yo e) o.d r.df) aH
   |_=>False
 | .oc k b x y=>qD L o.d k b x y e ah K
 | .nq n x=>Fc L o.d n x e ah K
 |_=>match bR L o e ah with
  |some (e',aH)=>K e' aH
  |none=>False
def qK (e:Env):Option Nat→Env
 |some d=>put e d (.bG [])
 |none=>e
def fe (P:Program) (L:List Nat):List aQ→Env→AH→(Env→AH→Prop)→Prop
 |[],e,ah,K=>K e ah
 |o::r,e,ah,K=>match iA e o with
  |some true=>BN P L o e ah fun e ah=>fe P L r e ah K
  |some false=>fe P L r (qK e o.d) ah K
  |none=>False
def mX (N:Nat):List aQ→Bool
 |[]=>true
 |o::r=>(match o.d with|some d=>decide (d<N)|none=>true)&&(match o.op with| .lit y _=>decide (y<N)|_=>true)&&mX N r
theorem QZ (N:Nat):∀zq:List aQ,mX N (zq.map aQ.er)=mX N zq:=by
 intro zq
 induction zq with
 |nil=>rfl
 |cons o r ih=>
  obtain ⟨d,op,g⟩:=o
  simp only [List.map_cons,mX,ih,aQ.er]
  cases op<;>rfl
def NG:Exit→Prop
 | .goto _=>False
 |_=>True
def AW (P:Program) (L:List Nat) (N n0:Nat) (c:Code) (Q:Exit→Env→AH→Prop) (e:Env) (ah:AH):Prop:=
 ∀(F:Nat→Prop) (γ:List Nat) (C:Nat→List Value) (ts:Array Value) (w:World),SR L N F γ C e ah ts w→n0≤γ.length→
  c.wp P (fun x a' w'=>a'.defers=[]∧NG x∧∃e' aH γ' C',Q x e' aH∧γ.take n0 <+: γ'∧SR L N F γ' C' e' aH a'.tmps w'∧Ext F C w C' w') ⟨ts,[]⟩ w
section
variable {P:Program} {L:List Nat} {N n0:Nat} {F:Nat→Prop} {γ:List Nat} {C C':Nat→List Value} {e:Env} {ah:AH} {ts:Array Value} {w w':World}
variable {e':Env} {aH:AH}
theorem IP {γ γ':List Nat} {n:Nat} (h:γ <+: γ'):γ.take n <+: γ':=(List.take_prefix n γ).trans h
theorem qM {γ γ' γ'':List Nat} {n:Nat} (h0:n≤γ.length) (h:γ.take n <+: γ') (h':γ'.take n <+: γ''):γ.take n <+: γ'':=by
 obtain ⟨r,rfl⟩:=h
 have:(γ.take n++r).take n=γ.take n:=by
  rw [List.take_append_of_le_length (by simp;omega),List.take_take,Nat.min_self]
 rwa [this] at h'
theorem Lx {γ γ':List Nat} {n:Nat} (h0:n≤γ.length) (h:γ.take n <+: γ'):n≤γ'.length:=by
 have:=h.length_le;simp at this;omega
theorem AW.mono {c:Code} {Q Q':Exit→Env→AH→Prop} (h:AW P L N n0 c Q e ah) (hq:∀x e ah,Q x e ah→Q' x e ah):AW P L N n0 c Q' e ah:=
 fun F γ C ts w hs hn=>wp_mono (h F γ C ts w hs hn) fun _ _ _ ⟨hd,hg,e',aH,γ',C',h1,h2⟩=>⟨hd,hg,e',aH,γ',C',hq _ _ _ h1,h2⟩
theorem AW.skip {Q:Exit→Env→AH→Prop} (h:Q .normal e ah):AW P L N n0 .skip Q e ah:=
 fun F γ C ts w hs hn=>wp_skip ⟨rfl,trivial,e,ah,γ,C,h,List.take_prefix _ _,hs,Ext.refl ..⟩
theorem AW.label {Q:Exit→Env→AH→Prop} {l:Nat} (h:Q .normal e ah):AW P L N n0 (.label l) Q e ah:=
 fun F γ C ts w hs hn=>wp_label ⟨rfl,trivial,e,ah,γ,C,h,List.take_prefix _ _,hs,Ext.refl ..⟩
theorem AW.ret {Q:Exit→Env→AH→Prop} (h:Q .ret e ah):AW P L N n0 .ret Q e ah:=
 fun F γ C ts w hs hn=>wp_ret ⟨rfl,trivial,e,ah,γ,C,h,List.take_prefix _ _,hs,Ext.refl ..⟩
theorem AW.exit {Q:Exit→Env→AH→Prop} {i:Nat} (h:Q (.exit i) e ah):AW P L N n0 (.exit i) Q e ah:=
 fun F γ C ts w hs hn=>wp_exit ⟨rfl,trivial,e,ah,γ,C,h,List.take_prefix _ _,hs,Ext.refl ..⟩
theorem AW.seq {a b:Code} {Q:Exit→Env→AH→Prop} (h:AW P L N n0 a (fun x e ah=>match x with| .normal=>AW P L N n0 b Q e ah|x=>Q x e ah) e ah):AW P L N n0 (.seq a b) Q e ah:=by
 intro F γ C ts w hs hn
 refine wp_seq (wp_mono (h F γ C ts w hs hn) ?_)
 rintro x ⟨ts',ds'⟩ w' ⟨rfl,hg,e',aH,γ',C',h1,h2,h3,h4⟩
 cases x with
 |normal=>
  refine wp_mono (h1 F γ' C' ts' w' h3 (Lx hn h2)) ?_
  rintro x ⟨N8,ds2⟩ w2 ⟨rfl,hg,e2,uT,γ2,C2,g1,g2,g3,g4⟩
  exact ⟨rfl,hg,e2,uT,γ2,C2,g1,qM hn h2 g2,g3,h4.trans g4⟩
 |_=>exact ⟨rfl,hg,e',aH,γ',C',h1,h2,h3,h4⟩
theorem AW.cond {c:Operand} {c':Ar} {a b:Code} {t:Bool} {Q:Exit→Env→AH→Prop} (hc:bF c=some c') (ht:ev e c'= .bool t) (h:AW P L N n0 (if t then a else b) Q e ah):
 AW P L N n0 (.cond c a b) Q e ah:=by
 intro F γ C ts w hs hn
 have:=(bX (ds:=[]) hs hc).1
 rw [ht] at this
 exact wp_cond (t:=t) this.iB (h F γ C ts w hs hn)
theorem AW.blk {c:Code} {i:Nat} {Q:Exit→Env→AH→Prop} (h:AW P L N n0 c (fun x e ah=>match x with| .exit j=>if j=i then Q .normal e ah else Q (.exit j) e ah|x=>Q x e ah) e ah):
 AW P L N n0 (.block i c) Q e ah:=by
 intro F γ C ts w hs hn
 refine wp_block (wp_mono (h F γ C ts w hs hn) ?_)
 rintro x a w' ⟨hd,hg,e',aH,γ',C',h1,h2⟩
 cases x with
 |exit j=>
  simp only [Exit.inBlock] at h1 ⊢
  by_cases hj:j=i
  · rw [if_pos hj] at h1 ⊢;exact ⟨hd,trivial,e',aH,γ',C',h1,h2⟩
  · rw [if_neg hj] at h1 ⊢;exact ⟨hd,trivial,e',aH,γ',C',h1,h2⟩
 |_=>exact ⟨hd,hg,e',aH,γ',C',h1,h2⟩
theorem AW.loop {c:Code} {Q:Exit→Env→AH→Prop} (I:Nat→Env→AH→Prop) {k0:Nat}
 (round:∀k e ah,I k e ah→AW P L N n0 c (fun x e' aH=>match x with| .normal=>∃k',k'<k∧I k' e' aH|x=>Q x e' aH) e ah) (h0:I k0 e ah):AW P L N n0 (.loop c) Q e ah:=by
 intro F γ C ts w hs hn
 refine wp_loop_ghost (fun k a w'=>a.defers=[]∧∃e' aH γ' C',I k e' aH∧γ.take n0 <+: γ'∧SR L N F γ' C' e' aH a.tmps w'∧Ext F C w C' w') k0
  ⟨rfl,e,ah,γ,C,h0,List.take_prefix _ _,hs,Ext.refl ..⟩ ?_
 rintro k ⟨Fv,ds1⟩ w1 ⟨rfl,e1,cq,γ1,C1,h1,h2,h3,h4⟩
 refine wp_mono (round k e1 cq h1 F γ1 C1 Fv w1 h3 (Lx hn h2)) ?_
 rintro x ⟨N8,ds2⟩ w2 ⟨rfl,hg,e2,uT,γ2,C2,g1,g2,g3,g4⟩
 cases x with
 |normal=>obtain ⟨k',hk',hI⟩:=g1;exact ⟨k',hk',rfl,e2,uT,γ2,C2,hI,qM hn h2 g2,g3,h4.trans g4⟩
 |_=>exact ⟨rfl,hg,e2,uT,γ2,C2,g1,qM hn h2 g2,g3,h4.trans g4⟩
theorem AW.scope {c:Code} {Q:Exit→Env→AH→Prop} (h:AW P L N n0 c Q e ah):AW P L N n0 (.scope c) Q e ah:=
 fun F γ C ts w hs hn=>wp_scope_straight (wp_mono (h F γ C ts w hs hn) fun x _ _ h=>by cases x<;>first|exact h|exact h.2.1.elim)
theorem AW.weak {c:Code} {Q:Exit→Env→AH→Prop} {e1:Env} (hw:∀t,Wk (get e t) (get e1 t)) (h:AW P L N n0 c Q e1 ah):AW P L N n0 c Q e ah:=
 fun F γ C ts w hs hn=>h F γ C ts w (hs.wk hw) hn
theorem jJ {ops:Array Oper} {o:Oper} {g:Option (Nat×Bool)} {d:Option Nat} {op:gK} {b:Bool} (h:SR L N F γ C e ah ts w) (hg:iU ops o.guard=some g) (hb:iA e ⟨d,op,g⟩=some b):
 Region.wanted o (yielded ops ts)=b:=by
 unfold Region.wanted
 cases ho:o.guard with
 |none=>
  rw [ho] at hg
  simp only [iU,Option.some.injEq] at hg
  subst hg
  simp only [iA,Option.some.injEq] at hb
  exact hb
 |some jw=>
  obtain ⟨j,want⟩:=jw
  rw [ho] at hg
  simp only [iU,Option.map_eq_some_iff] at hg
  obtain ⟨t,ht,rfl⟩:=hg
  simp only [iA] at hb
  split at hb
  · rename_i b' he
    have hv:=(h.env t).1
    rw [he] at hv
    have hv:=hv.iB
    have hy:yielded ops ts j=some b':=by
     unfold yielded
     rw [ht]
     simp only [Option.bind_some]
     have:ts[t]? =some (.bool b'):=by
      rw [Array.getD_eq_getD_getElem?] at hv
      cases hq:ts[t]? with
      |none=>rw [hq] at hv;simp [undef] at hv
      |some v=>rw [hq] at hv;simp at hv;rw [hv]
     rw [this]
    simp only [hy]
    simp only [Option.some.injEq] at hb
    rw [←hb]
    simp
  · rename_i he
    have hv:=(h.env t).1
    rw [he] at hv
    obtain ⟨vs,hv, -⟩:=hv.xY
    have hy:yielded ops ts j=none:=by
     unfold yielded
     rw [ht]
     simp only [Option.bind_some]
     rw [Array.getD_eq_getD_getElem?] at hv
     cases hq:ts[t]? with
     |none=>rfl
     |some v=>rw [hq] at hv;simp at hv;rw [hv]
    simp only [hy]
    simp only [Option.some.injEq] at hb
    exact hb
  · cases hb
  · cases hb
theorem IQ (h:SR L N F γ C e ah ts w):∀(tys:List TypeId) (l:List Operand) (zq:List Ar),Af P tys l=some zq→zq.length=l.length∧
 ∀(i:Nat) (x:Operand) (a:Ar),l[i]? =some x→zq[i]? =some a→VR C γ (ev e a) (Act.eval ⟨ts,[]⟩ x)∧TC w C (ev e a) (Act.eval ⟨ts,[]⟩ x):=by
 intro tys l
 induction l generalizing tys with
 |nil=>intro zq hc;cases tys<;>(simp [Af] at hc;subst hc;simp)
 |cons x r ih=>
  intro zq hc
  cases tys with
  |nil=>simp [Af] at hc
  |cons t tys=>
   simp only [Af] at hc
   split at hc
   case h_2=>cases hc
   rename_i a zq' ha has
   simp only [Option.some.injEq] at hc
   subst hc
   obtain ⟨h1,h2⟩:=ih tys zq' has
   refine ⟨by simp [h1],fun j y b hy hb=> ?_⟩
   cases j with
   |zero=>simp at hy hb;subst hy;subst hb;exact gD h ha
   |succ j=>exact h2 j y b (by simpa using hy) (by simpa using hb)
theorem Fw {f:Nat} (hf:kN P f=true) {d:Option Nat} {x:Operand} {args:Array Operand} {tys:Array TypeId} {ty:TypeId} {pos:String} {af:Array Edge} {g:Option (Nat×Bool)} {caps:Array Value} {ρ:Operand→Value}
 (hx:ρ x= .func (.func f) #[] caps):
 (execOp ρ ⟨d, .call {callee:= .value x,args:=args,argTypes:=tys},ty,pos,af,g⟩).run P w= .ok (.enter f (args.map ρ++caps)) w:=by
 unfold kN at hf
 split at hf
 case h_2=>cases hf
 rename_i fn hfn
 simp only [Bool.and_eq_true,bne_iff_ne] at hf
 obtain ⟨h1,h2⟩:=hf
 have h3:fn.body.isNone=false:=by cases hb:fn.body<;>simp_all
 have h4:(fn.name== "runtime.NumGoroutine")=false:=by simpa using h2
 have h5:fn.body≠none:=by intro h0;rw [h0] at h1;cases h1
 simp [execOp,resolve,Deferred.ofValue,hx,invoke,callFunc,program,Sem.run,hfn,h2,h5]
theorem CY {o:Oper} {f:Ar} {yp:List Ar} (hop:cop P o=some (.call f yp)):
 ∃x args tys,o=⟨o.dst, .call {callee:= .value x,args:=args,argTypes:=tys},o.type,o.pos,o.after,o.guard⟩∧bF x=some f∧Af P tys.toList args.toList=some yp:=by
 obtain ⟨d,oo,ty,pos,af,gd⟩:=o
 cases oo with
 |call c=>
  obtain ⟨callee,args,tys⟩:=c
  simp only [cop] at hop
  split at hop
  · split at hop<;>simp at hop
  · split at hop
    · split at hop
      · simp at hop
      · cases hop
    · cases hop
  · split at hop
    · split at hop
      · simp at hop
      · cases hop
    · cases hop
  · split at hop
    · split at hop
      · split at hop<;>simp at hop
      · split at hop<;>simp at hop
      · cases hop
    · cases hop
  · rename_i x
    split at hop
    · rename_i f2 as2 h1 h2
      injection hop with hop
      injection hop with e1 e2
      subst e1;subst e2
      exact ⟨x,args,tys,rfl,h1,h2⟩
    · cases hop
  · cases hop
 |makeFunc fn first cs=>
  cases fn with
  |func f=>simp only [cop] at hop;split at hop<;>simp at hop
  |_=>simp [cop] at hop
 |_=>
  exfalso
  simp only [cop] at hop
  first
   |cases hop;done
   |(simp at hop;done)
   |(repeat' (split at hop))<;>(first|(cases hop;done)|(simp at hop;done))
theorem Fx (hs:SR L N F γ C e ah ts w) {yp:List Ar} {caps:List AV} {args:Array Operand} {vs:Array Value} (hfl:aX caps=true) (hcl:caps.length=vs.size)
 (qf:∀(i:Nat) (a:AV),caps[i]? =some a→VR C γ a (vs.getD i undef)) (c1:yp.length=args.toList.length)
 (c2:∀(i:Nat) (x:Operand) (a:Ar),args.toList[i]? =some x→yp[i]? =some a→VR C γ (ev e a) (Act.eval ⟨ts,[]⟩ x)∧TC w C (ev e a) (Act.eval ⟨ts,[]⟩ x)):
 ∀(i:Nat) (a:AV),(yp.map (fun x=>(ev e x).sh)++caps.map AV.s1)[i]? =some a→
  VR C γ a ((args.map (Act.eval ⟨ts,[]⟩)++vs).getD i undef)∧TC w C a ((args.map (Act.eval ⟨ts,[]⟩)++vs).getD i undef)∧a.plain=true:=by
 intro i a hi
 by_cases hlt:i<yp.length
 · rw [List.getElem?_append_left (by simpa using hlt),List.getElem?_map,List.getElem?_eq_getElem hlt] at hi
   obtain rfl:(ev e yp[i]).sh=a:=by simpa using hi
   have IL:i<args.toList.length:=by omega
   have:=c2 i _ _ (List.getElem?_eq_getElem IL) (List.getElem?_eq_getElem hlt)
   have hgd:(args.map (Act.eval ⟨ts,[]⟩)++vs).getD i undef=Act.eval ⟨ts,[]⟩ args.toList[i]:=by
    rw [Array.length_toList] at IL
    simp [Array.getD_eq_getD_getElem?,Array.getElem?_append,IL]
   rw [hgd]
   exact ⟨(Wk.sh _).vr this.1,(Wk.sh _).tc this.2,uS _⟩
 · rw [List.getElem?_append_right (by simpa using hlt),List.getElem?_map] at hi
   simp only [List.length_map] at hi
   cases HB:caps[i - yp.length]? with
   |none=>rw [HB] at hi;simp at hi
   |some b=>
    rw [HB] at hi
    obtain rfl:b.s1=a:=by simpa using hi
    have hgd:(args.map (Act.eval ⟨ts,[]⟩)++vs).getD i undef=vs.getD (i - yp.length) undef:=by
     have c1':yp.length=args.size:=by simpa using c1
     simp only [Array.getD_eq_getD_getElem?]
     rw [Array.getElem?_append_right (by simp;omega)]
     simp [c1']
    rw [hgd]
    exact ⟨(Wk.mL (Wk.s1 _)).vr (qf _ _ HB),Vd b (kL hfl HB) _,IF b⟩
theorem Ly {o:Oper} {a:gK} (h:QL P o=some a):cop P o=some a∨a= .bad:=by
 unfold QL at h
 cases hc:cop P o with
 |none=>rw [hc] at h;injection h with h;exact .inr h.symm
 |some b=>rw [hc] at h;exact .inl h
theorem ZL {op:gK} (h:op.er= .bad):op= .bad:=by cases op<;>first|rfl|cases h
theorem DY {ops:Array Oper} {l:List Oper} {zq:List aQ} (h:lR P ops l=some zq):(l=[]∧zq=[])∨
 (∃o o2 r a zq',l=o::o2::r∧oq P o o2=some a∧lR P ops r=some zq'∧zq=a::zq')∨
 (∃o o2 r ag zq',l=o::o2::r∧Lc P ops o o2=some ag∧lR P ops r=some zq'∧zq=ag++zq')∨
 ∃o r op g zq',l=o::r∧(cop P o=some op∨op= .bad)∧iU ops o.guard=some g∧lR P ops r=some zq'∧zq=⟨o.dst,op,g⟩::zq':=by
 cases l with
 |nil=>simp only [lR,Option.some.injEq] at h;exact .inl ⟨rfl,h.symm⟩
 |cons o r=>
  cases r with
  |nil=>
   simp only [lR] at h
   split at h
   case h_2=>cases h
   rename_i a g h1 h2
   injection h with h
   exact .inr (.inr (.inr ⟨o,[],a,g,[],rfl,Ly h1,h2,rfl,h.symm⟩))
  |cons o2 r=>
   rw [lR] at h
   split at h
   · rename_i a ha
     simp only [Option.map_eq_some_iff] at h
     obtain ⟨zq',h1,rfl⟩:=h
     exact .inr (.inl ⟨o,o2,r,a,zq',rfl,ha,h1,rfl⟩)
   · split at h
     · rename_i ag hag
       simp only [Option.map_eq_some_iff] at h
       obtain ⟨zq',h1,rfl⟩:=h
       exact .inr (.inr (.inl ⟨o,o2,r,ag,zq',rfl,hag,h1,rfl⟩))
     · split at h
       case h_2=>cases h
       rename_i a g zq' h1 h2 h3
       injection h with h
       exact .inr (.inr (.inr ⟨o,o2::r,a,g,zq',rfl,Ly h1,h2,h3,h.symm⟩))
theorem Q0 {a b:aQ} {y:Nat} {bs:List UInt8} (h:a.er=b) (hb:b.op= .lit y bs):a=b:=by
 obtain ⟨d,op,g⟩:=a
 subst h
 cases op<;>first|rfl|(simp [aQ.er,gK.er] at hb)
theorem Fy {o o2:Oper} {a:aQ} (h:oq P o o2=some a):∃y bs,a.op= .lit y bs:=by
 unfold oq at h
 split at h
 case h_2=>cases h
 split at h
 case isFalse=>cases h
 split at h
 case h_2=>cases h
 split at h
 case h_2=>cases h
 split at h
 case isFalse=>cases h
 split at h
 case h_2=>cases h
 simp only [Option.map_eq_some_iff] at h
 obtain ⟨bs, -,rfl⟩:=h
 exact ⟨_,_,rfl⟩
theorem CZ {ops:Array Oper} {o o2:Oper} {ag:List aQ} (h:Lc P ops o o2=some ag):∃d y bs t w g,ag=[⟨some y, .mv (.c .un),some (t,w)⟩,⟨d, .lit y bs,some (t,w)⟩]∧t≠y∧
 oq P (bare o) (bare o2)=some ⟨d, .lit y bs,g⟩∧iU ops o.guard=some (some (t,w))∧iU ops o2.guard=some (some (t,w)):=by
 unfold Lc at h
 split at h
 case isFalse=>cases h
 rename_i hg
 split at h
 case h_2=>cases h
 rename_i x t w d y bs g h1 h2 h3
 split at h
 · cases h
 · rename_i hty
   injection h with h
   exact ⟨d,y,bs,t,w,g,h.symm,hty,h3,h2,by rw [←hg];exact h2⟩
theorem ab2 {a b:aQ} {x:Ar} (h:a.er=b) (hb:b.op= .mv x):a=b:=by
 obtain ⟨d,op,g⟩:=a
 subst h
 cases op<;>first|rfl|(simp [aQ.er,gK.er] at hb)
theorem Jv {ops:Array Oper} {l:List Oper} {zq:List aQ} (h:lR P ops l=some (zq.map aQ.er)):(l=[]∧zq=[])∨
 (∃o o2 r a zq',l=o::o2::r∧oq P o o2=some a∧lR P ops r=some (zq'.map aQ.er)∧zq=a::zq')∨
 (∃o o2 r ag zq',l=o::o2::r∧Lc P ops o o2=some ag∧lR P ops r=some (zq'.map aQ.er)∧zq=ag++zq')∨
 ∃o r op g zq',l=o::r∧(cop P o=some op.er∨op= .bad)∧iU ops o.guard=some g∧lR P ops r=some (zq'.map aQ.er)∧zq=⟨o.dst,op,g⟩::zq':=by
 rcases DY h with ⟨h1,h2⟩|⟨o,o2,r,a,zq',h1,h2,h3,h4⟩|⟨o,o2,r,ag,zq',h1,h2,h3,h4⟩|⟨o,r,op,g,zq',h1,h2,h3,h4,h5⟩
 · exact .inl ⟨h1,by simpa using h2⟩
 · cases zq with
   |nil=>simp at h4
   |cons x xs=>
    simp only [List.map_cons,List.cons.injEq] at h4
    obtain ⟨y,bs,hl⟩:=Fy h2
    have:=Q0 h4.1 hl
    subst this
    exact .inr (.inl ⟨o,o2,r,x,xs,h1,h2,by rw [h3,h4.2],rfl⟩)
 · obtain ⟨d,y,bs,t,w,g,rfl, -⟩:=CZ h2
   cases zq with
   |nil=>simp at h4
   |cons x xs=>
    cases xs with
    |nil=>simp at h4
    |cons x2 xs=>
     simp only [List.map_cons,List.cons_append,List.nil_append,List.cons.injEq] at h4
     have e1:=ab2 h4.1 rfl
     have e2:=Q0 h4.2.1 rfl
     subst e1;subst e2
     exact .inr (.inr (.inl ⟨o,o2,r,_,xs,h1,h2,by rw [h3,h4.2.2],rfl⟩))
 · cases zq with
   |nil=>simp at h5
   |cons x xs=>
    simp only [List.map_cons,List.cons.injEq] at h5
    obtain ⟨d,op',g'⟩:=x
    obtain ⟨h6,h7⟩:=h5
    simp only [aQ.er] at h6
    injection h6 with e1 e2 e3
    subst e1;subst e2;subst e3
    exact .inr (.inr (.inr ⟨o,r,op',g',xs,h1,h2.imp id ZL,h3,by rw [h4,h7],rfl⟩))
theorem Lz {ops:Array Oper} {o o2:Oper} {l:List Oper} {a:aQ} {zq:List aQ} {K:Env→AH→Prop} {Q:Exit→Act→World→Prop} (iR:oq P (bare o) (bare o2)=some a)
 (hw1:Region.wanted o (yielded ops ts)=true) (Fm:∀y bs v,a.op= .lit y bs→Region.wanted o2 (yielded ops ((⟨ts,[]⟩:Act).put (some y) v).tmps)=true) (hd:mX N (a::zq)=true)
 (hs:SR L N F γ C e ah ts w) (hk:fe P L (a::zq) e ah K)
 (next:∀e1 cq C1 Fv w1,fe P L zq e1 cq K→mX N zq=true→SR L N F γ C1 e1 cq Fv w1→Ext F C w C1 w1→wpList P ops Q l ⟨Fv,[]⟩ w1):wpList P ops Q (o::o2::l) ⟨ts,[]⟩ w:=by
 obtain ⟨d1,op1,ty1,pos1,af1,g1⟩:=o
 obtain ⟨d2,ZH,qH,pos2,af2,g2⟩:=o2
 unfold oq bare at iR
 split at iR
 case h_2=>cases iR
 rename_i t n parts s d x y h1 h2 h3
 simp only at h1 h2 h3
 subst h1;subst h2;subst h3
 split at iR
 case isFalse=>cases iR
 rename_i hcs
 obtain ⟨rfl,rfl,rfl,ZM,VI,hyd,hn,hn2⟩:=hcs
 split at iR
 case h_2=>cases iR
 rename_i el hel
 split at iR
 case h_2=>cases iR
 rename_i hu8
 split at iR
 case isFalse=>cases iR
 rename_i hsz
 split at iR
 case h_2=>cases iR
 rename_i yp ael
 simp only [Option.map_eq_some_iff] at iR
 obtain ⟨bs,N3,rfl⟩:=iR
 have Fm:=fun v=>Fm _ _ v rfl
 simp only [mX,Bool.and_eq_true] at hd
 obtain ⟨⟨hd1,LA⟩,hd3⟩:=hd
 have hy:x<N:=by simpa using LA
 have lA:∀z,d2=some z→z<N:=by
  intro z hz
  rw [hz] at hd1
  simpa using hd1
 simp only [fe,iA,BN,bR] at hk
 have ht:P.underlying d=some (.slice el):=by
  unfold Hv at hel
  split at hel
  · rename_i h;injection hel with hel;subst hel;exact h
  · cases hel
 obtain ⟨q1,q2⟩:=Vy N3 e
 obtain ⟨r,hrs,hrun,key⟩:=IK (ds:=[]) (d:=d2) hs lA ht hn (by rw [hsz.1];omega) hsz.2 ael (by rw [hsz.1];exact q2)
 obtain ⟨C',k1,k2⟩:=key (r.size,r.size+1) (.inr rfl)
 rw [q1,hsz.1] at k1
 have k3:=k1.DW (d:=x) (a:= .un) (v:= .slice (some ⟨w.heap.size,0,none⟩) n n) hy (.un ..) trivial rfl (by simp)
 unfold wpList
 rw [if_pos hw1]
 refine .inl ?_
 unfold Oper.wp
 have e1:(execOp (Act.eval ⟨ts,[]⟩) ⟨some x, .buildSlice d n parts,ty1,pos1,af1,g1⟩).run P w= .ok (.value (.slice (some ⟨w.heap.size,0,none⟩) n n)) (w.alloc (.cells r el)):=by
  simp [execOp,hrun]
 rw [e1]
 simp only [Oper.upon]
 unfold wpList
 rw [if_pos (Fm _)]
 refine .inl ?_
 unfold Oper.wp
 have hlt:x<ts.size:=by rw [hs.sz];exact hy
 have e2:(execOp (Act.eval ((⟨ts,[]⟩:Act).put (some x) (.slice (some ⟨w.heap.size,0,none⟩) n n))) ⟨d2, .convert d d (.tmp x),qH,pos2,af2,g2⟩).run P (w.alloc (.cells r el))= .ok (.value (.slice (some ⟨w.heap.size,0,none⟩) n n)) (w.alloc (.cells r el (r.size,r.size+1))):=by
  have hev:Act.eval ((⟨ts,[]⟩:Act).put (some x) (.slice (some ⟨w.heap.size,0,none⟩) n n)) (.tmp x)= .slice (some ⟨w.heap.size,0,none⟩) n n:=by
   simp [Act.eval,Act.put,hlt]
  have:=Lib.run_convert_bytes_const (P:=P) w d el r n n ht hu8
  simp only [execOp,hev,Sem.run_bind,this,Result.andThen_ok,Sem.run_pure]
 rw [e2]
 simp only [Oper.upon]
 rw [←SR.Fq ts [] hyd]
 have hput:(((⟨ts,[]⟩:Act).put d2 (.slice (some ⟨w.heap.size,0,none⟩) n n)).put (some x) (.slice (some ⟨w.heap.size,0,none⟩) n n))=
  ⟨(((⟨ts,[]⟩:Act).put d2 (.slice (some ⟨w.heap.size,0,none⟩) n n)).tmps).setIfInBounds x (.slice (some ⟨w.heap.size,0,none⟩) n n),[]⟩:=by
  cases d2<;>rfl
 rw [hput]
 exact next _ _ C' _ _ hk hd3 k3 k2
theorem ZN {ops:Array Oper} {o o2:Oper} {l:List Oper} {a:aQ} {zq:List aQ} {K:Env→AH→Prop} {Q:Exit→Act→World→Prop} (iR:oq P o o2=some a) (hd:mX N (a::zq)=true)
 (hs:SR L N F γ C e ah ts w) (hk:fe P L (a::zq) e ah K)
 (next:∀e1 cq C1 Fv w1,fe P L zq e1 cq K→mX N zq=true→SR L N F γ C1 e1 cq Fv w1→Ext F C w C1 w1→wpList P ops Q l ⟨Fv,[]⟩ w1):wpList P ops Q (o::o2::l) ⟨ts,[]⟩ w:=by
 have hg:o.guard=none∧o2.guard=none:=by
  unfold oq at iR
  split at iR
  case h_2=>cases iR
  split at iR
  case isFalse=>cases iR
  rename_i hcs
  exact ⟨by simpa using hcs.2.2.2.1,by simpa using hcs.2.2.2.2.1⟩
 have e1:bare o=o:=by obtain ⟨d,op,ty,pos,af,g⟩:=o;simp only at hg;simp [bare,hg.1]
 have e2:bare o2=o2:=by obtain ⟨d,op,ty,pos,af,g⟩:=o2;simp only at hg;simp [bare,hg.2]
 exact Lz (by rw [e1,e2];exact iR) (by simp [Region.wanted,hg.1]) (fun _ _ _ _=>by simp [Region.wanted,hg.2]) hd hs hk next
theorem VJ {ops:Array Oper}:∀(n:Nat) (l:List Oper) (zq:List aQ) (e:Env) (ah:AH) (K:Env→AH→Prop) (F:Nat→Prop) (γ:List Nat) (C:Nat→List Value) (ts:Array Value) (w:World)
 (Q:Exit→Act→World→Prop),l.length≤n→lR P ops l=some (zq.map aQ.er)→mX N zq=true→SR L N F γ C e ah ts w→fe P L zq e ah K→
 (∀e' aH γ' C' ts' w',K e' aH→γ <+: γ'→SR L N F γ' C' e' aH ts' w'→Ext F C w C' w'→Q .normal ⟨ts',[]⟩ w')→wpList P ops Q l ⟨ts,[]⟩ w:=by
 intro n
 induction n with
 |zero=>
  intro l zq e ah K F γ C ts w Q hn hc hd hs hk hq
  obtain rfl:l=[]:=List.eq_nil_of_length_eq_zero (by omega)
  simp only [lR,Option.some.injEq] at hc
  obtain rfl:zq=[]:=by simpa using hc.symm
  exact wpList_nil (hq e ah γ C ts w hk (List.prefix_refl _) hs (Ext.refl ..))
 |succ n ih=>
  intro l zq e ah K F γ C ts w Q hn hc hd hs hk hq
  rcases Jv hc with ⟨rfl,rfl⟩|⟨o,o2,l,a,zq',rfl,iR,has,rfl⟩|⟨o,o2,l,ag,zq',rfl,iR,has,rfl⟩|⟨o,l,op,g,zq',rfl,hop,hg,has,rfl⟩
  · exact wpList_nil (hq e ah γ C ts w hk (List.prefix_refl _) hs (Ext.refl ..))
  · exact ZN iR hd hs hk fun e1 cq C1 Fv w1 CV hd1 hs1 hx1=>ih l zq' e1 cq K F γ C1 Fv w1 Q (by simp at hn;omega) has hd1 hs1 CV
     fun e' aH γ' C' ts' w' g1 g2 g3 g4=>hq e' aH γ' C' ts' w' g1 g2 g3 (hx1.trans g4)
  · obtain ⟨d,y,bs,tg,want,g0,rfl,hty,hlo,ZM,VI⟩:=CZ iR
    have hd:mX N [⟨some y, .mv (.c .un),some (tg,want)⟩,⟨d, .lit y bs,some (tg,want)⟩]=true∧mX N zq'=true:=by
     simp only [List.cons_append,List.nil_append,mX,Bool.and_eq_true,Bool.and_true] at hd ⊢
     exact ⟨⟨hd.1,hd.2.1⟩,hd.2.2⟩
    have hyN:y<N:=by
     have:=hd.1
     simp only [mX,Bool.and_eq_true] at this
     simpa using this.1.1
    have aem:∀v,SR L N F γ C (put e y .un) ah (ts.setIfInBounds y v) w:=fun v=>hs.DW hyN (.un ..) trivial rfl (by simp)
    have hge:∀a,get (put e y a) tg=get e tg:=fun a=>by rw [fQ,if_neg hty]
    have BH:∀a (d d2:Option Nat) (op ZH:gK),iA (put e y a) ⟨d,op,some (tg,want)⟩=iA e ⟨d2,ZH,some (tg,want)⟩:=fun a _ _ _ _=>by simp only [iA,hge]
    rw [List.cons_append,List.cons_append,List.nil_append] at hk
    simp only [fe] at hk
    split at hk
    · rename_i vW
      have hw1:=jJ hs ZM vW
      have e0:aI L e (some y) (cp L (.c .un) (ev e (.c .un)))=put e y .un:=by
       simp only [ev,cp,aI];split<;>rfl
      simp only [BN,bR] at hk
      rw [e0,BH .un d (some y) (.lit y bs) (.mv (.c .un)),vW] at hk
      simp only at hk
      have hk3:fe P L (⟨d, .lit y bs,g0⟩::zq') (put e y .un) ah K:=by
       have h0:g0=none:=by
        unfold oq at hlo
        split at hlo
        case h_2=>cases hlo
        split at hlo
        case isFalse=>cases hlo
        split at hlo
        case h_2=>cases hlo
        split at hlo
        case h_2=>cases hlo
        split at hlo
        case isFalse=>cases hlo
        split at hlo
        case h_2=>cases hlo
        simp only [Option.map_eq_some_iff] at hlo
        obtain ⟨_, -,hlo⟩:=hlo
        injection hlo with _ _ h3
        exact h3.symm
       subst h0
       exact hk
      refine Lz hlo hw1 (fun y' bs' v h=> ?_) (by
       have h1:=hd.1
       simp only [mX,Bool.and_eq_true] at h1 ⊢
       exact ⟨h1.2.1,hd.2⟩) (hs.uQ (.un _)) hk3 fun e1 cq C1 Fv w1 CV hd1 hs1 hx1=>ih l zq' e1 cq K F γ C1 Fv w1 Q (by simp at hn;omega) has hd1 hs1 CV
       fun e' aH γ' C' ts' w' g1 g2 g3 g4=>hq e' aH γ' C' ts' w' g1 g2 g3 (hx1.trans g4)
      injection h with h1 h2
      subst h1
      exact jJ (aem v) VI (d:=d) (op:= .lit y bs) ((BH .un d (some y) (.lit y bs) (.mv (.c .un))).trans vW)
    · rename_i vW
      have hw1:=jJ hs ZM vW
      rw [show qK e (some y)=put e y (.bG []) from rfl,BH (.bG []) d (some y) (.lit y bs) (.mv (.c .un)),vW] at hk
      simp only at hk
      obtain ⟨N9,hdy⟩:o.dst=some y∧o2.dst=d:=by
       unfold oq bare at hlo
       split at hlo
       case h_2=>cases hlo
       rename_i h1 h2 h3
       simp only at h3
       split at hlo
       case isFalse=>cases hlo
       split at hlo
       case h_2=>cases hlo
       split at hlo
       case h_2=>cases hlo
       split at hlo
       case isFalse=>cases hlo
       split at hlo
       case h_2=>cases hlo
       simp only [Option.map_eq_some_iff] at hlo
       obtain ⟨_, -,hlo⟩:=hlo
       injection hlo with q1 q2 _
       injection q2 with q2 _
       subst q2
       exact ⟨h3,q1⟩
      have hs1:SR L N F γ C (put e y (.bG [])) ah (ts.setIfInBounds y undef) w:=hs.DW hyN (.bG _ [] #[] rfl (by simp)) (by simp [undef,TC]) rfl (by simp)
      unfold wpList
      rw [if_neg (by rw [hw1];simp)]
      unfold wpList
      have ab3:(⟨ts,[]⟩:Act).put o.dst undef=⟨ts.setIfInBounds y undef,[]⟩:=by rw [N9];rfl
      rw [ab3]
      have Fm:=jJ hs1 VI (d:=d) (op:= .lit y bs) ((BH (.bG []) d (some y) (.lit y bs) (.mv (.c .un))).trans vW)
      rw [if_neg (by show ¬(Region.wanted o2 (yielded ops (ts.setIfInBounds y undef))=true);rw [Fm];simp)]
      have hput:(⟨ts.setIfInBounds y undef,[]⟩:Act).put o2.dst undef=⟨((⟨ts.setIfInBounds y undef,[]⟩:Act).put o2.dst undef).tmps,[]⟩:=by cases o2.dst<;>rfl
      rw [hput]
      refine ih l zq' _ ah K F γ C _ w Q (by simp at hn;omega) has hd.2 ?_ hk hq
      rw [hdy]
      cases hdd:d with
      |none=>exact hs1
      |some d'=>
       have hdN:d'<N:=by
        have:=hd.1
        simp only [mX,Bool.and_eq_true,hdd] at this
        simpa using this.2.1.1
       exact hs1.DW hdN (.bG _ [] #[] rfl (by simp)) (by simp [undef,TC]) rfl (by simp)
    · exact hk.elim
  have hn':l.length≤n:=by simp at hn;omega
  simp only [mX,Bool.and_eq_true] at hd
  have lA:∀x,o.dst=some x→x<N:=by
   intro x hx
   have:=hd.1.1
   rw [hx] at this
   simpa using this
  simp only [fe] at hk
  split at hk
  · rename_i vW
    have hw:=jJ hs hg vW
    unfold wpList
    rw [if_pos hw]
    refine .inl ?_
    rcases hop with hop|rfl
    case inr=>exact hk.elim
    by_cases fG:op.qe=true
    · cases op with
      |call f yp=>
       simp only [BN] at hk
       split at hk
       case h_2=>exact hk.elim
       rename_i f' caps hfv
       obtain ⟨hfl,hk⟩:=hk
       obtain ⟨x,args,tys,ho,hx,hargs⟩:=CY hop
       have h1:=bX (ds:=[]) hs hx
       rw [hfv] at h1
       obtain ⟨vs,hfx,hcl,qf⟩:=h1.1.Jh
       obtain ⟨c1,c2⟩:=IQ hs _ _ _ hargs
       have Fz:=Lw (d:=o.dst) (ds:=[]) (vs:=args.map (Act.eval ⟨ts,[]⟩)++vs) hs lA hk (by simp [c1,hcl]) (Fx hs hfl hcl qf c1 c2)
       have Oa:(execOp (Act.eval ⟨ts,[]⟩) o).run P w= .ok (.enter f' (args.map (Act.eval ⟨ts,[]⟩)++vs)) w:=by
        rw [ho];exact Fw hk.1 hfx
       unfold Oper.wp
       rw [Oa]
       simp only [Oper.upon]
       refine Fz.mono ?_
       rintro en w1 ⟨r,v,cq,γ1,C1,rfl,hR,hγ,hs1,hx1⟩
       have hput:(⟨ts,[]⟩:Act).put o.dst v=⟨((⟨ts,[]⟩:Act).put o.dst v).tmps,[]⟩:=by cases o.dst<;>rfl
       show wpList P ops Q l ((⟨ts,[]⟩:Act).put o.dst v) w1
       rw [hput]
       exact ih l zq' _ cq K F γ1 C1 _ w1 Q hn' has hd.2 hs1 hR fun e' aH γ' C' ts' w' g1 g2 g3 g4=>hq e' aH γ' C' ts' w' g1 (hγ.trans g2) g3 (hx1.trans g4)
      |oc k b x y=>
       simp only [BN] at hk
       obtain ⟨e1,cq,hk',v,w1,γ1,C1,hr,hγ,hs1,hx1, -, -⟩:=IM (m:=true) (ds:=[]) hs lA (by simpa [e9] using hop) hk
       have next:wpList P ops Q l ((⟨ts,[]⟩:Act).put o.dst v) w1:=by
        have hput:(⟨ts,[]⟩:Act).put o.dst v=⟨((⟨ts,[]⟩:Act).put o.dst v).tmps,[]⟩:=by cases o.dst<;>rfl
        rw [hput]
        exact ih l zq' e1 cq K F γ1 C1 _ w1 Q hn' has hd.2 hs1 hk' fun e' aH γ' C' ts' w' g1 g2 g3 g4=>hq e' aH γ' C' ts' w' g1 (hγ.trans g2) g3 (hx1.trans g4)
       unfold Oper.wp
       rcases hr with hr|⟨hr,rfl⟩<;>rw [hr]<;>exact next
      |nq n x=>
       simp only [BN] at hk
       obtain ⟨e1,cq,hk',v,w1,γ1,C1,hr,hγ,hs1,hx1, -, -⟩:=Jt (m:=true) (ds:=[]) hs lA (by simpa [e9] using hop) hk
       have next:wpList P ops Q l ((⟨ts,[]⟩:Act).put o.dst v) w1:=by
        have hput:(⟨ts,[]⟩:Act).put o.dst v=⟨((⟨ts,[]⟩:Act).put o.dst v).tmps,[]⟩:=by cases o.dst<;>rfl
        rw [hput]
        exact ih l zq' e1 cq K F γ1 C1 _ w1 Q hn' has hd.2 hs1 hk' fun e' aH γ' C' ts' w' g1 g2 g3 g4=>hq e' aH γ' C' ts' w' g1 (hγ.trans g2) g3 (hx1.trans g4)
       unfold Oper.wp
       rcases hr with hr|⟨hr,rfl⟩<;>rw [hr]<;>exact next
      |_=>cases fG
    · have sV:op.qe=false:=by simpa using fG
      have hk':match bR L ⟨o.dst,op,g⟩ e ah with|some (e',aH)=>fe P L zq' e' aH K|none=>False:=by
       cases op<;>first|exact hk|cases sV
      rw [ym] at hk'
      cases hev:bR L ⟨o.dst,op,none⟩ e ah with
      |none=>rw [hev] at hk';exact hk'.elim
      |some ea=>
       obtain ⟨e1,cq⟩:=ea
       rw [hev] at hk'
       obtain ⟨v,w1,γ1,C1,hr,hγ,hs1,hx1, -, -⟩:=Ju (ds:=[]) hs lA hop sV hev
       have next:wpList P ops Q l ((⟨ts,[]⟩:Act).put o.dst v) w1:=by
        have hput:(⟨ts,[]⟩:Act).put o.dst v=⟨((⟨ts,[]⟩:Act).put o.dst v).tmps,[]⟩:=by cases o.dst<;>rfl
        rw [hput]
        exact ih l zq' e1 cq K F γ1 C1 _ w1 Q hn' has hd.2 hs1 hk' fun e' aH γ' C' ts' w' g1 g2 g3 g4=>hq e' aH γ' C' ts' w' g1 (hγ.trans g2) g3 (hx1.trans g4)
       unfold Oper.wp
       rcases hr with hr|⟨hr,rfl⟩<;>rw [hr]<;>exact next
  · rename_i vW
    have hw:=jJ hs hg vW
    unfold wpList
    rw [if_neg (by rw [hw];simp)]
    have hput:(⟨ts,[]⟩:Act).put o.dst undef=⟨((⟨ts,[]⟩:Act).put o.dst undef).tmps,[]⟩:=by cases o.dst<;>rfl
    rw [hput]
    refine ih l zq' _ ah K F γ C _ w Q hn' has hd.2 ?_ hk hq
    cases ho:o.dst with
    |none=>exact hs
    |some d=>exact hs.DW (lA d ho) (.bG _ [] #[] rfl (by simp)) (by simp [undef,TC]) rfl (by simp)
  · exact hk.elim
theorem ZO {ops:Array Oper} (l:List Oper) (zq:List aQ) (e:Env) (ah:AH) (K:Env→AH→Prop) (F:Nat→Prop) (γ:List Nat) (C:Nat→List Value) (ts:Array Value) (w:World)
 (Q:Exit→Act→World→Prop) (hc:lR P ops l=some (zq.map aQ.er)) (hd:mX N zq=true) (hs:SR L N F γ C e ah ts w) (hk:fe P L zq e ah K)
 (hq:∀e' aH γ' C' ts' w',K e' aH→γ <+: γ'→SR L N F γ' C' e' aH ts' w'→Ext F C w C' w'→Q .normal ⟨ts',[]⟩ w'):wpList P ops Q l ⟨ts,[]⟩ w:=
 VJ l.length l zq e ah K F γ C ts w Q (Nat.le_refl _) hc hd hs hk hq
end
end Go.Am
end
section
namespace Go.Am
open Go
variable [Tabs]
section
variable {P:Program} {ops:Array Oper} {Q:Exit→Act→World→Prop} {md:Region.Mode} {S:World→Prop} {D:Nat→Bool}
def wpS (P:Program) (ops:Array Oper) (Q:Exit→Act→World→Prop) (S:World→Prop) (D:Nat→Bool):Nat→Array Bool→Act→World→Prop
 |0,listed,a,w=>Region.ready .any ops listed=[]∧Q .normal a w
 |n+1,listed,a,w=>(Region.ready .any ops listed=[]→Q .normal a w)∧
  ∀i∈Region.ready .any ops listed,wpOp P ops Q i (fun a' w'=>(D i=false→S w')∧wpS P ops Q S D n (listed.setIfInBounds i true) a' w') a w
theorem wpS.any:∀ {n:Nat} {listed:Array Bool} {a:Act} {w:World},wpS P ops Q S D n listed a w→wpAny P .any ops Q n listed a w
 |0,_,_,_,h=>h
 |_+1,_,_,_,h=>⟨h.1,fun i hi=>wpOp_mono (fun _ _ h'=>h'.2.any) (h.2 i hi)⟩
theorem wpS.mono {S':World→Prop} (hS:∀w,S' w→S w):∀ {n:Nat} {listed:Array Bool} {a:Act} {w:World},wpS P ops Q S' D n listed a w→wpS P ops Q S D n listed a w
 |0,_,_,_,h=>h
 |_+1,_,_,_,h=>⟨h.1,fun i hi=>wpOp_mono (fun _ _ h'=>⟨fun hd=>hS _ (h'.1 hd),h'.2.mono hS⟩) (h.2 i hi)⟩
theorem jj {listed:Array Bool} {i j:Nat} (h:(listed.setIfInBounds i true).getD j true=false):listed.getD j true=false:=by
 by_cases hij:i=j
 · subst hij
   by_cases hlt:i<listed.size
   · simp [hlt] at h
   · simp [Array.getElem?_eq_none (Nat.le_of_not_lt hlt)] at h
 · rwa [getD_set_ne true hij] at h
theorem DZ:∀ {n:Nat} {listed:Array Bool} {a:Act} {w:World},(∀j,listed.getD j true=false→D j=true)→wpAny P .any ops Q n listed a w→wpS P ops Q S D n listed a w
 |0,_,_,_,_,h=>h
 |_+1,listed,_,_,hD,h=>⟨h.1,fun i hi=>wpOp_mono (fun _ _ h'=>⟨fun hd=>Bool.noConfusion ((hD i (mem_ready.1 hi).1).symm.trans hd),DZ (fun j hj=>hD j (jj hj)) h'⟩) (h.2 i hi)⟩
theorem Ob {i:Nat} {oi:Oper} {v:Value} (hi:ops[i]? =some oi) (hsel:∀(j:Nat) (o:Oper) cs b,ops[j]? =some o→o.op≠ .select cs b)
 (hQ:∀c a w,¬Q (.panic c) a w) (W:Nat→Prop):
 ∀(n:Nat) (listed:Array Bool) (a:Act) (w:World),
  (∀j oj,ops[j]? =some oj→j≠i→listed.getD j true=false→(∀e∈oj.after,Region.binds .any e=true→e.on≠i)→oi.apart ops oj=true)→
  (∀j,W j→listed.getD j true=false∧∃oj,ops[j]? =some oj∧∃e∈oj.after,Region.binds .any e=true∧(e.on=i∨W e.on))→(∀j,j<ops.size→D j=true→listed.getD j true=false→W j)→
  i∈Region.ready .any ops listed→YieldsIf P ops S oi v a→S w→
  wpS P ops Q S D n (listed.setIfInBounds i true) (a.put oi.dst v) w→wpS P ops Q S D (n+1) listed a w:=by
 intro n
 induction n with
 |zero=>
  intro listed a w _ _ _ hr hy hS H
  refine ⟨fun h=>(by rw [h] at hr;cases hr),fun j hj=> ?_⟩
  by_cases hji:j=i
  · subst hji;exact hy.wpOp hi hS ⟨fun _=>hS,H⟩
  · have:=ready_mono hj hji
    rw [H.1] at this
    cases this
 |succ n ih=>
  intro listed a w hfree yq hDW hr hy hS H
  refine ⟨fun h=>(by rw [h] at hr;cases hr),fun j hj=> ?_⟩
  by_cases hji:j=i
  · subst hji;exact hy.wpOp hi hS ⟨fun _=>hS,H⟩
  · have h1:=H.2 j (ready_mono hj hji)
    obtain ⟨abw,oj,Oc,hall⟩:=mem_ready.1 hj
    have hun:∀k,listed.getD k true=false→listed.getD k false=false:=fun k hk=>by
     rcases Nat.lt_or_ge k listed.size with h'|h'
     · simp [h'] at hk ⊢;exact hk
     · simp [Array.getElem?_eq_none h'] at hk
    have hnot:∀e∈oj.after,Region.binds .any e=true→listed.getD e.on true=false→False:=fun e he hb hu=>by
     have h1:=hall e he hb
     rw [hun _ hu] at h1
     cases h1
    have hni:∀e∈oj.after,Region.binds .any e=true→e.on≠i:=fun e he hb heq=>hnot e he hb (by rw [heq];exact (mem_ready.1 hr).1)
    have hWj:¬W j:=by
     intro hw
     obtain ⟨-,oj',Q1,e,he,hb,h0⟩:=yq j hw
     rw [Oc] at Q1
     injection Q1 with Q1
     subst Q1
     rcases h0 with h0|h0
     · exact hni e he hb h0
     · exact hnot e he hb (yq _ h0).1
    have hDj:D j=false:=by
     cases hd:D j with
     |false=>rfl
     |true=>exact absurd (hDW j (Array.getElem?_eq_some_iff.1 Oc).1 hd abw) hWj
    have h2:=wpOp_putIf Oc (hfree j oj Oc hji abw hni) (fun cs b=>hsel i oi cs b hi) (fun cs b=>hsel j oj cs b Oc) (fun c a w hq=>(hQ c _ w hq).elim) hy h1
    refine wpOp_mono (fun a' w' h3=> ?_) h2
    have hS':=h3.2.1 hDj
    refine ⟨fun _=>hS',ih (listed.setIfInBounds j true) a' w' ?_ ?_ ?_ (ready_mono hr (Ne.symm hji)) h3.1 hS' ?_⟩
    · exact fun k ok hk hki hku hno=>hfree k ok hk hki (jj hku) hno
    · intro k hk
      obtain ⟨h5,h6⟩:=yq k hk
      refine ⟨?_,h6⟩
      rw [getD_set_ne true (fun h7=>hWj (by rw [h7];exact hk))]
      exact h5
    · exact fun k hk hd hku=>hDW k hk hd (jj hku)
    · rw [Array.setIfInBounds_comm _ _ hji]
      exact h3.2.2
end
section
variable {P:Program} {L:List Nat} {N n0:Nat} {F:Nat→Prop} {γ:List Nat} {C C':Nat→List Value} {e:Env} {ah:AH} {ts:Array Value} {w w':World} {m:Bool}
variable {e':Env} {aH:AH} {ops:Array Oper} {Q:Exit→Act→World→Prop}
theorem KA.trans {γ':List Nat} {w2:World} (hg:∀(s b:Nat),γ[s]? =some b→γ'[s]? =some b) (hC:∀b,C b <+: C' b) (h:KA m γ C w w') (h':KA m γ' C' w' w2):KA m γ C w w2:=
 ⟨fun b i hi=>(h'.1 b i (Nat.lt_of_lt_of_le hi (hC b).length_le)).trans (h.1 b i hi),fun hm s b hs=>(h'.2 hm s b (hg s b hs)).trans (h.2 hm s b hs)⟩
theorem VK {γ γ':List Nat} (h:γ <+: γ') {s b:Nat} (hs:γ[s]? =some b):γ'[s]? =some b:=by
 obtain ⟨q,rfl⟩:=h
 rw [List.getElem?_append_left (List.getElem?_eq_some_iff.1 hs).1];exact hs
theorem KA.Jw {e ah ts e' aH ts'} {γ':List Nat} (h:SR L N F γ C e ah ts w) (h':SR L N F γ' C' e' aH ts' w') (hx:Ext F C w C' w')
 (ho:m=true→∀(s b:Nat),γ[s]? =some b→w'.heap[b]? =w.heap[b]?):KA m γ C w w':=by
 refine ⟨fun b i hi=> ?_,ho⟩
 rw [qy h hi,qy h' (Nat.lt_of_lt_of_le hi (hx.pre b).length_le),iW (hx.pre b) hi]
theorem C3 (a:Act) (d:Option Nat) (v:Value) (h:a.defers=[]):a.put d v=⟨(a.put d v).tmps,[]⟩:=by
 obtain ⟨ts,ds⟩:=a
 simp only at h
 subst h
 cases d<;>rfl
theorem LB {o:Oper} {i:Nat} {op:gK} {g:Option (Nat×Bool)} {zq:List aQ} {K:Env→AH→Prop} {R:Act→World→Prop} (hi:ops[i]? =some o) (hop:e9 P m o=some op.er) (hg:iU ops o.guard=some g)
 (lA:∀x,o.dst=some x→x<N) (hs:SR L N F γ C e ah ts w) (hk:fe P L (⟨o.dst,op,g⟩::zq) e ah K)
 (next:∀v e' aH γ' C' w',fe P L zq e' aH K→γ <+: γ'→SR L N F γ' C' e' aH ((⟨ts,[]⟩:Act).put o.dst v).tmps w'→Ext F C w C' w'→(IE P m o=true→KA m γ C w w')→R ((⟨ts,[]⟩:Act).put o.dst v) w'):
 wpOp P ops Q i R ⟨ts,[]⟩ w:=by
 unfold wpOp
 simp only [hi]
 simp only [fe] at hk
 split at hk
 · rename_i vW
   rw [if_pos (jJ hs hg vW)]
   refine .inl ?_
   by_cases fG:op.qe=true
   · cases op with
     |call f yp=>
      have hop:cop P o=some (.call f yp):=by
       cases m with
       |true=>simpa [e9,gK.er] using hop
       |false=>
        simp only [e9,Bool.false_eq_true,if_false,Option.map_eq_some_iff] at hop
        obtain ⟨op',h1,h2⟩:=hop
        rw [h1,IN h2]
      simp only [BN] at hk
      split at hk
      case h_2=>exact hk.elim
      rename_i f' caps hfv
      obtain ⟨hfl,hk⟩:=hk
      obtain ⟨x,args,tys,ho,hx,hargs⟩:=CY hop
      have h1:=bX (ds:=[]) hs hx
      rw [hfv] at h1
      obtain ⟨vs,hfx,hcl,qf⟩:=h1.1.Jh
      obtain ⟨c1,c2⟩:=IQ hs _ _ _ hargs
      have Fz:=Lw (d:=o.dst) (ds:=[]) (vs:=args.map (Act.eval ⟨ts,[]⟩)++vs) hs lA hk (by simp [c1,hcl]) (Fx hs hfl hcl qf c1 c2)
      have Oa:(execOp (Act.eval ⟨ts,[]⟩) o).run P w= .ok (.enter f' (args.map (Act.eval ⟨ts,[]⟩)++vs)) w:=by
       rw [ho];exact Fw hk.1 hfx
      unfold Oper.wp
      rw [Oa]
      simp only [Oper.upon]
      refine Fz.mono ?_
      rintro en w1 ⟨r,v,cq,γ1,C1,rfl,hR,hγ,hs1,hx1⟩
      refine next v _ cq γ1 C1 w1 hR hγ hs1 hx1 fun hst=>KA.Jw hs hs1 hx1 fun hm=> ?_
      rw [ho] at hst
      simp [IE,eZ,iV,BC,hm] at hst
     |oc k b x y=>
      simp only [BN] at hk
      obtain ⟨e1,cq,hk',v,w1,γ1,C1,hr,hγ,hs1,hx1,hst, -⟩:=IM (ds:=[]) hs lA hop hk
      have nx:=next v e1 cq γ1 C1 w1 hk' hγ hs1 hx1 fun h=>KA.Jw hs hs1 hx1 fun hm=>by
       refine hst ?_
       obtain ⟨_,_,_,_,_,_,ho, -⟩:=Fu (CX hop)
       rw [ho] at h
       simp [IE,eZ,iV,hm] at h
      unfold Oper.wp
      rcases hr with hr|⟨hr,rfl⟩<;>rw [hr]<;>exact nx
     |nq n x=>
      simp only [BN] at hk
      obtain ⟨e1,cq,hk',v,w1,γ1,C1,hr,hγ,hs1,hx1,hst, -⟩:=Jt (ds:=[]) hs lA hop hk
      have nx:=next v e1 cq γ1 C1 w1 hk' hγ hs1 hx1 fun h=>KA.Jw hs hs1 hx1 fun hm=>by
       refine hst ?_
       obtain ⟨_,_,_,_,_,ho, -⟩:=QY (Lt hop)
       rw [ho];rfl
      unfold Oper.wp
      rcases hr with hr|⟨hr,rfl⟩<;>rw [hr]<;>exact nx
     |_=>cases fG
   · have sV:op.qe=false:=by simpa using fG
     have hk':match bR L ⟨o.dst,op,g⟩ e ah with|some (e',aH)=>fe P L zq e' aH K|none=>False:=by
      cases op<;>first|exact hk|cases sV
     rw [ym] at hk'
     cases hev:bR L ⟨o.dst,op,none⟩ e ah with
     |none=>rw [hev] at hk';exact hk'.elim
     |some ea=>
      obtain ⟨e1,cq⟩:=ea
      rw [hev] at hk'
      obtain ⟨v,w1,γ1,C1,hr,hγ,hs1,hx1,hst, -⟩:=Lv (ds:=[]) hs lA hop sV hev
      have nx:=next v e1 cq γ1 C1 w1 hk' hγ hs1 hx1 fun h=>KA.Jw hs hs1 hx1 fun hm=>by
       refine hst ?_
       cases Jr:iV o.op with
       |false=>rfl
       |true=>
        exfalso
        cases ho:o.op with
        |call c=>
         rw [ho] at Jr
         obtain ⟨ce,_,_⟩:=c
         cases ce with
         |builtin b=>cases b<;>simp [iV] at Jr;simp [IE,eZ,iV,ho,hm] at h
         |_=>simp [iV] at Jr
        |store a b c=>simp [IE,eZ,iV,ho,hm] at h
        |_=>rw [ho] at Jr;simp [iV] at Jr
      unfold Oper.wp
      rcases hr with hr|⟨hr,rfl⟩<;>rw [hr]<;>exact nx
 · rename_i vW
   have hw:=jJ hs hg vW
   rw [if_neg (by rw [hw];simp)]
   refine next undef _ ah γ C w hk (List.prefix_refl _) ?_ (Ext.refl ..) fun _=>KA.refl ..
   cases ho:o.dst with
   |none=>exact hs
   |some d=>exact hs.DW (lA d ho) (.bG _ [] #[] rfl (by simp)) (by simp [undef,TC]) rfl (by simp)
 · exact hk.elim
theorem R3 {o:Oper} {op:gK} {g:Option (Nat×Bool)} {zq:List aQ} {K:Env→AH→Prop} (hq:eZ P o.op=true) (hop:e9 P m o=some op.er) (hg:iU ops o.guard=some g)
 (lA:∀x,o.dst=some x→x<N) (hs:SR L N F γ C e ah ts w) (hk:fe P L (⟨o.dst,op,g⟩::zq) e ah K):
 ∃v e' aH,YieldsIf P ops (KA m γ C w) o v ⟨ts,[]⟩∧fe P L zq e' aH K∧SR L N F γ C e' aH ((⟨ts,[]⟩:Act).put o.dst v).tmps w:=by
 simp only [fe] at hk
 split at hk
 · rename_i vW
   have hw:=jJ hs hg vW
   by_cases hnq:∃n x,op= .nq n x
   · obtain ⟨n,x,rfl⟩:=hnq
     simp only [BN] at hk
     obtain ⟨e1,cq,hk',v,w1,γ1,C1,hr,hγ,hs1,hx1,hst,hqq⟩:=Jt (ds:=[]) hs lA hop hk
     obtain ⟨rfl,rfl,rfl,hrun⟩:=hqq hq
     exact ⟨v,e1,cq, .inl ⟨hw,hrun⟩,hk',hs1⟩
   have sV:op.qe=false:=by
    cases op with
    |call f yp=>
     exfalso
     have hop:cop P o=some (.call f yp):=by
      cases m with
      |true=>simpa [e9,gK.er] using hop
      |false=>
       simp only [e9,Bool.false_eq_true,if_false,Option.map_eq_some_iff] at hop
       obtain ⟨op',h1,h2⟩:=hop
       rw [h1,IN h2]
     obtain ⟨x,args,tys,ho, -, -⟩:=CY hop
     rw [ho] at hq
     simp [eZ] at hq
    |oc k b x y=>
     exfalso
     obtain ⟨_,_,_,_,_,_,ho, -⟩:=Fu (CX hop)
     rw [ho] at hq
     simp [eZ] at hq
    |nq n x=>exact absurd ⟨_,_,rfl⟩ hnq
    |_=>rfl
   have hk':match bR L ⟨o.dst,op,g⟩ e ah with|some (e',aH)=>fe P L zq e' aH K|none=>False:=by
    cases op<;>first|exact hk|cases sV
   rw [ym] at hk'
   cases hev:bR L ⟨o.dst,op,none⟩ e ah with
   |none=>rw [hev] at hk';exact hk'.elim
   |some ea=>
    obtain ⟨e1,cq⟩:=ea
    rw [hev] at hk'
    obtain ⟨v,w1,γ1,C1,hr,hγ,hs1,hx1,hst,hqq⟩:=Lv (ds:=[]) hs lA hop sV hev
    obtain ⟨rfl,rfl,rfl,hrun⟩:=hqq hq
    exact ⟨v,e1,cq, .inl ⟨hw,hrun⟩,hk',hs1⟩
 · rename_i vW
   refine ⟨undef,_,ah, .inr ⟨jJ hs hg vW,rfl⟩,hk, ?_⟩
   cases ho:o.dst with
   |none=>exact hs
   |some d=>exact hs.DW (lA d ho) (.bG _ [] #[] rfl (by simp)) (by simp [undef,TC]) rfl (by simp)
 · exact hk.elim
theorem Od:∀(l r:List (Bool×Nat)) (zq:List aQ),gp P ops (l++r)=some zq→∃a1 a2,gp P ops l=some a1∧gp P ops r=some a2∧zq=a1++a2:=by
 intro l
 induction l with
 |nil=>intro r zq h;exact ⟨[],zq,rfl,h,rfl⟩
 |cons p l ih=>
  intro r zq h
  obtain ⟨m,i⟩:=p
  simp only [List.cons_append,gp] at h
  split at h
  case h_2=>cases h
  rename_i o ho
  split at h
  case h_2=>cases h
  rename_i a g zq' h1 h2 h3
  injection h with h
  obtain ⟨a1,a2,g1,g2,rfl⟩:=ih r zq' h3
  exact ⟨⟨o.dst,a,g⟩::a1,a2,by simp [gp,ho,h1,h2,g1],g2,by rw [←h];rfl⟩
theorem LC (l r:List (Bool×Nat)) (zq:List aQ) (h:gp P ops (l++r)=some (zq.map aQ.er)):∃a1 a2,gp P ops l=some (a1.map aQ.er)∧gp P ops r=some (a2.map aQ.er)∧zq=a1++a2:=by
 obtain ⟨b1,b2,h1,h2,h3⟩:=Od _ _ _ h
 obtain ⟨a1,a2,rfl,rfl,rfl⟩:=List.map_eq_append_iff.1 h3
 exact ⟨a1,a2,h1,h2,rfl⟩
theorem R4:∀(l r:List aQ) (e:Env) (ah:AH) (K:Env→AH→Prop),fe P L (l++r) e ah K=fe P L l e ah fun e ah=>fe P L r e ah K:=by
 intro l
 induction l with
 |nil=>intros;rfl
 |cons o l ih=>
  intro r e ah K
  simp only [List.cons_append,fe,ih]
theorem VL:∀(l r:List aQ),mX N (l++r)=true→mX N l=true∧mX N r=true:=by
 intro l
 induction l with
 |nil=>intro r h;exact ⟨rfl,h⟩
 |cons o l ih=>
  intro r h
  simp only [List.cons_append,mX,Bool.and_eq_true] at h ⊢
  obtain ⟨h1,h2⟩:=ih r h.2
  exact ⟨⟨h.1,h1⟩,h2⟩
theorem Q2 {o:Oper} {a:gK} {g:Option (Nat×Bool)} {zq:List aQ} (h:mX N (⟨o.dst,a,g⟩::zq)=true):(∀x,o.dst=some x→x<N)∧mX N zq=true:=by
 simp only [mX,Bool.and_eq_true] at h
 refine ⟨fun x hx=> ?_,h.2⟩
 have:=h.1.1
 rw [hx] at this
 simpa using this
theorem D0 {i:Nat} {r:List (Bool×Nat)} {zq:List aQ} (h:gp P ops ((m,i)::r)=some zq):
 ∃o a g zq',ops[i]? =some o∧e9 P m o=some a∧iU ops o.guard=some g∧gp P ops r=some zq'∧zq=⟨o.dst,a,g⟩::zq':=by
 simp only [gp] at h
 split at h
 case h_2=>cases h
 rename_i o ho
 split at h
 case h_2=>cases h
 rename_i a g zq' h1 h2 h3
 injection h with h
 exact ⟨o,a,g,zq',ho,h1,h2,h3,h.symm⟩
theorem BO {i:Nat} {r:List (Bool×Nat)} {zq:List aQ} (h:gp P ops ((m,i)::r)=some (zq.map aQ.er)):
 ∃o a g zq',ops[i]? =some o∧e9 P m o=some (gK.er a)∧iU ops o.guard=some g∧gp P ops r=some (zq'.map aQ.er)∧zq=⟨o.dst,a,g⟩::zq':=by
 obtain ⟨o,a,g,zq',h1,h2,h3,h4,h5⟩:=D0 h
 cases zq with
 |nil=>simp at h5
 |cons x xs=>
  simp only [List.map_cons,List.cons.injEq] at h5
  obtain ⟨d,op',g'⟩:=x
  obtain ⟨h6,h7⟩:=h5
  simp only [aQ.er] at h6
  injection h6 with e1 e2 e3
  subst e1;subst e2;subst e3
  exact ⟨o,op',g',xs,h1,h2,h3,by rw [h4,h7],rfl⟩
theorem R5 {D:Nat→Bool} (hsel:Region.noSelect ops=true) (hQ:∀c a w,¬Q (.panic c) a w):∀(l:List Nat) (zq:List aQ) (e:Env) (ah:AH) (γ:List Nat) (C:Nat→List Value) (ts:Array Value) (w:World) (listed:Array Bool) (n:Nat)
 (K:Env→AH→Prop),gp P ops (l.map fun i=>(m,i))=some (zq.map aQ.er)→mX N zq=true→SR L N F γ C e ah ts w→fe P L zq e ah K→xX P ops m D l listed=true→
 (∀e' aH γ' C' ts' w',K e' aH→γ <+: γ'→SR L N F γ' C' e' aH ts' w'→Ext F C w C' w'→wpS P ops Q (KA m γ' C' w') D n (l.foldl (fun a i=>a.setIfInBounds i true) listed) ⟨ts',[]⟩ w')→
 wpS P ops Q (KA m γ C w) D (l.length+n) listed ⟨ts,[]⟩ w:=by
 intro l
 induction l with
 |nil=>
  intro zq e ah γ C ts w listed n K hc hd hs hk hst cont
  simp only [List.map_nil,gp,Option.some.injEq] at hc
  obtain rfl:zq=[]:=by simpa using hc.symm
  have:=cont e ah γ C ts w hk (List.prefix_refl _) hs (Ext.refl ..)
  simpa using this
 |cons i l ih=>
  intro zq e ah γ C ts w listed n K hc hd hs hk hst cont
  obtain ⟨o,a,g,zq',ho,hop,hg,has,rfl⟩:=BO hc
  obtain ⟨lA,hd'⟩:=Q2 hd
  simp only [xX,ho,Bool.and_eq_true,Bool.or_eq_true] at hst
  obtain ⟨hst,FA⟩:=hst
  have hlen:(i::l).length+n=(l.length+n)+1:=by simp;omega
  rw [hlen]
  rcases hst with ⟨⟨⟨⟨hq,hDi⟩,hr⟩,hfree⟩,yq⟩|⟨hok,hr⟩
  · obtain ⟨v,e1,cq,hy,CV,hs1⟩:=R3 hq hop hg lA hs hk
    refine Ob ho (Region.noSelect_spec hsel) hQ (fun j=>j∈Ld ops i) _ listed _ w (Region.free_spec ho hfree) (fun j hj=> ?_) (fun j hj hDj hju=> ?_) (by simpa using hr) hy (KA.refl ..) ?_
    · simp only [Jg,Jf,Bool.and_eq_true,List.all_eq_true] at yq
      obtain ⟨h1,h2⟩:=yq.1 j hj
      refine ⟨by simpa using h1, ?_⟩
      split at h2
      · rename_i oj Oc
        obtain ⟨x,hx,hb⟩:=Array.any_eq_true'.1 h2
        simp only [Bool.and_eq_true,Bool.or_eq_true,beq_iff_eq,List.contains_iff_mem] at hb
        exact ⟨oj,Oc,x,hx,hb.1,hb.2⟩
      · cases h2
    · simp only [Jg,Jf,Bool.and_eq_true,List.all_eq_true,List.mem_range] at yq
      have:=yq.2 j hj
      simpa [hDj,hju] using this
    · rw [C3 _ _ _ rfl]
      exact ih zq' e1 cq γ C _ w _ n K has hd' hs1 CV FA cont
  · have hr:Region.ready .any ops listed=[i]:=by simpa using hr
    refine ⟨fun h=>(by rw [hr] at h;cases h),fun j hj=> ?_⟩
    rw [hr] at hj
    obtain rfl:j=i:=by simpa using hj
    refine LB ho hop hg lA hs hk fun v e1 cq γ1 C1 w1 CV hγ hs1 hx1 hka=>⟨fun _=>hka hok, ?_⟩
    rw [C3 _ _ _ rfl]
    refine (ih zq' e1 cq γ1 C1 _ w1 _ n K has hd' hs1 CV FA fun e' aH γ' C' ts' w' g1 g2 g3 g4=> ?_).mono fun w2 h2=>(hka hok).trans (fun s b hs=>VK hγ hs) hx1.pre h2
    exact cont e' aH γ' C' ts' w' g1 (hγ.trans g2) g3 (hx1.trans g4)
theorem HC:∀(l:List Nat) (listed:Array Bool) (j:Nat),(l.foldl (fun a i=>a.setIfInBounds i true) listed).getD j true=false→listed.getD j true=false∧j∉l:=by
 intro l
 induction l with
 |nil=>intro listed j h;exact ⟨h,by simp⟩
 |cons i l ih=>
  intro listed j h
  obtain ⟨h1,h2⟩:=ih _ j h
  refine ⟨jj h1, ?_⟩
  rw [List.mem_cons,not_or]
  refine ⟨fun hj=> ?_,h2⟩
  subst hj
  by_cases hlt:j<listed.size
  · simp [hlt] at h1
  · have:=jj h1
    simp [Array.getElem?_eq_none (Nat.le_of_not_lt hlt)] at this
theorem Oe (hsel:Region.noSelect ops=true) (hQ:∀c a w,¬Q (.panic c) a w):∀(st:List (Bool×List Nat)) (zq:List aQ) (e:Env) (ah:AH) (γ:List Nat) (C:Nat→List Value) (ts:Array Value) (w:World) (listed:Array Bool)
 (K:Env→AH→Prop),gp P ops (uz st)=some (zq.map aQ.er)→mX N zq=true→SR L N F γ C e ah ts w→fe P L zq e ah K→qx P ops st listed=true→
 (∀e' aH γ' C' ts' w',K e' aH→γ <+: γ'→SR L N F γ' C' e' aH ts' w'→Ext F C w C' w'→Q .normal ⟨ts',[]⟩ w')→
 wpAny P .any ops Q (uz st).length listed ⟨ts,[]⟩ w:=by
 intro st
 induction st with
 |nil=>
  intro zq e ah γ C ts w listed K hc hd hs hk hst cont
  simp only [uz,gp,Option.some.injEq] at hc
  obtain rfl:zq=[]:=by simpa using hc.symm
  exact ⟨by simpa [qx] using hst,cont e ah γ C ts w hk (List.prefix_refl _) hs (Ext.refl ..)⟩
 |cons s st ih=>
  intro zq e ah γ C ts w listed K hc hd hs hk hst cont
  obtain ⟨m,l⟩:=s
  simp only [uz] at hc ⊢
  obtain ⟨a1,a2,hc1,HD,rfl⟩:=LC _ _ _ hc
  obtain ⟨hd1,LA⟩:=VL _ _ hd
  rw [R4] at hk
  unfold qx at hst
  rw [Bool.and_eq_true] at hst
  obtain ⟨hst,FA⟩:=hst
  have key:∀(Q':Nat→Bool),xX P ops m Q' l listed=true→(∀j,Q' j= !l.contains j)→wpAny P .any ops Q (l.map (fun i=>(m,i))++uz st).length listed ⟨ts,[]⟩ w:=by
   intro D aen hD
   rw [List.length_append,List.length_map]
   refine (R5 hsel hQ l a1 e ah γ C ts w listed _ _ hc1 hd1 hs hk aen fun e' aH γ' C' ts' w' g1 g2 g3 g4=> ?_).any
   refine DZ (fun j hj=> ?_) (ih a2 e' aH γ' C' ts' w' _ K HD LA g3 g1 FA fun e2 uT γ2 C2 N8 w2 q1 q2 q3 q4=>cont e2 uT γ2 C2 N8 w2 q1 (g2.trans q2) q3 (g4.trans q4))
   rw [hD]
   simpa using (HC l listed j hj).2
  split at hst
  · rename_i i
    simp only [Bool.and_eq_true,beq_iff_eq] at hst
    obtain ⟨rfl,hr⟩:=hst
    obtain ⟨o,a,g,zq',ho,hop,hg,has,rfl⟩:=BO hc1
    simp only [List.map_nil,gp,Option.some.injEq] at has
    obtain rfl:zq'=[]:=by simpa using has.symm
    obtain ⟨lA, -⟩:=Q2 hd1
    refine ⟨fun h=>(by rw [hr] at h;cases h),fun j hj=> ?_⟩
    rw [hr] at hj
    obtain rfl:j=i:=by simpa using hj
    refine LB ho hop hg lA hs hk fun v e1 cq γ1 C1 w1 CV hγ hs1 hx1 hka=> ?_
    rw [C3 _ _ _ rfl]
    exact ih a2 e1 cq γ1 C1 _ w1 _ K HD LA hs1 CV FA fun e2 uT γ2 C2 N8 w2 q1 q2 q3 q4=>cont e2 uT γ2 C2 N8 w2 q1 (hγ.trans q2) q3 (hx1.trans q4)
  · exact key _ hst fun _=>rfl
theorem R6 {st:List (Bool×List Nat)} (h:sched P ops=some st):qx P ops st (Array.replicate ops.size false)=true∧(uz st).length=ops.size:=by
 have:BE P ops st=true:=by
  unfold sched at h
  split at h
  · rename_i s hs
    injection h with h;subst h
    exact (Option.filter_eq_some_iff.1 hs).2
  · exact (Option.filter_eq_some_iff.1 h).2
 simpa [BE] using this
theorem AW.drawn {id:Nat} {st:List (Bool×List Nat)} {zq:List aQ} {Q:Exit→Env→AH→Prop} (hm:P.follows .mixedOrders=true) (hsel:Region.noSelect ops=true) (hst:sched P ops=some st) (hc:gp P ops (uz st)=some (zq.map aQ.er))
 (hd:mX N zq=true) (h:fe P L zq e ah fun e ah=>Q .normal (keep L e) ah):AW P L N n0 (.region id ops true) Q e ah:=by
 intro F γ C ts w hs hn
 obtain ⟨h1,h2⟩:=R6 hst
 refine wp_mono (Q:=fun x a' w'=>x= .normal∧a'.defers=[]∧NG x∧∃e' aH γ' C',Q x e' aH∧γ.take n0 <+: γ'∧SR L N F γ' C' e' aH a'.tmps w'∧Ext F C w C' w') ?_ (fun _ _ _ h=>h.2)
 refine wp_region_any hm ?_
 have hw0:∀b,b<w.heap.size→({w with drawn:=w.drawn+1}:World).heap[b]? =w.heap[b]? :=fun _ _=>rfl
 obtain ⟨hs1,hx1⟩:=hs.grow (w':= {w with drawn:=w.drawn+1}) (C':=C) hw0 (Nat.le_refl _) (fun _ _=>rfl) (fun b hb hne=>absurd (yh hs hb) hne)
 have D1:=fun q=>Oe (Q:=fun x a' w'=>x= .normal∧a'.defers=[]∧NG x∧∃e' aH γ' C',Q x e' aH∧γ.take n0 <+: γ'∧SR L N F γ' C' e' aH a'.tmps w'∧Ext F C w C' w') hsel (fun c a w hq=>by cases hq.1) st zq e ah γ C ts _ _ _ hc hd hs1 h h1 q
 rw [h2] at D1
 refine D1 fun e' aH γ' C' ts' w' q1 q2 q3 q4=> ?_
 exact ⟨rfl,rfl,trivial,keep L e',aH,γ',C',q1,IP q2,q3.keep L,hx1.trans q4⟩
end
end Go.Am
end
section
namespace Go.Am
open Go
variable [Tabs]
def sF (N:Nat):az→Bool
 | .rg ops=>mX N ops
 | .seq a b| .cond _ a b=>sF N a&&sF N b
 | .blk _ c| .loop c=>sF N c
 |_=>true
def AX (P:Program) (L:List Nat) (N n0:Nat) (c:az) (Q:Exit→Env→AH→Prop) (e:Env) (ah:AH):Prop:=
 ∀c',bS P c'=some c→AW P L N n0 c' Q e ah
def lM (P:Program) (L:List Nat) (N n0:Nat):az→(Exit→Env→AH→Prop)→Env→AH→Prop
 | .skip,Q,e,ah=>Q .normal e ah
 | .ret,Q,e,ah=>Q .ret e ah
 | .exit i,Q,e,ah=>Q (.exit i) e ah
 | .rg ops,Q,e,ah=>fe P L ops e ah fun e ah=>Q .normal (keep L e) ah
 | .seq a b,Q,e,ah=>lM P L N n0 a (fun x e ah=>match x with| .normal=>lM P L N n0 b Q e ah|x=>Q x e ah) e ah
 | .cond c a b,Q,e,ah=>match ev e c with
   | .bool t=>if t then lM P L N n0 a Q e ah else lM P L N n0 b Q e ah
   |_=>False
 | .blk i c,Q,e,ah=>lM P L N n0 c (fun x e ah=>match x with| .exit j=>if j=i then Q .normal e ah else Q (.exit j) e ah|x=>Q x e ah) e ah
 | .loop c,Q,e,ah=>AX P L N n0 (.loop c) Q e ah
 | .sem c,Q,e,ah=>AX P L N n0 c Q e ah
section
variable {P:Program} {L:List Nat} {N n0:Nat} {e:Env} {ah:AH}
theorem AW.region {id:Nat} {ops:Array Oper} {zq:List aQ} {Q:Exit→Env→AH→Prop} (hc:lR P ops ops.toList=some (zq.map aQ.er)) (hd:mX N zq=true)
 (h:fe P L zq e ah fun e ah=>Q .normal (keep L e) ah):AW P L N n0 (.region id ops false) Q e ah:=by
 intro F γ C ts w hs hn
 refine wp_region_list (ZO ops.toList zq e ah _ F γ C ts w _ hc hd hs h ?_)
 intro e' aH γ' C' ts' w' hq hγ hs' hx
 exact ⟨rfl,trivial,keep L e',aH,γ',C',hq,IP hγ,hs'.keep L,hx⟩
theorem qz:∀(c':Code) (c:az) (Q:Exit→Env→AH→Prop) (e:Env) (ah:AH),bS P c'=some (erase c)→sF N (erase c)=true→lM P L N n0 c Q e ah→AW P L N n0 c' Q e ah:=by
 intro c'
 induction c' with
 |skip=>
  intro c Q e ah hc ho h
  cases c with
  |sem c0=>exact h _ hc
  |skip=>exact AW.skip h
  |_=>simp [bS,erase] at hc
 |label l=>
  intro c Q e ah hc ho h
  cases c with
  |sem c0=>exact h _ hc
  |skip=>exact AW.label h
  |_=>simp [bS,erase] at hc
 |ret=>
  intro c Q e ah hc ho h
  cases c with
  |sem c0=>exact h _ hc
  |ret=>exact AW.ret h
  |_=>simp [bS,erase] at hc
 |exit i=>
  intro c Q e ah hc ho h
  cases c with
  |sem c0=>exact h _ hc
  |exit j=>simp [bS,erase] at hc;subst hc;exact AW.exit h
  |_=>simp [bS,erase] at hc
 |region id ops draw=>
  intro c Q e ah hc ho h
  cases c with
  |sem c0=>exact h _ hc
  |rg zq=>
   simp only [bS,erase] at hc
   cases draw with
   |true=>
    simp only [if_true] at hc
    split at hc
    case isFalse=>cases hc
    rename_i hmn
    simp only [Bool.and_eq_true] at hmn
    split at hc
    case h_2=>cases hc
    rename_i st hst
    simp only [Option.map_eq_some_iff] at hc
    obtain ⟨zq',has,he⟩:=hc
    injection he with he
    subst he
    exact AW.drawn hmn.1 hmn.2 hst has (by simpa only [erase,sF,QZ] using ho) h
   |false=>
    simp only [Bool.false_eq_true,if_false,Option.map_eq_some_iff] at hc
    obtain ⟨zq',has,he⟩:=hc
    injection he with he
    subst he
    exact AW.region has (by simpa only [erase,sF,QZ] using ho) h
  |_=>simp only [bS,erase] at hc;repeat' (split at hc)<;>simp at hc
 |seq a b FB FC=>
  intro c Q e ah hc ho h
  cases c with
  |sem c0=>exact h _ hc
  |seq x y=>
   simp only [bS,erase] at hc
   split at hc
   case h_2=>cases hc
   rename_i a' b' ha hb
   injection hc with hc
   injection hc with h1 h2
   subst h1;subst h2
   simp only [erase,sF,Bool.and_eq_true] at ho
   refine AW.seq ((FB x _ e ah ha ho.1 h).mono fun x e ah hx=> ?_)
   cases x with
   |normal=>exact FC y _ e ah hb ho.2 hx
   |_=>exact hx
  |_=>simp only [bS,erase] at hc;split at hc<;>simp at hc
 |cond c0 a b FB FC=>
  intro c Q e ah hc ho h
  cases c with
  |sem c0=>exact h _ hc
  |cond c2 x y=>
   simp only [bS,erase] at hc
   split at hc
   case h_2=>cases hc
   rename_i c1 a' b' h1 ha hb
   injection hc with hc
   injection hc with g0 g1 g2
   subst g0;subst g1;subst g2
   simp only [erase,sF,Bool.and_eq_true] at ho
   simp only [lM] at h
   split at h
   case h_2=>exact h.elim
   rename_i t ht
   refine AW.cond h1 ht ?_
   cases t with
   |true=>exact FB x Q e ah ha ho.1 h
   |false=>exact FC y Q e ah hb ho.2 h
  |_=>simp only [bS,erase] at hc;split at hc<;>simp at hc
 |block i c0 ih=>
  intro c Q e ah hc ho h
  cases c with
  |sem c0=>exact h _ hc
  |blk j x=>
   simp only [bS,erase,Option.map_eq_some_iff] at hc
   obtain ⟨a,ha,he⟩:=hc
   injection he with h1 h2
   subst h1;subst h2
   exact AW.blk (ih x _ e ah ha ho h)
  |_=>simp [bS,erase] at hc
 |loop c0 ih=>
  intro c Q e ah hc ho h
  cases c with
  |sem c0=>exact h _ hc
  |loop x=>exact h _ hc
  |_=>simp [bS,erase] at hc
 |rangeFunc=>intro c Q e ah hc;simp [bS] at hc
 |goto=>intro c Q e ah hc;simp [bS] at hc
 |scope c0 ih=>intro c Q e ah hc ho h;exact AW.scope (ih c Q e ah hc ho h)
 |refuse=>intro c Q e ah hc;simp [bS] at hc
theorem C4 {o:Oper} {x:Ar} (h:cop P o=some (.qC x)):False:=by
 obtain ⟨d,oo,ty,pos,af,gd⟩:=o
 cases oo with
 |makeFunc fn first cs=>
  cases fn with
  |func f=>simp only [cop] at h;split at h<;>simp at h
  |_=>simp [cop] at h
 |call c=>
  obtain ⟨callee,args,tys⟩:=c
  simp only [cop] at h
  (repeat' (split at h))<;>(first|(cases h;done)|(simp at h;done))
 |_=>
  simp only [cop] at h
  first
   |cases h;done
   |(simp at h;done)
   |(repeat' (split at h))<;>(first|(cases h;done)|(simp at h;done))
theorem Aj {o:Oper} {k b:Nat} {x y:Ar} (h:cop P o=some (.oc k b x y)):False:=by
 obtain ⟨d,oo,ty,pos,af,gd⟩:=o
 cases oo with
 |makeFunc fn first cs=>
  cases fn with
  |func f=>simp only [cop] at h;split at h<;>simp at h
  |_=>simp [cop] at h
 |call c=>
  obtain ⟨callee,args,tys⟩:=c
  simp only [cop] at h
  (repeat' (split at h))<;>(first|(cases h;done)|(simp at h;done))
 |_=>
  simp only [cop] at h
  first
   |cases h;done
   |(simp at h;done)
   |(repeat' (split at h))<;>(first|(cases h;done)|(simp at h;done))
theorem C5 {o:Oper} {k:Nat} {x:Ar} (h:cop P o=some (.CU k x)):False:=by
 obtain ⟨d,oo,ty,pos,af,gd⟩:=o
 cases oo with
 |makeFunc fn first cs=>
  cases fn with
  |func f=>simp only [cop] at h;split at h<;>simp at h
  |_=>simp [cop] at h
 |call c=>
  obtain ⟨callee,args,tys⟩:=c
  simp only [cop] at h
  (repeat' (split at h))<;>(first|(cases h;done)|(simp at h;done))
 |_=>
  simp only [cop] at h
  first
   |cases h;done
   |(simp at h;done)
   |(repeat' (split at h))<;>(first|(cases h;done)|(simp at h;done))
theorem ZP {o:Oper} {op:gK} (h:cop P o=some op):op.er=op:=by
 cases op with
 |qC x=>exact (C4 h).elim
 |oc=>exact (Aj h).elim
 |CU=>exact (C5 h).elim
 |_=>rfl
theorem VM {m:Bool} {o:Oper} {op:gK} (h:e9 P m o=some op):op.er=op:=by
 cases op with
 |qC x=>
  exfalso
  cases m with
  |true=>exact C4 (by simpa [e9] using h)
  |false=>
   simp only [e9,Bool.false_eq_true,if_false,Option.map_eq_some_iff] at h
   obtain ⟨op',h1,h2⟩:=h
   cases op' with
   |iT hh y=>cases hh<;>cases h2
   |ld y n=>cases h2
   |qC y=>exact C4 h1
   |_=>cases h2
 |oc=>
  exfalso
  cases m with
  |true=>exact Aj (by simpa [e9] using h)
  |false=>
   simp only [e9,Bool.false_eq_true,if_false,Option.map_eq_some_iff] at h
   obtain ⟨op',h1,h2⟩:=h
   cases op' with
   |iT hh y=>cases hh<;>cases h2
   |ld y n=>cases h2
   |oc=>exact Aj h1
   |_=>cases h2
 |CU=>
  exfalso
  cases m with
  |true=>exact C5 (by simpa [e9] using h)
  |false=>
   simp only [e9,Bool.false_eq_true,if_false,Option.map_eq_some_iff] at h
   obtain ⟨op',h1,h2⟩:=h
   cases op' with
   |iT hh y=>cases hh<;>cases h2
   |ld y n=>cases h2
   |CU=>exact C5 h1
   |_=>cases h2
 |_=>rfl
theorem VN {ops:Array Oper}:∀(n:Nat) (l:List Oper) (zq:List aQ),l.length≤n→lR P ops l=some zq→zq.map aQ.er=zq:=by
 intro n
 induction n with
 |zero=>
  intro l zq hn h
  obtain rfl:l=[]:=List.eq_nil_of_length_eq_zero (by omega)
  simp only [lR,Option.some.injEq] at h;subst h;rfl
 |succ n ih=>
  intro l zq hn h
  rcases DY h with ⟨rfl,rfl⟩|⟨o,o2,r,a,zq',rfl,h2,h3,rfl⟩|⟨o,o2,r,ag,zq',rfl,h2,h3,rfl⟩|⟨o,r,op,g,zq',rfl,h2,h3,h4,rfl⟩
  · rfl
  · obtain ⟨y,bs,hl⟩:=Fy h2
    obtain ⟨d,op,g⟩:=a
    simp only at hl;subst hl
    simp only [List.map_cons,ih r zq' (by simp at hn;omega) h3];rfl
  · obtain ⟨d,y,bs,t,w,g,rfl, -⟩:=CZ h2
    simp only [List.cons_append,List.nil_append,List.map_cons,ih r zq' (by simp at hn;omega) h3];rfl
  · have he:op.er=op:=by
     rcases h2 with h2|rfl
     · exact ZP h2
     · rfl
    simp only [List.map_cons,ih r zq' (by simp at hn;omega) h4,aQ.er,he]
theorem R7 {ops:Array Oper}:∀(l:List (Bool×Nat)) (zq:List aQ),gp P ops l=some zq→zq.map aQ.er=zq:=by
 intro l
 induction l with
 |nil=>intro zq h;simp only [gp,Option.some.injEq] at h;subst h;rfl
 |cons p r ih=>
  intro zq h
  obtain ⟨m,i⟩:=p
  obtain ⟨o,a,g,zq',h1,h2,h3,h4,rfl⟩:=D0 h
  simp only [List.map_cons,ih zq' h4,aQ.er,VM h2]
theorem kO:∀(c':Code) (c:az),bS P c'=some c→erase c=c:=by
 intro c'
 induction c' with
 |skip=>intro c hc;simp [bS] at hc;subst hc;rfl
 |label l=>intro c hc;simp [bS] at hc;subst hc;rfl
 |ret=>intro c hc;simp [bS] at hc;subst hc;rfl
 |exit i=>intro c hc;simp [bS] at hc;subst hc;rfl
 |region id ops draw=>
  intro c hc
  simp only [bS] at hc
  cases draw with
  |true=>
   simp only [if_true] at hc
   split at hc
   · split at hc
     · simp only [Option.map_eq_some_iff] at hc;obtain ⟨zq,has,rfl⟩:=hc;simp only [erase,R7 _ _ has]
     · cases hc
   · cases hc
  |false=>simp only [Bool.false_eq_true,if_false,Option.map_eq_some_iff] at hc;obtain ⟨zq,has,rfl⟩:=hc;simp only [erase,VN _ _ _ (Nat.le_refl _) has]
 |seq a b FB FC=>
  intro c hc
  simp only [bS] at hc
  split at hc
  case h_2=>cases hc
  rename_i a' b' ha hb
  injection hc with hc
  subst hc
  simp only [erase,FB _ ha,FC _ hb]
 |cond c0 a b FB FC=>
  intro c hc
  simp only [bS] at hc
  split at hc
  case h_2=>cases hc
  rename_i c1 a' b' h1 ha hb
  injection hc with hc
  subst hc
  simp only [erase,FB _ ha,FC _ hb]
 |block i c0 ih=>intro c hc;simp only [bS,Option.map_eq_some_iff] at hc;obtain ⟨a,ha,rfl⟩:=hc;simp only [erase,ih _ ha]
 |loop c0 ih=>intro c hc;simp only [bS,Option.map_eq_some_iff] at hc;obtain ⟨a,ha,rfl⟩:=hc;rfl
 |rangeFunc=>intro c hc;simp [bS] at hc
 |goto=>intro c hc;simp [bS] at hc
 |scope c0 ih=>intro c hc;exact ih c hc
 |refuse=>intro c hc;simp [bS] at hc
inductive It where
 |ops (r:List aQ)
 |keep
 |code (c:az)
 |blk (i:Nat)
def U (P:Program) (L:List Nat) (N n0:Nat):List It→(Exit→Env→AH→Prop)→Exit→Env→AH→Prop
 |[],Q,x,e,ah=>Q x e ah
 | .code c::t,Q, .normal,e,ah=>lM P L N n0 c (fun x e ah=>U P L N n0 t Q x e ah) e ah
 | .ops r::t,Q, .normal,e,ah=>fe P L r e ah fun e ah=>U P L N n0 t Q .normal e ah
 | .keep::t,Q, .normal,e,ah=>U P L N n0 t Q .normal (keep L e) ah
 | .blk i::t,Q, .exit j,e,ah=>if j=i then U P L N n0 t Q .normal e ah else U P L N n0 t Q (.exit j) e ah
 | .blk _::t,Q,x,e,ah=>U P L N n0 t Q x e ah
 | .code _::t,Q,x,e,ah=>U P L N n0 t Q x e ah
 | .ops _::t,Q,x,e,ah=>U P L N n0 t Q x e ah
 | .keep::t,Q,x,e,ah=>U P L N n0 t Q x e ah
def UK (P:Program) (L:List Nat) (N n0 f:Nat) (zq:List AV) (d:Option Nat) (r:List aQ) (t:List It) (Q:Exit→Env→AH→Prop) (e:Env) (ah:AH):Prop:=
 aG P f zq ah fun v aH=>U P L N n0 (.ops r::t) Q .normal (aI L (yo e) d v.df) aH
def UF (P:Program) (L:List Nat) (N n0:Nat) (zq:List Ar) (d:Option Nat) (r:List aQ) (t:List It) (Q:Exit→Env→AH→Prop) (e:Env) (ah:AH):AV→Prop
 | .fn f caps=>if aX caps then UK P L N n0 f (zq.map (fun x=>(ev e x).sh)++caps.map AV.s1) d r t Q e ah else False
 |_=>False
def US (P:Program) (L:List Nat) (N n0:Nat) (r:List aQ) (t:List It) (Q:Exit→Env→AH→Prop):Option (Env×AH)→Prop
 |some (e,ah)=>U P L N n0 (.ops r::t) Q .normal e ah
 |none=>False
def UG (P:Program) (L:List Nat) (N n0:Nat) (o:aQ) (r:List aQ) (t:List It) (Q:Exit→Env→AH→Prop) (e:Env) (ah:AH):Option Bool→Prop
 |some true=>match o.op with
  | .call f zq=>UF P L N n0 zq o.d r t Q e ah (ev e f)
  | .oc k b x y=>qD L o.d k b x y e ah fun e ah=>U P L N n0 (.ops r::t) Q .normal e ah
  | .nq n x=>Fc L o.d n x e ah fun e ah=>U P L N n0 (.ops r::t) Q .normal e ah
  |_=>US P L N n0 r t Q (bR L o e ah)
 |some false=>U P L N n0 (.ops r::t) Q .normal (qK e o.d) ah
 |none=>False
def UC (P:Program) (L:List Nat) (N n0:Nat) (a b:az) (t:List It) (Q:Exit→Env→AH→Prop) (e:Env) (ah:AH):AV→Prop
 | .bool true=>U P L N n0 (.code a::t) Q .normal e ah
 | .bool false=>U P L N n0 (.code b::t) Q .normal e ah
 |_=>False
def UX (P:Program) (L:List Nat) (N n0:Nat) (c:az) (t:List It) (Q:Exit→Env→AH→Prop) (e:Env) (ah:AH):Prop:=
 AX P L N n0 c (fun x e ah=>U P L N n0 t Q x e ah) e ah
variable {t:List It} {Q:Exit→Env→AH→Prop} {x:Exit}
@[simp] theorem ab4:U P L N n0 [] Q x e ah=Q x e ah:=rfl
@[simp] theorem ZQ:U P L N n0 (.code .skip::t) Q .normal e ah=U P L N n0 t Q .normal e ah:=rfl
@[simp] theorem ab5:U P L N n0 (.code .ret::t) Q .normal e ah=U P L N n0 t Q .ret e ah:=rfl
@[simp] theorem ZR {i:Nat}:U P L N n0 (.code (.exit i)::t) Q .normal e ah=U P L N n0 t Q (.exit i) e ah:=rfl
theorem VO (b:az):(fun x e ah=>match x with| .normal=>lM P L N n0 b (fun x e ah=>U P L N n0 t Q x e ah) e ah|x=>U P L N n0 t Q x e ah)=fun x e ah=>U P L N n0 (.code b::t) Q x e ah:=by
 funext x e ah
 cases x<;>rfl
@[simp] theorem ab6 {a b:az}:U P L N n0 (.code (.seq a b)::t) Q .normal e ah=U P L N n0 (.code a:: .code b::t) Q .normal e ah:=by
  simp only [U,lM]
  exact congrArg (fun K=>lM P L N n0 a K e ah) (VO b)
@[simp] theorem ab7 {i:Nat} {c:az}:U P L N n0 (.code (.blk i c)::t) Q .normal e ah=U P L N n0 (.code c:: .blk i::t) Q .normal e ah:=by
  have:(fun x e ah=>match x with| .exit j=>if j=i then U P L N n0 t Q .normal e ah else U P L N n0 t Q (.exit j) e ah|x=>U P L N n0 t Q x e ah)=fun x e ah=>U P L N n0 (.blk i::t) Q x e ah:=by
   funext x e ah
   cases x<;>rfl
  exact congrArg (fun K=>lM P L N n0 c K e ah) this
@[simp] theorem aeo {ops:List aQ}:U P L N n0 (.code (.rg ops)::t) Q .normal e ah=U P L N n0 (.ops ops:: .keep::t) Q .normal e ah:=rfl
@[simp] theorem ZS {c:az}:U P L N n0 (.code (.loop c)::t) Q .normal e ah=UX P L N n0 (.loop c) t Q e ah:=rfl
@[simp] theorem ab8 {c:az}:U P L N n0 (.code (.sem c)::t) Q .normal e ah=UX P L N n0 c t Q e ah:=rfl
@[simp] theorem ZT {c:Ar} {a b:az}:U P L N n0 (.code (.cond c a b)::t) Q .normal e ah=UC P L N n0 a b t Q e ah (ev e c):=by
  simp only [U,lM]
  cases ev e c with
  |bool t=>cases t<;>rfl
  |_=>rfl
@[simp] theorem ZU:U P L N n0 (.keep::t) Q .normal e ah=U P L N n0 t Q .normal (keep L e) ah:=rfl
@[simp] theorem VP {i:Nat}:U P L N n0 (.blk i::t) Q .normal e ah=U P L N n0 t Q .normal e ah:=rfl
@[simp] theorem VQ {i:Nat}:U P L N n0 (.blk i::t) Q .ret e ah=U P L N n0 t Q .ret e ah:=rfl
@[simp] theorem VS {i j:Nat}:U P L N n0 (.blk i::t) Q (.exit j) e ah=if j=i then U P L N n0 t Q .normal e ah else U P L N n0 t Q (.exit j) e ah:=rfl
@[simp] theorem R8 {c:az}:U P L N n0 (.code c::t) Q .ret e ah=U P L N n0 t Q .ret e ah:=by cases c<;>rfl
@[simp] theorem R9 {c:az} {j:Nat}:U P L N n0 (.code c::t) Q (.exit j) e ah=U P L N n0 t Q (.exit j) e ah:=by cases c<;>rfl
@[simp] theorem Og:U P L N n0 (.ops []::t) Q .normal e ah=U P L N n0 t Q .normal e ah:=rfl
@[simp] theorem ab9 {o:aQ} {r:List aQ}:U P L N n0 (.ops (o::r)::t) Q .normal e ah=UG P L N n0 o r t Q e ah (iA e o):=by
  simp only [U,fe]
  cases iA e o with
  |none=>rfl
  |some b=>
   cases b with
   |false=>rfl
   |true=>
    obtain ⟨d,op,g⟩:=o
    cases op with
    |call f zq=>
     simp only [BN,UG]
     cases ev e f with
     |fn f' caps=>
      simp only [UF,UK]
      by_cases hf:aX caps=true
      · simp only [hf,if_true,true_and];rfl
      · simp [hf]
     |_=>rfl
    |oc k b x y=>rfl
    |nq n x=>rfl
    |_=>
     simp only [BN,UG,US]
     cases bR L ⟨d,_,g⟩ e ah with
     |none=>rfl
     |some ea=>obtain ⟨e',aH⟩:=ea;rfl
@[simp] theorem VT {r:List aQ} {e':Env} {aH:AH}:US P L N n0 r t Q (some (e',aH))=U P L N n0 (.ops r::t) Q .normal e' aH:=rfl
@[simp] theorem Sa {o:aQ} {r:List aQ}:UG P L N n0 o r t Q e ah (some false)=U P L N n0 (.ops r::t) Q .normal (qK e o.d) ah:=rfl
@[simp] theorem VU {a b:az}:UC P L N n0 a b t Q e ah (.bool true)=U P L N n0 (.code a::t) Q .normal e ah:=rfl
@[simp] theorem Sb {a b:az}:UC P L N n0 a b t Q e ah (.bool false)=U P L N n0 (.code b::t) Q .normal e ah:=rfl
@[simp] theorem acd {zq:List Ar} {d:Option Nat} {r:List aQ} {f:Nat} {caps:List AV}:UF P L N n0 zq d r t Q e ah (.fn f caps)=
 if aX caps then UK P L N n0 f (zq.map (fun x=>(ev e x).sh)++caps.map AV.s1) d r t Q e ah else False:=rfl
theorem ad0 {a b:az} {v:Bool} (h1:v=true→U P L N n0 (.code a::t) Q .normal e ah) (h2:v=false→U P L N n0 (.code b::t) Q .normal e ah):UC P L N n0 a b t Q e ah (.bool v):=by
 cases v
 · exact h2 rfl
 · exact h1 rfl
theorem afZ {f:Nat} {zq:List AV} {d:Option Nat} {r:List aQ} {R:AV→AH→Prop} (h:aG P f zq ah R) (hk:∀v aH,R v aH→U P L N n0 (.ops r::t) Q .normal (aI L (yo e) d v.df) aH):
 UK P L N n0 f zq d r t Q e ah:=h.mono hk
theorem aep {c:az} (I:Nat→Env→AH→Prop) {k0:Nat} (ho:sF N c=true)
 (round:∀k e ah,I k e ah→U P L N n0 [.code c] (fun x e' aH=>match x with| .normal=>∃k',k'<k∧I k' e' aH|x=>U P L N n0 t Q x e' aH) .normal e ah) (h0:I k0 e ah):
 UX P L N n0 (.loop c) t Q e ah:=by
 intro c'
 induction c' with
 |loop c0 _=>
  intro cz
  simp only [bS,Option.map_eq_some_iff] at cz
  obtain ⟨a,ha,he⟩:=cz
  injection he with he
  subst he
  exact AW.loop I (fun k e ah hI=>qz c0 a _ e ah (by rw [kO c0 a ha];exact ha) (by rw [kO c0 a ha];exact ho) (round k e ah hI)) h0
 |scope c0 ih=>exact fun cz=>AW.scope (ih cz)
 |region id ops draw=>intro cz;simp only [bS] at cz;repeat' (split at cz)<;>simp at cz
 |block i c0=>intro cz;simp only [bS,Option.map_eq_some_iff] at cz;obtain ⟨a, -,h⟩:=cz;cases h
 |seq a b=>intro cz;simp only [bS] at cz;split at cz<;>simp at cz
 |cond a b c=>intro cz;simp only [bS] at cz;split at cz<;>simp at cz
 |_=>intro cz;simp [bS] at cz
end
end Go.Am
end
section
namespace Go.Am
open Go
variable [Tabs]
def AV.fB:AV→Bool
 | .bG _=>true
 |_=>false
def iC (P:Program) (e:Env) (ah:AH):List ResultVar→Option (List AV)
 |[]=>some []
 | .tmp t::r=>if (get e t).fB then none else match iC P e ah r with
   |some vs=>some (get e t::vs)
   |none=>none
 | .cell a ty::r=>if tok P ty then
  match get e a with
  | .ptr s o=>match ah[s]? with
    |some cs=>match nc (tn P ty) s o cs,iC P e ah r with
     |some v,some vs=>some (v.sh::vs)
     |_,_=>none
    |none=>none
  |_=>none
   else none
def fin:List AV→AV
 |[a]=>a.df
 |l=> .bG (l.map AV.sh)
inductive Cl (n:Nat):AV→Prop
 |ptr (s o):s<n→Cl n (.ptr s o)
 |fn (f cs):(∀a∈cs,Cl n a)→Cl n (.fn f cs)
 |agg (cs):(∀a∈cs,Cl n a)→Cl n (.agg cs)
 |bG (cs):(∀a∈cs,Cl n a)→Cl n (.bG cs)
 |v (x):Cl n (.v x)
 |int (k i):Cl n (.int k i)
 |bool (b):Cl n (.bool b)
 |str (l):Cl n (.str l)
 |sl (t k xs):Cl n (.sl t k xs)
 |ep (e o):Cl n (.ep e o)
 |cE (s k o m):s<n→Cl n (.cE s k o m)
 |sS (s k):Cl n (.cK s k 0 0)
 |cK (s k m c):s<n→Cl n (.cK s k m c)
 |eF:Cl n .eF
 |un:Cl n .un
@[simp] theorem ZV {n s k o m:Nat}:Cl n (.cE s k o m)↔s<n:=⟨fun h=>by cases h;assumption, .cE _ _ _ _⟩
@[simp] theorem afK {n:Nat}:Cl n .eF:= .eF
@[simp] theorem ZW {n s o:Nat}:Cl n (.ptr s o)↔s<n:=⟨fun h=>by cases h;assumption, .ptr _ _⟩
@[simp] theorem ace {n f:Nat} {cs:List AV}:Cl n (.fn f cs)↔∀a∈cs,Cl n a:=⟨fun h=>by cases h;assumption, .fn _ _⟩
@[simp] theorem ZX {n:Nat} {cs:List AV}:Cl n (.agg cs)↔∀a∈cs,Cl n a:=⟨fun h=>by cases h;assumption, .agg _⟩
@[simp] theorem ZY {n:Nat} {cs:List AV}:Cl n (.bG cs)↔∀a∈cs,Cl n a:=⟨fun h=>by cases h;assumption, .bG _⟩
@[simp] theorem ags {n:Nat} {x:Value}:Cl n (.v x):= .v _
@[simp] theorem afL {n:Nat} {k:IntKind} {i:Int}:Cl n (.int k i):= .int ..
@[simp] theorem aeq {n:Nat} {b:Bool}:Cl n (.bool b):= .bool _
@[simp] theorem afM {n:Nat} {l:List UInt8}:Cl n (.str l):= .str _
@[simp] theorem af0 {n:Nat} {t:Tg} {k:Nat} {xs:List AV}:Cl n (.sl t k xs):= .sl ..
@[simp] theorem af3 {n:Nat} {e:AV} {o:Nat}:Cl n (.ep e o):= .ep ..
@[simp] theorem agt {n:Nat}:Cl n .un:= .un
def n7 (n:Nat) (ah:AH):Prop:=∀(s:Nat) (cs:List AV),ah[s]? =some cs→∀a∈cs,Cl n a
def Oh (P:Program) (n:Nat) (rs:List ResultVar) (R:AV→AH→Prop) (x:Exit) (e:Env) (ah:AH):Prop:=
 (x= .normal∨x= .ret)∧match iC P e ah rs with
  |some vs=>Cl n (fin vs)∧n7 n (ah.take n)∧n≤ah.length∧R (fin vs) (ah.take n)
  |none=>False
section
variable {P:Program} {L:List Nat} {N n0:Nat} {F:Nat→Prop} {γ:List Nat} {C C':Nat→List Value} {e:Env} {ah:AH} {ts:Array Value} {w w':World}
theorem VR.take {a:AV} {v:Value} {n:Nat} (h:VR C γ a v):Cl n a→VR C (γ.take n) a v:=by
 induction h with
 |v _ _ hs=>intro _;exact .v _ _ hs
 |un=>intro _;exact .un ..
 |int=>intro _;exact .int ..
 |bool=>intro _;exact .bool ..
 |str=>intro _;exact .str ..
 |ptr _ s o b hb=>intro hn;exact .ptr _ _ _ _ (by rw [List.getElem?_take_of_lt (ZW.1 hn)];exact hb)
 |cE _ s k o n b c hb hn'=>intro hn;exact .cE _ _ _ _ _ _ _ (by rw [List.getElem?_take_of_lt (ZV.1 hn)];exact hb) hn'
 |sS=>intro _;exact .sS ..
 |cK _ s k n b c hb hn'=>
  intro hn
  cases hn with
  |sS=>exact .sS ..
  |cK _ _ _ _ hs=>exact .cK _ _ _ _ _ _ (by rw [List.getElem?_take_of_lt hs];exact hb) hn'
 |eF=>intro _;exact .eF ..
 |uA=>intro _;exact .uA ..
 |sl _ _ _ _ b o n c hn' hc hk hl ho hx=>intro _;exact .sl _ _ _ _ _ _ _ _ hn' hc hk hl ho hx
 |ep _ _ _ b p hl hx=>intro _;exact .ep _ _ _ _ _ hl hx
 |agg _ cs vs hl hx ih=>intro hn;exact .agg _ _ _ hl fun i a hi=>ih i a hi (ZX.1 hn a (List.mem_of_getElem? hi))
 |bG _ cs vs hl hx ih=>intro hn;exact .bG _ _ _ hl fun i a hi=>ih i a hi (ZY.1 hn a (List.mem_of_getElem? hi))
 |fn _ f cs vs hl hx ih=>intro hn;exact .fn _ _ _ _ hl fun i a hi=>ih i a hi (ace.1 hn a (List.mem_of_getElem? hi))
theorem VR.cl {a:AV} {v:Value} (h:VR C γ a v):Cl γ.length a:=by
 have mem:∀ {cs:List AV} {a:AV},a∈cs→∃i:Nat,cs[i]? =some a:=fun ha=>by
  obtain ⟨i,hi,rfl⟩:=List.getElem_of_mem ha;exact ⟨i,List.getElem?_eq_getElem hi⟩
 induction h with
 |ptr _ s o b hb=>exact .ptr _ _ (List.getElem?_eq_some_iff.1 hb).1
 |agg _ cs vs hl hx ih=>exact .agg _ fun a ha=>by obtain ⟨i,hi⟩:=mem ha;exact ih i a hi
 |bG _ cs vs hl hx ih=>exact .bG _ fun a ha=>by obtain ⟨i,hi⟩:=mem ha;exact ih i a hi
 |fn _ f cs vs hl hx ih=>exact .fn _ _ fun a ha=>by obtain ⟨i,hi⟩:=mem ha;exact ih i a hi
 |cE _ s k o n b c hb _=>exact .cE _ _ _ _ (List.getElem?_eq_some_iff.1 hb).1
 |sS=>exact .sS ..
 |cK _ s k n b c hb _=>exact .cK _ _ _ _ (List.getElem?_eq_some_iff.1 hb).1
 |eF=>exact .eF
 |v=>exact .v _
 |un=>exact .un
 |int=>exact .int ..
 |bool=>exact .bool _
 |str=>exact .str _
 |uA=>exact .sl ..
 |sl=>exact .sl ..
 |ep=>exact .ep ..
theorem Oi (h:SR L N F γ C e ah ts w) {a s o:Nat} {ty:TypeId} (ht:tok P ty=true) (hp:get e a= .ptr s o) {cs:List AV} (hs:ah[s]? =some cs) {v:AV} (hl:nc (tn P ty) s o cs=some v):
 ∃u ad,ts.getD a undef= .pointer (some ad)∧(loadVar ty ad).run P w= .ok u w∧VR C γ v.sh u∧TC w C v.sh u:=by
 have hv:=(h.env a).1
 rw [hp] at hv
 obtain ⟨b,hb,hv⟩:=hv.j4
 obtain ⟨vs,tv,hh,hsz,hcell⟩:=h.mem.obj s b cs hs hb
 have yc:=ek hh
 cases hn:tn P ty with
 |some n=>
  simp only [hn,nc] at hl
  split at hl
  case isFalse=>cases hl
  rename_i hq
  obtain ⟨hq,hfl⟩:=hq
  injection hl with hl
  subst hl
  obtain ⟨r,hr,hrs,hrc⟩:=(run_load (w:=w) ht (b:=b) (o:=o)).1 n hn (fun j hj=>by
   rw [yc];exact ⟨_,Array.getElem?_eq_getElem (by omega)⟩)
  obtain rfl:r=vs.extract o (o+n):=by
   apply Array.ext_getElem?
   intro j
   by_cases hj:j<n
   · rw [hrc j hj,yc,Array.getElem?_extract,if_pos (by omega)]
   · rw [Array.getElem?_eq_none (by omega),Array.getElem?_eq_none (by simp;omega)]
  refine ⟨_,_,hv,hr, ?_, ?_⟩
  · exact (Wk.sh _).vr ((Wk.qc _ Wk.bB _).vr (Fk hsz (fun i a hi=>(hcell i a hi).1) hq))
  · exact (Wk.sh _).tc ((Wk.qc _ Wk.bB _).tc (yb hsz (fun i a hi hin=>BG (hcell _ a hi).2 (kL hfl (i:=i) (by rw [List.getElem?_take_of_lt hin,List.getElem?_drop];exact hi))) hq))
 |none=>
  simp only [hn,nc] at hl
  have yd:∀c,cs[o]? =some c→w.cell? ⟨b,o,none⟩=some (vs.getD o undef):=by
   intro c kM
   have hlt:o<vs.size:=Nat.lt_of_lt_of_le (List.getElem?_eq_some_iff.1 kM).1 hsz
   rw [yc];simp [Array.getD_eq_getD_getElem?,Array.getElem?_eq_getElem hlt]
  split at hl
  · rename_i k xs kM
    injection hl with hl
    subst hl
    have hr:=(run_load (w:=w) ht (b:=b) (o:=o)).2 _ hn (yd _ kM)
    exact ⟨_,_,hv,hr,(hcell o _ kM).1.lK _,by simp only [AV.sh,AV.bB,Tg.sh];cases (vs.getD o undef)<;>trivial⟩
  · rename_i c hno kM
    split at hl
    case isFalse=>cases hl
    rename_i hfl
    injection hl with hl
    subst hl
    have hr:=(run_load (w:=w) ht (b:=b) (o:=o)).2 _ hn (yd _ kM)
    refine ⟨_,_,hv,hr, ?_, ?_⟩
    · exact (Wk.sh _).vr ((Wk.mL (Wk.bB c)).vr (hcell o _ kM).1)
    · exact (Wk.sh _).tc (E2 (BG (hcell o _ kM).2 hfl))
  · cases hl
theorem ZZ (h:SR L N F γ C e ah ts w):∀(rs:List ResultVar) (vs:List AV),iC P e ah rs=some vs→
 ∃us:List Value,(rs.mapM fun| .tmp t=>pure (ts.getD t undef)| .cell a t=>do loadVar t (←asAddr (ts.getD a undef)):Sem (List Value)).run P w= .ok us w∧us.length=vs.length∧
  (∀(i:Nat) (a:AV),vs[i]? =some a→VR C γ a (us.getD i undef)∧TC w C a (us.getD i undef))∧
  (∀(i:Nat) (a:AV) (b:Nat),vs[i]? =some a→b7 a (us.getD i undef)=some b→∃t,blk γ e ah ts w (.tmp t) b)∧∀(i:Nat) (a:AV),vs[i]? =some a→a.fB=false:=by
 intro rs
 induction rs with
 |nil=>intro vs hr;simp [iC] at hr;subst hr;exact ⟨[],rfl,rfl,by simp,by simp,by simp⟩
 |cons r rs ih=>
  intro vs hr
  cases r with
  |tmp t=>
   simp only [iC] at hr
   split at hr
   case isTrue=>cases hr
   rename_i hnt
   split at hr
   case h_2=>cases hr
   rename_i vs' hvs
   injection hr with hr
   subst hr
   obtain ⟨us,h1,h2,h3,h4,h5⟩:=ih vs' hvs
   refine ⟨ts.getD t undef::us, ?_,by simp [h2],fun i a hi=> ?_,fun i a b hi hb=> ?_,fun i a hi=>by
    cases i with
    |zero=>simp at hi;subst hi;simpa using hnt
    |succ i=>exact h5 i a (by simpa using hi)⟩
   · simp only [List.mapM_cons,Sem.run_bind,Sem.run_pure,Result.andThen_ok,h1]
   · cases i with
     |zero=>simp at hi;subst hi;exact h.env t
     |succ i=>exact h3 i a (by simpa using hi)
   · cases i with
     |zero=>simp at hi;subst hi;exact ⟨t,hb⟩
     |succ i=>exact h4 i a b (by simpa using hi) hb
  |cell a ty=>
   simp only [iC] at hr
   split at hr
   case isFalse=>cases hr
   rename_i ht
   split at hr
   case h_2=>cases hr
   rename_i s o hp
   split at hr
   case h_2=>cases hr
   rename_i cs hs
   split at hr
   case h_2=>cases hr
   rename_i v vs' hv hvs
   injection hr with hr
   subst hr
   obtain ⟨us,h1,h2,h3,h4,h5⟩:=ih vs' hvs
   obtain ⟨u,ad,g1,g2,g3,g4⟩:=Oi (P:=P) h ht hp hs hv
   have hnt:v.sh.fB=false:=by
    unfold nc at hv
    split at hv
    · split at hv<;>simp at hv;subst hv;rfl
    · split at hv
      · injection hv with hv;subst hv;rfl
      · split at hv<;>simp at hv
        rename_i c _ _ hf
        subst hv
        cases c<;>first|rfl|cases hf
      · cases hv
   refine ⟨u::us, ?_,by simp [h2],fun i a hi=> ?_,fun i a b hi hb=> ?_,fun i a hi=>by
    cases i with
    |zero=>simp at hi;subst hi;exact hnt
    |succ i=>exact h5 i a (by simpa using hi)⟩
   · have hA:(asAddr (ts.getD a undef)).run P w= .ok ad w:=by rw [g1];rfl
     simp only [List.mapM_cons,Sem.run_bind,hA,Sem.run_pure,Result.andThen_ok,g2,h1]
   · cases i with
     |zero=>simp at hi;subst hi;exact ⟨g3,g4⟩
     |succ i=>exact h3 i a (by simpa using hi)
   · cases i with
     |zero=>simp at hi;subst hi;rw [jI _ (iX (uS v))] at hb;cases hb
     |succ i=>exact h4 i a b (by simpa using hi) hb
def abx (P:Program) (n0:Nat) (rs:List ResultVar) (R:AV→AH→Prop) (x:Exit) (e:Env) (ah:AH):Prop:=
 (∃m,n0≤m∧Oh P m rs R x e ah)∨((x= .normal∨x= .ret)∧match iC P e ah rs with
  |some vs=>R (fin vs) ah
  |none=>False)
theorem aG.Q3 {f:Nat} {fn:Func} {c:Code} {ac:az} {args:List AV} {R:AV→AH→Prop} (L:List Nat) (hf:P.funcs[f]? =some fn) (hname:fn.name≠ "runtime.NumGoroutine") (hb:fn.body=some c)
 (hc:bS P c=some ac) (ho:sF fn.ntmps ac=true) (hN:args.length≤fn.ntmps)
 (h:n7 ah.length ah→(∀a∈args,∀s o,a= .ptr s o→s<ah.length)→AX P L fn.ntmps ah.length ac (abx P ah.length fn.results.toList R) (fR 0 args) ah):aG P f args ah R:=by
 refine ⟨by simp [kN,hf,hb,hname],fun F γ C w vs hs=> ?_⟩
 have hlen:=hs.mem.len
 have hcl:n7 ah.length ah:=by
  intro s cs LD
  have hlt:s<γ.length:=by rw [hlen];exact (List.getElem?_eq_some_iff.1 LD).1
  obtain ⟨us,ty, -,hsz,hcell⟩:=hs.mem.obj s _ cs LD (List.getElem?_eq_getElem hlt)
  intro a ha
  obtain ⟨i,hi,rfl⟩:=List.getElem_of_mem ha
  rw [←hlen]
  exact (hcell i _ (List.getElem?_eq_getElem hi)).1.cl
 have hargs:∀a∈args,∀s o,a= .ptr s o→s<ah.length:=by
  intro a ha s o he
  obtain ⟨i,hi,rfl⟩:=List.getElem_of_mem ha
  have:=(hs.env i).1
  rw [fj] at this
  simp only [Nat.zero_le,if_true,Nat.sub_zero,List.getElem?_eq_getElem hi,Option.getD_some,he] at this
  obtain ⟨b,hb, -⟩:=this.j4
  rw [←hlen];exact (List.getElem?_eq_some_iff.1 hb).1
 have hU:=h hcl hargs
 have hW:AW P L fn.ntmps ah.length c (abx P ah.length fn.results.toList R) (fR 0 args) ah:=hU c hc
 have hvs:vs.size=args.length:=hs.sz
 have hs2:SR L fn.ntmps F γ C (fR 0 args) ah (vs++Array.replicate (fn.ntmps - vs.size) undef) w:=by
  have hg:∀t,t<vs.size→(vs++Array.replicate (fn.ntmps - vs.size) undef).getD t undef=vs.getD t undef:=by
   intro t ht;simp [Array.getD_eq_getD_getElem?,Array.getElem?_append,ht]
  have hx:∀t,¬t<vs.size→get (fR 0 args) t= .un:=by
   intro t ht;rw [fj];simp only [Nat.zero_le,if_true,Nat.sub_zero];rw [List.getElem?_eq_none (by omega)];rfl
  have hbk:∀p b,blk γ (fR 0 args) ah (vs++Array.replicate (fn.ntmps - vs.size) undef) w p b→blk γ (fR 0 args) ah vs w p b:=by
   intro p b hp
   cases p with
   |obj s=>exact hp
   |cell s i=>exact hp
   |tmp t=>
    by_cases ht:t<vs.size
    · simp only [blk,hg t ht] at hp ⊢;exact hp
    · simp only [blk,hx t ht,b7] at hp;cases hp
  refine ⟨hs.mem,by simp;omega,fun t=> ?_,fun p q b hp hq=>hs.fc p q b (hbk p b hp) (hbk q b hq),fun p b hp=>hs.nf p b (hbk p b hp),hs.mW,fun t l k xs htl=> ?_⟩
  · by_cases ht:t<vs.size
    · rw [hg t ht];exact hs.env t
    · rw [hx t ht];exact ⟨.un ..,by generalize (vs++Array.replicate (fn.ntmps - vs.size) undef).getD t undef=v;cases v<;>trivial⟩
  · by_cases ht:t<vs.size
    · have:=hs.fr t l k xs htl
      cases l with
      |tmp u=>have:=this.1;simp at this
      |cell s o=>intro cs a b h1 h2 h3 h4;rw [hg t ht];exact this cs a b h1 h2 h3 h4
    · rw [hx t ht] at htl;cases htl
 refine calls_of_wp hf hb (wp_mono (hW F γ C _ w hs2 (by omega)) ?_)
 rintro x ⟨ts',ds'⟩ w' ⟨rfl, -,e',aH,γ',C',hRX,hγ,hs',aer⟩
 have hx:x= .normal∨x= .ret:=by
  rcases hRX with ⟨m, -,h, -⟩|⟨h, -⟩<;>exact h
 obtain ⟨yt,NX⟩:∃yt,iC P e' aH fn.results.toList=some yt:=by
  rcases hRX with ⟨m, -, -,h⟩|⟨-,h⟩
  · split at h
    · rename_i vs hv;exact ⟨vs,hv⟩
    · exact h.elim
  · split at h
    · rename_i vs hv;exact ⟨vs,hv⟩
    · exact h.elim
 obtain ⟨us,u1,u2,u3,u4,u5⟩:=ZZ (P:=P) hs' _ _ NX
 have hres:(results fn ts').run P w'= .ok (if us.length=1 then us.getD 0 undef else .tuple us.toArray) w':=by
  unfold results
  rw [Array.mapM_eq_mapM_toList,map_eq_pure_bind]
  simp only [Sem.run_bind,Sem.run_pure]
  refine (congrArg (fun r=>Result.andThen (Result.andThen r fun (a:List Value) w'=> .ok a.toArray w') fun (a:Array Value) w'=> .ok (if h:a.size=1 then a[0] else Value.tuple a) w') u1).trans ?_
  simp only [Result.andThen_ok]
  by_cases h1:us.length=1
  · rw [if_pos h1]
    have:us.toArray.size=1:=by simpa using h1
    rw [dif_pos this]
    simp [List.getD_eq_getElem?_getD,h1]
  · rw [if_neg h1]
    have:¬us.toArray.size=1:=by simpa using h1
    rw [dif_neg this]
 generalize hv:(if us.length=1 then us.getD 0 undef else .tuple us.toArray)=v at hres
 have D1:VR C' γ' (fin yt) v∧TC w' C' (fin yt) v∧(∀b,b7 (fin yt) v=some b→∃t,blk γ' e' aH ts' w' (.tmp t) b)∧∀l k xs,fin yt≠ .sl (.fr l) k xs:=by
  by_cases h1:us.length=1
  · rw [if_pos h1] at hv
    obtain ⟨a,rfl⟩:∃a,yt=[a]:=by
     cases yt with
     |nil=>rw [h1] at u2;simp at u2
     |cons a r=>cases r with
      |nil=>exact ⟨a,rfl⟩
      |cons b r=>rw [h1] at u2;simp at u2
    have h3:=u3 0 a rfl
    rw [hv] at h3
    refine ⟨(Wk.df a).vr h3.1,(Wk.df a).tc h3.2,fun b hb=>u4 0 a b rfl ?_,fun l k xs=>NU a l k xs⟩
    rw [hv];exact (Wk.df a).own hb
  · rw [if_neg h1] at hv
    have hf:fin yt= .bG (yt.map AV.sh):=by
     cases yt with
     |nil=>rfl
     |cons a r=>cases r with
      |nil=>exact absurd (by simpa using u2) h1
      |cons b r=>rfl
    rw [hf]
    subst hv
    refine ⟨.bG _ _ _ (by simp [u2]) fun i a hi=> ?_,fun i a hi=> ?_,fun b hb=>by simp [b7] at hb,by simp⟩
    · rw [List.getElem?_map] at hi
      cases hq:yt[i]? with
      |none=>rw [hq] at hi;simp at hi
      |some y=>
       rw [hq] at hi
       obtain rfl:y.sh=a:=by simpa using hi
       have:=(Wk.sh y).vr (u3 i y hq).1
       rwa [←iY]
    · rw [List.getElem?_map] at hi
      cases hq:yt[i]? with
      |none=>rw [hq] at hi;simp at hi
      |some y=>
       rw [hq] at hi
       obtain rfl:y.sh=a:=by simpa using hi
       have h3:=(Wk.sh y).tc (u3 i y hq).2
       have h4:=(Wk.sh y).vr (u3 i y hq).1
       rw [←iY]
       show Jk y.sh (us.getD i undef)
       have h5:y.sh.fB=false:=by have:=u5 i y hq;cases y<;>first|rfl|cases this
       generalize us.getD i undef=u at h3 h4
       generalize hz:y.sh=z at h3 h4 h5
       cases z with
       |agg cs=>obtain ⟨vs,rfl, -⟩:=h4.ng;exact h3
       |bG cs=>cases h5
       |sl t k xs=>cases t<;>cases u<;>first|trivial|exact h3|(exfalso;cases y<;>simp [AV.sh,AV.bB] at hz;done)|skip
       |_=>cases u<;>trivial
 obtain ⟨m,hm,hrc,aes,agu,hRR⟩:∃m,ah.length≤m∧Cl m (fin yt)∧n7 m (aH.take m)∧m≤aH.length∧R (fin yt) (aH.take m):=by
  rcases hRX with ⟨m,hm, -,h⟩|⟨-,h⟩
  · rw [NX] at h
    exact ⟨m,hm,h⟩
  · rw [NX] at h
    have hl:aH.take aH.length=aH:=List.take_length
    refine ⟨aH.length, ?_, ?_, ?_,Nat.le_refl _,by rw [hl];exact h⟩
    · rw [←hs'.mem.len]
      have:=hγ.length_le
      rw [←hlen,List.take_length] at this
      omega
    · rw [←hs'.mem.len];exact D1.1.cl
    · rw [hl]
      intro s cs LD
      have hlt:s<γ'.length:=by rw [hs'.mem.len];exact (List.getElem?_eq_some_iff.1 LD).1
      obtain ⟨us',ty', -,agv,E4⟩:=hs'.mem.obj s _ cs LD (List.getElem?_eq_getElem hlt)
      intro a ha
      obtain ⟨i,hi,rfl⟩:=List.getElem_of_mem ha
      rw [←hs'.mem.len]
      exact (E4 i _ (List.getElem?_eq_getElem hi)).1.cl
 have hm0:ah.length≤m:=hm
 have hlen':=hs'.mem.len
 have hpre:γ <+: γ'.take m:=by
  rw [←hlen,List.take_length] at hγ
  obtain ⟨q,rfl⟩:=hγ
  rw [List.take_append]
  rw [List.take_of_length_le (l:=γ) (i:=m) (by omega)]
  exact List.prefix_append _ _
 have hbp:bodyPost P fn (fun en w'=>∃r v aH γ' C',en= .returned v∧R r aH∧γ <+: γ'∧SR [] 1 F γ' C' [(0,r)] aH #[v] w'∧Ext F C w C' w') x ⟨ts',[]⟩ w':=by
  have key:∃v',(results fn ts').run P w'= .ok v' w'∧∃r v aH γ' C',Ending.returned v'= .returned v∧R r aH∧γ <+: γ'∧SR [] 1 F γ' C' [(0,r)] aH #[v] w'∧Ext F C w C' w':=by
   refine ⟨v,hres,fin yt,v,aH.take m,γ'.take m,C',rfl,hRR,hpre, ?_,aer⟩
   have hgt:∀(s b:Nat),(γ'.take m)[s]? =some b→γ'[s]? =some b∧s<m:=by
    intro s b hsb
    by_cases Z0:s<m
    · rw [List.getElem?_take_of_lt Z0] at hsb;exact ⟨hsb,Z0⟩
    · rw [List.getElem?_eq_none (by simp;omega)] at hsb;cases hsb
   have Ak:∀(s:Nat) (cs:List AV),(aH.take m)[s]? =some cs→aH[s]? =some cs:=by
    intro s cs hsb
    by_cases Z0:s<m
    · rwa [List.getElem?_take_of_lt Z0] at hsb
    · rw [List.getElem?_eq_none (by simp;omega)] at hsb;cases hsb
   have hbk:∀p b,blk (γ'.take m) [(0,fin yt)] (aH.take m) #[v] w' p b→(∃t,p= .tmp 0∧blk γ' e' aH ts' w' (.tmp t) b)∨((∀t,p≠ .tmp t)∧blk γ' e' aH ts' w' p b):=by
    intro p b hp
    cases p with
    |obj s=>exact .inr ⟨by simp,(hgt s b hp).1⟩
    |cell s i=>
     obtain ⟨cs,a,b0,g1,g2,g3,g4⟩:=hp
     exact .inr ⟨by simp,cs,a,b0,Ak s cs g1,g2,(hgt s b0 g3).1,g4⟩
    |tmp t=>
     simp only [blk,get] at hp
     by_cases ht:0=t
     · subst ht
       simp only [if_true] at hp
       obtain ⟨t,ht⟩:=D1.2.2.1 b hp
       exact .inl ⟨t,rfl,ht⟩
     · rw [if_neg ht] at hp;simp [b7] at hp
   refine ⟨⟨by simp [hlen'],fun s b cs g1 g2=> ?_,hs'.mem.ya,fun s b cs g1 g0 hsb=>hs'.mem.wP s b cs (Ak s cs g1) g0 (hgt s b hsb).1,fun s b cs us ty fr g1 hsb hh=>hs'.mem.Fh s b cs us ty fr (Ak s cs g1) (hgt s b hsb).1 hh⟩,rfl,fun t=> ?_,fun p q b hp hq=> ?_,fun p b hp=> ?_,hs'.mW,fun t l k xs htl=> ?_⟩
   · obtain ⟨vs,ty,q1,q2,q3⟩:=hs'.mem.obj s b cs (Ak s cs g1) (hgt s b g2).1
     exact ⟨vs,ty,q1,q2,fun i a hi=>⟨(q3 i a hi).1.take (aes s cs g1 a (List.mem_of_getElem? hi)),(q3 i a hi).2⟩⟩
   · by_cases ht:0=t
     · subst ht
       simp only [get,if_true]
       exact ⟨D1.1.take hrc,D1.2.1⟩
     · simp only [get,if_neg ht]
       exact ⟨.un ..,by generalize (#[v]:Array Value).getD t undef=u;cases u<;>trivial⟩
   · rcases hbk p b hp with ⟨t,rfl,h1⟩|⟨h1,h2⟩<;>rcases hbk q b hq with ⟨u,rfl,h3⟩|⟨h3,h4⟩
     · rfl
     · exact absurd (hs'.fc _ _ b h1 h4) (fun e=>h3 t e.symm)
     · exact absurd (hs'.fc _ _ b h2 h3) (h1 u)
     · exact hs'.fc p q b h2 h4
   · rcases hbk p b hp with ⟨t,rfl,h1⟩|⟨h1,h2⟩
     · exact hs'.nf _ b h1
     · exact hs'.nf p b h2
   · by_cases ht:0=t
     · subst ht
       simp only [get,if_true] at htl
       exact absurd htl (D1.2.2.2 l k xs)
     · simp only [get,if_neg ht] at htl;cases htl
  rcases hx with rfl|rfl
  · exact ⟨rfl,key⟩
  · exact ⟨rfl,key⟩
 exact hbp
theorem AX.up {c:az} {Q Q':Exit→Env→AH→Prop} {e:Env} {ah:AH} {n0:Nat} (h:AX P L N n0 c Q e ah) (hq:∀x e ah,Q x e ah→Q' x e ah):AX P L N n0 c Q' e ah:=fun c' cz=>(h c' cz).mono hq
theorem aG.enter {f:Nat} {fn:Func} {c:Code} {ac:az} {args:List AV} {R:AV→AH→Prop} (L:List Nat) (m:Nat) (hf:P.funcs[f]? =some fn) (hname:fn.name≠ "runtime.NumGoroutine") (hb:fn.body=some c)
 (hc:bS P c=some ac) (ho:sF fn.ntmps ac=true) (hN:args.length≤fn.ntmps) (hm:ah.length≤m)
 (h:n7 ah.length ah→(∀a∈args,∀s o,a= .ptr s o→s<ah.length)→U P L fn.ntmps ah.length [.code ac] (Oh P m fn.results.toList R) .normal (fR 0 args) ah):aG P f args ah R:=
 aG.Q3 L hf hname hb hc ho hN fun h1 h2=>AX.up (fun c' cz=>qz c' ac _ _ _ (by rw [kO c ac hc];exact cz) (by rw [kO c ac hc];exact ho) (h h1 h2)) fun x e H hR=> .inl ⟨m,hm,hR⟩
end
end Go.Am
end
section
namespace Go.Am
open Go
variable [Tabs]
def bL (P:Program) (f N:Nat) (rs:List ResultVar) (ac:az):Prop:=
 ∃fn c,P.funcs[f]? =some fn∧fn.name≠ "runtime.NumGoroutine" ∧fn.body=some c∧bS P c=some ac∧fn.ntmps=N∧fn.results.toList=rs
theorem aG.go {P:Program} {f N:Nat} {rs:List ResultVar} {ac:az} (hF:bL P f N rs ac) {args:List AV} {ah:AH} {R:AV→AH→Prop} (L:List Nat) (m:Nat)
 (ho:sF N ac=true) (hN:args.length≤N) (hm:ah.length≤m)
 (h:n7 ah.length ah→(∀a∈args,∀s o,a= .ptr s o→s<ah.length)→U P L N ah.length [.code ac] (Oh P m rs R) .normal (fR 0 args) ah):aG P f args ah R:=by
 obtain ⟨fn,c,h1,h2,h3,h4,rfl,rfl⟩:=hF
 exact aG.enter L m h1 h2 h3 h4 ho hN hm h
section
variable {P:Program} {L:List Nat} {N n0:Nat} {e:Env} {ah:AH} {t:List It} {Q:Exit→Env→AH→Prop} {r:List aQ} {d:Option Nat} {g:Option (Nat×Bool)}
def gOf (want:Bool):AV→Option Bool
 | .bool b=>some (b==want)
 | .bG []=>some false
 |_=>none
theorem Z1 {op:gK}:iA e ⟨d,op,none⟩=some true:=rfl
theorem Z2 {op:gK} {x:Nat} {want:Bool}:iA e ⟨d,op,some (x,want)⟩=gOf want (get e x):=by
 simp only [iA]
 cases get e x with
 |bG cs=>cases cs<;>rfl
 |_=>rfl
theorem Z3 {want:Bool}:gOf want (.bG [])=some false:=rfl
theorem Sc {b want:Bool}:gOf want (.bool b)=some (b==want):=rfl
theorem aet {x:Ar}:UG P L N n0 ⟨d, .mv x,g⟩ r t Q e ah (some true)=U P L N n0 (It.ops r::t) Q Exit.normal (aI L e d (cp L x (ev e x))) ah:=rfl
def lB (P:Program) (L:List Nat) (N n0:Nat) (e:Env) (ah:AH) (d:Option Nat) (r:List aQ) (t:List It) (Q:Exit→Env→AH→Prop) (x:Ar):AV→Prop
 | .sl .own k xs=>match x with
   | .t y=>U P L N n0 (.ops r::t) Q .normal (aI L (put e y (.sl .n k xs)) d (.sl .own k xs)) ah
   | .c a=>U P L N n0 (.ops r::t) Q .normal (aI L e d (cp L (.c a) (.sl .own k xs))) ah
 |a=>U P L N n0 (.ops r::t) Q .normal (aI L e d (cp L x a)) ah
theorem acf {x:Ar}:UG P L N n0 ⟨d, .aT x,g⟩ r t Q e ah (some true)=lB P L N n0 e ah d r t Q x (ev e x):=by
 simp only [UG,bR]
 cases h:ev e x with
 |sl tg k xs=>cases tg<;>cases x<;>rfl
 |_=>rfl
def Oj (L:List Nat) (e:Env) (ah:AH) (d:Option Nat) (a b:Ar):AV→Option (Env×AH)
 | .bool t=>some (aI L e d (if t then (ev e a).sh else (ev e b).sh),ah)
 |_=>none
theorem Z4 {c a b:Ar}:UG P L N n0 ⟨d, .pick c a b,g⟩ r t Q e ah (some true)=US P L N n0 r t Q (Oj L e ah d a b (ev e c)):=by
 simp only [UG,bR];cases ev e c<;>rfl
theorem VV {cs:List AV}:UG P L N n0 ⟨d, .alloc cs,g⟩ r t Q e ah (some true)=U P L N n0 (.ops r::t) Q .normal (aI L e d (.ptr ah.length 0)) (ah++[cs]):=rfl
theorem acg {x:Ar}:UG P L N n0 ⟨d, .box x,g⟩ r t Q e ah (some true)=US P L N n0 r t Q (if cy (ev e x).cells then some (aI L e d (.ptr ah.length 0),ah++[(ev e x).cells.map AV.bB]) else none):=rfl
theorem VW {z:List AV} {ps:List (Nat×Nat×Ar)}:UG P L N n0 ⟨d, .build z ps,g⟩ r t Q e ah (some true)=US P L N n0 r t Q ((fill e z ps).map fun cs=>(aI L e d (.agg cs),ah)):=rfl
theorem ach {k:Nat} {ps:List Ar}:UG P L N n0 ⟨d, .pH k ps,g⟩ r t Q e ah (some true)=US P L N n0 r t Q (if ps.all (fun p=>(ev e p).cells.length=k&&cy (ev e p).cells&&gZ (ev e p).cells) then some (aI L e d (.sl .ex k (ps.map fun p=>(ev e p).s0)),ah) else none):=rfl
theorem af4 {y:Nat} {bs:List UInt8}:UG P L N n0 ⟨d, .lit y bs,g⟩ r t Q e ah (some true)=U P L N n0 (It.ops r::t) Q Exit.normal (put (aI L e d (.sl .ex 1 (bs.map b8))) y .un) ah:=rfl
def VX (L:List Nat) (e:Env) (ah:AH) (d:Option Nat):AV→Option (Env×AH)
 | .ptr s p=>some (aI L e d (.ptr s p),ah)
 | .ep a p=>some (aI L e d (.ep a p),ah)
 |_=>none
theorem aci {x:Ar}:UG P L N n0 ⟨d, .jP x,g⟩ r t Q e ah (some true)=US P L N n0 r t Q (VX L e ah d (ev e x)):=by
 simp only [UG,bR];cases ev e x<;>rfl
def VY (L:List Nat) (e:Env) (ah:AH) (d:Option Nat) (q:Nat):AV→Option (Env×AH)
 | .ptr s p=>some (aI L e d (.ptr s (p+q)),ah)
 | .ep a p=>some (aI L e d (.ep a (p+q)),ah)
 |_=>none
theorem acj {x:Ar} {q:Nat}:UG P L N n0 ⟨d, .cw x q,g⟩ r t Q e ah (some true)=US P L N n0 r t Q (VY L e ah d q (ev e x)):=by
 simp only [UG,bR];cases ev e x<;>rfl
theorem afN {x:Ar} {q:Nat} {n:Option Nat}:UG P L N n0 ⟨d, .IB x q n,g⟩ r t Q e ah (some true)=US P L N n0 r t Q (bR L ⟨d, .IB x q n,none⟩ e ah):=by simp only [UG,ym L d _ g]
def Z5 (L:List Nat) (d:Option Nat) (n:Option Nat) (s p:Nat) (e:Env) (ah:AH):Option (List AV)→Option (Env×AH)
 |some cs=>(nc n s p cs).map fun a=>(aI L e d a,ah)
 |none=>none
def Sd (L:List Nat) (d:Option Nat) (e:Env) (ah:AH):Option AV→Option (Env×AH)
 |some c=>if c.flat then some (aI L e d c.s1,ah) else none
 |none=>none
def Jx (L:List Nat) (d:Option Nat) (n:Option Nat) (e:Env) (ah:AH):AV→Option (Env×AH)
 | .ptr s p=>Z5 L d n s p e ah (ah[s]?)
 | .ep a p=>match n with
   |some n=>if p+n≤a.cells.length∧aX ((a.cells.drop p).take n) then some (aI L e d (.agg (((a.cells.drop p).take n).map AV.s1)),ah) else none
   |none=>Sd L d e ah (a.cells[p]?)
 |_=>none
theorem aeu {x:Ar} {n:Option Nat}:UG P L N n0 ⟨d, .ld x n,g⟩ r t Q e ah (some true)=US P L N n0 r t Q (Jx L d n e ah (ev e x)):=by
 simp only [UG,bR]
 cases ev e x with
 |ptr s p=>simp only [Jx,Z5];cases ah[s]? <;>rfl
 |ep a p=>cases n with
  |some n=>rfl
  |none=>simp only [Jx,Sd];cases a.cells[p]? <;>rfl
 |_=>rfl
def eC (s o:Nat):Option AV→Option AV
 |some (.sl .own k xs)=>some (.sl (.fr (.cell s o)) k xs)
 |some a=>if a.flat then some a.bB else none
 |none=>none
theorem bN {s o:Nat} {cs:List AV}:nc none s o cs=eC s o (cs[o]?):=by
 simp only [nc,eC]
 cases cs[o]? with
 |none=>rfl
 |some a=>cases a with
  |sl t k xs=>cases t<;>rfl
  |_=>rfl
theorem bO {n s o:Nat} {cs:List AV}:nc (some n) s o cs=if o+n≤cs.length∧aX ((cs.drop o).take n) then some (.agg (((cs.drop o).take n).map AV.bB)) else none:=rfl
theorem af5 {x:Ar} {n:Option Nat}:UG P L N n0 ⟨d, .CT x n,g⟩ r t Q e ah (some true)=US P L N n0 r t Q (bR L ⟨d, .CT x n,none⟩ e ah):=by simp only [UG,ym L d _ g]
theorem agw {a x:Ar} {n:Nat}:UG P L N n0 ⟨d, .st a x n,g⟩ r t Q e ah (some true)=US P L N n0 r t Q (bR L ⟨none, .st a x n,none⟩ e ah):=by simp only [UG,bR]
theorem ack {op:BinOp} {x y:Ar}:UG P L N n0 ⟨d, .bin op x y,g⟩ r t Q e ah (some true)=US P L N n0 r t Q ((bC op (ev e x) (ev e y)).map fun a=>(aI L e d a,ah)):=rfl
theorem aew {neq:Bool} {x y:Ar}:UG P L N n0 ⟨d, .bq neq x y,g⟩ r t Q e ah (some true)=US P L N n0 r t Q ((NP (ev e x) (ev e y)).map fun b=>(aI L e d (.bool (if neq then !b else b)),ah)):=rfl
theorem aex {neq:Bool} {x y:Ar}:UG P L N n0 ⟨d, .pq neq x y,g⟩ r t Q e ah (some true)=US P L N n0 r t Q ((NQ (ev e x) (ev e y)).map fun b=>(aI L e d (.bool (if neq then !b else b)),ah)):=rfl
def aby (L:List Nat) (e:Env) (ah:AH) (d:Option Nat) (ks:List Pk) (neq:Bool):AV→AV→Option (Env×AH)
 | .agg zq, .agg bs=>(cD ks zq bs).map fun b=>(aI L e d (.bool (if neq then !b else b)),ah)
 |_,_=>none
theorem acm {ks:List Pk} {neq:Bool} {x y:Ar}:UG P L N n0 ⟨d, .seq ks neq x y,g⟩ r t Q e ah (some true)=US P L N n0 r t Q (aby L e ah d ks neq (ev e x) (ev e y)):=by
 simp only [UG,bR];cases ev e x<;>cases ev e y<;>rfl
theorem aey {op:UnOp} {x:Ar}:UG P L N n0 ⟨d, .un op x,g⟩ r t Q e ah (some true)=US P L N n0 r t Q ((NS op (ev e x)).map fun a=>(aI L e d a,ah)):=rfl
def Q4 (L:List Nat) (e:Env) (ah:AH) (d:Option Nat) (p n:Nat) (cs:List AV):Option (Env×AH):=
 if p+n≤cs.length then (bytesOf ((cs.drop p).take n)).map fun l=>(aI L e d (.str l),ah) else none
def VZ (L:List Nat) (e:Env) (ah:AH) (d:Option Nat) (p n:Nat):Option (List AV)→Option (Env×AH)
 |some cs=>Q4 L e ah d p n cs
 |none=>none
def FD (L:List Nat) (e:Env) (ah:AH) (d:Option Nat) (h:Cv):AV→Option (Env×AH)
 | .cE s k p n=>match h with
   | .bs=>if k=1 then VZ L e ah d p n (ah[s]?) else none
   |h=>(gh h (.cE s k p n)).map fun a=>(aI L e d a,ah)
 |a=>(gh h a).map fun a=>(aI L e d a,ah)
theorem acn {h:Cv} {x:Ar}:UG P L N n0 ⟨d, .iT h x,g⟩ r t Q e ah (some true)=US P L N n0 r t Q (FD L e ah d h (ev e x)):=by
 simp only [UG,bR]
 congr 1
 cases ev e x with
 |cE s k p n=>
  cases h with
  |bs=>
   simp only [FD]
   split
   · cases ah[s]? <;>rfl
   · rfl
  |_=>rfl
 |_=>cases h<;>rfl
theorem Z6 {x:Ar}:UG P L N n0 ⟨d, .La x,g⟩ r t Q e ah (some true)=US P L N n0 r t Q ((gh .bs (ev e x)).map fun a=>(aI L e d a,ah)):=rfl
def V0 (L:List Nat) (e:Env) (ah:AH) (d:Option Nat):AV→Option (Env×AH)
 | .str l=>some (aI L e d (.cE ah.length 1 0 l.length),ah++[l.map b8])
 |_=>none
theorem Z7 {x:Ar}:UG P L N n0 ⟨d, .qC x,g⟩ r t Q e ah (some true)=US P L N n0 r t Q (V0 L e ah d (ev e x)):=by
 simp only [UG,bR];cases ev e x<;>rfl
theorem aez {neq:Bool} {x y:Ar}:UG P L N n0 ⟨d, .iq neq x y,g⟩ r t Q e ah (some true)=US P L N n0 r t Q ((NR (ev e x) (ev e y)).map fun b=>(aI L e d (.bool (if neq then !b else b)),ah)):=rfl
theorem aeA {mx:Bool} {x y:Ar}:UG P L N n0 ⟨d, .mm mx x y,g⟩ r t Q e ah (some true)=US P L N n0 r t Q ((Lb mx (ev e x) (ev e y)).map fun a=>(aI L e d a,ah)):=rfl
theorem aco {f:Nat} {cs:List Ar}:UG P L N n0 ⟨d, .Za f cs,g⟩ r t Q e ah (some true)=U P L N n0 (It.ops r::t) Q Exit.normal (aI L e d (.fn f (cs.map (ev e)))) ah:=rfl
def wQ:AV→Option Nat
 | .int _ i=>if 0≤i then some i.toNat else none
 |_=>none
theorem af6 {dflt:Nat}:n6 e dflt none=some dflt:=rfl
theorem V1 {dflt:Nat} {x:Ar}:n6 e dflt (some x)=wQ (ev e x):=by
 simp only [n6];cases ev e x<;>rfl
def Q5 (L:List Nat) (e:Env) (ah:AH) (d:Option Nat) (l:List UInt8):Option Nat→Option Nat→Option (Env×AH)
 |some i,some j=>if i≤j∧j≤l.length then some (aI L e d (.str ((l.take j).drop i)),ah) else none
 |_,_=>none
def Q6 (L:List Nat) (e:Env) (ah:AH) (d:Option Nat) (lo hi:Option Ar):AV→Option (Env×AH)
 | .str l=>Q5 L e ah d l (n6 e 0 lo) (n6 e l.length hi)
 |_=>none
theorem acp {x:Ar} {lo hi:Option Ar}:UG P L N n0 ⟨d, .iP x lo hi,g⟩ r t Q e ah (some true)=US P L N n0 r t Q (Q6 L e ah d lo hi (ev e x)):=by
 simp only [UG,bR]
 cases ev e x with
 |str l=>simp only [Q6,Q5];cases n6 e 0 lo<;>cases n6 e l.length hi<;>rfl
 |_=>rfl
def Q7 (L:List Nat) (e:Env) (ah:AH) (d:Option Nat) (k k':Nat) (xs:List AV):Option Nat→Option Nat→Option (Env×AH)
 |some i,some j=>if k'=k∧i≤j∧j≤xs.length then some (aI L e d (.sl .n k ((xs.take j).drop i)),ah) else none
 |_,_=>none
def Q8 (L:List Nat) (e:Env) (ah:AH) (d:Option Nat) (k:Nat) (lo hi:Option Ar):AV→Option (Env×AH)
 | .sl _ k' xs=>Q7 L e ah d k k' xs (n6 e 0 lo) (n6 e xs.length hi)
 |_=>none
theorem acq {k:Nat} {x:Ar} {lo hi:Option Ar}:UG P L N n0 ⟨d, .slc k x lo hi none,g⟩ r t Q e ah (some true)=US P L N n0 r t Q (Q8 L e ah d k lo hi (ev e x)):=by
 simp only [UG,bR]
 cases ev e x with
 |sl t k' xs=>simp only [Q8,Q7];cases n6 e 0 lo<;>cases n6 e xs.length hi<;>rfl
 |_=>rfl
def Jy (L:List Nat) (e:Env) (ah:AH) (d:Option Nat) (k k':Nat) (xs:List AV):Option Nat→Option Nat→Option Nat→Option (Env×AH)
 |some i,some j,some m=>if k'=k∧i≤j∧j=m∧m≤xs.length then some (aI L e d (.sl .ex k ((xs.take j).drop i)),ah) else none
 |_,_,_=>none
def Jz (L:List Nat) (e:Env) (ah:AH) (d:Option Nat) (k:Nat) (lo:Option Ar) (hi m:Ar):AV→Option (Env×AH)
 | .sl _ k' xs=>Jy L e ah d k k' xs (n6 e 0 lo) (n6 e xs.length (some hi)) (n6 e 0 (some m))
 |_=>none
theorem Z8 {k:Nat} {x:Ar} {lo:Option Ar} {hi m:Ar}:UG P L N n0 ⟨d, .slc k x lo (some hi) (some m),g⟩ r t Q e ah (some true)=US P L N n0 r t Q (Jz L e ah d k lo hi m (ev e x)):=by
 simp only [UG,bR]
 cases ev e x with
 |sl t k' xs=>
  simp only [Jz,Jy]
  cases n6 e 0 lo with
  |none=>rfl
  |some i=>
   cases n6 e xs.length (some hi) with
   |none=>rfl
   |some j=>
    simp only [Option.isNone_some,Bool.false_eq_true,if_false]
    cases n6 e 0 (some m)<;>rfl
 |_=>rfl
def Q9 (L:List Nat) (e:Env) (ah:AH) (d:Option Nat) (k k':Nat):Option AV→Option (Env×AH)
 |some a=>if k'=k then some (aI L e d (.ep a 0),ah) else none
 |none=>none
def BP (L:List Nat) (e:Env) (ah:AH) (d:Option Nat) (k:Nat):AV→AV→Option (Env×AH)
 | .sl _ k' xs, .int _ i=>if 0≤i then Q9 L e ah d k k' (xs[i.toNat]?) else none
 | .cE s k' p n, .int _ i=>if 0≤i∧i<n∧k'=k then some (aI L e d (.ptr s (p+i.toNat*k)),ah) else none
 | .cK s k' n _, .int _ i=>if 0≤i∧i<n∧k'=k then some (aI L e d (.ptr s (i.toNat*k)),ah) else none
 |_,_=>none
def LF (L:List Nat) (e:Env) (ah:AH) (d:Option Nat) (k m:Nat):AV→AV→Option (Env×AH)
 | .ptr s p, .int _ i=>if 0≤i∧i<m then some (aI L e d (.ptr s (p+i.toNat*k)),ah) else none
 | .ep a p, .int _ i=>if 0≤i∧i<m then some (aI L e d (.ep a (p+i.toNat*k)),ah) else none
 |_,_=>none
theorem acr {k m:Nat} {x i:Ar}:UG P L N n0 ⟨d, .Zb k m x i,g⟩ r t Q e ah (some true)=US P L N n0 r t Q (LF L e ah d k m (ev e x) (ev e i)):=by
 simp only [UG,bR]
 cases ev e x with
 |ptr s p=>cases ev e i<;>rfl
 |ep a p=>cases ev e i<;>rfl
 |_=>cases ev e i<;>rfl
def Ra (L:List Nat) (e:Env) (ah:AH) (d:Option Nat) (u k:Nat) (xs:List AV):AV→Option (Env×AH)
 | .sl .own k2 zs=>if k2=k then some (aI L (put e u (.sl .n k2 zs)) d (.sl .own k xs),ah) else none
 |_=>none
def LG (L:List Nat) (e:Env) (ah:AH) (d:Option Nat) (k:Nat):AV→Option (Env×AH)
 | .sl .ex k' []=>if k'=k then some (aI L e d (.cK 0 k 0 0),ah) else none
 | .cK s k' n c=>some (aI L e d (.cK s k' n c),ah)
 | .sl (.fr (.tmp u)) k' xs=>Ra L e ah d u k' xs (get e u)
 |_=>none
theorem acs {k:Nat} {x:Ar}:UG P L N n0 ⟨d, .CU k x,g⟩ r t Q e ah (some true)=US P L N n0 r t Q (LG L e ah d k (ev e x)):=by
 simp only [UG,bR]
 cases ev e x with
 |sl t k' xs=>cases t<;>cases xs<;>rfl
 |_=>rfl
theorem acu {k:Nat} {x i:Ar}:UG P L N n0 ⟨d, .pI k x i,g⟩ r t Q e ah (some true)=US P L N n0 r t Q (BP L e ah d k (ev e x) (ev e i)):=by
 simp only [UG,bR]
 cases ev e x with
 |sl t k' xs=>cases ev e i with
  |int ki n=>simp only [BP,Q9];cases xs[n.toNat]? <;>rfl
  |_=>rfl
 |cE s k' p n=>cases ev e i<;>rfl
 |cK s k' n c=>cases ev e i<;>rfl
 |_=>cases ev e i<;>rfl
def V3 (L:List Nat) (e:Env) (ah:AH) (d:Option Nat):Option UInt8→Option (Env×AH)
 |some c=>some (aI L e d (b8 c),ah)
 |none=>none
def LH (L:List Nat) (e:Env) (ah:AH) (d:Option Nat):AV→AV→Option (Env×AH)
 | .str l, .int _ i=>if 0≤i then V3 L e ah d (l[i.toNat]?) else none
 |_,_=>none
theorem acv {x i:Ar}:UG P L N n0 ⟨d, .ixs x i,g⟩ r t Q e ah (some true)=US P L N n0 r t Q (LH L e ah d (ev e x) (ev e i)):=by
 simp only [UG,bR]
 cases ev e x with
 |str l=>cases ev e i with
  |int ki n=>simp only [LH,V3];cases l[n.toNat]? <;>rfl
  |_=>rfl
 |_=>cases ev e i<;>rfl
theorem afO {l:List UInt8} {i j:Nat}:Q5 L e ah d l (some i) (some j)=if i≤j∧j≤l.length then some (aI L e d (.str ((l.take j).drop i)),ah) else none:=rfl
theorem afP {k k' i j:Nat} {xs:List AV}:Q7 L e ah d k k' xs (some i) (some j)=if k'=k∧i≤j∧j≤xs.length then some (aI L e d (.sl .n k ((xs.take j).drop i)),ah) else none:=rfl
theorem aeB {k k' i j m:Nat} {xs:List AV}:Jy L e ah d k k' xs (some i) (some j) (some m)=if k'=k∧i≤j∧j=m∧m≤xs.length then some (aI L e d (.sl .ex k ((xs.take j).drop i)),ah) else none:=rfl
theorem afQ {k k':Nat} {a:AV}:Q9 L e ah d k k' (some a)=if k'=k then some (aI L e d (.ep a 0),ah) else none:=rfl
theorem afR {c:UInt8}:V3 L e ah d (some c)=some (aI L e d (b8 c),ah):=rfl
theorem acw {n:Option Nat} {s p:Nat} {cs:List AV}:Z5 L d n s p e ah (some cs)=(nc n s p cs).map fun a=>(aI L e d a,ah):=rfl
theorem acy {c:AV}:Sd L d e ah (some c)=if c.flat then some (aI L e d c.s1,ah) else none:=rfl
theorem afS {α:Type} {c:Prop} [Decidable c] {x:Option α} (h:c):(if c then x else none)=x:=by rw [if_pos h]
theorem aeC {α:Type} {c:Prop} [Decidable c] {x:Option α} (h:¬c):(if c then none else x)=x:=by rw [if_neg h]
theorem af7 {x:Ar} {i:Nat}:UG P L N n0 ⟨d, .ext x i,g⟩ r t Q e ah (some true)=US P L N n0 r t Q (bR L ⟨d, .ext x i,none⟩ e ah):=by simp only [UG,ym L d _ g]
theorem af8 {x:Ar}:UG P L N n0 ⟨d, .len x,g⟩ r t Q e ah (some true)=US P L N n0 r t Q (bR L ⟨d, .len x,none⟩ e ah):=by simp only [UG,ym L d _ g]
theorem afT {x:Ar}:UG P L N n0 ⟨d, .lens x,g⟩ r t Q e ah (some true)=US P L N n0 r t Q (bR L ⟨d, .lens x,none⟩ e ah):=by simp only [UG,ym L d _ g]
def V4 (L:List Nat) (e:Env) (ah:AH) (d:Option Nat) (k b:Nat) (x:Ar):AV→Option (Env×AH)
 | .sl _ k' ys=>if k'=k then zZ L e ah d k b x ys else none
 |_=>none
theorem acz {k b:Nat} {x y:Ar}:UG P L N n0 ⟨d, .app k b x y,g⟩ r t Q e ah (some true)=US P L N n0 r t Q (V4 L e ah d k b x (ev e y)):=by
 simp only [UG,bR];cases ev e y<;>rfl
def V5 (L:List Nat) (e:Env) (ah:AH) (d:Option Nat) (b:Nat) (x:Ar):AV→Option (Env×AH)
 | .str l=>zZ L e ah d 1 b x (l.map b8)
 |_=>none
theorem Z9 {b:Nat} {x y:Ar}:UG P L N n0 ⟨d, .apps b x y,g⟩ r t Q e ah (some true)=US P L N n0 r t Q (V5 L e ah d b x (ev e y)):=by
 simp only [UG,bR];cases ev e y<;>rfl
theorem aaa {f:Ar} {zq:List Ar}:UG P L N n0 ⟨d, .call f zq,g⟩ r t Q e ah (some true)=UF P L N n0 zq d r t Q e ah (ev e f):=rfl
theorem aeD {o:aQ} {b:Bool}:UG P L N n0 o r t Q e ah (some b)=if b then (UG P L N n0 o r t Q e ah (some true)) else U P L N n0 (.ops r::t) Q .normal (qK e o.d) ah:=by
 cases b<;>rfl
theorem ad1 {o:aQ} {b:Bool} (h1:b=true→UG P L N n0 o r t Q e ah (some true)) (h2:b=false→U P L N n0 (.ops r::t) Q .normal (qK e o.d) ah):UG P L N n0 o r t Q e ah (some b):=by
 cases b
 · exact h2 rfl
 · exact h1 rfl
end
end Go.Am
namespace Go.Am
open Go
variable [Tabs]
theorem n7.set {n:Nat} {ah:AH} (h:n7 n ah) {s:Nat} {cs:List AV} (hc:∀a∈cs,Cl n a):n7 n (ah.set s cs):=by
 intro t ds ht a ha
 rw [List.getElem?_set] at ht
 split at ht
 · split at ht
   · injection ht with ht;subst ht;exact hc a ha
   · cases ht
 · exact h t ds ht a ha
theorem Oh.old {P:Program} {n:Nat} {rs:List ResultVar} {R:AV→AH→Prop} {x:Exit} {e:Env} {ah:AH} {vs:List AV} (hx:x= .normal∨x= .ret) (hr:iC P e ah rs=some vs)
 (hc:Cl n (fin vs)) (hh:n7 n ah) (hn:ah.length=n) (h:R (fin vs) ah):Oh P n rs R x e ah:=by
 refine ⟨hx, ?_⟩
 rw [hr]
 have:ah.take n=ah:=List.take_of_length_le (by omega)
 simp only [this]
 exact ⟨hc,hh,by omega,h⟩
theorem w64 {n:Int} (h1: -9223372036854775808≤n) (h2:n≤9223372036854775807):IntKind.wrap .i64 n=n:=by
 simp only [IntKind.wrap,IntKind.bits,IntKind.signed,Bool.true_and,decide_eq_true_eq,Int.reducePow,Nat.reduceSub,ge_iff_le]
 split<;>omega
theorem w8 {n:Int} (h1:0≤n) (h2:n≤255):IntKind.wrap .u8 n=n:=by
 simp only [IntKind.wrap,IntKind.bits,IntKind.signed,Bool.false_and,if_false,Bool.false_eq_true]
 omega
theorem abz {j:Nat}:((j:Int)+1).toNat=j+1:=by omega
theorem af9 {P:Program} {L:List Nat} {N n0:Nat} {t:List It} {Q:Exit→Env→AH→Prop} {r:List aQ} {c:Prop} [Decidable c] {x:Option (Env×AH)} (h:c):
 US P L N n0 r t Q (if c then x else none)=US P L N n0 r t Q x:=by rw [if_pos h]
theorem map_if {α β:Type} {f:α→β} {c:Prop} [Decidable c] {x:Option α} (h:c):Option.map f (if c then x else none)=Option.map f x:=by rw [if_pos h]
theorem LI {L:List Nat} {d:Option Nat} {k b:Nat} {x y:Ar} {e:Env} {ah:AH} {K K':Env→AH→Prop} (h:qD L d k b x y e ah K) (hk:∀e ah,K e ah→K' e ah):qD L d k b x y e ah K':=by
 unfold qD at h ⊢
 split at h
 · obtain ⟨h1,h2,h3,h4,h5,h6⟩:=h
   refine ⟨h1,h2,h3,h4,h5, ?_⟩
   rcases h6 with ⟨g1,g2,g3⟩|⟨cs,g1,g2,g3,g4,g5,g6,g7⟩
   · exact .inl ⟨g1,g2,fun c hc=>hk _ _ (g3 c hc)⟩
   · exact .inr ⟨cs,g1,g2,g3,g4,g5,fun h=>hk _ _ (g6 h),fun h c hc=>hk _ _ (g7 h c hc)⟩
 · exact h
theorem Se {L:List Nat} {d:Option Nat} {n:Bool} {x:Ar} {e:Env} {ah:AH} {K K':Env→AH→Prop} (h:Fc L d n x e ah K) (hk:∀e ah,K e ah→K' e ah):Fc L d n x e ah K':=by
 unfold Fc at h ⊢
 split at h
 · exact ⟨fun h0 b=>hk _ _ (h.1 h0 b),fun h0=>hk _ _ (h.2 h0)⟩
 · exact h
theorem Ok {P:Program} {L:List Nat}:∀(l:List aQ) {K K':Env→AH→Prop} {e:Env} {ah:AH},fe P L l e ah K→(∀e ah,K e ah→K' e ah)→fe P L l e ah K':=by
 intro l
 induction l with
 |nil=>intro K K' e ah h hk;exact hk _ _ h
 |cons o r ih=>
  intro K K' e ah h hk
  simp only [fe] at h ⊢
  split at h
  · rename_i hg
    obtain ⟨d,op,g⟩:=o
    cases op with
    |call f zq=>
     simp only [BN] at h ⊢
     split at h
     · exact ⟨h.1,h.2.mono fun v aH h=>ih h hk⟩
     · exact h
    |oc k b x y=>
     have h':qD L d k b x y e ah (fun e ah=>fe P L r e ah K):=h
     exact LI h' fun e ah h=>ih h hk
    |nq n x=>
     have h':Fc L d n x e ah (fun e ah=>fe P L r e ah K):=h
     exact Se h' fun e ah h=>ih h hk
    |_=>
     simp only [BN] at h ⊢
     split at h
     · exact ih h hk
     · exact h
  · exact ih h hk
  · exact h
theorem LJ {P:Program} {L:List Nat} {N n0:Nat}:∀(c:az) {Q Q':Exit→Env→AH→Prop} {e:Env} {ah:AH},lM P L N n0 c Q e ah→(∀x e ah,Q x e ah→Q' x e ah)→lM P L N n0 c Q' e ah:=by
 intro c
 induction c with
 |skip=>intro Q Q' e ah h hq;exact hq _ _ _ h
 |ret=>intro Q Q' e ah h hq;exact hq _ _ _ h
 |exit i=>intro Q Q' e ah h hq;exact hq _ _ _ h
 |rg ops=>intro Q Q' e ah h hq;exact Ok ops h fun e ah h=>hq _ _ _ h
 |seq a b FB FC=>
  intro Q Q' e ah h hq
  refine FB h fun x e ah h=> ?_
  cases x with
  |normal=>exact FC h hq
  |_=>exact hq _ _ _ h
 |cond c a b FB FC=>
  intro Q Q' e ah h hq
  simp only [lM] at h ⊢
  split at h
  · split at h
    · rename_i h1;rw [if_pos h1];exact FB h hq
    · rename_i h1;rw [if_neg h1];exact FC h hq
  · exact h.elim
 |blk i c ih=>
  intro Q Q' e ah h hq
  refine ih h fun x e ah h=> ?_
  cases x with
  |exit j=>
   simp only at h ⊢
   split at h
   · rename_i h1;rw [if_pos h1];exact hq _ _ _ h
   · rename_i h1;rw [if_neg h1];exact hq _ _ _ h
  |_=>exact hq _ _ _ h
 |loop c ih=>
  intro Q Q' e ah h hq
  exact fun c' cz=>(h c' cz).mono hq
 |sem c ih=>
  intro Q Q' e ah h hq
  exact fun c' cz=>(h c' cz).mono hq
theorem aab {P:Program} {L:List Nat} {N n0:Nat} {c:az} {Q Q':Exit→Env→AH→Prop} {e:Env} {ah:AH} (h:U P L N n0 [.code c] Q .normal e ah) (hq:∀x e ah,Q x e ah→Q' x e ah):U P L N n0 [.code c] Q' .normal e ah:=
 LJ c h hq
theorem V6 {e e2:Env} (h:∀p∈e2,p.2= .un∨Am.get e p.1=p.2∨∃t k xs,Am.get e p.1= .sl t k xs∧p.2= .sl .n k xs):∀t,Wk (Am.get e t) (Am.get e2 t):=by
 intro t
 have key:∀e2:Env,Am.get e2 t= .un∨∃p∈e2,p.1=t∧Am.get e2 t=p.2:=by
  intro e2
  induction e2 with
  |nil=>exact .inl rfl
  |cons p r ih=>
   obtain ⟨i,a⟩:=p
   simp only [Am.get]
   split
   · rename_i h;exact .inr ⟨(i,a),by simp,h,rfl⟩
   · rcases ih with h|⟨p,hp,h1,h2⟩
     · exact .inl h
     · exact .inr ⟨p,List.mem_cons_of_mem _ hp,h1,h2⟩
 rcases key e2 with h0|⟨p,hp,rfl,h2⟩
 · rw [h0];exact .un _
 · rw [h2]
   rcases h p hp with h3|h3|⟨tg,k,xs,h3,h4⟩
   · rw [h3];exact .un _
   · rw [h3];exact .same _
   · rw [h3,h4];exact .n ..
def C6 (e e2:Env):Prop:=∀p∈e2,p.2= .un∨Am.get e p.1=p.2∨∃t k xs,Am.get e p.1= .sl t k xs∧p.2= .sl .n k xs
theorem Sf {P:Program} {L:List Nat} {N n0:Nat} {e:Env} {ah:AH} {t:List It} {Q:Exit→Env→AH→Prop} {c:az} (J:Nat→Env→AH→Prop) (k0:Nat) (e0:Env) (ho:sF N c=true)
 (hw:∀p∈e0,p.2= .un∨Am.get e p.1=p.2∨∃t k xs,Am.get e p.1= .sl t k xs∧p.2= .sl .n k xs) (h0:J k0 e0 ah)
 (round:∀k e ah,J k e ah→U P L N n0 [.code c] (fun x e' aH=>match x with
  | .normal=>∃k' e2,k'<k∧(∀p∈e2,p.2= .un∨Am.get e' p.1=p.2∨∃t k xs,Am.get e' p.1= .sl t k xs∧p.2= .sl .n k xs)∧J k' e2 aH
  |x=>U P L N n0 t Q x e' aH) .normal e ah):
 UX P L N n0 (.loop c) t Q e ah:=by
 intro c'
 induction c' with
 |loop c0 _=>
  intro cz
  simp only [bS,Option.map_eq_some_iff] at cz
  obtain ⟨a,ha,he⟩:=cz
  injection he with he
  subst he
  refine AW.loop (fun k e ah=>∃e1,(∀t,Wk (Am.get e t) (Am.get e1 t))∧J k e1 ah) (k0:=k0) ?_ ⟨e0,V6 hw,h0⟩
  rintro k e ah ⟨e1,hw1,hJ⟩
  refine AW.weak hw1 (qz c0 a _ e1 ah (by rw [kO c0 a ha];exact ha) (by rw [kO c0 a ha];exact ho) ?_)
  have:=round k e1 ah hJ
  refine aab this fun x e' aH h=> ?_
  cases x with
  |normal=>obtain ⟨k',e2,h1,h2,h3⟩:=h;exact ⟨k',h1,e2,V6 h2,h3⟩
  |_=>exact h
 |scope c0 ih=>exact fun cz=>AW.scope (ih cz)
 |region id ops draw=>intro cz;simp only [bS] at cz;repeat' (split at cz)<;>simp at cz
 |block i c0=>intro cz;simp only [bS,Option.map_eq_some_iff] at cz;obtain ⟨a, -,h⟩:=cz;cases h
 |seq a b=>intro cz;simp only [bS] at cz;split at cz<;>simp at cz
 |cond a b c=>intro cz;simp only [bS] at cz;split at cz<;>simp at cz
 |_=>intro cz;simp [bS] at cz
theorem ad3 {P:Program} {L:List Nat} {N n0:Nat} {e:Env} {ah:AH} {t:List It} {Q:Exit→Env→AH→Prop} {c:az} (J:Nat→Env→AH→Prop) (k0:Nat) (e0:Env) (ho:sF N c=true)
 (hw:C6 e e0) (h0:J k0 e0 ah)
 (round:∀(K:Exit→Env→AH→Prop) k e ah,J k e ah→(∀k' e' e2 aH,k'<k→C6 e' e2→J k' e2 aH→K .normal e' aH)→(∀e' aH,U P L N n0 t Q .ret e' aH→K .ret e' aH)→
  (∀i e' aH,U P L N n0 t Q (.exit i) e' aH→K (.exit i) e' aH)→U P L N n0 [.code c] K .normal e ah):UX P L N n0 (.loop c) t Q e ah:=
 Sf J k0 e0 ho hw h0 fun k e ah hJ=>round _ k e ah hJ (fun k' e' e2 aH h1 h2 h3=>⟨k',e2,h1,h2,h3⟩) (fun _ _ h=>h) (fun _ _ _ h=>h)
theorem C6.nil {e:Env}:C6 e []:=by intro p hp;cases hp
theorem C6.same {e r:Env} {i:Nat} {a:AV} (h:Am.get e i=a) (hr:C6 e r):C6 e ((i,a)::r):=by
 intro p hp
 rcases List.mem_cons.1 hp with rfl|hp
 · exact .inr (.inl h)
 · exact hr p hp
theorem C6.un {e r:Env} {i:Nat} (hr:C6 e r):C6 e ((i, .un)::r):=by
 intro p hp
 rcases List.mem_cons.1 hp with rfl|hp
 · exact .inl rfl
 · exact hr p hp
theorem C6.sl {e r:Env} {i k:Nat} {tg:Tg} {xs:List AV} (h:Am.get e i= .sl tg k xs) (hr:C6 e r):C6 e ((i, .sl .n k xs)::r):=by
 intro p hp
 rcases List.mem_cons.1 hp with rfl|hp
 · exact .inr (.inr ⟨_,_,_,h,rfl⟩)
 · exact hr p hp
theorem aG.weak {P:Program} {f:Nat} {args args':List AV} {ah:AH} {R:AV→AH→Prop} (hl:args'.length=args.length) (hw:∀(i:Nat) (a a':AV),args[i]? =some a→args'[i]? =some a'→Wk a a') (h:aG P f args' ah R):
 aG P f args ah R:=by
 refine ⟨h.1,fun F γ C w vs hs=>h.2 F γ C w vs ?_⟩
 rw [hl]
 refine hs.wk fun t=> ?_
 rw [fj,fj]
 simp only [Nat.zero_le,if_true,Nat.sub_zero]
 cases h1:args[t]? with
 |none=>
  have:args'[t]? =none:=by
   rw [List.getElem?_eq_none_iff] at h1 ⊢
   omega
  rw [this];exact .same _
 |some a=>
  have hlt:t<args'.length:=by rw [hl];exact (List.getElem?_eq_some_iff.1 h1).1
  rw [List.getElem?_eq_getElem hlt]
  exact hw t a _ h1 (List.getElem?_eq_getElem hlt)
theorem LK:∀l:List UInt8,bytesOf (l.map b8)=some l:=by
 intro l
 induction l with
 |nil=>rfl
 |cons c r ih=>
  simp only [List.map_cons,b8,bytesOf]
  rw [ih]
  simp
theorem Sg {ah:AH} {i:Nat} {x:List AV} (h:ah[i]? =some x):ah.set i x=ah:=by
 have hlt:=(List.getElem?_eq_some_iff.1 h).1
 apply List.ext_getElem?
 intro j
 rw [List.getElem?_set]
 split
 · rename_i hj;subst hj;simp only [h,ite_eq_left_iff];try exact fun h0=>absurd hlt h0
 · rfl
theorem Oh.new {P:Program} {n:Nat} {rs:List ResultVar} {R:AV→AH→Prop} {x:Exit} {e:Env} {ah aH:AH} {vs:List AV} (hx:x= .normal∨x= .ret) (hr:iC P e ah rs=some vs) (ht:ah.take n=aH)
 (hc:Cl n (fin vs)) (hh:n7 n aH) (hn:n≤ah.length) (h:R (fin vs) aH):Oh P n rs R x e ah:=by
 refine ⟨hx, ?_⟩
 rw [hr]
 simp only [ht]
 exact ⟨hc,hh,hn,h⟩
theorem C7 {P:Program} {e:Env} {ah:AH}:iC P e ah []=some []:=rfl
theorem zu {P:Program} {e:Env} {ah:AH} {t:Nat} {rs:List ResultVar} {a:AV} {vs:List AV} (h:Am.get e t=a) (ht:a.fB=false) (hr:iC P e ah rs=some vs):iC P e ah (.tmp t::rs)=some (a::vs):=by
 subst h
 simp only [iC,ht,hr,Bool.false_eq_true,if_false]
theorem br {P:Program} {e:Env} {ah:AH} {a:Nat} {ty:TypeId} {n:Option Nat} {rs:List ResultVar} {s o:Nat} {cs vs:List AV} {v:AV} (ht:tok P ty=true) (hn:tn P ty=n) (h:Am.get e a= .ptr s o) (hs:ah[s]? =some cs)
 (hl:nc n s o cs=some v) (hr:iC P e ah rs=some vs):iC P e ah (.cell a ty::rs)=some (v.sh::vs):=by
 subst hn
 simp only [iC,ht,if_true,h,hs,hl,hr]
theorem aG.wkR {P:Program} {f:Nat} {args:List AV} {ah:AH} {R R':AV→AH→Prop} (h:aG P f args ah R) (hr:∀r aH,R r aH→∃r',Wk r r'∧R' r' aH):aG P f args ah R':=by
 refine ⟨h.1,fun F γ C w vs hs=>(h.2 F γ C w vs hs).mono ?_⟩
 rintro en w' ⟨r,v,aH,γ',C',rfl,h1,h2,h3,h4⟩
 obtain ⟨r',g1,g2⟩:=hr r aH h1
 refine ⟨r',v,aH,γ',C',rfl,g2,h2,h3.wk fun t=> ?_,h4⟩
 simp only [Am.get]
 split
 · exact g1
 · exact .same _
theorem Cl.up {n:Nat} {a:AV} (h:Cl n a) {m:Nat} (hm:n≤m):Cl m a:=by
 induction h with
 |ptr s o hs=>exact .ptr _ _ (by omega)
 |fn f cs _ ih=>exact .fn _ _ fun a ha=>ih a ha
 |agg cs _ ih=>exact .agg _ fun a ha=>ih a ha
 |bG cs _ ih=>exact .bG _ fun a ha=>ih a ha
 |v=>exact .v _
 |int=>exact .int ..
 |bool=>exact .bool _
 |str=>exact .str _
 |sl=>exact .sl ..
 |ep=>exact .ep ..
 |cE s k o n hs=>exact .cE _ _ _ _ (by omega)
 |sS=>exact .sS ..
 |cK s k o n hs=>exact .cK _ _ _ _ (by omega)
 |eF=>exact .eF
 |un=>exact .un
theorem n7.up {n m:Nat} {ah:AH} (h:n7 n ah) (hm:n≤m):n7 m ah:=fun s cs hs a ha=>(h s cs hs a ha).up hm
theorem n7.app {n:Nat} {ah uT:AH} (h:n7 n ah) (h2:n7 n uT):n7 n (ah++uT):=by
 intro s cs hs a ha
 rw [List.getElem?_append] at hs
 split at hs
 · exact h s cs hs a ha
 · exact h2 _ cs hs a ha
theorem n7.one {n:Nat} {cs:List AV} (h:∀a∈cs,Cl n a):n7 n [cs]:=by
 intro s ds hs a ha
 rcases s with _|s
 · simp at hs;subst hs;exact h a ha
 · simp at hs
end Go.Am
end
section
namespace Go.Am
open Go
variable [Tabs]
def W1 (a a':AV):Prop:=a'=a∨∃t k xs,a= .sl t k xs∧a'= .sl .n k xs
def gR:List AV→List AV→Prop
 |[],[]=>True
 |a::r,a'::r'=>W1 a a'∧gR r r'
 |_,_=>False
theorem gR.len:∀ {cs cs':List AV},gR cs cs'→cs'.length=cs.length:=by
 intro cs
 induction cs with
 |nil=>intro cs' h;cases cs' with|nil=>rfl|cons=>exact h.elim
 |cons a r ih=>intro cs' h;cases cs' with|nil=>exact h.elim|cons a' r'=>simp [ih h.2]
theorem gR.get:∀ {cs cs':List AV},gR cs cs'→∀(i:Nat) (a a':AV),cs[i]? =some a→cs'[i]? =some a'→W1 a a':=by
 intro cs
 induction cs with
 |nil=>intro cs' _ i a a' h;simp at h
 |cons a r ih=>
  intro cs' h i b b' h1 h2
  cases cs' with
  |nil=>exact h.elim
  |cons a' r'=>
   rcases i with _|i
   · simp at h1 h2;subst h1;subst h2;exact h.1
   · exact ih h.2 i b b' (by simpa using h1) (by simpa using h2)
def W2 (a a':AV):Prop:=W1 a a'∨∃ds ds',a= .agg ds∧a'= .agg ds'∧gR ds ds'
def qg:List AV→List AV→Prop
 |[],[]=>True
 |a::r,a'::r'=>W2 a a'∧qg r r'
 |_,_=>False
theorem qg.len:∀ {cs cs':List AV},qg cs cs'→cs'.length=cs.length:=by
 intro cs
 induction cs with
 |nil=>intro cs' h;cases cs' with|nil=>rfl|cons=>exact h.elim
 |cons a r ih=>intro cs' h;cases cs' with|nil=>exact h.elim|cons a' r'=>simp [ih h.2]
theorem qg.get:∀ {cs cs':List AV},qg cs cs'→∀(i:Nat) (a a':AV),cs[i]? =some a→cs'[i]? =some a'→W2 a a':=by
 intro cs
 induction cs with
 |nil=>intro cs' _ i a a' h;simp at h
 |cons a r ih=>
  intro cs' h i b b' h1 h2
  cases cs' with
  |nil=>exact h.elim
  |cons a' r'=>
   rcases i with _|i
   · simp at h1 h2;subst h1;subst h2;exact h.1
   · exact ih h.2 i b b' (by simpa using h1) (by simpa using h2)
theorem W2.wk {a a':AV} (h:W2 a a'):Wk a a':=by
 rcases h with (rfl|⟨t,k,xs,rfl,rfl⟩)|⟨ds,ds',rfl,rfl,h⟩
 · exact .same _
 · exact .n ..
 · exact .agg _ _ h.len h.get
theorem W2.tcy {a a':AV} {v:Value} (h:W2 a a') (ht:Jk a v):Jk a' v:=by
 rcases h with (rfl|⟨t,k,xs,rfl,rfl⟩)|⟨ds,ds',rfl,rfl,h⟩
 · exact ht
 · exact Va ..
 · cases v with
   |agg vs=>
    intro i a' hi
    have hlt:i<ds.length:=by rw [←h.len];exact (List.getElem?_eq_some_iff.1 hi).1
    rcases h.get i _ _ (List.getElem?_eq_getElem hlt) hi with e|⟨t,k,xs,e1,rfl⟩
    · rw [e];exact ht i _ (List.getElem?_eq_getElem hlt)
    · exact Jl ..
   |_=>trivial
inductive Wx:AV→AV→Prop
 |wk (a a'):Wk a a'→(∀l k xs,a'≠ .sl (.fr l) k xs)→Wx a a'
 |own (k xs):Wx (.sl .ex k xs) (.sl .own k xs)
 |Rb (cs cs'):qg cs cs'→Wx (.bG cs) (.bG cs')
def yu (cs cs':List AV):Prop:=cs'.length=cs.length∧∀(i:Nat) (a a':AV),cs[i]? =some a→cs'[i]? =some a'→Wx a a'
def iD (ah aH:AH):Prop:=aH.length=ah.length∧∀(s:Nat) (cs':List AV),aH[s]? =some cs'→∃cs,ah[s]? =some cs∧(cs'=cs∨yu cs cs')
def WS (e:Env) (ah:AH) (e1:Env) (cq:AH):Prop:=(∀t,Wx (get e t) (get e1 t))∧iD ah cq
theorem Wx.vr {C:Nat→List Value} {γ:List Nat} {a a':AV} {v:Value} (hw:Wx a a') (h:VR C γ a v):VR C γ a' v:=by
 cases hw with
 |wk _ _ hk=>exact hk.vr h
 |own=>exact h.lK _
 |Rb cs cs' hc=>
  obtain ⟨vs,rfl,hs,hv⟩:=h.xY
  refine .bG _ _ _ (by rw [hc.len];exact hs) fun i a' hi=> ?_
  have hlt:i<cs.length:=by rw [←hc.len];exact (List.getElem?_eq_some_iff.1 hi).1
  exact (hc.get i _ _ (List.getElem?_eq_getElem hlt) hi).wk.vr (hv i _ (List.getElem?_eq_getElem hlt))
theorem Wx.tc {w:World} {C:Nat→List Value} {γ:List Nat} {a a':AV} {v:Value} (hw:Wx a a') (hv:VR C γ a v) (h:TC w C a v):TC w C a' v:=by
 cases hw with
 |wk _ _ hk=>exact hk.tc h
 |own k xs=>
  obtain ⟨ad,c,rfl, -⟩:=hv.fW
  exact .inl h
 |Rb cs cs' hc=>
  obtain ⟨vs,rfl, -, -⟩:=hv.xY
  intro i a' hi
  have hlt:i<cs.length:=by rw [←hc.len];exact (List.getElem?_eq_some_iff.1 hi).1
  exact (hc.get i _ _ (List.getElem?_eq_getElem hlt) hi).tcy (h i _ (List.getElem?_eq_getElem hlt))
theorem Wx.b7 {w:World} {C:Nat→List Value} {γ:List Nat} {a a':AV} {v:Value} {b:Nat} (hw:Wx a a') (hv:VR C γ a v) (ht:TC w C a v) (h:b7 a' v=some b):Am.b7 a v=some b:=by
 cases hw with
 |wk _ _ hk=>exact hk.own h
 |own k xs=>
  obtain ⟨ad,c,rfl, -⟩:=hv.fW
  have hc:c=xs.length:=ht
  subst hc
  cases ad<;>simp [Am.b7] at h
 |Rb=>simp [Am.b7] at h
theorem SR.wx {L N F γ C e ah ts w} (h:SR L N F γ C e ah ts w) {e':Env} {aH:AH} (hw:WS e ah e' aH):SR L N F γ C e' aH ts w:=by
 obtain ⟨he,hl,hh⟩:=hw
 have hb:∀p b,blk γ e' aH ts w p b→blk γ e ah ts w p b:=by
  intro p b hp
  cases p with
  |obj s=>exact hp
  |tmp t=>exact (he t).b7 (h.env t).1 (h.env t).2 hp
  |cell s i=>
   obtain ⟨cs',a',b0,h1,h2,h3,h4⟩:=hp
   obtain ⟨cs,g1,g2⟩:=hh s cs' h1
   rcases g2 with rfl|⟨g2,g3⟩
   · exact ⟨_,a',b0,g1,h2,h3,h4⟩
   · have hlt:i<cs.length:=by rw [←g2];exact (List.getElem?_eq_some_iff.1 h2).1
     have h0:cs[i]? =some cs[i]:=List.getElem?_eq_getElem hlt
     refine ⟨cs,cs[i],b0,g1,h0,h3, ?_⟩
     obtain ⟨vs,ty,q1,q2,q3⟩:=h.mem.obj s b0 cs g1 h3
     have hc:(w.cell? ⟨b0,i,none⟩).getD undef=vs.getD i undef:=by
      rw [ek q1];simp [Array.getD_eq_getD_getElem?]
     rw [hc] at h4 ⊢
     exact (g3 i _ _ h0 h2).b7 (q3 i _ h0).1 (q3 i _ h0).2 h4
 refine ⟨⟨by rw [h.mem.len,hl],fun s b cs' h1 h2=> ?_,h.mem.ya,fun s b cs' h1 hne h2=> ?_,fun s b cs' us ty fr h1 h2 h3=> ?_⟩,h.sz,fun t=>⟨(he t).vr (h.env t).1,(he t).tc (h.env t).1 (h.env t).2⟩,fun p q b hp hq=>h.fc p q b (hb p b hp) (hb q b hq),
  fun p b hp=>h.nf p b (hb p b hp),h.mW,fun t l k xs ht=> ?_⟩
 · obtain ⟨cs,g1,g2⟩:=hh s cs' h1
   obtain ⟨vs,ty,q1,q2,q3⟩:=h.mem.obj s b cs g1 h2
   rcases g2 with rfl|⟨g2,g3⟩
   · exact ⟨vs,ty,q1,q2,q3⟩
   · refine ⟨vs,ty,q1,by omega,fun i a' hi=> ?_⟩
     have hlt:i<cs.length:=by rw [←g2];exact (List.getElem?_eq_some_iff.1 hi).1
     have h0:cs[i]? =some cs[i]:=List.getElem?_eq_getElem hlt
     exact ⟨(g3 i _ _ h0 hi).vr (q3 i _ h0).1,(g3 i _ _ h0 hi).tc (q3 i _ h0).1 (q3 i _ h0).2⟩
 · obtain ⟨cs,g1,g2⟩:=hh s cs' h1
   refine h.mem.wP s b cs g1 ?_ h2
   rintro rfl
   rcases g2 with rfl|⟨g2, -⟩
   · exact hne rfl
   · exact hne (List.eq_nil_of_length_eq_zero g2)
 · obtain ⟨cs,g1,g2⟩:=hh s cs' h1
   have hl':cs'.length=cs.length:=by
    rcases g2 with rfl|⟨g2, -⟩
    · rfl
    · exact g2
   rw [hl']
   exact h.mem.Fh s b cs us ty fr g1 h2 h3
 · exfalso
   have:=he t
   rw [ht] at this
   generalize get e t=a at this
   cases this with
   |wk _ _ _ hn=>exact hn l k xs rfl
theorem iD.refl (ah:AH):iD ah ah:=⟨rfl,fun s cs h=>⟨cs,h, .inl rfl⟩⟩
theorem iD.set {ah:AH} {q:Nat} {cs cs':List AV} (hq:ah[q]? =some cs) (hc:yu cs cs'):iD ah (ah.set q cs'):=by
 refine ⟨by simp,fun s ds hs=> ?_⟩
 rw [List.getElem?_set] at hs
 split at hs
 · rename_i h;subst h
   split at hs
   · injection hs with hs;subst hs;exact ⟨cs,hq, .inr hc⟩
   · cases hs
 · exact ⟨ds,hs, .inl rfl⟩
theorem Wx.un (a:AV):Wx a .un:= .wk _ _ (.un _) (by simp)
theorem Wx.n {t:Tg} {k:Nat} {xs:List AV}:Wx (.sl t k xs) (.sl .n k xs):= .wk _ _ (.n ..) (by simp)
theorem Wx.same {a:AV} (h:∀l k xs,a≠ .sl (.fr l) k xs):Wx a a:= .wk _ _ (.same _) h
theorem Wx.int {k:IntKind} {i:Int}:Wx (.int k i) (.int k i):= .same (by simp)
theorem Wx.b8 {c:UInt8}:Wx (b8 c) (b8 c):= .same (by simp [Am.b8])
theorem Wx.bool {b:Bool}:Wx (.bool b) (.bool b):= .same (by simp)
theorem Wx.str {l:List UInt8}:Wx (.str l) (.str l):= .same (by simp)
theorem Wx.ptr {s o:Nat}:Wx (.ptr s o) (.ptr s o):= .same (by simp)
theorem Wx.v {x:Value}:Wx (.v x) (.v x):= .same (by simp)
theorem Wx.fn {f:Nat} {cs:List AV}:Wx (.fn f cs) (.fn f cs):= .same (by simp)
theorem Wx.ep {a:AV} {o:Nat}:Wx (.ep a o) (.ep a o):= .same (by simp)
theorem Wx.ex {k:Nat} {xs:List AV}:Wx (.sl .ex k xs) (.sl .ex k xs):= .same (by simp)
theorem Wx.nn {k:Nat} {xs:List AV}:Wx (.sl .n k xs) (.sl .n k xs):= .same (by simp)
theorem Wx.oo {k:Nat} {xs:List AV}:Wx (.sl .own k xs) (.sl .own k xs):= .same (by simp)
theorem Wx.agg {cs cs':List AV} (h:gR cs cs'):Wx (.agg cs) (.agg cs'):= .wk _ _ (.agg _ _ h.len h.get) (by simp)
theorem Wx.bG {cs cs':List AV} (h:gR cs cs'):Wx (.bG cs) (.bG cs'):= .wk _ _ (.bG _ _ h.len h.get) (by simp)
theorem Wx.aeE {cs cs':List AV} (h:qg cs cs'):Wx (.bG cs) (.bG cs'):= .Rb _ _ h
theorem qg.nil:qg [] []:=trivial
theorem qg.same {a:AV} {r r':List AV} (h:qg r r'):qg (a::r) (a::r'):=⟨.inl (.inl rfl),h⟩
theorem qg.n {t:Tg} {k:Nat} {xs:List AV} {r r':List AV} (h:qg r r'):qg (.sl t k xs::r) (.sl .n k xs::r'):=⟨.inl (.inr ⟨_,_,_,rfl,rfl⟩),h⟩
theorem qg.agg {ds ds':List AV} {r r':List AV} (hd:gR ds ds') (h:qg r r'):qg (.agg ds::r) (.agg ds'::r'):=⟨.inr ⟨_,_,rfl,rfl,hd⟩,h⟩
theorem gR.nil:gR [] []:=trivial
theorem gR.same {a:AV} {r r':List AV} (h:gR r r'):gR (a::r) (a::r'):=⟨.inl rfl,h⟩
theorem gR.n {t:Tg} {k:Nat} {xs:List AV} {r r':List AV} (h:gR r r'):gR (.sl t k xs::r) (.sl .n k xs::r'):=⟨.inr ⟨_,_,_,rfl,rfl⟩,h⟩
theorem yu.nil:yu [] []:=⟨rfl,fun i a a' h=>by simp at h⟩
theorem yu.cons {a a':AV} {r r':List AV} (h:Wx a a') (hr:yu r r'):yu (a::r) (a'::r'):=by
 refine ⟨by simp [hr.1],fun i b b' h1 h2=> ?_⟩
 rcases i with _|i
 · simp at h1 h2;subst h1;subst h2;exact h
 · exact hr.2 i b b' (by simpa using h1) (by simpa using h2)
def WE (e e1:Env):Prop:=∀p∈e1,Wx (Am.get e p.1) p.2
theorem WE.nil {e:Env}:WE e []:=by intro p hp;cases hp
theorem WE.cons {e r:Env} {i:Nat} {a:AV} (h:Wx (Am.get e i) a) (hr:WE e r):WE e ((i,a)::r):=by
 intro p hp
 rcases List.mem_cons.1 hp with rfl|hp
 · exact h
 · exact hr p hp
theorem WE.all {e e1:Env} (h:WE e e1):∀t,Wx (Am.get e t) (Am.get e1 t):=by
 intro t
 have key:∀e1:Env,Am.get e1 t= .un∨∃p∈e1,p.1=t∧Am.get e1 t=p.2:=by
  intro e1
  induction e1 with
  |nil=>exact .inl rfl
  |cons p r ih=>
   obtain ⟨i,a⟩:=p
   simp only [Am.get]
   split
   · rename_i h;exact .inr ⟨(i,a),by simp,h,rfl⟩
   · rcases ih with h|⟨p,hp,h1,h2⟩
     · exact .inl h
     · exact .inr ⟨p,List.mem_cons_of_mem _ hp,h1,h2⟩
 rcases key e1 with h0|⟨p,hp,rfl,h2⟩
 · rw [h0];exact Wx.un _
 · rw [h2];exact h p hp
section
variable {P:Program} {L:List Nat} {N n0:Nat} {e:Env} {ah:AH} {t:List It} {Q K:Exit→Env→AH→Prop} {r:List aQ} {d:Option Nat}
theorem AW.JA {c:Code} {e1:Env} {cq:AH} (hw:WS e ah e1 cq) (h:AW P L N n0 c Q e1 cq):AW P L N n0 c Q e ah:=
 fun F γ C ts w hs hn=>h F γ C ts w (hs.wx hw) hn
theorem AW.closed {c:Code} (h:AW P L N n0 c (fun x e ah=>Q x e ah∨∃e1 cq,WS e ah e1 cq∧Q x e1 cq) e ah):AW P L N n0 c Q e ah:=by
 intro F γ C ts w hs hn
 refine wp_mono (h F γ C ts w hs hn) ?_
 rintro x a w' ⟨hd,hg,e',aH,γ',C',h1,h2,h3,h4⟩
 rcases h1 with h1|⟨e1,cq,hw,h1⟩
 · exact ⟨hd,hg,e',aH,γ',C',h1,h2,h3,h4⟩
 · exact ⟨hd,hg,e1,cq,γ',C',h1,h2,h3.wx hw,h4⟩
theorem AX.weak {c:az} {e1:Env} {cq:AH} (he:WE e e1) (hh:iD ah cq) (h:AX P L N n0 c Q e1 cq):AX P L N n0 c Q e ah:=
 fun c' cz=>AW.JA ⟨he.all,hh⟩ (h c' cz)
theorem AX.mono {c:az} {Q':Exit→Env→AH→Prop} (h:AX P L N n0 c Q e ah) (hq:∀x e ah,Q x e ah→Q' x e ah):AX P L N n0 c Q' e ah:=
 fun c' cz=>(h c' cz).mono hq
theorem AX.go {m c:az} (hm:erase m=c) (ho:sF N c=true)
 (h:∀K':Exit→Env→AH→Prop,(∀x e ah e1 cq,WE e e1→iD ah cq→K x e1 cq→K' x e ah)→U P L N n0 [.code m] K' .normal e ah):AX P L N n0 c K e ah:=by
 subst hm
 intro c' cz
 refine AW.closed (qz c' m _ e ah cz ho (h _ ?_))
 intro x e ah e1 cq h1 h2 h3
 exact .inr ⟨e1,cq,⟨h1.all,h2⟩,h3⟩
theorem acA {c:az} (h:AX P L N n0 c (fun x e ah=>U P L N n0 t Q x e ah) e ah):UX P L N n0 c t Q e ah:=h
inductive St (ρ τ σ:Type) where
 |ret (r:ρ)
 |dQ (t:τ)
 |cA (s:σ)
def iter {ρ τ σ:Type} (body:σ→Option (St ρ τ σ)):Nat→σ→Option (ρ⊕τ)
 |0,_=>none
 |n+1,s=>match body s with
  |none=>none
  |some (.ret r)=>some (.inl r)
  |some (.dQ t)=>some (.inr t)
  |some (.cA s')=>iter body n s'
theorem AX.iter {ρ τ σ:Type} {body:σ→Option (St ρ τ σ)} {m c:az} (hm:erase m=c) (ho:sF N c=true) (J:σ→Env→AH→Prop) {F:Nat} {s0:σ} {o:ρ⊕τ} (hit:Am.iter body F s0=some o) (h0:J s0 e ah)
 (round:∀(K':Exit→Env→AH→Prop) s st e ah,J s e ah→body s=some st→
  (∀s',st= .cA s'→∀e' aH e1 cq,WE e' e1→iD aH cq→J s' e1 cq→K' .normal e' aH)→
  (∀t,st= .dQ t→o= .inr t)→(∀r,st= .ret r→o= .inl r)→
  (∀x e' aH e1 cq,x≠ .normal→WE e' e1→iD aH cq→K x e1 cq→K' x e' aH)→U P L N n0 [.code m] K' .normal e ah):AX P L N n0 (.loop c) K e ah:=by
 subst hm
 intro c'
 induction c' with
 |loop c0 _=>
  intro cz
  simp only [bS,Option.map_eq_some_iff] at cz
  obtain ⟨a,ha,he⟩:=cz
  injection he with he
  subst he
  refine AW.loop (fun k e ah=>∃s e1 cq,WS e ah e1 cq∧J s e1 cq∧Am.iter body k s=some o∨(J s e ah∧Am.iter body k s=some o)) (k0:=F) ?_ ⟨s0,e,ah, .inr ⟨h0,hit⟩⟩
  have main:∀k s e ah,J s e ah→Am.iter body k s=some o→AW P L N n0 c0 (fun x e' aH=>match x with
   | .normal=>∃k',k'<k∧∃s e1 cq,WS e' aH e1 cq∧J s e1 cq∧Am.iter body k' s=some o∨(J s e' aH∧Am.iter body k' s=some o)|x=>K x e' aH) e ah:=by
   intro k s e ah hJ hk
   cases k with
   |zero=>simp [Am.iter] at hk
   |succ k=>
    cases hb:body s with
    |none=>simp [Am.iter,hb] at hk
    |some st=>
     simp only [Am.iter,hb] at hk
     refine AW.closed (qz c0 m _ e ah ha ho (round _ s st e ah hJ hb ?_ ?_ ?_ ?_))
     · rintro s' rfl e' aH e1 cq g1 g2 g3
       exact .inl ⟨k,Nat.lt_succ_self k,s',e1,cq, .inl ⟨⟨g1.all,g2⟩,g3,hk⟩⟩
     · rintro t rfl;simp only [Option.some.injEq] at hk;exact hk.symm
     · rintro r rfl;simp only [Option.some.injEq] at hk;exact hk.symm
     · intro x e' aH e1 cq hx g1 g2 g3
       cases x with
       |normal=>exact absurd rfl hx
       |_=>exact .inr ⟨e1,cq,⟨g1.all,g2⟩,g3⟩
  rintro k e ah ⟨s,e1,cq,⟨hw,hJ,hk⟩|⟨hJ,hk⟩⟩
  · exact AW.JA hw (main k s e1 cq hJ hk)
  · exact main k s e ah hJ hk
 |scope c0 ih=>exact fun cz=>AW.scope (ih cz)
 |region id ops draw=>intro cz;simp only [bS] at cz;repeat' (split at cz)<;>simp at cz
 |block i c0=>intro cz;simp only [bS,Option.map_eq_some_iff] at cz;obtain ⟨a, -,h⟩:=cz;cases h
 |seq a b=>intro cz;simp only [bS] at cz;split at cz<;>simp at cz
 |cond a b c=>intro cz;simp only [bS] at cz;split at cz<;>simp at cz
 |_=>intro cz;simp [bS] at cz
theorem aG.wkx {f:Nat} {args:List AV} {ah:AH} {R R':AV→AH→Prop} (h:aG P f args ah R) (hr:∀r aH,R r aH→∃r' FE,Wx r r'∧iD aH FE∧R' r' FE):aG P f args ah R':=by
 refine ⟨h.1,fun F γ C w vs hs=>(h.2 F γ C w vs hs).mono ?_⟩
 rintro en w' ⟨r,v,aH,γ',C',rfl,h1,h2,h3,h4⟩
 obtain ⟨r',FE,g1,g2,g3⟩:=hr r aH h1
 refine ⟨r',v,FE,γ',C',rfl,g3,h2,h3.wx ⟨fun t=> ?_,g2⟩,h4⟩
 simp only [Am.get]
 split
 · exact g1
 · exact Wx.un _
def WL:List AV→List AV→Prop
 |[],[]=>True
 |a::r,a'::r'=>Wx a a'∧WL r r'
 |_,_=>False
theorem WL.nil:WL [] []:=trivial
theorem WL.cons {a a':AV} {r r':List AV} (h:Wx a a') (hr:WL r r'):WL (a::r) (a'::r'):=⟨h,hr⟩
theorem WL.len:∀ {zq zq':List AV},WL zq zq'→zq'.length=zq.length:=by
 intro zq
 induction zq with
 |nil=>intro zq' h;cases zq' with|nil=>rfl|cons=>exact h.elim
 |cons a r ih=>intro zq' h;cases zq' with|nil=>exact h.elim|cons a' r'=>simp [ih h.2]
theorem WL.get:∀ {zq zq':List AV},WL zq zq'→∀(i:Nat) (a a':AV),zq[i]? =some a→zq'[i]? =some a'→Wx a a':=by
 intro zq
 induction zq with
 |nil=>intro zq' _ i a a' h;simp at h
 |cons a r ih=>
  intro zq' h i b b' h1 h2
  cases zq' with
  |nil=>exact h.elim
  |cons a' r'=>
   rcases i with _|i
   · simp at h1 h2;subst h1;subst h2;exact h.1
   · exact ih h.2 i b b' (by simpa using h1) (by simpa using h2)
theorem aG.JA {f:Nat} {args args':List AV} {ah cq:AH} {R:AV→AH→Prop} (hw:WL args args') (hh:iD ah cq) (h:aG P f args' cq R):aG P f args ah R:=by
 refine ⟨h.1,fun F γ C w vs hs=>h.2 F γ C w vs ?_⟩
 rw [hw.len]
 refine hs.wx ⟨fun t=> ?_,hh⟩
 rw [fj,fj]
 simp only [Nat.zero_le,if_true,Nat.sub_zero]
 cases h1:args[t]? with
 |none=>
  have:args'[t]? =none:=by
   rw [List.getElem?_eq_none_iff] at h1 ⊢
   rw [hw.len];exact h1
  rw [this];exact Wx.un _
 |some a=>
  have hlt:t<args'.length:=by rw [hw.len];exact (List.getElem?_eq_some_iff.1 h1).1
  rw [List.getElem?_eq_getElem hlt]
  exact hw.get t a _ h1 (List.getElem?_eq_getElem hlt)
theorem abA {f:Nat} {zq zq':List AV} {cq:AH} {R:AV→AH→Prop} (h:aG P f zq' cq R) (hw:WL zq zq') (hh:iD ah cq) (hk:∀v aH,R v aH→U P L N n0 (.ops r::t) Q .normal (aI L (yo e) d v.df) aH):
 UK P L N n0 f zq d r t Q e ah:=(h.JA hw hh).mono hk
def yw (P:Program) (ah:AH) (rs:List ResultVar) (R:AV→AH→Prop) (e':Env) (H:AH):Prop:=
 ∃vs r' aH,iC P e' H rs=some vs∧Wx (fin vs) r'∧R r' aH∧
  ((Cl ah.length (fin vs)∧n7 ah.length (H.take ah.length)∧ah.length≤H.length∧iD (H.take ah.length) aH)∨iD H aH)
theorem aG.goX {f:Nat} {rs:List ResultVar} {ac m:az} (hF:bL P f N rs ac) (hm:erase m=ac) {args:List AV} {R:AV→AH→Prop} (L:List Nat)
 (ho:sF N ac=true) (hN:args.length≤N)
 (h:n7 ah.length ah→∀K:Exit→Env→AH→Prop,(∀x e' H,x= .normal∨x= .ret→yw P ah rs R e' H→K x e' H)→
  AX P L N ah.length ac K (fR 0 args) ah):aG P f args ah R:=by
 refine aG.wkx (R:=fun r aH=>∃r' FE,Wx r r'∧iD aH FE∧R r' FE) ?_ (fun r aH h=>h)
 obtain ⟨fn,c,h1,h2,h3,h4,rfl,rfl⟩:=hF
 refine aG.Q3 L h1 h2 h3 h4 ho hN ?_
 intro hcl hargs
 refine h hcl _ ?_
 rintro x e' H hx ⟨vs,r',aH,g1,g2,g3,⟨g4,g5,g6,g7⟩|g4⟩
 · refine .inl ⟨ah.length,Nat.le_refl _,hx, ?_⟩
   rw [g1]
   exact ⟨g4,g5,g6,r',aH,g2,g7,g3⟩
 · refine .inr ⟨hx, ?_⟩
   rw [g1]
   exact ⟨r',aH,g2,g4,g3⟩
end
end Go.Am
end
section
namespace Go.Am
open Go
variable [Tabs]
def idx {α:Type} (l:List α) (i:Int):Option α:=if 0≤i then l[i.toNat]? else none
def sub {α:Type} (l:List α) (i j:Int):Option (List α):=if 0≤i∧i≤j∧j≤l.length then some ((l.take j.toNat).drop i.toNat) else none
def fq {α:Type} (b:Nat) (xs ys:List α):Option (List α):=if (xs.length+ys.length)*b≤140737488355328∧xs.length+ys.length≤4611686018427387904 then some (xs++ys) else none
def cat (l m:List UInt8):Option (List UInt8):=if l.length+m.length≤9223372036854775807 then some (l++m) else none
def ml {α:Type} (f:α→AV) (xs:List α):List AV:=xs.map f
def dv (k:IntKind) (i j:Int):Option Int:=if j=0 then none else some (k.wrap (i.tdiv j))
def rm (k:IntKind) (i j:Int):Option Int:=if j=0 then none else some (i.tmod j)
def shl (k:IntKind) (i j:Int):Int:=k.wrap (i*2 ^ (min j.toNat k.bits))
def shr (k:IntKind) (i j:Int):Int:=i.fdiv (2 ^ (min j.toNat k.bits))
def V7 (k:IntKind) (i j:Int):Int:=k.wrap (BitVec.ofInt k.bits i &&& BitVec.ofInt k.bits j).toNat
def ior (k:IntKind) (i j:Int):Int:=k.wrap (BitVec.ofInt k.bits i ||| BitVec.ofInt k.bits j).toNat
def V8 (k:IntKind) (i j:Int):Int:=k.wrap (BitVec.ofInt k.bits i ^^^ BitVec.ofInt k.bits j).toNat
def IT (k:IntKind) (i:Int):AV:= .int k i
theorem au {α β:Type} {o:Option α} {f:α→Option β} {r:β} (h:o.bind f=some r):∃x,o=some x∧f x=some r:=Option.bind_eq_some_iff.1 h
theorem ifb {β:Type} {B:Bool} {x y:Option β} {r:β} (h:(if B=true then x else y)=some r):(B=true∧x=some r)∨(B=false∧y=some r):=by
 cases B
 · exact .inr ⟨rfl,h⟩
 · exact .inl ⟨rfl,h⟩
theorem JB {β:Type} {p:Prop} [Decidable p] {x:Option β} {r:β} (h:(if p then x else none)=some r):p∧x=some r:=by
 split at h
 · exact ⟨by assumption,h⟩
 · cases h
theorem Rc {α:Type} (f:α→AV) (l:List α) (i:Int):idx (ml f l) i=(idx l i).map f:=by
 unfold idx ml;split<;>simp
theorem JC {α:Type} (f:α→AV) (l:List α) (i j:Int):sub (ml f l) i j=(sub l i j).map (ml f):=by
 unfold sub ml;simp only [List.length_map];split<;>simp [List.map_take,List.map_drop,ml]
theorem JD {α:Type} (f:α→AV) (l:List α):(ml f l).length=l.length:=by simp [ml]
theorem oH {α:Type} {f:α→AV} {b:Nat} {xs ys zs:List α} (h:fq b xs ys=some zs):fq b (ml f xs) (ml f ys)=some (ml f zs):=by
 unfold fq at h ⊢
 simp only [JD]
 obtain ⟨hc,h⟩:=JB h
 rw [if_pos hc]
 injection h with h
 subst h
 simp [ml]
theorem D2 (l:List UInt8):bytesOf (ml b8 l)=some l:=LK l
section
variable {P:Program} {L:List Nat} {N n0:Nat} {e:Env} {ah:AH} {t:List It} {Q:Exit→Env→AH→Prop} {r:List aQ} {d:Option Nat} {g:Option (Nat×Bool)}
theorem acB {y:Nat} {bs:List UInt8}:UG P L N n0 ⟨d, .lit y bs,g⟩ r t Q e ah (some true)=U P L N n0 (It.ops r::t) Q Exit.normal (put (aI L e d (.sl .ex 1 (ml b8 bs))) y .un) ah:=rfl
theorem Rd {l:List UInt8} {k:IntKind} {i:Int}:LH L e ah d (.str l) (.int k i)=(idx l i).map fun c=>(aI L e d (b8 c),ah):=by
 simp only [LH,idx]
 split
 · cases l[i.toNat]? <;>rfl
 · rfl
theorem Re {tg:Tg} {k:Nat} {xs:List AV} {ki:IntKind} {i:Int}:BP L e ah d k (.sl tg k xs) (.int ki i)=(idx xs i).map fun a=>(aI L e d (.ep a 0),ah):=by
 simp only [BP,idx]
 split
 · cases xs[i.toNat]? <;>simp [Q9]
 · rfl
def bI (e:Env) (dflt:Int):Option Ar→AV
 |none=> .int .i64 dflt
 |some x=>ev e x
def Rf (L:List Nat) (e:Env) (ah:AH) (d:Option Nat) (l:List UInt8):AV→AV→Option (Env×AH)
 | .int _ i, .int _ j=>(sub l i j).map fun m=>(aI L e d (.str m),ah)
 |_,_=>none
theorem JE {n:Nat} {x:Option Ar}:n6 e n x=wQ (bI e n x):=by
 cases x with
 |none=>simp [n6,bI,wQ]
 |some x=>simp only [V1,bI]
theorem FH {x:Option Ar}:n6 e 0 x=wQ (bI e 0 x):=JE (n:=0)
theorem ad4 {k:IntKind} {i:Int}:wQ (.int k i)=if 0≤i then some i.toNat else none:=rfl
theorem FI {α:Type} (l:List α) (i j:Int):sub l i j=if 0≤i then if 0≤j then if i.toNat≤j.toNat∧j.toNat≤l.length then some ((l.take j.toNat).drop i.toNat) else none else none else none:=by
 unfold sub
 by_cases h1:0≤i
 · by_cases h2:0≤j
   · simp only [if_pos h1,if_pos h2]
     have:(0≤i∧i≤j∧j≤(l.length:Int))↔(i.toNat≤j.toNat∧j.toNat≤l.length):=by omega
     simp only [this]
   · rw [if_neg (by omega)];simp [h2]
 · rw [if_neg (by omega)];simp [h1]
theorem aac {l:List UInt8} {lo hi:Option Ar}:Q6 L e ah d lo hi (.str l)=Rf L e ah d l (bI e 0 lo) (bI e l.length hi):=by
 simp only [Q6,FH,JE]
 generalize bI e 0 lo=a
 generalize bI e l.length hi=b
 cases a with
 |int k i=>
  cases b with
  |int k' j=>
   simp only [wQ,Rf,FI]
   by_cases h1:0≤i<;>by_cases h2:0≤j<;>simp only [h1,h2,if_true,if_false,Q5,Option.map_none]
   split<;>rfl
  |_=>simp only [wQ,Rf];split<;>rfl
 |_=>cases b<;>rfl
def Rg (L:List Nat) (e:Env) (ah:AH) (d:Option Nat) (k:Nat) (xs:List AV):AV→AV→Option (Env×AH)
 | .int _ i, .int _ j=>(sub xs i j).map fun ys=>(aI L e d (.sl .n k ys),ah)
 |_,_=>none
theorem aad {tg:Tg} {k:Nat} {xs:List AV} {lo hi:Option Ar}:Q8 L e ah d k lo hi (.sl tg k xs)=Rg L e ah d k xs (bI e 0 lo) (bI e xs.length hi):=by
 simp only [Q8,FH,JE]
 generalize bI e 0 lo=a
 generalize bI e xs.length hi=b
 cases a with
 |int k i=>
  cases b with
  |int k' j=>
   simp only [wQ,Rg,FI]
   by_cases h1:0≤i<;>by_cases h2:0≤j<;>simp only [h1,h2,if_true,if_false,Q7,Option.map_none,true_and]
   split<;>rfl
  |_=>simp only [wQ,Rg];split<;>rfl
 |_=>cases b<;>rfl
def D3 {α:Type} (l:List α) (i j m:Int):Option (List α):=if j=m then sub l i j else none
theorem LL {α:Type} (f:α→AV) (l:List α) (i j m:Int):D3 (ml f l) i j m=(D3 l i j m).map (ml f):=by
 unfold D3;split
 · exact JC ..
 · rfl
def FJ (L:List Nat) (e:Env) (ah:AH) (d:Option Nat) (k:Nat) (xs:List AV):AV→AV→AV→Option (Env×AH)
 | .int _ i, .int _ j, .int _ m=>(D3 xs i j m).map fun ys=>(aI L e d (.sl .ex k ys),ah)
 |_,_,_=>none
theorem V9 {tg:Tg} {k:Nat} {xs:List AV} {lo:Option Ar} {hi m:Ar}:Jz L e ah d k lo hi m (.sl tg k xs)=FJ L e ah d k xs (bI e 0 lo) (ev e hi) (ev e m):=by
 simp only [Jz,FH,V1]
 generalize bI e 0 lo=a
 generalize ev e hi=b
 generalize ev e m=c
 cases a with
 |int k i=>
  cases b with
  |int k' j=>
   cases c with
   |int k'' l=>
    simp only [wQ,FJ,D3,FI]
    by_cases h1:0≤i<;>by_cases h2:0≤j<;>by_cases h3:0≤l<;>by_cases h4:j=l<;>simp only [h1,h2,h3,h4,if_true,if_false,Jy,Option.map_none,true_and]
    all_goals first
     |rfl
     |(exfalso;omega)
     |(subst h4;split<;>rename_i q<;>split<;>rename_i q2<;>first|rfl|(exfalso;omega))
     |(split<;>first|rfl|(exfalso;omega))
   |_=>simp only [wQ,FJ];repeat' split
       all_goals first|rfl|skip
  |_=>simp only [wQ,FJ];repeat' split
      all_goals first|rfl|skip
 |_=>cases b<;>cases c<;>rfl
theorem aae {tg:Tg} {k b:Nat} {x:Ar} {ys:List AV}:V4 L e ah d k b x (.sl tg k ys)=zZ L e ah d k b x ys:=by simp [V4]
theorem Wa {b:Nat} {x:Ar} {l:List UInt8}:V5 L e ah d b x (.str l)=zZ L e ah d 1 b x (ml b8 l):=rfl
def uD (L:List Nat) (e:Env) (ah:AH) (d:Option Nat) (k:Nat) (x:Ar) (xs zs:List AV):Tg→Option (Env×AH)
 | .ex=>some (aI L e d (.sl .own k zs),ah)
 | .own=>match x with
   | .t x=>some (aI L (put e x (.sl .n k xs)) d (.sl .own k zs),ah)
   |_=>none
 | .fr (.tmp t)=>match get e t with
   | .sl .own k' us=>if k'=k then some (aI L (put e t (.sl .n k' us)) d (.sl .own k zs),ah) else none
   |_=>none
 | .fr (.cell s q)=>match ah[s]? with
   |some cs=>match cs[q]? with
    |some (.sl .own k' us)=>if k'=k then (over cs q [.sl .n k' us]).map fun cs=>(aI L e d (.sl .own k zs),ah.set s cs) else none
    |_=>none
   |none=>none
 | .n=>none
def FK (L:List Nat) (e:Env) (ah:AH) (d:Option Nat) (k:Nat) (x:Ar) (xs:List AV) (tg:Tg):Option (List AV)→Option (Env×AH)
 |some zs=>uD L e ah d k x xs zs tg
 |none=>none
theorem Wb {L:List Nat} {e:Env} {ah:AH} {d:Option Nat} {k:Nat} {x:Ar} {xs zs:List AV} {tg:Tg}:FK L e ah d k x xs tg (some zs)=uD L e ah d k x xs zs tg:=rfl
def JF (L:List Nat) (e:Env) (ah:AH) (d:Option Nat) (k b:Nat) (x:Ar) (ys:List AV):AV→Option (Env×AH)
 | .sl tg k' xs=>if k'=k then FK L e ah d k x xs tg (fq b xs ys) else none
 |_=>none
theorem aaf {k b:Nat} {x:Ar} {ys:List AV}:zZ L e ah d k b x ys=JF L e ah d k b x ys (ev e x):=by
 simp only [zZ]
 cases ev e x with
 |sl tg k' xs=>
  simp only [JF,fq]
  by_cases h1:k'=k
  · subst h1
    simp only [true_and,if_true]
    by_cases h2:(xs.length+ys.length)*b≤140737488355328∧xs.length+ys.length≤4611686018427387904
    · simp only [if_pos h2,FK]
      cases tg with
      |fr l=>cases l with
       |tmp u=>
        simp only [uD]
        cases get e u with
        |sl tg2 k2 zs=>cases tg2<;>rfl
        |_=>rfl
       |cell s q=>
        simp only [uD]
        cases ah[s]? with
        |none=>rfl
        |some cs=>
         simp only []
         cases cs[q]? with
         |none=>rfl
         |some a=>cases a with
          |sl tg2 k2 zs=>cases tg2<;>rfl
          |_=>rfl
      |own=>cases x<;>rfl
      |_=>rfl
    · simp only [if_neg h2,FK]
  · simp [h1]
 |_=>rfl
end
theorem Wc {k:IntKind} {i j:Int}:bC .add (.int k i) (.int k j)=some (.int k (k.wrap (i+j))):=by simp [bC,cW]
theorem Wd {k:IntKind} {i j:Int}:bC .sub (.int k i) (.int k j)=some (.int k (k.wrap (i - j))):=by simp [bC,cW]
theorem acC {k:IntKind} {i j:Int}:bC .mul (.int k i) (.int k j)=some (.int k (k.wrap (i*j))):=by simp [bC,cW]
theorem acD {k:IntKind} {i j:Int}:bC .quo (.int k i) (.int k j)=(dv k i j).map (.int k):=by simp [bC,cW,dv];split<;>rfl
theorem We {k:IntKind} {i j:Int}:bC .rem (.int k i) (.int k j)=(rm k i j).map (.int k):=by simp [bC,cW,rm];split<;>rfl
theorem Wf {k:IntKind} {i j:Int}:bC .and (.int k i) (.int k j)=some (.int k (V7 k i j)):=by simp [bC,cW,V7]
theorem abB {k:IntKind} {i j:Int}:bC .or (.int k i) (.int k j)=some (.int k (ior k i j)):=by simp [bC,cW,ior]
theorem Wg {k:IntKind} {i j:Int}:bC .xor (.int k i) (.int k j)=some (.int k (V8 k i j)):=by simp [bC,cW,V8]
theorem aga {k k':IntKind} {i j:Int}:bC .shl (.int k i) (.int k' j)=if j<0 then none else some (.int k (shl k i j)):=by simp [bC,shl]
theorem agb {k k':IntKind} {i j:Int}:bC .shr (.int k i) (.int k' j)=if j<0 then none else some (.int k (shr k i j)):=by simp [bC,shr]
theorem Wh {k:IntKind} {i j:Int}:bC .eql (.int k i) (.int k j)=some (.bool (decide (i=j))):=by simp [bC,cW]
theorem Wi {k:IntKind} {i j:Int}:bC .neq (.int k i) (.int k j)=some (.bool (!decide (i=j))):=by simp [bC,cW]
theorem Wj {k:IntKind} {i j:Int}:bC .lss (.int k i) (.int k j)=some (.bool (decide (i<j))):=by simp [bC,cW]
theorem Wl {k:IntKind} {i j:Int}:bC .leq (.int k i) (.int k j)=some (.bool (decide (i≤j))):=by simp [bC,cW]
theorem Wm {k:IntKind} {i j:Int}:bC .gtr (.int k i) (.int k j)=some (.bool (decide (j<i))):=by simp [bC,cW]
theorem Wn {k:IntKind} {i j:Int}:bC .geq (.int k i) (.int k j)=some (.bool (decide (j≤i))):=by simp [bC,cW]
theorem aag {k k':IntKind} {i:Int}:bC .shr (.int k i) (.int k' 1)=some (.int k (shr k i 1)):=by simp [bC,shr]
theorem aah {k k':IntKind} {i:Int}:bC .shl (.int k i) (.int k' 1)=some (.int k (shl k i 1)):=by simp [bC,shl]
theorem aai {k k':IntKind} {i:Int}:bC .shr (.int k i) (.int k' 2)=some (.int k (shr k i 2)):=by simp [bC,shr]
theorem aaj {k k':IntKind} {i:Int}:bC .shl (.int k i) (.int k' 2)=some (.int k (shl k i 2)):=by simp [bC,shl]
theorem aak {k k':IntKind} {i:Int}:bC .shr (.int k i) (.int k' 3)=some (.int k (shr k i 3)):=by simp [bC,shr]
theorem aal {k k':IntKind} {i:Int}:bC .shl (.int k i) (.int k' 3)=some (.int k (shl k i 3)):=by simp [bC,shl]
theorem aam {k k':IntKind} {i:Int}:bC .shr (.int k i) (.int k' 4)=some (.int k (shr k i 4)):=by simp [bC,shr]
theorem aan {k k':IntKind} {i:Int}:bC .shl (.int k i) (.int k' 4)=some (.int k (shl k i 4)):=by simp [bC,shl]
theorem aao {k k':IntKind} {i:Int}:bC .shr (.int k i) (.int k' 5)=some (.int k (shr k i 5)):=by simp [bC,shr]
theorem aap {k k':IntKind} {i:Int}:bC .shl (.int k i) (.int k' 5)=some (.int k (shl k i 5)):=by simp [bC,shl]
theorem aaq {k k':IntKind} {i:Int}:bC .shr (.int k i) (.int k' 6)=some (.int k (shr k i 6)):=by simp [bC,shr]
theorem aar {k k':IntKind} {i:Int}:bC .shl (.int k i) (.int k' 6)=some (.int k (shl k i 6)):=by simp [bC,shl]
theorem aas {k k':IntKind} {i:Int}:bC .shr (.int k i) (.int k' 7)=some (.int k (shr k i 7)):=by simp [bC,shr]
theorem aat {k k':IntKind} {i:Int}:bC .shl (.int k i) (.int k' 7)=some (.int k (shl k i 7)):=by simp [bC,shl]
theorem aau {k k':IntKind} {i:Int}:bC .shr (.int k i) (.int k' 8)=some (.int k (shr k i 8)):=by simp [bC,shr]
theorem aav {k k':IntKind} {i:Int}:bC .shl (.int k i) (.int k' 8)=some (.int k (shl k i 8)):=by simp [bC,shl]
theorem Wo {k k':IntKind} {i:Int}:bC .shr (.int k i) (.int k' 16)=some (.int k (shr k i 16)):=by simp [bC,shr]
theorem Wp {k k':IntKind} {i:Int}:bC .shl (.int k i) (.int k' 16)=some (.int k (shl k i 16)):=by simp [bC,shl]
theorem Wq {k k':IntKind} {i:Int}:bC .shr (.int k i) (.int k' 24)=some (.int k (shr k i 24)):=by simp [bC,shr]
theorem Wr {k k':IntKind} {i:Int}:bC .shl (.int k i) (.int k' 24)=some (.int k (shl k i 24)):=by simp [bC,shl]
theorem acE {l m:List UInt8}:bC .add (.str l) (.str m)=(cat l m).map .str:=by simp only [bC,cat];split<;>rfl
theorem acF {l m:List UInt8}:bC .eql (.str l) (.str m)=some (.bool (decide (l=m))):=rfl
theorem acG {l m:List UInt8}:bC .neq (.str l) (.str m)=some (.bool (!decide (l=m))):=rfl
theorem Ws (n:Int):IntKind.wrap .u8 n=((UInt8.ofInt n).toNat:Int):=by
 have:(UInt8.ofInt n).toNat=(n % 256).toNat:=by
  rw [UInt8.ofInt]
  simp
  omega
 rw [this]
 simp only [IntKind.wrap,IntKind.bits,IntKind.signed,Bool.false_and,if_false,Bool.false_eq_true]
 omega
theorem aaw (a b:UInt8):IntKind.wrap .u8 ((a.toNat:Int)+b.toNat)=((a+b).toNat:Int):=by
 have h1:=a.toNat_lt
 have h2:=b.toNat_lt
 simp only [IntKind.wrap,IntKind.bits,IntKind.signed,Bool.false_and,if_false,Bool.false_eq_true,UInt8.toNat_add]
 omega
theorem aax (a b:UInt8):IntKind.wrap .u8 ((a.toNat:Int) - b.toNat)=((a - b).toNat:Int):=by
 have h1:=a.toNat_lt
 have h2:=b.toNat_lt
 simp only [IntKind.wrap,IntKind.bits,IntKind.signed,Bool.false_and,if_false,Bool.false_eq_true,UInt8.toNat_sub]
 omega
theorem JG (a:UInt8):IntKind.wrap .u8 (a.toNat:Int)=(a.toNat:Int):=by
 have h1:=a.toNat_lt
 simp only [IntKind.wrap,IntKind.bits,IntKind.signed,Bool.false_and,if_false,Bool.false_eq_true]
 omega
theorem ofInt8 (a:UInt8):BitVec.ofInt 8 (a.toNat:Int)=a.toBitVec:=by
 apply BitVec.eq_of_toNat_eq;simp
theorem acH {a b:UInt8}:bC .add (b8 a) (b8 b)=some (b8 (a+b)):=by simp only [b8];rw [Wc,aaw]
theorem acI {a b:UInt8}:bC .sub (b8 a) (b8 b)=some (b8 (a - b)):=by simp only [b8];rw [Wd,aax]
theorem acJ {a b:UInt8}:bC .and (b8 a) (b8 b)=some (b8 (a &&& b)):=by
 simp only [b8];rw [Wf,V7]
 have:((BitVec.ofInt IntKind.u8.bits (a.toNat:Int) &&& BitVec.ofInt IntKind.u8.bits (b.toNat:Int)).toNat:Int)=((a &&& b).toNat:Int):=by
  simp only [IntKind.bits,ofInt8];rfl
 rw [this,JG]
theorem aeF {a b:UInt8}:bC .or (b8 a) (b8 b)=some (b8 (a ||| b)):=by
 simp only [b8];rw [abB,ior]
 have:((BitVec.ofInt IntKind.u8.bits (a.toNat:Int) ||| BitVec.ofInt IntKind.u8.bits (b.toNat:Int)).toNat:Int)=((a ||| b).toNat:Int):=by
  simp only [IntKind.bits,ofInt8];rfl
 rw [this,JG]
theorem acK {a b:UInt8}:bC .xor (b8 a) (b8 b)=some (b8 (a ^^^ b)):=by
 simp only [b8];rw [Wg,V8]
 have:((BitVec.ofInt IntKind.u8.bits (a.toNat:Int) ^^^ BitVec.ofInt IntKind.u8.bits (b.toNat:Int)).toNat:Int)=((a ^^^ b).toNat:Int):=by
  simp only [IntKind.bits,ofInt8];rfl
 rw [this,JG]
theorem acL {a b:UInt8}:bC .rem (b8 a) (b8 b)=if b=0 then none else some (b8 (a % b)):=by
 simp only [b8];rw [We,rm]
 by_cases h:b=0
 · subst h;simp
 · have h2:¬(b.toNat:Int)=0:=by
    intro h0;apply h;apply UInt8.toNat_inj.1;simp;omega
   rw [if_neg h,if_neg h2]
   simp only [Option.map_some,UInt8.toNat_mod]
   rw [Int.tmod_eq_emod_of_nonneg (by omega)]
   simp
theorem acM {a b:UInt8}:bC .eql (b8 a) (b8 b)=some (.bool (decide (a=b))):=by
 simp only [b8];rw [Wh];simp [←UInt8.toNat_inj,Int.ofNat_inj]
theorem acN {a b:UInt8}:bC .neq (b8 a) (b8 b)=some (.bool (!decide (a=b))):=by
 simp only [b8];rw [Wi];simp [←UInt8.toNat_inj,Int.ofNat_inj]
theorem acO {a b:UInt8}:bC .lss (b8 a) (b8 b)=some (.bool (decide (a<b))):=by
 simp only [b8];rw [Wj];simp [UInt8.lt_iff_toNat_lt]
theorem acP {a b:UInt8}:bC .leq (b8 a) (b8 b)=some (.bool (decide (a≤b))):=by
 simp only [b8];rw [Wl];simp [UInt8.le_iff_toNat_le]
theorem acQ {a b:UInt8}:bC .gtr (b8 a) (b8 b)=some (.bool (decide (b<a))):=by
 simp only [b8];rw [Wm];simp [UInt8.lt_iff_toNat_lt]
theorem acR {a b:UInt8}:bC .geq (b8 a) (b8 b)=some (.bool (decide (b≤a))):=by
 simp only [b8];rw [Wn];simp [UInt8.le_iff_toNat_le]
theorem aeG {k:IntKind} {c:UInt8}:gh (.int k) (b8 c)=some (.int k (k.wrap c.toNat)):=rfl
theorem aeH {k:IntKind} {i:Int}:gh (.int .u8) (.int k i)=some (b8 (UInt8.ofInt i)):=by simp only [gh,b8,Ws]
theorem aeI {c:UInt8}:gh (.int .u8) (b8 c)=some (b8 c):=by simp only [gh,b8,JG]
theorem aeJ {k':IntKind} {i:Int}:gh (.int .i8) (.int k' i)=some (.int .i8 (IntKind.wrap .i8 i)):=rfl
theorem acS {k':IntKind} {i:Int}:gh (.int .i16) (.int k' i)=some (.int .i16 (IntKind.wrap .i16 i)):=rfl
theorem acT {k':IntKind} {i:Int}:gh (.int .i32) (.int k' i)=some (.int .i32 (IntKind.wrap .i32 i)):=rfl
theorem acU {k':IntKind} {i:Int}:gh (.int .i64) (.int k' i)=some (.int .i64 (IntKind.wrap .i64 i)):=rfl
theorem acV {k':IntKind} {i:Int}:gh (.int .u16) (.int k' i)=some (.int .u16 (IntKind.wrap .u16 i)):=rfl
theorem acW {k':IntKind} {i:Int}:gh (.int .u32) (.int k' i)=some (.int .u32 (IntKind.wrap .u32 i)):=rfl
theorem acX {k':IntKind} {i:Int}:gh (.int .u64) (.int k' i)=some (.int .u64 (IntKind.wrap .u64 i)):=rfl
theorem aeK {l:List UInt8}:gh .same (.str l)=some (.str l):=rfl
theorem aeL {l:List UInt8}:gh .sb (.str l)=some (.sl .own 1 (ml b8 l)):=rfl
theorem aeM {tg:Tg} {xs:List AV}:gh .bs (.sl tg 1 xs)=(bytesOf xs).map .str:=rfl
theorem acY {k:IntKind} {i:Int}:NS .neg (.int k i)=some (.int k (k.wrap (0 - i))):=rfl
theorem acZ {b:Bool}:NS .not (.bool b)=some (.bool !b):=rfl
def aeN (k:IntKind) (i:Int):Int:=k.wrap (BitVec.ofInt k.bits (if k.signed then -1 else k.max) ^^^ BitVec.ofInt k.bits i).toNat
theorem ac0 {k:IntKind} {i:Int}:NS .xor (.int k i)=some (.int k (aeN k i)):=rfl
theorem JH:bytesOf []=some []:=rfl
theorem Ol {c:UInt8} {r:List AV}:bytesOf (b8 c::r)=(bytesOf r).map (c:: ·):=by
 simp [b8,bytesOf]
theorem Q_i {ks:List Pk} {k:IntKind} {i j:Int} {zq bs:List AV}:cD (.i::ks) (.int k i::zq) (.int k j::bs)=(cD ks zq bs).map (decide (i=j)&& ·):=by simp [cD]
theorem Q_s {ks:List Pk} {l m:List UInt8} {zq bs:List AV}:cD (.s::ks) (.str l::zq) (.str m::bs)=(cD ks zq bs).map (decide (l=m)&& ·):=rfl
theorem Q_b {ks:List Pk} {x y:Bool} {zq bs:List AV}:cD (.b::ks) (.bool x::zq) (.bool y::bs)=(cD ks zq bs).map ((x==y)&& ·):=rfl
theorem Q_n:cD [] [] []=some true:=rfl
theorem aeO {x y:Bool}:NP (.bool x) (.bool y)=some (x==y):=rfl
theorem aeP {s o:Nat}:NQ (.ptr s o) (.v (.pointer none))=some false:=rfl
theorem aeQ {s o:Nat}:NQ (.v (.pointer none)) (.ptr s o)=some false:=rfl
theorem aeR:NQ (.v (.pointer none)) (.v (.pointer none))=some true:=rfl
section
variable {P:Program} {L:List Nat} {N n0:Nat} {e:Env} {ah:AH} {t:List It} {Q:Exit→Env→AH→Prop} {r:List aQ} {d:Option Nat}
theorem cR {c:UInt8}:(b8 c).bB=b8 c:=rfl
theorem abC {c:UInt8}:(b8 c).sh=b8 c:=rfl
theorem agx {c:UInt8}:(b8 c).s1=b8 c:=rfl
theorem agy {c:UInt8}:(b8 c).s0=b8 c:=rfl
theorem abD {c:UInt8}:(b8 c).df=b8 c:=rfl
theorem agc {c:UInt8}:(b8 c).jZ=b8 c:=rfl
theorem agd {c:UInt8}:(b8 c).sE=b8 c:=rfl
theorem afU {c:UInt8} {l:Loc}:(b8 c).e8 l=b8 c:=rfl
theorem age {c:UInt8}:(b8 c).bZ=false:=rfl
theorem cu {c:UInt8}:(b8 c).flat=true:=rfl
theorem agf {c:UInt8}:(b8 c).j3=true:=rfl
theorem agz {c:UInt8}:(b8 c).np=true:=rfl
theorem aeS {c:UInt8}:(b8 c).cells=[b8 c]:=rfl
theorem agh {c:UInt8}:(b8 c).fB=false:=rfl
theorem agA {c:UInt8} {x:Ar}:cp L x (b8 c)=b8 c:=rfl
theorem agi {c:UInt8} {x:Ar}:lB P L N n0 e ah d r t Q x (b8 c)=U P L N n0 (.ops r::t) Q .normal (aI L e d (b8 c)) ah:=rfl
theorem Rh {n:Nat} {c:UInt8}:Cl n (b8 c):= .int ..
theorem ac1 {l:List UInt8} {c:UInt8}:LH L e ah d (.str l) (b8 c)=(idx l c.toNat).map fun c=>(aI L e d (b8 c),ah):=Rd
theorem ac2 {tg:Tg} {k:Nat} {xs:List AV} {c:UInt8}:BP L e ah d k (.sl tg k xs) (b8 c)=(idx xs c.toNat).map fun a=>(aI L e d (.ep a 0),ah):=Re
theorem agj {s o:Nat} {c:UInt8}:eC s o (some (b8 c))=some (b8 c):=rfl
theorem ac3 {c:UInt8}:Sd L d e ah (some (b8 c))=some (aI L e d (b8 c),ah):=rfl
end
theorem h_eq {H:AH} {q:Nat} {c:List AV} (h:q<H.length):(H.set q c)[q]? =some c:=List.getElem?_set_self h
theorem abE {H:AH} {s q:Nat} {c:List AV} (h:s≠q):(H.set s c)[q]? =H[q]? :=List.getElem?_set_ne h
theorem Wt {H T:AH} {q:Nat} (h:q<H.length):(H++T)[q]? =H[q]? :=List.getElem?_append_left h
theorem ac4 {H:AH} {c:List AV}:(H++[c])[H.length]? =some c:=by simp
theorem Ri {H:AH} {q:Nat} {c:List AV} (h:q=H.length):(H++[c])[q]? =some c:=by subst h;simp
theorem aN {H:AH} {q:Nat} {c:List AV} (h:H[q]? =some c):q<H.length:=(List.getElem?_eq_some_iff.1 h).1
theorem BQ {H:AH} {q:Nat} {c:List AV}:(H.set q c).length=H.length:=List.length_set
theorem BR {H:AH} {c:List AV}:(H++[c]).length=H.length+1:=by simp
structure Fr (ah:AH) (n0:Nat) (S:List Nat) (H:AH):Prop where
 le:n0≤H.length
 eq:∀j,j<n0→j∉S→H[j]? =ah[j]?
theorem Fr.refl (ah:AH) (S:List Nat):Fr ah ah.length S ah:=⟨Nat.le_refl _,fun _ _ _=>rfl⟩
theorem Fr.set {ah H:AH} {n0 s:Nat} {S:List Nat} {c:List AV} (h:Fr ah n0 S H) (hs:s∈S∨n0≤s):Fr ah n0 S (H.set s c):=by
 refine ⟨by simpa using h.le,fun j hj FM=> ?_⟩
 rw [List.getElem?_set_ne,h.eq j hj FM]
 rintro rfl
 rcases hs with hs|hs
 · exact FM hs
 · omega
theorem Fr.app {ah H T:AH} {n0:Nat} {S:List Nat} (h:Fr ah n0 S H):Fr ah n0 S (H++T):=by
 have:=h.le
 exact ⟨by simp;omega,fun j hj FM=>by rw [List.getElem?_append_left (by omega),h.eq j hj FM]⟩
theorem Fr.abF {ah H:AH} (h:Fr ah ah.length [] H):H.take ah.length=ah:=by
 apply List.ext_getElem?
 intro j
 by_cases hj:j<ah.length
 · rw [List.getElem?_take_of_lt hj,h.eq j hj (by simp)]
 · rw [List.getElem?_eq_none (by simp;omega),List.getElem?_eq_none (by omega)]
theorem Fr.abG {ah H:AH} {s:Nat} {c:List AV} (h:Fr ah ah.length [s] H) (hs:H[s]? =some c) (hl:s<ah.length):H.take ah.length=ah.set s c:=by
 apply List.ext_getElem?
 intro j
 by_cases hj:j<ah.length
 · rw [List.getElem?_take_of_lt hj]
   by_cases he:j=s
   · subst he;rw [hs,List.getElem?_set_self hl]
   · rw [List.getElem?_set_ne (Ne.symm he),h.eq j hj (by simpa using he)]
 · rw [List.getElem?_eq_none (by simp;omega),List.getElem?_eq_none (by simp;omega)]
theorem Fr.abH {ah H:AH} {s s2:Nat} {c c2:List AV} (h:Fr ah ah.length [s,s2] H) (hs:H[s]? =some c) (hs2:H[s2]? =some c2) (hl:s<ah.length) (qd:s2<ah.length) (hne:s≠s2):H.take ah.length=(ah.set s c).set s2 c2:=by
 apply List.ext_getElem?
 intro j
 by_cases hj:j<ah.length
 · rw [List.getElem?_take_of_lt hj]
   by_cases he:j=s2
   · subst he;rw [hs2,List.getElem?_set_self (by simpa using qd)]
   · rw [List.getElem?_set_ne (Ne.symm he)]
     by_cases he1:j=s
     · subst he1;rw [hs,List.getElem?_set_self hl]
     · rw [List.getElem?_set_ne (Ne.symm he1),h.eq j hj (by simp;exact ⟨he1,he⟩)]
 · rw [List.getElem?_eq_none (by simp;omega),List.getElem?_eq_none (by simp;omega)]
end Go.Am
end
section
namespace Go.Am
open Go
variable [Tabs]
def eB:Bool→AV
 |true=> .eF
 |false=> .v .nilIface
def Rj (L:List Nat) (e:Env) (ah:AH) (d:Option Nat):AV→Option (Env×AH)
 | .sl _ _ xs=>some (aI L e d (.int .i64 xs.length),ah)
 | .cE _ _ _ n=>some (aI L e d (.int .i64 n),ah)
 | .cK _ _ n _=>some (aI L e d (.int .i64 n),ah)
 |_=>none
def Wu (L:List Nat) (e:Env) (ah:AH) (d:Option Nat):AV→Option (Env×AH)
 | .str l=>some (aI L e d (.int .i64 l.length),ah)
 |_=>none
def Wv (L:List Nat) (e:Env) (ah:AH) (d:Option Nat):Option AV→Option (Env×AH)
 |some a=>some (aI L e d a.sh,ah)
 |none=>none
def Ww (L:List Nat) (e:Env) (ah:AH) (d:Option Nat) (i:Nat):AV→Option (Env×AH)
 | .bG cs=>Wv L e ah d (cs[i]?)
 |_=>none
def Om (L:List Nat) (e:Env) (ah:AH) (d:Option Nat):Option AV→Option (Env×AH)
 |some a=>some (aI L e d a.bB,ah)
 |none=>none
def JI (L:List Nat) (e:Env) (ah:AH) (d:Option Nat) (q:Nat):Option Nat→AV→Option (Env×AH)
 |some n, .agg cs=>if q+n≤cs.length then some (aI L e d (.agg (((cs.drop q).take n).map AV.bB)),ah) else none
 |none, .agg cs=>Om L e ah d (cs[q]?)
 |_,_=>none
def Wy (L:List Nat) (e:Env) (ah:AH) (d:Option Nat) (n:Option Nat):AV→Option (Env×AH)
 | .ep a p=>Jx L d n e ah (.ep a p)
 |_=>none
theorem Wz {z:Value}:AV.bB (.v z)=(.v z:AV):=rfl
theorem On {k:IntKind} {i:Int}:AV.bB (.int k i)=(.int k i:AV):=rfl
theorem LM {b:Bool}:AV.bB (.bool b)=(.bool b:AV):=rfl
theorem Oo {l:List UInt8}:AV.bB (.str l)=(.str l:AV):=rfl
theorem Oq {s o:Nat}:AV.bB (.ptr s o)=(.ptr s o:AV):=rfl
theorem Sh {a:AV} {o:Nat}:AV.bB (.ep a o)=(.ep a o:AV):=rfl
theorem Si {f:Nat} {cs:List AV}:AV.bB (.fn f cs)=(.fn f cs:AV):=rfl
theorem Sj:AV.bB (.un)=(.un:AV):=rfl
theorem Sk {c:UInt8}:AV.bB (b8 c)=(b8 c:AV):=rfl
theorem Sl {k:Nat} {xs:List AV}:AV.bB (.sl .n k xs)=(.sl .n k xs:AV):=rfl
theorem Ot {k:Nat} {xs:List AV}:AV.bB (.sl .ex k xs)=(.sl .ex k xs:AV):=rfl
theorem LN {k:Nat} {xs:List AV}:AV.bB (.sl .own k xs)=(.sl .n k xs:AV):=rfl
theorem Ou {l:Loc} {k:Nat} {xs:List AV}:AV.bB (.sl (.fr l) k xs)=(.sl .n k xs:AV):=rfl
theorem Ov {cs:List AV}:AV.bB (.agg cs)=(.agg cs:AV):=rfl
theorem Ox {cs:List AV}:AV.bB (.bG cs)=(.bG cs:AV):=rfl
theorem Oy {q0 k0 o0 m0:Nat}:AV.bB (.cE q0 k0 o0 m0)=(.cE q0 k0 o0 m0:AV):=rfl
theorem Oz {q0 k0 m0 c0:Nat}:AV.bB (.cK q0 k0 m0 c0)=(.cK q0 k0 m0 c0:AV):=rfl
theorem OA:AV.bB (.eF)=(.eF:AV):=rfl
theorem Sm {eb:Bool}:AV.bB (eB eb)=(eB eb:AV):=by cases eb<;>rfl
theorem aay {z:Value}:AV.sh (.v z)=(.v z:AV):=rfl
theorem Sn {k:IntKind} {i:Int}:AV.sh (.int k i)=(.int k i:AV):=rfl
theorem OB {b:Bool}:AV.sh (.bool b)=(.bool b:AV):=rfl
theorem So {l:List UInt8}:AV.sh (.str l)=(.str l:AV):=rfl
theorem Sp {s o:Nat}:AV.sh (.ptr s o)=(.ptr s o:AV):=rfl
theorem WA {a:AV} {o:Nat}:AV.sh (.ep a o)=(.ep a o:AV):=rfl
theorem WC {f:Nat} {cs:List AV}:AV.sh (.fn f cs)=(.fn f cs:AV):=rfl
theorem WD:AV.sh (.un)=(.un:AV):=rfl
theorem WI {c:UInt8}:AV.sh (b8 c)=(b8 c:AV):=rfl
theorem WJ {k:Nat} {xs:List AV}:AV.sh (.sl .n k xs)=(.sl .n k xs:AV):=rfl
theorem Sq {k:Nat} {xs:List AV}:AV.sh (.sl .ex k xs)=(.sl .ex k xs:AV):=rfl
theorem OC {k:Nat} {xs:List AV}:AV.sh (.sl .own k xs)=(.sl .n k xs:AV):=rfl
theorem Sr {l:Loc} {k:Nat} {xs:List AV}:AV.sh (.sl (.fr l) k xs)=(.sl .n k xs:AV):=rfl
theorem Ss {cs:List AV}:AV.sh (.agg cs)=(.agg (cs.map AV.bB):AV):=rfl
theorem Su {cs:List AV}:AV.sh (.bG cs)=(.bG (cs.map AV.bB):AV):=rfl
theorem Sv {q0 k0 o0 m0:Nat}:AV.sh (.cE q0 k0 o0 m0)=(.cE q0 k0 o0 m0:AV):=rfl
theorem Sw {q0 k0 m0 c0:Nat}:AV.sh (.cK q0 k0 m0 c0)=(.cK q0 k0 m0 c0:AV):=rfl
theorem Sx:AV.sh (.eF)=(.eF:AV):=rfl
theorem WK {eb:Bool}:AV.sh (eB eb)=(eB eb:AV):=by cases eb<;>rfl
theorem aaz {z:Value}:AV.s1 (.v z)=(.v z:AV):=rfl
theorem Sy {k:IntKind} {i:Int}:AV.s1 (.int k i)=(.int k i:AV):=rfl
theorem OD {b:Bool}:AV.s1 (.bool b)=(.bool b:AV):=rfl
theorem Sz {l:List UInt8}:AV.s1 (.str l)=(.str l:AV):=rfl
theorem SA {s o:Nat}:AV.s1 (.ptr s o)=(.ptr s o:AV):=rfl
theorem WN {a:AV} {o:Nat}:AV.s1 (.ep a o)=(.ep a o:AV):=rfl
theorem WO {f:Nat} {cs:List AV}:AV.s1 (.fn f cs)=(.fn f cs:AV):=rfl
theorem WQ:AV.s1 (.un)=(.un:AV):=rfl
theorem WR {c:UInt8}:AV.s1 (b8 c)=(b8 c:AV):=rfl
theorem WT {k:Nat} {xs:List AV}:AV.s1 (.sl .n k xs)=(.sl .n k xs:AV):=rfl
theorem SB {k:Nat} {xs:List AV}:AV.s1 (.sl .ex k xs)=(.sl .n k xs:AV):=rfl
theorem OE {k:Nat} {xs:List AV}:AV.s1 (.sl .own k xs)=(.sl .n k xs:AV):=rfl
theorem SC {l:Loc} {k:Nat} {xs:List AV}:AV.s1 (.sl (.fr l) k xs)=(.sl .n k xs:AV):=rfl
theorem SD {cs:List AV}:AV.s1 (.agg cs)=(.agg cs:AV):=rfl
theorem SE {cs:List AV}:AV.s1 (.bG cs)=(.bG cs:AV):=rfl
theorem SF {q0 k0 o0 m0:Nat}:AV.s1 (.cE q0 k0 o0 m0)=(.cE q0 k0 o0 m0:AV):=rfl
theorem SG {q0 k0 m0 c0:Nat}:AV.s1 (.cK q0 k0 m0 c0)=(.cK q0 k0 m0 c0:AV):=rfl
theorem SH:AV.s1 (.eF)=(.eF:AV):=rfl
theorem WX {eb:Bool}:AV.s1 (eB eb)=(eB eb:AV):=by cases eb<;>rfl
theorem aaA {z:Value}:AV.s0 (.v z)=(.v z:AV):=rfl
theorem SI {k:IntKind} {i:Int}:AV.s0 (.int k i)=(.int k i:AV):=rfl
theorem OF {b:Bool}:AV.s0 (.bool b)=(.bool b:AV):=rfl
theorem SJ {l:List UInt8}:AV.s0 (.str l)=(.str l:AV):=rfl
theorem SK {s o:Nat}:AV.s0 (.ptr s o)=(.ptr s o:AV):=rfl
theorem WY {a:AV} {o:Nat}:AV.s0 (.ep a o)=(.ep a o:AV):=rfl
theorem WZ {f:Nat} {cs:List AV}:AV.s0 (.fn f cs)=(.fn f cs:AV):=rfl
theorem W0:AV.s0 (.un)=(.un:AV):=rfl
theorem W3 {c:UInt8}:AV.s0 (b8 c)=(b8 c:AV):=rfl
theorem W4 {k:Nat} {xs:List AV}:AV.s0 (.sl .n k xs)=(.sl .n k xs:AV):=rfl
theorem SL {k:Nat} {xs:List AV}:AV.s0 (.sl .ex k xs)=(.sl .n k xs:AV):=rfl
theorem OG {k:Nat} {xs:List AV}:AV.s0 (.sl .own k xs)=(.sl .n k xs:AV):=rfl
theorem SM {l:Loc} {k:Nat} {xs:List AV}:AV.s0 (.sl (.fr l) k xs)=(.sl .n k xs:AV):=rfl
theorem SN {cs:List AV}:AV.s0 (.agg cs)=(.agg (cs.map AV.s1):AV):=rfl
theorem SO {cs:List AV}:AV.s0 (.bG cs)=(.bG cs:AV):=rfl
theorem SP {q0 k0 o0 m0:Nat}:AV.s0 (.cE q0 k0 o0 m0)=(.cE q0 k0 o0 m0:AV):=rfl
theorem SQ {q0 k0 m0 c0:Nat}:AV.s0 (.cK q0 k0 m0 c0)=(.cK q0 k0 m0 c0:AV):=rfl
theorem SS:AV.s0 (.eF)=(.eF:AV):=rfl
theorem W5 {eb:Bool}:AV.s0 (eB eb)=(eB eb:AV):=by cases eb<;>rfl
theorem aaB {z:Value}:AV.df (.v z)=(.v z:AV):=rfl
theorem SU {k:IntKind} {i:Int}:AV.df (.int k i)=(.int k i:AV):=rfl
theorem OH {b:Bool}:AV.df (.bool b)=(.bool b:AV):=rfl
theorem SV {l:List UInt8}:AV.df (.str l)=(.str l:AV):=rfl
theorem SW {s o:Nat}:AV.df (.ptr s o)=(.ptr s o:AV):=rfl
theorem W6 {a:AV} {o:Nat}:AV.df (.ep a o)=(.ep a o:AV):=rfl
theorem W7 {f:Nat} {cs:List AV}:AV.df (.fn f cs)=(.fn f cs:AV):=rfl
theorem W8:AV.df (.un)=(.un:AV):=rfl
theorem W9 {c:UInt8}:AV.df (b8 c)=(b8 c:AV):=rfl
theorem Xa {k:Nat} {xs:List AV}:AV.df (.sl .n k xs)=(.sl .n k xs:AV):=rfl
theorem SX {k:Nat} {xs:List AV}:AV.df (.sl .ex k xs)=(.sl .ex k xs:AV):=rfl
theorem OI {k:Nat} {xs:List AV}:AV.df (.sl .own k xs)=(.sl .own k xs:AV):=rfl
theorem SY {l:Loc} {k:Nat} {xs:List AV}:AV.df (.sl (.fr l) k xs)=(.sl .n k xs:AV):=rfl
theorem SZ {cs:List AV}:AV.df (.agg cs)=(.agg cs:AV):=rfl
theorem S0 {cs:List AV}:AV.df (.bG cs)=(.bG cs:AV):=rfl
theorem S1 {q0 k0 o0 m0:Nat}:AV.df (.cE q0 k0 o0 m0)=(.cE q0 k0 o0 m0:AV):=rfl
theorem S3 {q0 k0 m0 c0:Nat}:AV.df (.cK q0 k0 m0 c0)=(.cK q0 k0 m0 c0:AV):=rfl
theorem S4:AV.df (.eF)=(.eF:AV):=rfl
theorem Xb {eb:Bool}:AV.df (eB eb)=(eB eb:AV):=by cases eb<;>rfl
theorem OJ {z:Value}:AV.bZ (.v z)=false:=rfl
theorem JJ {k:IntKind} {i:Int}:AV.bZ (.int k i)=false:=rfl
theorem HF {b:Bool}:AV.bZ (.bool b)=false:=rfl
theorem JK {l:List UInt8}:AV.bZ (.str l)=false:=rfl
theorem JL {s o:Nat}:AV.bZ (.ptr s o)=false:=rfl
theorem LO {a:AV} {o:Nat}:AV.bZ (.ep a o)=false:=rfl
theorem LP {f:Nat} {cs:List AV}:AV.bZ (.fn f cs)=false:=rfl
theorem LQ:AV.bZ (.un)=false:=rfl
theorem LR {c:UInt8}:AV.bZ (b8 c)=false:=rfl
theorem LS {k:Nat} {xs:List AV}:AV.bZ (.sl .n k xs)=false:=rfl
theorem JM {k:Nat} {xs:List AV}:AV.bZ (.sl .ex k xs)=false:=rfl
theorem HG {k:Nat} {xs:List AV}:AV.bZ (.sl .own k xs)=true:=rfl
theorem JN {l:Loc} {k:Nat} {xs:List AV}:AV.bZ (.sl (.fr l) k xs)=false:=rfl
theorem JO {cs:List AV}:AV.bZ (.agg cs)=false:=rfl
theorem JP {cs:List AV}:AV.bZ (.bG cs)=false:=rfl
theorem JQ {q0 k0 o0 m0:Nat}:AV.bZ (.cE q0 k0 o0 m0)=false:=rfl
theorem JR {q0 k0 m0 c0:Nat}:AV.bZ (.cK q0 k0 m0 c0)=false:=rfl
theorem JS:AV.bZ (.eF)=false:=rfl
theorem LU {eb:Bool}:AV.bZ (eB eb)=false:=by cases eb<;>rfl
theorem Xc {z:Value}:AV.sE (.v z)=(.v z:AV):=rfl
theorem OK {k:IntKind} {i:Int}:AV.sE (.int k i)=(.int k i:AV):=rfl
theorem LV {b:Bool}:AV.sE (.bool b)=(.bool b:AV):=rfl
theorem OL {l:List UInt8}:AV.sE (.str l)=(.str l:AV):=rfl
theorem OM {s o:Nat}:AV.sE (.ptr s o)=(.ptr s o:AV):=rfl
theorem S5 {a:AV} {o:Nat}:AV.sE (.ep a o)=(.ep a o:AV):=rfl
theorem S6 {f:Nat} {cs:List AV}:AV.sE (.fn f cs)=(.fn f cs:AV):=rfl
theorem S7:AV.sE (.un)=(.un:AV):=rfl
theorem S8 {c:UInt8}:AV.sE (b8 c)=(b8 c:AV):=rfl
theorem S9 {k:Nat} {xs:List AV}:AV.sE (.sl .n k xs)=(.sl .n k xs:AV):=rfl
theorem ON {k:Nat} {xs:List AV}:AV.sE (.sl .ex k xs)=(.sl .ex k xs:AV):=rfl
theorem LW {k:Nat} {xs:List AV}:AV.sE (.sl .own k xs)=(.sl .n k xs:AV):=rfl
theorem OO {l:Loc} {k:Nat} {xs:List AV}:AV.sE (.sl (.fr l) k xs)=(.sl (.fr l) k xs:AV):=rfl
theorem OP {cs:List AV}:AV.sE (.agg cs)=(.agg cs:AV):=rfl
theorem OQ {cs:List AV}:AV.sE (.bG cs)=(.bG cs:AV):=rfl
theorem OR {q0 k0 o0 m0:Nat}:AV.sE (.cE q0 k0 o0 m0)=(.cE q0 k0 o0 m0:AV):=rfl
theorem OS {q0 k0 m0 c0:Nat}:AV.sE (.cK q0 k0 m0 c0)=(.cK q0 k0 m0 c0:AV):=rfl
theorem OT:AV.sE (.eF)=(.eF:AV):=rfl
theorem Ta {eb:Bool}:AV.sE (eB eb)=(eB eb:AV):=by cases eb<;>rfl
theorem Tb {z:Value} {l0:Loc}:AV.e8 l0 (.v z)=(.v z:AV):=rfl
theorem LX {k:IntKind} {i:Int} {l0:Loc}:AV.e8 l0 (.int k i)=(.int k i:AV):=rfl
theorem JT {b:Bool} {l0:Loc}:AV.e8 l0 (.bool b)=(.bool b:AV):=rfl
theorem LY {l:List UInt8} {l0:Loc}:AV.e8 l0 (.str l)=(.str l:AV):=rfl
theorem LZ {s o:Nat} {l0:Loc}:AV.e8 l0 (.ptr s o)=(.ptr s o:AV):=rfl
theorem OU {a:AV} {o:Nat} {l0:Loc}:AV.e8 l0 (.ep a o)=(.ep a o:AV):=rfl
theorem OV {f:Nat} {cs:List AV} {l0:Loc}:AV.e8 l0 (.fn f cs)=(.fn f cs:AV):=rfl
theorem OW {l0:Loc}:AV.e8 l0 (.un)=(.un:AV):=rfl
theorem OX {c:UInt8} {l0:Loc}:AV.e8 l0 (b8 c)=(b8 c:AV):=rfl
theorem OY {k:Nat} {xs:List AV} {l0:Loc}:AV.e8 l0 (.sl .n k xs)=(.sl .n k xs:AV):=rfl
theorem L0 {k:Nat} {xs:List AV} {l0:Loc}:AV.e8 l0 (.sl .ex k xs)=(.sl .ex k xs:AV):=rfl
theorem JU {k:Nat} {xs:List AV} {l0:Loc}:AV.e8 l0 (.sl .own k xs)=(.sl .own k xs:AV):=rfl
theorem L1 {l:Loc} {k:Nat} {xs:List AV} {l0:Loc}:AV.e8 l0 (.sl (.fr l) k xs)=if l=l0 then .sl .n k xs else .sl (.fr l) k xs:=rfl
theorem L2 {cs:List AV} {l0:Loc}:AV.e8 l0 (.agg cs)=(.agg cs:AV):=rfl
theorem L3 {cs:List AV} {l0:Loc}:AV.e8 l0 (.bG cs)=(.bG cs:AV):=rfl
theorem L4 {q0 k0 o0 m0:Nat} {l0:Loc}:AV.e8 l0 (.cE q0 k0 o0 m0)=(.cE q0 k0 o0 m0:AV):=rfl
theorem L5 {q0 k0 m0 c0:Nat} {l0:Loc}:AV.e8 l0 (.cK q0 k0 m0 c0)=(.cK q0 k0 m0 c0:AV):=rfl
theorem L6 {l0:Loc}:AV.e8 l0 (.eF)=(.eF:AV):=rfl
theorem OZ {eb:Bool} {l0:Loc}:AV.e8 l0 (eB eb)=(eB eb:AV):=by cases eb<;>rfl
theorem Xd {z:Value}:AV.jZ (.v z)=(.v z:AV):=rfl
theorem O0 {k:IntKind} {i:Int}:AV.jZ (.int k i)=(.int k i:AV):=rfl
theorem L7 {b:Bool}:AV.jZ (.bool b)=(.bool b:AV):=rfl
theorem O1 {l:List UInt8}:AV.jZ (.str l)=(.str l:AV):=rfl
theorem O2 {s o:Nat}:AV.jZ (.ptr s o)=(.ptr s o:AV):=rfl
theorem Tc {a:AV} {o:Nat}:AV.jZ (.ep a o)=(.ep a o:AV):=rfl
theorem Td {f:Nat} {cs:List AV}:AV.jZ (.fn f cs)=(.fn f cs:AV):=rfl
theorem Te:AV.jZ (.un)=(.un:AV):=rfl
theorem Tf {c:UInt8}:AV.jZ (b8 c)=(b8 c:AV):=rfl
theorem Th {k:Nat} {xs:List AV}:AV.jZ (.sl .n k xs)=(.sl .n k xs:AV):=rfl
theorem O3 {k:Nat} {xs:List AV}:AV.jZ (.sl .ex k xs)=(.sl .ex k xs:AV):=rfl
theorem L8 {k:Nat} {xs:List AV}:AV.jZ (.sl .own k xs)=(.sl .own k xs:AV):=rfl
theorem O4 {cs:List AV}:AV.jZ (.agg cs)=(.agg cs:AV):=rfl
theorem O5 {cs:List AV}:AV.jZ (.bG cs)=(.bG cs:AV):=rfl
theorem O6 {q0 k0 o0 m0:Nat}:AV.jZ (.cE q0 k0 o0 m0)=(.cE q0 k0 o0 m0:AV):=rfl
theorem O7 {q0 k0 m0 c0:Nat}:AV.jZ (.cK q0 k0 m0 c0)=(.cK q0 k0 m0 c0:AV):=rfl
theorem O8:AV.jZ (.eF)=(.eF:AV):=rfl
theorem Ti {eb:Bool}:AV.jZ (eB eb)=(eB eb:AV):=by cases eb<;>rfl
theorem Xe {a b k:Nat} {xs:List AV}:AV.jZ (.sl (.fr (.cell a b)) k xs)= .sl .n k xs:=rfl
theorem Xf {a k:Nat} {xs:List AV}:AV.jZ (.sl (.fr (.tmp a)) k xs)= .sl (.fr (.tmp a)) k xs:=rfl
theorem O9 {z:Value}:AV.cells (.v z)=[.v z]:=rfl
theorem JV {k:IntKind} {i:Int}:AV.cells (.int k i)=[.int k i]:=rfl
theorem HH {b:Bool}:AV.cells (.bool b)=[.bool b]:=rfl
theorem JW {l:List UInt8}:AV.cells (.str l)=[.str l]:=rfl
theorem JX {s o:Nat}:AV.cells (.ptr s o)=[.ptr s o]:=rfl
theorem L9 {a:AV} {o:Nat}:AV.cells (.ep a o)=[.ep a o]:=rfl
theorem Ma {f:Nat} {cs:List AV}:AV.cells (.fn f cs)=[.fn f cs]:=rfl
theorem Mb:AV.cells (.un)=[.un]:=rfl
theorem Mc {c:UInt8}:AV.cells (b8 c)=[b8 c]:=rfl
theorem Md {k:Nat} {xs:List AV}:AV.cells (.sl .n k xs)=[.sl .n k xs]:=rfl
theorem JY {k:Nat} {xs:List AV}:AV.cells (.sl .ex k xs)=[.sl .ex k xs]:=rfl
theorem HI {k:Nat} {xs:List AV}:AV.cells (.sl .own k xs)=[.sl .own k xs]:=rfl
theorem JZ {l:Loc} {k:Nat} {xs:List AV}:AV.cells (.sl (.fr l) k xs)=[.sl (.fr l) k xs]:=rfl
theorem J0 {cs:List AV}:AV.cells (.agg cs)=cs:=rfl
theorem J1 {cs:List AV}:AV.cells (.bG cs)=[.bG cs]:=rfl
theorem J2 {q0 k0 o0 m0:Nat}:AV.cells (.cE q0 k0 o0 m0)=[.cE q0 k0 o0 m0]:=rfl
theorem J3 {q0 k0 m0 c0:Nat}:AV.cells (.cK q0 k0 m0 c0)=[.cK q0 k0 m0 c0]:=rfl
theorem J4:AV.cells (.eF)=[.eF]:=rfl
theorem Me {eb:Bool}:AV.cells (eB eb)=[eB eb]:=by cases eb<;>rfl
theorem Xg {z:Value}:AV.j3 (.v z)=true:=rfl
theorem Pa {k:IntKind} {i:Int}:AV.j3 (.int k i)=true:=rfl
theorem Mf {b:Bool}:AV.j3 (.bool b)=true:=rfl
theorem Pb {l:List UInt8}:AV.j3 (.str l)=true:=rfl
theorem Pc {s o:Nat}:AV.j3 (.ptr s o)=true:=rfl
theorem Tj {a:AV} {o:Nat}:AV.j3 (.ep a o)=true:=rfl
theorem Tk {f:Nat} {cs:List AV}:AV.j3 (.fn f cs)=true:=rfl
theorem Tl:AV.j3 (.un)=false:=rfl
theorem Tm {c:UInt8}:AV.j3 (b8 c)=true:=rfl
theorem Tn {k:Nat} {xs:List AV}:AV.j3 (.sl .n k xs)=true:=rfl
theorem Pd {k:Nat} {xs:List AV}:AV.j3 (.sl .ex k xs)=true:=rfl
theorem Mg {k:Nat} {xs:List AV}:AV.j3 (.sl .own k xs)=true:=rfl
theorem Pe {l:Loc} {k:Nat} {xs:List AV}:AV.j3 (.sl (.fr l) k xs)=true:=rfl
theorem Pf {cs:List AV}:AV.j3 (.agg cs)=false:=rfl
theorem Pg {cs:List AV}:AV.j3 (.bG cs)=false:=rfl
theorem Ph {q0 k0 o0 m0:Nat}:AV.j3 (.cE q0 k0 o0 m0)=true:=rfl
theorem Pj {q0 k0 m0 c0:Nat}:AV.j3 (.cK q0 k0 m0 c0)=true:=rfl
theorem Pm:AV.j3 (.eF)=true:=rfl
theorem To {eb:Bool}:AV.j3 (eB eb)=true:=by cases eb<;>rfl
theorem Tp {z:Value}:AV.flat (.v z)=true:=rfl
theorem Mh {k:IntKind} {i:Int}:AV.flat (.int k i)=true:=rfl
theorem J5 {b:Bool}:AV.flat (.bool b)=true:=rfl
theorem Mi {l:List UInt8}:AV.flat (.str l)=true:=rfl
theorem Mj {s o:Nat}:AV.flat (.ptr s o)=true:=rfl
theorem Pn {a:AV} {o:Nat}:AV.flat (.ep a o)=true:=rfl
theorem Po {f:Nat} {cs:List AV}:AV.flat (.fn f cs)=true:=rfl
theorem Pp:AV.flat (.un)=true:=rfl
theorem Pq {c:UInt8}:AV.flat (b8 c)=true:=rfl
theorem Pr {k:Nat} {xs:List AV}:AV.flat (.sl .n k xs)=true:=rfl
theorem Mk {k:Nat} {xs:List AV}:AV.flat (.sl .ex k xs)=true:=rfl
theorem J6 {k:Nat} {xs:List AV}:AV.flat (.sl .own k xs)=true:=rfl
theorem Ml {l:Loc} {k:Nat} {xs:List AV}:AV.flat (.sl (.fr l) k xs)=true:=rfl
theorem Mm {cs:List AV}:AV.flat (.agg cs)=false:=rfl
theorem Mn {cs:List AV}:AV.flat (.bG cs)=false:=rfl
theorem Mo {q0 k0 o0 m0:Nat}:AV.flat (.cE q0 k0 o0 m0)=true:=rfl
theorem Mp {q0 k0 m0 c0:Nat}:AV.flat (.cK q0 k0 m0 c0)=true:=rfl
theorem Mq:AV.flat (.eF)=true:=rfl
theorem Pt {eb:Bool}:AV.flat (eB eb)=true:=by cases eb<;>rfl
theorem aaC {z:Value}:AV.np (.v z)=true:=rfl
theorem Tq {k:IntKind} {i:Int}:AV.np (.int k i)=true:=rfl
theorem Pu {b:Bool}:AV.np (.bool b)=true:=rfl
theorem Tr {l:List UInt8}:AV.np (.str l)=true:=rfl
theorem Ts {s o:Nat}:AV.np (.ptr s o)=false:=rfl
theorem Xh {a:AV} {o:Nat}:AV.np (.ep a o)=true:=rfl
theorem Xi {f:Nat} {cs:List AV}:AV.np (.fn f cs)=cs.isEmpty:=rfl
theorem Xj:AV.np (.un)=true:=rfl
theorem Xk {c:UInt8}:AV.np (b8 c)=true:=rfl
theorem Xl {k:Nat} {xs:List AV}:AV.np (.sl .n k xs)=true:=rfl
theorem Tt {k:Nat} {xs:List AV}:AV.np (.sl .ex k xs)=true:=rfl
theorem Pv {k:Nat} {xs:List AV}:AV.np (.sl .own k xs)=true:=rfl
theorem Tu {l:Loc} {k:Nat} {xs:List AV}:AV.np (.sl (.fr l) k xs)=true:=rfl
theorem Tv {cs:List AV}:AV.np (.agg cs)=false:=rfl
theorem Tw {cs:List AV}:AV.np (.bG cs)=false:=rfl
theorem Tx {q0 k0 o0 m0:Nat}:AV.np (.cE q0 k0 o0 m0)=false:=rfl
theorem Ty {q0 k0 m0 c0:Nat}:AV.np (.cK q0 k0 m0 c0)=false:=rfl
theorem Tz:AV.np (.eF)=true:=rfl
theorem Xm {eb:Bool}:AV.np (eB eb)=true:=by cases eb<;>rfl
theorem Pw {z:Value}:AV.fB (.v z)=false:=rfl
theorem J7 {k:IntKind} {i:Int}:AV.fB (.int k i)=false:=rfl
theorem HJ {b:Bool}:AV.fB (.bool b)=false:=rfl
theorem J8 {l:List UInt8}:AV.fB (.str l)=false:=rfl
theorem J9 {s o:Nat}:AV.fB (.ptr s o)=false:=rfl
theorem Mr {a:AV} {o:Nat}:AV.fB (.ep a o)=false:=rfl
theorem Ms {f:Nat} {cs:List AV}:AV.fB (.fn f cs)=false:=rfl
theorem Mt:AV.fB (.un)=false:=rfl
theorem Mu {c:UInt8}:AV.fB (b8 c)=false:=rfl
theorem Mv {k:Nat} {xs:List AV}:AV.fB (.sl .n k xs)=false:=rfl
theorem Ka {k:Nat} {xs:List AV}:AV.fB (.sl .ex k xs)=false:=rfl
theorem HK {k:Nat} {xs:List AV}:AV.fB (.sl .own k xs)=false:=rfl
theorem Kb {l:Loc} {k:Nat} {xs:List AV}:AV.fB (.sl (.fr l) k xs)=false:=rfl
theorem Kc {cs:List AV}:AV.fB (.agg cs)=false:=rfl
theorem Kd {cs:List AV}:AV.fB (.bG cs)=true:=rfl
theorem Ke {q0 k0 o0 m0:Nat}:AV.fB (.cE q0 k0 o0 m0)=false:=rfl
theorem Kf {q0 k0 m0 c0:Nat}:AV.fB (.cK q0 k0 m0 c0)=false:=rfl
theorem Kg:AV.fB (.eF)=false:=rfl
theorem Mw {eb:Bool}:AV.fB (eB eb)=false:=by cases eb<;>rfl
theorem aaD {L:List Nat} {x:Ar} {z:Value}:cp L x (.v z)= .v z:=rfl
theorem TA {L:List Nat} {x:Ar} {k:IntKind} {i:Int}:cp L x (.int k i)= .int k i:=rfl
theorem Px {L:List Nat} {x:Ar} {b:Bool}:cp L x (.bool b)= .bool b:=rfl
theorem TB {L:List Nat} {x:Ar} {l:List UInt8}:cp L x (.str l)= .str l:=rfl
theorem TD {L:List Nat} {x:Ar} {s o:Nat}:cp L x (.ptr s o)= .ptr s o:=rfl
theorem Xn {L:List Nat} {x:Ar} {a:AV} {o:Nat}:cp L x (.ep a o)= .ep a o:=rfl
theorem Xo {L:List Nat} {x:Ar} {f:Nat} {cs:List AV}:cp L x (.fn f cs)= .fn f cs:=rfl
theorem Xp {L:List Nat} {x:Ar}:cp L x (.un)= .un:=rfl
theorem Xq {L:List Nat} {x:Ar} {c:UInt8}:cp L x (b8 c)=b8 c:=rfl
theorem Xr {L:List Nat} {x:Ar} {k:Nat} {xs:List AV}:cp L x (.sl .n k xs)= .sl .n k xs:=rfl
theorem TE {L:List Nat} {x:Ar} {k:Nat} {xs:List AV}:cp L x (.sl .ex k xs)= .sl .ex k xs:=rfl
theorem TF {L:List Nat} {x:Ar} {l:Loc} {k:Nat} {xs:List AV}:cp L x (.sl (.fr l) k xs)= .sl (.fr l) k xs:=rfl
theorem TG {L:List Nat} {x:Ar} {cs:List AV}:cp L x (.agg cs)= .agg (cs.map AV.bB):=rfl
theorem TH {L:List Nat} {x:Ar} {cs:List AV}:cp L x (.bG cs)= .bG (cs.map AV.bB):=rfl
theorem TI {L:List Nat} {x:Ar} {q0 k0 o0 m0:Nat}:cp L x (.cE q0 k0 o0 m0)= .cE q0 k0 o0 m0:=rfl
theorem TJ {L:List Nat} {x:Ar} {q0 k0 m0 c0:Nat}:cp L x (.cK q0 k0 m0 c0)= .cK q0 k0 m0 c0:=rfl
theorem TK {L:List Nat} {x:Ar}:cp L x (.eF)= .eF:=rfl
theorem Xs {L:List Nat} {x:Ar} {eb:Bool}:cp L x (eB eb)=eB eb:=by cases eb<;>rfl
theorem Xt {L:List Nat} {u k:Nat} {xs:List AV}:cp L (.t u) (.sl .own k xs)=if L.contains u then .sl (.fr (.tmp u)) k xs else .sl .n k xs:=rfl
theorem Xu {L:List Nat} {a:AV} {k:Nat} {xs:List AV}:cp L (.c a) (.sl .own k xs)= .sl .n k xs:=rfl
theorem Xv {P:Program} {L:List Nat} {N n0:Nat} {e:Env} {ah:AH} {t:List It} {Q:Exit→Env→AH→Prop} {r:List aQ} {d:Option Nat} {x:Ar} {z:Value}:lB P L N n0 e ah d r t Q x (.v z)=U P L N n0 (.ops r::t) Q .normal (aI L e d (cp L x (.v z))) ah:=rfl
theorem Py {P:Program} {L:List Nat} {N n0:Nat} {e:Env} {ah:AH} {t:List It} {Q:Exit→Env→AH→Prop} {r:List aQ} {d:Option Nat} {x:Ar} {k:IntKind} {i:Int}:lB P L N n0 e ah d r t Q x (.int k i)=U P L N n0 (.ops r::t) Q .normal (aI L e d (cp L x (.int k i))) ah:=rfl
theorem Mx {P:Program} {L:List Nat} {N n0:Nat} {e:Env} {ah:AH} {t:List It} {Q:Exit→Env→AH→Prop} {r:List aQ} {d:Option Nat} {x:Ar} {b:Bool}:lB P L N n0 e ah d r t Q x (.bool b)=U P L N n0 (.ops r::t) Q .normal (aI L e d (cp L x (.bool b))) ah:=rfl
theorem Pz {P:Program} {L:List Nat} {N n0:Nat} {e:Env} {ah:AH} {t:List It} {Q:Exit→Env→AH→Prop} {r:List aQ} {d:Option Nat} {x:Ar} {l:List UInt8}:lB P L N n0 e ah d r t Q x (.str l)=U P L N n0 (.ops r::t) Q .normal (aI L e d (cp L x (.str l))) ah:=rfl
theorem PA {P:Program} {L:List Nat} {N n0:Nat} {e:Env} {ah:AH} {t:List It} {Q:Exit→Env→AH→Prop} {r:List aQ} {d:Option Nat} {x:Ar} {s o:Nat}:lB P L N n0 e ah d r t Q x (.ptr s o)=U P L N n0 (.ops r::t) Q .normal (aI L e d (cp L x (.ptr s o))) ah:=rfl
theorem TL {P:Program} {L:List Nat} {N n0:Nat} {e:Env} {ah:AH} {t:List It} {Q:Exit→Env→AH→Prop} {r:List aQ} {d:Option Nat} {x:Ar} {a:AV} {o:Nat}:lB P L N n0 e ah d r t Q x (.ep a o)=U P L N n0 (.ops r::t) Q .normal (aI L e d (cp L x (.ep a o))) ah:=rfl
theorem TM {P:Program} {L:List Nat} {N n0:Nat} {e:Env} {ah:AH} {t:List It} {Q:Exit→Env→AH→Prop} {r:List aQ} {d:Option Nat} {x:Ar} {f:Nat} {cs:List AV}:lB P L N n0 e ah d r t Q x (.fn f cs)=U P L N n0 (.ops r::t) Q .normal (aI L e d (cp L x (.fn f cs))) ah:=rfl
theorem TN {P:Program} {L:List Nat} {N n0:Nat} {e:Env} {ah:AH} {t:List It} {Q:Exit→Env→AH→Prop} {r:List aQ} {d:Option Nat} {x:Ar}:lB P L N n0 e ah d r t Q x (.un)=U P L N n0 (.ops r::t) Q .normal (aI L e d (cp L x (.un))) ah:=rfl
theorem TO {P:Program} {L:List Nat} {N n0:Nat} {e:Env} {ah:AH} {t:List It} {Q:Exit→Env→AH→Prop} {r:List aQ} {d:Option Nat} {x:Ar} {c:UInt8}:lB P L N n0 e ah d r t Q x (b8 c)=U P L N n0 (.ops r::t) Q .normal (aI L e d (cp L x (b8 c))) ah:=rfl
theorem TP {P:Program} {L:List Nat} {N n0:Nat} {e:Env} {ah:AH} {t:List It} {Q:Exit→Env→AH→Prop} {r:List aQ} {d:Option Nat} {x:Ar} {k:Nat} {xs:List AV}:lB P L N n0 e ah d r t Q x (.sl .n k xs)=U P L N n0 (.ops r::t) Q .normal (aI L e d (cp L x (.sl .n k xs))) ah:=rfl
theorem PB {P:Program} {L:List Nat} {N n0:Nat} {e:Env} {ah:AH} {t:List It} {Q:Exit→Env→AH→Prop} {r:List aQ} {d:Option Nat} {x:Ar} {k:Nat} {xs:List AV}:lB P L N n0 e ah d r t Q x (.sl .ex k xs)=U P L N n0 (.ops r::t) Q .normal (aI L e d (cp L x (.sl .ex k xs))) ah:=rfl
theorem PD {P:Program} {L:List Nat} {N n0:Nat} {e:Env} {ah:AH} {t:List It} {Q:Exit→Env→AH→Prop} {r:List aQ} {d:Option Nat} {x:Ar} {l:Loc} {k:Nat} {xs:List AV}:lB P L N n0 e ah d r t Q x (.sl (.fr l) k xs)=U P L N n0 (.ops r::t) Q .normal (aI L e d (cp L x (.sl (.fr l) k xs))) ah:=rfl
theorem PF {P:Program} {L:List Nat} {N n0:Nat} {e:Env} {ah:AH} {t:List It} {Q:Exit→Env→AH→Prop} {r:List aQ} {d:Option Nat} {x:Ar} {cs:List AV}:lB P L N n0 e ah d r t Q x (.agg cs)=U P L N n0 (.ops r::t) Q .normal (aI L e d (cp L x (.agg cs))) ah:=rfl
theorem PG {P:Program} {L:List Nat} {N n0:Nat} {e:Env} {ah:AH} {t:List It} {Q:Exit→Env→AH→Prop} {r:List aQ} {d:Option Nat} {x:Ar} {cs:List AV}:lB P L N n0 e ah d r t Q x (.bG cs)=U P L N n0 (.ops r::t) Q .normal (aI L e d (cp L x (.bG cs))) ah:=rfl
theorem PI {P:Program} {L:List Nat} {N n0:Nat} {e:Env} {ah:AH} {t:List It} {Q:Exit→Env→AH→Prop} {r:List aQ} {d:Option Nat} {x:Ar} {q0 k0 o0 m0:Nat}:lB P L N n0 e ah d r t Q x (.cE q0 k0 o0 m0)=U P L N n0 (.ops r::t) Q .normal (aI L e d (cp L x (.cE q0 k0 o0 m0))) ah:=rfl
theorem PJ {P:Program} {L:List Nat} {N n0:Nat} {e:Env} {ah:AH} {t:List It} {Q:Exit→Env→AH→Prop} {r:List aQ} {d:Option Nat} {x:Ar} {q0 k0 m0 c0:Nat}:lB P L N n0 e ah d r t Q x (.cK q0 k0 m0 c0)=U P L N n0 (.ops r::t) Q .normal (aI L e d (cp L x (.cK q0 k0 m0 c0))) ah:=rfl
theorem PK {P:Program} {L:List Nat} {N n0:Nat} {e:Env} {ah:AH} {t:List It} {Q:Exit→Env→AH→Prop} {r:List aQ} {d:Option Nat} {x:Ar}:lB P L N n0 e ah d r t Q x (.eF)=U P L N n0 (.ops r::t) Q .normal (aI L e d (cp L x (.eF))) ah:=rfl
theorem TQ {P:Program} {L:List Nat} {N n0:Nat} {e:Env} {ah:AH} {t:List It} {Q:Exit→Env→AH→Prop} {r:List aQ} {d:Option Nat} {x:Ar} {eb:Bool}:lB P L N n0 e ah d r t Q x (eB eb)=U P L N n0 (.ops r::t) Q .normal (aI L e d (cp L x (eB eb))) ah:=by cases eb<;>rfl
theorem TR {P:Program} {L:List Nat} {N n0:Nat} {e:Env} {ah:AH} {t:List It} {Q:Exit→Env→AH→Prop} {r:List aQ} {d:Option Nat} {y k:Nat} {xs:List AV}:lB P L N n0 e ah d r t Q (.t y) (.sl .own k xs)=U P L N n0 (.ops r::t) Q .normal (aI L (put e y (.sl .n k xs)) d (.sl .own k xs)) ah:=rfl
theorem TS {P:Program} {L:List Nat} {N n0:Nat} {e:Env} {ah:AH} {t:List It} {Q:Exit→Env→AH→Prop} {r:List aQ} {d:Option Nat} {a:AV} {k:Nat} {xs:List AV}:lB P L N n0 e ah d r t Q (.c a) (.sl .own k xs)=U P L N n0 (.ops r::t) Q .normal (aI L e d (cp L (.c a) (.sl .own k xs))) ah:=rfl
theorem TT {L:List Nat} {e:Env} {ah:AH} {d:Option Nat} {a b:Ar}:Oj L e ah d a b (.bool true)=some (aI L e d (ev e a).sh,ah):=rfl
theorem TU {L:List Nat} {e:Env} {ah:AH} {d:Option Nat} {a b:Ar}:Oj L e ah d a b (.bool false)=some (aI L e d (ev e b).sh,ah):=rfl
theorem PL {L:List Nat} {e:Env} {ah:AH} {d:Option Nat} {s o:Nat}:VX L e ah d (.ptr s o)=some (aI L e d (.ptr s o),ah):=rfl
theorem TV {L:List Nat} {e:Env} {ah:AH} {d:Option Nat} {a:AV} {o:Nat}:VX L e ah d (.ep a o)=some (aI L e d (.ep a o),ah):=rfl
theorem PM {L:List Nat} {e:Env} {ah:AH} {d:Option Nat} {q s o:Nat}:VY L e ah d q (.ptr s o)=some (aI L e d (.ptr s (o+q)),ah):=rfl
theorem TW {L:List Nat} {e:Env} {ah:AH} {d:Option Nat} {q o:Nat} {a:AV}:VY L e ah d q (.ep a o)=some (aI L e d (.ep a (o+q)),ah):=rfl
theorem TX {L:List Nat} {e:Env} {ah:AH} {d:Option Nat} {n:Option Nat} {s o:Nat}:Jx L d n e ah (.ptr s o)=Z5 L d n s o e ah (ah[s]?):=rfl
theorem Xw {L:List Nat} {e:Env} {ah:AH} {d:Option Nat} {o:Nat} {a:AV}:Jx L d none e ah (.ep a o)=Sd L d e ah (a.cells[o]?):=rfl
theorem Xx {L:List Nat} {e:Env} {ah:AH} {d:Option Nat} {n o:Nat} {a:AV}:Jx L d (some n) e ah (.ep a o)=if o+n≤a.cells.length∧aX ((a.cells.drop o).take n) then some (aI L e d (.agg (((a.cells.drop o).take n).map AV.s1)),ah) else none:=rfl
theorem Xy {s1 o1:Nat} {z:Value}:eC s1 o1 (some (.v z))=some (AV.bB (.v z)):=rfl
theorem PN {s1 o1:Nat} {k:IntKind} {i:Int}:eC s1 o1 (some (.int k i))=some (AV.bB (.int k i)):=rfl
theorem My {s1 o1:Nat} {b:Bool}:eC s1 o1 (some (.bool b))=some (AV.bB (.bool b)):=rfl
theorem PO {s1 o1:Nat} {l:List UInt8}:eC s1 o1 (some (.str l))=some (AV.bB (.str l)):=rfl
theorem PR {s1 o1:Nat} {s o:Nat}:eC s1 o1 (some (.ptr s o))=some (AV.bB (.ptr s o)):=rfl
theorem TY {s1 o1:Nat} {a:AV} {o:Nat}:eC s1 o1 (some (.ep a o))=some (AV.bB (.ep a o)):=rfl
theorem TZ {s1 o1:Nat} {f:Nat} {cs:List AV}:eC s1 o1 (some (.fn f cs))=some (AV.bB (.fn f cs)):=rfl
theorem T0 {s1 o1:Nat}:eC s1 o1 (some (.un))=some (AV.bB (.un)):=rfl
theorem T3 {s1 o1:Nat} {c:UInt8}:eC s1 o1 (some (b8 c))=some (AV.bB (b8 c)):=rfl
theorem T4 {s1 o1:Nat} {k:Nat} {xs:List AV}:eC s1 o1 (some (.sl .n k xs))=some (AV.bB (.sl .n k xs)):=rfl
theorem PS {s1 o1:Nat} {k:Nat} {xs:List AV}:eC s1 o1 (some (.sl .ex k xs))=some (AV.bB (.sl .ex k xs)):=rfl
theorem PT {s o k:Nat} {xs:List AV}:eC s o (some (.sl .own k xs))=some (.sl (.fr (.cell s o)) k xs):=rfl
theorem PU {s1 o1:Nat} {l:Loc} {k:Nat} {xs:List AV}:eC s1 o1 (some (.sl (.fr l) k xs))=some (AV.bB (.sl (.fr l) k xs)):=rfl
theorem PV {s1 o1:Nat} {q0 k0 o0 m0:Nat}:eC s1 o1 (some (.cE q0 k0 o0 m0))=some (AV.bB (.cE q0 k0 o0 m0)):=rfl
theorem PW {s1 o1:Nat} {q0 k0 m0 c0:Nat}:eC s1 o1 (some (.cK q0 k0 m0 c0))=some (AV.bB (.cK q0 k0 m0 c0)):=rfl
theorem PX {s1 o1:Nat}:eC s1 o1 (some (.eF))=some (AV.bB (.eF)):=rfl
theorem T5 {s1 o1:Nat} {eb:Bool}:eC s1 o1 (some (eB eb))=some (AV.bB (eB eb)):=by cases eb<;>rfl
theorem aaE {L:List Nat} {e:Env} {ah:AH} {d:Option Nat} {ks:List Pk} {neq:Bool} {zq bs:List AV}:aby L e ah d ks neq (.agg zq) (.agg bs)=(cD ks zq bs).map fun b=>(aI L e d (.bool (if neq then !b else b)),ah):=rfl
theorem aaF {L:List Nat} {e:Env} {ah:AH} {d:Option Nat} {l:List UInt8} {k k2:IntKind} {i j:Int}:Rf L e ah d l (.int k i) (.int k2 j)=(sub l i j).map fun m=>(aI L e d (.str m),ah):=rfl
theorem aaG {L:List Nat} {e:Env} {ah:AH} {d:Option Nat} {q:Nat} {xs:List AV} {k k2:IntKind} {i j:Int}:Rg L e ah d q xs (.int k i) (.int k2 j)=(sub xs i j).map fun ys=>(aI L e d (.sl .n q ys),ah):=rfl
theorem Xz {L:List Nat} {e:Env} {ah:AH} {d:Option Nat} {q:Nat} {xs:List AV} {k k2 k3:IntKind} {i j m:Int}:FJ L e ah d q xs (.int k i) (.int k2 j) (.int k3 m)=(D3 xs i j m).map fun ys=>(aI L e d (.sl .ex q ys),ah):=rfl
theorem XA {L:List Nat} {e:Env} {ah:AH} {d:Option Nat} {k b:Nat} {x:Ar} {ys xs:List AV} {tg:Tg}:JF L e ah d k b x ys (.sl tg k xs)=FK L e ah d k x xs tg (fq b xs ys):=by simp [JF]
theorem XB {L:List Nat} {e:Env} {ah:AH} {d:Option Nat} {k:Nat} {x:Ar} {xs zs:List AV}:uD L e ah d k x xs zs .ex=some (aI L e d (.sl .own k zs),ah):=rfl
theorem T6 {L:List Nat} {e:Env} {ah:AH} {d:Option Nat} {k y:Nat} {xs zs:List AV}:uD L e ah d k (.t y) xs zs .own=some (aI L (put e y (.sl .n k xs)) d (.sl .own k zs),ah):=rfl
def aTt (L:List Nat) (e:Env) (ah:AH) (d:Option Nat) (k u:Nat) (zs:List AV):AV→Option (Env×AH)
 | .sl .own k' us=>if k'=k then some (aI L (put e u (.sl .n k' us)) d (.sl .own k zs),ah) else none
 |_=>none
def aTc (L:List Nat) (e:Env) (ah:AH) (d:Option Nat) (k s q:Nat) (zs cs:List AV):Option AV→Option (Env×AH)
 |some (.sl .own k' us)=>if k'=k then (over cs q [.sl .n k' us]).map fun cs=>(aI L e d (.sl .own k zs),ah.set s cs) else none
 |_=>none
def aTh (L:List Nat) (e:Env) (ah:AH) (d:Option Nat) (k s q:Nat) (zs:List AV):Option (List AV)→Option (Env×AH)
 |some cs=>aTc L e ah d k s q zs cs (cs[q]?)
 |none=>none
theorem aaH {L:List Nat} {e:Env} {ah:AH} {d:Option Nat} {k u:Nat} {x:Ar} {xs zs:List AV}:uD L e ah d k x xs zs (.fr (.tmp u))=aTt L e ah d k u zs (Am.get e u):=by simp only [uD];cases Am.get e u with|sl tg k2 us=>cases tg<;>rfl|_=>rfl
theorem aaI {L:List Nat} {e:Env} {ah:AH} {d:Option Nat} {k s q:Nat} {x:Ar} {xs zs:List AV}:uD L e ah d k x xs zs (.fr (.cell s q))=aTh L e ah d k s q zs (ah[s]?):=by simp only [uD];cases ah[s]? with|none=>rfl|some cs=>simp only [aTh];cases cs[q]? with|none=>rfl|some a=>cases a with|sl tg k2 us=>cases tg<;>rfl|_=>rfl
theorem ac5 {L:List Nat} {e:Env} {ah:AH} {d:Option Nat} {k u:Nat} {zs us:List AV}:aTt L e ah d k u zs (.sl .own k us)=some (aI L (put e u (.sl .n k us)) d (.sl .own k zs),ah):=by simp [aTt]
theorem ac6 {L:List Nat} {e:Env} {ah:AH} {d:Option Nat} {k s q:Nat} {zs cs:List AV}:aTh L e ah d k s q zs (some cs)=aTc L e ah d k s q zs cs (cs[q]?):=rfl
theorem ac7 {L:List Nat} {e:Env} {ah:AH} {d:Option Nat} {k s q:Nat} {zs cs us:List AV}:aTc L e ah d k s q zs cs (some (.sl .own k us))=(over cs q [.sl .n k us]).map fun cs=>(aI L e d (.sl .own k zs),ah.set s cs):=by simp [aTc]
theorem ac8:aX []=true:=rfl
theorem ac9 {a:AV} {r:List AV}:aX (a::r)=(a.flat&&aX r):=rfl
theorem ada:cy []=true:=rfl
theorem aeT {a:AV} {r:List AV}:cy (a::r)=(a.j3&&cy r):=rfl
theorem adb:gZ []=true:=rfl
theorem aeU {a:AV} {r:List AV}:gZ (a::r)=(a.np&&gZ r):=rfl
theorem aeV {t:Nat}:Am.get [] t= .un:=rfl
theorem aeW {i t:Nat} {a:AV} {r:Env}:Am.get ((i,a)::r) t=if i=t then a else Am.get r t:=rfl
theorem aeX {d:Nat} {a:AV}:put [] d a=[(d,a)]:=rfl
theorem aeY {i d:Nat} {a b:AV} {r:Env}:put ((i,b)::r) d a=if i=d then (d,a)::r else if d<i then (d,a)::(i,b)::r else (i,b)::put r d a:=rfl
theorem aeZ {L:List Nat}:keep L []=[]:=rfl
theorem ae0 {L:List Nat} {i:Nat} {a:AV} {r:Env}:keep L ((i,a)::r)=if L.contains i then (i,a)::keep L r else keep L r:=rfl
theorem ae1 {l:Loc}:mJ l []=[]:=rfl
theorem ae2 {l:Loc} {i:Nat} {a:AV} {r:Env}:mJ l ((i,a)::r)=(i,a.e8 l)::mJ l r:=rfl
theorem ae3:yo []=[]:=rfl
theorem ae4 {i:Nat} {a:AV} {r:Env}:yo ((i,a)::r)=(i,a.jZ)::yo r:=rfl
theorem ae5 {e:Env}:qK e none=e:=rfl
theorem ae6 {e:Env} {d:Nat}:qK e (some d)=put e d (.bG []):=rfl
theorem ae7 {L:List Nat} {e:Env} {a:AV}:aI L e none a=e:=rfl
theorem ae8 {L:List Nat} {e:Env} {d:Nat} {a:AV}:aI L e (some d) a=if L.contains d then (if a.bZ then put (mJ (.tmp d) e) d a else put e d a.df) else put e d a:=rfl
theorem ae9 {i:Nat}:fR i []=[]:=rfl
theorem afa {i:Nat} {a:AV} {r:List AV}:fR i (a::r)=(i,a)::fR (i+1) r:=rfl
theorem afb {k:IntKind} {i:Int}:IT k i= .int k i:=rfl
theorem afc {a b:Nat}:(Loc.tmp a=Loc.tmp b)=(a=b):=by simp
theorem afd {a b c d:Nat}:(Loc.cell a b=Loc.cell c d)=(a=c∧b=d):=by simp
theorem ade {a c d:Nat}:(Loc.tmp a=Loc.cell c d)=False:=by simp
theorem adf {a c d:Nat}:(Loc.cell c d=Loc.tmp a)=False:=by simp
def vX (e:Env) (ah:AH) (s p n:Nat) (x:Ar) (cs:List AV):AV→Option (Env×AH)
 | .sl .own k xs=>match x with
   | .t y=>if n=1 then (over cs p [.sl .own k xs]).map fun cs=>(mJ (.cell s p) (put e y (.sl .n k xs)),ah.set s cs) else none
   | .c a=>if (AV.sl .own k xs).cells.length=n∧cy (AV.sl .own k xs).cells then (over cs p ((AV.sl .own k xs).cells.map AV.bB)).map fun cs=>(e,ah.set s cs) else none
 |w=>if w.cells.length=n∧cy w.cells then (over cs p (w.cells.map AV.bB)).map fun cs=>(e,ah.set s cs) else none
def sth (e:Env) (ah:AH) (s p n:Nat) (x:Ar):Option (List AV)→Option (Env×AH)
 |some cs=>vX e ah s p n x cs (ev e x)
 |none=>none
def stK (e:Env) (ah:AH) (n:Nat) (x:Ar):AV→Option (Env×AH)
 | .ptr s p=>sth e ah s p n x (ah[s]?)
 |_=>none
theorem abI {P:Program} {L:List Nat} {N n0:Nat} {e:Env} {ah:AH} {t:List It} {Q:Exit→Env→AH→Prop} {r:List aQ} {d:Option Nat} {a x:Ar} {n:Nat} {g:Option (Nat×Bool)}:UG P L N n0 ⟨d, .st a x n,g⟩ r t Q e ah (some true)=US P L N n0 r t Q (stK e ah n x (ev e a)):=by
 simp only [UG,bR]
 congr 1
 cases ev e a with
 |ptr s p=>
  simp only [stK]
  cases ah[s]? with
  |none=>rfl
  |some cs=>
   simp only [sth]
   cases ev e x with
   |sl tg k xs=>cases tg<;>cases x<;>rfl
   |_=>rfl
 |_=>rfl
theorem adg {e:Env} {ah:AH} {s p n:Nat} {x:Ar}:stK e ah n x (.ptr s p)=sth e ah s p n x (ah[s]?):=rfl
theorem adh {e:Env} {ah:AH} {s p n:Nat} {x:Ar} {cs:List AV}:sth e ah s p n x (some cs)=vX e ah s p n x cs (ev e x):=rfl
theorem T7 {e:Env} {ah:AH} {s p n y k:Nat} {cs xs:List AV}:vX e ah s p n (.t y) cs (.sl .own k xs)=if n=1 then (over cs p [.sl .own k xs]).map fun cs=>(mJ (.cell s p) (put e y (.sl .n k xs)),ah.set s cs) else none:=rfl
theorem XC {e:Env} {ah:AH} {s p n:Nat} {x:Ar} {cs:List AV} {z:Value}:vX e ah s p n x cs (.v z)=if (AV.cells (.v z)).length=n∧cy (AV.cells (.v z)) then (over cs p ((AV.cells (.v z)).map AV.bB)).map fun cs=>(e,ah.set s cs) else none:=rfl
theorem PY {e:Env} {ah:AH} {s p n:Nat} {x:Ar} {cs:List AV} {k:IntKind} {i:Int}:vX e ah s p n x cs (.int k i)=if (AV.cells (.int k i)).length=n∧cy (AV.cells (.int k i)) then (over cs p ((AV.cells (.int k i)).map AV.bB)).map fun cs=>(e,ah.set s cs) else none:=rfl
theorem Mz {e:Env} {ah:AH} {s p n:Nat} {x:Ar} {cs:List AV} {b:Bool}:vX e ah s p n x cs (.bool b)=if (AV.cells (.bool b)).length=n∧cy (AV.cells (.bool b)) then (over cs p ((AV.cells (.bool b)).map AV.bB)).map fun cs=>(e,ah.set s cs) else none:=rfl
theorem PZ {e:Env} {ah:AH} {s p n:Nat} {x:Ar} {cs:List AV} {l:List UInt8}:vX e ah s p n x cs (.str l)=if (AV.cells (.str l)).length=n∧cy (AV.cells (.str l)) then (over cs p ((AV.cells (.str l)).map AV.bB)).map fun cs=>(e,ah.set s cs) else none:=rfl
theorem P0 {e:Env} {ah:AH} {s p n:Nat} {x:Ar} {cs:List AV} {s0 o:Nat}:vX e ah s p n x cs (.ptr s0 o)=if (AV.cells (.ptr s0 o)).length=n∧cy (AV.cells (.ptr s0 o)) then (over cs p ((AV.cells (.ptr s0 o)).map AV.bB)).map fun cs=>(e,ah.set s cs) else none:=rfl
theorem T8 {e:Env} {ah:AH} {s p n:Nat} {x:Ar} {cs:List AV} {a:AV} {o:Nat}:vX e ah s p n x cs (.ep a o)=if (AV.cells (.ep a o)).length=n∧cy (AV.cells (.ep a o)) then (over cs p ((AV.cells (.ep a o)).map AV.bB)).map fun cs=>(e,ah.set s cs) else none:=rfl
theorem T9 {e:Env} {ah:AH} {s p n:Nat} {x:Ar} {cs:List AV} {f:Nat} {ds:List AV}:vX e ah s p n x cs (.fn f ds)=if (AV.cells (.fn f ds)).length=n∧cy (AV.cells (.fn f ds)) then (over cs p ((AV.cells (.fn f ds)).map AV.bB)).map fun cs=>(e,ah.set s cs) else none:=rfl
theorem Ua {e:Env} {ah:AH} {s p n:Nat} {x:Ar} {cs:List AV} {c:UInt8}:vX e ah s p n x cs (b8 c)=if (AV.cells (b8 c)).length=n∧cy (AV.cells (b8 c)) then (over cs p ((AV.cells (b8 c)).map AV.bB)).map fun cs=>(e,ah.set s cs) else none:=rfl
theorem Ub {e:Env} {ah:AH} {s p n:Nat} {x:Ar} {cs:List AV} {k:Nat} {xs:List AV}:vX e ah s p n x cs (.sl .n k xs)=if (AV.cells (.sl .n k xs)).length=n∧cy (AV.cells (.sl .n k xs)) then (over cs p ((AV.cells (.sl .n k xs)).map AV.bB)).map fun cs=>(e,ah.set s cs) else none:=rfl
theorem P1 {e:Env} {ah:AH} {s p n:Nat} {x:Ar} {cs:List AV} {k:Nat} {xs:List AV}:vX e ah s p n x cs (.sl .ex k xs)=if (AV.cells (.sl .ex k xs)).length=n∧cy (AV.cells (.sl .ex k xs)) then (over cs p ((AV.cells (.sl .ex k xs)).map AV.bB)).map fun cs=>(e,ah.set s cs) else none:=rfl
theorem P2 {e:Env} {ah:AH} {s p n:Nat} {x:Ar} {cs:List AV} {l:Loc} {k:Nat} {xs:List AV}:vX e ah s p n x cs (.sl (.fr l) k xs)=if (AV.cells (.sl (.fr l) k xs)).length=n∧cy (AV.cells (.sl (.fr l) k xs)) then (over cs p ((AV.cells (.sl (.fr l) k xs)).map AV.bB)).map fun cs=>(e,ah.set s cs) else none:=rfl
theorem P3 {e:Env} {ah:AH} {s p n:Nat} {x:Ar} {cs:List AV} {ds:List AV}:vX e ah s p n x cs (.agg ds)=if (AV.cells (.agg ds)).length=n∧cy (AV.cells (.agg ds)) then (over cs p ((AV.cells (.agg ds)).map AV.bB)).map fun cs=>(e,ah.set s cs) else none:=rfl
theorem P4 {e:Env} {ah:AH} {s p n:Nat} {x:Ar} {cs:List AV} {q0 k0 o0 m0:Nat}:vX e ah s p n x cs (.cE q0 k0 o0 m0)=if (AV.cells (.cE q0 k0 o0 m0)).length=n∧cy (AV.cells (.cE q0 k0 o0 m0)) then (over cs p ((AV.cells (.cE q0 k0 o0 m0)).map AV.bB)).map fun cs=>(e,ah.set s cs) else none:=rfl
theorem P5 {e:Env} {ah:AH} {s p n:Nat} {x:Ar} {cs:List AV} {q0 k0 m0 c0:Nat}:vX e ah s p n x cs (.cK q0 k0 m0 c0)=if (AV.cells (.cK q0 k0 m0 c0)).length=n∧cy (AV.cells (.cK q0 k0 m0 c0)) then (over cs p ((AV.cells (.cK q0 k0 m0 c0)).map AV.bB)).map fun cs=>(e,ah.set s cs) else none:=rfl
theorem P6 {e:Env} {ah:AH} {s p n:Nat} {x:Ar} {cs:List AV}:vX e ah s p n x cs (.eF)=if (AV.cells (.eF)).length=n∧cy (AV.cells (.eF)) then (over cs p ((AV.cells (.eF)).map AV.bB)).map fun cs=>(e,ah.set s cs) else none:=rfl
theorem Uc {e:Env} {ah:AH} {s p n:Nat} {x:Ar} {cs:List AV} {eb:Bool}:vX e ah s p n x cs (eB eb)=if (AV.cells (eB eb)).length=n∧cy (AV.cells (eB eb)) then (over cs p ((AV.cells (eB eb)).map AV.bB)).map fun cs=>(e,ah.set s cs) else none:=by cases eb<;>rfl
theorem aaJ {c0:AV} {cs ws:List AV} {o:Nat}:over (c0::cs) o ws=if o+ws.length≤(c0::cs).length then some ((c0::cs).take o++ws++(c0::cs).drop (o+ws.length)) else none:=rfl
theorem afe {e:Env} {cs:List AV}:fill e cs []=some cs:=rfl
def XD (e:Env) (r:List (Nat×Nat×Ar)):Option (List AV)→Option (List AV)
 |some cs=>fill e cs r
 |none=>none
theorem aff {e:Env} {cs:List AV} {o n:Nat} {x:Ar} {r:List (Nat×Nat×Ar)}:fill e cs ((o,n,x)::r)=if (ev e x).cells.length=n∧cy (ev e x).cells then XD e r (over cs o ((ev e x).cells.map AV.bB)) else none:=by
 simp only [fill]
 split
 · cases over cs o ((ev e x).cells.map AV.bB)<;>rfl
 · rfl
theorem afg {e:Env} {cs:List AV} {r:List (Nat×Nat×Ar)}:XD e r (some cs)=fill e cs r:=rfl
theorem XE {P:Program} {L:List Nat} {N n0:Nat} {e:Env} {ah:AH} {t:List It} {Q:Exit→Env→AH→Prop} {r:List aQ} {d:Option Nat} {x:Ar} {g:Option (Nat×Bool)}:UG P L N n0 ⟨d, .len x,g⟩ r t Q e ah (some true)=US P L N n0 r t Q (Rj L e ah d (ev e x)):=by simp only [UG,bR];cases ev e x<;>rfl
theorem aaK {L:List Nat} {e:Env} {ah:AH} {d:Option Nat} {tg:Tg} {k:Nat} {xs:List AV}:Rj L e ah d (.sl tg k xs)=some (aI L e d (.int .i64 xs.length),ah):=rfl
theorem Rk {P:Program} {L:List Nat} {N n0:Nat} {e:Env} {ah:AH} {t:List It} {Q:Exit→Env→AH→Prop} {r:List aQ} {d:Option Nat} {x:Ar} {g:Option (Nat×Bool)}:UG P L N n0 ⟨d, .lens x,g⟩ r t Q e ah (some true)=US P L N n0 r t Q (Wu L e ah d (ev e x)):=by simp only [UG,bR];cases ev e x<;>rfl
theorem XF {L:List Nat} {e:Env} {ah:AH} {d:Option Nat} {l:List UInt8}:Wu L e ah d (.str l)=some (aI L e d (.int .i64 l.length),ah):=rfl
theorem XG {P:Program} {L:List Nat} {N n0:Nat} {e:Env} {ah:AH} {t:List It} {Q:Exit→Env→AH→Prop} {r:List aQ} {d:Option Nat} {x:Ar} {i:Nat} {g:Option (Nat×Bool)}:UG P L N n0 ⟨d, .ext x i,g⟩ r t Q e ah (some true)=US P L N n0 r t Q (Ww L e ah d i (ev e x)):=by simp only [UG,bR];cases ev e x with|bG cs=>simp only [Ww];cases cs[i]? <;>rfl|_=>rfl
theorem aaL {L:List Nat} {e:Env} {ah:AH} {d:Option Nat} {i:Nat} {cs:List AV}:Ww L e ah d i (.bG cs)=Wv L e ah d (cs[i]?):=rfl
theorem aaM {L:List Nat} {e:Env} {ah:AH} {d:Option Nat} {a:AV}:Wv L e ah d (some a)=some (aI L e d a.sh,ah):=rfl
theorem Rl {P:Program} {L:List Nat} {N n0:Nat} {e:Env} {ah:AH} {t:List It} {Q:Exit→Env→AH→Prop} {r:List aQ} {d:Option Nat} {x:Ar} {q:Nat} {n:Option Nat} {g:Option (Nat×Bool)}:UG P L N n0 ⟨d, .IB x q n,g⟩ r t Q e ah (some true)=US P L N n0 r t Q (JI L e ah d q n (ev e x)):=by
 simp only [UG,bR]
 cases ev e x with
 |agg cs=>
  cases n with
  |some n=>rfl
  |none=>simp only [JI];cases cs[q]? <;>rfl
 |_=>cases n<;>rfl
theorem adi {L:List Nat} {e:Env} {ah:AH} {d:Option Nat} {q:Nat} {cs:List AV}:JI L e ah d q none (.agg cs)=Om L e ah d (cs[q]?):=rfl
theorem adj {L:List Nat} {e:Env} {ah:AH} {d:Option Nat} {a:AV}:Om L e ah d (some a)=some (aI L e d a.bB,ah):=rfl
theorem adk {L:List Nat} {e:Env} {ah:AH} {d:Option Nat} {q n:Nat} {cs:List AV}:JI L e ah d q (some n) (.agg cs)=if q+n≤cs.length then some (aI L e d (.agg (((cs.drop q).take n).map AV.bB)),ah) else none:=rfl
theorem XH {P:Program} {L:List Nat} {N n0:Nat} {e:Env} {ah:AH} {t:List It} {Q:Exit→Env→AH→Prop} {r:List aQ} {d:Option Nat} {x:Ar} {n:Option Nat} {g:Option (Nat×Bool)}:UG P L N n0 ⟨d, .CT x n,g⟩ r t Q e ah (some true)=US P L N n0 r t Q (Wy L e ah d n (ev e x)):=by
 simp only [UG,bR]
 cases ev e x with
 |ep a p=>
  cases n with
  |some n=>rfl
  |none=>simp only [Wy,Jx,Sd];cases a.cells[p]? <;>rfl
 |_=>cases n<;>rfl
theorem adl {L:List Nat} {e:Env} {ah:AH} {d:Option Nat} {n:Option Nat} {a:AV} {p:Nat}:Wy L e ah d n (.ep a p)=Jx L d n e ah (.ep a p):=rfl
def WA0:=And.intro @Wz<|And.intro @On<|And.intro @LM<|And.intro @Oo<|And.intro @Oq<|And.intro @Sh<|And.intro @Si<|And.intro @Sj<|And.intro @Sk<|And.intro @Sl<|And.intro @Ot<|And.intro @LN<|And.intro @Ou<|And.intro @Ov<|And.intro @Ox<|And.intro @Oy<|And.intro @Oz<|And.intro @OA<|And.intro @Sm<|And.intro @aay<|And.intro @Sn<|And.intro @OB<|And.intro @So<|And.intro @Sp<|And.intro @WA<|And.intro @WC<|And.intro @WD<|And.intro @WI<|And.intro @WJ<|And.intro @Sq<|And.intro @OC<|And.intro @Sr<|And.intro @Ss<|And.intro @Su<|And.intro @Sv<|And.intro @Sw<|And.intro @Sx<|And.intro @WK<|And.intro @aaz<|And.intro @Sy<|And.intro @OD<|And.intro @Sz<|And.intro @SA<|And.intro @WN<|And.intro @WO<|And.intro @WQ<|And.intro @WR<|And.intro @WT<|And.intro @SB<|And.intro @OE<|And.intro @SC<|And.intro @SD<|And.intro @SE<|And.intro @SF<|And.intro @SG<|And.intro @SH<|And.intro @WX<|And.intro @aaA<|And.intro @SI<|@OF
def WA1:=And.intro @SJ<|And.intro @SK<|And.intro @WY<|And.intro @WZ<|And.intro @W0<|And.intro @W3<|And.intro @W4<|And.intro @SL<|And.intro @OG<|And.intro @SM<|And.intro @SN<|And.intro @SO<|And.intro @SP<|And.intro @SQ<|And.intro @SS<|And.intro @W5<|And.intro @aaB<|And.intro @SU<|And.intro @OH<|And.intro @SV<|And.intro @SW<|And.intro @W6<|And.intro @W7<|And.intro @W8<|And.intro @W9<|And.intro @Xa<|And.intro @SX<|And.intro @OI<|And.intro @SY<|And.intro @SZ<|And.intro @S0<|And.intro @S1<|And.intro @S3<|And.intro @S4<|And.intro @Xb<|And.intro @OJ<|And.intro @JJ<|And.intro @HF<|And.intro @JK<|And.intro @JL<|And.intro @LO<|And.intro @LP<|And.intro @LQ<|And.intro @LR<|And.intro @LS<|And.intro @JM<|And.intro @HG<|And.intro @JN<|And.intro @JO<|And.intro @JP<|And.intro @JQ<|And.intro @JR<|And.intro @JS<|And.intro @LU<|And.intro @Xc<|And.intro @OK<|And.intro @LV<|And.intro @OL<|And.intro @OM<|@S5
def WA2:=And.intro @S6<|And.intro @S7<|And.intro @S8<|And.intro @S9<|And.intro @ON<|And.intro @LW<|And.intro @OO<|And.intro @OP<|And.intro @OQ<|And.intro @OR<|And.intro @OS<|And.intro @OT<|And.intro @Ta<|And.intro @Tb<|And.intro @LX<|And.intro @JT<|And.intro @LY<|And.intro @LZ<|And.intro @OU<|And.intro @OV<|And.intro @OW<|And.intro @OX<|And.intro @OY<|And.intro @L0<|And.intro @JU<|And.intro @L1<|And.intro @L2<|And.intro @L3<|And.intro @L4<|And.intro @L5<|And.intro @L6<|And.intro @OZ<|And.intro @Xd<|And.intro @O0<|And.intro @L7<|And.intro @O1<|And.intro @O2<|And.intro @Tc<|And.intro @Td<|And.intro @Te<|And.intro @Tf<|And.intro @Th<|And.intro @O3<|And.intro @L8<|And.intro @O4<|And.intro @O5<|And.intro @O6<|And.intro @O7<|And.intro @O8<|And.intro @Ti<|And.intro @Xe<|And.intro @Xf<|And.intro @O9<|And.intro @JV<|And.intro @HH<|And.intro @JW<|And.intro @JX<|And.intro @L9<|And.intro @Ma<|@Mb
def WA3:=And.intro @Mc<|And.intro @Md<|And.intro @JY<|And.intro @HI<|And.intro @JZ<|And.intro @J0<|And.intro @J1<|And.intro @J2<|And.intro @J3<|And.intro @J4<|And.intro @Me<|And.intro @Xg<|And.intro @Pa<|And.intro @Mf<|And.intro @Pb<|And.intro @Pc<|And.intro @Tj<|And.intro @Tk<|And.intro @Tl<|And.intro @Tm<|And.intro @Tn<|And.intro @Pd<|And.intro @Mg<|And.intro @Pe<|And.intro @Pf<|And.intro @Pg<|And.intro @Ph<|And.intro @Pj<|And.intro @Pm<|And.intro @To<|And.intro @Tp<|And.intro @Mh<|And.intro @J5<|And.intro @Mi<|And.intro @Mj<|And.intro @Pn<|And.intro @Po<|And.intro @Pp<|And.intro @Pq<|And.intro @Pr<|And.intro @Mk<|And.intro @J6<|And.intro @Ml<|And.intro @Mm<|And.intro @Mn<|And.intro @Mo<|And.intro @Mp<|And.intro @Mq<|And.intro @Pt<|And.intro @aaC<|And.intro @Tq<|And.intro @Pu<|And.intro @Tr<|And.intro @Ts<|And.intro @Xh<|And.intro @Xi<|And.intro @Xj<|And.intro @Xk<|And.intro @Xl<|@Tt
def WA4:=And.intro @Pv<|And.intro @Tu<|And.intro @Tv<|And.intro @Tw<|And.intro @Tx<|And.intro @Ty<|And.intro @Tz<|And.intro @Xm<|And.intro @Pw<|And.intro @J7<|And.intro @HJ<|And.intro @J8<|And.intro @J9<|And.intro @Mr<|And.intro @Ms<|And.intro @Mt<|And.intro @Mu<|And.intro @Mv<|And.intro @Ka<|And.intro @HK<|And.intro @Kb<|And.intro @Kc<|And.intro @Kd<|And.intro @Ke<|And.intro @Kf<|And.intro @Kg<|And.intro @Mw<|And.intro @aaD<|And.intro @TA<|And.intro @Px<|And.intro @TB<|And.intro @TD<|And.intro @Xn<|And.intro @Xo<|And.intro @Xp<|And.intro @Xq<|And.intro @Xr<|And.intro @TE<|And.intro @TF<|And.intro @TG<|And.intro @TH<|And.intro @TI<|And.intro @TJ<|And.intro @TK<|And.intro @Xs<|And.intro @Xt<|And.intro @Xu<|And.intro @Xv<|And.intro @Py<|And.intro @Mx<|And.intro @Pz<|And.intro @PA<|And.intro @TL<|And.intro @TM<|And.intro @TN<|And.intro @TO<|And.intro @TP<|And.intro @PB<|And.intro @PD<|@PF
def WA5:=And.intro @PG<|And.intro @PI<|And.intro @PJ<|And.intro @PK<|And.intro @TQ<|And.intro @TR<|And.intro @TS<|And.intro @TT<|And.intro @TU<|And.intro @PL<|And.intro @TV<|And.intro @PM<|And.intro @TW<|And.intro @TX<|And.intro @Xw<|And.intro @Xx<|And.intro @Xy<|And.intro @PN<|And.intro @My<|And.intro @PO<|And.intro @PR<|And.intro @TY<|And.intro @TZ<|And.intro @T0<|And.intro @T3<|And.intro @T4<|And.intro @PS<|And.intro @PT<|And.intro @PU<|And.intro @PV<|And.intro @PW<|And.intro @PX<|And.intro @T5<|And.intro @aaE<|And.intro @aaF<|And.intro @aaG<|And.intro @Xz<|And.intro @XA<|And.intro @XB<|And.intro @T6<|And.intro @aaH<|And.intro @aaI<|And.intro @ac5<|And.intro @ac6<|And.intro @ac7<|And.intro @ac8<|And.intro @ac9<|And.intro @ada<|And.intro @aeT<|And.intro @adb<|And.intro @aeU<|And.intro @aeV<|And.intro @aeW<|And.intro @aeX<|And.intro @aeY<|And.intro @aeZ<|And.intro @ae0<|And.intro @ae1<|And.intro @ae2<|@ae3
def WA6:=And.intro @ae4<|And.intro @ae5<|And.intro @ae6<|And.intro @ae7<|And.intro @ae8<|And.intro @ae9<|And.intro @afa<|And.intro @afb<|And.intro @afc<|And.intro @afd<|And.intro @ade<|And.intro @adf<|And.intro @abI<|And.intro @adg<|And.intro @adh<|And.intro @T7<|And.intro @XC<|And.intro @PY<|And.intro @Mz<|And.intro @PZ<|And.intro @P0<|And.intro @T8<|And.intro @T9<|And.intro @Ua<|And.intro @Ub<|And.intro @P1<|And.intro @P2<|And.intro @P3<|And.intro @P4<|And.intro @P5<|And.intro @P6<|And.intro @Uc<|And.intro @aaJ<|And.intro @afe<|And.intro @aff<|And.intro @afg<|And.intro @XE<|And.intro @aaK<|And.intro @Rk<|And.intro @XF<|And.intro @XG<|And.intro @aaL<|And.intro @aaM<|And.intro @Rl<|And.intro @adi<|And.intro @adj<|And.intro @adk<|And.intro @XH<|@adl
end Go.Am
end
section
namespace Go.Am
open Go
variable [Tabs]
def zE (n:Nat) (i:Int):Option Nat:=if 0≤i∧i<n then some i.toNat else none
def FN {α:Type} (xs:List α) (j:Nat) (c:α):Option (List α):=if j<xs.length then some (xs.set j c) else none
section
variable {P:Program} {L:List Nat} {e:Env} {ah:AH} {d:Option Nat}
theorem aaN {xs:List UInt8} {j:Nat} {c:UInt8}:over (ml b8 xs) j [b8 c]=(FN xs j c).map (ml b8):=by
 unfold over FN ml
 simp only [List.length_map,List.length_cons,List.length_nil]
 by_cases h:j<xs.length
 · rw [if_pos (by omega),if_pos h]
   simp only [Option.map_some,Option.some.injEq,List.map_set]
   rw [List.set_eq_take_append_cons_drop,if_pos (by simpa using h)]
   simp
 · rw [if_neg (by omega),if_neg h];rfl
theorem adm {xs:List UInt8} {j:Nat}:(ml b8 xs)[j]? =(xs[j]?).map b8:=by simp [ml]
theorem afh {s n:Nat} {ki:IntKind} {i:Int}:BP L e ah d 1 (.cE s 1 0 n) (.int ki i)=(zE n i).map fun j=>(aI L e d (.ptr s j),ah):=by
 simp only [BP,zE,and_true]
 split<;>simp
theorem adn {s k o n:Nat}:Rj L e ah d (.cE s k o n)=some (aI L e d (.int .i64 n),ah):=rfl
theorem XI {h:Cv} {l:List UInt8}:FD L e ah d h (.str l)=(gh h (.str l)).map fun a=>(aI L e d a,ah):=rfl
theorem XJ {h:Cv} {k:IntKind} {i:Int}:FD L e ah d h (.int k i)=(gh h (.int k i)).map fun a=>(aI L e d a,ah):=rfl
theorem aaO {h:Cv} {c:UInt8}:FD L e ah d h (b8 c)=(gh h (b8 c)).map fun a=>(aI L e d a,ah):=rfl
theorem aaP {h:Cv} {t:Tg} {k:Nat} {xs:List AV}:FD L e ah d h (.sl t k xs)=(gh h (.sl t k xs)).map fun a=>(aI L e d a,ah):=rfl
theorem XK {s n:Nat}:FD L e ah d .bs (.cE s 1 0 n)=VZ L e ah d 0 n (ah[s]?):=rfl
theorem M_s {p n:Nat} {cs:List AV}:VZ L e ah d p n (some cs)=Q4 L e ah d p n cs:=rfl
theorem M_t {n:Nat} {xs:List UInt8}:Q4 L e ah d 0 n (ml b8 xs)=(sub xs 0 (n:Int)).map fun l=>(aI L e d (.str l),ah):=by
 unfold Q4 sub
 have hb:bytesOf (((ml b8 xs).drop 0).take n)=some (xs.take n):=by
  have:((ml b8 xs).drop 0).take n=(ml b8 (xs.take n)):=by simp [ml,List.map_take]
  rw [this];exact D2 _
 rw [hb]
 by_cases h:n≤xs.length
 · rw [if_pos (by simp [ml];exact h),if_pos (by omega)];simp
 · rw [if_neg (by simp [ml];omega),if_neg (by omega)];rfl
theorem M_o {l:List UInt8}:V0 L e ah d (.str l)=some (aI L e d (.cE ah.length 1 0 l.length),ah++[ml b8 l]):=rfl
theorem ado:NR .eF (.v .nilIface)=some false:=rfl
theorem adp:NR (.v .nilIface) (.v .nilIface)=some true:=rfl
theorem adq {b:Bool}:NR (eB b) (.v .nilIface)=some (!b):=by cases b<;>rfl
theorem adr {k:IntKind} {i j:Int}:Lb true (.int k i) (.int k j)=some (.int k (max i j)):=by simp [Lb]
theorem ads {k:IntKind} {i j:Int}:Lb false (.int k i) (.int k j)=some (.int k (min i j)):=by simp [Lb]
end
def WM:=And.intro @aaN<|And.intro @adm<|And.intro @afh<|And.intro @adn<|And.intro @XI<|And.intro @XJ<|And.intro @aaO<|And.intro @aaP<|And.intro @XK<|And.intro @M_s<|And.intro @M_t<|And.intro @M_o<|And.intro @ado<|And.intro @adp<|And.intro @adq<|And.intro @Bool.not_not<|And.intro @adr<|And.intro @ads<|And.intro @Z6<|And.intro @Z7<|And.intro @aez @aeA
theorem Wx.cE {s k o n:Nat}:Wx (.cE s k o n) (.cE s k o n):= .same (by simp)
theorem Wx.eF:Wx .eF .eF:= .same (by simp)
theorem Wx.epE {a b:AV} {o:Nat} (h:a=b):Wx (.ep a o) (.ep b o):=by subst h;exact Wx.ep
theorem Wx.err {b:Bool}:Wx (eB b) (eB b):= .same (by cases b<;>simp [eB])
end Go.Am
end
section
namespace Go.Am
open Go
variable [Tabs]
section
variable {P:Program} {L:List Nat} {N n0:Nat} {F:Nat→Prop} {γ:List Nat} {C:Nat→List Value} {e e':Env} {ah:AH} {ts:Array Value} {w:World} {Q K:Exit→Env→AH→Prop}
theorem SR.freeze (h:SR L N F γ C e ah ts w) {s:Nat} {cs ds:List AV} (hs:ah[s]? =some cs) (hne:cs≠[]) (hnp:gZ cs=true) (hw:gR cs ds)
 (he:∀t,get e' t=get e t∨∃o,get e t= .ptr s o∧get e' t= .ep (.agg ds) o):∃C',SR L N F γ C' e' (ah.set s []) ts w∧Ext F C w C' w:=by
 have hlt:s<γ.length:=by rw [h.mem.len];exact (List.getElem?_eq_some_iff.1 hs).1
 obtain ⟨b,hb⟩:∃b,γ[s]? =some b:=⟨_,List.getElem?_eq_getElem hlt⟩
 obtain ⟨vs,ty,hh,hsz,hcell⟩:=h.mem.obj s b cs hs hb
 have Lj:=h.mem.wP s b cs hs hne hb
 have BJ:blk γ e ah ts w (.obj s) b:=hb
 refine ⟨fun x=>if x=b then vs.toList else C x, ?_⟩
 generalize Ag:(fun x=>if x=b then vs.toList else C x)=C'
 have c0:C' b=vs.toList:=by rw [←Ag];simp
 have c1:∀x,x≠b→C' x=C x:=fun x hx=>by rw [←Ag];simp [hx]
 have hpre:∀x,C x <+: C' x:=by
  intro x
  by_cases hx:x=b
  · subst hx;rw [Lj];exact List.nil_prefix
  · rw [c1 x hx];exact List.prefix_refl _
 have hset:∀(s':Nat),s'≠s→(ah.set s [])[s']? =ah[s']? :=fun s' hn=>List.getElem?_set_ne (Ne.symm hn)
 have j7:(ah.set s [])[s]? =some []:=List.getElem?_set_self (by rw [←h.mem.len];exact hlt)
 have Ah:∀(s':Nat),γ[s']? =some b→s'=s:=fun s' hs'=>by
  have:=h.fc (.obj s') (.obj s) b hs' hb;injection this
 have hbk:∀p x,blk γ e' (ah.set s []) ts w p x→blk γ e ah ts w p x:=by
  intro p x hp
  cases p with
  |obj s'=>exact hp
  |cell s' i=>
   obtain ⟨ds,a,b0,h1,h2,h3,h4⟩:=hp
   by_cases hn:s'=s
   · subst hn;rw [j7] at h1;injection h1 with h1;subst h1;simp at h2
   · rw [hset s' hn] at h1;exact ⟨ds,a,b0,h1,h2,h3,h4⟩
  |tmp t=>
   simp only [blk] at hp ⊢
   rcases he t with h1|⟨o,h1,h2⟩
   · rwa [h1] at hp
   · rw [h2] at hp;simp [b7] at hp
 have qG:∀(a:AV) (v:Value),TC w C a v→(∀x,b7 a v=some x→x≠b)→TC w C' a v:=fun a v ht hn=>ht.mono fun x hx=>⟨rfl,c1 x (hn x hx)⟩
 refine ⟨⟨⟨by simp [h.mem.len],fun s' x ds h1 h2=> ?_,fun x hx=> ?_,fun s' x ds h1 h0 h2=> ?_,fun s' x ds us ty' fr h1 h2 h3=> ?_⟩,h.sz,fun t=> ?_,fun p q x hp hq=>h.fc p q x (hbk p x hp) (hbk q x hq),fun p x hp=>h.nf p x (hbk p x hp),h.mW,fun t l k xs ht=> ?_⟩,
  ⟨hpre,fun x hx=>⟨rfl,c1 x (fun e=>h.nf _ _ BJ (e▸hx))⟩,Nat.le_refl _,rfl,rfl,rfl⟩⟩
 · by_cases hn:s'=s
   · subst hn
     rw [j7] at h1;injection h1 with h1;subst h1
     rw [hb] at h2;injection h2 with h2;subst h2
     exact ⟨vs,ty,hh,by simp,by simp⟩
   · rw [hset s' hn] at h1
     obtain ⟨us,ty',g1,g2,g3⟩:=h.mem.obj s' x ds h1 h2
     refine ⟨us,ty',g1,g2,fun i a hi=>⟨(g3 i a hi).1.mono hpre _ (fun _ _ h=>h),qG _ _ (g3 i a hi).2 fun y hy e=> ?_⟩⟩
     subst e
     obtain ⟨v,hv, -, -⟩:=cellAt h.mem h1 hi h2
     have N1:v=us.getD i undef:=by
      have hlt:i<us.size:=Nat.lt_of_lt_of_le (List.getElem?_eq_some_iff.1 hi).1 g2
      rw [ek g1,Array.getElem?_eq_getElem hlt] at hv
      simp [Array.getD_eq_getD_getElem?,Array.getElem?_eq_getElem hlt,Option.some.inj hv]
     have:blk γ e ah ts w (.cell s' i) y:=⟨ds,a,x,h1,hi,h2,by rw [hv,N1];exact hy⟩
     have:=h.fc _ _ _ this BJ
     cases this
 · by_cases XL:x=b
   · subst XL;exact ⟨vs,ty.1,ty.2,hh,by rw [c0];exact List.prefix_refl _⟩
   · rw [c1 x XL] at hx ⊢;exact h.mem.ya x hx
 · have hn:s'≠s:=by
    rintro rfl
    rw [j7] at h1;injection h1 with h1;exact h0 h1.symm
   rw [hset s' hn] at h1
   rw [c1 x (fun e=>hn (Ah s' (e▸h2)))]
   exact h.mem.wP s' x ds h1 h0 h2
 · by_cases hn:s'=s
   · subst hn
     rw [j7] at h1;injection h1 with h1;subst h1
     intro i hi;simp at hi
   · rw [hset s' hn] at h1
     exact h.mem.Fh s' x ds us ty' fr h1 h2 h3
 · rcases he t with h1|⟨o,h1,h2⟩
   · rw [h1]
     refine ⟨(h.env t).1.mono hpre _ (fun _ _ h=>h),qG _ _ (h.env t).2 fun y hy e=> ?_⟩
     subst e
     have:=h.fc (.tmp t) (.obj s) y hy BJ
     cases this
   · have hv:=(h.env t).1
     rw [h1] at hv
     obtain ⟨b',hb',hv⟩:=hv.j4
     rw [hb] at hb';injection hb' with hb';subst hb'
     rw [h2,hv]
     refine ⟨?_,by trivial⟩
     have hep:=VR.ep (C:=C') γ (.agg ds) o b 0 (by rw [c0];simpa [AV.cells,hw.len] using hsz) (fun j a hj=>by
      have hj2:ds[j]? =some a:=hj
      have hjl:j<cs.length:=by rw [←hw.len];exact (List.getElem?_eq_some_iff.1 hj2).1
      have hj':cs[j]? =some cs[j]:=List.getElem?_eq_getElem hjl
      have:=(Wk.mL (hw.get j _ _ hj' hj2)).vr (((hcell j _ hj').1.np (vV hnp hj')).mono hpre [] (fun _ _ h=>h))
      rw [c0,Nat.zero_add]
      have e1:vs.toList.getD j undef=vs.getD j undef:=by simp [List.getD_eq_getElem?_getD,Array.getD_eq_getD_getElem?]
      rw [e1];exact this)
     rwa [Nat.zero_add] at hep
 · rcases he t with h1|⟨o,h1,h2⟩
   · have hf:=h.fr t l k xs (by rw [←h1];exact ht)
     cases l with
     |tmp u=>
      refine ⟨hf.1,fun hu=>hf.2 ?_⟩
      rcases he u with g1|⟨o,g1,g2⟩
      · rwa [g1] at hu
      · rw [g2] at hu;cases hu
     |cell s' o=>
      intro ds a x g1 g2 g3 g4
      by_cases hn:s'=s
      · subst hn;rw [j7] at g1;injection g1 with g1;subst g1;simp at g2
      · rw [hset s' hn] at g1;exact hf ds a x g1 g2 g3 g4
   · rw [h2] at ht;cases ht
theorem AW.freeze {c:Code} {s:Nat} {cs ds:List AV} (hs:ah[s]? =some cs) (hne:cs≠[]) (hnp:gZ cs=true) (hw:gR cs ds)
 (he:∀t,get e' t=get e t∨∃o,get e t= .ptr s o∧get e' t= .ep (.agg ds) o) (h:AW P L N n0 c Q e' (ah.set s [])):AW P L N n0 c Q e ah:=by
 intro F γ C ts w ni hn
 obtain ⟨C',h1,h2⟩:=ni.freeze hs hne hnp hw he
 refine wp_mono (h F γ C' ts w h1 hn) ?_
 rintro x a w' ⟨q1,q2,e2,uT,γ2,C2,q3,q4,q5,q6⟩
 exact ⟨q1,q2,e2,uT,γ2,C2,q3,q4,q5,h2.trans q6⟩
inductive FZ (s:Nat) (cs:List AV):Env→Env→Prop
 |nil:FZ s cs [] []
 |same (i:Nat) (a:AV) (r r':Env):FZ s cs r r'→FZ s cs ((i,a)::r) ((i,a)::r')
 |ep (i o:Nat) (r r':Env):FZ s cs r r'→FZ s cs ((i, .ptr s o)::r) ((i, .ep (.agg cs) o)::r')
theorem FZ.get {s:Nat} {cs:List AV} {e e':Env} (h:FZ s cs e e') (t:Nat):Am.get e' t=Am.get e t∨∃o,Am.get e t= .ptr s o∧Am.get e' t= .ep (.agg cs) o:=by
 induction h with
 |nil=>exact .inl rfl
 |same i a r r' _ ih=>
  simp only [Am.get]
  by_cases hi:i=t
  · simp [hi]
  · simpa [hi] using ih
 |ep i o r r' _ ih=>
  simp only [Am.get]
  by_cases hi:i=t
  · exact .inr ⟨o,by simp [hi],by simp [hi]⟩
  · simpa [hi] using ih
theorem AX.freeze {c:az} {s:Nat} {cs ds:List AV} (hs:ah[s]? =some cs) (hw:gR cs ds) (hne:cs≠[]) (hnp:gZ cs=true) (he:FZ s ds e e') (h:AX P L N n0 c K e' (ah.set s [])):AX P L N n0 c K e ah:=
 fun c' cz=>AW.freeze hs hne hnp hw he.get (h c' cz)
end
end Go.Am
end
