import Derived.Test.YtdigbcafimghdaaGreatDoorM1
import Derived.Scope
import Derived.Lib.SlBytesConst
import Derived.OrdersHeld
set_option linter.unusedSimpArgs false
set_option linter.unusedVariables false
set_option linter.unusedSectionVars false
set_option linter.defProp false
section
namespace Go.Am
open Go
variable [Tabs]
section
variable {P:Program} {L:List Nat} {N:Nat} {F:Nat→Prop} {γ:List Nat} {C C':Nat→List Value} {e:Env} {ah:AH} {ts:Array Value} {ds:List Deferred} {w w':World} {m:Bool}
variable {e':Env} {aH:AH}
def fH.oI:fH→Bool
 | .call _ _=>true
 | .mI _ _ _ _=>true
 | .nq _ _=>true
 |_=>false
theorem LY {o:Oper} {op:fH} (h:SR L N F γ C e ah ts w) (hd:∀x,o.dst=some x→x<N) (hc:cop P o=some op) (eU:op.oI=false)
 (hm:m=true∨((∀x n,op≠ .ld x n)∧∀x,op≠ .ec .bs x))
 (hev:bN L ⟨o.dst,op,none⟩ e ah=some (e',aH)):bA m P L N F γ C o ts ds w e' aH:=by
 obtain ⟨d,o,ty,pos,af,g⟩:=o
 simp only at hd hev
 cases o with
 |move x=>
  simp only [cop,Option.map_eq_some_iff] at hc
  obtain ⟨a,ha,rfl⟩:=hc
  simp only [bN,Option.some.injEq,Prod.mk.injEq] at hev
  obtain ⟨rfl,rfl⟩:=hev
  exact ZU h hd ha
 |assign x=>
  simp only [cop,Option.map_eq_some_iff] at hc
  obtain ⟨a,ha,rfl⟩:=hc
  exact W0 h hd ha hev
 |pick c a b=>
  simp only [cop] at hc
  split at hc
  · rename_i c' a' b' h1 h2 h3
    injection hc with hc;subst hc
    exact SJ h hd h1 h2 h3 hev
  · cases hc
 |alloc t=>
  simp only [cop,Option.map_eq_some_iff] at hc
  obtain ⟨a,ha,rfl⟩:=hc
  exact PM h hd ha hev
 |box t x=>
  simp only [cop,Option.map_eq_some_iff] at hc
  obtain ⟨a,ha,rfl⟩:=hc
  exact Xo h hd ha hev
 |build t parts=>
  simp only [cop] at hc
  split at hc
  case h_3=>cases hc
  case h_2=>
   rename_i mm el hu
   split at hc
   case h_2=>cases hc
   rename_i z ps hz hp
   split at hc
   case isFalse=>cases hc
   rename_i hall
   split at hc
   · rename_i js
     simp only [Option.map_eq_some_iff] at hc
     obtain ⟨z',hz',rfl⟩:=hc
     refine DS h hd hu hz hp hall ?_
     rw [←hev]
     simp only [bN]
     rw [Jv e ps z js,hz']
     rfl
   · injection hc with hc;subst hc
     exact DS h hd hu hz hp hall hev
  rename_i fs hu
  split at hc
  case h_2=>cases hc
  rename_i z ps hz hp
  split at hc
  case isFalse=>cases hc
  rename_i hall
  injection hc with hc;subst hc
  exact PU h hd hu hz hp hall hev
 |buildSlice t n parts=>
  simp only [cop] at hc
  split at hc
  case h_2=>cases hc
  rename_i el hel
  split at hc
  case isFalse=>cases hc
  rename_i hh
  obtain ⟨h1,h2,h3⟩:=hh
  simp only [Option.map_eq_some_iff] at hc
  obtain ⟨zq,ha,rfl⟩:=hc
  refine Xv h hd ?_ h1 h2 h3 ha hev
  unfold DF at hel
  split at hel
  · rename_i e hu;injection hel with hel;subst hel;exact hu
  · cases hel
 |load t x=>
  simp only [cop] at hc
  split at hc
  case isFalse=>cases hc
  rename_i ht
  simp only [Option.map_eq_some_iff] at hc
  obtain ⟨a,ha,rfl⟩:=hc
  obtain rfl:m=true:=hm.resolve_right (fun h=>h.1 _ _ rfl)
  exact ZW h hd ha ht hev
 |store t a x=>
  simp only [cop] at hc
  split at hc
  case h_2=>cases hc
  rename_i a' x' ha hx
  split at hc
  case isFalse=>cases hc
  rename_i ht
  simp only [Bool.and_eq_true,Option.isNone_iff_eq_none] at ht
  obtain ⟨ht,rfl⟩:=ht
  injection hc with hc;subst hc
  exact Z4 h ha hx ht hev
 |nilCheck x=>
  simp only [cop,Option.map_eq_some_iff] at hc
  obtain ⟨a,ha,rfl⟩:=hc
  exact W3 h hd ha hev
 |fieldAddr t x f=>
  simp only [cop] at hc
  split at hc
  case h_2=>cases hc
  rename_i x' fd hx hf
  split at hc
  case isTrue=>cases hc
  rename_i hs
  injection hc with hc;subst hc
  exact W4 h hd hx hf hs hev
 |field t x f=>
  simp only [cop] at hc
  split at hc
  case h_2=>cases hc
  rename_i x' fd hx hf
  split at hc
  case isFalse=>cases hc
  rename_i hs
  injection hc with hc;subst hc
  exact SL h hd hx hf hs hev
 |binOp Xx t x y pH=>
  simp only [cop] at hc
  split at hc
  case h_3=>cases hc
  case h_2=>
   rename_i x' hx hy
   split at hc
   · rename_i ms hu
     injection hc with hc;subst hc;exact S3 h hd hx hu rfl hev
   · rename_i ms hu
     injection hc with hc;subst hc;exact S3 h hd hx hu rfl hev
   · injection hc with hc;subst hc;cases eU
   · injection hc with hc;subst hc;cases eU
   · cases hc
  rename_i x' y' hx hy
  split at hc
  · rename_i fs hu
    split at hc
    case h_2=>cases hc
    rename_i ks hk
    split at hc
    · injection hc with hc;subst hc;exact OG h hd hx hy hu hk rfl hev
    · injection hc with hc;subst hc;exact OG h hd hx hy hu hk rfl hev
    · cases hc
  · injection hc with hc;subst hc;exact OE h hd hx hy hev
  · injection hc with hc;subst hc;exact OE h hd hx hy hev
  · rename_i hu
    split at hc
    · injection hc with hc;subst hc;exact SM h hd hx hy hu rfl hev
    · injection hc with hc;subst hc;exact SM h hd hx hy hu rfl hev
    · cases hc
  · rename_i u hu
    split at hc
    · injection hc with hc;subst hc;exact SN h hd hx hy hu rfl hev
    · injection hc with hc;subst hc;exact SN h hd hx hy hu rfl hev
    · cases hc
  · cases hc
 |unOp Xx t x=>
  simp only [cop,Option.map_eq_some_iff] at hc
  obtain ⟨a,ha,rfl⟩:=hc
  exact ZX h hd ha hev
 |convert s t x=>
  simp only [cop] at hc
  split at hc
  case h_2=>cases hc
  rename_i hh x' oJ hx
  injection hc with hc;subst hc
  exact Xp h hd hx oJ (hm.imp id fun q=>by rintro rfl;exact q.2 _ rfl) hev
 |makeFunc fn first cs=>
  cases fn with
  |func f=>
   simp only [cop] at hc
   split at hc
   case isFalse=>cases hc
   rename_i hf
   simp only [Option.map_eq_some_iff] at hc
   obtain ⟨a,ha,rfl⟩:=hc
   exact Xc h hd hf ha hev
  |_=>simp [cop] at hc
 |slice t x lo hi mx=>
  simp only [cop] at hc
  split at hc
  case h_2=>cases hc
  rename_i x' lo' hi' ZZ hx hlo hhi PL
  split at hc
  · rename_i hu
    split at hc
    · injection hc with hc;subst hc
      have:mx=none:=by
       cases mx with
       |none=>rfl
       |some y=>simp only [pE] at PL;cases hy:bJ y<;>rw [hy] at PL<;>simp at PL
      subst this
      exact Xk h hd hx hlo hhi hu hev
    · cases hc
  · rename_i el hu
    split at hc
    case isFalse=>cases hc
    rename_i ht
    injection hc with hc;subst hc
    exact Xl h hd hx hlo hhi PL hu ht hev
  · cases hc
 |indexAddr t x i=>
  simp only [cop] at hc
  split at hc
  case h_3=>cases hc
  case h_2=>
   rename_i x' i' hel hx hi
   split at hc
   case h_2=>cases hc
   rename_i mm el hu
   split at hc
   case isFalse=>cases hc
   rename_i ht
   injection hc with hc;subst hc
   exact Xh h hd hx hi hu ht hev
  rename_i el x' i' hel hx hi
  split at hc
  case isFalse=>cases hc
  rename_i ht
  injection hc with hc;subst hc
  unfold DF at hel
  split at hel
  · rename_i e hu;injection hel with hel;subst hel;exact Xg h hd hx hi hu ht hev
  · cases hel
 |index t x i=>
  simp only [cop] at hc
  split at hc
  case h_2=>cases hc
  rename_i x' i' hu hx hi
  injection hc with hc;subst hc
  exact Xf h hd hx hi hu hev
 |extract x i=>
  simp only [cop,Option.map_eq_some_iff] at hc
  obtain ⟨a,ha,rfl⟩:=hc
  exact Xd h hd ha hev
 |call c=>
  obtain ⟨callee,args,argTypes⟩:=c
  simp only [cop] at hc
  split at hc
  · rename_i x t h1 h2
    have e1:args= #[x]:=by rw [←Array.toArray_toList (xs:=args),h1]
    have e2:argTypes= #[t]:=by rw [←Array.toArray_toList (xs:=argTypes),h2]
    subst e1;subst e2
    split at hc
    · rename_i x' hu hx;injection hc with hc;subst hc;exact SP h hd hx hu hev
    · rename_i s x' hu hx;injection hc with hc;subst hc;exact Xe h hd hx hu hev
    · cases hc
  · rename_i x y t u h1 h2
    have e1:args= #[x,y]:=by rw [←Array.toArray_toList (xs:=args),h1]
    have e2:argTypes= #[t,u]:=by rw [←Array.toArray_toList (xs:=argTypes),h2]
    subst e1;subst e2
    split at hc
    case h_2=>cases hc
    rename_i x' y' _ _ hx hy
    split at hc
    case isFalse=>cases hc
    rename_i htu
    injection hc with hc;subst hc
    obtain ⟨rfl, -⟩:=htu
    exact S4 (mx:=true) h hd hx hy hev
  · rename_i x y t u h1 h2
    have e1:args= #[x,y]:=by rw [←Array.toArray_toList (xs:=args),h1]
    have e2:argTypes= #[t,u]:=by rw [←Array.toArray_toList (xs:=argTypes),h2]
    subst e1;subst e2
    split at hc
    case h_2=>cases hc
    rename_i x' y' _ _ hx hy
    split at hc
    case isFalse=>cases hc
    rename_i htu
    injection hc with hc;subst hc
    obtain ⟨rfl, -⟩:=htu
    exact S4 (mx:=false) h hd hx hy hev
  · rename_i x y t u h1 h2
    have e1:args= #[x,y]:=by rw [←Array.toArray_toList (xs:=args),h1]
    have e2:argTypes= #[t,u]:=by rw [←Array.toArray_toList (xs:=argTypes),h2]
    subst e1;subst e2
    split at hc
    case h_2=>cases hc
    rename_i el x' hel hx
    have ht:P.underlying t=some (.slice el):=by
     unfold DF at hel
     split at hel
     · rename_i e hu;injection hel with hel;subst hel;exact hu
     · cases hel
    split at hc
    · rename_i s y' hu hy
      split at hc
      case isFalse=>cases hc
      rename_i hz
      injection hc with hc;subst hc
      exact Xt h hd hx hy ht hu hz hev
    · rename_i y' hu hy
      split at hc
      case isFalse=>cases hc
      rename_i hz
      injection hc with hc;subst hc
      exact S7 h hd hx hy ht hu hz.2 hz.1 hev
    · cases hc
  · split at hc
    · injection hc with hc;subst hc;cases eU
    · cases hc
  · cases hc
 |_=>simp [cop] at hc
theorem Xy {o:Oper} {op:fH} (h:SR L N F γ C e ah ts w) (hd:∀x,o.dst=some x→x<N) (hc:dm P m o=some op) (eU:op.oI=false)
 (hev:bN L ⟨o.dst,op,none⟩ e ah=some (e',aH)):bA m P L N F γ C o ts ds w e' aH:=by
 cases m with
 |true=>exact LY h hd (by simpa [dm] using hc) eU (.inl rfl) hev
 |false=>
  simp only [dm,Bool.false_eq_true,if_false,Option.map_eq_some_iff] at hc
  obtain ⟨op',ho,rfl⟩:=hc
  by_cases zW:∃x,op'= .ec .bs x
  · obtain ⟨x,rfl⟩:=zW
    obtain ⟨d,oo,ty,pos,af,g⟩:=o
    cases oo with
    |convert s t y=>
     simp only [cop] at ho
     split at ho
     case h_2=>cases ho
     rename_i hh x' oJ hx
     injection ho with ho
     injection ho with e1 e2
     subst e1;subst e2
     exact SZ h hd hx oJ hev
    |makeFunc fn first cs=>
     cases fn with
     |func f=>simp only [cop] at ho;split at ho<;>simp at ho
     |_=>simp [cop] at ho
    |_=>
     exfalso
     simp only [cop] at ho
     first
      |cases ho;done
      |(simp at ho;done)
      |(repeat' (split at ho))<;>(first|(cases ho;done)|(simp at ho;done))
  by_cases hl:∃x n,op'= .ld x n
  · obtain ⟨x,n,rfl⟩:=hl
    obtain ⟨d,oo,ty,pos,af,g⟩:=o
    cases oo with
    |load t y=>
     simp only [cop] at ho
     split at ho
     case isFalse=>cases ho
     rename_i ht
     simp only [Option.map_eq_some_iff] at ho
     obtain ⟨a,ha,he⟩:=ho
     injection he with e1 e2
     subst e1;subst e2
     exact OD h hd ha ht hev
    |makeFunc fn first cs=>
     cases fn with
     |func f=>simp only [cop] at ho;split at ho<;>simp at ho
     |_=>simp [cop] at ho
    |_=>
     exfalso
     simp only [cop] at ho
     first
      |cases ho;done
      |(simp at ho;done)
      |(repeat' (split at ho))<;>(first|(cases ho;done)|(simp at ho;done))
  · have:op'.Ji=op':=by
     cases op' with
     |ld x n=>exact absurd ⟨_,_,rfl⟩ hl
     |ec hh x=>cases hh<;>first|rfl|exact absurd ⟨_,rfl⟩ zW
     |_=>rfl
    rw [this] at eU hev
    exact LY h hd ho eU (.inr ⟨fun x n he=>hl ⟨x,n,he⟩,fun x he=>zW ⟨x,he⟩⟩) hev
theorem Ti {o:Oper} {x':Ar} (hc:cop P o=some (.aY x')):∃x,o=⟨o.dst, .assign x,o.type,o.pos,o.after,o.guard⟩∧cW P o.type x=some x':=by
 obtain ⟨d,oo,ty,pos,af,g⟩:=o
 cases oo with
 |assign y=>
  simp only [cop,Option.map_eq_some_iff] at hc
  obtain ⟨a,ha,he⟩:=hc
  injection he with he
  subst he
  exact ⟨y,rfl,ha⟩
 |makeFunc fn first cs=>
  cases fn with
  |func f=>simp only [cop] at hc;split at hc<;>simp at hc
  |_=>simp [cop] at hc
 |_=>
  exfalso
  simp only [cop] at hc
  first
   |cases hc;done
   |(simp at hc;done)
   |(repeat' (split at hc))<;>(first|(cases hc;done)|(simp at hc;done))
theorem DT {o:Oper} {k b:Nat} {x' y':Ar} (hop:cop P o=some (.app k b x' y')):
 ∃x y t u el s,o=⟨o.dst, .call {callee:= .builtin .append,args:= #[x,y],argTypes:= #[t,u]},o.type,o.pos,o.after,o.guard⟩∧cW P t x=some x'∧cW P u y=some y'∧
  P.underlying t=some (.slice el)∧P.underlying u=some (.slice s)∧(zeroOf P el).map List.length=some (cA P el)∧k=cA P el∧b=GX P el:=by
 obtain ⟨d,oo,ty,pos,af,g⟩:=o
 cases oo with
 |call c=>
  obtain ⟨callee,args,argTypes⟩:=c
  simp only [cop] at hop
  split at hop
  · split at hop<;>simp at hop
  · split at hop
    · split at hop<;>simp at hop
    · cases hop
  · split at hop
    · split at hop<;>simp at hop
    · cases hop
  · rename_i x y t u h1 h2
    have e1:args= #[x,y]:=by rw [←Array.toArray_toList (xs:=args),h1]
    have e2:argTypes= #[t,u]:=by rw [←Array.toArray_toList (xs:=argTypes),h2]
    subst e1;subst e2
    split at hop
    case h_2=>cases hop
    rename_i el x2 hel hx
    have ht:P.underlying t=some (.slice el):=by
     unfold DF at hel
     split at hel
     · rename_i e hu;injection hel with hel;subst hel;exact hu
     · cases hel
    split at hop
    · rename_i s y2 hu hy
      split at hop
      case isFalse=>cases hop
      rename_i hz
      injection hop with hop
      injection hop with q1 q2 q3 q4
      subst q1;subst q2;subst q3;subst q4
      exact ⟨x,y,t,u,el,s,rfl,hx,hy,ht,hu,hz,rfl,rfl⟩
    · split at hop<;>simp at hop
    · cases hop
  · split at hop<;>simp at hop
  · cases hop
 |makeFunc fn first cs=>
  cases fn with
  |func f=>simp only [cop] at hop;split at hop<;>simp at hop
  |_=>simp [cop] at hop
 |_=>
  exfalso
  simp only [cop] at hop
  first
   |cases hop;done
   |(simp at hop;done)
   |(repeat' (split at hop))<;>(first|(cases hop;done)|(simp at hop;done))
theorem OK {o:Oper} {neq:Bool} {x':Ar} (hop:cop P o=some (.nq neq x')):
 ∃op t x pH el,o=⟨o.dst, .binOp op t x (.const (.slice none 0 0)) pH,o.type,o.pos,o.after,o.guard⟩∧bJ x=some x'∧P.underlying t=some (.slice el)∧op=if neq then .neq else .eql:=by
 obtain ⟨d,oo,ty,pos,af,g⟩:=o
 cases oo with
 |binOp op t x y pH=>
  simp only [cop] at hop
  split at hop
  case h_3=>cases hop
  case h_2=>
   rename_i x2 hx hy
   split at hop
   · cases hop
   · cases hop
   · rename_i el hu
     injection hop with hop;injection hop with h1 h2;subst h1;subst h2
     exact ⟨_,t,x,pH,el,rfl,hx,hu,rfl⟩
   · rename_i el hu
     injection hop with hop;injection hop with h1 h2;subst h1;subst h2
     exact ⟨_,t,x,pH,el,rfl,hx,hu,rfl⟩
   · cases hop
  exfalso
  (repeat' (split at hop))<;>(first|(cases hop;done)|(simp at hop;done))
 |makeFunc fn first cs=>
  cases fn with
  |func f=>simp only [cop] at hop;split at hop<;>simp at hop
  |_=>simp [cop] at hop
 |_=>
  exfalso
  simp only [cop] at hop
  first
   |cases hop;done
   |(simp at hop;done)
   |(repeat' (split at hop))<;>(first|(cases hop;done)|(simp at hop;done))
theorem Xz {op:fH} {n:Bool} {x:Ar} (h:op.Ji= .nq n x):op= .nq n x:=by
 cases op with
 |ec hh x=>cases hh<;>cases h
 |ld x n=>cases h
 |_=>exact h
theorem Tj {op:fH} {k b:Nat} {x y:Ar} (h:op.Ji= .app k b x y):op= .app k b x y:=by
 cases op with
 |ec hh x=>cases hh<;>cases h
 |ld x n=>cases h
 |_=>exact h
theorem Tk {op:fH} {x:Ar} (h:op.Ji= .aY x):op= .aY x:=by
 cases op with
 |ec hh x=>cases hh<;>cases h
 |ld x n=>cases h
 |_=>exact h
theorem Tl {o:Oper} {k:Nat} {zs:List Ar} (hop:cop P o=some (.jQ k zs)):
 ∃t n parts el,o=⟨o.dst, .buildSlice t n parts,o.type,o.pos,o.after,o.guard⟩∧P.underlying t=some (.slice el)∧parts.size=n∧n*cA P el≤16777216∧(zeroOf P el).isSome=true∧
  lM P el 0 parts.toList=some zs∧k=cA P el:=by
 obtain ⟨d,oo,ty,pos,af,g⟩:=o
 cases oo with
 |buildSlice t n parts=>
  simp only [cop] at hop
  split at hop
  case h_2=>cases hop
  rename_i el hel
  split at hop
  case isFalse=>cases hop
  rename_i hq
  have ht:P.underlying t=some (.slice el):=by
   unfold DF at hel
   split at hel
   · rename_i e hu;injection hel with hel;subst hel;exact hu
   · cases hel
  cases hc:lM P el 0 parts.toList with
  |none=>rw [hc] at hop;cases hop
  |some zs'=>
   rw [hc] at hop
   simp only [Option.map_some,Option.some.injEq,fH.jQ.injEq] at hop
   obtain ⟨rfl,rfl⟩:=hop
   exact ⟨t,n,parts,el,rfl,ht,hq.1,hq.2.1,hq.2.2,hc,rfl⟩
 |makeFunc fn first cs=>
  cases fn with
  |func f=>simp only [cop] at hop;split at hop<;>simp at hop
  |_=>simp [cop] at hop
 |call c=>
  obtain ⟨callee,args,tys⟩:=c
  simp only [cop] at hop
  (repeat' (split at hop))<;>(first|(cases hop;done)|(simp at hop;done))
 |_=>
  simp only [cop] at hop
  first
   |cases hop;done
   |(simp at hop;done)
   |(repeat' (split at hop))<;>(first|(cases hop;done)|(simp at hop;done))
theorem Tm {op:fH} {k:Nat} {zs:List Ar} (h:op.Ji= .jQ k zs):op= .jQ k zs:=by
 cases op with
 |ec hh x=>cases hh<;>cases h
 |ld x n=>cases h
 |_=>exact h
theorem PV {o:Oper} {k:Nat} {zs:List Ar} (hc:dm P m o=some (.jQ k zs)):cop P o=some (.jQ k zs):=by
 cases m with
 |true=>simpa [dm] using hc
 |false=>
  simp only [dm,Bool.false_eq_true,if_false,Option.map_eq_some_iff] at hc
  obtain ⟨op',ho,hE⟩:=hc
  rw [ho,Tm hE]
theorem Bo {o:Oper} {k b:Nat} {x y:Ar} (hc:dm P m o=some (.app k b x y)):cop P o=some (.app k b x y):=by
 cases m with
 |true=>simpa [dm] using hc
 |false=>
  simp only [dm,Bool.false_eq_true,if_false,Option.map_eq_some_iff] at hc
  obtain ⟨op',ho,hE⟩:=hc
  rw [ho,Tj hE]
theorem PW {o:Oper} {x:Ar} (hc:dm P m o=some (.aY x)):cop P o=some (.aY x):=by
 cases m with
 |true=>simpa [dm] using hc
 |false=>
  simp only [dm,Bool.false_eq_true,if_false,Option.map_eq_some_iff] at hc
  obtain ⟨op',ho,hE⟩:=hc
  rw [ho,Tk hE]
theorem Jw {o:Oper} {n:Bool} {x:Ar} (hc:dm P m o=some (.nq n x)):cop P o=some (.nq n x):=by
 cases m with
 |true=>simpa [dm] using hc
 |false=>
  simp only [dm,Bool.false_eq_true,if_false,Option.map_eq_some_iff] at hc
  obtain ⟨op',ho,hE⟩:=hc
  rw [ho,Xz hE]
theorem Ho {o:Oper} {n:Bool} {x:Ar} {K:Env→AH→Prop} (h:SR L N F γ C e ah ts w) (hd:∀x,o.dst=some x→x<N) (hc:dm P m o=some (fH.er (.nq n x)))
 (hk:DG L o.dst n x e ah K):∃e' aH,K e' aH∧bA m P L N F γ C o ts ds w e' aH:=by
 obtain ⟨op,t,x0,pH,el,ho,hx,hu,hop⟩:=OK (Jw hc)
 rw [ho]
 exact Z6 (d:=o.dst) h hd hx hu hop hk
theorem GD {o:Oper} {k b:Nat} {x y:Ar} {K:Env→AH→Prop} (h:SR L N F γ C e ah ts w) (hd:∀x,o.dst=some x→x<N) (hc:dm P m o=some (fH.er (.mI k b x y)))
 (hk:pz L o.dst k b x y e ah K):∃e' aH,K e' aH∧bA m P L N F γ C o ts ds w e' aH:=by
 obtain ⟨x0,y0,t,u,el,s,ho,hx,hy,ht,hu,hz,rfl,rfl⟩:=DT (Bo hc)
 rw [ho]
 exact Td (d:=o.dst) h hd hx hy ht hu hz hk
theorem Jx {o:Oper} {k:Nat} {x:Ar} (h:SR L N F γ C e ah ts w) (hd:∀x,o.dst=some x→x<N) (hc:dm P m o=some (fH.er (.Bi k x)))
 (hev:bN L ⟨o.dst, .Bi k x,none⟩ e ah=some (e',aH)):bA m P L N F γ C o ts ds w e' aH:=by
 obtain ⟨x0,ho,hx⟩:=Ti (PW hc)
 rw [ho]
 exact Xi (d:=o.dst) h hd hx hev
theorem GG {o:Oper} {k:Nat} {zs:List Ar} (h:SR L N F γ C e ah ts w) (hd:∀x,o.dst=some x→x<N) (hc:dm P m o=some (fH.er (.pn k zs)))
 (hev:bN L ⟨o.dst, .pn k zs,none⟩ e ah=some (e',aH)):bA m P L N F γ C o ts ds w e' aH:=by
 obtain ⟨t,n,parts,el,ho,ht,hn,hb,hz,hcs,rfl⟩:=Tl (PV hc)
 rw [ho]
 exact Th (d:=o.dst) h hd ht hn hb hz hcs hev
theorem GH {op:fH} {f:Ar} {zq:List Ar} (h:op.Ji= .call f zq):op= .call f zq:=by
 cases op with
 |ec hh x=>cases hh<;>cases h
 |ld x n=>cases h
 |_=>exact h
theorem acG {op:fH} {f:Ar} {zq:List Ar} (h:op.er= .call f zq):op= .call f zq:=by
 cases op with
 |uB x=>cases h
 |mI=>cases h
 |Bi=>cases h
 |pn=>cases h
 |_=>exact h
theorem Hp {o:Oper} {op:fH} (h:SR L N F γ C e ah ts w) (hd:∀x,o.dst=some x→x<N) (hc:cop P o=some op.er) (eU:op.oI=false)
 (hev:bN L ⟨o.dst,op,none⟩ e ah=some (e',aH)):bA true P L N F γ C o ts ds w e' aH:=by
 by_cases hx:∃x,op= .uB x
 · obtain ⟨x,rfl⟩:=hx
   obtain ⟨d,oo,ty,pos,af,g⟩:=o
   have hc:cop P ⟨d,oo,ty,pos,af,g⟩=some (.ec .sb x):=hc
   cases oo with
   |convert s t y=>
    simp only [cop] at hc
    split at hc
    case h_2=>cases hc
    rename_i hh x' oJ hx
    injection hc with hc
    injection hc with e1 e2
    subst e1;subst e2
    exact S0 h hd hx oJ hev
   |makeFunc fn first cs=>
    cases fn with
    |func f=>simp only [cop] at hc;split at hc<;>simp at hc
    |_=>simp [cop] at hc
   |_=>
    exfalso
    simp only [cop] at hc
    first
     |cases hc;done
     |(simp at hc;done)
     |(repeat' (split at hc))<;>(first|(cases hc;done)|(simp at hc;done))
 · by_cases hy:∃k x,op= .Bi k x
   · obtain ⟨k,x,rfl⟩:=hy
     exact Jx (m:=true) h hd (by simpa [dm] using hc) hev
   by_cases hz:∃k x,op= .pn k x
   · obtain ⟨k,x,rfl⟩:=hz
     exact GG (m:=true) h hd (by simpa [dm] using hc) hev
   have:op.er=op:=by
    cases op<;>first|rfl|exact absurd ⟨_,rfl⟩ hx|exact absurd ⟨_,_,rfl⟩ hy|exact absurd ⟨_,_,rfl⟩ hz|cases eU|rfl
   rw [this] at hc
   exact LY h hd hc eU (.inl rfl) hev
theorem Jy {o:Oper} {op:fH} (h:SR L N F γ C e ah ts w) (hd:∀x,o.dst=some x→x<N) (hc:dm P m o=some op.er) (eU:op.oI=false)
 (hev:bN L ⟨o.dst,op,none⟩ e ah=some (e',aH)):bA m P L N F γ C o ts ds w e' aH:=by
 cases m with
 |true=>exact Hp h hd (by simpa [dm] using hc) eU hev
 |false=>
  by_cases hx:∃x,op= .uB x
  · obtain ⟨x,rfl⟩:=hx
    simp only [dm,Bool.false_eq_true,if_false,Option.map_eq_some_iff] at hc
    obtain ⟨op',ho,hE⟩:=hc
    have hE:op'.Ji= .ec .sb x:=hE
    have:op'= .ec .sb x:=by
     cases op' with
     |ec hh y=>cases hh<;>first|exact hE|cases hE
     |ld y n=>cases hE
     |_=>exact hE
    subst this
    obtain ⟨v,w',γ',C',h1,h2,h3,h4,h5,h6⟩:=Hp (op:= .uB x) (ds:=ds) h hd ho rfl hev
    refine ⟨v,w',γ',C',h1,h2,h3,h4,h5,fun hq=> ?_⟩
    exfalso
    obtain ⟨d,oo,ty,pos,af,g⟩:=o
    cases oo with
    |convert s t y=>
     simp only [cop] at ho
     split at ho
     case h_2=>cases ho
     rename_i hh x' oJ hx
     injection ho with ho
     injection ho with e1 e2
     subst e1
     unfold G0 at oJ
     split at oJ
     · cases oJ
     · cases oJ
     · rename_i el hs ht
       simp [dR,ht] at hq
     · split at oJ
       · split at oJ<;>cases oJ
       · cases oJ
     · cases oJ
    |makeFunc fn first cs=>
     cases fn with
     |func f=>simp only [cop] at ho;split at ho<;>simp at ho
     |_=>simp [cop] at ho
    |_=>
     simp only [cop] at ho
     first
      |cases ho;done
      |(simp at ho;done)
      |(repeat' (split at ho))<;>(first|(cases ho;done)|(simp at ho;done))
  · by_cases hy:∃k x,op= .Bi k x
    · obtain ⟨k,x,rfl⟩:=hy
      exact Jx h hd hc hev
    by_cases hz:∃k x,op= .pn k x
    · obtain ⟨k,x,rfl⟩:=hz
      exact GG h hd hc hev
    have:op.er=op:=by
     cases op<;>first|rfl|exact absurd ⟨_,rfl⟩ hx|exact absurd ⟨_,_,rfl⟩ hy|exact absurd ⟨_,_,rfl⟩ hz|cases eU|rfl
    rw [this] at hc
    exact Xy h hd hc eU hev
theorem vQ (L:List Nat) (d:Option Nat) (op:fH) (g:Option (Nat×Bool)) (e:Env) (ah:AH):bN L ⟨d,op,g⟩ e ah=bN L ⟨d,op,none⟩ e ah:=by
 cases op<;>rfl
def jt (P:Program) (f:Nat):Bool:=match P.funcs[f]? with
 |some fn=>fn.body.isSome&&fn.name != "runtime.NumGoroutine"
 |none=>false
def fm:Nat→List AV→Env
 |_,[]=>[]
 |i,a::r=>(i,a)::fm (i+1) r
theorem eC:∀(l:List AV) (i t:Nat),get (fm i l) t=if i≤t then (l[t - i]?).getD .un else .un:=by
 intro l
 induction l with
 |nil=>intro i t;simp [fm,get]
 |cons a r ih=>
  intro i t
  simp only [fm,get]
  by_cases h:i=t
  · subst h;simp
  · rw [if_neg h,ih]
    by_cases h1:i≤t
    · obtain ⟨q,hq⟩:∃q,t - i=q+1:=⟨t - i - 1,by omega⟩
      rw [if_pos h1,if_pos (by omega),hq,show t - (i+1)=q by omega];simp
    · rw [if_neg h1,if_neg (by omega)]
def aG (P:Program) (f:Nat) (args:List AV) (ah:AH) (R:AV→AH→Prop):Prop:=
 jt P f=true∧∀(F:Nat→Prop) (γ:List Nat) (C:Nat→List Value) (w:World) (vs:Array Value),SR [] args.length F γ C (fm 0 args) ah vs w→
  Calls P f vs w fun en w'=>∃r v aH γ' C',en= .returned v∧R r aH∧γ <+: γ'∧SR [] 1 F γ' C' [(0,r)] aH #[v] w'∧Ext F C w C' w'
theorem aG.mono {f:Nat} {args:List AV} {ah:AH} {R R':AV→AH→Prop} (h:aG P f args ah R) (hr:∀r aH,R r aH→R' r aH):aG P f args ah R':=
 ⟨h.1,fun F γ C w vs hs=>(h.2 F γ C w vs hs).mono fun _ _ ⟨r,v,aH,γ',C',h1,h2,h3⟩=>⟨r,v,aH,γ',C',h1,hr _ _ h2,h3⟩⟩
def AV.iY:AV→AV
 | .sl (.fr (.cell _ _)) k xs=> .sl .n k xs
 |a=>a
def vR:Env→Env
 |[]=>[]
 |(i,a)::r=>(i,a.iY)::vR r
theorem zX (e:Env) (t:Nat):get (vR e) t=(get e t).iY:=by
 induction e with
 |nil=>rfl
 |cons p r ih=>
  obtain ⟨i,b⟩:=p
  simp only [vR,get]
  by_cases h:i=t<;>simp [h,ih]
theorem Wk.iY (a:AV):Wk a a.iY:=by
 cases a with
 |sl t k xs=>
  cases t with
  |fr m=>cases m<;>first|exact .n .. |exact .same _
  |_=>exact .same _
 |_=>exact .same _
theorem Tn (a:AV):a.iY.bT=a.bT:=by
 cases a with
 |sl t k xs=>
  cases t with
  |fr m=>cases m<;>rfl
  |_=>rfl
 |_=>rfl
theorem PX (a:AV) (v:Value):bR a.iY v=bR a v:=by
 cases a with
 |sl t k xs=>
  cases t with
  |fr m=>cases m<;>simp [AV.iY,bR]
  |_=>rfl
 |_=>rfl
theorem XA {a:AV} {l:Loc} {k:Nat} {xs:List AV} (h:a.iY= .sl (.fr l) k xs):a= .sl (.fr l) k xs∧∃t,l= .tmp t:=by
 cases a with
 |sl t k' xs'=>
  cases t with
  |fr m=>cases m with
   |tmp u=>simp only [AV.iY] at h;exact ⟨h,u,by injection h with h;injection h with h;exact h.symm⟩
   |cell s o=>simp [AV.iY] at h
  |_=>simp [AV.iY] at h
 |_=>simp [AV.iY] at h
theorem Jz {f:Nat} {zq:List AV} {vs:Array Value} {R:AV→AH→Prop} {d:Option Nat} (h:SR L N F γ C e ah ts w) (hd:∀x,d=some x→x<N) (hac:aG P f zq ah R)
 (hlen:vs.size=zq.length) (has:∀(i:Nat) (a:AV),zq[i]? =some a→VR C γ a (vs.getD i undef)∧TC w C a (vs.getD i undef)∧a.plain=true):
 Calls P f vs w fun en w'=>∃r v aH γ' C',en= .returned v∧R r aH∧γ <+: γ'∧SR L N F γ' C' (Am.aI L (vR e) d r.df) aH (Act.put ⟨ts,ds⟩ d v).tmps w'∧Ext F C w C' w':=by
 let F':Nat→Prop:=fun b=>F b∨∃t,blk γ e ah ts w (.tmp t) b
 have PY:∀t,get (fm 0 zq) t=(zq[t]?).getD .un:=fun t=>by rw [eC];simp
 have hnot:∀t,(get (fm 0 zq) t).bT=false:=by
  intro t
  rw [PY]
  cases ht:zq[t]? with
  |none=>rfl
  |some a=>exact hO (has t a ht).2.2
 have hsub:∀p b,blk γ (fm 0 zq) ah vs w p b→blk γ e ah ts w p b∧∀t,p≠ .tmp t:=by
  intro p b hp
  cases p with
  |obj s=>exact ⟨hp,by simp⟩
  |cell s i=>exact ⟨hp,by simp⟩
  |tmp t=>simp only [blk] at hp;rw [iI _ (hnot t)] at hp;cases hp
 have hs:SR [] zq.length F' γ C (fm 0 zq) ah vs w:=by
  refine ⟨h.mem,hlen,fun t=> ?_,fun p q b hp hq=>h.dF p q b (hsub p b hp).1 (hsub q b hq).1,fun p b hp=> ?_,⟨fun b hb=> ?_,fun e he=>by obtain ⟨h1,h2⟩:=h.jV.Jk e he;exact ⟨.inl h1,h2⟩⟩,fun t l k xs ht=> ?_⟩
  · rw [PY]
    cases ht:zq[t]? with
    |none=>exact ⟨.un ..,by cases vs.getD t undef<;>trivial⟩
    |some a=>exact ⟨(has t a ht).1,(has t a ht).2.1⟩
  · rintro (hF|⟨t,ht⟩)
    · exact h.nf p b (hsub p b hp).1 hF
    · exact (hsub p b hp).2 t (h.dF p (.tmp t) b (hsub p b hp).1 ht)
  · rcases hb with hF|⟨t,ht⟩
    · exact h.jV.lt b hF
    · exact gh h ht
  · rw [PY] at ht
    cases hq:zq[t]? with
    |none=>rw [hq] at ht;simp at ht
    |some a=>rw [hq] at ht;exact absurd ht (wY (has t a hq).2.2 l k xs)
 refine (hac.2 F' γ C w vs hs).mono ?_
 rintro en w' ⟨r,v,aH,γ',C',rfl,hR,hγ,kP,hx⟩
 refine ⟨r,v,aH,γ',C',rfl,hR,hγ, ?_,⟨hx.pre,fun b hb=>hx.keep b (.inl hb),hx.size,hx.out⟩⟩
 have hg:∀(s b:Nat),γ[s]? =some b→γ'[s]? =some b:=by
  intro s b hs
  obtain ⟨q,rfl⟩:=hγ
  rw [List.getElem?_append_left (List.getElem?_eq_some_iff.1 hs).1];exact hs
 have hown:∀t b,bR (get e t) (ts.getD t undef)=some b→F' b:=fun t b hb=> .inr ⟨t,hb⟩
 have hbk:∀p b,blk γ' (vR e) aH ts w' p b→(∃t,p= .tmp t∧blk γ e ah ts w (.tmp t) b)∨((∀t,p≠ .tmp t)∧blk γ' [(0,r)] aH #[v] w' p b):=by
  intro p b hp
  cases p with
  |obj s=>exact .inr ⟨by simp,hp⟩
  |cell s i=>exact .inr ⟨by simp,hp⟩
  |tmp t=>simp only [blk,zX,PX] at hp;exact .inl ⟨t,rfl,hp⟩
 have h2:SR L N F γ' C' (vR e) aH ts w':=by
  refine ⟨kP.mem,h.sz,fun t=> ?_,fun p q b hp hq=> ?_,fun p b hp=> ?_,h.jV.keep hx.size (fun b hb=>(hx.keep b (.inl hb)).1),fun t l k xs ht=> ?_⟩
  · rw [zX]
    refine ⟨(Wk.iY _).vr ((h.env t).1.mono hx.pre _ hg),(Wk.iY _).tc ((h.env t).2.mono fun b hb=> ?_)⟩
    exact hx.keep b (hown t b hb)
  · rcases hbk p b hp with ⟨t,rfl,h1⟩|⟨h1,h2⟩<;>rcases hbk q b hq with ⟨u,rfl,h3⟩|⟨h3,h4⟩
    · exact h.dF _ _ b h1 h3
    · exact absurd (hown t b h1) (kP.nf q b h4)
    · exact absurd (hown u b h3) (kP.nf p b h2)
    · exact kP.dF p q b h2 h4
  · rcases hbk p b hp with ⟨t,rfl,h1⟩|⟨h1,h2⟩
    · exact h.nf _ b h1
    · exact fun hF=>kP.nf p b h2 (.inl hF)
  · rw [zX] at ht
    obtain ⟨h1,u,rfl⟩:=XA ht
    have:=h.fr t _ k xs h1
    exact ⟨this.1,fun hu=>this.2 (by rw [zX,Tn] at hu;exact hu)⟩
 have hr:=kP.env 0
 simp only [get,if_true] at hr
 have hv0:(#[v]:Array Value).getD 0 undef=v:=rfl
 rw [hv0] at hr
 by_cases ho:r.bT=true
 · cases r with
   |sl t k xs=>
    cases t with
    |own=>
     simp only [AV.df]
     refine h2.sQ hd hr.1 hr.2 fun b hb=> ?_
     have hb0:blk γ' [(0, .sl .own k xs)] aH #[v] w' (.tmp 0) b:=hb
     refine ⟨fun hF=>kP.nf _ b hb0 (.inl hF),fun p hp=> ?_⟩
     rcases hbk p b hp with ⟨t,rfl,h1⟩|⟨h1,h3⟩
     · exact kP.nf _ b hb0 (hown t b h1)
     · exact h1 0 (kP.dF p (.tmp 0) b h3 hb0)
    |_=>cases ho
   |_=>cases ho
 · have ho':r.bT=false:=by simpa using ho
   exact h2.aI hd ((Wk.df r).vr hr.1) ((Wk.df r).tc hr.2) (OC ho') (fun l k xs hl=>absurd hl (LP r l k xs))
end
end Go.Am
end
section
namespace Go.Am
open Go
variable [Tabs]
def zY (P:Program) (L:List Nat) (o:aQ) (e:Env) (ah:AH) (K:Env→AH→Prop):Prop:=
 match o.op with
 | .call f zq=>
   match ev e f with
   | .fn f caps=>bZ caps=true∧aG P f (zq.map (fun x=>(ev e x).sh)++caps.map AV.s1) ah fun r aH=>K (aI L (vR e) o.d r.df) aH
   |_=>False
 | .mI k b x y=>pz L o.d k b x y e ah K
 | .nq n x=>DG L o.d n x e ah K
 |_=>match bN L o e ah with
  |some (e',aH)=>K e' aH
  |none=>False
def pK (e:Env):Option Nat→Env
 |some d=>put e d (.bK [])
 |none=>e
def ey (P:Program) (L:List Nat):List aQ→Env→AH→(Env→AH→Prop)→Prop
 |[],e,ah,K=>K e ah
 |o::r,e,ah,K=>match gI e o with
  |some true=>zY P L o e ah fun e ah=>ey P L r e ah K
  |some false=>ey P L r (pK e o.d) ah K
  |none=>False
def lE (N:Nat):List aQ→Bool
 |[]=>true
 |o::r=>(match o.d with|some d=>decide (d<N)|none=>true)&&(match o.op with| .lit y _=>decide (y<N)|_=>true)&&lE N r
theorem OL (N:Nat):∀zq:List aQ,lE N (zq.map aQ.er)=lE N zq:=by
 intro zq
 induction zq with
 |nil=>rfl
 |cons o r ih=>
  obtain ⟨d,op,g⟩:=o
  simp only [List.map_cons,lE,ih,aQ.er]
  cases op<;>rfl
def NG:Exit→Prop
 | .goto _=>False
 |_=>True
def AW (P:Program) (L:List Nat) (N n0:Nat) (c:Code) (Q:Exit→Env→AH→Prop) (e:Env) (ah:AH):Prop:=
 ∀(F:Nat→Prop) (γ:List Nat) (C:Nat→List Value) (ts:Array Value) (w:World),SR L N F γ C e ah ts w→n0≤γ.length→
  c.wp P (fun x a' w'=>a'.defers=[]∧NG x∧∃e' aH γ' C',Q x e' aH∧γ.take n0 <+: γ'∧SR L N F γ' C' e' aH a'.tmps w'∧Ext F C w C' w') ⟨ts,[]⟩ w
section
variable {P:Program} {L:List Nat} {N n0:Nat} {F:Nat→Prop} {γ:List Nat} {C C':Nat→List Value} {e:Env} {ah:AH} {ts:Array Value} {w w':World}
variable {e':Env} {aH:AH}
theorem GI {γ γ':List Nat} {n:Nat} (h:γ <+: γ'):γ.take n <+: γ':=(List.take_prefix n γ).trans h
theorem pL {γ γ' γ'':List Nat} {n:Nat} (h0:n≤γ.length) (h:γ.take n <+: γ') (h':γ'.take n <+: γ''):γ.take n <+: γ'':=by
 obtain ⟨r,rfl⟩:=h
 have:(γ.take n++r).take n=γ.take n:=by
  rw [List.take_append_of_le_length (by simp;omega),List.take_take,Nat.min_self]
 rwa [this] at h'
theorem JA {γ γ':List Nat} {n:Nat} (h0:n≤γ.length) (h:γ.take n <+: γ'):n≤γ'.length:=by
 have:=h.length_le;simp at this;omega
theorem AW.mono {c:Code} {Q Q':Exit→Env→AH→Prop} (h:AW P L N n0 c Q e ah) (hq:∀x e ah,Q x e ah→Q' x e ah):AW P L N n0 c Q' e ah:=
 fun F γ C ts w hs hn=>wp_mono (h F γ C ts w hs hn) fun _ _ _ ⟨hd,hg,e',aH,γ',C',h1,h2⟩=>⟨hd,hg,e',aH,γ',C',hq _ _ _ h1,h2⟩
theorem AW.skip {Q:Exit→Env→AH→Prop} (h:Q .normal e ah):AW P L N n0 .skip Q e ah:=
 fun F γ C ts w hs hn=>wp_skip ⟨rfl,trivial,e,ah,γ,C,h,List.take_prefix _ _,hs,Ext.refl ..⟩
theorem AW.label {Q:Exit→Env→AH→Prop} {l:Nat} (h:Q .normal e ah):AW P L N n0 (.label l) Q e ah:=
 fun F γ C ts w hs hn=>wp_label ⟨rfl,trivial,e,ah,γ,C,h,List.take_prefix _ _,hs,Ext.refl ..⟩
theorem AW.ret {Q:Exit→Env→AH→Prop} (h:Q .ret e ah):AW P L N n0 .ret Q e ah:=
 fun F γ C ts w hs hn=>wp_ret ⟨rfl,trivial,e,ah,γ,C,h,List.take_prefix _ _,hs,Ext.refl ..⟩
theorem AW.exit {Q:Exit→Env→AH→Prop} {i:Nat} (h:Q (.exit i) e ah):AW P L N n0 (.exit i) Q e ah:=
 fun F γ C ts w hs hn=>wp_exit ⟨rfl,trivial,e,ah,γ,C,h,List.take_prefix _ _,hs,Ext.refl ..⟩
theorem AW.seq {a b:Code} {Q:Exit→Env→AH→Prop} (h:AW P L N n0 a (fun x e ah=>match x with| .normal=>AW P L N n0 b Q e ah|x=>Q x e ah) e ah):AW P L N n0 (.seq a b) Q e ah:=by
 intro F γ C ts w hs hn
 refine wp_seq (wp_mono (h F γ C ts w hs hn) ?_)
 rintro x ⟨ts',ds'⟩ w' ⟨rfl,hg,e',aH,γ',C',h1,h2,h3,h4⟩
 cases x with
 |normal=>
  refine wp_mono (h1 F γ' C' ts' w' h3 (JA hn h2)) ?_
  rintro x ⟨LZ,ds2⟩ w2 ⟨rfl,hg,e2,qI,γ2,C2,g1,g2,g3,g4⟩
  exact ⟨rfl,hg,e2,qI,γ2,C2,g1,pL hn h2 g2,g3,h4.trans g4⟩
 |_=>exact ⟨rfl,hg,e',aH,γ',C',h1,h2,h3,h4⟩
theorem AW.cond {c:Operand} {c':Ar} {a b:Code} {t:Bool} {Q:Exit→Env→AH→Prop} (hc:bJ c=some c') (ht:ev e c'= .bool t) (h:AW P L N n0 (if t then a else b) Q e ah):
 AW P L N n0 (.cond c a b) Q e ah:=by
 intro F γ C ts w hs hn
 have:=(bU (ds:=[]) hs hc).1
 rw [ht] at this
 exact wp_cond (t:=t) this.gJ (h F γ C ts w hs hn)
theorem AW.blk {c:Code} {i:Nat} {Q:Exit→Env→AH→Prop} (h:AW P L N n0 c (fun x e ah=>match x with| .exit j=>if j=i then Q .normal e ah else Q (.exit j) e ah|x=>Q x e ah) e ah):
 AW P L N n0 (.block i c) Q e ah:=by
 intro F γ C ts w hs hn
 refine wp_block (wp_mono (h F γ C ts w hs hn) ?_)
 rintro x a w' ⟨hd,hg,e',aH,γ',C',h1,h2⟩
 cases x with
 |exit j=>
  simp only [Exit.inBlock] at h1 ⊢
  by_cases hj:j=i
  · rw [if_pos hj] at h1 ⊢;exact ⟨hd,trivial,e',aH,γ',C',h1,h2⟩
  · rw [if_neg hj] at h1 ⊢;exact ⟨hd,trivial,e',aH,γ',C',h1,h2⟩
 |_=>exact ⟨hd,hg,e',aH,γ',C',h1,h2⟩
theorem AW.loop {c:Code} {Q:Exit→Env→AH→Prop} (I:Nat→Env→AH→Prop) {k0:Nat}
 (round:∀k e ah,I k e ah→AW P L N n0 c (fun x e' aH=>match x with| .normal=>∃k',k'<k∧I k' e' aH|x=>Q x e' aH) e ah) (h0:I k0 e ah):AW P L N n0 (.loop c) Q e ah:=by
 intro F γ C ts w hs hn
 refine wp_loop_ghost (fun k a w'=>a.defers=[]∧∃e' aH γ' C',I k e' aH∧γ.take n0 <+: γ'∧SR L N F γ' C' e' aH a.tmps w'∧Ext F C w C' w') k0
  ⟨rfl,e,ah,γ,C,h0,List.take_prefix _ _,hs,Ext.refl ..⟩ ?_
 rintro k ⟨DU,ds1⟩ w1 ⟨rfl,e1,b6,γ1,C1,h1,h2,h3,h4⟩
 refine wp_mono (round k e1 b6 h1 F γ1 C1 DU w1 h3 (JA hn h2)) ?_
 rintro x ⟨LZ,ds2⟩ w2 ⟨rfl,hg,e2,qI,γ2,C2,g1,g2,g3,g4⟩
 cases x with
 |normal=>obtain ⟨k',hk',hI⟩:=g1;exact ⟨k',hk',rfl,e2,qI,γ2,C2,hI,pL hn h2 g2,g3,h4.trans g4⟩
 |_=>exact ⟨rfl,hg,e2,qI,γ2,C2,g1,pL hn h2 g2,g3,h4.trans g4⟩
theorem AW.scope {c:Code} {Q:Exit→Env→AH→Prop} (h:AW P L N n0 c Q e ah):AW P L N n0 (.scope c) Q e ah:=
 fun F γ C ts w hs hn=>wp_scope_straight (wp_mono (h F γ C ts w hs hn) fun x _ _ h=>by cases x<;>first|exact h|exact h.2.1.elim)
theorem AW.weak {c:Code} {Q:Exit→Env→AH→Prop} {e1:Env} (hw:∀t,Wk (get e t) (get e1 t)) (h:AW P L N n0 c Q e1 ah):AW P L N n0 c Q e ah:=
 fun F γ C ts w hs hn=>h F γ C ts w (hs.wk hw) hn
theorem iJ {ops:Array Oper} {o:Oper} {g:Option (Nat×Bool)} {d:Option Nat} {op:fH} {b:Bool} (h:SR L N F γ C e ah ts w) (hg:gY ops o.guard=some g) (hb:gI e ⟨d,op,g⟩=some b):
 Region.wanted o (yielded ops ts)=b:=by
 unfold Region.wanted
 cases ho:o.guard with
 |none=>
  rw [ho] at hg
  simp only [gY,Option.some.injEq] at hg
  subst hg
  simp only [gI,Option.some.injEq] at hb
  exact hb
 |some jw=>
  obtain ⟨j,want⟩:=jw
  rw [ho] at hg
  simp only [gY,Option.map_eq_some_iff] at hg
  obtain ⟨t,ht,rfl⟩:=hg
  simp only [gI] at hb
  split at hb
  · rename_i b' he
    have hv:=(h.env t).1
    rw [he] at hv
    have hv:=hv.gJ
    have hy:yielded ops ts j=some b':=by
     unfold yielded
     rw [ht]
     simp only [Option.bind_some]
     have:ts[t]? =some (.bool b'):=by
      rw [Array.getD_eq_getD_getElem?] at hv
      cases hq:ts[t]? with
      |none=>rw [hq] at hv;simp [undef] at hv
      |some v=>rw [hq] at hv;simp at hv;rw [hv]
     rw [this]
    simp only [hy]
    simp only [Option.some.injEq] at hb
    rw [←hb]
    simp
  · rename_i he
    have hv:=(h.env t).1
    rw [he] at hv
    obtain ⟨vs,hv, -⟩:=hv.vF
    have hy:yielded ops ts j=none:=by
     unfold yielded
     rw [ht]
     simp only [Option.bind_some]
     rw [Array.getD_eq_getD_getElem?] at hv
     cases hq:ts[t]? with
     |none=>rfl
     |some v=>rw [hq] at hv;simp at hv;rw [hv]
    simp only [hy]
    simp only [Option.some.injEq] at hb
    exact hb
  · cases hb
  · cases hb
theorem GJ (h:SR L N F γ C e ah ts w):∀(tys:List TypeId) (l:List Operand) (zq:List Ar),yj P tys l=some zq→zq.length=l.length∧
 ∀(i:Nat) (x:Operand) (a:Ar),l[i]? =some x→zq[i]? =some a→VR C γ (ev e a) (Act.eval ⟨ts,[]⟩ x)∧TC w C (ev e a) (Act.eval ⟨ts,[]⟩ x):=by
 intro tys l
 induction l generalizing tys with
 |nil=>intro zq hc;cases tys<;>(simp [yj] at hc;subst hc;simp)
 |cons x r ih=>
  intro zq hc
  cases tys with
  |nil=>simp [yj] at hc
  |cons t tys=>
   simp only [yj] at hc
   split at hc
   case h_2=>cases hc
   rename_i a zq' ha has
   simp only [Option.some.injEq] at hc
   subst hc
   obtain ⟨h1,h2⟩:=ih tys zq' has
   refine ⟨by simp [h1],fun j y b hy hb=> ?_⟩
   cases j with
   |zero=>simp at hy hb;subst hy;subst hb;exact fT h ha
   |succ j=>exact h2 j y b (by simpa using hy) (by simpa using hb)
theorem DV {f:Nat} (hf:jt P f=true) {d:Option Nat} {x:Operand} {args:Array Operand} {tys:Array TypeId} {ty:TypeId} {pos:String} {af:Array Edge} {g:Option (Nat×Bool)} {caps:Array Value} {ρ:Operand→Value}
 (hx:ρ x= .func (.func f) #[] caps):
 (execOp ρ ⟨d, .call {callee:= .value x,args:=args,argTypes:=tys},ty,pos,af,g⟩).run P w= .ok (.enter f (args.map ρ++caps)) w:=by
 unfold jt at hf
 split at hf
 case h_2=>cases hf
 rename_i fn hfn
 simp only [Bool.and_eq_true,bne_iff_ne] at hf
 obtain ⟨h1,h2⟩:=hf
 have h3:fn.body.isNone=false:=by cases hb:fn.body<;>simp_all
 have h4:(fn.name== "runtime.NumGoroutine")=false:=by simpa using h2
 have h5:fn.body≠none:=by intro h0;rw [h0] at h1;cases h1
 simp [execOp,resolve,Deferred.ofValue,hx,invoke,callFunc,program,Sem.run,hfn,h2,h5]
theorem Bp {o:Oper} {f:Ar} {vS:List Ar} (hop:cop P o=some (.call f vS)):
 ∃x args tys,o=⟨o.dst, .call {callee:= .value x,args:=args,argTypes:=tys},o.type,o.pos,o.after,o.guard⟩∧bJ x=some f∧yj P tys.toList args.toList=some vS:=by
 obtain ⟨d,oo,ty,pos,af,gd⟩:=o
 cases oo with
 |call c=>
  obtain ⟨callee,args,tys⟩:=c
  simp only [cop] at hop
  split at hop
  · split at hop<;>simp at hop
  · split at hop
    · split at hop
      · simp at hop
      · cases hop
    · cases hop
  · split at hop
    · split at hop
      · simp at hop
      · cases hop
    · cases hop
  · split at hop
    · split at hop
      · split at hop<;>simp at hop
      · split at hop<;>simp at hop
      · cases hop
    · cases hop
  · rename_i x
    split at hop
    · rename_i f2 as2 h1 h2
      injection hop with hop
      injection hop with e1 e2
      subst e1;subst e2
      exact ⟨x,args,tys,rfl,h1,h2⟩
    · cases hop
  · cases hop
 |makeFunc fn first cs=>
  cases fn with
  |func f=>simp only [cop] at hop;split at hop<;>simp at hop
  |_=>simp [cop] at hop
 |_=>
  exfalso
  simp only [cop] at hop
  first
   |cases hop;done
   |(simp at hop;done)
   |(repeat' (split at hop))<;>(first|(cases hop;done)|(simp at hop;done))
theorem DW (hs:SR L N F γ C e ah ts w) {vS:List Ar} {caps:List AV} {args:Array Operand} {vs:Array Value} (hfl:bZ caps=true) (hcl:caps.length=vs.size)
 (oJ:∀(i:Nat) (a:AV),caps[i]? =some a→VR C γ a (vs.getD i undef)) (c1:vS.length=args.toList.length)
 (c2:∀(i:Nat) (x:Operand) (a:Ar),args.toList[i]? =some x→vS[i]? =some a→VR C γ (ev e a) (Act.eval ⟨ts,[]⟩ x)∧TC w C (ev e a) (Act.eval ⟨ts,[]⟩ x)):
 ∀(i:Nat) (a:AV),(vS.map (fun x=>(ev e x).sh)++caps.map AV.s1)[i]? =some a→
  VR C γ a ((args.map (Act.eval ⟨ts,[]⟩)++vs).getD i undef)∧TC w C a ((args.map (Act.eval ⟨ts,[]⟩)++vs).getD i undef)∧a.plain=true:=by
 intro i a hi
 by_cases hlt:i<vS.length
 · rw [List.getElem?_append_left (by simpa using hlt),List.getElem?_map,List.getElem?_eq_getElem hlt] at hi
   obtain rfl:(ev e vS[i]).sh=a:=by simpa using hi
   have DQ:i<args.toList.length:=by omega
   have:=c2 i _ _ (List.getElem?_eq_getElem DQ) (List.getElem?_eq_getElem hlt)
   have hgd:(args.map (Act.eval ⟨ts,[]⟩)++vs).getD i undef=Act.eval ⟨ts,[]⟩ args.toList[i]:=by
    rw [Array.length_toList] at DQ
    simp [Array.getD_eq_getD_getElem?,Array.getElem?_append,DQ]
   rw [hgd]
   exact ⟨(Wk.sh _).vr this.1,(Wk.sh _).tc this.2,sR _⟩
 · rw [List.getElem?_append_right (by simpa using hlt),List.getElem?_map] at hi
   simp only [List.length_map] at hi
   cases Fx:caps[i - vS.length]? with
   |none=>rw [Fx] at hi;simp at hi
   |some b=>
    rw [Fx] at hi
    obtain rfl:b.s1=a:=by simpa using hi
    have hgd:(args.map (Act.eval ⟨ts,[]⟩)++vs).getD i undef=vs.getD (i - vS.length) undef:=by
     have c1':vS.length=args.size:=by simpa using c1
     simp only [Array.getD_eq_getD_getElem?]
     rw [Array.getElem?_append_right (by simp;omega)]
     simp [c1']
    rw [hgd]
    exact ⟨(Wk.iP (Wk.s1 _)).vr (oJ _ _ Fx),SK b (jr hfl Fx) _,Gx b⟩
theorem JB {o:Oper} {a:fH} (h:OA P o=some a):cop P o=some a∨a= .bad:=by
 unfold OA at h
 cases hc:cop P o with
 |none=>rw [hc] at h;injection h with h;exact .inr h.symm
 |some b=>rw [hc] at h;exact .inl h
theorem XB {op:fH} (h:op.er= .bad):op= .bad:=by cases op<;>first|rfl|cases h
theorem Cp {ops:Array Oper} {l:List Oper} {zq:List aQ} (h:jU P ops l=some zq):(l=[]∧zq=[])∨
 (∃o o2 r a zq',l=o::o2::r∧mQ P o o2=some a∧jU P ops r=some zq'∧zq=a::zq')∨
 (∃o o2 r ag zq',l=o::o2::r∧Jh P ops o o2=some ag∧jU P ops r=some zq'∧zq=ag++zq')∨
 ∃o r op g zq',l=o::r∧(cop P o=some op∨op= .bad)∧gY ops o.guard=some g∧jU P ops r=some zq'∧zq=⟨o.dst,op,g⟩::zq':=by
 cases l with
 |nil=>simp only [jU,Option.some.injEq] at h;exact .inl ⟨rfl,h.symm⟩
 |cons o r=>
  cases r with
  |nil=>
   simp only [jU] at h
   split at h
   case h_2=>cases h
   rename_i a g h1 h2
   injection h with h
   exact .inr (.inr (.inr ⟨o,[],a,g,[],rfl,JB h1,h2,rfl,h.symm⟩))
  |cons o2 r=>
   rw [jU] at h
   split at h
   · rename_i a ha
     simp only [Option.map_eq_some_iff] at h
     obtain ⟨zq',h1,rfl⟩:=h
     exact .inr (.inl ⟨o,o2,r,a,zq',rfl,ha,h1,rfl⟩)
   · split at h
     · rename_i ag hag
       simp only [Option.map_eq_some_iff] at h
       obtain ⟨zq',h1,rfl⟩:=h
       exact .inr (.inr (.inl ⟨o,o2,r,ag,zq',rfl,hag,h1,rfl⟩))
     · split at h
       case h_2=>cases h
       rename_i a g zq' h1 h2 h3
       injection h with h
       exact .inr (.inr (.inr ⟨o,o2::r,a,g,zq',rfl,JB h1,h2,h3,h.symm⟩))
theorem OM {a b:aQ} {y:Nat} {bs:List UInt8} (h:a.er=b) (hb:b.op= .lit y bs):a=b:=by
 obtain ⟨d,op,g⟩:=a
 subst h
 cases op<;>first|rfl|(simp [aQ.er,fH.er] at hb)
theorem DX {o o2:Oper} {a:aQ} (h:mQ P o o2=some a):∃y bs,a.op= .lit y bs:=by
 unfold mQ at h
 split at h
 case h_2=>cases h
 split at h
 case isFalse=>cases h
 split at h
 case h_2=>cases h
 split at h
 case h_2=>cases h
 split at h
 case isFalse=>cases h
 split at h
 case h_2=>cases h
 simp only [Option.map_eq_some_iff] at h
 obtain ⟨bs, -,rfl⟩:=h
 exact ⟨_,_,rfl⟩
theorem Bq {ops:Array Oper} {o o2:Oper} {ag:List aQ} (h:Jh P ops o o2=some ag):∃d y bs t w g,ag=[⟨some y, .mv (.c .un),some (t,w)⟩,⟨d, .lit y bs,some (t,w)⟩]∧t≠y∧
 mQ P (bare o) (bare o2)=some ⟨d, .lit y bs,g⟩∧gY ops o.guard=some (some (t,w))∧gY ops o2.guard=some (some (t,w)):=by
 unfold Jh at h
 split at h
 case isFalse=>cases h
 rename_i hg
 split at h
 case h_2=>cases h
 rename_i x t w d y bs g h1 h2 h3
 split at h
 · cases h
 · rename_i hty
   injection h with h
   exact ⟨d,y,bs,t,w,g,h.symm,hty,h3,h2,by rw [←hg];exact h2⟩
theorem Z7 {a b:aQ} {x:Ar} (h:a.er=b) (hb:b.op= .mv x):a=b:=by
 obtain ⟨d,op,g⟩:=a
 subst h
 cases op<;>first|rfl|(simp [aQ.er,fH.er] at hb)
theorem Hq {ops:Array Oper} {l:List Oper} {zq:List aQ} (h:jU P ops l=some (zq.map aQ.er)):(l=[]∧zq=[])∨
 (∃o o2 r a zq',l=o::o2::r∧mQ P o o2=some a∧jU P ops r=some (zq'.map aQ.er)∧zq=a::zq')∨
 (∃o o2 r ag zq',l=o::o2::r∧Jh P ops o o2=some ag∧jU P ops r=some (zq'.map aQ.er)∧zq=ag++zq')∨
 ∃o r op g zq',l=o::r∧(cop P o=some op.er∨op= .bad)∧gY ops o.guard=some g∧jU P ops r=some (zq'.map aQ.er)∧zq=⟨o.dst,op,g⟩::zq':=by
 rcases Cp h with ⟨h1,h2⟩|⟨o,o2,r,a,zq',h1,h2,h3,h4⟩|⟨o,o2,r,ag,zq',h1,h2,h3,h4⟩|⟨o,r,op,g,zq',h1,h2,h3,h4,h5⟩
 · exact .inl ⟨h1,by simpa using h2⟩
 · cases zq with
   |nil=>simp at h4
   |cons x xs=>
    simp only [List.map_cons,List.cons.injEq] at h4
    obtain ⟨y,bs,hl⟩:=DX h2
    have:=OM h4.1 hl
    subst this
    exact .inr (.inl ⟨o,o2,r,x,xs,h1,h2,by rw [h3,h4.2],rfl⟩)
 · obtain ⟨d,y,bs,t,w,g,rfl, -⟩:=Bq h2
   cases zq with
   |nil=>simp at h4
   |cons x xs=>
    cases xs with
    |nil=>simp at h4
    |cons x2 xs=>
     simp only [List.map_cons,List.cons_append,List.nil_append,List.cons.injEq] at h4
     have e1:=Z7 h4.1 rfl
     have e2:=OM h4.2.1 rfl
     subst e1;subst e2
     exact .inr (.inr (.inl ⟨o,o2,r,_,xs,h1,h2,by rw [h3,h4.2.2],rfl⟩))
 · cases zq with
   |nil=>simp at h5
   |cons x xs=>
    simp only [List.map_cons,List.cons.injEq] at h5
    obtain ⟨d,op',g'⟩:=x
    obtain ⟨h6,h7⟩:=h5
    simp only [aQ.er] at h6
    injection h6 with e1 e2 e3
    subst e1;subst e2;subst e3
    exact .inr (.inr (.inr ⟨o,r,op',g',xs,h1,h2.imp id XB,h3,by rw [h4,h7],rfl⟩))
theorem JC {ops:Array Oper} {o o2:Oper} {l:List Oper} {a:aQ} {zq:List aQ} {K:Env→AH→Prop} {Q:Exit→Act→World→Prop} (gV:mQ P (bare o) (bare o2)=some a)
 (hw1:Region.wanted o (yielded ops ts)=true) (DN:∀y bs v,a.op= .lit y bs→Region.wanted o2 (yielded ops ((⟨ts,[]⟩:Act).put (some y) v).tmps)=true) (hd:lE N (a::zq)=true)
 (hs:SR L N F γ C e ah ts w) (hk:ey P L (a::zq) e ah K)
 (next:∀e1 b6 C1 DU w1,ey P L zq e1 b6 K→lE N zq=true→SR L N F γ C1 e1 b6 DU w1→Ext F C w C1 w1→wpList P ops Q l ⟨DU,[]⟩ w1):wpList P ops Q (o::o2::l) ⟨ts,[]⟩ w:=by
 obtain ⟨d1,op1,ty1,pos1,af1,g1⟩:=o
 obtain ⟨d2,Xx,pH,pos2,af2,g2⟩:=o2
 unfold mQ bare at gV
 split at gV
 case h_2=>cases gV
 rename_i t n parts s d x y h1 h2 h3
 simp only at h1 h2 h3
 subst h1;subst h2;subst h3
 split at gV
 case isFalse=>cases gV
 rename_i hcs
 obtain ⟨rfl,rfl,rfl,XC,JD,hyd,hn,hn2⟩:=hcs
 split at gV
 case h_2=>cases gV
 rename_i el hel
 split at gV
 case h_2=>cases gV
 rename_i hu8
 split at gV
 case isFalse=>cases gV
 rename_i hsz
 split at gV
 case h_2=>cases gV
 rename_i vS acH
 simp only [Option.map_eq_some_iff] at gV
 obtain ⟨bs,LW,rfl⟩:=gV
 have DN:=fun v=>DN _ _ v rfl
 simp only [lE,Bool.and_eq_true] at hd
 obtain ⟨⟨hd1,CK⟩,hd3⟩:=hd
 have hy:x<N:=by simpa using CK
 have jJ:∀z,d2=some z→z<N:=by
  intro z hz
  rw [hz] at hd1
  simpa using hd1
 simp only [ey,gI,zY,bN] at hk
 have ht:P.underlying d=some (.slice el):=by
  unfold DF at hel
  split at hel
  · rename_i h;injection hel with hel;subst hel;exact h
  · cases hel
 obtain ⟨q1,q2⟩:=Ta LW e
 obtain ⟨r,hrs,hrun, -,key⟩:=Bn (ds:=[]) (d:=d2) hs jJ ht hn (by rw [hsz.1];omega) hsz.2 acH (by rw [hsz.1];exact q2)
 obtain ⟨C',k1,k2⟩:=key (r.size,r.size+1) (.inr rfl)
 rw [q1,hsz.1] at k1
 have k3:=k1.Cn (d:=x) (a:= .un) (v:= .slice (some ⟨w.heap.size,0,none⟩) n n) hy (.un ..) trivial rfl (by simp)
 unfold wpList
 rw [if_pos hw1]
 refine .inl ?_
 unfold Oper.wp
 have e1:(execOp (Act.eval ⟨ts,[]⟩) ⟨some x, .buildSlice d n parts,ty1,pos1,af1,g1⟩).run P w= .ok (.value (.slice (some ⟨w.heap.size,0,none⟩) n n)) (w.alloc (.cells r el)):=by
  simp [execOp,hrun]
 rw [e1]
 simp only [Oper.upon]
 unfold wpList
 rw [if_pos (DN _)]
 refine .inl ?_
 unfold Oper.wp
 have hlt:x<ts.size:=by rw [hs.sz];exact hy
 have e2:(execOp (Act.eval ((⟨ts,[]⟩:Act).put (some x) (.slice (some ⟨w.heap.size,0,none⟩) n n))) ⟨d2, .convert d d (.tmp x),pH,pos2,af2,g2⟩).run P (w.alloc (.cells r el))= .ok (.value (.slice (some ⟨w.heap.size,0,none⟩) n n)) (w.alloc (.cells r el (r.size,r.size+1))):=by
  have hev:Act.eval ((⟨ts,[]⟩:Act).put (some x) (.slice (some ⟨w.heap.size,0,none⟩) n n)) (.tmp x)= .slice (some ⟨w.heap.size,0,none⟩) n n:=by
   simp [Act.eval,Act.put,hlt]
  have:=Lib.run_convert_bytes_const (P:=P) w d el r n n ht hu8
  simp only [execOp,hev,Sem.run_bind,this,Result.andThen_ok,Sem.run_pure]
 rw [e2]
 simp only [Oper.upon]
 rw [←SR.DR ts [] hyd]
 have hput:(((⟨ts,[]⟩:Act).put d2 (.slice (some ⟨w.heap.size,0,none⟩) n n)).put (some x) (.slice (some ⟨w.heap.size,0,none⟩) n n))=
  ⟨(((⟨ts,[]⟩:Act).put d2 (.slice (some ⟨w.heap.size,0,none⟩) n n)).tmps).setIfInBounds x (.slice (some ⟨w.heap.size,0,none⟩) n n),[]⟩:=by
  cases d2<;>rfl
 rw [hput]
 exact next _ _ C' _ _ hk hd3 k3 k2
theorem XD {ops:Array Oper} {o o2:Oper} {l:List Oper} {a:aQ} {zq:List aQ} {K:Env→AH→Prop} {Q:Exit→Act→World→Prop} (gV:mQ P o o2=some a) (hd:lE N (a::zq)=true)
 (hs:SR L N F γ C e ah ts w) (hk:ey P L (a::zq) e ah K)
 (next:∀e1 b6 C1 DU w1,ey P L zq e1 b6 K→lE N zq=true→SR L N F γ C1 e1 b6 DU w1→Ext F C w C1 w1→wpList P ops Q l ⟨DU,[]⟩ w1):wpList P ops Q (o::o2::l) ⟨ts,[]⟩ w:=by
 have hg:o.guard=none∧o2.guard=none:=by
  unfold mQ at gV
  split at gV
  case h_2=>cases gV
  split at gV
  case isFalse=>cases gV
  rename_i hcs
  exact ⟨by simpa using hcs.2.2.2.1,by simpa using hcs.2.2.2.2.1⟩
 have e1:bare o=o:=by obtain ⟨d,op,ty,pos,af,g⟩:=o;simp only at hg;simp [bare,hg.1]
 have e2:bare o2=o2:=by obtain ⟨d,op,ty,pos,af,g⟩:=o2;simp only at hg;simp [bare,hg.2]
 exact JC (by rw [e1,e2];exact gV) (by simp [Region.wanted,hg.1]) (fun _ _ _ _=>by simp [Region.wanted,hg.2]) hd hs hk next
theorem Tp {ops:Array Oper}:∀(n:Nat) (l:List Oper) (zq:List aQ) (e:Env) (ah:AH) (K:Env→AH→Prop) (F:Nat→Prop) (γ:List Nat) (C:Nat→List Value) (ts:Array Value) (w:World)
 (Q:Exit→Act→World→Prop),l.length≤n→jU P ops l=some (zq.map aQ.er)→lE N zq=true→SR L N F γ C e ah ts w→ey P L zq e ah K→
 (∀e' aH γ' C' ts' w',K e' aH→γ <+: γ'→SR L N F γ' C' e' aH ts' w'→Ext F C w C' w'→Q .normal ⟨ts',[]⟩ w')→wpList P ops Q l ⟨ts,[]⟩ w:=by
 intro n
 induction n with
 |zero=>
  intro l zq e ah K F γ C ts w Q hn hc hd hs hk hq
  obtain rfl:l=[]:=List.eq_nil_of_length_eq_zero (by omega)
  simp only [jU,Option.some.injEq] at hc
  obtain rfl:zq=[]:=by simpa using hc.symm
  exact wpList_nil (hq e ah γ C ts w hk (List.prefix_refl _) hs (Ext.refl ..))
 |succ n ih=>
  intro l zq e ah K F γ C ts w Q hn hc hd hs hk hq
  rcases Hq hc with ⟨rfl,rfl⟩|⟨o,o2,l,a,zq',rfl,gV,has,rfl⟩|⟨o,o2,l,ag,zq',rfl,gV,has,rfl⟩|⟨o,l,op,g,zq',rfl,hop,hg,has,rfl⟩
  · exact wpList_nil (hq e ah γ C ts w hk (List.prefix_refl _) hs (Ext.refl ..))
  · exact XD gV hd hs hk fun e1 b6 C1 DU w1 Bk hd1 hs1 hx1=>ih l zq' e1 b6 K F γ C1 DU w1 Q (by simp at hn;omega) has hd1 hs1 Bk
     fun e' aH γ' C' ts' w' g1 g2 g3 g4=>hq e' aH γ' C' ts' w' g1 g2 g3 (hx1.trans g4)
  · obtain ⟨d,y,bs,tg,want,g0,rfl,hty,hlo,XC,JD⟩:=Bq gV
    have hd:lE N [⟨some y, .mv (.c .un),some (tg,want)⟩,⟨d, .lit y bs,some (tg,want)⟩]=true∧lE N zq'=true:=by
     simp only [List.cons_append,List.nil_append,lE,Bool.and_eq_true,Bool.and_true] at hd ⊢
     exact ⟨⟨hd.1,hd.2.1⟩,hd.2.2⟩
    have hyN:y<N:=by
     have:=hd.1
     simp only [lE,Bool.and_eq_true] at this
     simpa using this.1.1
    have acI:∀v,SR L N F γ C (put e y .un) ah (ts.setIfInBounds y v) w:=fun v=>hs.Cn hyN (.un ..) trivial rfl (by simp)
    have hge:∀a,get (put e y a) tg=get e tg:=fun a=>by rw [fk,if_neg hty]
    have zS:∀a (d d2:Option Nat) (op Xx:fH),gI (put e y a) ⟨d,op,some (tg,want)⟩=gI e ⟨d2,Xx,some (tg,want)⟩:=fun a _ _ _ _=>by simp only [gI,hge]
    rw [List.cons_append,List.cons_append,List.nil_append] at hk
    simp only [ey] at hk
    split at hk
    · rename_i tU
      have hw1:=iJ hs XC tU
      have e0:aI L e (some y) (cp L (.c .un) (ev e (.c .un)))=put e y .un:=by
       simp only [ev,cp,aI];split<;>rfl
      simp only [zY,bN] at hk
      rw [e0,zS .un d (some y) (.lit y bs) (.mv (.c .un)),tU] at hk
      simp only at hk
      have hk3:ey P L (⟨d, .lit y bs,g0⟩::zq') (put e y .un) ah K:=by
       have h0:g0=none:=by
        unfold mQ at hlo
        split at hlo
        case h_2=>cases hlo
        split at hlo
        case isFalse=>cases hlo
        split at hlo
        case h_2=>cases hlo
        split at hlo
        case h_2=>cases hlo
        split at hlo
        case isFalse=>cases hlo
        split at hlo
        case h_2=>cases hlo
        simp only [Option.map_eq_some_iff] at hlo
        obtain ⟨_, -,hlo⟩:=hlo
        injection hlo with _ _ h3
        exact h3.symm
       subst h0
       exact hk
      refine JC hlo hw1 (fun y' bs' v h=> ?_) (by
       have h1:=hd.1
       simp only [lE,Bool.and_eq_true] at h1 ⊢
       exact ⟨h1.2.1,hd.2⟩) (hs.sP (.un _)) hk3 fun e1 b6 C1 DU w1 Bk hd1 hs1 hx1=>ih l zq' e1 b6 K F γ C1 DU w1 Q (by simp at hn;omega) has hd1 hs1 Bk
       fun e' aH γ' C' ts' w' g1 g2 g3 g4=>hq e' aH γ' C' ts' w' g1 g2 g3 (hx1.trans g4)
      injection h with h1 h2
      subst h1
      exact iJ (acI v) JD (d:=d) (op:= .lit y bs) ((zS .un d (some y) (.lit y bs) (.mv (.c .un))).trans tU)
    · rename_i tU
      have hw1:=iJ hs XC tU
      rw [show pK e (some y)=put e y (.bK []) from rfl,zS (.bK []) d (some y) (.lit y bs) (.mv (.c .un)),tU] at hk
      simp only at hk
      obtain ⟨hdo,hdy⟩:o.dst=some y∧o2.dst=d:=by
       unfold mQ bare at hlo
       split at hlo
       case h_2=>cases hlo
       rename_i h1 h2 h3
       simp only at h3
       split at hlo
       case isFalse=>cases hlo
       split at hlo
       case h_2=>cases hlo
       split at hlo
       case h_2=>cases hlo
       split at hlo
       case isFalse=>cases hlo
       split at hlo
       case h_2=>cases hlo
       simp only [Option.map_eq_some_iff] at hlo
       obtain ⟨_, -,hlo⟩:=hlo
       injection hlo with q1 q2 _
       injection q2 with q2 _
       subst q2
       exact ⟨h3,q1⟩
      have hs1:SR L N F γ C (put e y (.bK [])) ah (ts.setIfInBounds y undef) w:=hs.Cn hyN (.bK _ [] #[] rfl (by simp)) (by simp [undef,TC]) rfl (by simp)
      unfold wpList
      rw [if_neg (by rw [hw1];simp)]
      unfold wpList
      have Z8:(⟨ts,[]⟩:Act).put o.dst undef=⟨ts.setIfInBounds y undef,[]⟩:=by rw [hdo];rfl
      rw [Z8]
      have DN:=iJ hs1 JD (d:=d) (op:= .lit y bs) ((zS (.bK []) d (some y) (.lit y bs) (.mv (.c .un))).trans tU)
      rw [if_neg (by show ¬(Region.wanted o2 (yielded ops (ts.setIfInBounds y undef))=true);rw [DN];simp)]
      have hput:(⟨ts.setIfInBounds y undef,[]⟩:Act).put o2.dst undef=⟨((⟨ts.setIfInBounds y undef,[]⟩:Act).put o2.dst undef).tmps,[]⟩:=by cases o2.dst<;>rfl
      rw [hput]
      refine ih l zq' _ ah K F γ C _ w Q (by simp at hn;omega) has hd.2 ?_ hk hq
      rw [hdy]
      cases hdd:d with
      |none=>exact hs1
      |some d'=>
       have hdN:d'<N:=by
        have:=hd.1
        simp only [lE,Bool.and_eq_true,hdd] at this
        simpa using this.2.1.1
       exact hs1.Cn hdN (.bK _ [] #[] rfl (by simp)) (by simp [undef,TC]) rfl (by simp)
    · exact hk.elim
  have hn':l.length≤n:=by simp at hn;omega
  simp only [lE,Bool.and_eq_true] at hd
  have jJ:∀x,o.dst=some x→x<N:=by
   intro x hx
   have:=hd.1.1
   rw [hx] at this
   simpa using this
  simp only [ey] at hk
  split at hk
  · rename_i tU
    have hw:=iJ hs hg tU
    unfold wpList
    rw [if_pos hw]
    refine .inl ?_
    rcases hop with hop|rfl
    case inr=>exact hk.elim
    by_cases eU:op.oI=true
    · cases op with
      |call f vS=>
       simp only [zY] at hk
       split at hk
       case h_2=>exact hk.elim
       rename_i f' caps Z9
       obtain ⟨hfl,hk⟩:=hk
       obtain ⟨x,args,tys,ho,hx,hargs⟩:=Bp hop
       have h1:=bU (ds:=[]) hs hx
       rw [Z9] at h1
       obtain ⟨vs,Tq,hcl,oJ⟩:=h1.1.Dw
       obtain ⟨c1,c2⟩:=GJ hs _ _ _ hargs
       have DY:=Jz (d:=o.dst) (ds:=[]) (vs:=args.map (Act.eval ⟨ts,[]⟩)++vs) hs jJ hk (by simp [c1,hcl]) (DW hs hfl hcl oJ c1 c2)
       have L0:(execOp (Act.eval ⟨ts,[]⟩) o).run P w= .ok (.enter f' (args.map (Act.eval ⟨ts,[]⟩)++vs)) w:=by
        rw [ho];exact DV hk.1 Tq
       unfold Oper.wp
       rw [L0]
       simp only [Oper.upon]
       refine DY.mono ?_
       rintro en w1 ⟨r,v,b6,γ1,C1,rfl,hR,hγ,hs1,hx1⟩
       have hput:(⟨ts,[]⟩:Act).put o.dst v=⟨((⟨ts,[]⟩:Act).put o.dst v).tmps,[]⟩:=by cases o.dst<;>rfl
       show wpList P ops Q l ((⟨ts,[]⟩:Act).put o.dst v) w1
       rw [hput]
       exact ih l zq' _ b6 K F γ1 C1 _ w1 Q hn' has hd.2 hs1 hR fun e' aH γ' C' ts' w' g1 g2 g3 g4=>hq e' aH γ' C' ts' w' g1 (hγ.trans g2) g3 (hx1.trans g4)
      |mI k b x y=>
       simp only [zY] at hk
       obtain ⟨e1,b6,hk',v,w1,γ1,C1,hr,hγ,hs1,hx1, -, -⟩:=GD (m:=true) (ds:=[]) hs jJ (by simpa [dm] using hop) hk
       have next:wpList P ops Q l ((⟨ts,[]⟩:Act).put o.dst v) w1:=by
        have hput:(⟨ts,[]⟩:Act).put o.dst v=⟨((⟨ts,[]⟩:Act).put o.dst v).tmps,[]⟩:=by cases o.dst<;>rfl
        rw [hput]
        exact ih l zq' e1 b6 K F γ1 C1 _ w1 Q hn' has hd.2 hs1 hk' fun e' aH γ' C' ts' w' g1 g2 g3 g4=>hq e' aH γ' C' ts' w' g1 (hγ.trans g2) g3 (hx1.trans g4)
       unfold Oper.wp
       rcases hr with hr|⟨hr,rfl⟩<;>rw [hr]<;>exact next
      |nq n x=>
       simp only [zY] at hk
       obtain ⟨e1,b6,hk',v,w1,γ1,C1,hr,hγ,hs1,hx1, -, -⟩:=Ho (m:=true) (ds:=[]) hs jJ (by simpa [dm] using hop) hk
       have next:wpList P ops Q l ((⟨ts,[]⟩:Act).put o.dst v) w1:=by
        have hput:(⟨ts,[]⟩:Act).put o.dst v=⟨((⟨ts,[]⟩:Act).put o.dst v).tmps,[]⟩:=by cases o.dst<;>rfl
        rw [hput]
        exact ih l zq' e1 b6 K F γ1 C1 _ w1 Q hn' has hd.2 hs1 hk' fun e' aH γ' C' ts' w' g1 g2 g3 g4=>hq e' aH γ' C' ts' w' g1 (hγ.trans g2) g3 (hx1.trans g4)
       unfold Oper.wp
       rcases hr with hr|⟨hr,rfl⟩<;>rw [hr]<;>exact next
      |_=>cases eU
    · have rq:op.oI=false:=by simpa using eU
      have hk':match bN L ⟨o.dst,op,g⟩ e ah with|some (e',aH)=>ey P L zq' e' aH K|none=>False:=by
       cases op<;>first|exact hk|cases rq
      rw [vQ] at hk'
      cases hev:bN L ⟨o.dst,op,none⟩ e ah with
      |none=>rw [hev] at hk';exact hk'.elim
      |some ea=>
       obtain ⟨e1,b6⟩:=ea
       rw [hev] at hk'
       obtain ⟨v,w1,γ1,C1,hr,hγ,hs1,hx1, -, -⟩:=Hp (ds:=[]) hs jJ hop rq hev
       have next:wpList P ops Q l ((⟨ts,[]⟩:Act).put o.dst v) w1:=by
        have hput:(⟨ts,[]⟩:Act).put o.dst v=⟨((⟨ts,[]⟩:Act).put o.dst v).tmps,[]⟩:=by cases o.dst<;>rfl
        rw [hput]
        exact ih l zq' e1 b6 K F γ1 C1 _ w1 Q hn' has hd.2 hs1 hk' fun e' aH γ' C' ts' w' g1 g2 g3 g4=>hq e' aH γ' C' ts' w' g1 (hγ.trans g2) g3 (hx1.trans g4)
       unfold Oper.wp
       rcases hr with hr|⟨hr,rfl⟩<;>rw [hr]<;>exact next
  · rename_i tU
    have hw:=iJ hs hg tU
    unfold wpList
    rw [if_neg (by rw [hw];simp)]
    have hput:(⟨ts,[]⟩:Act).put o.dst undef=⟨((⟨ts,[]⟩:Act).put o.dst undef).tmps,[]⟩:=by cases o.dst<;>rfl
    rw [hput]
    refine ih l zq' _ ah K F γ C _ w Q hn' has hd.2 ?_ hk hq
    cases ho:o.dst with
    |none=>exact hs
    |some d=>exact hs.Cn (jJ d ho) (.bK _ [] #[] rfl (by simp)) (by simp [undef,TC]) rfl (by simp)
  · exact hk.elim
theorem XE {ops:Array Oper} (l:List Oper) (zq:List aQ) (e:Env) (ah:AH) (K:Env→AH→Prop) (F:Nat→Prop) (γ:List Nat) (C:Nat→List Value) (ts:Array Value) (w:World)
 (Q:Exit→Act→World→Prop) (hc:jU P ops l=some (zq.map aQ.er)) (hd:lE N zq=true) (hs:SR L N F γ C e ah ts w) (hk:ey P L zq e ah K)
 (hq:∀e' aH γ' C' ts' w',K e' aH→γ <+: γ'→SR L N F γ' C' e' aH ts' w'→Ext F C w C' w'→Q .normal ⟨ts',[]⟩ w'):wpList P ops Q l ⟨ts,[]⟩ w:=
 Tp l.length l zq e ah K F γ C ts w Q (Nat.le_refl _) hc hd hs hk hq
end
end Go.Am
end
section
namespace Go.Am
open Go
variable [Tabs]
section
variable {P:Program} {ops:Array Oper} {Q:Exit→Act→World→Prop} {md:Region.Mode} {S:World→Prop} {D:Nat→Bool}
def wpS (P:Program) (ops:Array Oper) (Q:Exit→Act→World→Prop) (S:World→Prop) (D:Nat→Bool):Nat→Array Bool→Act→World→Prop
 |0,listed,a,w=>Region.ready .any ops listed=[]∧Q .normal a w
 |n+1,listed,a,w=>(Region.ready .any ops listed=[]→Q .normal a w)∧
  ∀i∈Region.ready .any ops listed,wpOp P ops Q i (fun a' w'=>(D i=false→S w')∧wpS P ops Q S D n (listed.setIfInBounds i true) a' w') a w
theorem wpS.any:∀ {n:Nat} {listed:Array Bool} {a:Act} {w:World},wpS P ops Q S D n listed a w→wpAny P .any ops Q n listed a w
 |0,_,_,_,h=>h
 |_+1,_,_,_,h=>⟨h.1,fun i hi=>wpOp_mono (fun _ _ h'=>h'.2.any) (h.2 i hi)⟩
theorem wpS.mono {S':World→Prop} (hS:∀w,S' w→S w):∀ {n:Nat} {listed:Array Bool} {a:Act} {w:World},wpS P ops Q S' D n listed a w→wpS P ops Q S D n listed a w
 |0,_,_,_,h=>h
 |_+1,_,_,_,h=>⟨h.1,fun i hi=>wpOp_mono (fun _ _ h'=>⟨fun hd=>hS _ (h'.1 hd),h'.2.mono hS⟩) (h.2 i hi)⟩
theorem iy {listed:Array Bool} {i j:Nat} (h:(listed.setIfInBounds i true).getD j true=false):listed.getD j true=false:=by
 by_cases hij:i=j
 · subst hij
   by_cases hlt:i<listed.size
   · simp [hlt] at h
   · simp [Array.getElem?_eq_none (Nat.le_of_not_lt hlt)] at h
 · rwa [getD_set_ne true hij] at h
theorem Cq:∀ {n:Nat} {listed:Array Bool} {a:Act} {w:World},(∀j,listed.getD j true=false→D j=true)→wpAny P .any ops Q n listed a w→wpS P ops Q S D n listed a w
 |0,_,_,_,_,h=>h
 |_+1,listed,_,_,hD,h=>⟨h.1,fun i hi=>wpOp_mono (fun _ _ h'=>⟨fun hd=>Bool.noConfusion ((hD i (mem_ready.1 hi).1).symm.trans hd),Cq (fun j hj=>hD j (iy hj)) h'⟩) (h.2 i hi)⟩
theorem L1 {i:Nat} {oi:Oper} {v:Value} (hi:ops[i]? =some oi) (hsel:∀(j:Nat) (o:Oper) cs b,ops[j]? =some o→o.op≠ .select cs b)
 (hQ:∀c a w,¬Q (.panic c) a w) (W:Nat→Prop):
 ∀(n:Nat) (listed:Array Bool) (a:Act) (w:World),
  (∀j oj,ops[j]? =some oj→j≠i→listed.getD j true=false→(∀e∈oj.after,Region.binds .any e=true→e.on≠i)→oi.apart ops oj=true)→
  (∀j,W j→listed.getD j true=false∧∃oj,ops[j]? =some oj∧∃e∈oj.after,Region.binds .any e=true∧(e.on=i∨W e.on))→(∀j,j<ops.size→D j=true→listed.getD j true=false→W j)→
  i∈Region.ready .any ops listed→YieldsIf P ops S oi v a→S w→
  wpS P ops Q S D n (listed.setIfInBounds i true) (a.put oi.dst v) w→wpS P ops Q S D (n+1) listed a w:=by
 intro n
 induction n with
 |zero=>
  intro listed a w _ _ _ hr hy hS H
  refine ⟨fun h=>(by rw [h] at hr;cases hr),fun j hj=> ?_⟩
  by_cases hji:j=i
  · subst hji;exact hy.wpOp hi hS ⟨fun _=>hS,H⟩
  · have:=ready_mono hj hji
    rw [H.1] at this
    cases this
 |succ n ih=>
  intro listed a w hfree vT hDW hr hy hS H
  refine ⟨fun h=>(by rw [h] at hr;cases hr),fun j hj=> ?_⟩
  by_cases hji:j=i
  · subst hji;exact hy.wpOp hi hS ⟨fun _=>hS,H⟩
  · have h1:=H.2 j (ready_mono hj hji)
    obtain ⟨Zo,oj,L2,hall⟩:=mem_ready.1 hj
    have hun:∀k,listed.getD k true=false→listed.getD k false=false:=fun k hk=>by
     rcases Nat.lt_or_ge k listed.size with h'|h'
     · simp [h'] at hk ⊢;exact hk
     · simp [Array.getElem?_eq_none h'] at hk
    have hnot:∀e∈oj.after,Region.binds .any e=true→listed.getD e.on true=false→False:=fun e he hb hu=>by
     have h1:=hall e he hb
     rw [hun _ hu] at h1
     cases h1
    have hni:∀e∈oj.after,Region.binds .any e=true→e.on≠i:=fun e he hb heq=>hnot e he hb (by rw [heq];exact (mem_ready.1 hr).1)
    have hWj:¬W j:=by
     intro hw
     obtain ⟨-,oj',OO,e,he,hb,h0⟩:=vT j hw
     rw [L2] at OO
     injection OO with OO
     subst OO
     rcases h0 with h0|h0
     · exact hni e he hb h0
     · exact hnot e he hb (vT _ h0).1
    have hDj:D j=false:=by
     cases hd:D j with
     |false=>rfl
     |true=>exact absurd (hDW j (Array.getElem?_eq_some_iff.1 L2).1 hd Zo) hWj
    have h2:=wpOp_putIf L2 (hfree j oj L2 hji Zo hni) (fun cs b=>hsel i oi cs b hi) (fun cs b=>hsel j oj cs b L2) (fun c a w hq=>(hQ c _ w hq).elim) hy h1
    refine wpOp_mono (fun a' w' h3=> ?_) h2
    have hS':=h3.2.1 hDj
    refine ⟨fun _=>hS',ih (listed.setIfInBounds j true) a' w' ?_ ?_ ?_ (ready_mono hr (Ne.symm hji)) h3.1 hS' ?_⟩
    · exact fun k ok hk hki hku hno=>hfree k ok hk hki (iy hku) hno
    · intro k hk
      obtain ⟨h5,h6⟩:=vT k hk
      refine ⟨?_,h6⟩
      rw [getD_set_ne true (fun h7=>hWj (by rw [h7];exact hk))]
      exact h5
    · exact fun k hk hd hku=>hDW k hk hd (iy hku)
    · rw [Array.setIfInBounds_comm _ _ hji]
      exact h3.2.2
end
section
variable {P:Program} {L:List Nat} {N n0:Nat} {F:Nat→Prop} {γ:List Nat} {C C':Nat→List Value} {e:Env} {ah:AH} {ts:Array Value} {w w':World} {m:Bool}
variable {e':Env} {aH:AH} {ops:Array Oper} {Q:Exit→Act→World→Prop}
theorem KA.trans {γ':List Nat} {w2:World} (hg:∀(s b:Nat),γ[s]? =some b→γ'[s]? =some b) (hC:∀b,C b <+: C' b) (h:KA m γ C w w') (h':KA m γ' C' w' w2):KA m γ C w w2:=
 ⟨fun b i hi=>(h'.1 b i (Nat.lt_of_lt_of_le hi (hC b).length_le)).trans (h.1 b i hi),fun hm s b hs=>(h'.2 hm s b (hg s b hs)).trans (h.2 hm s b hs)⟩
theorem Tr {γ γ':List Nat} (h:γ <+: γ') {s b:Nat} (hs:γ[s]? =some b):γ'[s]? =some b:=by
 obtain ⟨q,rfl⟩:=h
 rw [List.getElem?_append_left (List.getElem?_eq_some_iff.1 hs).1];exact hs
theorem KA.Hr {e ah ts e' aH ts'} {γ':List Nat} (h:SR L N F γ C e ah ts w) (h':SR L N F γ' C' e' aH ts' w') (hx:Ext F C w C' w')
 (ho:m=true→∀(s b:Nat),γ[s]? =some b→w'.heap[b]? =w.heap[b]?):KA m γ C w w':=by
 refine ⟨fun b i hi=> ?_,ho⟩
 rw [oX h hi,oX h' (Nat.lt_of_lt_of_le hi (hx.pre b).length_le),hM (hx.pre b) hi]
theorem Br (a:Act) (d:Option Nat) (v:Value) (h:a.defers=[]):a.put d v=⟨(a.put d v).tmps,[]⟩:=by
 obtain ⟨ts,ds⟩:=a
 simp only at h
 subst h
 cases d<;>rfl
theorem JE {o:Oper} {i:Nat} {op:fH} {g:Option (Nat×Bool)} {zq:List aQ} {K:Env→AH→Prop} {R:Act→World→Prop} (hi:ops[i]? =some o) (hop:dm P m o=some op.er) (hg:gY ops o.guard=some g)
 (jJ:∀x,o.dst=some x→x<N) (hs:SR L N F γ C e ah ts w) (hk:ey P L (⟨o.dst,op,g⟩::zq) e ah K)
 (next:∀v e' aH γ' C' w',ey P L zq e' aH K→γ <+: γ'→SR L N F γ' C' e' aH ((⟨ts,[]⟩:Act).put o.dst v).tmps w'→Ext F C w C' w'→(Gw P m o=true→KA m γ C w w')→R ((⟨ts,[]⟩:Act).put o.dst v) w'):
 wpOp P ops Q i R ⟨ts,[]⟩ w:=by
 unfold wpOp
 simp only [hi]
 simp only [ey] at hk
 split at hk
 · rename_i tU
   rw [if_pos (iJ hs hg tU)]
   refine .inl ?_
   by_cases eU:op.oI=true
   · cases op with
     |call f vS=>
      have hop:cop P o=some (.call f vS):=by
       cases m with
       |true=>simpa [dm,fH.er] using hop
       |false=>
        simp only [dm,Bool.false_eq_true,if_false,Option.map_eq_some_iff] at hop
        obtain ⟨op',h1,h2⟩:=hop
        rw [h1,GH h2]
      simp only [zY] at hk
      split at hk
      case h_2=>exact hk.elim
      rename_i f' caps Z9
      obtain ⟨hfl,hk⟩:=hk
      obtain ⟨x,args,tys,ho,hx,hargs⟩:=Bp hop
      have h1:=bU (ds:=[]) hs hx
      rw [Z9] at h1
      obtain ⟨vs,Tq,hcl,oJ⟩:=h1.1.Dw
      obtain ⟨c1,c2⟩:=GJ hs _ _ _ hargs
      have DY:=Jz (d:=o.dst) (ds:=[]) (vs:=args.map (Act.eval ⟨ts,[]⟩)++vs) hs jJ hk (by simp [c1,hcl]) (DW hs hfl hcl oJ c1 c2)
      have L0:(execOp (Act.eval ⟨ts,[]⟩) o).run P w= .ok (.enter f' (args.map (Act.eval ⟨ts,[]⟩)++vs)) w:=by
       rw [ho];exact DV hk.1 Tq
      unfold Oper.wp
      rw [L0]
      simp only [Oper.upon]
      refine DY.mono ?_
      rintro en w1 ⟨r,v,b6,γ1,C1,rfl,hR,hγ,hs1,hx1⟩
      refine next v _ b6 γ1 C1 w1 hR hγ hs1 hx1 fun hst=>KA.Hr hs hs1 hx1 fun hm=> ?_
      rw [ho] at hst
      simp [Gw,dR,gZ,zL,hm] at hst
     |mI k b x y=>
      simp only [zY] at hk
      obtain ⟨e1,b6,hk',v,w1,γ1,C1,hr,hγ,hs1,hx1,hst, -⟩:=GD (ds:=[]) hs jJ hop hk
      have nx:=next v e1 b6 γ1 C1 w1 hk' hγ hs1 hx1 fun h=>KA.Hr hs hs1 hx1 fun hm=>by
       refine hst ?_
       obtain ⟨_,_,_,_,_,_,ho, -⟩:=DT (Bo hop)
       rw [ho] at h
       simp [Gw,dR,gZ,hm] at h
      unfold Oper.wp
      rcases hr with hr|⟨hr,rfl⟩<;>rw [hr]<;>exact nx
     |nq n x=>
      simp only [zY] at hk
      obtain ⟨e1,b6,hk',v,w1,γ1,C1,hr,hγ,hs1,hx1,hst, -⟩:=Ho (ds:=[]) hs jJ hop hk
      have nx:=next v e1 b6 γ1 C1 w1 hk' hγ hs1 hx1 fun h=>KA.Hr hs hs1 hx1 fun hm=>by
       refine hst ?_
       obtain ⟨_,_,_,_,_,ho, -⟩:=OK (Jw hop)
       rw [ho];rfl
      unfold Oper.wp
      rcases hr with hr|⟨hr,rfl⟩<;>rw [hr]<;>exact nx
     |_=>cases eU
   · have rq:op.oI=false:=by simpa using eU
     have hk':match bN L ⟨o.dst,op,g⟩ e ah with|some (e',aH)=>ey P L zq e' aH K|none=>False:=by
      cases op<;>first|exact hk|cases rq
     rw [vQ] at hk'
     cases hev:bN L ⟨o.dst,op,none⟩ e ah with
     |none=>rw [hev] at hk';exact hk'.elim
     |some ea=>
      obtain ⟨e1,b6⟩:=ea
      rw [hev] at hk'
      obtain ⟨v,w1,γ1,C1,hr,hγ,hs1,hx1,hst, -⟩:=Jy (ds:=[]) hs jJ hop rq hev
      have nx:=next v e1 b6 γ1 C1 w1 hk' hγ hs1 hx1 fun h=>KA.Hr hs hs1 hx1 fun hm=>by
       refine hst ?_
       cases Hj:gZ o.op with
       |false=>rfl
       |true=>
        exfalso
        cases ho:o.op with
        |call c=>
         rw [ho] at Hj
         obtain ⟨ce,_,_⟩:=c
         cases ce with
         |builtin b=>cases b<;>simp [gZ] at Hj;simp [Gw,dR,gZ,ho,hm] at h
         |_=>simp [gZ] at Hj
        |store a b c=>simp [Gw,dR,gZ,ho,hm] at h
        |_=>rw [ho] at Hj;simp [gZ] at Hj
      unfold Oper.wp
      rcases hr with hr|⟨hr,rfl⟩<;>rw [hr]<;>exact nx
 · rename_i tU
   have hw:=iJ hs hg tU
   rw [if_neg (by rw [hw];simp)]
   refine next undef _ ah γ C w hk (List.prefix_refl _) ?_ (Ext.refl ..) fun _=>KA.refl ..
   cases ho:o.dst with
   |none=>exact hs
   |some d=>exact hs.Cn (jJ d ho) (.bK _ [] #[] rfl (by simp)) (by simp [undef,TC]) rfl (by simp)
 · exact hk.elim
theorem PZ {o:Oper} {op:fH} {g:Option (Nat×Bool)} {zq:List aQ} {K:Env→AH→Prop} (hq:dR P o.op=true) (hop:dm P m o=some op.er) (hg:gY ops o.guard=some g)
 (jJ:∀x,o.dst=some x→x<N) (hs:SR L N F γ C e ah ts w) (hk:ey P L (⟨o.dst,op,g⟩::zq) e ah K):
 ∃v e' aH,YieldsIf P ops (KA m γ C w) o v ⟨ts,[]⟩∧ey P L zq e' aH K∧SR L N F γ C e' aH ((⟨ts,[]⟩:Act).put o.dst v).tmps w:=by
 simp only [ey] at hk
 split at hk
 · rename_i tU
   have hw:=iJ hs hg tU
   by_cases hnq:∃n x,op= .nq n x
   · obtain ⟨n,x,rfl⟩:=hnq
     simp only [zY] at hk
     obtain ⟨e1,b6,hk',v,w1,γ1,C1,hr,hγ,hs1,hx1,hst,hqq⟩:=Ho (ds:=[]) hs jJ hop hk
     obtain ⟨rfl,rfl,rfl,hrun⟩:=hqq hq
     exact ⟨v,e1,b6, .inl ⟨hw,hrun⟩,hk',hs1⟩
   have rq:op.oI=false:=by
    cases op with
    |call f vS=>
     exfalso
     have hop:cop P o=some (.call f vS):=by
      cases m with
      |true=>simpa [dm,fH.er] using hop
      |false=>
       simp only [dm,Bool.false_eq_true,if_false,Option.map_eq_some_iff] at hop
       obtain ⟨op',h1,h2⟩:=hop
       rw [h1,GH h2]
     obtain ⟨x,args,tys,ho, -, -⟩:=Bp hop
     rw [ho] at hq
     simp [dR] at hq
    |mI k b x y=>
     exfalso
     obtain ⟨_,_,_,_,_,_,ho, -⟩:=DT (Bo hop)
     rw [ho] at hq
     simp [dR] at hq
    |nq n x=>exact absurd ⟨_,_,rfl⟩ hnq
    |_=>rfl
   have hk':match bN L ⟨o.dst,op,g⟩ e ah with|some (e',aH)=>ey P L zq e' aH K|none=>False:=by
    cases op<;>first|exact hk|cases rq
   rw [vQ] at hk'
   cases hev:bN L ⟨o.dst,op,none⟩ e ah with
   |none=>rw [hev] at hk';exact hk'.elim
   |some ea=>
    obtain ⟨e1,b6⟩:=ea
    rw [hev] at hk'
    obtain ⟨v,w1,γ1,C1,hr,hγ,hs1,hx1,hst,hqq⟩:=Jy (ds:=[]) hs jJ hop rq hev
    obtain ⟨rfl,rfl,rfl,hrun⟩:=hqq hq
    exact ⟨v,e1,b6, .inl ⟨hw,hrun⟩,hk',hs1⟩
 · rename_i tU
   refine ⟨undef,_,ah, .inr ⟨iJ hs hg tU,rfl⟩,hk, ?_⟩
   cases ho:o.dst with
   |none=>exact hs
   |some d=>exact hs.Cn (jJ d ho) (.bK _ [] #[] rfl (by simp)) (by simp [undef,TC]) rfl (by simp)
 · exact hk.elim
theorem L3:∀(l r:List (Bool×Nat)) (zq:List aQ),fN P ops (l++r)=some zq→∃a1 a2,fN P ops l=some a1∧fN P ops r=some a2∧zq=a1++a2:=by
 intro l
 induction l with
 |nil=>intro r zq h;exact ⟨[],zq,rfl,h,rfl⟩
 |cons p l ih=>
  intro r zq h
  obtain ⟨m,i⟩:=p
  simp only [List.cons_append,fN] at h
  split at h
  case h_2=>cases h
  rename_i o ho
  split at h
  case h_2=>cases h
  rename_i a g zq' h1 h2 h3
  injection h with h
  obtain ⟨a1,a2,g1,g2,rfl⟩:=ih r zq' h3
  exact ⟨⟨o.dst,a,g⟩::a1,a2,by simp [fN,ho,h1,h2,g1],g2,by rw [←h];rfl⟩
theorem JF (l r:List (Bool×Nat)) (zq:List aQ) (h:fN P ops (l++r)=some (zq.map aQ.er)):∃a1 a2,fN P ops l=some (a1.map aQ.er)∧fN P ops r=some (a2.map aQ.er)∧zq=a1++a2:=by
 obtain ⟨b1,b2,h1,h2,h3⟩:=L3 _ _ _ h
 obtain ⟨a1,a2,rfl,rfl,rfl⟩:=List.map_eq_append_iff.1 h3
 exact ⟨a1,a2,h1,h2,rfl⟩
theorem P0:∀(l r:List aQ) (e:Env) (ah:AH) (K:Env→AH→Prop),ey P L (l++r) e ah K=ey P L l e ah fun e ah=>ey P L r e ah K:=by
 intro l
 induction l with
 |nil=>intros;rfl
 |cons o l ih=>
  intro r e ah K
  simp only [List.cons_append,ey,ih]
theorem Ts:∀(l r:List aQ),lE N (l++r)=true→lE N l=true∧lE N r=true:=by
 intro l
 induction l with
 |nil=>intro r h;exact ⟨rfl,h⟩
 |cons o l ih=>
  intro r h
  simp only [List.cons_append,lE,Bool.and_eq_true] at h ⊢
  obtain ⟨h1,h2⟩:=ih r h.2
  exact ⟨⟨h.1,h1⟩,h2⟩
theorem OP {o:Oper} {a:fH} {g:Option (Nat×Bool)} {zq:List aQ} (h:lE N (⟨o.dst,a,g⟩::zq)=true):(∀x,o.dst=some x→x<N)∧lE N zq=true:=by
 simp only [lE,Bool.and_eq_true] at h
 refine ⟨fun x hx=> ?_,h.2⟩
 have:=h.1.1
 rw [hx] at this
 simpa using this
theorem Cr {i:Nat} {r:List (Bool×Nat)} {zq:List aQ} (h:fN P ops ((m,i)::r)=some zq):
 ∃o a g zq',ops[i]? =some o∧dm P m o=some a∧gY ops o.guard=some g∧fN P ops r=some zq'∧zq=⟨o.dst,a,g⟩::zq':=by
 simp only [fN] at h
 split at h
 case h_2=>cases h
 rename_i o ho
 split at h
 case h_2=>cases h
 rename_i a g zq' h1 h2 h3
 injection h with h
 exact ⟨o,a,g,zq',ho,h1,h2,h3,h.symm⟩
theorem zZ {i:Nat} {r:List (Bool×Nat)} {zq:List aQ} (h:fN P ops ((m,i)::r)=some (zq.map aQ.er)):
 ∃o a g zq',ops[i]? =some o∧dm P m o=some (fH.er a)∧gY ops o.guard=some g∧fN P ops r=some (zq'.map aQ.er)∧zq=⟨o.dst,a,g⟩::zq':=by
 obtain ⟨o,a,g,zq',h1,h2,h3,h4,h5⟩:=Cr h
 cases zq with
 |nil=>simp at h5
 |cons x xs=>
  simp only [List.map_cons,List.cons.injEq] at h5
  obtain ⟨d,op',g'⟩:=x
  obtain ⟨h6,h7⟩:=h5
  simp only [aQ.er] at h6
  injection h6 with e1 e2 e3
  subst e1;subst e2;subst e3
  exact ⟨o,op',g',xs,h1,h2,h3,by rw [h4,h7],rfl⟩
theorem P1 {D:Nat→Bool} (hsel:Region.noSelect ops=true) (hQ:∀c a w,¬Q (.panic c) a w):∀(l:List Nat) (zq:List aQ) (e:Env) (ah:AH) (γ:List Nat) (C:Nat→List Value) (ts:Array Value) (w:World) (listed:Array Bool) (n:Nat)
 (K:Env→AH→Prop),fN P ops (l.map fun i=>(m,i))=some (zq.map aQ.er)→lE N zq=true→SR L N F γ C e ah ts w→ey P L zq e ah K→vE P ops m D l listed=true→
 (∀e' aH γ' C' ts' w',K e' aH→γ <+: γ'→SR L N F γ' C' e' aH ts' w'→Ext F C w C' w'→wpS P ops Q (KA m γ' C' w') D n (l.foldl (fun a i=>a.setIfInBounds i true) listed) ⟨ts',[]⟩ w')→
 wpS P ops Q (KA m γ C w) D (l.length+n) listed ⟨ts,[]⟩ w:=by
 intro l
 induction l with
 |nil=>
  intro zq e ah γ C ts w listed n K hc hd hs hk hst cont
  simp only [List.map_nil,fN,Option.some.injEq] at hc
  obtain rfl:zq=[]:=by simpa using hc.symm
  have:=cont e ah γ C ts w hk (List.prefix_refl _) hs (Ext.refl ..)
  simpa using this
 |cons i l ih=>
  intro zq e ah γ C ts w listed n K hc hd hs hk hst cont
  obtain ⟨o,a,g,zq',ho,hop,hg,has,rfl⟩:=zZ hc
  obtain ⟨jJ,hd'⟩:=OP hd
  simp only [vE,ho,Bool.and_eq_true,Bool.or_eq_true] at hst
  obtain ⟨hst,DZ⟩:=hst
  have hlen:(i::l).length+n=(l.length+n)+1:=by simp;omega
  rw [hlen]
  rcases hst with ⟨⟨⟨⟨hq,hDi⟩,hr⟩,hfree⟩,vT⟩|⟨hok,hr⟩
  · obtain ⟨v,e1,b6,hy,Bk,hs1⟩:=PZ hq hop hg jJ hs hk
    refine L1 ho (Region.noSelect_spec hsel) hQ (fun j=>j∈Jj ops i) _ listed _ w (Region.free_spec ho hfree) (fun j hj=> ?_) (fun j hj hDj hju=> ?_) (by simpa using hr) hy (KA.refl ..) ?_
    · simp only [G2,G1,Bool.and_eq_true,List.all_eq_true] at vT
      obtain ⟨h1,h2⟩:=vT.1 j hj
      refine ⟨by simpa using h1, ?_⟩
      split at h2
      · rename_i oj L2
        obtain ⟨x,hx,hb⟩:=Array.any_eq_true'.1 h2
        simp only [Bool.and_eq_true,Bool.or_eq_true,beq_iff_eq,List.contains_iff_mem] at hb
        exact ⟨oj,L2,x,hx,hb.1,hb.2⟩
      · cases h2
    · simp only [G2,G1,Bool.and_eq_true,List.all_eq_true,List.mem_range] at vT
      have:=vT.2 j hj
      simpa [hDj,hju] using this
    · rw [Br _ _ _ rfl]
      exact ih zq' e1 b6 γ C _ w _ n K has hd' hs1 Bk DZ cont
  · have hr:Region.ready .any ops listed=[i]:=by simpa using hr
    refine ⟨fun h=>(by rw [hr] at h;cases h),fun j hj=> ?_⟩
    rw [hr] at hj
    obtain rfl:j=i:=by simpa using hj
    refine JE ho hop hg jJ hs hk fun v e1 b6 γ1 C1 w1 Bk hγ hs1 hx1 hka=>⟨fun _=>hka hok, ?_⟩
    rw [Br _ _ _ rfl]
    refine (ih zq' e1 b6 γ1 C1 _ w1 _ n K has hd' hs1 Bk DZ fun e' aH γ' C' ts' w' g1 g2 g3 g4=> ?_).mono fun w2 h2=>(hka hok).trans (fun s b hs=>Tr hγ hs) hx1.pre h2
    exact cont e' aH γ' C' ts' w' g1 (hγ.trans g2) g3 (hx1.trans g4)
theorem Fy:∀(l:List Nat) (listed:Array Bool) (j:Nat),(l.foldl (fun a i=>a.setIfInBounds i true) listed).getD j true=false→listed.getD j true=false∧j∉l:=by
 intro l
 induction l with
 |nil=>intro listed j h;exact ⟨h,by simp⟩
 |cons i l ih=>
  intro listed j h
  obtain ⟨h1,h2⟩:=ih _ j h
  refine ⟨iy h1, ?_⟩
  rw [List.mem_cons,not_or]
  refine ⟨fun hj=> ?_,h2⟩
  subst hj
  by_cases hlt:j<listed.size
  · simp [hlt] at h1
  · have:=iy h1
    simp [Array.getElem?_eq_none (Nat.le_of_not_lt hlt)] at this
theorem L4 (hsel:Region.noSelect ops=true) (hQ:∀c a w,¬Q (.panic c) a w):∀(st:List (Bool×List Nat)) (zq:List aQ) (e:Env) (ah:AH) (γ:List Nat) (C:Nat→List Value) (ts:Array Value) (w:World) (listed:Array Bool)
 (K:Env→AH→Prop),fN P ops (rZ st)=some (zq.map aQ.er)→lE N zq=true→SR L N F γ C e ah ts w→ey P L zq e ah K→oW P ops st listed=true→
 (∀e' aH γ' C' ts' w',K e' aH→γ <+: γ'→SR L N F γ' C' e' aH ts' w'→Ext F C w C' w'→Q .normal ⟨ts',[]⟩ w')→
 wpAny P .any ops Q (rZ st).length listed ⟨ts,[]⟩ w:=by
 intro st
 induction st with
 |nil=>
  intro zq e ah γ C ts w listed K hc hd hs hk hst cont
  simp only [rZ,fN,Option.some.injEq] at hc
  obtain rfl:zq=[]:=by simpa using hc.symm
  exact ⟨by simpa [oW] using hst,cont e ah γ C ts w hk (List.prefix_refl _) hs (Ext.refl ..)⟩
 |cons s st ih=>
  intro zq e ah γ C ts w listed K hc hd hs hk hst cont
  obtain ⟨m,l⟩:=s
  simp only [rZ] at hc ⊢
  obtain ⟨a1,a2,hc1,hc2,rfl⟩:=JF _ _ _ hc
  obtain ⟨hd1,CK⟩:=Ts _ _ hd
  rw [P0] at hk
  unfold oW at hst
  rw [Bool.and_eq_true] at hst
  obtain ⟨hst,DZ⟩:=hst
  have key:∀(Q':Nat→Bool),vE P ops m Q' l listed=true→(∀j,Q' j= !l.contains j)→wpAny P .any ops Q (l.map (fun i=>(m,i))++rZ st).length listed ⟨ts,[]⟩ w:=by
   intro D acJ hD
   rw [List.length_append,List.length_map]
   refine (P1 hsel hQ l a1 e ah γ C ts w listed _ _ hc1 hd1 hs hk acJ fun e' aH γ' C' ts' w' g1 g2 g3 g4=> ?_).any
   refine Cq (fun j hj=> ?_) (ih a2 e' aH γ' C' ts' w' _ K hc2 CK g3 g1 DZ fun e2 qI γ2 C2 LZ w2 q1 q2 q3 q4=>cont e2 qI γ2 C2 LZ w2 q1 (g2.trans q2) q3 (g4.trans q4))
   rw [hD]
   simpa using (Fy l listed j hj).2
  split at hst
  · rename_i i
    simp only [Bool.and_eq_true,beq_iff_eq] at hst
    obtain ⟨rfl,hr⟩:=hst
    obtain ⟨o,a,g,zq',ho,hop,hg,has,rfl⟩:=zZ hc1
    simp only [List.map_nil,fN,Option.some.injEq] at has
    obtain rfl:zq'=[]:=by simpa using has.symm
    obtain ⟨jJ, -⟩:=OP hd1
    refine ⟨fun h=>(by rw [hr] at h;cases h),fun j hj=> ?_⟩
    rw [hr] at hj
    obtain rfl:j=i:=by simpa using hj
    refine JE ho hop hg jJ hs hk fun v e1 b6 γ1 C1 w1 Bk hγ hs1 hx1 hka=> ?_
    rw [Br _ _ _ rfl]
    exact ih a2 e1 b6 γ1 C1 _ w1 _ K hc2 CK hs1 Bk DZ fun e2 qI γ2 C2 LZ w2 q1 q2 q3 q4=>cont e2 qI γ2 C2 LZ w2 q1 (hγ.trans q2) q3 (hx1.trans q4)
  · exact key _ hst fun _=>rfl
theorem P2 {st:List (Bool×List Nat)} (h:sched P ops=some st):oW P ops st (Array.replicate ops.size false)=true∧(rZ st).length=ops.size:=by
 have:zN P ops st=true:=by
  unfold sched at h
  split at h
  · rename_i s hs
    injection h with h;subst h
    exact (Option.filter_eq_some_iff.1 hs).2
  · exact (Option.filter_eq_some_iff.1 h).2
 simpa [zN] using this
theorem AW.drawn {id:Nat} {st:List (Bool×List Nat)} {zq:List aQ} {Q:Exit→Env→AH→Prop} (hm:P.follows .mixedOrders=true) (hsel:Region.noSelect ops=true) (hst:sched P ops=some st) (hc:fN P ops (rZ st)=some (zq.map aQ.er))
 (hd:lE N zq=true) (h:ey P L zq e ah fun e ah=>Q .normal (keep L e) ah):AW P L N n0 (.region id ops true) Q e ah:=by
 intro F γ C ts w hs hn
 obtain ⟨h1,h2⟩:=P2 hst
 refine wp_mono (Q:=fun x a' w'=>x= .normal∧a'.defers=[]∧NG x∧∃e' aH γ' C',Q x e' aH∧γ.take n0 <+: γ'∧SR L N F γ' C' e' aH a'.tmps w'∧Ext F C w C' w') ?_ (fun _ _ _ h=>h.2)
 refine wp_region_any hm ?_
 have hw0:∀b,b<w.heap.size→({w with drawn:=w.drawn+1}:World).heap[b]? =w.heap[b]? :=fun _ _=>rfl
 obtain ⟨hs1,hx1⟩:=hs.grow (w':= {w with drawn:=w.drawn+1}) (C':=C) hw0 (Nat.le_refl _) (fun _ _=>rfl) (fun b hb hne=>absurd (vN hs hb) hne)
 have kY:=fun q=>L4 (Q:=fun x a' w'=>x= .normal∧a'.defers=[]∧NG x∧∃e' aH γ' C',Q x e' aH∧γ.take n0 <+: γ'∧SR L N F γ' C' e' aH a'.tmps w'∧Ext F C w C' w') hsel (fun c a w hq=>by cases hq.1) st zq e ah γ C ts _ _ _ hc hd hs1 h h1 q
 rw [h2] at kY
 refine kY fun e' aH γ' C' ts' w' q1 q2 q3 q4=> ?_
 exact ⟨rfl,rfl,trivial,keep L e',aH,γ',C',q1,GI q2,q3.keep L,hx1.trans q4⟩
end
end Go.Am
end
section
namespace Go.Am
open Go
variable [Tabs]
def qJ (N:Nat):aD→Bool
 | .rg ops=>lE N ops
 | .seq a b| .cond _ a b=>qJ N a&&qJ N b
 | .blk _ c| .loop c=>qJ N c
 |_=>true
def AX (P:Program) (L:List Nat) (N n0:Nat) (c:aD) (Q:Exit→Env→AH→Prop) (e:Env) (ah:AH):Prop:=
 ∀c',bQ P c'=some c→AW P L N n0 c' Q e ah
def jS (P:Program) (L:List Nat) (N n0:Nat):aD→(Exit→Env→AH→Prop)→Env→AH→Prop
 | .skip,Q,e,ah=>Q .normal e ah
 | .ret,Q,e,ah=>Q .ret e ah
 | .exit i,Q,e,ah=>Q (.exit i) e ah
 | .rg ops,Q,e,ah=>ey P L ops e ah fun e ah=>Q .normal (keep L e) ah
 | .seq a b,Q,e,ah=>jS P L N n0 a (fun x e ah=>match x with| .normal=>jS P L N n0 b Q e ah|x=>Q x e ah) e ah
 | .cond c a b,Q,e,ah=>match ev e c with
   | .bool t=>if t then jS P L N n0 a Q e ah else jS P L N n0 b Q e ah
   |_=>False
 | .blk i c,Q,e,ah=>jS P L N n0 c (fun x e ah=>match x with| .exit j=>if j=i then Q .normal e ah else Q (.exit j) e ah|x=>Q x e ah) e ah
 | .loop c,Q,e,ah=>AX P L N n0 (.loop c) Q e ah
 | .sem c,Q,e,ah=>AX P L N n0 c Q e ah
section
variable {P:Program} {L:List Nat} {N n0:Nat} {e:Env} {ah:AH}
theorem AW.region {id:Nat} {ops:Array Oper} {zq:List aQ} {Q:Exit→Env→AH→Prop} (hc:jU P ops ops.toList=some (zq.map aQ.er)) (hd:lE N zq=true)
 (h:ey P L zq e ah fun e ah=>Q .normal (keep L e) ah):AW P L N n0 (.region id ops false) Q e ah:=by
 intro F γ C ts w hs hn
 refine wp_region_list (XE ops.toList zq e ah _ F γ C ts w _ hc hd hs h ?_)
 intro e' aH γ' C' ts' w' hq hγ hs' hx
 exact ⟨rfl,trivial,keep L e',aH,γ',C',hq,GI hγ,hs'.keep L,hx⟩
theorem oY:∀(c':Code) (c:aD) (Q:Exit→Env→AH→Prop) (e:Env) (ah:AH),bQ P c'=some (erase c)→qJ N (erase c)=true→jS P L N n0 c Q e ah→AW P L N n0 c' Q e ah:=by
 intro c'
 induction c' with
 |skip=>
  intro c Q e ah hc ho h
  cases c with
  |sem c0=>exact h _ hc
  |skip=>exact AW.skip h
  |_=>simp [bQ,erase] at hc
 |label l=>
  intro c Q e ah hc ho h
  cases c with
  |sem c0=>exact h _ hc
  |skip=>exact AW.label h
  |_=>simp [bQ,erase] at hc
 |ret=>
  intro c Q e ah hc ho h
  cases c with
  |sem c0=>exact h _ hc
  |ret=>exact AW.ret h
  |_=>simp [bQ,erase] at hc
 |exit i=>
  intro c Q e ah hc ho h
  cases c with
  |sem c0=>exact h _ hc
  |exit j=>simp [bQ,erase] at hc;subst hc;exact AW.exit h
  |_=>simp [bQ,erase] at hc
 |region id ops draw=>
  intro c Q e ah hc ho h
  cases c with
  |sem c0=>exact h _ hc
  |rg zq=>
   simp only [bQ,erase] at hc
   cases draw with
   |true=>
    simp only [if_true] at hc
    split at hc
    case isFalse=>cases hc
    rename_i hmn
    simp only [Bool.and_eq_true] at hmn
    split at hc
    case h_2=>cases hc
    rename_i st hst
    simp only [Option.map_eq_some_iff] at hc
    obtain ⟨zq',has,he⟩:=hc
    injection he with he
    subst he
    exact AW.drawn hmn.1 hmn.2 hst has (by simpa only [erase,qJ,OL] using ho) h
   |false=>
    simp only [Bool.false_eq_true,if_false,Option.map_eq_some_iff] at hc
    obtain ⟨zq',has,he⟩:=hc
    injection he with he
    subst he
    exact AW.region has (by simpa only [erase,qJ,OL] using ho) h
  |_=>simp only [bQ,erase] at hc;repeat' (split at hc)<;>simp at hc
 |seq a b D0 D1=>
  intro c Q e ah hc ho h
  cases c with
  |sem c0=>exact h _ hc
  |seq x y=>
   simp only [bQ,erase] at hc
   split at hc
   case h_2=>cases hc
   rename_i a' b' ha hb
   injection hc with hc
   injection hc with h1 h2
   subst h1;subst h2
   simp only [erase,qJ,Bool.and_eq_true] at ho
   refine AW.seq ((D0 x _ e ah ha ho.1 h).mono fun x e ah hx=> ?_)
   cases x with
   |normal=>exact D1 y _ e ah hb ho.2 hx
   |_=>exact hx
  |_=>simp only [bQ,erase] at hc;split at hc<;>simp at hc
 |cond c0 a b D0 D1=>
  intro c Q e ah hc ho h
  cases c with
  |sem c0=>exact h _ hc
  |cond c2 x y=>
   simp only [bQ,erase] at hc
   split at hc
   case h_2=>cases hc
   rename_i c1 a' b' h1 ha hb
   injection hc with hc
   injection hc with g0 g1 g2
   subst g0;subst g1;subst g2
   simp only [erase,qJ,Bool.and_eq_true] at ho
   simp only [jS] at h
   split at h
   case h_2=>exact h.elim
   rename_i t ht
   refine AW.cond h1 ht ?_
   cases t with
   |true=>exact D0 x Q e ah ha ho.1 h
   |false=>exact D1 y Q e ah hb ho.2 h
  |_=>simp only [bQ,erase] at hc;split at hc<;>simp at hc
 |block i c0 ih=>
  intro c Q e ah hc ho h
  cases c with
  |sem c0=>exact h _ hc
  |blk j x=>
   simp only [bQ,erase,Option.map_eq_some_iff] at hc
   obtain ⟨a,ha,he⟩:=hc
   injection he with h1 h2
   subst h1;subst h2
   exact AW.blk (ih x _ e ah ha ho h)
  |_=>simp [bQ,erase] at hc
 |loop c0 ih=>
  intro c Q e ah hc ho h
  cases c with
  |sem c0=>exact h _ hc
  |loop x=>exact h _ hc
  |_=>simp [bQ,erase] at hc
 |rangeFunc=>intro c Q e ah hc;simp [bQ] at hc
 |goto=>intro c Q e ah hc;simp [bQ] at hc
 |scope c0 ih=>intro c Q e ah hc ho h;exact AW.scope (ih c Q e ah hc ho h)
 |refuse=>intro c Q e ah hc;simp [bQ] at hc
theorem Bs {o:Oper} {x:Ar} (h:cop P o=some (.uB x)):False:=by
 obtain ⟨d,oo,ty,pos,af,gd⟩:=o
 cases oo with
 |makeFunc fn first cs=>
  cases fn with
  |func f=>simp only [cop] at h;split at h<;>simp at h
  |_=>simp [cop] at h
 |call c=>
  obtain ⟨callee,args,tys⟩:=c
  simp only [cop] at h
  (repeat' (split at h))<;>(first|(cases h;done)|(simp at h;done))
 |_=>
  simp only [cop] at h
  first
   |cases h;done
   |(simp at h;done)
   |(repeat' (split at h))<;>(first|(cases h;done)|(simp at h;done))
theorem yp {o:Oper} {k b:Nat} {x y:Ar} (h:cop P o=some (.mI k b x y)):False:=by
 obtain ⟨d,oo,ty,pos,af,gd⟩:=o
 cases oo with
 |makeFunc fn first cs=>
  cases fn with
  |func f=>simp only [cop] at h;split at h<;>simp at h
  |_=>simp [cop] at h
 |call c=>
  obtain ⟨callee,args,tys⟩:=c
  simp only [cop] at h
  (repeat' (split at h))<;>(first|(cases h;done)|(simp at h;done))
 |_=>
  simp only [cop] at h
  first
   |cases h;done
   |(simp at h;done)
   |(repeat' (split at h))<;>(first|(cases h;done)|(simp at h;done))
theorem Bt {o:Oper} {k:Nat} {x:Ar} (h:cop P o=some (.Bi k x)):False:=by
 obtain ⟨d,oo,ty,pos,af,gd⟩:=o
 cases oo with
 |makeFunc fn first cs=>
  cases fn with
  |func f=>simp only [cop] at h;split at h<;>simp at h
  |_=>simp [cop] at h
 |call c=>
  obtain ⟨callee,args,tys⟩:=c
  simp only [cop] at h
  (repeat' (split at h))<;>(first|(cases h;done)|(simp at h;done))
 |_=>
  simp only [cop] at h
  first
   |cases h;done
   |(simp at h;done)
   |(repeat' (split at h))<;>(first|(cases h;done)|(simp at h;done))
theorem yq {o:Oper} {k:Nat} {x:List Ar} (h:cop P o=some (.pn k x)):False:=by
 obtain ⟨d,oo,ty,pos,af,gd⟩:=o
 cases oo with
 |makeFunc fn first cs=>
  cases fn with
  |func f=>simp only [cop] at h;split at h<;>simp at h
  |_=>simp [cop] at h
 |call c=>
  obtain ⟨callee,args,tys⟩:=c
  simp only [cop] at h
  (repeat' (split at h))<;>(first|(cases h;done)|(simp at h;done))
 |_=>
  simp only [cop] at h
  first
   |cases h;done
   |(simp at h;done)
   |(repeat' (split at h))<;>(first|(cases h;done)|(simp at h;done))
theorem XF {o:Oper} {op:fH} (h:cop P o=some op):op.er=op:=by
 cases op with
 |uB x=>exact (Bs h).elim
 |mI=>exact (yp h).elim
 |Bi=>exact (Bt h).elim
 |pn=>exact (yq h).elim
 |_=>rfl
theorem Tt {m:Bool} {o:Oper} {op:fH} (h:dm P m o=some op):op.er=op:=by
 cases op with
 |uB x=>
  exfalso
  cases m with
  |true=>exact Bs (by simpa [dm] using h)
  |false=>
   simp only [dm,Bool.false_eq_true,if_false,Option.map_eq_some_iff] at h
   obtain ⟨op',h1,h2⟩:=h
   cases op' with
   |ec hh y=>cases hh<;>cases h2
   |ld y n=>cases h2
   |uB y=>exact Bs h1
   |_=>cases h2
 |mI=>
  exfalso
  cases m with
  |true=>exact yp (by simpa [dm] using h)
  |false=>
   simp only [dm,Bool.false_eq_true,if_false,Option.map_eq_some_iff] at h
   obtain ⟨op',h1,h2⟩:=h
   cases op' with
   |ec hh y=>cases hh<;>cases h2
   |ld y n=>cases h2
   |mI=>exact yp h1
   |_=>cases h2
 |Bi=>
  exfalso
  cases m with
  |true=>exact Bt (by simpa [dm] using h)
  |false=>
   simp only [dm,Bool.false_eq_true,if_false,Option.map_eq_some_iff] at h
   obtain ⟨op',h1,h2⟩:=h
   cases op' with
   |ec hh y=>cases hh<;>cases h2
   |ld y n=>cases h2
   |Bi=>exact Bt h1
   |_=>cases h2
 |pn=>
  exfalso
  cases m with
  |true=>exact yq (by simpa [dm] using h)
  |false=>
   simp only [dm,Bool.false_eq_true,if_false,Option.map_eq_some_iff] at h
   obtain ⟨op',h1,h2⟩:=h
   cases op' with
   |ec hh y=>cases hh<;>cases h2
   |ld y n=>cases h2
   |pn=>exact yq h1
   |_=>cases h2
 |_=>rfl
theorem Tu {ops:Array Oper}:∀(n:Nat) (l:List Oper) (zq:List aQ),l.length≤n→jU P ops l=some zq→zq.map aQ.er=zq:=by
 intro n
 induction n with
 |zero=>
  intro l zq hn h
  obtain rfl:l=[]:=List.eq_nil_of_length_eq_zero (by omega)
  simp only [jU,Option.some.injEq] at h;subst h;rfl
 |succ n ih=>
  intro l zq hn h
  rcases Cp h with ⟨rfl,rfl⟩|⟨o,o2,r,a,zq',rfl,h2,h3,rfl⟩|⟨o,o2,r,ag,zq',rfl,h2,h3,rfl⟩|⟨o,r,op,g,zq',rfl,h2,h3,h4,rfl⟩
  · rfl
  · obtain ⟨y,bs,hl⟩:=DX h2
    obtain ⟨d,op,g⟩:=a
    simp only at hl;subst hl
    simp only [List.map_cons,ih r zq' (by simp at hn;omega) h3];rfl
  · obtain ⟨d,y,bs,t,w,g,rfl, -⟩:=Bq h2
    simp only [List.cons_append,List.nil_append,List.map_cons,ih r zq' (by simp at hn;omega) h3];rfl
  · have he:op.er=op:=by
     rcases h2 with h2|rfl
     · exact XF h2
     · rfl
    simp only [List.map_cons,ih r zq' (by simp at hn;omega) h4,aQ.er,he]
theorem P3 {ops:Array Oper}:∀(l:List (Bool×Nat)) (zq:List aQ),fN P ops l=some zq→zq.map aQ.er=zq:=by
 intro l
 induction l with
 |nil=>intro zq h;simp only [fN,Option.some.injEq] at h;subst h;rfl
 |cons p r ih=>
  intro zq h
  obtain ⟨m,i⟩:=p
  obtain ⟨o,a,g,zq',h1,h2,h3,h4,rfl⟩:=Cr h
  simp only [List.map_cons,ih zq' h4,aQ.er,Tt h2]
theorem ju:∀(c':Code) (c:aD),bQ P c'=some c→erase c=c:=by
 intro c'
 induction c' with
 |skip=>intro c hc;simp [bQ] at hc;subst hc;rfl
 |label l=>intro c hc;simp [bQ] at hc;subst hc;rfl
 |ret=>intro c hc;simp [bQ] at hc;subst hc;rfl
 |exit i=>intro c hc;simp [bQ] at hc;subst hc;rfl
 |region id ops draw=>
  intro c hc
  simp only [bQ] at hc
  cases draw with
  |true=>
   simp only [if_true] at hc
   split at hc
   · split at hc
     · simp only [Option.map_eq_some_iff] at hc;obtain ⟨zq,has,rfl⟩:=hc;simp only [erase,P3 _ _ has]
     · cases hc
   · cases hc
  |false=>simp only [Bool.false_eq_true,if_false,Option.map_eq_some_iff] at hc;obtain ⟨zq,has,rfl⟩:=hc;simp only [erase,Tu _ _ _ (Nat.le_refl _) has]
 |seq a b D0 D1=>
  intro c hc
  simp only [bQ] at hc
  split at hc
  case h_2=>cases hc
  rename_i a' b' ha hb
  injection hc with hc
  subst hc
  simp only [erase,D0 _ ha,D1 _ hb]
 |cond c0 a b D0 D1=>
  intro c hc
  simp only [bQ] at hc
  split at hc
  case h_2=>cases hc
  rename_i c1 a' b' h1 ha hb
  injection hc with hc
  subst hc
  simp only [erase,D0 _ ha,D1 _ hb]
 |block i c0 ih=>intro c hc;simp only [bQ,Option.map_eq_some_iff] at hc;obtain ⟨a,ha,rfl⟩:=hc;simp only [erase,ih _ ha]
 |loop c0 ih=>intro c hc;simp only [bQ,Option.map_eq_some_iff] at hc;obtain ⟨a,ha,rfl⟩:=hc;rfl
 |rangeFunc=>intro c hc;simp [bQ] at hc
 |goto=>intro c hc;simp [bQ] at hc
 |scope c0 ih=>intro c hc;exact ih c hc
 |refuse=>intro c hc;simp [bQ] at hc
inductive It where
 |ops (r:List aQ)
 |keep
 |code (c:aD)
 |blk (i:Nat)
def U (P:Program) (L:List Nat) (N n0:Nat):List It→(Exit→Env→AH→Prop)→Exit→Env→AH→Prop
 |[],Q,x,e,ah=>Q x e ah
 | .code c::t,Q, .normal,e,ah=>jS P L N n0 c (fun x e ah=>U P L N n0 t Q x e ah) e ah
 | .ops r::t,Q, .normal,e,ah=>ey P L r e ah fun e ah=>U P L N n0 t Q .normal e ah
 | .keep::t,Q, .normal,e,ah=>U P L N n0 t Q .normal (keep L e) ah
 | .blk i::t,Q, .exit j,e,ah=>if j=i then U P L N n0 t Q .normal e ah else U P L N n0 t Q (.exit j) e ah
 | .blk _::t,Q,x,e,ah=>U P L N n0 t Q x e ah
 | .code _::t,Q,x,e,ah=>U P L N n0 t Q x e ah
 | .ops _::t,Q,x,e,ah=>U P L N n0 t Q x e ah
 | .keep::t,Q,x,e,ah=>U P L N n0 t Q x e ah
def UK (P:Program) (L:List Nat) (N n0 f:Nat) (zq:List AV) (d:Option Nat) (r:List aQ) (t:List It) (Q:Exit→Env→AH→Prop) (e:Env) (ah:AH):Prop:=
 aG P f zq ah fun v aH=>U P L N n0 (.ops r::t) Q .normal (aI L (vR e) d v.df) aH
def UF (P:Program) (L:List Nat) (N n0:Nat) (zq:List Ar) (d:Option Nat) (r:List aQ) (t:List It) (Q:Exit→Env→AH→Prop) (e:Env) (ah:AH):AV→Prop
 | .fn f caps=>if bZ caps then UK P L N n0 f (zq.map (fun x=>(ev e x).sh)++caps.map AV.s1) d r t Q e ah else False
 |_=>False
def US (P:Program) (L:List Nat) (N n0:Nat) (r:List aQ) (t:List It) (Q:Exit→Env→AH→Prop):Option (Env×AH)→Prop
 |some (e,ah)=>U P L N n0 (.ops r::t) Q .normal e ah
 |none=>False
def UG (P:Program) (L:List Nat) (N n0:Nat) (o:aQ) (r:List aQ) (t:List It) (Q:Exit→Env→AH→Prop) (e:Env) (ah:AH):Option Bool→Prop
 |some true=>match o.op with
  | .call f zq=>UF P L N n0 zq o.d r t Q e ah (ev e f)
  | .mI k b x y=>pz L o.d k b x y e ah fun e ah=>U P L N n0 (.ops r::t) Q .normal e ah
  | .nq n x=>DG L o.d n x e ah fun e ah=>U P L N n0 (.ops r::t) Q .normal e ah
  |_=>US P L N n0 r t Q (bN L o e ah)
 |some false=>U P L N n0 (.ops r::t) Q .normal (pK e o.d) ah
 |none=>False
def UC (P:Program) (L:List Nat) (N n0:Nat) (a b:aD) (t:List It) (Q:Exit→Env→AH→Prop) (e:Env) (ah:AH):AV→Prop
 | .bool true=>U P L N n0 (.code a::t) Q .normal e ah
 | .bool false=>U P L N n0 (.code b::t) Q .normal e ah
 |_=>False
def UX (P:Program) (L:List Nat) (N n0:Nat) (c:aD) (t:List It) (Q:Exit→Env→AH→Prop) (e:Env) (ah:AH):Prop:=
 AX P L N n0 c (fun x e ah=>U P L N n0 t Q x e ah) e ah
variable {t:List It} {Q:Exit→Env→AH→Prop} {x:Exit}
@[simp] theorem aaa:U P L N n0 [] Q x e ah=Q x e ah:=rfl
@[simp] theorem XG:U P L N n0 (.code .skip::t) Q .normal e ah=U P L N n0 t Q .normal e ah:=rfl
@[simp] theorem aab:U P L N n0 (.code .ret::t) Q .normal e ah=U P L N n0 t Q .ret e ah:=rfl
@[simp] theorem XH {i:Nat}:U P L N n0 (.code (.exit i)::t) Q .normal e ah=U P L N n0 t Q (.exit i) e ah:=rfl
theorem Tv (b:aD):(fun x e ah=>match x with| .normal=>jS P L N n0 b (fun x e ah=>U P L N n0 t Q x e ah) e ah|x=>U P L N n0 t Q x e ah)=fun x e ah=>U P L N n0 (.code b::t) Q x e ah:=by
 funext x e ah
 cases x<;>rfl
@[simp] theorem aac {a b:aD}:U P L N n0 (.code (.seq a b)::t) Q .normal e ah=U P L N n0 (.code a:: .code b::t) Q .normal e ah:=by
  simp only [U,jS]
  exact congrArg (fun K=>jS P L N n0 a K e ah) (Tv b)
@[simp] theorem aad {i:Nat} {c:aD}:U P L N n0 (.code (.blk i c)::t) Q .normal e ah=U P L N n0 (.code c:: .blk i::t) Q .normal e ah:=by
  have:(fun x e ah=>match x with| .exit j=>if j=i then U P L N n0 t Q .normal e ah else U P L N n0 t Q (.exit j) e ah|x=>U P L N n0 t Q x e ah)=fun x e ah=>U P L N n0 (.blk i::t) Q x e ah:=by
   funext x e ah
   cases x<;>rfl
  exact congrArg (fun K=>jS P L N n0 c K e ah) this
@[simp] theorem acK {ops:List aQ}:U P L N n0 (.code (.rg ops)::t) Q .normal e ah=U P L N n0 (.ops ops:: .keep::t) Q .normal e ah:=rfl
@[simp] theorem XI {c:aD}:U P L N n0 (.code (.loop c)::t) Q .normal e ah=UX P L N n0 (.loop c) t Q e ah:=rfl
@[simp] theorem aae {c:aD}:U P L N n0 (.code (.sem c)::t) Q .normal e ah=UX P L N n0 c t Q e ah:=rfl
@[simp] theorem XJ {c:Ar} {a b:aD}:U P L N n0 (.code (.cond c a b)::t) Q .normal e ah=UC P L N n0 a b t Q e ah (ev e c):=by
  simp only [U,jS]
  cases ev e c with
  |bool t=>cases t<;>rfl
  |_=>rfl
@[simp] theorem XK:U P L N n0 (.keep::t) Q .normal e ah=U P L N n0 t Q .normal (keep L e) ah:=rfl
@[simp] theorem Tw {i:Nat}:U P L N n0 (.blk i::t) Q .normal e ah=U P L N n0 t Q .normal e ah:=rfl
@[simp] theorem Tx {i:Nat}:U P L N n0 (.blk i::t) Q .ret e ah=U P L N n0 t Q .ret e ah:=rfl
@[simp] theorem Ty {i j:Nat}:U P L N n0 (.blk i::t) Q (.exit j) e ah=if j=i then U P L N n0 t Q .normal e ah else U P L N n0 t Q (.exit j) e ah:=rfl
@[simp] theorem P4 {c:aD}:U P L N n0 (.code c::t) Q .ret e ah=U P L N n0 t Q .ret e ah:=by cases c<;>rfl
@[simp] theorem P5 {c:aD} {j:Nat}:U P L N n0 (.code c::t) Q (.exit j) e ah=U P L N n0 t Q (.exit j) e ah:=by cases c<;>rfl
@[simp] theorem L5:U P L N n0 (.ops []::t) Q .normal e ah=U P L N n0 t Q .normal e ah:=rfl
@[simp] theorem aaf {o:aQ} {r:List aQ}:U P L N n0 (.ops (o::r)::t) Q .normal e ah=UG P L N n0 o r t Q e ah (gI e o):=by
  simp only [U,ey]
  cases gI e o with
  |none=>rfl
  |some b=>
   cases b with
   |false=>rfl
   |true=>
    obtain ⟨d,op,g⟩:=o
    cases op with
    |call f zq=>
     simp only [zY,UG]
     cases ev e f with
     |fn f' caps=>
      simp only [UF,UK]
      by_cases hf:bZ caps=true
      · simp only [hf,if_true,true_and];rfl
      · simp [hf]
     |_=>rfl
    |mI k b x y=>rfl
    |nq n x=>rfl
    |_=>
     simp only [zY,UG,US]
     cases bN L ⟨d,_,g⟩ e ah with
     |none=>rfl
     |some ea=>obtain ⟨e',aH⟩:=ea;rfl
@[simp] theorem Tz {r:List aQ} {e':Env} {aH:AH}:US P L N n0 r t Q (some (e',aH))=U P L N n0 (.ops r::t) Q .normal e' aH:=rfl
@[simp] theorem P6 {o:aQ} {r:List aQ}:UG P L N n0 o r t Q e ah (some false)=U P L N n0 (.ops r::t) Q .normal (pK e o.d) ah:=rfl
@[simp] theorem TA {a b:aD}:UC P L N n0 a b t Q e ah (.bool true)=U P L N n0 (.code a::t) Q .normal e ah:=rfl
@[simp] theorem P7 {a b:aD}:UC P L N n0 a b t Q e ah (.bool false)=U P L N n0 (.code b::t) Q .normal e ah:=rfl
@[simp] theorem aag {zq:List Ar} {d:Option Nat} {r:List aQ} {f:Nat} {caps:List AV}:UF P L N n0 zq d r t Q e ah (.fn f caps)=
 if bZ caps then UK P L N n0 f (zq.map (fun x=>(ev e x).sh)++caps.map AV.s1) d r t Q e ah else False:=rfl
theorem aci {a b:aD} {v:Bool} (h1:v=true→U P L N n0 (.code a::t) Q .normal e ah) (h2:v=false→U P L N n0 (.code b::t) Q .normal e ah):UC P L N n0 a b t Q e ah (.bool v):=by
 cases v
 · exact h2 rfl
 · exact h1 rfl
theorem aeB {f:Nat} {zq:List AV} {d:Option Nat} {r:List aQ} {R:AV→AH→Prop} (h:aG P f zq ah R) (hk:∀v aH,R v aH→U P L N n0 (.ops r::t) Q .normal (aI L (vR e) d v.df) aH):
 UK P L N n0 f zq d r t Q e ah:=h.mono hk
theorem acL {c:aD} (I:Nat→Env→AH→Prop) {k0:Nat} (ho:qJ N c=true)
 (round:∀k e ah,I k e ah→U P L N n0 [.code c] (fun x e' aH=>match x with| .normal=>∃k',k'<k∧I k' e' aH|x=>U P L N n0 t Q x e' aH) .normal e ah) (h0:I k0 e ah):
 UX P L N n0 (.loop c) t Q e ah:=by
 intro c'
 induction c' with
 |loop c0 _=>
  intro cj
  simp only [bQ,Option.map_eq_some_iff] at cj
  obtain ⟨a,ha,he⟩:=cj
  injection he with he
  subst he
  exact AW.loop I (fun k e ah hI=>oY c0 a _ e ah (by rw [ju c0 a ha];exact ha) (by rw [ju c0 a ha];exact ho) (round k e ah hI)) h0
 |scope c0 ih=>exact fun cj=>AW.scope (ih cj)
 |region id ops draw=>intro cj;simp only [bQ] at cj;repeat' (split at cj)<;>simp at cj
 |block i c0=>intro cj;simp only [bQ,Option.map_eq_some_iff] at cj;obtain ⟨a, -,h⟩:=cj;cases h
 |seq a b=>intro cj;simp only [bQ] at cj;split at cj<;>simp at cj
 |cond a b c=>intro cj;simp only [bQ] at cj;split at cj<;>simp at cj
 |_=>intro cj;simp [bQ] at cj
end
end Go.Am
end
section
namespace Go.Am
open Go
variable [Tabs]
def AV.eO:AV→Bool
 | .bK _=>true
 |_=>false
def gL (P:Program) (e:Env) (ah:AH):List ResultVar→Option (List AV)
 |[]=>some []
 | .tmp t::r=>if (get e t).eO then none else match gL P e ah r with
   |some vs=>some (get e t::vs)
   |none=>none
 | .cell a ty::r=>if tok P ty then
  match get e a with
  | .ptr s o=>match ah[s]? with
    |some cs=>match lK (tn P ty) s o cs,gL P e ah r with
     |some v,some vs=>some (v.sh::vs)
     |_,_=>none
    |none=>none
  |_=>none
   else none
def fin:List AV→AV
 |[a]=>a.df
 |l=> .bK (l.map AV.sh)
inductive Cl (n:Nat):AV→Prop
 |ptr (s o):s<n→Cl n (.ptr s o)
 |fn (f cs):(∀a∈cs,Cl n a)→Cl n (.fn f cs)
 |agg (cs):(∀a∈cs,Cl n a)→Cl n (.agg cs)
 |bK (cs):(∀a∈cs,Cl n a)→Cl n (.bK cs)
 |v (x):Cl n (.v x)
 |int (k i):Cl n (.int k i)
 |bool (b):Cl n (.bool b)
 |str (l):Cl n (.str l)
 |sl (t k xs):Cl n (.sl t k xs)
 |ep (e o):(∀a∈e.cells,Cl n a)→Cl n (.ep e o)
 |cF (s k o m):s<n→Cl n (.cF s k o m)
 |ri (s k):Cl n (.cy s k 0 0)
 |cy (s k m c):s<n→Cl n (.cy s k m c)
 |dQ:Cl n .dQ
 |un:Cl n .un
@[simp] theorem XL {n s k o m:Nat}:Cl n (.cF s k o m)↔s<n:=⟨fun h=>by cases h;assumption, .cF _ _ _ _⟩
@[simp] theorem aek {n:Nat}:Cl n .dQ:= .dQ
@[simp] theorem XM {n s o:Nat}:Cl n (.ptr s o)↔s<n:=⟨fun h=>by cases h;assumption, .ptr _ _⟩
@[simp] theorem aah {n f:Nat} {cs:List AV}:Cl n (.fn f cs)↔∀a∈cs,Cl n a:=⟨fun h=>by cases h;assumption, .fn _ _⟩
@[simp] theorem XN {n:Nat} {cs:List AV}:Cl n (.agg cs)↔∀a∈cs,Cl n a:=⟨fun h=>by cases h;assumption, .agg _⟩
@[simp] theorem XO {n:Nat} {cs:List AV}:Cl n (.bK cs)↔∀a∈cs,Cl n a:=⟨fun h=>by cases h;assumption, .bK _⟩
@[simp] theorem aeY {n:Nat} {x:Value}:Cl n (.v x):= .v _
@[simp] theorem ael {n:Nat} {k:IntKind} {i:Int}:Cl n (.int k i):= .int ..
@[simp] theorem acM {n:Nat} {b:Bool}:Cl n (.bool b):= .bool _
@[simp] theorem aem {n:Nat} {l:List UInt8}:Cl n (.str l):= .str _
@[simp] theorem aeC {n:Nat} {t:Tg} {k:Nat} {xs:List AV}:Cl n (.sl t k xs):= .sl ..
@[simp] theorem aai {n:Nat} {e:AV} {o:Nat}:Cl n (.ep e o)↔∀a∈e.cells,Cl n a:=⟨fun h=>by cases h;assumption, .ep _ _⟩
@[simp] theorem aeZ {n:Nat}:Cl n .un:= .un
def mF (n:Nat) (ah:AH):Prop:=∀(s:Nat) (cs:List AV),ah[s]? =some cs→∀a∈cs,Cl n a
def L6 (P:Program) (n:Nat) (rs:List ResultVar) (R:AV→AH→Prop) (x:Exit) (e:Env) (ah:AH):Prop:=
 (x= .normal∨x= .ret)∧match gL P e ah rs with
  |some vs=>Cl n (fin vs)∧mF n (ah.take n)∧n≤ah.length∧R (fin vs) (ah.take n)
  |none=>False
section
variable {P:Program} {L:List Nat} {N n0:Nat} {F:Nat→Prop} {γ:List Nat} {C C':Nat→List Value} {e:Env} {ah:AH} {ts:Array Value} {w w':World}
theorem VR.take {a:AV} {v:Value} {n:Nat} (h:VR C γ a v):Cl n a→VR C (γ.take n) a v:=by
 induction h with
 |v _ _ hs=>intro _;exact .v _ _ hs
 |un=>intro _;exact .un ..
 |int=>intro _;exact .int ..
 |bool=>intro _;exact .bool ..
 |str=>intro _;exact .str ..
 |ptr _ s o b hb=>intro hn;exact .ptr _ _ _ _ (by rw [List.getElem?_take_of_lt (XM.1 hn)];exact hb)
 |cF _ s k o n b c hb hn'=>intro hn;exact .cF _ _ _ _ _ _ _ (by rw [List.getElem?_take_of_lt (XL.1 hn)];exact hb) hn'
 |ri=>intro _;exact .ri ..
 |cy _ s k n b c hb hn'=>
  intro hn
  cases hn with
  |ri=>exact .ri ..
  |cy _ _ _ _ hs=>exact .cy _ _ _ _ _ _ (by rw [List.getElem?_take_of_lt hs];exact hb) hn'
 |dQ=>intro _;exact .dQ ..
 |sg=>intro _;exact .sg ..
 |sl _ _ _ _ b o n c hn' hc hk hl ho hx=>intro _;exact .sl _ _ _ _ _ _ _ _ hn' hc hk hl ho hx
 |ep _ _ _ b p hl hx ih=>intro hn;exact .ep _ _ _ _ _ hl fun j a hj=>ih j a hj (aai.1 hn a (List.mem_of_getElem? hj))
 |agg _ cs vs hl hx ih=>intro hn;exact .agg _ _ _ hl fun i a hi=>ih i a hi (XN.1 hn a (List.mem_of_getElem? hi))
 |bK _ cs vs hl hx ih=>intro hn;exact .bK _ _ _ hl fun i a hi=>ih i a hi (XO.1 hn a (List.mem_of_getElem? hi))
 |fn _ f cs vs hl hx ih=>intro hn;exact .fn _ _ _ _ hl fun i a hi=>ih i a hi (aah.1 hn a (List.mem_of_getElem? hi))
theorem VR.cl {a:AV} {v:Value} (h:VR C γ a v):Cl γ.length a:=by
 have mem:∀ {cs:List AV} {a:AV},a∈cs→∃i:Nat,cs[i]? =some a:=fun ha=>by
  obtain ⟨i,hi,rfl⟩:=List.getElem_of_mem ha;exact ⟨i,List.getElem?_eq_getElem hi⟩
 induction h with
 |ptr _ s o b hb=>exact .ptr _ _ (List.getElem?_eq_some_iff.1 hb).1
 |agg _ cs vs hl hx ih=>exact .agg _ fun a ha=>by obtain ⟨i,hi⟩:=mem ha;exact ih i a hi
 |bK _ cs vs hl hx ih=>exact .bK _ fun a ha=>by obtain ⟨i,hi⟩:=mem ha;exact ih i a hi
 |fn _ f cs vs hl hx ih=>exact .fn _ _ fun a ha=>by obtain ⟨i,hi⟩:=mem ha;exact ih i a hi
 |cF _ s k o n b c hb _=>exact .cF _ _ _ _ (List.getElem?_eq_some_iff.1 hb).1
 |ri=>exact .ri ..
 |cy _ s k n b c hb _=>exact .cy _ _ _ _ (List.getElem?_eq_some_iff.1 hb).1
 |dQ=>exact .dQ
 |v=>exact .v _
 |un=>exact .un
 |int=>exact .int ..
 |bool=>exact .bool _
 |str=>exact .str _
 |sg=>exact .sl ..
 |sl=>exact .sl ..
 |ep _ _ _ b p hl hx ih=>exact .ep _ _ fun a ha=>by obtain ⟨i,hi⟩:=mem ha;exact ih i a hi
theorem L7 (h:SR L N F γ C e ah ts w) {a s o:Nat} {ty:TypeId} (ht:tok P ty=true) (hp:get e a= .ptr s o) {cs:List AV} (hs:ah[s]? =some cs) {v:AV} (hl:lK (tn P ty) s o cs=some v):
 ∃u ad,ts.getD a undef= .pointer (some ad)∧(loadVar ty ad).run P w= .ok u w∧VR C γ v.sh u∧TC w C v.sh u:=by
 have hv:=(h.env a).1
 rw [hp] at hv
 obtain ⟨b,hb,hv⟩:=hv.gK
 obtain ⟨vs,tv,hh,hsz,hcell⟩:=h.mem.obj s b cs hs hb
 have vI:=dc hh
 cases hn:tn P ty with
 |some n=>
  simp only [hn,lK] at hl
  split at hl
  case isFalse=>cases hl
  rename_i hq
  obtain ⟨hq,hfl⟩:=hq
  injection hl with hl
  subst hl
  obtain ⟨r,hr,hrs,hrc⟩:=(run_load (w:=w) ht (b:=b) (o:=o)).1 n hn (fun j hj=>by
   rw [vI];exact ⟨_,Array.getElem?_eq_getElem (by omega)⟩)
  obtain rfl:r=vs.extract o (o+n):=by
   apply Array.ext_getElem?
   intro j
   by_cases hj:j<n
   · rw [hrc j hj,vI,Array.getElem?_extract,if_pos (by omega)]
   · rw [Array.getElem?_eq_none (by omega),Array.getElem?_eq_none (by simp;omega)]
  refine ⟨_,_,hv,hr, ?_, ?_⟩
  · exact (Wk.sh _).vr ((Wk.oH _ Wk.bS _).vr (DL hsz (fun i a hi=>(hcell i a hi).1) hq))
  · exact (Wk.sh _).tc ((Wk.oH _ Wk.bS _).tc (vH hsz (fun i a hi hin=>zQ (hcell _ a hi).2 (jr hfl (i:=i) (by rw [List.getElem?_take_of_lt hin,List.getElem?_drop];exact hi))) hq))
 |none=>
  simp only [hn,lK] at hl
  have vJ:∀c,cs[o]? =some c→w.cell? ⟨b,o,none⟩=some (vs.getD o undef):=by
   intro c js
   have hlt:o<vs.size:=Nat.lt_of_lt_of_le (List.getElem?_eq_some_iff.1 js).1 hsz
   rw [vI];simp [Array.getD_eq_getD_getElem?,Array.getElem?_eq_getElem hlt]
  split at hl
  · rename_i k xs js
    injection hl with hl
    subst hl
    have hr:=(run_load (w:=w) ht (b:=b) (o:=o)).2 _ hn (vJ _ js)
    exact ⟨_,_,hv,hr,(hcell o _ js).1.jR _,by simp only [AV.sh,AV.bS,Tg.sh];cases (vs.getD o undef)<;>trivial⟩
  · rename_i c hno js
    split at hl
    case isFalse=>cases hl
    rename_i hfl
    injection hl with hl
    subst hl
    have hr:=(run_load (w:=w) ht (b:=b) (o:=o)).2 _ hn (vJ _ js)
    refine ⟨_,_,hv,hr, ?_, ?_⟩
    · exact (Wk.sh _).vr ((Wk.iP (Wk.bS c)).vr (hcell o _ js).1)
    · exact (Wk.sh _).tc (Dy (zQ (hcell o _ js).2 hfl))
  · cases hl
theorem XP (h:SR L N F γ C e ah ts w):∀(rs:List ResultVar) (vs:List AV),gL P e ah rs=some vs→
 ∃us:List Value,(rs.mapM fun| .tmp t=>pure (ts.getD t undef)| .cell a t=>do loadVar t (←asAddr (ts.getD a undef)):Sem (List Value)).run P w= .ok us w∧us.length=vs.length∧
  (∀(i:Nat) (a:AV),vs[i]? =some a→VR C γ a (us.getD i undef)∧TC w C a (us.getD i undef))∧
  (∀(i:Nat) (a:AV) (b:Nat),vs[i]? =some a→bR a (us.getD i undef)=some b→∃t,blk γ e ah ts w (.tmp t) b)∧∀(i:Nat) (a:AV),vs[i]? =some a→a.eO=false:=by
 intro rs
 induction rs with
 |nil=>intro vs hr;simp [gL] at hr;subst hr;exact ⟨[],rfl,rfl,by simp,by simp,by simp⟩
 |cons r rs ih=>
  intro vs hr
  cases r with
  |tmp t=>
   simp only [gL] at hr
   split at hr
   case isTrue=>cases hr
   rename_i hnt
   split at hr
   case h_2=>cases hr
   rename_i vs' hvs
   injection hr with hr
   subst hr
   obtain ⟨us,h1,h2,h3,h4,h5⟩:=ih vs' hvs
   refine ⟨ts.getD t undef::us, ?_,by simp [h2],fun i a hi=> ?_,fun i a b hi hb=> ?_,fun i a hi=>by
    cases i with
    |zero=>simp at hi;subst hi;simpa using hnt
    |succ i=>exact h5 i a (by simpa using hi)⟩
   · simp only [List.mapM_cons,Sem.run_bind,Sem.run_pure,Result.andThen_ok,h1]
   · cases i with
     |zero=>simp at hi;subst hi;exact h.env t
     |succ i=>exact h3 i a (by simpa using hi)
   · cases i with
     |zero=>simp at hi;subst hi;exact ⟨t,hb⟩
     |succ i=>exact h4 i a b (by simpa using hi) hb
  |cell a ty=>
   simp only [gL] at hr
   split at hr
   case isFalse=>cases hr
   rename_i ht
   split at hr
   case h_2=>cases hr
   rename_i s o hp
   split at hr
   case h_2=>cases hr
   rename_i cs hs
   split at hr
   case h_2=>cases hr
   rename_i v vs' hv hvs
   injection hr with hr
   subst hr
   obtain ⟨us,h1,h2,h3,h4,h5⟩:=ih vs' hvs
   obtain ⟨u,ad,g1,g2,g3,g4⟩:=L7 (P:=P) h ht hp hs hv
   have hnt:v.sh.eO=false:=by
    unfold lK at hv
    split at hv
    · split at hv<;>simp at hv;subst hv;rfl
    · split at hv
      · injection hv with hv;subst hv;rfl
      · split at hv<;>simp at hv
        rename_i c _ _ hf
        subst hv
        cases c<;>first|rfl|cases hf
      · cases hv
   refine ⟨u::us, ?_,by simp [h2],fun i a hi=> ?_,fun i a b hi hb=> ?_,fun i a hi=>by
    cases i with
    |zero=>simp at hi;subst hi;exact hnt
    |succ i=>exact h5 i a (by simpa using hi)⟩
   · have hA:(asAddr (ts.getD a undef)).run P w= .ok ad w:=by rw [g1];rfl
     simp only [List.mapM_cons,Sem.run_bind,hA,Sem.run_pure,Result.andThen_ok,g2,h1]
   · cases i with
     |zero=>simp at hi;subst hi;exact ⟨g3,g4⟩
     |succ i=>exact h3 i a (by simpa using hi)
   · cases i with
     |zero=>simp at hi;subst hi;rw [iI _ (hO (sR v))] at hb;cases hb
     |succ i=>exact h4 i a b (by simpa using hi) hb
def Zp (P:Program) (n0:Nat) (rs:List ResultVar) (R:AV→AH→Prop) (x:Exit) (e:Env) (ah:AH):Prop:=
 (∃m,n0≤m∧L6 P m rs R x e ah)∨((x= .normal∨x= .ret)∧match gL P e ah rs with
  |some vs=>R (fin vs) ah
  |none=>False)
theorem aG.OQ {f:Nat} {fn:Func} {c:Code} {ac:aD} {args:List AV} {R:AV→AH→Prop} (L:List Nat) (hf:P.funcs[f]? =some fn) (hname:fn.name≠ "runtime.NumGoroutine") (hb:fn.body=some c)
 (hc:bQ P c=some ac) (ho:qJ fn.ntmps ac=true) (hN:args.length≤fn.ntmps)
 (h:mF ah.length ah→(∀a∈args,∀s o,a= .ptr s o→s<ah.length)→AX P L fn.ntmps ah.length ac (Zp P ah.length fn.results.toList R) (fm 0 args) ah):aG P f args ah R:=by
 refine ⟨by simp [jt,hf,hb,hname],fun F γ C w vs hs=> ?_⟩
 have hlen:=hs.mem.len
 have hcl:mF ah.length ah:=by
  intro s cs JG
  have hlt:s<γ.length:=by rw [hlen];exact (List.getElem?_eq_some_iff.1 JG).1
  obtain ⟨us,ty, -,hsz,hcell⟩:=hs.mem.obj s _ cs JG (List.getElem?_eq_getElem hlt)
  intro a ha
  obtain ⟨i,hi,rfl⟩:=List.getElem_of_mem ha
  rw [←hlen]
  exact (hcell i _ (List.getElem?_eq_getElem hi)).1.cl
 have hargs:∀a∈args,∀s o,a= .ptr s o→s<ah.length:=by
  intro a ha s o he
  obtain ⟨i,hi,rfl⟩:=List.getElem_of_mem ha
  have:=(hs.env i).1
  rw [eC] at this
  simp only [Nat.zero_le,if_true,Nat.sub_zero,List.getElem?_eq_getElem hi,Option.getD_some,he] at this
  obtain ⟨b,hb, -⟩:=this.gK
  rw [←hlen];exact (List.getElem?_eq_some_iff.1 hb).1
 have hU:=h hcl hargs
 have hW:AW P L fn.ntmps ah.length c (Zp P ah.length fn.results.toList R) (fm 0 args) ah:=hU c hc
 have hvs:vs.size=args.length:=hs.sz
 have hs2:SR L fn.ntmps F γ C (fm 0 args) ah (vs++Array.replicate (fn.ntmps - vs.size) undef) w:=by
  have hg:∀t,t<vs.size→(vs++Array.replicate (fn.ntmps - vs.size) undef).getD t undef=vs.getD t undef:=by
   intro t ht;simp [Array.getD_eq_getD_getElem?,Array.getElem?_append,ht]
  have hx:∀t,¬t<vs.size→get (fm 0 args) t= .un:=by
   intro t ht;rw [eC];simp only [Nat.zero_le,if_true,Nat.sub_zero];rw [List.getElem?_eq_none (by omega)];rfl
  have hbk:∀p b,blk γ (fm 0 args) ah (vs++Array.replicate (fn.ntmps - vs.size) undef) w p b→blk γ (fm 0 args) ah vs w p b:=by
   intro p b hp
   cases p with
   |obj s=>exact hp
   |cell s i=>exact hp
   |tmp t=>
    by_cases ht:t<vs.size
    · simp only [blk,hg t ht] at hp ⊢;exact hp
    · simp only [blk,hx t ht,bR] at hp;cases hp
  refine ⟨hs.mem,by simp;omega,fun t=> ?_,fun p q b hp hq=>hs.dF p q b (hbk p b hp) (hbk q b hq),fun p b hp=>hs.nf p b (hbk p b hp),hs.jV,fun t l k xs htl=> ?_⟩
  · by_cases ht:t<vs.size
    · rw [hg t ht];exact hs.env t
    · rw [hx t ht];exact ⟨.un ..,by generalize (vs++Array.replicate (fn.ntmps - vs.size) undef).getD t undef=v;cases v<;>trivial⟩
  · by_cases ht:t<vs.size
    · have:=hs.fr t l k xs htl
      cases l with
      |tmp u=>have:=this.1;simp at this
      |cell s o=>intro cs a b h1 h2 h3 h4;rw [hg t ht];exact this cs a b h1 h2 h3 h4
    · rw [hx t ht] at htl;cases htl
 refine calls_of_wp hf hb (wp_mono (hW F γ C _ w hs2 (by omega)) ?_)
 rintro x ⟨ts',ds'⟩ w' ⟨rfl, -,e',aH,γ',C',hRX,hγ,hs',acN⟩
 have hx:x= .normal∨x= .ret:=by
  rcases hRX with ⟨m, -,h, -⟩|⟨h, -⟩<;>exact h
 obtain ⟨vU,LR⟩:∃vU,gL P e' aH fn.results.toList=some vU:=by
  rcases hRX with ⟨m, -, -,h⟩|⟨-,h⟩
  · split at h
    · rename_i vs hv;exact ⟨vs,hv⟩
    · exact h.elim
  · split at h
    · rename_i vs hv;exact ⟨vs,hv⟩
    · exact h.elim
 obtain ⟨us,u1,u2,u3,u4,u5⟩:=XP (P:=P) hs' _ _ LR
 have hres:(results fn ts').run P w'= .ok (if us.length=1 then us.getD 0 undef else .tuple us.toArray) w':=by
  unfold results
  rw [Array.mapM_eq_mapM_toList,map_eq_pure_bind]
  simp only [Sem.run_bind,Sem.run_pure]
  refine (congrArg (fun r=>Result.andThen (Result.andThen r fun (a:List Value) w'=> .ok a.toArray w') fun (a:Array Value) w'=> .ok (if h:a.size=1 then a[0] else Value.tuple a) w') u1).trans ?_
  simp only [Result.andThen_ok]
  by_cases h1:us.length=1
  · rw [if_pos h1]
    have:us.toArray.size=1:=by simpa using h1
    rw [dif_pos this]
    simp [List.getD_eq_getElem?_getD,h1]
  · rw [if_neg h1]
    have:¬us.toArray.size=1:=by simpa using h1
    rw [dif_neg this]
 generalize hv:(if us.length=1 then us.getD 0 undef else .tuple us.toArray)=v at hres
 have kY:VR C' γ' (fin vU) v∧TC w' C' (fin vU) v∧(∀b,bR (fin vU) v=some b→∃t,blk γ' e' aH ts' w' (.tmp t) b)∧∀l k xs,fin vU≠ .sl (.fr l) k xs:=by
  by_cases h1:us.length=1
  · rw [if_pos h1] at hv
    obtain ⟨a,rfl⟩:∃a,vU=[a]:=by
     cases vU with
     |nil=>rw [h1] at u2;simp at u2
     |cons a r=>cases r with
      |nil=>exact ⟨a,rfl⟩
      |cons b r=>rw [h1] at u2;simp at u2
    have h3:=u3 0 a rfl
    rw [hv] at h3
    refine ⟨(Wk.df a).vr h3.1,(Wk.df a).tc h3.2,fun b hb=>u4 0 a b rfl ?_,fun l k xs=>LP a l k xs⟩
    rw [hv];exact (Wk.df a).own hb
  · rw [if_neg h1] at hv
    have hf:fin vU= .bK (vU.map AV.sh):=by
     cases vU with
     |nil=>rfl
     |cons a r=>cases r with
      |nil=>exact absurd (by simpa using u2) h1
      |cons b r=>rfl
    rw [hf]
    subst hv
    refine ⟨.bK _ _ _ (by simp [u2]) fun i a hi=> ?_,fun i a hi=> ?_,fun b hb=>by simp [bR] at hb,by simp⟩
    · rw [List.getElem?_map] at hi
      cases hq:vU[i]? with
      |none=>rw [hq] at hi;simp at hi
      |some y=>
       rw [hq] at hi
       obtain rfl:y.sh=a:=by simpa using hi
       have:=(Wk.sh y).vr (u3 i y hq).1
       rwa [←ia]
    · rw [List.getElem?_map] at hi
      cases hq:vU[i]? with
      |none=>rw [hq] at hi;simp at hi
      |some y=>
       rw [hq] at hi
       obtain rfl:y.sh=a:=by simpa using hi
       have h3:=(Wk.sh y).tc (u3 i y hq).2
       have h4:=(Wk.sh y).vr (u3 i y hq).1
       rw [←ia]
       show G6 y.sh (us.getD i undef)
       have h5:y.sh.eO=false:=by have:=u5 i y hq;cases y<;>first|rfl|cases this
       generalize us.getD i undef=u at h3 h4
       generalize hz:y.sh=z at h3 h4 h5
       cases z with
       |agg cs=>obtain ⟨vs,rfl, -⟩:=h4.lN;exact h3
       |bK cs=>cases h5
       |sl t k xs=>cases t<;>cases u<;>first|trivial|exact h3|(exfalso;cases y<;>simp [AV.sh,AV.bS] at hz;done)|skip
       |_=>cases u<;>trivial
 obtain ⟨m,hm,hrc,acO,ae0,hRR⟩:∃m,ah.length≤m∧Cl m (fin vU)∧mF m (aH.take m)∧m≤aH.length∧R (fin vU) (aH.take m):=by
  rcases hRX with ⟨m,hm, -,h⟩|⟨-,h⟩
  · rw [LR] at h
    exact ⟨m,hm,h⟩
  · rw [LR] at h
    have hl:aH.take aH.length=aH:=List.take_length
    refine ⟨aH.length, ?_, ?_, ?_,Nat.le_refl _,by rw [hl];exact h⟩
    · rw [←hs'.mem.len]
      have:=hγ.length_le
      rw [←hlen,List.take_length] at this
      omega
    · rw [←hs'.mem.len];exact kY.1.cl
    · rw [hl]
      intro s cs JG
      have hlt:s<γ'.length:=by rw [hs'.mem.len];exact (List.getElem?_eq_some_iff.1 JG).1
      obtain ⟨us',ty', -,ae1,DA⟩:=hs'.mem.obj s _ cs JG (List.getElem?_eq_getElem hlt)
      intro a ha
      obtain ⟨i,hi,rfl⟩:=List.getElem_of_mem ha
      rw [←hs'.mem.len]
      exact (DA i _ (List.getElem?_eq_getElem hi)).1.cl
 have hm0:ah.length≤m:=hm
 have hlen':=hs'.mem.len
 have hpre:γ <+: γ'.take m:=by
  rw [←hlen,List.take_length] at hγ
  obtain ⟨q,rfl⟩:=hγ
  rw [List.take_append]
  rw [List.take_of_length_le (l:=γ) (i:=m) (by omega)]
  exact List.prefix_append _ _
 have hbp:bodyPost P fn (fun en w'=>∃r v aH γ' C',en= .returned v∧R r aH∧γ <+: γ'∧SR [] 1 F γ' C' [(0,r)] aH #[v] w'∧Ext F C w C' w') x ⟨ts',[]⟩ w':=by
  have key:∃v',(results fn ts').run P w'= .ok v' w'∧∃r v aH γ' C',Ending.returned v'= .returned v∧R r aH∧γ <+: γ'∧SR [] 1 F γ' C' [(0,r)] aH #[v] w'∧Ext F C w C' w':=by
   refine ⟨v,hres,fin vU,v,aH.take m,γ'.take m,C',rfl,hRR,hpre, ?_,acN⟩
   have hgt:∀(s b:Nat),(γ'.take m)[s]? =some b→γ'[s]? =some b∧s<m:=by
    intro s b hsb
    by_cases XQ:s<m
    · rw [List.getElem?_take_of_lt XQ] at hsb;exact ⟨hsb,XQ⟩
    · rw [List.getElem?_eq_none (by simp;omega)] at hsb;cases hsb
   have CL:∀(s:Nat) (cs:List AV),(aH.take m)[s]? =some cs→aH[s]? =some cs:=by
    intro s cs hsb
    by_cases XQ:s<m
    · rwa [List.getElem?_take_of_lt XQ] at hsb
    · rw [List.getElem?_eq_none (by simp;omega)] at hsb;cases hsb
   have hbk:∀p b,blk (γ'.take m) [(0,fin vU)] (aH.take m) #[v] w' p b→(∃t,p= .tmp 0∧blk γ' e' aH ts' w' (.tmp t) b)∨((∀t,p≠ .tmp t)∧blk γ' e' aH ts' w' p b):=by
    intro p b hp
    cases p with
    |obj s=>exact .inr ⟨by simp,(hgt s b hp).1⟩
    |cell s i=>
     obtain ⟨cs,a,b0,g1,g2,g3,g4⟩:=hp
     exact .inr ⟨by simp,cs,a,b0,CL s cs g1,g2,(hgt s b0 g3).1,g4⟩
    |tmp t=>
     simp only [blk,get] at hp
     by_cases ht:0=t
     · subst ht
       simp only [if_true] at hp
       obtain ⟨t,ht⟩:=kY.2.2.1 b hp
       exact .inl ⟨t,rfl,ht⟩
     · rw [if_neg ht] at hp;simp [bR] at hp
   refine ⟨⟨by simp [hlen'],fun s b cs g1 g2=> ?_,hs'.mem.tN,fun s b cs g1 g0 hsb=>hs'.mem.pG s b cs (CL s cs g1) g0 (hgt s b hsb).1,fun s b cs us ty fr g1 hsb hh=>hs'.mem.Bj s b cs us ty fr (CL s cs g1) (hgt s b hsb).1 hh⟩,rfl,fun t=> ?_,fun p q b hp hq=> ?_,fun p b hp=> ?_,hs'.jV,fun t l k xs htl=> ?_⟩
   · obtain ⟨vs,ty,q1,q2,q3⟩:=hs'.mem.obj s b cs (CL s cs g1) (hgt s b g2).1
     exact ⟨vs,ty,q1,q2,fun i a hi=>⟨(q3 i a hi).1.take (acO s cs g1 a (List.mem_of_getElem? hi)),(q3 i a hi).2⟩⟩
   · by_cases ht:0=t
     · subst ht
       simp only [get,if_true]
       exact ⟨kY.1.take hrc,kY.2.1⟩
     · simp only [get,if_neg ht]
       exact ⟨.un ..,by generalize (#[v]:Array Value).getD t undef=u;cases u<;>trivial⟩
   · rcases hbk p b hp with ⟨t,rfl,h1⟩|⟨h1,h2⟩<;>rcases hbk q b hq with ⟨u,rfl,h3⟩|⟨h3,h4⟩
     · rfl
     · exact absurd (hs'.dF _ _ b h1 h4) (fun e=>h3 t e.symm)
     · exact absurd (hs'.dF _ _ b h2 h3) (h1 u)
     · exact hs'.dF p q b h2 h4
   · rcases hbk p b hp with ⟨t,rfl,h1⟩|⟨h1,h2⟩
     · exact hs'.nf _ b h1
     · exact hs'.nf p b h2
   · by_cases ht:0=t
     · subst ht
       simp only [get,if_true] at htl
       exact absurd htl (kY.2.2.2 l k xs)
     · simp only [get,if_neg ht] at htl;cases htl
  rcases hx with rfl|rfl
  · exact ⟨rfl,key⟩
  · exact ⟨rfl,key⟩
 exact hbp
theorem AX.up {c:aD} {Q Q':Exit→Env→AH→Prop} {e:Env} {ah:AH} {n0:Nat} (h:AX P L N n0 c Q e ah) (hq:∀x e ah,Q x e ah→Q' x e ah):AX P L N n0 c Q' e ah:=fun c' cj=>(h c' cj).mono hq
theorem aG.enter {f:Nat} {fn:Func} {c:Code} {ac:aD} {args:List AV} {R:AV→AH→Prop} (L:List Nat) (m:Nat) (hf:P.funcs[f]? =some fn) (hname:fn.name≠ "runtime.NumGoroutine") (hb:fn.body=some c)
 (hc:bQ P c=some ac) (ho:qJ fn.ntmps ac=true) (hN:args.length≤fn.ntmps) (hm:ah.length≤m)
 (h:mF ah.length ah→(∀a∈args,∀s o,a= .ptr s o→s<ah.length)→U P L fn.ntmps ah.length [.code ac] (L6 P m fn.results.toList R) .normal (fm 0 args) ah):aG P f args ah R:=
 aG.OQ L hf hname hb hc ho hN fun h1 h2=>AX.up (fun c' cj=>oY c' ac _ _ _ (by rw [ju c ac hc];exact cj) (by rw [ju c ac hc];exact ho) (h h1 h2)) fun x e H hR=> .inl ⟨m,hm,hR⟩
end
end Go.Am
end
section
namespace Go.Am
open Go
variable [Tabs]
def bw (P:Program) (f N:Nat) (rs:List ResultVar) (ac:aD):Prop:=
 ∃fn c,P.funcs[f]? =some fn∧fn.name≠ "runtime.NumGoroutine" ∧fn.body=some c∧bQ P c=some ac∧fn.ntmps=N∧fn.results.toList=rs
theorem aG.go {P:Program} {f N:Nat} {rs:List ResultVar} {ac:aD} (hF:bw P f N rs ac) {args:List AV} {ah:AH} {R:AV→AH→Prop} (L:List Nat) (m:Nat)
 (ho:qJ N ac=true) (hN:args.length≤N) (hm:ah.length≤m)
 (h:mF ah.length ah→(∀a∈args,∀s o,a= .ptr s o→s<ah.length)→U P L N ah.length [.code ac] (L6 P m rs R) .normal (fm 0 args) ah):aG P f args ah R:=by
 obtain ⟨fn,c,h1,h2,h3,h4,rfl,rfl⟩:=hF
 exact aG.enter L m h1 h2 h3 h4 ho hN hm h
section
variable {P:Program} {L:List Nat} {N n0:Nat} {e:Env} {ah:AH} {t:List It} {Q:Exit→Env→AH→Prop} {r:List aQ} {d:Option Nat} {g:Option (Nat×Bool)}
def gOf (want:Bool):AV→Option Bool
 | .bool b=>some (b==want)
 | .bK []=>some false
 |_=>none
theorem XR {op:fH}:gI e ⟨d,op,none⟩=some true:=rfl
theorem XS {op:fH} {x:Nat} {want:Bool}:gI e ⟨d,op,some (x,want)⟩=gOf want (get e x):=by
 simp only [gI]
 cases get e x with
 |bK cs=>cases cs<;>rfl
 |_=>rfl
theorem XT {want:Bool}:gOf want (.bK [])=some false:=rfl
theorem P8 {b want:Bool}:gOf want (.bool b)=some (b==want):=rfl
theorem acP {x:Ar}:UG P L N n0 ⟨d, .mv x,g⟩ r t Q e ah (some true)=U P L N n0 (It.ops r::t) Q Exit.normal (aI L e d (cp L x (ev e x))) ah:=rfl
def jK (P:Program) (L:List Nat) (N n0:Nat) (e:Env) (ah:AH) (d:Option Nat) (r:List aQ) (t:List It) (Q:Exit→Env→AH→Prop) (x:Ar):AV→Prop
 | .sl .own k xs=>match x with
   | .t y=>U P L N n0 (.ops r::t) Q .normal (aI L (put e y (.sl .n k xs)) d (.sl .own k xs)) ah
   | .c a=>U P L N n0 (.ops r::t) Q .normal (aI L e d (cp L (.c a) (.sl .own k xs))) ah
 |a=>U P L N n0 (.ops r::t) Q .normal (aI L e d (cp L x a)) ah
theorem aaj {x:Ar}:UG P L N n0 ⟨d, .aY x,g⟩ r t Q e ah (some true)=jK P L N n0 e ah d r t Q x (ev e x):=by
 simp only [UG,bN]
 cases h:ev e x with
 |sl tg k xs=>cases tg<;>cases x<;>rfl
 |_=>rfl
def L8 (L:List Nat) (e:Env) (ah:AH) (d:Option Nat) (a b:Ar):AV→Option (Env×AH)
 | .bool t=>some (aI L e d (if t then (ev e a).sh else (ev e b).sh),ah)
 |_=>none
theorem XU {c a b:Ar}:UG P L N n0 ⟨d, .pick c a b,g⟩ r t Q e ah (some true)=US P L N n0 r t Q (L8 L e ah d a b (ev e c)):=by
 simp only [UG,bN];cases ev e c<;>rfl
theorem TB {cs:List AV}:UG P L N n0 ⟨d, .alloc cs,g⟩ r t Q e ah (some true)=U P L N n0 (.ops r::t) Q .normal (aI L e d (.ptr ah.length 0)) (ah++[cs]):=rfl
theorem aak {x:Ar}:UG P L N n0 ⟨d, .box x,g⟩ r t Q e ah (some true)=US P L N n0 r t Q (if b5 (ev e x).cells then some (aI L e d (.ptr ah.length 0),ah++[(ev e x).cells.map AV.bS]) else none):=rfl
theorem TD {z:List AV} {ps:List (Nat×Nat×Ar)}:UG P L N n0 ⟨d, .build z ps,g⟩ r t Q e ah (some true)=US P L N n0 r t Q ((fill e z ps).map fun cs=>(aI L e d (.agg cs),ah)):=rfl
theorem aal {k:Nat} {ps:List Ar}:UG P L N n0 ⟨d, .jQ k ps,g⟩ r t Q e ah (some true)=US P L N n0 r t Q (if ps.all (fun p=>(ev e p).cells.length=k&&b5 (ev e p).cells&&fY (ev e p).cells) then some (aI L e d (.sl .ex k (ps.map fun p=>(ev e p).s0)),ah) else none):=rfl
theorem XV {k:Nat} {ps:List Ar}:UG P L N n0 ⟨d, .pn k ps,g⟩ r t Q e ah (some true)=US P L N n0 r t Q (if ps.all (fun p=>(ev e p).cells.length=k&&b5 (ev e p).cells&&fY (ev e p).cells) then some (aI L e d (.cF ah.length k 0 ps.length),ah++[(ps.map fun p=>(ev e p).cells.map AV.s1).flatten]) else none):=rfl
theorem TE {k:Nat} {p:Ar}:UG P L N n0 ⟨d, .pn k [p],g⟩ r t Q e ah (some true)=US P L N n0 r t Q (if [p].all (fun p=>(ev e p).cells.length=k&&b5 (ev e p).cells&&fY (ev e p).cells) then some (aI L e d (.cF ah.length k 0 1),ah++[(ev e p).cells.map AV.s1]) else none):=by
 have h:([p].map fun p=>(ev e p).cells.map AV.s1).flatten=(ev e p).cells.map AV.s1:=by simp
 rw [XV,h];rfl
theorem aeD {y:Nat} {bs:List UInt8}:UG P L N n0 ⟨d, .lit y bs,g⟩ r t Q e ah (some true)=U P L N n0 (It.ops r::t) Q Exit.normal (put (aI L e d (.sl .ex 1 (bs.map b8))) y .un) ah:=rfl
def TF (L:List Nat) (e:Env) (ah:AH) (d:Option Nat):AV→Option (Env×AH)
 | .ptr s p=>some (aI L e d (.ptr s p),ah)
 | .ep a p=>some (aI L e d (.ep a p),ah)
 |_=>none
theorem aam {x:Ar}:UG P L N n0 ⟨d, .dZ x,g⟩ r t Q e ah (some true)=US P L N n0 r t Q (TF L e ah d (ev e x)):=by
 simp only [UG,bN];cases ev e x<;>rfl
def TG (L:List Nat) (e:Env) (ah:AH) (d:Option Nat) (q:Nat):AV→Option (Env×AH)
 | .ptr s p=>some (aI L e d (.ptr s (p+q)),ah)
 | .ep a p=>some (aI L e d (.ep a (p+q)),ah)
 |_=>none
theorem aan {x:Ar} {q:Nat}:UG P L N n0 ⟨d, .aV x q,g⟩ r t Q e ah (some true)=US P L N n0 r t Q (TG L e ah d q (ev e x)):=by
 simp only [UG,bN];cases ev e x<;>rfl
theorem aen {x:Ar} {q:Nat} {n:Option Nat}:UG P L N n0 ⟨d, .Gt x q n,g⟩ r t Q e ah (some true)=US P L N n0 r t Q (bN L ⟨d, .Gt x q n,none⟩ e ah):=by simp only [UG,vQ L d _ g]
def XW (L:List Nat) (d:Option Nat) (n:Option Nat) (s p:Nat) (e:Env) (ah:AH):Option (List AV)→Option (Env×AH)
 |some cs=>(lK n s p cs).map fun a=>(aI L e d a,ah)
 |none=>none
def P9 (L:List Nat) (d:Option Nat) (e:Env) (ah:AH):Option AV→Option (Env×AH)
 |some c=>if c.flat then some (aI L e d c.s1,ah) else none
 |none=>none
def Hs (L:List Nat) (d:Option Nat) (n:Option Nat) (e:Env) (ah:AH):AV→Option (Env×AH)
 | .ptr s p=>XW L d n s p e ah (ah[s]?)
 | .ep a p=>match n with
   |some n=>if p+n≤a.cells.length∧bZ ((a.cells.drop p).take n) then some (aI L e d (.agg (((a.cells.drop p).take n).map AV.s1)),ah) else none
   |none=>P9 L d e ah (a.cells[p]?)
 |_=>none
theorem acQ {x:Ar} {n:Option Nat}:UG P L N n0 ⟨d, .ld x n,g⟩ r t Q e ah (some true)=US P L N n0 r t Q (Hs L d n e ah (ev e x)):=by
 simp only [UG,bN]
 cases ev e x with
 |ptr s p=>simp only [Hs,XW];cases ah[s]? <;>rfl
 |ep a p=>cases n with
  |some n=>rfl
  |none=>simp only [Hs,P9];cases a.cells[p]? <;>rfl
 |_=>rfl
def lF (s o:Nat):Option AV→Option AV
 |some (.sl .own k xs)=>some (.sl (.fr (.cell s o)) k xs)
 |some a=>if a.flat then some a.bS else none
 |none=>none
theorem jb {s o:Nat} {cs:List AV}:lK none s o cs=lF s o (cs[o]?):=by
 simp only [lK,lF]
 cases cs[o]? with
 |none=>rfl
 |some a=>cases a with
  |sl t k xs=>cases t<;>rfl
  |_=>rfl
theorem jc {n s o:Nat} {cs:List AV}:lK (some n) s o cs=if o+n≤cs.length∧bZ ((cs.drop o).take n) then some (.agg (((cs.drop o).take n).map AV.bS)) else none:=rfl
theorem aeE {x:Ar} {n:Option Nat}:UG P L N n0 ⟨d, .lJ x n,g⟩ r t Q e ah (some true)=US P L N n0 r t Q (bN L ⟨d, .lJ x n,none⟩ e ah):=by simp only [UG,vQ L d _ g]
theorem ae2 {a x:Ar} {n:Nat}:UG P L N n0 ⟨d, .st a x n,g⟩ r t Q e ah (some true)=US P L N n0 r t Q (bN L ⟨none, .st a x n,none⟩ e ah):=by simp only [UG,bN]
theorem aao {op:BinOp} {x y:Ar}:UG P L N n0 ⟨d, .bin op x y,g⟩ r t Q e ah (some true)=US P L N n0 r t Q ((bC op (ev e x) (ev e y)).map fun a=>(aI L e d a,ah)):=rfl
theorem acR {neq:Bool} {x y:Ar}:UG P L N n0 ⟨d, .bq neq x y,g⟩ r t Q e ah (some true)=US P L N n0 r t Q ((LL (ev e x) (ev e y)).map fun b=>(aI L e d (.bool (if neq then !b else b)),ah)):=rfl
theorem acS {neq:Bool} {x y:Ar}:UG P L N n0 ⟨d, .pq neq x y,g⟩ r t Q e ah (some true)=US P L N n0 r t Q ((LM (ev e x) (ev e y)).map fun b=>(aI L e d (.bool (if neq then !b else b)),ah)):=rfl
def Zq (L:List Nat) (e:Env) (ah:AH) (d:Option Nat) (ks:List Pk) (neq:Bool):AV→AV→Option (Env×AH)
 | .agg zq, .agg bs=>(cq ks zq bs).map fun b=>(aI L e d (.bool (if neq then !b else b)),ah)
 |_,_=>none
theorem aap {ks:List Pk} {neq:Bool} {x y:Ar}:UG P L N n0 ⟨d, .seq ks neq x y,g⟩ r t Q e ah (some true)=US P L N n0 r t Q (Zq L e ah d ks neq (ev e x) (ev e y)):=by
 simp only [UG,bN];cases ev e x<;>cases ev e y<;>rfl
theorem acT {op:UnOp} {x:Ar}:UG P L N n0 ⟨d, .un op x,g⟩ r t Q e ah (some true)=US P L N n0 r t Q ((LO op (ev e x)).map fun a=>(aI L e d a,ah)):=rfl
def OS (L:List Nat) (e:Env) (ah:AH) (d:Option Nat) (p n:Nat) (cs:List AV):Option (Env×AH):=
 if p+n≤cs.length then (bytesOf ((cs.drop p).take n)).map fun l=>(aI L e d (.str l),ah) else none
def TH (L:List Nat) (e:Env) (ah:AH) (d:Option Nat) (p n:Nat):Option (List AV)→Option (Env×AH)
 |some cs=>OS L e ah d p n cs
 |none=>none
def D2 (L:List Nat) (e:Env) (ah:AH) (d:Option Nat) (h:Cv):AV→Option (Env×AH)
 | .cF s k p n=>match h with
   | .bs=>if k=1 then TH L e ah d p n (ah[s]?) else none
   |h=>(fE h (.cF s k p n)).map fun a=>(aI L e d a,ah)
 |a=>(fE h a).map fun a=>(aI L e d a,ah)
theorem aaq {h:Cv} {x:Ar}:UG P L N n0 ⟨d, .ec h x,g⟩ r t Q e ah (some true)=US P L N n0 r t Q (D2 L e ah d h (ev e x)):=by
 simp only [UG,bN]
 congr 1
 cases ev e x with
 |cF s k p n=>
  cases h with
  |bs=>
   simp only [D2]
   split
   · cases ah[s]? <;>rfl
   · rfl
  |_=>rfl
 |_=>cases h<;>rfl
theorem XX {x:Ar}:UG P L N n0 ⟨d, .vD x,g⟩ r t Q e ah (some true)=US P L N n0 r t Q ((fE .bs (ev e x)).map fun a=>(aI L e d a,ah)):=rfl
def TI (L:List Nat) (e:Env) (ah:AH) (d:Option Nat):AV→Option (Env×AH)
 | .str l=>some (aI L e d (.cF ah.length 1 0 l.length),ah++[l.map b8])
 |_=>none
theorem XY {x:Ar}:UG P L N n0 ⟨d, .uB x,g⟩ r t Q e ah (some true)=US P L N n0 r t Q (TI L e ah d (ev e x)):=by
 simp only [UG,bN];cases ev e x<;>rfl
theorem acU {neq:Bool} {x y:Ar}:UG P L N n0 ⟨d, .iq neq x y,g⟩ r t Q e ah (some true)=US P L N n0 r t Q ((LN (ev e x) (ev e y)).map fun b=>(aI L e d (.bool (if neq then !b else b)),ah)):=rfl
theorem acV {mx:Bool} {x y:Ar}:UG P L N n0 ⟨d, .mm mx x y,g⟩ r t Q e ah (some true)=US P L N n0 r t Q ((Jg mx (ev e x) (ev e y)).map fun a=>(aI L e d a,ah)):=rfl
theorem aar {f:Nat} {cs:List Ar}:UG P L N n0 ⟨d, .Je f cs,g⟩ r t Q e ah (some true)=U P L N n0 (It.ops r::t) Q Exit.normal (aI L e d (.fn f (cs.map (ev e)))) ah:=rfl
def uC:AV→Option Nat
 | .int _ i=>if 0≤i then some i.toNat else none
 |_=>none
theorem aeF {dflt:Nat}:mE e dflt none=some dflt:=rfl
theorem TJ {dflt:Nat} {x:Ar}:mE e dflt (some x)=uC (ev e x):=by
 simp only [mE];cases ev e x<;>rfl
def OT (L:List Nat) (e:Env) (ah:AH) (d:Option Nat) (l:List UInt8):Option Nat→Option Nat→Option (Env×AH)
 |some i,some j=>if i≤j∧j≤l.length then some (aI L e d (.str ((l.take j).drop i)),ah) else none
 |_,_=>none
def OU (L:List Nat) (e:Env) (ah:AH) (d:Option Nat) (lo hi:Option Ar):AV→Option (Env×AH)
 | .str l=>OT L e ah d l (mE e 0 lo) (mE e l.length hi)
 |_=>none
theorem aas {x:Ar} {lo hi:Option Ar}:UG P L N n0 ⟨d, .Jf x lo hi,g⟩ r t Q e ah (some true)=US P L N n0 r t Q (OU L e ah d lo hi (ev e x)):=by
 simp only [UG,bN]
 cases ev e x with
 |str l=>simp only [OU,OT];cases mE e 0 lo<;>cases mE e l.length hi<;>rfl
 |_=>rfl
def OV (L:List Nat) (e:Env) (ah:AH) (d:Option Nat) (k k':Nat) (xs:List AV):Option Nat→Option Nat→Option (Env×AH)
 |some i,some j=>if k'=k∧i≤j∧j≤xs.length then some (aI L e d (.sl .n k ((xs.take j).drop i)),ah) else none
 |_,_=>none
def OW (L:List Nat) (e:Env) (ah:AH) (d:Option Nat) (k:Nat) (lo hi:Option Ar):AV→Option (Env×AH)
 | .sl _ k' xs=>OV L e ah d k k' xs (mE e 0 lo) (mE e xs.length hi)
 |_=>none
theorem aat {k:Nat} {x:Ar} {lo hi:Option Ar}:UG P L N n0 ⟨d, .slc k x lo hi none,g⟩ r t Q e ah (some true)=US P L N n0 r t Q (OW L e ah d k lo hi (ev e x)):=by
 simp only [UG,bN]
 cases ev e x with
 |sl t k' xs=>simp only [OW,OV];cases mE e 0 lo<;>cases mE e xs.length hi<;>rfl
 |_=>rfl
def Ht (L:List Nat) (e:Env) (ah:AH) (d:Option Nat) (k k':Nat) (xs:List AV):Option Nat→Option Nat→Option Nat→Option (Env×AH)
 |some i,some j,some m=>if k'=k∧i≤j∧j=m∧m≤xs.length then some (aI L e d (.sl .ex k ((xs.take j).drop i)),ah) else none
 |_,_,_=>none
def Hu (L:List Nat) (e:Env) (ah:AH) (d:Option Nat) (k:Nat) (lo:Option Ar) (hi m:Ar):AV→Option (Env×AH)
 | .sl _ k' xs=>Ht L e ah d k k' xs (mE e 0 lo) (mE e xs.length (some hi)) (mE e 0 (some m))
 |_=>none
theorem XZ {k:Nat} {x:Ar} {lo:Option Ar} {hi m:Ar}:UG P L N n0 ⟨d, .slc k x lo (some hi) (some m),g⟩ r t Q e ah (some true)=US P L N n0 r t Q (Hu L e ah d k lo hi m (ev e x)):=by
 simp only [UG,bN]
 cases ev e x with
 |sl t k' xs=>
  simp only [Hu,Ht]
  cases mE e 0 lo with
  |none=>rfl
  |some i=>
   cases mE e xs.length (some hi) with
   |none=>rfl
   |some j=>
    simp only [Option.isNone_some,Bool.false_eq_true,if_false]
    cases mE e 0 (some m)<;>rfl
 |_=>rfl
def OX (L:List Nat) (e:Env) (ah:AH) (d:Option Nat) (k k':Nat):Option AV→Option (Env×AH)
 |some a=>if k'=k then some (aI L e d (.ep a 0),ah) else none
 |none=>none
def sS (L:List Nat) (e:Env) (ah:AH) (d:Option Nat) (k:Nat):AV→AV→Option (Env×AH)
 | .sl _ k' xs, .int _ i=>if 0≤i then OX L e ah d k k' (xs[i.toNat]?) else none
 | .cF s k' p n, .int _ i=>if 0≤i∧i<n∧k'=k then some (aI L e d (.ptr s (p+i.toNat*k)),ah) else none
 | .cy s k' n _, .int _ i=>if 0≤i∧i<n∧k'=k then some (aI L e d (.ptr s (i.toNat*k)),ah) else none
 |_,_=>none
def JH (L:List Nat) (e:Env) (ah:AH) (d:Option Nat) (k m:Nat):AV→AV→Option (Env×AH)
 | .ptr s p, .int _ i=>if 0≤i∧i<m then some (aI L e d (.ptr s (p+i.toNat*k)),ah) else none
 | .ep a p, .int _ i=>if 0≤i∧i<m then some (aI L e d (.ep a (p+i.toNat*k)),ah) else none
 |_,_=>none
theorem aau {k m:Nat} {x i:Ar}:UG P L N n0 ⟨d, .PC k m x i,g⟩ r t Q e ah (some true)=US P L N n0 r t Q (JH L e ah d k m (ev e x) (ev e i)):=by
 simp only [UG,bN]
 cases ev e x with
 |ptr s p=>cases ev e i<;>rfl
 |ep a p=>cases ev e i<;>rfl
 |_=>cases ev e i<;>rfl
def OY (L:List Nat) (e:Env) (ah:AH) (d:Option Nat) (u k:Nat) (xs:List AV):AV→Option (Env×AH)
 | .sl .own k2 zs=>if k2=k then some (aI L (put e u (.sl .n k2 zs)) d (.sl .own k xs),ah) else none
 |_=>none
def JI (L:List Nat) (e:Env) (ah:AH) (d:Option Nat) (k:Nat):AV→Option (Env×AH)
 | .sl .ex k' []=>if k'=k then some (aI L e d (.cy 0 k 0 0),ah) else none
 | .cy s k' n c=>some (aI L e d (.cy s k' n c),ah)
 | .sl (.fr (.tmp u)) k' xs=>OY L e ah d u k' xs (get e u)
 |_=>none
theorem aav {k:Nat} {x:Ar}:UG P L N n0 ⟨d, .Bi k x,g⟩ r t Q e ah (some true)=US P L N n0 r t Q (JI L e ah d k (ev e x)):=by
 simp only [UG,bN]
 cases ev e x with
 |sl t k' xs=>cases t<;>cases xs<;>rfl
 |_=>rfl
theorem aaw {k:Nat} {x i:Ar}:UG P L N n0 ⟨d, .lC k x i,g⟩ r t Q e ah (some true)=US P L N n0 r t Q (sS L e ah d k (ev e x) (ev e i)):=by
 simp only [UG,bN]
 cases ev e x with
 |sl t k' xs=>cases ev e i with
  |int ki n=>simp only [sS,OX];cases xs[n.toNat]? <;>rfl
  |_=>rfl
 |cF s k' p n=>cases ev e i<;>rfl
 |cy s k' n c=>cases ev e i<;>rfl
 |_=>cases ev e i<;>rfl
def TK (L:List Nat) (e:Env) (ah:AH) (d:Option Nat):Option UInt8→Option (Env×AH)
 |some c=>some (aI L e d (b8 c),ah)
 |none=>none
def JJ (L:List Nat) (e:Env) (ah:AH) (d:Option Nat):AV→AV→Option (Env×AH)
 | .str l, .int _ i=>if 0≤i then TK L e ah d (l[i.toNat]?) else none
 |_,_=>none
theorem aax {x i:Ar}:UG P L N n0 ⟨d, .ixs x i,g⟩ r t Q e ah (some true)=US P L N n0 r t Q (JJ L e ah d (ev e x) (ev e i)):=by
 simp only [UG,bN]
 cases ev e x with
 |str l=>cases ev e i with
  |int ki n=>simp only [JJ,TK];cases l[n.toNat]? <;>rfl
  |_=>rfl
 |_=>cases ev e i<;>rfl
theorem aeo {l:List UInt8} {i j:Nat}:OT L e ah d l (some i) (some j)=if i≤j∧j≤l.length then some (aI L e d (.str ((l.take j).drop i)),ah) else none:=rfl
theorem aep {k k' i j:Nat} {xs:List AV}:OV L e ah d k k' xs (some i) (some j)=if k'=k∧i≤j∧j≤xs.length then some (aI L e d (.sl .n k ((xs.take j).drop i)),ah) else none:=rfl
theorem acW {k k' i j m:Nat} {xs:List AV}:Ht L e ah d k k' xs (some i) (some j) (some m)=if k'=k∧i≤j∧j=m∧m≤xs.length then some (aI L e d (.sl .ex k ((xs.take j).drop i)),ah) else none:=rfl
theorem aeq {k k':Nat} {a:AV}:OX L e ah d k k' (some a)=if k'=k then some (aI L e d (.ep a 0),ah) else none:=rfl
theorem aer {c:UInt8}:TK L e ah d (some c)=some (aI L e d (b8 c),ah):=rfl
theorem aay {n:Option Nat} {s p:Nat} {cs:List AV}:XW L d n s p e ah (some cs)=(lK n s p cs).map fun a=>(aI L e d a,ah):=rfl
theorem aaz {c:AV}:P9 L d e ah (some c)=if c.flat then some (aI L e d c.s1,ah) else none:=rfl
theorem aes {α:Type} {c:Prop} [Decidable c] {x:Option α} (h:c):(if c then x else none)=x:=by rw [if_pos h]
theorem acX {α:Type} {c:Prop} [Decidable c] {x:Option α} (h:¬c):(if c then none else x)=x:=by rw [if_neg h]
theorem aeG {x:Ar} {i:Nat}:UG P L N n0 ⟨d, .ext x i,g⟩ r t Q e ah (some true)=US P L N n0 r t Q (bN L ⟨d, .ext x i,none⟩ e ah):=by simp only [UG,vQ L d _ g]
theorem aeH {x:Ar}:UG P L N n0 ⟨d, .len x,g⟩ r t Q e ah (some true)=US P L N n0 r t Q (bN L ⟨d, .len x,none⟩ e ah):=by simp only [UG,vQ L d _ g]
theorem aet {x:Ar}:UG P L N n0 ⟨d, .lens x,g⟩ r t Q e ah (some true)=US P L N n0 r t Q (bN L ⟨d, .lens x,none⟩ e ah):=by simp only [UG,vQ L d _ g]
def TL (L:List Nat) (e:Env) (ah:AH) (d:Option Nat) (k b:Nat) (x:Ar):AV→Option (Env×AH)
 | .sl _ k' ys=>if k'=k then xU L e ah d k b x ys else none
 |_=>none
theorem aaA {k b:Nat} {x y:Ar}:UG P L N n0 ⟨d, .app k b x y,g⟩ r t Q e ah (some true)=US P L N n0 r t Q (TL L e ah d k b x (ev e y)):=by
 simp only [UG,bN];cases ev e y<;>rfl
def TM (L:List Nat) (e:Env) (ah:AH) (d:Option Nat) (b:Nat) (x:Ar):AV→Option (Env×AH)
 | .str l=>xU L e ah d 1 b x (l.map b8)
 |_=>none
theorem X0 {b:Nat} {x y:Ar}:UG P L N n0 ⟨d, .apps b x y,g⟩ r t Q e ah (some true)=US P L N n0 r t Q (TM L e ah d b x (ev e y)):=by
 simp only [UG,bN];cases ev e y<;>rfl
theorem X1 {f:Ar} {zq:List Ar}:UG P L N n0 ⟨d, .call f zq,g⟩ r t Q e ah (some true)=UF P L N n0 zq d r t Q e ah (ev e f):=rfl
theorem acY {o:aQ} {b:Bool}:UG P L N n0 o r t Q e ah (some b)=if b then (UG P L N n0 o r t Q e ah (some true)) else U P L N n0 (.ops r::t) Q .normal (pK e o.d) ah:=by
 cases b<;>rfl
theorem acj {o:aQ} {b:Bool} (h1:b=true→UG P L N n0 o r t Q e ah (some true)) (h2:b=false→U P L N n0 (.ops r::t) Q .normal (pK e o.d) ah):UG P L N n0 o r t Q e ah (some b):=by
 cases b
 · exact h2 rfl
 · exact h1 rfl
end
end Go.Am
namespace Go.Am
open Go
variable [Tabs]
theorem mF.set {n:Nat} {ah:AH} (h:mF n ah) {s:Nat} {cs:List AV} (hc:∀a∈cs,Cl n a):mF n (ah.set s cs):=by
 intro t ds ht a ha
 rw [List.getElem?_set] at ht
 split at ht
 · split at ht
   · injection ht with ht;subst ht;exact hc a ha
   · cases ht
 · exact h t ds ht a ha
theorem L6.old {P:Program} {n:Nat} {rs:List ResultVar} {R:AV→AH→Prop} {x:Exit} {e:Env} {ah:AH} {vs:List AV} (hx:x= .normal∨x= .ret) (hr:gL P e ah rs=some vs)
 (hc:Cl n (fin vs)) (hh:mF n ah) (hn:ah.length=n) (h:R (fin vs) ah):L6 P n rs R x e ah:=by
 refine ⟨hx, ?_⟩
 rw [hr]
 have:ah.take n=ah:=List.take_of_length_le (by omega)
 simp only [this]
 exact ⟨hc,hh,by omega,h⟩
theorem w64 {n:Int} (h1: -9223372036854775808≤n) (h2:n≤9223372036854775807):IntKind.wrap .i64 n=n:=by
 simp only [IntKind.wrap,IntKind.bits,IntKind.signed,Bool.true_and,decide_eq_true_eq,Int.reducePow,Nat.reduceSub,ge_iff_le]
 split<;>omega
theorem w8 {n:Int} (h1:0≤n) (h2:n≤255):IntKind.wrap .u8 n=n:=by
 simp only [IntKind.wrap,IntKind.bits,IntKind.signed,Bool.false_and,if_false,Bool.false_eq_true]
 omega
theorem Zr {j:Nat}:((j:Int)+1).toNat=j+1:=by omega
theorem aeI {P:Program} {L:List Nat} {N n0:Nat} {t:List It} {Q:Exit→Env→AH→Prop} {r:List aQ} {c:Prop} [Decidable c] {x:Option (Env×AH)} (h:c):
 US P L N n0 r t Q (if c then x else none)=US P L N n0 r t Q x:=by rw [if_pos h]
theorem map_if {α β:Type} {f:α→β} {c:Prop} [Decidable c] {x:Option α} (h:c):Option.map f (if c then x else none)=Option.map f x:=by rw [if_pos h]
theorem JK {L:List Nat} {d:Option Nat} {k b:Nat} {x y:Ar} {e:Env} {ah:AH} {K K':Env→AH→Prop} (h:pz L d k b x y e ah K) (hk:∀e ah,K e ah→K' e ah):pz L d k b x y e ah K':=by
 unfold pz at h ⊢
 split at h
 · obtain ⟨h1,h2,h3,h4,h5,h6⟩:=h
   refine ⟨h1,h2,h3,h4,h5, ?_⟩
   rcases h6 with ⟨g1,g2,g3⟩|⟨cs,g1,g2,g3,g4,g5,g6,g7⟩
   · exact .inl ⟨g1,g2,fun c hc=>hk _ _ (g3 c hc)⟩
   · exact .inr ⟨cs,g1,g2,g3,g4,g5,fun h=>hk _ _ (g6 h),fun h c hc=>hk _ _ (g7 h c hc)⟩
 · exact h
theorem Qa {L:List Nat} {d:Option Nat} {n:Bool} {x:Ar} {e:Env} {ah:AH} {K K':Env→AH→Prop} (h:DG L d n x e ah K) (hk:∀e ah,K e ah→K' e ah):DG L d n x e ah K':=by
 unfold DG at h ⊢
 split at h
 · exact ⟨fun h0 b=>hk _ _ (h.1 h0 b),fun h0=>hk _ _ (h.2 h0)⟩
 · exact h
theorem L9 {P:Program} {L:List Nat}:∀(l:List aQ) {K K':Env→AH→Prop} {e:Env} {ah:AH},ey P L l e ah K→(∀e ah,K e ah→K' e ah)→ey P L l e ah K':=by
 intro l
 induction l with
 |nil=>intro K K' e ah h hk;exact hk _ _ h
 |cons o r ih=>
  intro K K' e ah h hk
  simp only [ey] at h ⊢
  split at h
  · rename_i hg
    obtain ⟨d,op,g⟩:=o
    cases op with
    |call f zq=>
     simp only [zY] at h ⊢
     split at h
     · exact ⟨h.1,h.2.mono fun v aH h=>ih h hk⟩
     · exact h
    |mI k b x y=>
     have h':pz L d k b x y e ah (fun e ah=>ey P L r e ah K):=h
     exact JK h' fun e ah h=>ih h hk
    |nq n x=>
     have h':DG L d n x e ah (fun e ah=>ey P L r e ah K):=h
     exact Qa h' fun e ah h=>ih h hk
    |_=>
     simp only [zY] at h ⊢
     split at h
     · exact ih h hk
     · exact h
  · exact ih h hk
  · exact h
theorem JL {P:Program} {L:List Nat} {N n0:Nat}:∀(c:aD) {Q Q':Exit→Env→AH→Prop} {e:Env} {ah:AH},jS P L N n0 c Q e ah→(∀x e ah,Q x e ah→Q' x e ah)→jS P L N n0 c Q' e ah:=by
 intro c
 induction c with
 |skip=>intro Q Q' e ah h hq;exact hq _ _ _ h
 |ret=>intro Q Q' e ah h hq;exact hq _ _ _ h
 |exit i=>intro Q Q' e ah h hq;exact hq _ _ _ h
 |rg ops=>intro Q Q' e ah h hq;exact L9 ops h fun e ah h=>hq _ _ _ h
 |seq a b D0 D1=>
  intro Q Q' e ah h hq
  refine D0 h fun x e ah h=> ?_
  cases x with
  |normal=>exact D1 h hq
  |_=>exact hq _ _ _ h
 |cond c a b D0 D1=>
  intro Q Q' e ah h hq
  simp only [jS] at h ⊢
  split at h
  · split at h
    · rename_i h1;rw [if_pos h1];exact D0 h hq
    · rename_i h1;rw [if_neg h1];exact D1 h hq
  · exact h.elim
 |blk i c ih=>
  intro Q Q' e ah h hq
  refine ih h fun x e ah h=> ?_
  cases x with
  |exit j=>
   simp only at h ⊢
   split at h
   · rename_i h1;rw [if_pos h1];exact hq _ _ _ h
   · rename_i h1;rw [if_neg h1];exact hq _ _ _ h
  |_=>exact hq _ _ _ h
 |loop c ih=>
  intro Q Q' e ah h hq
  exact fun c' cj=>(h c' cj).mono hq
 |sem c ih=>
  intro Q Q' e ah h hq
  exact fun c' cj=>(h c' cj).mono hq
theorem X2 {P:Program} {L:List Nat} {N n0:Nat} {c:aD} {Q Q':Exit→Env→AH→Prop} {e:Env} {ah:AH} (h:U P L N n0 [.code c] Q .normal e ah) (hq:∀x e ah,Q x e ah→Q' x e ah):U P L N n0 [.code c] Q' .normal e ah:=
 JL c h hq
theorem TN {e e2:Env} (h:∀p∈e2,p.2= .un∨Am.get e p.1=p.2∨∃t k xs,Am.get e p.1= .sl t k xs∧p.2= .sl .n k xs):∀t,Wk (Am.get e t) (Am.get e2 t):=by
 intro t
 have key:∀e2:Env,Am.get e2 t= .un∨∃p∈e2,p.1=t∧Am.get e2 t=p.2:=by
  intro e2
  induction e2 with
  |nil=>exact .inl rfl
  |cons p r ih=>
   obtain ⟨i,a⟩:=p
   simp only [Am.get]
   split
   · rename_i h;exact .inr ⟨(i,a),by simp,h,rfl⟩
   · rcases ih with h|⟨p,hp,h1,h2⟩
     · exact .inl h
     · exact .inr ⟨p,List.mem_cons_of_mem _ hp,h1,h2⟩
 rcases key e2 with h0|⟨p,hp,rfl,h2⟩
 · rw [h0];exact .un _
 · rw [h2]
   rcases h p hp with h3|h3|⟨tg,k,xs,h3,h4⟩
   · rw [h3];exact .un _
   · rw [h3];exact .same _
   · rw [h3,h4];exact .n ..
def Bu (e e2:Env):Prop:=∀p∈e2,p.2= .un∨Am.get e p.1=p.2∨∃t k xs,Am.get e p.1= .sl t k xs∧p.2= .sl .n k xs
theorem Qb {P:Program} {L:List Nat} {N n0:Nat} {e:Env} {ah:AH} {t:List It} {Q:Exit→Env→AH→Prop} {c:aD} (J:Nat→Env→AH→Prop) (k0:Nat) (e0:Env) (ho:qJ N c=true)
 (hw:∀p∈e0,p.2= .un∨Am.get e p.1=p.2∨∃t k xs,Am.get e p.1= .sl t k xs∧p.2= .sl .n k xs) (h0:J k0 e0 ah)
 (round:∀k e ah,J k e ah→U P L N n0 [.code c] (fun x e' aH=>match x with
  | .normal=>∃k' e2,k'<k∧(∀p∈e2,p.2= .un∨Am.get e' p.1=p.2∨∃t k xs,Am.get e' p.1= .sl t k xs∧p.2= .sl .n k xs)∧J k' e2 aH
  |x=>U P L N n0 t Q x e' aH) .normal e ah):
 UX P L N n0 (.loop c) t Q e ah:=by
 intro c'
 induction c' with
 |loop c0 _=>
  intro cj
  simp only [bQ,Option.map_eq_some_iff] at cj
  obtain ⟨a,ha,he⟩:=cj
  injection he with he
  subst he
  refine AW.loop (fun k e ah=>∃e1,(∀t,Wk (Am.get e t) (Am.get e1 t))∧J k e1 ah) (k0:=k0) ?_ ⟨e0,TN hw,h0⟩
  rintro k e ah ⟨e1,hw1,hJ⟩
  refine AW.weak hw1 (oY c0 a _ e1 ah (by rw [ju c0 a ha];exact ha) (by rw [ju c0 a ha];exact ho) ?_)
  have:=round k e1 ah hJ
  refine X2 this fun x e' aH h=> ?_
  cases x with
  |normal=>obtain ⟨k',e2,h1,h2,h3⟩:=h;exact ⟨k',h1,e2,TN h2,h3⟩
  |_=>exact h
 |scope c0 ih=>exact fun cj=>AW.scope (ih cj)
 |region id ops draw=>intro cj;simp only [bQ] at cj;repeat' (split at cj)<;>simp at cj
 |block i c0=>intro cj;simp only [bQ,Option.map_eq_some_iff] at cj;obtain ⟨a, -,h⟩:=cj;cases h
 |seq a b=>intro cj;simp only [bQ] at cj;split at cj<;>simp at cj
 |cond a b c=>intro cj;simp only [bQ] at cj;split at cj<;>simp at cj
 |_=>intro cj;simp [bQ] at cj
theorem ack {P:Program} {L:List Nat} {N n0:Nat} {e:Env} {ah:AH} {t:List It} {Q:Exit→Env→AH→Prop} {c:aD} (J:Nat→Env→AH→Prop) (k0:Nat) (e0:Env) (ho:qJ N c=true)
 (hw:Bu e e0) (h0:J k0 e0 ah)
 (round:∀(K:Exit→Env→AH→Prop) k e ah,J k e ah→(∀k' e' e2 aH,k'<k→Bu e' e2→J k' e2 aH→K .normal e' aH)→(∀e' aH,U P L N n0 t Q .ret e' aH→K .ret e' aH)→
  (∀i e' aH,U P L N n0 t Q (.exit i) e' aH→K (.exit i) e' aH)→U P L N n0 [.code c] K .normal e ah):UX P L N n0 (.loop c) t Q e ah:=
 Qb J k0 e0 ho hw h0 fun k e ah hJ=>round _ k e ah hJ (fun k' e' e2 aH h1 h2 h3=>⟨k',e2,h1,h2,h3⟩) (fun _ _ h=>h) (fun _ _ _ h=>h)
theorem Bu.nil {e:Env}:Bu e []:=by intro p hp;cases hp
theorem Bu.same {e r:Env} {i:Nat} {a:AV} (h:Am.get e i=a) (hr:Bu e r):Bu e ((i,a)::r):=by
 intro p hp
 rcases List.mem_cons.1 hp with rfl|hp
 · exact .inr (.inl h)
 · exact hr p hp
theorem Bu.un {e r:Env} {i:Nat} (hr:Bu e r):Bu e ((i, .un)::r):=by
 intro p hp
 rcases List.mem_cons.1 hp with rfl|hp
 · exact .inl rfl
 · exact hr p hp
theorem Bu.sl {e r:Env} {i k:Nat} {tg:Tg} {xs:List AV} (h:Am.get e i= .sl tg k xs) (hr:Bu e r):Bu e ((i, .sl .n k xs)::r):=by
 intro p hp
 rcases List.mem_cons.1 hp with rfl|hp
 · exact .inr (.inr ⟨_,_,_,h,rfl⟩)
 · exact hr p hp
theorem aG.weak {P:Program} {f:Nat} {args args':List AV} {ah:AH} {R:AV→AH→Prop} (hl:args'.length=args.length) (hw:∀(i:Nat) (a a':AV),args[i]? =some a→args'[i]? =some a'→Wk a a') (h:aG P f args' ah R):
 aG P f args ah R:=by
 refine ⟨h.1,fun F γ C w vs hs=>h.2 F γ C w vs ?_⟩
 rw [hl]
 refine hs.wk fun t=> ?_
 rw [eC,eC]
 simp only [Nat.zero_le,if_true,Nat.sub_zero]
 cases h1:args[t]? with
 |none=>
  have:args'[t]? =none:=by
   rw [List.getElem?_eq_none_iff] at h1 ⊢
   omega
  rw [this];exact .same _
 |some a=>
  have hlt:t<args'.length:=by rw [hl];exact (List.getElem?_eq_some_iff.1 h1).1
  rw [List.getElem?_eq_getElem hlt]
  exact hw t a _ h1 (List.getElem?_eq_getElem hlt)
theorem JM:∀l:List UInt8,bytesOf (l.map b8)=some l:=by
 intro l
 induction l with
 |nil=>rfl
 |cons c r ih=>
  simp only [List.map_cons,b8,bytesOf]
  rw [ih]
  simp
theorem Qc {ah:AH} {i:Nat} {x:List AV} (h:ah[i]? =some x):ah.set i x=ah:=by
 have hlt:=(List.getElem?_eq_some_iff.1 h).1
 apply List.ext_getElem?
 intro j
 rw [List.getElem?_set]
 split
 · rename_i hj;subst hj;simp only [h,ite_eq_left_iff];try exact fun h0=>absurd hlt h0
 · rfl
theorem L6.new {P:Program} {n:Nat} {rs:List ResultVar} {R:AV→AH→Prop} {x:Exit} {e:Env} {ah aH:AH} {vs:List AV} (hx:x= .normal∨x= .ret) (hr:gL P e ah rs=some vs) (ht:ah.take n=aH)
 (hc:Cl n (fin vs)) (hh:mF n aH) (hn:n≤ah.length) (h:R (fin vs) aH):L6 P n rs R x e ah:=by
 refine ⟨hx, ?_⟩
 rw [hr]
 simp only [ht]
 exact ⟨hc,hh,hn,h⟩
theorem Bv {P:Program} {e:Env} {ah:AH}:gL P e ah []=some []:=rfl
theorem w5 {P:Program} {e:Env} {ah:AH} {t:Nat} {rs:List ResultVar} {a:AV} {vs:List AV} (h:Am.get e t=a) (ht:a.eO=false) (hr:gL P e ah rs=some vs):gL P e ah (.tmp t::rs)=some (a::vs):=by
 subst h
 simp only [gL,ht,hr,Bool.false_eq_true,if_false]
theorem gw {P:Program} {e:Env} {ah:AH} {a:Nat} {ty:TypeId} {n:Option Nat} {rs:List ResultVar} {s o:Nat} {cs vs:List AV} {v:AV} (ht:tok P ty=true) (hn:tn P ty=n) (h:Am.get e a= .ptr s o) (hs:ah[s]? =some cs)
 (hl:lK n s o cs=some v) (hr:gL P e ah rs=some vs):gL P e ah (.cell a ty::rs)=some (v.sh::vs):=by
 subst hn
 simp only [gL,ht,if_true,h,hs,hl,hr]
theorem aG.wkR {P:Program} {f:Nat} {args:List AV} {ah:AH} {R R':AV→AH→Prop} (h:aG P f args ah R) (hr:∀r aH,R r aH→∃r',Wk r r'∧R' r' aH):aG P f args ah R':=by
 refine ⟨h.1,fun F γ C w vs hs=>(h.2 F γ C w vs hs).mono ?_⟩
 rintro en w' ⟨r,v,aH,γ',C',rfl,h1,h2,h3,h4⟩
 obtain ⟨r',g1,g2⟩:=hr r aH h1
 refine ⟨r',v,aH,γ',C',rfl,g2,h2,h3.wk fun t=> ?_,h4⟩
 simp only [Am.get]
 split
 · exact g1
 · exact .same _
theorem Cl.up {n:Nat} {a:AV} (h:Cl n a) {m:Nat} (hm:n≤m):Cl m a:=by
 induction h with
 |ptr s o hs=>exact .ptr _ _ (by omega)
 |fn f cs _ ih=>exact .fn _ _ fun a ha=>ih a ha
 |agg cs _ ih=>exact .agg _ fun a ha=>ih a ha
 |bK cs _ ih=>exact .bK _ fun a ha=>ih a ha
 |v=>exact .v _
 |int=>exact .int ..
 |bool=>exact .bool _
 |str=>exact .str _
 |sl=>exact .sl ..
 |ep e o _ ih=>exact .ep _ _ fun a ha=>ih a ha
 |cF s k o n hs=>exact .cF _ _ _ _ (by omega)
 |ri=>exact .ri ..
 |cy s k o n hs=>exact .cy _ _ _ _ (by omega)
 |dQ=>exact .dQ
 |un=>exact .un
theorem mF.up {n m:Nat} {ah:AH} (h:mF n ah) (hm:n≤m):mF m ah:=fun s cs hs a ha=>(h s cs hs a ha).up hm
theorem mF.app {n:Nat} {ah qI:AH} (h:mF n ah) (h2:mF n qI):mF n (ah++qI):=by
 intro s cs hs a ha
 rw [List.getElem?_append] at hs
 split at hs
 · exact h s cs hs a ha
 · exact h2 _ cs hs a ha
theorem mF.one {n:Nat} {cs:List AV} (h:∀a∈cs,Cl n a):mF n [cs]:=by
 intro s ds hs a ha
 rcases s with _|s
 · simp at hs;subst hs;exact h a ha
 · simp at hs
end Go.Am
end
section
namespace Go.Am
open Go
variable [Tabs]
def W1 (a a':AV):Prop:=a'=a∨∃t k xs,a= .sl t k xs∧a'= .sl .n k xs
def cv:List AV→List AV→Prop
 |[],[]=>True
 |a::r,a'::r'=>W1 a a'∧cv r r'
 |_,_=>False
theorem cv.len:∀ {cs cs':List AV},cv cs cs'→cs'.length=cs.length:=by
 intro cs
 induction cs with
 |nil=>intro cs' h;cases cs' with|nil=>rfl|cons=>exact h.elim
 |cons a r ih=>intro cs' h;cases cs' with|nil=>exact h.elim|cons a' r'=>simp [ih h.2]
theorem cv.get:∀ {cs cs':List AV},cv cs cs'→∀(i:Nat) (a a':AV),cs[i]? =some a→cs'[i]? =some a'→W1 a a':=by
 intro cs
 induction cs with
 |nil=>intro cs' _ i a a' h;simp at h
 |cons a r ih=>
  intro cs' h i b b' h1 h2
  cases cs' with
  |nil=>exact h.elim
  |cons a' r'=>
   rcases i with _|i
   · simp at h1 h2;subst h1;subst h2;exact h.1
   · exact ih h.2 i b b' (by simpa using h1) (by simpa using h2)
def W2 (a a':AV):Prop:=W1 a a'∨∃ds ds',a= .agg ds∧a'= .agg ds'∧cv ds ds'
def oK:List AV→List AV→Prop
 |[],[]=>True
 |a::r,a'::r'=>W2 a a'∧oK r r'
 |_,_=>False
theorem oK.len:∀ {cs cs':List AV},oK cs cs'→cs'.length=cs.length:=by
 intro cs
 induction cs with
 |nil=>intro cs' h;cases cs' with|nil=>rfl|cons=>exact h.elim
 |cons a r ih=>intro cs' h;cases cs' with|nil=>exact h.elim|cons a' r'=>simp [ih h.2]
theorem oK.get:∀ {cs cs':List AV},oK cs cs'→∀(i:Nat) (a a':AV),cs[i]? =some a→cs'[i]? =some a'→W2 a a':=by
 intro cs
 induction cs with
 |nil=>intro cs' _ i a a' h;simp at h
 |cons a r ih=>
  intro cs' h i b b' h1 h2
  cases cs' with
  |nil=>exact h.elim
  |cons a' r'=>
   rcases i with _|i
   · simp at h1 h2;subst h1;subst h2;exact h.1
   · exact ih h.2 i b b' (by simpa using h1) (by simpa using h2)
theorem W2.wk {a a':AV} (h:W2 a a'):Wk a a':=by
 rcases h with (rfl|⟨t,k,xs,rfl,rfl⟩)|⟨ds,ds',rfl,rfl,h⟩
 · exact .same _
 · exact .n ..
 · exact .agg _ _ h.len h.get
theorem W2.tcy {a a':AV} {v:Value} (h:W2 a a') (ht:G6 a v):G6 a' v:=by
 rcases h with (rfl|⟨t,k,xs,rfl,rfl⟩)|⟨ds,ds',rfl,rfl,h⟩
 · exact ht
 · exact SH ..
 · cases v with
   |agg vs=>
    intro i a' hi
    have hlt:i<ds.length:=by rw [←h.len];exact (List.getElem?_eq_some_iff.1 hi).1
    rcases h.get i _ _ (List.getElem?_eq_getElem hlt) hi with e|⟨t,k,xs,e1,rfl⟩
    · rw [e];exact ht i _ (List.getElem?_eq_getElem hlt)
    · exact G7 ..
   |_=>trivial
inductive Wx:AV→AV→Prop
 |wk (a a'):Wk a a'→(∀l k xs,a'≠ .sl (.fr l) k xs)→Wx a a'
 |own (k xs):Wx (.sl .ex k xs) (.sl .own k xs)
 |OZ (cs cs'):oK cs cs'→Wx (.bK cs) (.bK cs')
def u6 (cs cs':List AV):Prop:=cs'.length=cs.length∧∀(i:Nat) (a a':AV),cs[i]? =some a→cs'[i]? =some a'→Wx a a'
def eR (ah aH:AH):Prop:=aH.length=ah.length∧∀(s:Nat) (cs':List AV),aH[s]? =some cs'→∃cs,ah[s]? =some cs∧(cs'=cs∨u6 cs cs')
def WS (e:Env) (ah:AH) (e1:Env) (b6:AH):Prop:=(∀t,Wx (get e t) (get e1 t))∧eR ah b6
theorem Wx.vr {C:Nat→List Value} {γ:List Nat} {a a':AV} {v:Value} (hw:Wx a a') (h:VR C γ a v):VR C γ a' v:=by
 cases hw with
 |wk _ _ hk=>exact hk.vr h
 |own=>exact h.jR _
 |OZ cs cs' hc=>
  obtain ⟨vs,rfl,hs,hv⟩:=h.vF
  refine .bK _ _ _ (by rw [hc.len];exact hs) fun i a' hi=> ?_
  have hlt:i<cs.length:=by rw [←hc.len];exact (List.getElem?_eq_some_iff.1 hi).1
  exact (hc.get i _ _ (List.getElem?_eq_getElem hlt) hi).wk.vr (hv i _ (List.getElem?_eq_getElem hlt))
theorem Wx.tc {w:World} {C:Nat→List Value} {γ:List Nat} {a a':AV} {v:Value} (hw:Wx a a') (hv:VR C γ a v) (h:TC w C a v):TC w C a' v:=by
 cases hw with
 |wk _ _ hk=>exact hk.tc h
 |own k xs=>
  obtain ⟨ad,c,rfl, -⟩:=hv.fA
  exact .inl h
 |OZ cs cs' hc=>
  obtain ⟨vs,rfl, -, -⟩:=hv.vF
  intro i a' hi
  have hlt:i<cs.length:=by rw [←hc.len];exact (List.getElem?_eq_some_iff.1 hi).1
  exact (hc.get i _ _ (List.getElem?_eq_getElem hlt) hi).tcy (h i _ (List.getElem?_eq_getElem hlt))
theorem Wx.bR {w:World} {C:Nat→List Value} {γ:List Nat} {a a':AV} {v:Value} {b:Nat} (hw:Wx a a') (hv:VR C γ a v) (ht:TC w C a v) (h:bR a' v=some b):Am.bR a v=some b:=by
 cases hw with
 |wk _ _ hk=>exact hk.own h
 |own k xs=>
  obtain ⟨ad,c,rfl, -⟩:=hv.fA
  have hc:c=xs.length:=ht
  subst hc
  cases ad<;>simp [Am.bR] at h
 |OZ=>simp [Am.bR] at h
theorem SR.wx {L N F γ C e ah ts w} (h:SR L N F γ C e ah ts w) {e':Env} {aH:AH} (hw:WS e ah e' aH):SR L N F γ C e' aH ts w:=by
 obtain ⟨he,hl,hh⟩:=hw
 have hb:∀p b,blk γ e' aH ts w p b→blk γ e ah ts w p b:=by
  intro p b hp
  cases p with
  |obj s=>exact hp
  |tmp t=>exact (he t).bR (h.env t).1 (h.env t).2 hp
  |cell s i=>
   obtain ⟨cs',a',b0,h1,h2,h3,h4⟩:=hp
   obtain ⟨cs,g1,g2⟩:=hh s cs' h1
   rcases g2 with rfl|⟨g2,g3⟩
   · exact ⟨_,a',b0,g1,h2,h3,h4⟩
   · have hlt:i<cs.length:=by rw [←g2];exact (List.getElem?_eq_some_iff.1 h2).1
     have h0:cs[i]? =some cs[i]:=List.getElem?_eq_getElem hlt
     refine ⟨cs,cs[i],b0,g1,h0,h3, ?_⟩
     obtain ⟨vs,ty,q1,q2,q3⟩:=h.mem.obj s b0 cs g1 h3
     have hc:(w.cell? ⟨b0,i,none⟩).getD undef=vs.getD i undef:=by
      rw [dc q1];simp [Array.getD_eq_getD_getElem?]
     rw [hc] at h4 ⊢
     exact (g3 i _ _ h0 h2).bR (q3 i _ h0).1 (q3 i _ h0).2 h4
 refine ⟨⟨by rw [h.mem.len,hl],fun s b cs' h1 h2=> ?_,h.mem.tN,fun s b cs' h1 hne h2=> ?_,fun s b cs' us ty fr h1 h2 h3=> ?_⟩,h.sz,fun t=>⟨(he t).vr (h.env t).1,(he t).tc (h.env t).1 (h.env t).2⟩,fun p q b hp hq=>h.dF p q b (hb p b hp) (hb q b hq),
  fun p b hp=>h.nf p b (hb p b hp),h.jV,fun t l k xs ht=> ?_⟩
 · obtain ⟨cs,g1,g2⟩:=hh s cs' h1
   obtain ⟨vs,ty,q1,q2,q3⟩:=h.mem.obj s b cs g1 h2
   rcases g2 with rfl|⟨g2,g3⟩
   · exact ⟨vs,ty,q1,q2,q3⟩
   · refine ⟨vs,ty,q1,by omega,fun i a' hi=> ?_⟩
     have hlt:i<cs.length:=by rw [←g2];exact (List.getElem?_eq_some_iff.1 hi).1
     have h0:cs[i]? =some cs[i]:=List.getElem?_eq_getElem hlt
     exact ⟨(g3 i _ _ h0 hi).vr (q3 i _ h0).1,(g3 i _ _ h0 hi).tc (q3 i _ h0).1 (q3 i _ h0).2⟩
 · obtain ⟨cs,g1,g2⟩:=hh s cs' h1
   refine h.mem.pG s b cs g1 ?_ h2
   rintro rfl
   rcases g2 with rfl|⟨g2, -⟩
   · exact hne rfl
   · exact hne (List.eq_nil_of_length_eq_zero g2)
 · obtain ⟨cs,g1,g2⟩:=hh s cs' h1
   have hl':cs'.length=cs.length:=by
    rcases g2 with rfl|⟨g2, -⟩
    · rfl
    · exact g2
   rw [hl']
   exact h.mem.Bj s b cs us ty fr g1 h2 h3
 · exfalso
   have:=he t
   rw [ht] at this
   generalize get e t=a at this
   cases this with
   |wk _ _ _ hn=>exact hn l k xs rfl
theorem eR.refl (ah:AH):eR ah ah:=⟨rfl,fun s cs h=>⟨cs,h, .inl rfl⟩⟩
theorem eR.set {ah:AH} {q:Nat} {cs cs':List AV} (hq:ah[q]? =some cs) (hc:u6 cs cs'):eR ah (ah.set q cs'):=by
 refine ⟨by simp,fun s ds hs=> ?_⟩
 rw [List.getElem?_set] at hs
 split at hs
 · rename_i h;subst h
   split at hs
   · injection hs with hs;subst hs;exact ⟨cs,hq, .inr hc⟩
   · cases hs
 · exact ⟨ds,hs, .inl rfl⟩
theorem Wx.un (a:AV):Wx a .un:= .wk _ _ (.un _) (by simp)
theorem Wx.n {t:Tg} {k:Nat} {xs:List AV}:Wx (.sl t k xs) (.sl .n k xs):= .wk _ _ (.n ..) (by simp)
theorem Wx.same {a:AV} (h:∀l k xs,a≠ .sl (.fr l) k xs):Wx a a:= .wk _ _ (.same _) h
theorem Wx.int {k:IntKind} {i:Int}:Wx (.int k i) (.int k i):= .same (by simp)
theorem Wx.b8 {c:UInt8}:Wx (b8 c) (b8 c):= .same (by simp [Am.b8])
theorem Wx.bool {b:Bool}:Wx (.bool b) (.bool b):= .same (by simp)
theorem Wx.str {l:List UInt8}:Wx (.str l) (.str l):= .same (by simp)
theorem Wx.ptr {s o:Nat}:Wx (.ptr s o) (.ptr s o):= .same (by simp)
theorem Wx.v {x:Value}:Wx (.v x) (.v x):= .same (by simp)
theorem Wx.fn {f:Nat} {cs:List AV}:Wx (.fn f cs) (.fn f cs):= .same (by simp)
theorem Wx.ep {a:AV} {o:Nat}:Wx (.ep a o) (.ep a o):= .same (by simp)
theorem Wx.ex {k:Nat} {xs:List AV}:Wx (.sl .ex k xs) (.sl .ex k xs):= .same (by simp)
theorem Wx.nn {k:Nat} {xs:List AV}:Wx (.sl .n k xs) (.sl .n k xs):= .same (by simp)
theorem Wx.oo {k:Nat} {xs:List AV}:Wx (.sl .own k xs) (.sl .own k xs):= .same (by simp)
theorem Wx.agg {cs cs':List AV} (h:cv cs cs'):Wx (.agg cs) (.agg cs'):= .wk _ _ (.agg _ _ h.len h.get) (by simp)
theorem Wx.bK {cs cs':List AV} (h:cv cs cs'):Wx (.bK cs) (.bK cs'):= .wk _ _ (.bK _ _ h.len h.get) (by simp)
theorem Wx.acZ {cs cs':List AV} (h:oK cs cs'):Wx (.bK cs) (.bK cs'):= .OZ _ _ h
theorem oK.nil:oK [] []:=trivial
theorem oK.same {a:AV} {r r':List AV} (h:oK r r'):oK (a::r) (a::r'):=⟨.inl (.inl rfl),h⟩
theorem oK.n {t:Tg} {k:Nat} {xs:List AV} {r r':List AV} (h:oK r r'):oK (.sl t k xs::r) (.sl .n k xs::r'):=⟨.inl (.inr ⟨_,_,_,rfl,rfl⟩),h⟩
theorem oK.agg {ds ds':List AV} {r r':List AV} (hd:cv ds ds') (h:oK r r'):oK (.agg ds::r) (.agg ds'::r'):=⟨.inr ⟨_,_,rfl,rfl,hd⟩,h⟩
theorem cv.nil:cv [] []:=trivial
theorem cv.same {a:AV} {r r':List AV} (h:cv r r'):cv (a::r) (a::r'):=⟨.inl rfl,h⟩
theorem cv.n {t:Tg} {k:Nat} {xs:List AV} {r r':List AV} (h:cv r r'):cv (.sl t k xs::r) (.sl .n k xs::r'):=⟨.inr ⟨_,_,_,rfl,rfl⟩,h⟩
theorem u6.nil:u6 [] []:=⟨rfl,fun i a a' h=>by simp at h⟩
theorem u6.cons {a a':AV} {r r':List AV} (h:Wx a a') (hr:u6 r r'):u6 (a::r) (a'::r'):=by
 refine ⟨by simp [hr.1],fun i b b' h1 h2=> ?_⟩
 rcases i with _|i
 · simp at h1 h2;subst h1;subst h2;exact h
 · exact hr.2 i b b' (by simpa using h1) (by simpa using h2)
def WE (e e1:Env):Prop:=∀p∈e1,Wx (Am.get e p.1) p.2
theorem WE.nil {e:Env}:WE e []:=by intro p hp;cases hp
theorem WE.cons {e r:Env} {i:Nat} {a:AV} (h:Wx (Am.get e i) a) (hr:WE e r):WE e ((i,a)::r):=by
 intro p hp
 rcases List.mem_cons.1 hp with rfl|hp
 · exact h
 · exact hr p hp
theorem WE.all {e e1:Env} (h:WE e e1):∀t,Wx (Am.get e t) (Am.get e1 t):=by
 intro t
 have key:∀e1:Env,Am.get e1 t= .un∨∃p∈e1,p.1=t∧Am.get e1 t=p.2:=by
  intro e1
  induction e1 with
  |nil=>exact .inl rfl
  |cons p r ih=>
   obtain ⟨i,a⟩:=p
   simp only [Am.get]
   split
   · rename_i h;exact .inr ⟨(i,a),by simp,h,rfl⟩
   · rcases ih with h|⟨p,hp,h1,h2⟩
     · exact .inl h
     · exact .inr ⟨p,List.mem_cons_of_mem _ hp,h1,h2⟩
 rcases key e1 with h0|⟨p,hp,rfl,h2⟩
 · rw [h0];exact Wx.un _
 · rw [h2];exact h p hp
section
variable {P:Program} {L:List Nat} {N n0:Nat} {e:Env} {ah:AH} {t:List It} {Q K:Exit→Env→AH→Prop} {r:List aQ} {d:Option Nat}
theorem AW.Hv {c:Code} {e1:Env} {b6:AH} (hw:WS e ah e1 b6) (h:AW P L N n0 c Q e1 b6):AW P L N n0 c Q e ah:=
 fun F γ C ts w hs hn=>h F γ C ts w (hs.wx hw) hn
theorem AW.closed {c:Code} (h:AW P L N n0 c (fun x e ah=>Q x e ah∨∃e1 b6,WS e ah e1 b6∧Q x e1 b6) e ah):AW P L N n0 c Q e ah:=by
 intro F γ C ts w hs hn
 refine wp_mono (h F γ C ts w hs hn) ?_
 rintro x a w' ⟨hd,hg,e',aH,γ',C',h1,h2,h3,h4⟩
 rcases h1 with h1|⟨e1,b6,hw,h1⟩
 · exact ⟨hd,hg,e',aH,γ',C',h1,h2,h3,h4⟩
 · exact ⟨hd,hg,e1,b6,γ',C',h1,h2,h3.wx hw,h4⟩
theorem AX.weak {c:aD} {e1:Env} {b6:AH} (he:WE e e1) (hh:eR ah b6) (h:AX P L N n0 c Q e1 b6):AX P L N n0 c Q e ah:=
 fun c' cj=>AW.Hv ⟨he.all,hh⟩ (h c' cj)
theorem AX.mono {c:aD} {Q':Exit→Env→AH→Prop} (h:AX P L N n0 c Q e ah) (hq:∀x e ah,Q x e ah→Q' x e ah):AX P L N n0 c Q' e ah:=
 fun c' cj=>(h c' cj).mono hq
theorem AX.go {m c:aD} (hm:erase m=c) (ho:qJ N c=true)
 (h:∀K':Exit→Env→AH→Prop,(∀x e ah e1 b6,WE e e1→eR ah b6→K x e1 b6→K' x e ah)→U P L N n0 [.code m] K' .normal e ah):AX P L N n0 c K e ah:=by
 subst hm
 intro c' cj
 refine AW.closed (oY c' m _ e ah cj ho (h _ ?_))
 intro x e ah e1 b6 h1 h2 h3
 exact .inr ⟨e1,b6,⟨h1.all,h2⟩,h3⟩
theorem aaB {c:aD} (h:AX P L N n0 c (fun x e ah=>U P L N n0 t Q x e ah) e ah):UX P L N n0 c t Q e ah:=h
inductive St (ρ τ σ:Type) where
 |ret (r:ρ)
 |fI (t:τ)
 |cT (s:σ)
def iter {ρ τ σ:Type} (body:σ→Option (St ρ τ σ)):Nat→σ→Option (ρ⊕τ)
 |0,_=>none
 |n+1,s=>match body s with
  |none=>none
  |some (.ret r)=>some (.inl r)
  |some (.fI t)=>some (.inr t)
  |some (.cT s')=>iter body n s'
theorem AX.iter {ρ τ σ:Type} {body:σ→Option (St ρ τ σ)} {m c:aD} (hm:erase m=c) (ho:qJ N c=true) (J:σ→Env→AH→Prop) {F:Nat} {s0:σ} {o:ρ⊕τ} (hit:Am.iter body F s0=some o) (h0:J s0 e ah)
 (round:∀(K':Exit→Env→AH→Prop) s st e ah,J s e ah→body s=some st→
  (∀s',st= .cT s'→∀e' aH e1 b6,WE e' e1→eR aH b6→J s' e1 b6→K' .normal e' aH)→
  (∀t,st= .fI t→o= .inr t)→(∀r,st= .ret r→o= .inl r)→
  (∀x e' aH e1 b6,x≠ .normal→WE e' e1→eR aH b6→K x e1 b6→K' x e' aH)→U P L N n0 [.code m] K' .normal e ah):AX P L N n0 (.loop c) K e ah:=by
 subst hm
 intro c'
 induction c' with
 |loop c0 _=>
  intro cj
  simp only [bQ,Option.map_eq_some_iff] at cj
  obtain ⟨a,ha,he⟩:=cj
  injection he with he
  subst he
  refine AW.loop (fun k e ah=>∃s e1 b6,WS e ah e1 b6∧J s e1 b6∧Am.iter body k s=some o∨(J s e ah∧Am.iter body k s=some o)) (k0:=F) ?_ ⟨s0,e,ah, .inr ⟨h0,hit⟩⟩
  have main:∀k s e ah,J s e ah→Am.iter body k s=some o→AW P L N n0 c0 (fun x e' aH=>match x with
   | .normal=>∃k',k'<k∧∃s e1 b6,WS e' aH e1 b6∧J s e1 b6∧Am.iter body k' s=some o∨(J s e' aH∧Am.iter body k' s=some o)|x=>K x e' aH) e ah:=by
   intro k s e ah hJ hk
   cases k with
   |zero=>simp [Am.iter] at hk
   |succ k=>
    cases hb:body s with
    |none=>simp [Am.iter,hb] at hk
    |some st=>
     simp only [Am.iter,hb] at hk
     refine AW.closed (oY c0 m _ e ah ha ho (round _ s st e ah hJ hb ?_ ?_ ?_ ?_))
     · rintro s' rfl e' aH e1 b6 g1 g2 g3
       exact .inl ⟨k,Nat.lt_succ_self k,s',e1,b6, .inl ⟨⟨g1.all,g2⟩,g3,hk⟩⟩
     · rintro t rfl;simp only [Option.some.injEq] at hk;exact hk.symm
     · rintro r rfl;simp only [Option.some.injEq] at hk;exact hk.symm
     · intro x e' aH e1 b6 hx g1 g2 g3
       cases x with
       |normal=>exact absurd rfl hx
       |_=>exact .inr ⟨e1,b6,⟨g1.all,g2⟩,g3⟩
  rintro k e ah ⟨s,e1,b6,⟨hw,hJ,hk⟩|⟨hJ,hk⟩⟩
  · exact AW.Hv hw (main k s e1 b6 hJ hk)
  · exact main k s e ah hJ hk
 |scope c0 ih=>exact fun cj=>AW.scope (ih cj)
 |region id ops draw=>intro cj;simp only [bQ] at cj;repeat' (split at cj)<;>simp at cj
 |block i c0=>intro cj;simp only [bQ,Option.map_eq_some_iff] at cj;obtain ⟨a, -,h⟩:=cj;cases h
 |seq a b=>intro cj;simp only [bQ] at cj;split at cj<;>simp at cj
 |cond a b c=>intro cj;simp only [bQ] at cj;split at cj<;>simp at cj
 |_=>intro cj;simp [bQ] at cj
theorem aG.wkx {f:Nat} {args:List AV} {ah:AH} {R R':AV→AH→Prop} (h:aG P f args ah R) (hr:∀r aH,R r aH→∃r' D3,Wx r r'∧eR aH D3∧R' r' D3):aG P f args ah R':=by
 refine ⟨h.1,fun F γ C w vs hs=>(h.2 F γ C w vs hs).mono ?_⟩
 rintro en w' ⟨r,v,aH,γ',C',rfl,h1,h2,h3,h4⟩
 obtain ⟨r',D3,g1,g2,g3⟩:=hr r aH h1
 refine ⟨r',v,D3,γ',C',rfl,g3,h2,h3.wx ⟨fun t=> ?_,g2⟩,h4⟩
 simp only [Am.get]
 split
 · exact g1
 · exact Wx.un _
def WL:List AV→List AV→Prop
 |[],[]=>True
 |a::r,a'::r'=>Wx a a'∧WL r r'
 |_,_=>False
theorem WL.nil:WL [] []:=trivial
theorem WL.cons {a a':AV} {r r':List AV} (h:Wx a a') (hr:WL r r'):WL (a::r) (a'::r'):=⟨h,hr⟩
theorem WL.len:∀ {zq zq':List AV},WL zq zq'→zq'.length=zq.length:=by
 intro zq
 induction zq with
 |nil=>intro zq' h;cases zq' with|nil=>rfl|cons=>exact h.elim
 |cons a r ih=>intro zq' h;cases zq' with|nil=>exact h.elim|cons a' r'=>simp [ih h.2]
theorem WL.get:∀ {zq zq':List AV},WL zq zq'→∀(i:Nat) (a a':AV),zq[i]? =some a→zq'[i]? =some a'→Wx a a':=by
 intro zq
 induction zq with
 |nil=>intro zq' _ i a a' h;simp at h
 |cons a r ih=>
  intro zq' h i b b' h1 h2
  cases zq' with
  |nil=>exact h.elim
  |cons a' r'=>
   rcases i with _|i
   · simp at h1 h2;subst h1;subst h2;exact h.1
   · exact ih h.2 i b b' (by simpa using h1) (by simpa using h2)
theorem aG.Hv {f:Nat} {args args':List AV} {ah b6:AH} {R:AV→AH→Prop} (hw:WL args args') (hh:eR ah b6) (h:aG P f args' b6 R):aG P f args ah R:=by
 refine ⟨h.1,fun F γ C w vs hs=>h.2 F γ C w vs ?_⟩
 rw [hw.len]
 refine hs.wx ⟨fun t=> ?_,hh⟩
 rw [eC,eC]
 simp only [Nat.zero_le,if_true,Nat.sub_zero]
 cases h1:args[t]? with
 |none=>
  have:args'[t]? =none:=by
   rw [List.getElem?_eq_none_iff] at h1 ⊢
   rw [hw.len];exact h1
  rw [this];exact Wx.un _
 |some a=>
  have hlt:t<args'.length:=by rw [hw.len];exact (List.getElem?_eq_some_iff.1 h1).1
  rw [List.getElem?_eq_getElem hlt]
  exact hw.get t a _ h1 (List.getElem?_eq_getElem hlt)
theorem Zs {f:Nat} {zq zq':List AV} {b6:AH} {R:AV→AH→Prop} (h:aG P f zq' b6 R) (hw:WL zq zq') (hh:eR ah b6) (hk:∀v aH,R v aH→U P L N n0 (.ops r::t) Q .normal (aI L (vR e) d v.df) aH):
 UK P L N n0 f zq d r t Q e ah:=(h.Hv hw hh).mono hk
def vV (P:Program) (ah:AH) (rs:List ResultVar) (R:AV→AH→Prop) (e':Env) (H:AH):Prop:=
 ∃vs r' aH,gL P e' H rs=some vs∧Wx (fin vs) r'∧R r' aH∧
  ((Cl ah.length (fin vs)∧mF ah.length (H.take ah.length)∧ah.length≤H.length∧eR (H.take ah.length) aH)∨eR H aH)
theorem aG.goX {f:Nat} {rs:List ResultVar} {ac m:aD} (hF:bw P f N rs ac) (hm:erase m=ac) {args:List AV} {R:AV→AH→Prop} (L:List Nat)
 (ho:qJ N ac=true) (hN:args.length≤N)
 (h:mF ah.length ah→∀K:Exit→Env→AH→Prop,(∀x e' H,x= .normal∨x= .ret→vV P ah rs R e' H→K x e' H)→
  AX P L N ah.length ac K (fm 0 args) ah):aG P f args ah R:=by
 refine aG.wkx (R:=fun r aH=>∃r' D3,Wx r r'∧eR aH D3∧R r' D3) ?_ (fun r aH h=>h)
 obtain ⟨fn,c,h1,h2,h3,h4,rfl,rfl⟩:=hF
 refine aG.OQ L h1 h2 h3 h4 ho hN ?_
 intro hcl hargs
 refine h hcl _ ?_
 rintro x e' H hx ⟨vs,r',aH,g1,g2,g3,⟨g4,g5,g6,g7⟩|g4⟩
 · refine .inl ⟨ah.length,Nat.le_refl _,hx, ?_⟩
   rw [g1]
   exact ⟨g4,g5,g6,r',aH,g2,g7,g3⟩
 · refine .inr ⟨hx, ?_⟩
   rw [g1]
   exact ⟨r',aH,g2,g4,g3⟩
end
end Go.Am
end
section
namespace Go.Am
open Go
variable [Tabs]
def idx {α:Type} (l:List α) (i:Int):Option α:=if 0≤i then l[i.toNat]? else none
def sub {α:Type} (l:List α) (i j:Int):Option (List α):=if 0≤i∧i≤j∧j≤l.length then some ((l.take j.toNat).drop i.toNat) else none
def cC {α:Type} (b:Nat) (xs ys:List α):Option (List α):=if (xs.length+ys.length)*b≤140737488355328∧xs.length+ys.length≤4611686018427387904 then some (xs++ys) else none
def cat (l m:List UInt8):Option (List UInt8):=if l.length+m.length≤9223372036854775807 then some (l++m) else none
def ml {α:Type} (f:α→AV) (xs:List α):List AV:=xs.map f
def dv (k:IntKind) (i j:Int):Option Int:=if j=0 then none else some (k.wrap (i.tdiv j))
def rm (k:IntKind) (i j:Int):Option Int:=if j=0 then none else some (i.tmod j)
def shl (k:IntKind) (i j:Int):Int:=k.wrap (i*2 ^ (min j.toNat k.bits))
def shr (k:IntKind) (i j:Int):Int:=i.fdiv (2 ^ (min j.toNat k.bits))
def xW (k:IntKind) (i j:Int):Int:=k.wrap (BitVec.ofInt k.bits i &&& BitVec.ofInt k.bits j).toNat
def JN (k:IntKind) (i j:Int):Int:=k.wrap (BitVec.ofInt k.bits i ||| BitVec.ofInt k.bits j).toNat
def sU (k:IntKind) (i j:Int):Int:=k.wrap (BitVec.ofInt k.bits i ^^^ BitVec.ofInt k.bits j).toNat
def jd (k:IntKind) (i:Int):AV:= .int k i
theorem ay {α β:Type} {o:Option α} {f:α→Option β} {r:β} (h:o.bind f=some r):∃x,o=some x∧f x=some r:=Option.bind_eq_some_iff.1 h
theorem ifb {β:Type} {B:Bool} {x y:Option β} {r:β} (h:(if B=true then x else y)=some r):(B=true∧x=some r)∨(B=false∧y=some r):=by
 cases B
 · exact .inr ⟨rfl,h⟩
 · exact .inl ⟨rfl,h⟩
theorem TP {β:Type} {p:Prop} [Decidable p] {x:Option β} {r:β} (h:(if p then x else none)=some r):p∧x=some r:=by
 split at h
 · exact ⟨by assumption,h⟩
 · cases h
theorem O0 {α:Type} (f:α→AV) (l:List α) (i:Int):idx (ml f l) i=(idx l i).map f:=by
 unfold idx ml;split<;>simp
theorem Hw {α:Type} (f:α→AV) (l:List α) (i j:Int):sub (ml f l) i j=(sub l i j).map (ml f):=by
 unfold sub ml;simp only [List.length_map];split<;>simp [List.map_take,List.map_drop,ml]
theorem Hx {α:Type} (f:α→AV) (l:List α):(ml f l).length=l.length:=by simp [ml]
theorem eo {α:Type} {f:α→AV} {b:Nat} {xs ys zs:List α} (h:cC b xs ys=some zs):cC b (ml f xs) (ml f ys)=some (ml f zs):=by
 unfold cC at h ⊢
 simp only [Hx]
 obtain ⟨hc,h⟩:=TP h
 rw [if_pos hc]
 injection h with h
 subst h
 simp [ml]
theorem Cs (l:List UInt8):bytesOf (ml b8 l)=some l:=JM l
section
variable {P:Program} {L:List Nat} {N n0:Nat} {e:Env} {ah:AH} {t:List It} {Q:Exit→Env→AH→Prop} {r:List aQ} {d:Option Nat} {g:Option (Nat×Bool)}
theorem aaC {y:Nat} {bs:List UInt8}:UG P L N n0 ⟨d, .lit y bs,g⟩ r t Q e ah (some true)=U P L N n0 (It.ops r::t) Q Exit.normal (put (aI L e d (.sl .ex 1 (ml b8 bs))) y .un) ah:=rfl
theorem O1 {l:List UInt8} {k:IntKind} {i:Int}:JJ L e ah d (.str l) (.int k i)=(idx l i).map fun c=>(aI L e d (b8 c),ah):=by
 simp only [JJ,idx]
 split
 · cases l[i.toNat]? <;>rfl
 · rfl
theorem O2 {tg:Tg} {k:Nat} {xs:List AV} {ki:IntKind} {i:Int}:sS L e ah d k (.sl tg k xs) (.int ki i)=(idx xs i).map fun a=>(aI L e d (.ep a 0),ah):=by
 simp only [sS,idx]
 split
 · cases xs[i.toNat]? <;>simp [OX]
 · rfl
def bI (e:Env) (dflt:Int):Option Ar→AV
 |none=> .int .i64 dflt
 |some x=>ev e x
def O3 (L:List Nat) (e:Env) (ah:AH) (d:Option Nat) (l:List UInt8):AV→AV→Option (Env×AH)
 | .int _ i, .int _ j=>(sub l i j).map fun m=>(aI L e d (.str m),ah)
 |_,_=>none
theorem Hy {n:Nat} {x:Option Ar}:mE e n x=uC (bI e n x):=by
 cases x with
 |none=>simp [mE,bI,uC]
 |some x=>simp only [TJ,bI]
theorem D4 {x:Option Ar}:mE e 0 x=uC (bI e 0 x):=Hy (n:=0)
theorem acm {k:IntKind} {i:Int}:uC (.int k i)=if 0≤i then some i.toNat else none:=rfl
theorem D5 {α:Type} (l:List α) (i j:Int):sub l i j=if 0≤i then if 0≤j then if i.toNat≤j.toNat∧j.toNat≤l.length then some ((l.take j.toNat).drop i.toNat) else none else none else none:=by
 unfold sub
 by_cases h1:0≤i
 · by_cases h2:0≤j
   · simp only [if_pos h1,if_pos h2]
     have:(0≤i∧i≤j∧j≤(l.length:Int))↔(i.toNat≤j.toNat∧j.toNat≤l.length):=by omega
     simp only [this]
   · rw [if_neg (by omega)];simp [h2]
 · rw [if_neg (by omega)];simp [h1]
theorem X3 {l:List UInt8} {lo hi:Option Ar}:OU L e ah d lo hi (.str l)=O3 L e ah d l (bI e 0 lo) (bI e l.length hi):=by
 simp only [OU,D4,Hy]
 generalize bI e 0 lo=a
 generalize bI e l.length hi=b
 cases a with
 |int k i=>
  cases b with
  |int k' j=>
   simp only [uC,O3,D5]
   by_cases h1:0≤i<;>by_cases h2:0≤j<;>simp only [h1,h2,if_true,if_false,OT,Option.map_none]
   split<;>rfl
  |_=>simp only [uC,O3];split<;>rfl
 |_=>cases b<;>rfl
def O4 (L:List Nat) (e:Env) (ah:AH) (d:Option Nat) (k:Nat) (xs:List AV):AV→AV→Option (Env×AH)
 | .int _ i, .int _ j=>(sub xs i j).map fun ys=>(aI L e d (.sl .n k ys),ah)
 |_,_=>none
theorem X4 {tg:Tg} {k:Nat} {xs:List AV} {lo hi:Option Ar}:OW L e ah d k lo hi (.sl tg k xs)=O4 L e ah d k xs (bI e 0 lo) (bI e xs.length hi):=by
 simp only [OW,D4,Hy]
 generalize bI e 0 lo=a
 generalize bI e xs.length hi=b
 cases a with
 |int k i=>
  cases b with
  |int k' j=>
   simp only [uC,O4,D5]
   by_cases h1:0≤i<;>by_cases h2:0≤j<;>simp only [h1,h2,if_true,if_false,OV,Option.map_none,true_and]
   split<;>rfl
  |_=>simp only [uC,O4];split<;>rfl
 |_=>cases b<;>rfl
def vW {α:Type} (l:List α) (i j m:Int):Option (List α):=if j=m then sub l i j else none
theorem JO {α:Type} (f:α→AV) (l:List α) (i j m:Int):vW (ml f l) i j m=(vW l i j m).map (ml f):=by
 unfold vW;split
 · exact Hw ..
 · rfl
def D6 (L:List Nat) (e:Env) (ah:AH) (d:Option Nat) (k:Nat) (xs:List AV):AV→AV→AV→Option (Env×AH)
 | .int _ i, .int _ j, .int _ m=>(vW xs i j m).map fun ys=>(aI L e d (.sl .ex k ys),ah)
 |_,_,_=>none
theorem TQ {tg:Tg} {k:Nat} {xs:List AV} {lo:Option Ar} {hi m:Ar}:Hu L e ah d k lo hi m (.sl tg k xs)=D6 L e ah d k xs (bI e 0 lo) (ev e hi) (ev e m):=by
 simp only [Hu,D4,TJ]
 generalize bI e 0 lo=a
 generalize ev e hi=b
 generalize ev e m=c
 cases a with
 |int k i=>
  cases b with
  |int k' j=>
   cases c with
   |int k'' l=>
    simp only [uC,D6,vW,D5]
    by_cases h1:0≤i<;>by_cases h2:0≤j<;>by_cases h3:0≤l<;>by_cases h4:j=l<;>simp only [h1,h2,h3,h4,if_true,if_false,Ht,Option.map_none,true_and]
    all_goals first
     |rfl
     |(exfalso;omega)
     |(subst h4;split<;>rename_i q<;>split<;>rename_i q2<;>first|rfl|(exfalso;omega))
     |(split<;>first|rfl|(exfalso;omega))
   |_=>simp only [uC,D6];repeat' split
       all_goals first|rfl|skip
  |_=>simp only [uC,D6];repeat' split
      all_goals first|rfl|skip
 |_=>cases b<;>cases c<;>rfl
theorem X5 {tg:Tg} {k b:Nat} {x:Ar} {ys:List AV}:TL L e ah d k b x (.sl tg k ys)=xU L e ah d k b x ys:=by simp [TL]
theorem TR {b:Nat} {x:Ar} {l:List UInt8}:TM L e ah d b x (.str l)=xU L e ah d 1 b x (ml b8 l):=rfl
def sr (L:List Nat) (e:Env) (ah:AH) (d:Option Nat) (k:Nat) (x:Ar) (xs zs:List AV):Tg→Option (Env×AH)
 | .ex=>some (aI L e d (.sl .own k zs),ah)
 | .own=>match x with
   | .t x=>some (aI L (put e x (.sl .n k xs)) d (.sl .own k zs),ah)
   |_=>none
 | .fr (.tmp t)=>match get e t with
   | .sl .own k' us=>if k'=k then some (aI L (put e t (.sl .n k' us)) d (.sl .own k zs),ah) else none
   |_=>none
 | .fr (.cell s q)=>match ah[s]? with
   |some cs=>match cs[q]? with
    |some (.sl .own k' us)=>if k'=k then (over cs q [.sl .n k' us]).map fun cs=>(aI L e d (.sl .own k zs),ah.set s cs) else none
    |_=>none
   |none=>none
 | .n=>none
def D7 (L:List Nat) (e:Env) (ah:AH) (d:Option Nat) (k:Nat) (x:Ar) (xs:List AV) (tg:Tg):Option (List AV)→Option (Env×AH)
 |some zs=>sr L e ah d k x xs zs tg
 |none=>none
theorem TS {L:List Nat} {e:Env} {ah:AH} {d:Option Nat} {k:Nat} {x:Ar} {xs zs:List AV} {tg:Tg}:D7 L e ah d k x xs tg (some zs)=sr L e ah d k x xs zs tg:=rfl
def Hz (L:List Nat) (e:Env) (ah:AH) (d:Option Nat) (k b:Nat) (x:Ar) (ys:List AV):AV→Option (Env×AH)
 | .sl tg k' xs=>if k'=k then D7 L e ah d k x xs tg (cC b xs ys) else none
 |_=>none
theorem X6 {k b:Nat} {x:Ar} {ys:List AV}:xU L e ah d k b x ys=Hz L e ah d k b x ys (ev e x):=by
 simp only [xU]
 cases ev e x with
 |sl tg k' xs=>
  simp only [Hz,cC]
  by_cases h1:k'=k
  · subst h1
    simp only [true_and,if_true]
    by_cases h2:(xs.length+ys.length)*b≤140737488355328∧xs.length+ys.length≤4611686018427387904
    · simp only [if_pos h2,D7]
      cases tg with
      |fr l=>cases l with
       |tmp u=>
        simp only [sr]
        cases get e u with
        |sl X7 k2 zs=>cases X7<;>rfl
        |_=>rfl
       |cell s q=>
        simp only [sr]
        cases ah[s]? with
        |none=>rfl
        |some cs=>
         simp only []
         cases cs[q]? with
         |none=>rfl
         |some a=>cases a with
          |sl X7 k2 zs=>cases X7<;>rfl
          |_=>rfl
      |own=>cases x<;>rfl
      |_=>rfl
    · simp only [if_neg h2,D7]
  · simp [h1]
 |_=>rfl
end
theorem TT {k:IntKind} {i j:Int}:bC .add (.int k i) (.int k j)=some (.int k (k.wrap (i+j))):=by simp [bC,cG]
theorem TU {k:IntKind} {i j:Int}:bC .sub (.int k i) (.int k j)=some (.int k (k.wrap (i - j))):=by simp [bC,cG]
theorem aaD {k:IntKind} {i j:Int}:bC .mul (.int k i) (.int k j)=some (.int k (k.wrap (i*j))):=by simp [bC,cG]
theorem aaE {k:IntKind} {i j:Int}:bC .quo (.int k i) (.int k j)=(dv k i j).map (.int k):=by simp [bC,cG,dv];split<;>rfl
theorem TV {k:IntKind} {i j:Int}:bC .rem (.int k i) (.int k j)=(rm k i j).map (.int k):=by simp [bC,cG,rm];split<;>rfl
theorem TW {k:IntKind} {i j:Int}:bC .and (.int k i) (.int k j)=some (.int k (xW k i j)):=by simp [bC,cG,xW]
theorem Zt {k:IntKind} {i j:Int}:bC .or (.int k i) (.int k j)=some (.int k (JN k i j)):=by simp [bC,cG,JN]
theorem TX {k:IntKind} {i j:Int}:bC .xor (.int k i) (.int k j)=some (.int k (sU k i j)):=by simp [bC,cG,sU]
theorem aeJ {k k':IntKind} {i j:Int}:bC .shl (.int k i) (.int k' j)=if j<0 then none else some (.int k (shl k i j)):=by simp [bC,shl]
theorem aeK {k k':IntKind} {i j:Int}:bC .shr (.int k i) (.int k' j)=if j<0 then none else some (.int k (shr k i j)):=by simp [bC,shr]
theorem TY {k:IntKind} {i j:Int}:bC .eql (.int k i) (.int k j)=some (.bool (decide (i=j))):=by simp [bC,cG]
theorem TZ {k:IntKind} {i j:Int}:bC .neq (.int k i) (.int k j)=some (.bool (!decide (i=j))):=by simp [bC,cG]
theorem T0 {k:IntKind} {i j:Int}:bC .lss (.int k i) (.int k j)=some (.bool (decide (i<j))):=by simp [bC,cG]
theorem T3 {k:IntKind} {i j:Int}:bC .leq (.int k i) (.int k j)=some (.bool (decide (i≤j))):=by simp [bC,cG]
theorem T4 {k:IntKind} {i j:Int}:bC .gtr (.int k i) (.int k j)=some (.bool (decide (j<i))):=by simp [bC,cG]
theorem T5 {k:IntKind} {i j:Int}:bC .geq (.int k i) (.int k j)=some (.bool (decide (j≤i))):=by simp [bC,cG]
theorem X8 {k k':IntKind} {i:Int}:bC .shr (.int k i) (.int k' 1)=some (.int k (shr k i 1)):=by simp [bC,shr]
theorem X9 {k k':IntKind} {i:Int}:bC .shl (.int k i) (.int k' 1)=some (.int k (shl k i 1)):=by simp [bC,shl]
theorem Ya {k k':IntKind} {i:Int}:bC .shr (.int k i) (.int k' 2)=some (.int k (shr k i 2)):=by simp [bC,shr]
theorem Yb {k k':IntKind} {i:Int}:bC .shl (.int k i) (.int k' 2)=some (.int k (shl k i 2)):=by simp [bC,shl]
theorem Yc {k k':IntKind} {i:Int}:bC .shr (.int k i) (.int k' 3)=some (.int k (shr k i 3)):=by simp [bC,shr]
theorem Yd {k k':IntKind} {i:Int}:bC .shl (.int k i) (.int k' 3)=some (.int k (shl k i 3)):=by simp [bC,shl]
theorem Ye {k k':IntKind} {i:Int}:bC .shr (.int k i) (.int k' 4)=some (.int k (shr k i 4)):=by simp [bC,shr]
theorem Yf {k k':IntKind} {i:Int}:bC .shl (.int k i) (.int k' 4)=some (.int k (shl k i 4)):=by simp [bC,shl]
theorem Yg {k k':IntKind} {i:Int}:bC .shr (.int k i) (.int k' 5)=some (.int k (shr k i 5)):=by simp [bC,shr]
theorem Yh {k k':IntKind} {i:Int}:bC .shl (.int k i) (.int k' 5)=some (.int k (shl k i 5)):=by simp [bC,shl]
theorem Yi {k k':IntKind} {i:Int}:bC .shr (.int k i) (.int k' 6)=some (.int k (shr k i 6)):=by simp [bC,shr]
theorem Yj {k k':IntKind} {i:Int}:bC .shl (.int k i) (.int k' 6)=some (.int k (shl k i 6)):=by simp [bC,shl]
theorem Yk {k k':IntKind} {i:Int}:bC .shr (.int k i) (.int k' 7)=some (.int k (shr k i 7)):=by simp [bC,shr]
theorem Yl {k k':IntKind} {i:Int}:bC .shl (.int k i) (.int k' 7)=some (.int k (shl k i 7)):=by simp [bC,shl]
theorem Ym {k k':IntKind} {i:Int}:bC .shr (.int k i) (.int k' 8)=some (.int k (shr k i 8)):=by simp [bC,shr]
theorem Yn {k k':IntKind} {i:Int}:bC .shl (.int k i) (.int k' 8)=some (.int k (shl k i 8)):=by simp [bC,shl]
theorem T6 {k k':IntKind} {i:Int}:bC .shr (.int k i) (.int k' 16)=some (.int k (shr k i 16)):=by simp [bC,shr]
theorem T7 {k k':IntKind} {i:Int}:bC .shl (.int k i) (.int k' 16)=some (.int k (shl k i 16)):=by simp [bC,shl]
theorem T8 {k k':IntKind} {i:Int}:bC .shr (.int k i) (.int k' 24)=some (.int k (shr k i 24)):=by simp [bC,shr]
theorem T9 {k k':IntKind} {i:Int}:bC .shl (.int k i) (.int k' 24)=some (.int k (shl k i 24)):=by simp [bC,shl]
theorem aaF {l m:List UInt8}:bC .add (.str l) (.str m)=(cat l m).map .str:=by simp only [bC,cat];split<;>rfl
theorem aaG {l m:List UInt8}:bC .eql (.str l) (.str m)=some (.bool (decide (l=m))):=rfl
theorem aaH {l m:List UInt8}:bC .neq (.str l) (.str m)=some (.bool (!decide (l=m))):=rfl
theorem Ua (n:Int):IntKind.wrap .u8 n=((UInt8.ofInt n).toNat:Int):=by
 have:(UInt8.ofInt n).toNat=(n % 256).toNat:=by
  rw [UInt8.ofInt]
  simp
  omega
 rw [this]
 simp only [IntKind.wrap,IntKind.bits,IntKind.signed,Bool.false_and,if_false,Bool.false_eq_true]
 omega
theorem Yo (a b:UInt8):IntKind.wrap .u8 ((a.toNat:Int)+b.toNat)=((a+b).toNat:Int):=by
 have h1:=a.toNat_lt
 have h2:=b.toNat_lt
 simp only [IntKind.wrap,IntKind.bits,IntKind.signed,Bool.false_and,if_false,Bool.false_eq_true,UInt8.toNat_add]
 omega
theorem Yp (a b:UInt8):IntKind.wrap .u8 ((a.toNat:Int) - b.toNat)=((a - b).toNat:Int):=by
 have h1:=a.toNat_lt
 have h2:=b.toNat_lt
 simp only [IntKind.wrap,IntKind.bits,IntKind.signed,Bool.false_and,if_false,Bool.false_eq_true,UInt8.toNat_sub]
 omega
theorem HA (a:UInt8):IntKind.wrap .u8 (a.toNat:Int)=(a.toNat:Int):=by
 have h1:=a.toNat_lt
 simp only [IntKind.wrap,IntKind.bits,IntKind.signed,Bool.false_and,if_false,Bool.false_eq_true]
 omega
theorem ofInt8 (a:UInt8):BitVec.ofInt 8 (a.toNat:Int)=a.toBitVec:=by
 apply BitVec.eq_of_toNat_eq;simp
theorem aaI {a b:UInt8}:bC .add (b8 a) (b8 b)=some (b8 (a+b)):=by simp only [b8];rw [TT,Yo]
theorem aaJ {a b:UInt8}:bC .sub (b8 a) (b8 b)=some (b8 (a - b)):=by simp only [b8];rw [TU,Yp]
theorem aaK {a b:UInt8}:bC .and (b8 a) (b8 b)=some (b8 (a &&& b)):=by
 simp only [b8];rw [TW,xW]
 have:((BitVec.ofInt IntKind.u8.bits (a.toNat:Int) &&& BitVec.ofInt IntKind.u8.bits (b.toNat:Int)).toNat:Int)=((a &&& b).toNat:Int):=by
  simp only [IntKind.bits,ofInt8];rfl
 rw [this,HA]
theorem ac0 {a b:UInt8}:bC .or (b8 a) (b8 b)=some (b8 (a ||| b)):=by
 simp only [b8];rw [Zt,JN]
 have:((BitVec.ofInt IntKind.u8.bits (a.toNat:Int) ||| BitVec.ofInt IntKind.u8.bits (b.toNat:Int)).toNat:Int)=((a ||| b).toNat:Int):=by
  simp only [IntKind.bits,ofInt8];rfl
 rw [this,HA]
theorem aaL {a b:UInt8}:bC .xor (b8 a) (b8 b)=some (b8 (a ^^^ b)):=by
 simp only [b8];rw [TX,sU]
 have:((BitVec.ofInt IntKind.u8.bits (a.toNat:Int) ^^^ BitVec.ofInt IntKind.u8.bits (b.toNat:Int)).toNat:Int)=((a ^^^ b).toNat:Int):=by
  simp only [IntKind.bits,ofInt8];rfl
 rw [this,HA]
theorem aaM {a b:UInt8}:bC .rem (b8 a) (b8 b)=if b=0 then none else some (b8 (a % b)):=by
 simp only [b8];rw [TV,rm]
 by_cases h:b=0
 · subst h;simp
 · have h2:¬(b.toNat:Int)=0:=by
    intro h0;apply h;apply UInt8.toNat_inj.1;simp;omega
   rw [if_neg h,if_neg h2]
   simp only [Option.map_some,UInt8.toNat_mod]
   rw [Int.tmod_eq_emod_of_nonneg (by omega)]
   simp
theorem aaN {a b:UInt8}:bC .eql (b8 a) (b8 b)=some (.bool (decide (a=b))):=by
 simp only [b8];rw [TY];simp [←UInt8.toNat_inj,Int.ofNat_inj]
theorem aaO {a b:UInt8}:bC .neq (b8 a) (b8 b)=some (.bool (!decide (a=b))):=by
 simp only [b8];rw [TZ];simp [←UInt8.toNat_inj,Int.ofNat_inj]
theorem aaP {a b:UInt8}:bC .lss (b8 a) (b8 b)=some (.bool (decide (a<b))):=by
 simp only [b8];rw [T0];simp [UInt8.lt_iff_toNat_lt]
theorem aaQ {a b:UInt8}:bC .leq (b8 a) (b8 b)=some (.bool (decide (a≤b))):=by
 simp only [b8];rw [T3];simp [UInt8.le_iff_toNat_le]
theorem aaR {a b:UInt8}:bC .gtr (b8 a) (b8 b)=some (.bool (decide (b<a))):=by
 simp only [b8];rw [T4];simp [UInt8.lt_iff_toNat_lt]
theorem aaS {a b:UInt8}:bC .geq (b8 a) (b8 b)=some (.bool (decide (b≤a))):=by
 simp only [b8];rw [T5];simp [UInt8.le_iff_toNat_le]
theorem ac1 {k:IntKind} {c:UInt8}:fE (.int k) (b8 c)=some (.int k (k.wrap c.toNat)):=rfl
theorem ac2 {k:IntKind} {i:Int}:fE (.int .u8) (.int k i)=some (b8 (UInt8.ofInt i)):=by simp only [fE,b8,Ua]
theorem ac3 {c:UInt8}:fE (.int .u8) (b8 c)=some (b8 c):=by simp only [fE,b8,HA]
theorem ac4 {k':IntKind} {i:Int}:fE (.int .i8) (.int k' i)=some (.int .i8 (IntKind.wrap .i8 i)):=rfl
theorem aaT {k':IntKind} {i:Int}:fE (.int .i16) (.int k' i)=some (.int .i16 (IntKind.wrap .i16 i)):=rfl
theorem aaU {k':IntKind} {i:Int}:fE (.int .i32) (.int k' i)=some (.int .i32 (IntKind.wrap .i32 i)):=rfl
theorem aaV {k':IntKind} {i:Int}:fE (.int .i64) (.int k' i)=some (.int .i64 (IntKind.wrap .i64 i)):=rfl
theorem aaW {k':IntKind} {i:Int}:fE (.int .u16) (.int k' i)=some (.int .u16 (IntKind.wrap .u16 i)):=rfl
theorem aaX {k':IntKind} {i:Int}:fE (.int .u32) (.int k' i)=some (.int .u32 (IntKind.wrap .u32 i)):=rfl
theorem aaY {k':IntKind} {i:Int}:fE (.int .u64) (.int k' i)=some (.int .u64 (IntKind.wrap .u64 i)):=rfl
theorem ac5 {l:List UInt8}:fE .same (.str l)=some (.str l):=rfl
theorem ac6 {l:List UInt8}:fE .sb (.str l)=some (.sl .own 1 (ml b8 l)):=rfl
theorem ac7 {tg:Tg} {xs:List AV}:fE .bs (.sl tg 1 xs)=(bytesOf xs).map .str:=rfl
theorem aaZ {k:IntKind} {i:Int}:LO .neg (.int k i)=some (.int k (k.wrap (0 - i))):=rfl
theorem aa0 {b:Bool}:LO .not (.bool b)=some (.bool !b):=rfl
def vX (k:IntKind) (i:Int):Int:=k.wrap (BitVec.ofInt k.bits (if k.signed then -1 else k.max) ^^^ BitVec.ofInt k.bits i).toNat
theorem aa1 {k:IntKind} {i:Int}:LO .xor (.int k i)=some (.int k (vX k i)):=rfl
theorem HB:bytesOf []=some []:=rfl
theorem Ma {c:UInt8} {r:List AV}:bytesOf (b8 c::r)=(bytesOf r).map (c:: ·):=by
 simp [b8,bytesOf]
theorem Q_i {ks:List Pk} {k:IntKind} {i j:Int} {zq bs:List AV}:cq (.i::ks) (.int k i::zq) (.int k j::bs)=(cq ks zq bs).map (decide (i=j)&& ·):=by simp [cq]
theorem Q_s {ks:List Pk} {l m:List UInt8} {zq bs:List AV}:cq (.s::ks) (.str l::zq) (.str m::bs)=(cq ks zq bs).map (decide (l=m)&& ·):=rfl
theorem Q_b {ks:List Pk} {x y:Bool} {zq bs:List AV}:cq (.b::ks) (.bool x::zq) (.bool y::bs)=(cq ks zq bs).map ((x==y)&& ·):=rfl
theorem Q_n:cq [] [] []=some true:=rfl
theorem ac8 {x y:Bool}:LL (.bool x) (.bool y)=some (x==y):=rfl
theorem ac9 {s o:Nat}:LM (.ptr s o) (.v (.pointer none))=some false:=rfl
theorem ada {s o:Nat}:LM (.v (.pointer none)) (.ptr s o)=some false:=rfl
theorem adb:LM (.v (.pointer none)) (.v (.pointer none))=some true:=rfl
section
variable {P:Program} {L:List Nat} {N n0:Nat} {e:Env} {ah:AH} {t:List It} {Q:Exit→Env→AH→Prop} {r:List aQ} {d:Option Nat}
theorem oa {c:UInt8}:(b8 c).bS=b8 c:=rfl
theorem Zu {c:UInt8}:(b8 c).sh=b8 c:=rfl
theorem ae3 {c:UInt8}:(b8 c).s1=b8 c:=rfl
theorem ae4 {c:UInt8}:(b8 c).s0=b8 c:=rfl
theorem Zv {c:UInt8}:(b8 c).df=b8 c:=rfl
theorem aeL {c:UInt8}:(b8 c).iY=b8 c:=rfl
theorem aeM {c:UInt8}:(b8 c).qG=b8 c:=rfl
theorem aeu {c:UInt8} {l:Loc}:(b8 c).ew l=b8 c:=rfl
theorem aeN {c:UInt8}:(b8 c).bT=false:=rfl
theorem ng {c:UInt8}:(b8 c).flat=true:=rfl
theorem aeO {c:UInt8}:(b8 c).ja=true:=rfl
theorem ae5 {c:UInt8}:(b8 c).np=true:=rfl
theorem ade {c:UInt8}:(b8 c).cells=[b8 c]:=rfl
theorem aeP {c:UInt8}:(b8 c).eO=false:=rfl
theorem ae6 {c:UInt8} {x:Ar}:cp L x (b8 c)=b8 c:=rfl
theorem aeQ {c:UInt8} {x:Ar}:jK P L N n0 e ah d r t Q x (b8 c)=U P L N n0 (.ops r::t) Q .normal (aI L e d (b8 c)) ah:=rfl
theorem O5 {n:Nat} {c:UInt8}:Cl n (b8 c):= .int ..
theorem aa2 {l:List UInt8} {c:UInt8}:JJ L e ah d (.str l) (b8 c)=(idx l c.toNat).map fun c=>(aI L e d (b8 c),ah):=O1
theorem aa3 {tg:Tg} {k:Nat} {xs:List AV} {c:UInt8}:sS L e ah d k (.sl tg k xs) (b8 c)=(idx xs c.toNat).map fun a=>(aI L e d (.ep a 0),ah):=O2
theorem aeR {s o:Nat} {c:UInt8}:lF s o (some (b8 c))=some (b8 c):=rfl
theorem aa4 {c:UInt8}:P9 L d e ah (some (b8 c))=some (aI L e d (b8 c),ah):=rfl
end
theorem h_eq {H:AH} {q:Nat} {c:List AV} (h:q<H.length):(H.set q c)[q]? =some c:=List.getElem?_set_self h
theorem Zw {H:AH} {s q:Nat} {c:List AV} (h:s≠q):(H.set s c)[q]? =H[q]? :=List.getElem?_set_ne h
theorem Ub {H T:AH} {q:Nat} (h:q<H.length):(H++T)[q]? =H[q]? :=List.getElem?_append_left h
theorem aa5 {H:AH} {c:List AV}:(H++[c])[H.length]? =some c:=by simp
theorem O6 {H:AH} {q:Nat} {c:List AV} (h:q=H.length):(H++[c])[q]? =some c:=by subst h;simp
theorem aL {H:AH} {q:Nat} {c:List AV} (h:H[q]? =some c):q<H.length:=(List.getElem?_eq_some_iff.1 h).1
theorem pM {H:AH} {q:Nat} {c:List AV}:(H.set q c).length=H.length:=List.length_set
theorem pN {H:AH} {c:List AV}:(H++[c]).length=H.length+1:=by simp
structure Fr (ah:AH) (n0:Nat) (S:List Nat) (H:AH):Prop where
 le:n0≤H.length
 eq:∀j,j<n0→j∉S→H[j]? =ah[j]?
theorem Fr.refl (ah:AH) (S:List Nat):Fr ah ah.length S ah:=⟨Nat.le_refl _,fun _ _ _=>rfl⟩
theorem Fr.set {ah H:AH} {n0 s:Nat} {S:List Nat} {c:List AV} (h:Fr ah n0 S H) (hs:s∈S∨n0≤s):Fr ah n0 S (H.set s c):=by
 refine ⟨by simpa using h.le,fun j hj D8=> ?_⟩
 rw [List.getElem?_set_ne,h.eq j hj D8]
 rintro rfl
 rcases hs with hs|hs
 · exact D8 hs
 · omega
theorem Fr.app {ah H T:AH} {n0:Nat} {S:List Nat} (h:Fr ah n0 S H):Fr ah n0 S (H++T):=by
 have:=h.le
 exact ⟨by simp;omega,fun j hj D8=>by rw [List.getElem?_append_left (by omega),h.eq j hj D8]⟩
theorem Fr.Zx {ah H:AH} (h:Fr ah ah.length [] H):H.take ah.length=ah:=by
 apply List.ext_getElem?
 intro j
 by_cases hj:j<ah.length
 · rw [List.getElem?_take_of_lt hj,h.eq j hj (by simp)]
 · rw [List.getElem?_eq_none (by simp;omega),List.getElem?_eq_none (by omega)]
theorem Fr.Zy {ah H:AH} {s:Nat} {c:List AV} (h:Fr ah ah.length [s] H) (hs:H[s]? =some c) (hl:s<ah.length):H.take ah.length=ah.set s c:=by
 apply List.ext_getElem?
 intro j
 by_cases hj:j<ah.length
 · rw [List.getElem?_take_of_lt hj]
   by_cases he:j=s
   · subst he;rw [hs,List.getElem?_set_self hl]
   · rw [List.getElem?_set_ne (Ne.symm he),h.eq j hj (by simpa using he)]
 · rw [List.getElem?_eq_none (by simp;omega),List.getElem?_eq_none (by simp;omega)]
theorem Fr.Zz {ah H:AH} {s s2:Nat} {c c2:List AV} (h:Fr ah ah.length [s,s2] H) (hs:H[s]? =some c) (hs2:H[s2]? =some c2) (hl:s<ah.length) (zW:s2<ah.length) (hne:s≠s2):H.take ah.length=(ah.set s c).set s2 c2:=by
 apply List.ext_getElem?
 intro j
 by_cases hj:j<ah.length
 · rw [List.getElem?_take_of_lt hj]
   by_cases he:j=s2
   · subst he;rw [hs2,List.getElem?_set_self (by simpa using zW)]
   · rw [List.getElem?_set_ne (Ne.symm he)]
     by_cases he1:j=s
     · subst he1;rw [hs,List.getElem?_set_self hl]
     · rw [List.getElem?_set_ne (Ne.symm he1),h.eq j hj (by simp;exact ⟨he1,he⟩)]
 · rw [List.getElem?_eq_none (by simp;omega),List.getElem?_eq_none (by simp;omega)]
end Go.Am
end
section
namespace Go.Am
open Go
variable [Tabs]
def dS:Bool→AV
 |true=> .dQ
 |false=> .v .nilIface
def O7 (L:List Nat) (e:Env) (ah:AH) (d:Option Nat):AV→Option (Env×AH)
 | .sl _ _ xs=>some (aI L e d (.int .i64 xs.length),ah)
 | .cF _ _ _ n=>some (aI L e d (.int .i64 n),ah)
 | .cy _ _ n _=>some (aI L e d (.int .i64 n),ah)
 |_=>none
def Uc (L:List Nat) (e:Env) (ah:AH) (d:Option Nat):AV→Option (Env×AH)
 | .str l=>some (aI L e d (.int .i64 l.length),ah)
 |_=>none
def Ud (L:List Nat) (e:Env) (ah:AH) (d:Option Nat):Option AV→Option (Env×AH)
 |some a=>some (aI L e d a.sh,ah)
 |none=>none
def Ue (L:List Nat) (e:Env) (ah:AH) (d:Option Nat) (i:Nat):AV→Option (Env×AH)
 | .bK cs=>Ud L e ah d (cs[i]?)
 |_=>none
def Mb (L:List Nat) (e:Env) (ah:AH) (d:Option Nat):Option AV→Option (Env×AH)
 |some a=>some (aI L e d a.bS,ah)
 |none=>none
def HC (L:List Nat) (e:Env) (ah:AH) (d:Option Nat) (q:Nat):Option Nat→AV→Option (Env×AH)
 |some n, .agg cs=>if q+n≤cs.length then some (aI L e d (.agg (((cs.drop q).take n).map AV.bS)),ah) else none
 |none, .agg cs=>Mb L e ah d (cs[q]?)
 |_,_=>none
def Uf (L:List Nat) (e:Env) (ah:AH) (d:Option Nat) (n:Option Nat):AV→Option (Env×AH)
 | .ep a p=>Hs L d n e ah (.ep a p)
 |_=>none
theorem Ug {z:Value}:AV.bS (.v z)=(.v z:AV):=rfl
theorem Mc {k:IntKind} {i:Int}:AV.bS (.int k i)=(.int k i:AV):=rfl
theorem JP {b:Bool}:AV.bS (.bool b)=(.bool b:AV):=rfl
theorem Md {l:List UInt8}:AV.bS (.str l)=(.str l:AV):=rfl
theorem Me {s o:Nat}:AV.bS (.ptr s o)=(.ptr s o:AV):=rfl
theorem Qd {a:AV} {o:Nat}:AV.bS (.ep a o)=(.ep a o:AV):=rfl
theorem Qe {f:Nat} {cs:List AV}:AV.bS (.fn f cs)=(.fn f cs:AV):=rfl
theorem Qf:AV.bS (.un)=(.un:AV):=rfl
theorem Qg {c:UInt8}:AV.bS (b8 c)=(b8 c:AV):=rfl
theorem Qh {k:Nat} {xs:List AV}:AV.bS (.sl .n k xs)=(.sl .n k xs:AV):=rfl
theorem Mf {k:Nat} {xs:List AV}:AV.bS (.sl .ex k xs)=(.sl .ex k xs:AV):=rfl
theorem JQ {k:Nat} {xs:List AV}:AV.bS (.sl .own k xs)=(.sl .n k xs:AV):=rfl
theorem Mg {l:Loc} {k:Nat} {xs:List AV}:AV.bS (.sl (.fr l) k xs)=(.sl .n k xs:AV):=rfl
theorem Mh {cs:List AV}:AV.bS (.agg cs)=(.agg cs:AV):=rfl
theorem Mi {cs:List AV}:AV.bS (.bK cs)=(.bK cs:AV):=rfl
theorem Mj {q0 k0 o0 m0:Nat}:AV.bS (.cF q0 k0 o0 m0)=(.cF q0 k0 o0 m0:AV):=rfl
theorem Mk {q0 k0 m0 c0:Nat}:AV.bS (.cy q0 k0 m0 c0)=(.cy q0 k0 m0 c0:AV):=rfl
theorem Ml:AV.bS (.dQ)=(.dQ:AV):=rfl
theorem Qi {eb:Bool}:AV.bS (dS eb)=(dS eb:AV):=by cases eb<;>rfl
theorem Yq {z:Value}:AV.sh (.v z)=(.v z:AV):=rfl
theorem Qj {k:IntKind} {i:Int}:AV.sh (.int k i)=(.int k i:AV):=rfl
theorem Mm {b:Bool}:AV.sh (.bool b)=(.bool b:AV):=rfl
theorem Qk {l:List UInt8}:AV.sh (.str l)=(.str l:AV):=rfl
theorem Ql {s o:Nat}:AV.sh (.ptr s o)=(.ptr s o:AV):=rfl
theorem Uh {a:AV} {o:Nat}:AV.sh (.ep a o)=(.ep a o:AV):=rfl
theorem Ui {f:Nat} {cs:List AV}:AV.sh (.fn f cs)=(.fn f cs:AV):=rfl
theorem Uj:AV.sh (.un)=(.un:AV):=rfl
theorem Uk {c:UInt8}:AV.sh (b8 c)=(b8 c:AV):=rfl
theorem Ul {k:Nat} {xs:List AV}:AV.sh (.sl .n k xs)=(.sl .n k xs:AV):=rfl
theorem Qm {k:Nat} {xs:List AV}:AV.sh (.sl .ex k xs)=(.sl .ex k xs:AV):=rfl
theorem Mn {k:Nat} {xs:List AV}:AV.sh (.sl .own k xs)=(.sl .n k xs:AV):=rfl
theorem Qn {l:Loc} {k:Nat} {xs:List AV}:AV.sh (.sl (.fr l) k xs)=(.sl .n k xs:AV):=rfl
theorem Qo {cs:List AV}:AV.sh (.agg cs)=(.agg (cs.map AV.bS):AV):=rfl
theorem Qp {cs:List AV}:AV.sh (.bK cs)=(.bK (cs.map AV.bS):AV):=rfl
theorem Qq {q0 k0 o0 m0:Nat}:AV.sh (.cF q0 k0 o0 m0)=(.cF q0 k0 o0 m0:AV):=rfl
theorem Qr {q0 k0 m0 c0:Nat}:AV.sh (.cy q0 k0 m0 c0)=(.cy q0 k0 m0 c0:AV):=rfl
theorem Qs:AV.sh (.dQ)=(.dQ:AV):=rfl
theorem Um {eb:Bool}:AV.sh (dS eb)=(dS eb:AV):=by cases eb<;>rfl
theorem Yr {z:Value}:AV.s1 (.v z)=(.v z:AV):=rfl
theorem Qt {k:IntKind} {i:Int}:AV.s1 (.int k i)=(.int k i:AV):=rfl
theorem Mo {b:Bool}:AV.s1 (.bool b)=(.bool b:AV):=rfl
theorem Qu {l:List UInt8}:AV.s1 (.str l)=(.str l:AV):=rfl
theorem Qv {s o:Nat}:AV.s1 (.ptr s o)=(.ptr s o:AV):=rfl
theorem Un {a:AV} {o:Nat}:AV.s1 (.ep a o)=(.ep a o:AV):=rfl
theorem Uo {f:Nat} {cs:List AV}:AV.s1 (.fn f cs)=(.fn f cs:AV):=rfl
theorem Up:AV.s1 (.un)=(.un:AV):=rfl
theorem Uq {c:UInt8}:AV.s1 (b8 c)=(b8 c:AV):=rfl
theorem Ur {k:Nat} {xs:List AV}:AV.s1 (.sl .n k xs)=(.sl .n k xs:AV):=rfl
theorem Qw {k:Nat} {xs:List AV}:AV.s1 (.sl .ex k xs)=(.sl .n k xs:AV):=rfl
theorem Mp {k:Nat} {xs:List AV}:AV.s1 (.sl .own k xs)=(.sl .n k xs:AV):=rfl
theorem Qx {l:Loc} {k:Nat} {xs:List AV}:AV.s1 (.sl (.fr l) k xs)=(.sl .n k xs:AV):=rfl
theorem Qy {cs:List AV}:AV.s1 (.agg cs)=(.agg cs:AV):=rfl
theorem Qz {cs:List AV}:AV.s1 (.bK cs)=(.bK cs:AV):=rfl
theorem QA {q0 k0 o0 m0:Nat}:AV.s1 (.cF q0 k0 o0 m0)=(.cF q0 k0 o0 m0:AV):=rfl
theorem QB {q0 k0 m0 c0:Nat}:AV.s1 (.cy q0 k0 m0 c0)=(.cy q0 k0 m0 c0:AV):=rfl
theorem QC:AV.s1 (.dQ)=(.dQ:AV):=rfl
theorem Us {eb:Bool}:AV.s1 (dS eb)=(dS eb:AV):=by cases eb<;>rfl
theorem Ys {z:Value}:AV.s0 (.v z)=(.v z:AV):=rfl
theorem QD {k:IntKind} {i:Int}:AV.s0 (.int k i)=(.int k i:AV):=rfl
theorem Mq {b:Bool}:AV.s0 (.bool b)=(.bool b:AV):=rfl
theorem QE {l:List UInt8}:AV.s0 (.str l)=(.str l:AV):=rfl
theorem QF {s o:Nat}:AV.s0 (.ptr s o)=(.ptr s o:AV):=rfl
theorem Ut {a:AV} {o:Nat}:AV.s0 (.ep a o)=(.ep a o:AV):=rfl
theorem Uu {f:Nat} {cs:List AV}:AV.s0 (.fn f cs)=(.fn f cs:AV):=rfl
theorem Uv:AV.s0 (.un)=(.un:AV):=rfl
theorem Uw {c:UInt8}:AV.s0 (b8 c)=(b8 c:AV):=rfl
theorem Ux {k:Nat} {xs:List AV}:AV.s0 (.sl .n k xs)=(.sl .n k xs:AV):=rfl
theorem QG {k:Nat} {xs:List AV}:AV.s0 (.sl .ex k xs)=(.sl .n k xs:AV):=rfl
theorem Mr {k:Nat} {xs:List AV}:AV.s0 (.sl .own k xs)=(.sl .n k xs:AV):=rfl
theorem QH {l:Loc} {k:Nat} {xs:List AV}:AV.s0 (.sl (.fr l) k xs)=(.sl .n k xs:AV):=rfl
theorem QI {cs:List AV}:AV.s0 (.agg cs)=(.agg (cs.map AV.s1):AV):=rfl
theorem QJ {cs:List AV}:AV.s0 (.bK cs)=(.bK cs:AV):=rfl
theorem QK {q0 k0 o0 m0:Nat}:AV.s0 (.cF q0 k0 o0 m0)=(.cF q0 k0 o0 m0:AV):=rfl
theorem QL {q0 k0 m0 c0:Nat}:AV.s0 (.cy q0 k0 m0 c0)=(.cy q0 k0 m0 c0:AV):=rfl
theorem QM:AV.s0 (.dQ)=(.dQ:AV):=rfl
theorem Uy {eb:Bool}:AV.s0 (dS eb)=(dS eb:AV):=by cases eb<;>rfl
theorem Yt {z:Value}:AV.df (.v z)=(.v z:AV):=rfl
theorem QN {k:IntKind} {i:Int}:AV.df (.int k i)=(.int k i:AV):=rfl
theorem Ms {b:Bool}:AV.df (.bool b)=(.bool b:AV):=rfl
theorem QO {l:List UInt8}:AV.df (.str l)=(.str l:AV):=rfl
theorem QS {s o:Nat}:AV.df (.ptr s o)=(.ptr s o:AV):=rfl
theorem Uz {a:AV} {o:Nat}:AV.df (.ep a o)=(.ep a o:AV):=rfl
theorem UA {f:Nat} {cs:List AV}:AV.df (.fn f cs)=(.fn f cs:AV):=rfl
theorem UB:AV.df (.un)=(.un:AV):=rfl
theorem UD {c:UInt8}:AV.df (b8 c)=(b8 c:AV):=rfl
theorem UE {k:Nat} {xs:List AV}:AV.df (.sl .n k xs)=(.sl .n k xs:AV):=rfl
theorem QT {k:Nat} {xs:List AV}:AV.df (.sl .ex k xs)=(.sl .ex k xs:AV):=rfl
theorem Mt {k:Nat} {xs:List AV}:AV.df (.sl .own k xs)=(.sl .own k xs:AV):=rfl
theorem QU {l:Loc} {k:Nat} {xs:List AV}:AV.df (.sl (.fr l) k xs)=(.sl .n k xs:AV):=rfl
theorem QV {cs:List AV}:AV.df (.agg cs)=(.agg cs:AV):=rfl
theorem QW {cs:List AV}:AV.df (.bK cs)=(.bK cs:AV):=rfl
theorem QX {q0 k0 o0 m0:Nat}:AV.df (.cF q0 k0 o0 m0)=(.cF q0 k0 o0 m0:AV):=rfl
theorem QY {q0 k0 m0 c0:Nat}:AV.df (.cy q0 k0 m0 c0)=(.cy q0 k0 m0 c0:AV):=rfl
theorem QZ:AV.df (.dQ)=(.dQ:AV):=rfl
theorem UH {eb:Bool}:AV.df (dS eb)=(dS eb:AV):=by cases eb<;>rfl
theorem Mu {z:Value}:AV.bT (.v z)=false:=rfl
theorem HD {k:IntKind} {i:Int}:AV.bT (.int k i)=false:=rfl
theorem Fz {b:Bool}:AV.bT (.bool b)=false:=rfl
theorem HF {l:List UInt8}:AV.bT (.str l)=false:=rfl
theorem HG {s o:Nat}:AV.bT (.ptr s o)=false:=rfl
theorem JR {a:AV} {o:Nat}:AV.bT (.ep a o)=false:=rfl
theorem JS {f:Nat} {cs:List AV}:AV.bT (.fn f cs)=false:=rfl
theorem JT:AV.bT (.un)=false:=rfl
theorem JU {c:UInt8}:AV.bT (b8 c)=false:=rfl
theorem JV {k:Nat} {xs:List AV}:AV.bT (.sl .n k xs)=false:=rfl
theorem HH {k:Nat} {xs:List AV}:AV.bT (.sl .ex k xs)=false:=rfl
theorem FA {k:Nat} {xs:List AV}:AV.bT (.sl .own k xs)=true:=rfl
theorem HI {l:Loc} {k:Nat} {xs:List AV}:AV.bT (.sl (.fr l) k xs)=false:=rfl
theorem HJ {cs:List AV}:AV.bT (.agg cs)=false:=rfl
theorem HK {cs:List AV}:AV.bT (.bK cs)=false:=rfl
theorem HL {q0 k0 o0 m0:Nat}:AV.bT (.cF q0 k0 o0 m0)=false:=rfl
theorem HM {q0 k0 m0 c0:Nat}:AV.bT (.cy q0 k0 m0 c0)=false:=rfl
theorem HN:AV.bT (.dQ)=false:=rfl
theorem JW {eb:Bool}:AV.bT (dS eb)=false:=by cases eb<;>rfl
theorem UI {z:Value}:AV.qG (.v z)=(.v z:AV):=rfl
theorem Mv {k:IntKind} {i:Int}:AV.qG (.int k i)=(.int k i:AV):=rfl
theorem JX {b:Bool}:AV.qG (.bool b)=(.bool b:AV):=rfl
theorem Mw {l:List UInt8}:AV.qG (.str l)=(.str l:AV):=rfl
theorem Mx {s o:Nat}:AV.qG (.ptr s o)=(.ptr s o:AV):=rfl
theorem Q0 {a:AV} {o:Nat}:AV.qG (.ep a o)=(.ep a o:AV):=rfl
theorem Q1 {f:Nat} {cs:List AV}:AV.qG (.fn f cs)=(.fn f cs:AV):=rfl
theorem Q2:AV.qG (.un)=(.un:AV):=rfl
theorem Q3 {c:UInt8}:AV.qG (b8 c)=(b8 c:AV):=rfl
theorem Q4 {k:Nat} {xs:List AV}:AV.qG (.sl .n k xs)=(.sl .n k xs:AV):=rfl
theorem My {k:Nat} {xs:List AV}:AV.qG (.sl .ex k xs)=(.sl .ex k xs:AV):=rfl
theorem JY {k:Nat} {xs:List AV}:AV.qG (.sl .own k xs)=(.sl .n k xs:AV):=rfl
theorem Mz {l:Loc} {k:Nat} {xs:List AV}:AV.qG (.sl (.fr l) k xs)=(.sl (.fr l) k xs:AV):=rfl
theorem MA {cs:List AV}:AV.qG (.agg cs)=(.agg cs:AV):=rfl
theorem MB {cs:List AV}:AV.qG (.bK cs)=(.bK cs:AV):=rfl
theorem MC {q0 k0 o0 m0:Nat}:AV.qG (.cF q0 k0 o0 m0)=(.cF q0 k0 o0 m0:AV):=rfl
theorem MD {q0 k0 m0 c0:Nat}:AV.qG (.cy q0 k0 m0 c0)=(.cy q0 k0 m0 c0:AV):=rfl
theorem ME:AV.qG (.dQ)=(.dQ:AV):=rfl
theorem Q5 {eb:Bool}:AV.qG (dS eb)=(dS eb:AV):=by cases eb<;>rfl
theorem Q6 {z:Value} {l0:Loc}:AV.ew l0 (.v z)=(.v z:AV):=rfl
theorem JZ {k:IntKind} {i:Int} {l0:Loc}:AV.ew l0 (.int k i)=(.int k i:AV):=rfl
theorem HO {b:Bool} {l0:Loc}:AV.ew l0 (.bool b)=(.bool b:AV):=rfl
theorem J0 {l:List UInt8} {l0:Loc}:AV.ew l0 (.str l)=(.str l:AV):=rfl
theorem J1 {s o:Nat} {l0:Loc}:AV.ew l0 (.ptr s o)=(.ptr s o:AV):=rfl
theorem MF {a:AV} {o:Nat} {l0:Loc}:AV.ew l0 (.ep a o)=(.ep a o:AV):=rfl
theorem MG {f:Nat} {cs:List AV} {l0:Loc}:AV.ew l0 (.fn f cs)=(.fn f cs:AV):=rfl
theorem MH {l0:Loc}:AV.ew l0 (.un)=(.un:AV):=rfl
theorem MI {c:UInt8} {l0:Loc}:AV.ew l0 (b8 c)=(b8 c:AV):=rfl
theorem MJ {k:Nat} {xs:List AV} {l0:Loc}:AV.ew l0 (.sl .n k xs)=(.sl .n k xs:AV):=rfl
theorem J2 {k:Nat} {xs:List AV} {l0:Loc}:AV.ew l0 (.sl .ex k xs)=(.sl .ex k xs:AV):=rfl
theorem HP {k:Nat} {xs:List AV} {l0:Loc}:AV.ew l0 (.sl .own k xs)=(.sl .own k xs:AV):=rfl
theorem J3 {l:Loc} {k:Nat} {xs:List AV} {l0:Loc}:AV.ew l0 (.sl (.fr l) k xs)=if l=l0 then .sl .n k xs else .sl (.fr l) k xs:=rfl
theorem J4 {cs:List AV} {l0:Loc}:AV.ew l0 (.agg cs)=(.agg cs:AV):=rfl
theorem J5 {cs:List AV} {l0:Loc}:AV.ew l0 (.bK cs)=(.bK cs:AV):=rfl
theorem J6 {q0 k0 o0 m0:Nat} {l0:Loc}:AV.ew l0 (.cF q0 k0 o0 m0)=(.cF q0 k0 o0 m0:AV):=rfl
theorem J7 {q0 k0 m0 c0:Nat} {l0:Loc}:AV.ew l0 (.cy q0 k0 m0 c0)=(.cy q0 k0 m0 c0:AV):=rfl
theorem J8 {l0:Loc}:AV.ew l0 (.dQ)=(.dQ:AV):=rfl
theorem MK {eb:Bool} {l0:Loc}:AV.ew l0 (dS eb)=(dS eb:AV):=by cases eb<;>rfl
theorem UJ {z:Value}:AV.iY (.v z)=(.v z:AV):=rfl
theorem ML {k:IntKind} {i:Int}:AV.iY (.int k i)=(.int k i:AV):=rfl
theorem J9 {b:Bool}:AV.iY (.bool b)=(.bool b:AV):=rfl
theorem MM {l:List UInt8}:AV.iY (.str l)=(.str l:AV):=rfl
theorem MN {s o:Nat}:AV.iY (.ptr s o)=(.ptr s o:AV):=rfl
theorem Q7 {a:AV} {o:Nat}:AV.iY (.ep a o)=(.ep a o:AV):=rfl
theorem Q8 {f:Nat} {cs:List AV}:AV.iY (.fn f cs)=(.fn f cs:AV):=rfl
theorem Q9:AV.iY (.un)=(.un:AV):=rfl
theorem Ra {c:UInt8}:AV.iY (b8 c)=(b8 c:AV):=rfl
theorem Rb {k:Nat} {xs:List AV}:AV.iY (.sl .n k xs)=(.sl .n k xs:AV):=rfl
theorem MO {k:Nat} {xs:List AV}:AV.iY (.sl .ex k xs)=(.sl .ex k xs:AV):=rfl
theorem Ka {k:Nat} {xs:List AV}:AV.iY (.sl .own k xs)=(.sl .own k xs:AV):=rfl
theorem MP {cs:List AV}:AV.iY (.agg cs)=(.agg cs:AV):=rfl
theorem MQ {cs:List AV}:AV.iY (.bK cs)=(.bK cs:AV):=rfl
theorem MR {q0 k0 o0 m0:Nat}:AV.iY (.cF q0 k0 o0 m0)=(.cF q0 k0 o0 m0:AV):=rfl
theorem MS {q0 k0 m0 c0:Nat}:AV.iY (.cy q0 k0 m0 c0)=(.cy q0 k0 m0 c0:AV):=rfl
theorem MT:AV.iY (.dQ)=(.dQ:AV):=rfl
theorem Rc {eb:Bool}:AV.iY (dS eb)=(dS eb:AV):=by cases eb<;>rfl
theorem UL {a b k:Nat} {xs:List AV}:AV.iY (.sl (.fr (.cell a b)) k xs)= .sl .n k xs:=rfl
theorem UM {a k:Nat} {xs:List AV}:AV.iY (.sl (.fr (.tmp a)) k xs)= .sl (.fr (.tmp a)) k xs:=rfl
theorem MU {z:Value}:AV.cells (.v z)=[.v z]:=rfl
theorem HQ {k:IntKind} {i:Int}:AV.cells (.int k i)=[.int k i]:=rfl
theorem FB {b:Bool}:AV.cells (.bool b)=[.bool b]:=rfl
theorem HR {l:List UInt8}:AV.cells (.str l)=[.str l]:=rfl
theorem HS {s o:Nat}:AV.cells (.ptr s o)=[.ptr s o]:=rfl
theorem Kb {a:AV} {o:Nat}:AV.cells (.ep a o)=[.ep a o]:=rfl
theorem Kc {f:Nat} {cs:List AV}:AV.cells (.fn f cs)=[.fn f cs]:=rfl
theorem Kd:AV.cells (.un)=[.un]:=rfl
theorem Ke {c:UInt8}:AV.cells (b8 c)=[b8 c]:=rfl
theorem Kf {k:Nat} {xs:List AV}:AV.cells (.sl .n k xs)=[.sl .n k xs]:=rfl
theorem HT {k:Nat} {xs:List AV}:AV.cells (.sl .ex k xs)=[.sl .ex k xs]:=rfl
theorem FC {k:Nat} {xs:List AV}:AV.cells (.sl .own k xs)=[.sl .own k xs]:=rfl
theorem HU {l:Loc} {k:Nat} {xs:List AV}:AV.cells (.sl (.fr l) k xs)=[.sl (.fr l) k xs]:=rfl
theorem HV {cs:List AV}:AV.cells (.agg cs)=cs:=rfl
theorem HW {cs:List AV}:AV.cells (.bK cs)=[.bK cs]:=rfl
theorem HX {q0 k0 o0 m0:Nat}:AV.cells (.cF q0 k0 o0 m0)=[.cF q0 k0 o0 m0]:=rfl
theorem HY {q0 k0 m0 c0:Nat}:AV.cells (.cy q0 k0 m0 c0)=[.cy q0 k0 m0 c0]:=rfl
theorem HZ:AV.cells (.dQ)=[.dQ]:=rfl
theorem Kg {eb:Bool}:AV.cells (dS eb)=[dS eb]:=by cases eb<;>rfl
theorem UN {z:Value}:AV.ja (.v z)=true:=rfl
theorem MV {k:IntKind} {i:Int}:AV.ja (.int k i)=true:=rfl
theorem Kh {b:Bool}:AV.ja (.bool b)=true:=rfl
theorem MW {l:List UInt8}:AV.ja (.str l)=true:=rfl
theorem MX {s o:Nat}:AV.ja (.ptr s o)=true:=rfl
theorem Rd {a:AV} {o:Nat}:AV.ja (.ep a o)=true:=rfl
theorem Re {f:Nat} {cs:List AV}:AV.ja (.fn f cs)=true:=rfl
theorem Rf:AV.ja (.un)=false:=rfl
theorem Rg {c:UInt8}:AV.ja (b8 c)=true:=rfl
theorem Rh {k:Nat} {xs:List AV}:AV.ja (.sl .n k xs)=true:=rfl
theorem MY {k:Nat} {xs:List AV}:AV.ja (.sl .ex k xs)=true:=rfl
theorem Ki {k:Nat} {xs:List AV}:AV.ja (.sl .own k xs)=true:=rfl
theorem MZ {l:Loc} {k:Nat} {xs:List AV}:AV.ja (.sl (.fr l) k xs)=true:=rfl
theorem M0 {cs:List AV}:AV.ja (.agg cs)=false:=rfl
theorem M1 {cs:List AV}:AV.ja (.bK cs)=false:=rfl
theorem M3 {q0 k0 o0 m0:Nat}:AV.ja (.cF q0 k0 o0 m0)=true:=rfl
theorem M4 {q0 k0 m0 c0:Nat}:AV.ja (.cy q0 k0 m0 c0)=true:=rfl
theorem M5:AV.ja (.dQ)=true:=rfl
theorem Ri {eb:Bool}:AV.ja (dS eb)=true:=by cases eb<;>rfl
theorem Rj {z:Value}:AV.flat (.v z)=true:=rfl
theorem Kj {k:IntKind} {i:Int}:AV.flat (.int k i)=true:=rfl
theorem H6 {b:Bool}:AV.flat (.bool b)=true:=rfl
theorem Kk {l:List UInt8}:AV.flat (.str l)=true:=rfl
theorem Kl {s o:Nat}:AV.flat (.ptr s o)=true:=rfl
theorem M6 {a:AV} {o:Nat}:AV.flat (.ep a o)=true:=rfl
theorem M7 {f:Nat} {cs:List AV}:AV.flat (.fn f cs)=true:=rfl
theorem M8:AV.flat (.un)=true:=rfl
theorem M9 {c:UInt8}:AV.flat (b8 c)=true:=rfl
theorem Na {k:Nat} {xs:List AV}:AV.flat (.sl .n k xs)=true:=rfl
theorem Km {k:Nat} {xs:List AV}:AV.flat (.sl .ex k xs)=true:=rfl
theorem H7 {k:Nat} {xs:List AV}:AV.flat (.sl .own k xs)=true:=rfl
theorem Kn {l:Loc} {k:Nat} {xs:List AV}:AV.flat (.sl (.fr l) k xs)=true:=rfl
theorem Ko {cs:List AV}:AV.flat (.agg cs)=false:=rfl
theorem Kp {cs:List AV}:AV.flat (.bK cs)=false:=rfl
theorem Kq {q0 k0 o0 m0:Nat}:AV.flat (.cF q0 k0 o0 m0)=true:=rfl
theorem Kr {q0 k0 m0 c0:Nat}:AV.flat (.cy q0 k0 m0 c0)=true:=rfl
theorem Ks:AV.flat (.dQ)=true:=rfl
theorem Nb {eb:Bool}:AV.flat (dS eb)=true:=by cases eb<;>rfl
theorem Yu {z:Value}:AV.np (.v z)=true:=rfl
theorem Rk {k:IntKind} {i:Int}:AV.np (.int k i)=true:=rfl
theorem Nc {b:Bool}:AV.np (.bool b)=true:=rfl
theorem Rl {l:List UInt8}:AV.np (.str l)=true:=rfl
theorem Rm {s o:Nat}:AV.np (.ptr s o)=false:=rfl
theorem UO {a:AV} {o:Nat}:AV.np (.ep a o)=false:=rfl
theorem UP {f:Nat} {cs:List AV}:AV.np (.fn f cs)=cs.isEmpty:=rfl
theorem UQ:AV.np (.un)=true:=rfl
theorem UR {c:UInt8}:AV.np (b8 c)=true:=rfl
theorem UT {k:Nat} {xs:List AV}:AV.np (.sl .n k xs)=true:=rfl
theorem Rn {k:Nat} {xs:List AV}:AV.np (.sl .ex k xs)=true:=rfl
theorem Nd {k:Nat} {xs:List AV}:AV.np (.sl .own k xs)=true:=rfl
theorem Ro {l:Loc} {k:Nat} {xs:List AV}:AV.np (.sl (.fr l) k xs)=true:=rfl
theorem Rp {cs:List AV}:AV.np (.agg cs)=false:=rfl
theorem Rq {cs:List AV}:AV.np (.bK cs)=false:=rfl
theorem Rr {q0 k0 o0 m0:Nat}:AV.np (.cF q0 k0 o0 m0)=false:=rfl
theorem Rs {q0 k0 m0 c0:Nat}:AV.np (.cy q0 k0 m0 c0)=false:=rfl
theorem Rt:AV.np (.dQ)=true:=rfl
theorem UU {eb:Bool}:AV.np (dS eb)=true:=by cases eb<;>rfl
theorem Nf {z:Value}:AV.eO (.v z)=false:=rfl
theorem H8 {k:IntKind} {i:Int}:AV.eO (.int k i)=false:=rfl
theorem FD {b:Bool}:AV.eO (.bool b)=false:=rfl
theorem H9 {l:List UInt8}:AV.eO (.str l)=false:=rfl
theorem Ia {s o:Nat}:AV.eO (.ptr s o)=false:=rfl
theorem Kt {a:AV} {o:Nat}:AV.eO (.ep a o)=false:=rfl
theorem Ku {f:Nat} {cs:List AV}:AV.eO (.fn f cs)=false:=rfl
theorem Kv:AV.eO (.un)=false:=rfl
theorem Kw {c:UInt8}:AV.eO (b8 c)=false:=rfl
theorem Kx {k:Nat} {xs:List AV}:AV.eO (.sl .n k xs)=false:=rfl
theorem Ib {k:Nat} {xs:List AV}:AV.eO (.sl .ex k xs)=false:=rfl
theorem FE {k:Nat} {xs:List AV}:AV.eO (.sl .own k xs)=false:=rfl
theorem Ic {l:Loc} {k:Nat} {xs:List AV}:AV.eO (.sl (.fr l) k xs)=false:=rfl
theorem Ie {cs:List AV}:AV.eO (.agg cs)=false:=rfl
theorem Ig {cs:List AV}:AV.eO (.bK cs)=true:=rfl
theorem Ih {q0 k0 o0 m0:Nat}:AV.eO (.cF q0 k0 o0 m0)=false:=rfl
theorem Ii {q0 k0 m0 c0:Nat}:AV.eO (.cy q0 k0 m0 c0)=false:=rfl
theorem Ij:AV.eO (.dQ)=false:=rfl
theorem Ky {eb:Bool}:AV.eO (dS eb)=false:=by cases eb<;>rfl
theorem Yv {L:List Nat} {x:Ar} {z:Value}:cp L x (.v z)= .v z:=rfl
theorem Ru {L:List Nat} {x:Ar} {k:IntKind} {i:Int}:cp L x (.int k i)= .int k i:=rfl
theorem Ng {L:List Nat} {x:Ar} {b:Bool}:cp L x (.bool b)= .bool b:=rfl
theorem Rv {L:List Nat} {x:Ar} {l:List UInt8}:cp L x (.str l)= .str l:=rfl
theorem Rx {L:List Nat} {x:Ar} {s o:Nat}:cp L x (.ptr s o)= .ptr s o:=rfl
theorem UW {L:List Nat} {x:Ar} {a:AV} {o:Nat}:cp L x (.ep a o)= .ep a o:=rfl
theorem UY {L:List Nat} {x:Ar} {f:Nat} {cs:List AV}:cp L x (.fn f cs)= .fn f cs:=rfl
theorem UZ {L:List Nat} {x:Ar}:cp L x (.un)= .un:=rfl
theorem U0 {L:List Nat} {x:Ar} {c:UInt8}:cp L x (b8 c)=b8 c:=rfl
theorem U1 {L:List Nat} {x:Ar} {k:Nat} {xs:List AV}:cp L x (.sl .n k xs)= .sl .n k xs:=rfl
theorem Ry {L:List Nat} {x:Ar} {k:Nat} {xs:List AV}:cp L x (.sl .ex k xs)= .sl .ex k xs:=rfl
theorem Rz {L:List Nat} {x:Ar} {l:Loc} {k:Nat} {xs:List AV}:cp L x (.sl (.fr l) k xs)= .sl (.fr l) k xs:=rfl
theorem RA {L:List Nat} {x:Ar} {cs:List AV}:cp L x (.agg cs)= .agg (cs.map AV.bS):=rfl
theorem RB {L:List Nat} {x:Ar} {cs:List AV}:cp L x (.bK cs)= .bK (cs.map AV.bS):=rfl
theorem RC {L:List Nat} {x:Ar} {q0 k0 o0 m0:Nat}:cp L x (.cF q0 k0 o0 m0)= .cF q0 k0 o0 m0:=rfl
theorem RD {L:List Nat} {x:Ar} {q0 k0 m0 c0:Nat}:cp L x (.cy q0 k0 m0 c0)= .cy q0 k0 m0 c0:=rfl
theorem RE {L:List Nat} {x:Ar}:cp L x (.dQ)= .dQ:=rfl
theorem U2 {L:List Nat} {x:Ar} {eb:Bool}:cp L x (dS eb)=dS eb:=by cases eb<;>rfl
theorem U3 {L:List Nat} {u k:Nat} {xs:List AV}:cp L (.t u) (.sl .own k xs)=if L.contains u then .sl (.fr (.tmp u)) k xs else .sl .n k xs:=rfl
theorem U4 {L:List Nat} {a:AV} {k:Nat} {xs:List AV}:cp L (.c a) (.sl .own k xs)= .sl .n k xs:=rfl
theorem U5 {P:Program} {L:List Nat} {N n0:Nat} {e:Env} {ah:AH} {t:List It} {Q:Exit→Env→AH→Prop} {r:List aQ} {d:Option Nat} {x:Ar} {z:Value}:jK P L N n0 e ah d r t Q x (.v z)=U P L N n0 (.ops r::t) Q .normal (aI L e d (cp L x (.v z))) ah:=rfl
theorem Nh {P:Program} {L:List Nat} {N n0:Nat} {e:Env} {ah:AH} {t:List It} {Q:Exit→Env→AH→Prop} {r:List aQ} {d:Option Nat} {x:Ar} {k:IntKind} {i:Int}:jK P L N n0 e ah d r t Q x (.int k i)=U P L N n0 (.ops r::t) Q .normal (aI L e d (cp L x (.int k i))) ah:=rfl
theorem Kz {P:Program} {L:List Nat} {N n0:Nat} {e:Env} {ah:AH} {t:List It} {Q:Exit→Env→AH→Prop} {r:List aQ} {d:Option Nat} {x:Ar} {b:Bool}:jK P L N n0 e ah d r t Q x (.bool b)=U P L N n0 (.ops r::t) Q .normal (aI L e d (cp L x (.bool b))) ah:=rfl
theorem Ni {P:Program} {L:List Nat} {N n0:Nat} {e:Env} {ah:AH} {t:List It} {Q:Exit→Env→AH→Prop} {r:List aQ} {d:Option Nat} {x:Ar} {l:List UInt8}:jK P L N n0 e ah d r t Q x (.str l)=U P L N n0 (.ops r::t) Q .normal (aI L e d (cp L x (.str l))) ah:=rfl
theorem Nj {P:Program} {L:List Nat} {N n0:Nat} {e:Env} {ah:AH} {t:List It} {Q:Exit→Env→AH→Prop} {r:List aQ} {d:Option Nat} {x:Ar} {s o:Nat}:jK P L N n0 e ah d r t Q x (.ptr s o)=U P L N n0 (.ops r::t) Q .normal (aI L e d (cp L x (.ptr s o))) ah:=rfl
theorem RF {P:Program} {L:List Nat} {N n0:Nat} {e:Env} {ah:AH} {t:List It} {Q:Exit→Env→AH→Prop} {r:List aQ} {d:Option Nat} {x:Ar} {a:AV} {o:Nat}:jK P L N n0 e ah d r t Q x (.ep a o)=U P L N n0 (.ops r::t) Q .normal (aI L e d (cp L x (.ep a o))) ah:=rfl
theorem RG {P:Program} {L:List Nat} {N n0:Nat} {e:Env} {ah:AH} {t:List It} {Q:Exit→Env→AH→Prop} {r:List aQ} {d:Option Nat} {x:Ar} {f:Nat} {cs:List AV}:jK P L N n0 e ah d r t Q x (.fn f cs)=U P L N n0 (.ops r::t) Q .normal (aI L e d (cp L x (.fn f cs))) ah:=rfl
theorem RH {P:Program} {L:List Nat} {N n0:Nat} {e:Env} {ah:AH} {t:List It} {Q:Exit→Env→AH→Prop} {r:List aQ} {d:Option Nat} {x:Ar}:jK P L N n0 e ah d r t Q x (.un)=U P L N n0 (.ops r::t) Q .normal (aI L e d (cp L x (.un))) ah:=rfl
theorem RI {P:Program} {L:List Nat} {N n0:Nat} {e:Env} {ah:AH} {t:List It} {Q:Exit→Env→AH→Prop} {r:List aQ} {d:Option Nat} {x:Ar} {c:UInt8}:jK P L N n0 e ah d r t Q x (b8 c)=U P L N n0 (.ops r::t) Q .normal (aI L e d (cp L x (b8 c))) ah:=rfl
theorem RJ {P:Program} {L:List Nat} {N n0:Nat} {e:Env} {ah:AH} {t:List It} {Q:Exit→Env→AH→Prop} {r:List aQ} {d:Option Nat} {x:Ar} {k:Nat} {xs:List AV}:jK P L N n0 e ah d r t Q x (.sl .n k xs)=U P L N n0 (.ops r::t) Q .normal (aI L e d (cp L x (.sl .n k xs))) ah:=rfl
theorem Nk {P:Program} {L:List Nat} {N n0:Nat} {e:Env} {ah:AH} {t:List It} {Q:Exit→Env→AH→Prop} {r:List aQ} {d:Option Nat} {x:Ar} {k:Nat} {xs:List AV}:jK P L N n0 e ah d r t Q x (.sl .ex k xs)=U P L N n0 (.ops r::t) Q .normal (aI L e d (cp L x (.sl .ex k xs))) ah:=rfl
theorem Nl {P:Program} {L:List Nat} {N n0:Nat} {e:Env} {ah:AH} {t:List It} {Q:Exit→Env→AH→Prop} {r:List aQ} {d:Option Nat} {x:Ar} {l:Loc} {k:Nat} {xs:List AV}:jK P L N n0 e ah d r t Q x (.sl (.fr l) k xs)=U P L N n0 (.ops r::t) Q .normal (aI L e d (cp L x (.sl (.fr l) k xs))) ah:=rfl
theorem Nn {P:Program} {L:List Nat} {N n0:Nat} {e:Env} {ah:AH} {t:List It} {Q:Exit→Env→AH→Prop} {r:List aQ} {d:Option Nat} {x:Ar} {cs:List AV}:jK P L N n0 e ah d r t Q x (.agg cs)=U P L N n0 (.ops r::t) Q .normal (aI L e d (cp L x (.agg cs))) ah:=rfl
theorem Np {P:Program} {L:List Nat} {N n0:Nat} {e:Env} {ah:AH} {t:List It} {Q:Exit→Env→AH→Prop} {r:List aQ} {d:Option Nat} {x:Ar} {cs:List AV}:jK P L N n0 e ah d r t Q x (.bK cs)=U P L N n0 (.ops r::t) Q .normal (aI L e d (cp L x (.bK cs))) ah:=rfl
theorem Nq {P:Program} {L:List Nat} {N n0:Nat} {e:Env} {ah:AH} {t:List It} {Q:Exit→Env→AH→Prop} {r:List aQ} {d:Option Nat} {x:Ar} {q0 k0 o0 m0:Nat}:jK P L N n0 e ah d r t Q x (.cF q0 k0 o0 m0)=U P L N n0 (.ops r::t) Q .normal (aI L e d (cp L x (.cF q0 k0 o0 m0))) ah:=rfl
theorem Nr {P:Program} {L:List Nat} {N n0:Nat} {e:Env} {ah:AH} {t:List It} {Q:Exit→Env→AH→Prop} {r:List aQ} {d:Option Nat} {x:Ar} {q0 k0 m0 c0:Nat}:jK P L N n0 e ah d r t Q x (.cy q0 k0 m0 c0)=U P L N n0 (.ops r::t) Q .normal (aI L e d (cp L x (.cy q0 k0 m0 c0))) ah:=rfl
theorem Ns {P:Program} {L:List Nat} {N n0:Nat} {e:Env} {ah:AH} {t:List It} {Q:Exit→Env→AH→Prop} {r:List aQ} {d:Option Nat} {x:Ar}:jK P L N n0 e ah d r t Q x (.dQ)=U P L N n0 (.ops r::t) Q .normal (aI L e d (cp L x (.dQ))) ah:=rfl
theorem RL {P:Program} {L:List Nat} {N n0:Nat} {e:Env} {ah:AH} {t:List It} {Q:Exit→Env→AH→Prop} {r:List aQ} {d:Option Nat} {x:Ar} {eb:Bool}:jK P L N n0 e ah d r t Q x (dS eb)=U P L N n0 (.ops r::t) Q .normal (aI L e d (cp L x (dS eb))) ah:=by cases eb<;>rfl
theorem RM {P:Program} {L:List Nat} {N n0:Nat} {e:Env} {ah:AH} {t:List It} {Q:Exit→Env→AH→Prop} {r:List aQ} {d:Option Nat} {y k:Nat} {xs:List AV}:jK P L N n0 e ah d r t Q (.t y) (.sl .own k xs)=U P L N n0 (.ops r::t) Q .normal (aI L (put e y (.sl .n k xs)) d (.sl .own k xs)) ah:=rfl
theorem RN {P:Program} {L:List Nat} {N n0:Nat} {e:Env} {ah:AH} {t:List It} {Q:Exit→Env→AH→Prop} {r:List aQ} {d:Option Nat} {a:AV} {k:Nat} {xs:List AV}:jK P L N n0 e ah d r t Q (.c a) (.sl .own k xs)=U P L N n0 (.ops r::t) Q .normal (aI L e d (cp L (.c a) (.sl .own k xs))) ah:=rfl
theorem RO {L:List Nat} {e:Env} {ah:AH} {d:Option Nat} {a b:Ar}:L8 L e ah d a b (.bool true)=some (aI L e d (ev e a).sh,ah):=rfl
theorem RP {L:List Nat} {e:Env} {ah:AH} {d:Option Nat} {a b:Ar}:L8 L e ah d a b (.bool false)=some (aI L e d (ev e b).sh,ah):=rfl
theorem Nt {L:List Nat} {e:Env} {ah:AH} {d:Option Nat} {s o:Nat}:TF L e ah d (.ptr s o)=some (aI L e d (.ptr s o),ah):=rfl
theorem RQ {L:List Nat} {e:Env} {ah:AH} {d:Option Nat} {a:AV} {o:Nat}:TF L e ah d (.ep a o)=some (aI L e d (.ep a o),ah):=rfl
theorem Nu {L:List Nat} {e:Env} {ah:AH} {d:Option Nat} {q s o:Nat}:TG L e ah d q (.ptr s o)=some (aI L e d (.ptr s (o+q)),ah):=rfl
theorem RR {L:List Nat} {e:Env} {ah:AH} {d:Option Nat} {q o:Nat} {a:AV}:TG L e ah d q (.ep a o)=some (aI L e d (.ep a (o+q)),ah):=rfl
theorem RS {L:List Nat} {e:Env} {ah:AH} {d:Option Nat} {n:Option Nat} {s o:Nat}:Hs L d n e ah (.ptr s o)=XW L d n s o e ah (ah[s]?):=rfl
theorem U6 {L:List Nat} {e:Env} {ah:AH} {d:Option Nat} {o:Nat} {a:AV}:Hs L d none e ah (.ep a o)=P9 L d e ah (a.cells[o]?):=rfl
theorem U7 {L:List Nat} {e:Env} {ah:AH} {d:Option Nat} {n o:Nat} {a:AV}:Hs L d (some n) e ah (.ep a o)=if o+n≤a.cells.length∧bZ ((a.cells.drop o).take n) then some (aI L e d (.agg (((a.cells.drop o).take n).map AV.s1)),ah) else none:=rfl
theorem U8 {s1 o1:Nat} {z:Value}:lF s1 o1 (some (.v z))=some (AV.bS (.v z)):=rfl
theorem Nv {s1 o1:Nat} {k:IntKind} {i:Int}:lF s1 o1 (some (.int k i))=some (AV.bS (.int k i)):=rfl
theorem KB {s1 o1:Nat} {b:Bool}:lF s1 o1 (some (.bool b))=some (AV.bS (.bool b)):=rfl
theorem Nw {s1 o1:Nat} {l:List UInt8}:lF s1 o1 (some (.str l))=some (AV.bS (.str l)):=rfl
theorem Nx {s1 o1:Nat} {s o:Nat}:lF s1 o1 (some (.ptr s o))=some (AV.bS (.ptr s o)):=rfl
theorem RT {s1 o1:Nat} {a:AV} {o:Nat}:lF s1 o1 (some (.ep a o))=some (AV.bS (.ep a o)):=rfl
theorem RU {s1 o1:Nat} {f:Nat} {cs:List AV}:lF s1 o1 (some (.fn f cs))=some (AV.bS (.fn f cs)):=rfl
theorem RV {s1 o1:Nat}:lF s1 o1 (some (.un))=some (AV.bS (.un)):=rfl
theorem RW {s1 o1:Nat} {c:UInt8}:lF s1 o1 (some (b8 c))=some (AV.bS (b8 c)):=rfl
theorem RX {s1 o1:Nat} {k:Nat} {xs:List AV}:lF s1 o1 (some (.sl .n k xs))=some (AV.bS (.sl .n k xs)):=rfl
theorem Ny {s1 o1:Nat} {k:Nat} {xs:List AV}:lF s1 o1 (some (.sl .ex k xs))=some (AV.bS (.sl .ex k xs)):=rfl
theorem Nz {s o k:Nat} {xs:List AV}:lF s o (some (.sl .own k xs))=some (.sl (.fr (.cell s o)) k xs):=rfl
theorem NA {s1 o1:Nat} {l:Loc} {k:Nat} {xs:List AV}:lF s1 o1 (some (.sl (.fr l) k xs))=some (AV.bS (.sl (.fr l) k xs)):=rfl
theorem NB {s1 o1:Nat} {q0 k0 o0 m0:Nat}:lF s1 o1 (some (.cF q0 k0 o0 m0))=some (AV.bS (.cF q0 k0 o0 m0)):=rfl
theorem NC {s1 o1:Nat} {q0 k0 m0 c0:Nat}:lF s1 o1 (some (.cy q0 k0 m0 c0))=some (AV.bS (.cy q0 k0 m0 c0)):=rfl
theorem ND {s1 o1:Nat}:lF s1 o1 (some (.dQ))=some (AV.bS (.dQ)):=rfl
theorem RY {s1 o1:Nat} {eb:Bool}:lF s1 o1 (some (dS eb))=some (AV.bS (dS eb)):=by cases eb<;>rfl
theorem Yw {L:List Nat} {e:Env} {ah:AH} {d:Option Nat} {ks:List Pk} {neq:Bool} {zq bs:List AV}:Zq L e ah d ks neq (.agg zq) (.agg bs)=(cq ks zq bs).map fun b=>(aI L e d (.bool (if neq then !b else b)),ah):=rfl
theorem Yx {L:List Nat} {e:Env} {ah:AH} {d:Option Nat} {l:List UInt8} {k k2:IntKind} {i j:Int}:O3 L e ah d l (.int k i) (.int k2 j)=(sub l i j).map fun m=>(aI L e d (.str m),ah):=rfl
theorem Yy {L:List Nat} {e:Env} {ah:AH} {d:Option Nat} {q:Nat} {xs:List AV} {k k2:IntKind} {i j:Int}:O4 L e ah d q xs (.int k i) (.int k2 j)=(sub xs i j).map fun ys=>(aI L e d (.sl .n q ys),ah):=rfl
theorem U9 {L:List Nat} {e:Env} {ah:AH} {d:Option Nat} {q:Nat} {xs:List AV} {k k2 k3:IntKind} {i j m:Int}:D6 L e ah d q xs (.int k i) (.int k2 j) (.int k3 m)=(vW xs i j m).map fun ys=>(aI L e d (.sl .ex q ys),ah):=rfl
theorem Va {L:List Nat} {e:Env} {ah:AH} {d:Option Nat} {k b:Nat} {x:Ar} {ys xs:List AV} {tg:Tg}:Hz L e ah d k b x ys (.sl tg k xs)=D7 L e ah d k x xs tg (cC b xs ys):=by simp [Hz]
theorem Vb {L:List Nat} {e:Env} {ah:AH} {d:Option Nat} {k:Nat} {x:Ar} {xs zs:List AV}:sr L e ah d k x xs zs .ex=some (aI L e d (.sl .own k zs),ah):=rfl
theorem RZ {L:List Nat} {e:Env} {ah:AH} {d:Option Nat} {k y:Nat} {xs zs:List AV}:sr L e ah d k (.t y) xs zs .own=some (aI L (put e y (.sl .n k xs)) d (.sl .own k zs),ah):=rfl
def aTt (L:List Nat) (e:Env) (ah:AH) (d:Option Nat) (k u:Nat) (zs:List AV):AV→Option (Env×AH)
 | .sl .own k' us=>if k'=k then some (aI L (put e u (.sl .n k' us)) d (.sl .own k zs),ah) else none
 |_=>none
def Yz (L:List Nat) (e:Env) (ah:AH) (d:Option Nat) (k s q:Nat) (zs cs:List AV):Option AV→Option (Env×AH)
 |some (.sl .own k' us)=>if k'=k then (over cs q [.sl .n k' us]).map fun cs=>(aI L e d (.sl .own k zs),ah.set s cs) else none
 |_=>none
def aTh (L:List Nat) (e:Env) (ah:AH) (d:Option Nat) (k s q:Nat) (zs:List AV):Option (List AV)→Option (Env×AH)
 |some cs=>Yz L e ah d k s q zs cs (cs[q]?)
 |none=>none
theorem YA {L:List Nat} {e:Env} {ah:AH} {d:Option Nat} {k u:Nat} {x:Ar} {xs zs:List AV}:sr L e ah d k x xs zs (.fr (.tmp u))=aTt L e ah d k u zs (Am.get e u):=by simp only [sr];cases Am.get e u with|sl tg k2 us=>cases tg<;>rfl|_=>rfl
theorem YB {L:List Nat} {e:Env} {ah:AH} {d:Option Nat} {k s q:Nat} {x:Ar} {xs zs:List AV}:sr L e ah d k x xs zs (.fr (.cell s q))=aTh L e ah d k s q zs (ah[s]?):=by simp only [sr];cases ah[s]? with|none=>rfl|some cs=>simp only [aTh];cases cs[q]? with|none=>rfl|some a=>cases a with|sl tg k2 us=>cases tg<;>rfl|_=>rfl
theorem aa6 {L:List Nat} {e:Env} {ah:AH} {d:Option Nat} {k u:Nat} {zs us:List AV}:aTt L e ah d k u zs (.sl .own k us)=some (aI L (put e u (.sl .n k us)) d (.sl .own k zs),ah):=by simp [aTt]
theorem aa7 {L:List Nat} {e:Env} {ah:AH} {d:Option Nat} {k s q:Nat} {zs cs:List AV}:aTh L e ah d k s q zs (some cs)=Yz L e ah d k s q zs cs (cs[q]?):=rfl
theorem aa8 {L:List Nat} {e:Env} {ah:AH} {d:Option Nat} {k s q:Nat} {zs cs us:List AV}:Yz L e ah d k s q zs cs (some (.sl .own k us))=(over cs q [.sl .n k us]).map fun cs=>(aI L e d (.sl .own k zs),ah.set s cs):=by simp [Yz]
theorem aa9:bZ []=true:=rfl
theorem aba {a:AV} {r:List AV}:bZ (a::r)=(a.flat&&bZ r):=rfl
theorem abb:b5 []=true:=rfl
theorem adf {a:AV} {r:List AV}:b5 (a::r)=(a.ja&&b5 r):=rfl
theorem abc:fY []=true:=rfl
theorem adg {a:AV} {r:List AV}:fY (a::r)=(a.np&&fY r):=rfl
theorem adh {t:Nat}:Am.get [] t= .un:=rfl
theorem adi {i t:Nat} {a:AV} {r:Env}:Am.get ((i,a)::r) t=if i=t then a else Am.get r t:=rfl
theorem adj {d:Nat} {a:AV}:put [] d a=[(d,a)]:=rfl
theorem adk {i d:Nat} {a b:AV} {r:Env}:put ((i,b)::r) d a=if i=d then (d,a)::r else if d<i then (d,a)::(i,b)::r else (i,b)::put r d a:=rfl
theorem adl {L:List Nat}:keep L []=[]:=rfl
theorem adm {L:List Nat} {i:Nat} {a:AV} {r:Env}:keep L ((i,a)::r)=if L.contains i then (i,a)::keep L r else keep L r:=rfl
theorem adn {l:Loc}:kN l []=[]:=rfl
theorem ado {l:Loc} {i:Nat} {a:AV} {r:Env}:kN l ((i,a)::r)=(i,a.ew l)::kN l r:=rfl
theorem adp:vR []=[]:=rfl
theorem adq {i:Nat} {a:AV} {r:Env}:vR ((i,a)::r)=(i,a.iY)::vR r:=rfl
theorem adr {e:Env}:pK e none=e:=rfl
theorem ads {e:Env} {d:Nat}:pK e (some d)=put e d (.bK []):=rfl
theorem adt {L:List Nat} {e:Env} {a:AV}:aI L e none a=e:=rfl
theorem adu {L:List Nat} {e:Env} {d:Nat} {a:AV}:aI L e (some d) a=if L.contains d then (if a.bT then put (kN (.tmp d) e) d a else put e d a.df) else put e d a:=rfl
theorem adv {i:Nat}:fm i []=[]:=rfl
theorem adw {i:Nat} {a:AV} {r:List AV}:fm i (a::r)=(i,a)::fm (i+1) r:=rfl
theorem adx {k:IntKind} {i:Int}:jd k i= .int k i:=rfl
theorem ady {a b:Nat}:(Loc.tmp a=Loc.tmp b)=(a=b):=by simp
theorem adz {a b c d:Nat}:(Loc.cell a b=Loc.cell c d)=(a=c∧b=d):=by simp
theorem abd {a c d:Nat}:(Loc.tmp a=Loc.cell c d)=False:=by simp
theorem abe {a c d:Nat}:(Loc.cell c d=Loc.tmp a)=False:=by simp
def tV (e:Env) (ah:AH) (s p n:Nat) (x:Ar) (cs:List AV):AV→Option (Env×AH)
 | .sl .own k xs=>match x with
   | .t y=>if n=1 then (over cs p [.sl .own k xs]).map fun cs=>(kN (.cell s p) (put e y (.sl .n k xs)),ah.set s cs) else none
   | .c a=>if (AV.sl .own k xs).cells.length=n∧b5 (AV.sl .own k xs).cells then (over cs p ((AV.sl .own k xs).cells.map AV.bS)).map fun cs=>(e,ah.set s cs) else none
 |w=>if w.cells.length=n∧b5 w.cells then (over cs p (w.cells.map AV.bS)).map fun cs=>(e,ah.set s cs) else none
def YC (e:Env) (ah:AH) (s p n:Nat) (x:Ar):Option (List AV)→Option (Env×AH)
 |some cs=>tV e ah s p n x cs (ev e x)
 |none=>none
def stK (e:Env) (ah:AH) (n:Nat) (x:Ar):AV→Option (Env×AH)
 | .ptr s p=>YC e ah s p n x (ah[s]?)
 |_=>none
theorem ZA {P:Program} {L:List Nat} {N n0:Nat} {e:Env} {ah:AH} {t:List It} {Q:Exit→Env→AH→Prop} {r:List aQ} {d:Option Nat} {a x:Ar} {n:Nat} {g:Option (Nat×Bool)}:UG P L N n0 ⟨d, .st a x n,g⟩ r t Q e ah (some true)=US P L N n0 r t Q (stK e ah n x (ev e a)):=by
 simp only [UG,bN]
 congr 1
 cases ev e a with
 |ptr s p=>
  simp only [stK]
  cases ah[s]? with
  |none=>rfl
  |some cs=>
   simp only [YC]
   cases ev e x with
   |sl tg k xs=>cases tg<;>cases x<;>rfl
   |_=>rfl
 |_=>rfl
theorem abf {e:Env} {ah:AH} {s p n:Nat} {x:Ar}:stK e ah n x (.ptr s p)=YC e ah s p n x (ah[s]?):=rfl
theorem abg {e:Env} {ah:AH} {s p n:Nat} {x:Ar} {cs:List AV}:YC e ah s p n x (some cs)=tV e ah s p n x cs (ev e x):=rfl
theorem R8 {e:Env} {ah:AH} {s p n y k:Nat} {cs xs:List AV}:tV e ah s p n (.t y) cs (.sl .own k xs)=if n=1 then (over cs p [.sl .own k xs]).map fun cs=>(kN (.cell s p) (put e y (.sl .n k xs)),ah.set s cs) else none:=rfl
theorem Vc {e:Env} {ah:AH} {s p n:Nat} {x:Ar} {cs:List AV} {z:Value}:tV e ah s p n x cs (.v z)=if (AV.cells (.v z)).length=n∧b5 (AV.cells (.v z)) then (over cs p ((AV.cells (.v z)).map AV.bS)).map fun cs=>(e,ah.set s cs) else none:=rfl
theorem NF {e:Env} {ah:AH} {s p n:Nat} {x:Ar} {cs:List AV} {k:IntKind} {i:Int}:tV e ah s p n x cs (.int k i)=if (AV.cells (.int k i)).length=n∧b5 (AV.cells (.int k i)) then (over cs p ((AV.cells (.int k i)).map AV.bS)).map fun cs=>(e,ah.set s cs) else none:=rfl
theorem KC {e:Env} {ah:AH} {s p n:Nat} {x:Ar} {cs:List AV} {b:Bool}:tV e ah s p n x cs (.bool b)=if (AV.cells (.bool b)).length=n∧b5 (AV.cells (.bool b)) then (over cs p ((AV.cells (.bool b)).map AV.bS)).map fun cs=>(e,ah.set s cs) else none:=rfl
theorem NH {e:Env} {ah:AH} {s p n:Nat} {x:Ar} {cs:List AV} {l:List UInt8}:tV e ah s p n x cs (.str l)=if (AV.cells (.str l)).length=n∧b5 (AV.cells (.str l)) then (over cs p ((AV.cells (.str l)).map AV.bS)).map fun cs=>(e,ah.set s cs) else none:=rfl
theorem NI {e:Env} {ah:AH} {s p n:Nat} {x:Ar} {cs:List AV} {s0 o:Nat}:tV e ah s p n x cs (.ptr s0 o)=if (AV.cells (.ptr s0 o)).length=n∧b5 (AV.cells (.ptr s0 o)) then (over cs p ((AV.cells (.ptr s0 o)).map AV.bS)).map fun cs=>(e,ah.set s cs) else none:=rfl
theorem R9 {e:Env} {ah:AH} {s p n:Nat} {x:Ar} {cs:List AV} {a:AV} {o:Nat}:tV e ah s p n x cs (.ep a o)=if (AV.cells (.ep a o)).length=n∧b5 (AV.cells (.ep a o)) then (over cs p ((AV.cells (.ep a o)).map AV.bS)).map fun cs=>(e,ah.set s cs) else none:=rfl
theorem Sa {e:Env} {ah:AH} {s p n:Nat} {x:Ar} {cs:List AV} {f:Nat} {ds:List AV}:tV e ah s p n x cs (.fn f ds)=if (AV.cells (.fn f ds)).length=n∧b5 (AV.cells (.fn f ds)) then (over cs p ((AV.cells (.fn f ds)).map AV.bS)).map fun cs=>(e,ah.set s cs) else none:=rfl
theorem Sb {e:Env} {ah:AH} {s p n:Nat} {x:Ar} {cs:List AV} {c:UInt8}:tV e ah s p n x cs (b8 c)=if (AV.cells (b8 c)).length=n∧b5 (AV.cells (b8 c)) then (over cs p ((AV.cells (b8 c)).map AV.bS)).map fun cs=>(e,ah.set s cs) else none:=rfl
theorem Sc {e:Env} {ah:AH} {s p n:Nat} {x:Ar} {cs:List AV} {k:Nat} {xs:List AV}:tV e ah s p n x cs (.sl .n k xs)=if (AV.cells (.sl .n k xs)).length=n∧b5 (AV.cells (.sl .n k xs)) then (over cs p ((AV.cells (.sl .n k xs)).map AV.bS)).map fun cs=>(e,ah.set s cs) else none:=rfl
theorem NJ {e:Env} {ah:AH} {s p n:Nat} {x:Ar} {cs:List AV} {k:Nat} {xs:List AV}:tV e ah s p n x cs (.sl .ex k xs)=if (AV.cells (.sl .ex k xs)).length=n∧b5 (AV.cells (.sl .ex k xs)) then (over cs p ((AV.cells (.sl .ex k xs)).map AV.bS)).map fun cs=>(e,ah.set s cs) else none:=rfl
theorem NK {e:Env} {ah:AH} {s p n:Nat} {x:Ar} {cs:List AV} {l:Loc} {k:Nat} {xs:List AV}:tV e ah s p n x cs (.sl (.fr l) k xs)=if (AV.cells (.sl (.fr l) k xs)).length=n∧b5 (AV.cells (.sl (.fr l) k xs)) then (over cs p ((AV.cells (.sl (.fr l) k xs)).map AV.bS)).map fun cs=>(e,ah.set s cs) else none:=rfl
theorem NL {e:Env} {ah:AH} {s p n:Nat} {x:Ar} {cs:List AV} {ds:List AV}:tV e ah s p n x cs (.agg ds)=if (AV.cells (.agg ds)).length=n∧b5 (AV.cells (.agg ds)) then (over cs p ((AV.cells (.agg ds)).map AV.bS)).map fun cs=>(e,ah.set s cs) else none:=rfl
theorem NM {e:Env} {ah:AH} {s p n:Nat} {x:Ar} {cs:List AV} {q0 k0 o0 m0:Nat}:tV e ah s p n x cs (.cF q0 k0 o0 m0)=if (AV.cells (.cF q0 k0 o0 m0)).length=n∧b5 (AV.cells (.cF q0 k0 o0 m0)) then (over cs p ((AV.cells (.cF q0 k0 o0 m0)).map AV.bS)).map fun cs=>(e,ah.set s cs) else none:=rfl
theorem NN {e:Env} {ah:AH} {s p n:Nat} {x:Ar} {cs:List AV} {q0 k0 m0 c0:Nat}:tV e ah s p n x cs (.cy q0 k0 m0 c0)=if (AV.cells (.cy q0 k0 m0 c0)).length=n∧b5 (AV.cells (.cy q0 k0 m0 c0)) then (over cs p ((AV.cells (.cy q0 k0 m0 c0)).map AV.bS)).map fun cs=>(e,ah.set s cs) else none:=rfl
theorem NP {e:Env} {ah:AH} {s p n:Nat} {x:Ar} {cs:List AV}:tV e ah s p n x cs (.dQ)=if (AV.cells (.dQ)).length=n∧b5 (AV.cells (.dQ)) then (over cs p ((AV.cells (.dQ)).map AV.bS)).map fun cs=>(e,ah.set s cs) else none:=rfl
theorem Sd {e:Env} {ah:AH} {s p n:Nat} {x:Ar} {cs:List AV} {eb:Bool}:tV e ah s p n x cs (dS eb)=if (AV.cells (dS eb)).length=n∧b5 (AV.cells (dS eb)) then (over cs p ((AV.cells (dS eb)).map AV.bS)).map fun cs=>(e,ah.set s cs) else none:=by cases eb<;>rfl
theorem YD {c0:AV} {cs ws:List AV} {o:Nat}:over (c0::cs) o ws=if o+ws.length≤(c0::cs).length then some ((c0::cs).take o++ws++(c0::cs).drop (o+ws.length)) else none:=rfl
theorem adA {e:Env} {cs:List AV}:fill e cs []=some cs:=rfl
def Vd (e:Env) (r:List (Nat×Nat×Ar)):Option (List AV)→Option (List AV)
 |some cs=>fill e cs r
 |none=>none
theorem adB {e:Env} {cs:List AV} {o n:Nat} {x:Ar} {r:List (Nat×Nat×Ar)}:fill e cs ((o,n,x)::r)=if (ev e x).cells.length=n∧b5 (ev e x).cells then Vd e r (over cs o ((ev e x).cells.map AV.bS)) else none:=by
 simp only [fill]
 split
 · cases over cs o ((ev e x).cells.map AV.bS)<;>rfl
 · rfl
theorem adC {e:Env} {cs:List AV} {r:List (Nat×Nat×Ar)}:Vd e r (some cs)=fill e cs r:=rfl
theorem Ve {P:Program} {L:List Nat} {N n0:Nat} {e:Env} {ah:AH} {t:List It} {Q:Exit→Env→AH→Prop} {r:List aQ} {d:Option Nat} {x:Ar} {g:Option (Nat×Bool)}:UG P L N n0 ⟨d, .len x,g⟩ r t Q e ah (some true)=US P L N n0 r t Q (O7 L e ah d (ev e x)):=by simp only [UG,bN];cases ev e x<;>rfl
theorem YE {L:List Nat} {e:Env} {ah:AH} {d:Option Nat} {tg:Tg} {k:Nat} {xs:List AV}:O7 L e ah d (.sl tg k xs)=some (aI L e d (.int .i64 xs.length),ah):=rfl
theorem O8 {P:Program} {L:List Nat} {N n0:Nat} {e:Env} {ah:AH} {t:List It} {Q:Exit→Env→AH→Prop} {r:List aQ} {d:Option Nat} {x:Ar} {g:Option (Nat×Bool)}:UG P L N n0 ⟨d, .lens x,g⟩ r t Q e ah (some true)=US P L N n0 r t Q (Uc L e ah d (ev e x)):=by simp only [UG,bN];cases ev e x<;>rfl
theorem Vf {L:List Nat} {e:Env} {ah:AH} {d:Option Nat} {l:List UInt8}:Uc L e ah d (.str l)=some (aI L e d (.int .i64 l.length),ah):=rfl
theorem Vg {P:Program} {L:List Nat} {N n0:Nat} {e:Env} {ah:AH} {t:List It} {Q:Exit→Env→AH→Prop} {r:List aQ} {d:Option Nat} {x:Ar} {i:Nat} {g:Option (Nat×Bool)}:UG P L N n0 ⟨d, .ext x i,g⟩ r t Q e ah (some true)=US P L N n0 r t Q (Ue L e ah d i (ev e x)):=by simp only [UG,bN];cases ev e x with|bK cs=>simp only [Ue];cases cs[i]? <;>rfl|_=>rfl
theorem YF {L:List Nat} {e:Env} {ah:AH} {d:Option Nat} {i:Nat} {cs:List AV}:Ue L e ah d i (.bK cs)=Ud L e ah d (cs[i]?):=rfl
theorem YG {L:List Nat} {e:Env} {ah:AH} {d:Option Nat} {a:AV}:Ud L e ah d (some a)=some (aI L e d a.sh,ah):=rfl
theorem O9 {P:Program} {L:List Nat} {N n0:Nat} {e:Env} {ah:AH} {t:List It} {Q:Exit→Env→AH→Prop} {r:List aQ} {d:Option Nat} {x:Ar} {q:Nat} {n:Option Nat} {g:Option (Nat×Bool)}:UG P L N n0 ⟨d, .Gt x q n,g⟩ r t Q e ah (some true)=US P L N n0 r t Q (HC L e ah d q n (ev e x)):=by
 simp only [UG,bN]
 cases ev e x with
 |agg cs=>
  cases n with
  |some n=>rfl
  |none=>simp only [HC];cases cs[q]? <;>rfl
 |_=>cases n<;>rfl
theorem abh {L:List Nat} {e:Env} {ah:AH} {d:Option Nat} {q:Nat} {cs:List AV}:HC L e ah d q none (.agg cs)=Mb L e ah d (cs[q]?):=rfl
theorem abi {L:List Nat} {e:Env} {ah:AH} {d:Option Nat} {a:AV}:Mb L e ah d (some a)=some (aI L e d a.bS,ah):=rfl
theorem abj {L:List Nat} {e:Env} {ah:AH} {d:Option Nat} {q n:Nat} {cs:List AV}:HC L e ah d q (some n) (.agg cs)=if q+n≤cs.length then some (aI L e d (.agg (((cs.drop q).take n).map AV.bS)),ah) else none:=rfl
theorem Vh {P:Program} {L:List Nat} {N n0:Nat} {e:Env} {ah:AH} {t:List It} {Q:Exit→Env→AH→Prop} {r:List aQ} {d:Option Nat} {x:Ar} {n:Option Nat} {g:Option (Nat×Bool)}:UG P L N n0 ⟨d, .lJ x n,g⟩ r t Q e ah (some true)=US P L N n0 r t Q (Uf L e ah d n (ev e x)):=by
 simp only [UG,bN]
 cases ev e x with
 |ep a p=>
  cases n with
  |some n=>rfl
  |none=>simp only [Uf,Hs,P9];cases a.cells[p]? <;>rfl
 |_=>cases n<;>rfl
theorem abk {L:List Nat} {e:Env} {ah:AH} {d:Option Nat} {n:Option Nat} {a:AV} {p:Nat}:Uf L e ah d n (.ep a p)=Hs L d n e ah (.ep a p):=rfl
def WA0:=And.intro @Ug<|And.intro @Mc<|And.intro @JP<|And.intro @Md<|And.intro @Me<|And.intro @Qd<|And.intro @Qe<|And.intro @Qf<|And.intro @Qg<|And.intro @Qh<|And.intro @Mf<|And.intro @JQ<|And.intro @Mg<|And.intro @Mh<|And.intro @Mi<|And.intro @Mj<|And.intro @Mk<|And.intro @Ml<|And.intro @Qi<|And.intro @Yq<|And.intro @Qj<|And.intro @Mm<|And.intro @Qk<|And.intro @Ql<|And.intro @Uh<|And.intro @Ui<|And.intro @Uj<|And.intro @Uk<|And.intro @Ul<|And.intro @Qm<|And.intro @Mn<|And.intro @Qn<|And.intro @Qo<|And.intro @Qp<|And.intro @Qq<|And.intro @Qr<|And.intro @Qs<|And.intro @Um<|And.intro @Yr<|And.intro @Qt<|And.intro @Mo<|And.intro @Qu<|And.intro @Qv<|And.intro @Un<|And.intro @Uo<|And.intro @Up<|And.intro @Uq<|And.intro @Ur<|And.intro @Qw<|And.intro @Mp<|And.intro @Qx<|And.intro @Qy<|And.intro @Qz<|And.intro @QA<|And.intro @QB<|And.intro @QC<|And.intro @Us<|And.intro @Ys<|And.intro @QD<|@Mq
def WA1:=And.intro @QE<|And.intro @QF<|And.intro @Ut<|And.intro @Uu<|And.intro @Uv<|And.intro @Uw<|And.intro @Ux<|And.intro @QG<|And.intro @Mr<|And.intro @QH<|And.intro @QI<|And.intro @QJ<|And.intro @QK<|And.intro @QL<|And.intro @QM<|And.intro @Uy<|And.intro @Yt<|And.intro @QN<|And.intro @Ms<|And.intro @QO<|And.intro @QS<|And.intro @Uz<|And.intro @UA<|And.intro @UB<|And.intro @UD<|And.intro @UE<|And.intro @QT<|And.intro @Mt<|And.intro @QU<|And.intro @QV<|And.intro @QW<|And.intro @QX<|And.intro @QY<|And.intro @QZ<|And.intro @UH<|And.intro @Mu<|And.intro @HD<|And.intro @Fz<|And.intro @HF<|And.intro @HG<|And.intro @JR<|And.intro @JS<|And.intro @JT<|And.intro @JU<|And.intro @JV<|And.intro @HH<|And.intro @FA<|And.intro @HI<|And.intro @HJ<|And.intro @HK<|And.intro @HL<|And.intro @HM<|And.intro @HN<|And.intro @JW<|And.intro @UI<|And.intro @Mv<|And.intro @JX<|And.intro @Mw<|And.intro @Mx<|@Q0
def WA2:=And.intro @Q1<|And.intro @Q2<|And.intro @Q3<|And.intro @Q4<|And.intro @My<|And.intro @JY<|And.intro @Mz<|And.intro @MA<|And.intro @MB<|And.intro @MC<|And.intro @MD<|And.intro @ME<|And.intro @Q5<|And.intro @Q6<|And.intro @JZ<|And.intro @HO<|And.intro @J0<|And.intro @J1<|And.intro @MF<|And.intro @MG<|And.intro @MH<|And.intro @MI<|And.intro @MJ<|And.intro @J2<|And.intro @HP<|And.intro @J3<|And.intro @J4<|And.intro @J5<|And.intro @J6<|And.intro @J7<|And.intro @J8<|And.intro @MK<|And.intro @UJ<|And.intro @ML<|And.intro @J9<|And.intro @MM<|And.intro @MN<|And.intro @Q7<|And.intro @Q8<|And.intro @Q9<|And.intro @Ra<|And.intro @Rb<|And.intro @MO<|And.intro @Ka<|And.intro @MP<|And.intro @MQ<|And.intro @MR<|And.intro @MS<|And.intro @MT<|And.intro @Rc<|And.intro @UL<|And.intro @UM<|And.intro @MU<|And.intro @HQ<|And.intro @FB<|And.intro @HR<|And.intro @HS<|And.intro @Kb<|And.intro @Kc<|@Kd
def WA3:=And.intro @Ke<|And.intro @Kf<|And.intro @HT<|And.intro @FC<|And.intro @HU<|And.intro @HV<|And.intro @HW<|And.intro @HX<|And.intro @HY<|And.intro @HZ<|And.intro @Kg<|And.intro @UN<|And.intro @MV<|And.intro @Kh<|And.intro @MW<|And.intro @MX<|And.intro @Rd<|And.intro @Re<|And.intro @Rf<|And.intro @Rg<|And.intro @Rh<|And.intro @MY<|And.intro @Ki<|And.intro @MZ<|And.intro @M0<|And.intro @M1<|And.intro @M3<|And.intro @M4<|And.intro @M5<|And.intro @Ri<|And.intro @Rj<|And.intro @Kj<|And.intro @H6<|And.intro @Kk<|And.intro @Kl<|And.intro @M6<|And.intro @M7<|And.intro @M8<|And.intro @M9<|And.intro @Na<|And.intro @Km<|And.intro @H7<|And.intro @Kn<|And.intro @Ko<|And.intro @Kp<|And.intro @Kq<|And.intro @Kr<|And.intro @Ks<|And.intro @Nb<|And.intro @Yu<|And.intro @Rk<|And.intro @Nc<|And.intro @Rl<|And.intro @Rm<|And.intro @UO<|And.intro @UP<|And.intro @UQ<|And.intro @UR<|And.intro @UT<|@Rn
def WA4:=And.intro @Nd<|And.intro @Ro<|And.intro @Rp<|And.intro @Rq<|And.intro @Rr<|And.intro @Rs<|And.intro @Rt<|And.intro @UU<|And.intro @Nf<|And.intro @H8<|And.intro @FD<|And.intro @H9<|And.intro @Ia<|And.intro @Kt<|And.intro @Ku<|And.intro @Kv<|And.intro @Kw<|And.intro @Kx<|And.intro @Ib<|And.intro @FE<|And.intro @Ic<|And.intro @Ie<|And.intro @Ig<|And.intro @Ih<|And.intro @Ii<|And.intro @Ij<|And.intro @Ky<|And.intro @Yv<|And.intro @Ru<|And.intro @Ng<|And.intro @Rv<|And.intro @Rx<|And.intro @UW<|And.intro @UY<|And.intro @UZ<|And.intro @U0<|And.intro @U1<|And.intro @Ry<|And.intro @Rz<|And.intro @RA<|And.intro @RB<|And.intro @RC<|And.intro @RD<|And.intro @RE<|And.intro @U2<|And.intro @U3<|And.intro @U4<|And.intro @U5<|And.intro @Nh<|And.intro @Kz<|And.intro @Ni<|And.intro @Nj<|And.intro @RF<|And.intro @RG<|And.intro @RH<|And.intro @RI<|And.intro @RJ<|And.intro @Nk<|And.intro @Nl<|@Nn
def WA5:=And.intro @Np<|And.intro @Nq<|And.intro @Nr<|And.intro @Ns<|And.intro @RL<|And.intro @RM<|And.intro @RN<|And.intro @RO<|And.intro @RP<|And.intro @Nt<|And.intro @RQ<|And.intro @Nu<|And.intro @RR<|And.intro @RS<|And.intro @U6<|And.intro @U7<|And.intro @U8<|And.intro @Nv<|And.intro @KB<|And.intro @Nw<|And.intro @Nx<|And.intro @RT<|And.intro @RU<|And.intro @RV<|And.intro @RW<|And.intro @RX<|And.intro @Ny<|And.intro @Nz<|And.intro @NA<|And.intro @NB<|And.intro @NC<|And.intro @ND<|And.intro @RY<|And.intro @Yw<|And.intro @Yx<|And.intro @Yy<|And.intro @U9<|And.intro @Va<|And.intro @Vb<|And.intro @RZ<|And.intro @YA<|And.intro @YB<|And.intro @aa6<|And.intro @aa7<|And.intro @aa8<|And.intro @aa9<|And.intro @aba<|And.intro @abb<|And.intro @adf<|And.intro @abc<|And.intro @adg<|And.intro @adh<|And.intro @adi<|And.intro @adj<|And.intro @adk<|And.intro @adl<|And.intro @adm<|And.intro @adn<|And.intro @ado<|@adp
def WA6:=And.intro @adq<|And.intro @adr<|And.intro @ads<|And.intro @adt<|And.intro @adu<|And.intro @adv<|And.intro @adw<|And.intro @adx<|And.intro @ady<|And.intro @adz<|And.intro @abd<|And.intro @abe<|And.intro @ZA<|And.intro @abf<|And.intro @abg<|And.intro @R8<|And.intro @Vc<|And.intro @NF<|And.intro @KC<|And.intro @NH<|And.intro @NI<|And.intro @R9<|And.intro @Sa<|And.intro @Sb<|And.intro @Sc<|And.intro @NJ<|And.intro @NK<|And.intro @NL<|And.intro @NM<|And.intro @NN<|And.intro @NP<|And.intro @Sd<|And.intro @YD<|And.intro @adA<|And.intro @adB<|And.intro @adC<|And.intro @Ve<|And.intro @YE<|And.intro @O8<|And.intro @Vf<|And.intro @Vg<|And.intro @YF<|And.intro @YG<|And.intro @O9<|And.intro @abh<|And.intro @abi<|And.intro @abj<|And.intro @Vh<|@abk
end Go.Am
end
section
namespace Go.Am
open Go
variable [Tabs]
def z1 (n:Nat) (i:Int):Option Nat:=if 0≤i∧i<n then some i.toNat else none
def ZB {α:Type} (xs:List α) (j:Nat) (c:α):Option (List α):=if j<xs.length then some (xs.set j c) else none
section
variable {P:Program} {L:List Nat} {e:Env} {ah:AH} {d:Option Nat}
theorem YH {xs:List UInt8} {j:Nat} {c:UInt8}:over (ml b8 xs) j [b8 c]=(ZB xs j c).map (ml b8):=by
 unfold over ZB ml
 simp only [List.length_map,List.length_cons,List.length_nil]
 by_cases h:j<xs.length
 · rw [if_pos (by omega),if_pos h]
   simp only [Option.map_some,Option.some.injEq,List.map_set]
   rw [List.set_eq_take_append_cons_drop,if_pos (by simpa using h)]
   simp
 · rw [if_neg (by omega),if_neg h];rfl
theorem abl {xs:List UInt8} {j:Nat}:(ml b8 xs)[j]? =(xs[j]?).map b8:=by simp [ml]
theorem adD {s n:Nat} {ki:IntKind} {i:Int}:sS L e ah d 1 (.cF s 1 0 n) (.int ki i)=(z1 n i).map fun j=>(aI L e d (.ptr s j),ah):=by
 simp only [sS,z1,and_true]
 split<;>simp
theorem abm {s k o n:Nat}:O7 L e ah d (.cF s k o n)=some (aI L e d (.int .i64 n),ah):=rfl
theorem Vi {h:Cv} {l:List UInt8}:D2 L e ah d h (.str l)=(fE h (.str l)).map fun a=>(aI L e d a,ah):=rfl
theorem Vj {h:Cv} {k:IntKind} {i:Int}:D2 L e ah d h (.int k i)=(fE h (.int k i)).map fun a=>(aI L e d a,ah):=rfl
theorem YI {h:Cv} {c:UInt8}:D2 L e ah d h (b8 c)=(fE h (b8 c)).map fun a=>(aI L e d a,ah):=rfl
theorem YJ {h:Cv} {t:Tg} {k:Nat} {xs:List AV}:D2 L e ah d h (.sl t k xs)=(fE h (.sl t k xs)).map fun a=>(aI L e d a,ah):=rfl
theorem Vk {s n:Nat}:D2 L e ah d .bs (.cF s 1 0 n)=TH L e ah d 0 n (ah[s]?):=rfl
theorem M_s {p n:Nat} {cs:List AV}:TH L e ah d p n (some cs)=OS L e ah d p n cs:=rfl
theorem M_t {n:Nat} {xs:List UInt8}:OS L e ah d 0 n (ml b8 xs)=(sub xs 0 (n:Int)).map fun l=>(aI L e d (.str l),ah):=by
 unfold OS sub
 have hb:bytesOf (((ml b8 xs).drop 0).take n)=some (xs.take n):=by
  have:((ml b8 xs).drop 0).take n=(ml b8 (xs.take n)):=by simp [ml,List.map_take]
  rw [this];exact Cs _
 rw [hb]
 by_cases h:n≤xs.length
 · rw [if_pos (by simp [ml];exact h),if_pos (by omega)];simp
 · rw [if_neg (by simp [ml];omega),if_neg (by omega)];rfl
theorem M_o {l:List UInt8}:TI L e ah d (.str l)=some (aI L e d (.cF ah.length 1 0 l.length),ah++[ml b8 l]):=rfl
theorem abn:LN .dQ (.v .nilIface)=some false:=rfl
theorem abo:LN (.v .nilIface) (.v .nilIface)=some true:=rfl
theorem abp {b:Bool}:LN (dS b) (.v .nilIface)=some (!b):=by cases b<;>rfl
theorem abr {k:IntKind} {i j:Int}:Jg true (.int k i) (.int k j)=some (.int k (max i j)):=by simp [Jg]
theorem abt {k:IntKind} {i j:Int}:Jg false (.int k i) (.int k j)=some (.int k (min i j)):=by simp [Jg]
end
def WM:=And.intro @YH<|And.intro @abl<|And.intro @adD<|And.intro @abm<|And.intro @Vi<|And.intro @Vj<|And.intro @YI<|And.intro @YJ<|And.intro @Vk<|And.intro @M_s<|And.intro @M_t<|And.intro @M_o<|And.intro @abn<|And.intro @abo<|And.intro @abp<|And.intro @Bool.not_not<|And.intro @abr<|And.intro @abt<|And.intro @XX<|And.intro @XY<|And.intro @acU @acV
theorem Wx.cF {s k o n:Nat}:Wx (.cF s k o n) (.cF s k o n):= .same (by simp)
theorem Wx.dQ:Wx .dQ .dQ:= .same (by simp)
theorem Wx.epE {a b:AV} {o:Nat} (h:a=b):Wx (.ep a o) (.ep b o):=by subst h;exact Wx.ep
theorem Wx.err {b:Bool}:Wx (dS b) (dS b):= .same (by cases b<;>simp [dS])
end Go.Am
end
section
namespace Go.Am
open Go
variable [Tabs]
section
variable {P:Program} {L:List Nat} {N n0:Nat} {F:Nat→Prop} {γ:List Nat} {C:Nat→List Value} {e e':Env} {ah:AH} {ts:Array Value} {w:World} {Q K:Exit→Env→AH→Prop}
theorem SR.freeze (h:SR L N F γ C e ah ts w) {s:Nat} {cs ds:List AV} (hs:ah[s]? =some cs) (hne:cs≠[]) (hw:cv cs ds)
 (he:∀t,get e' t=get e t∨∃o,get e t= .ptr s o∧get e' t= .ep (.agg ds) o):∃C',SR L N F γ C' e' (ah.set s []) ts w∧Ext F C w C' w:=by
 have hlt:s<γ.length:=by rw [h.mem.len];exact (List.getElem?_eq_some_iff.1 hs).1
 obtain ⟨b,hb⟩:∃b,γ[s]? =some b:=⟨_,List.getElem?_eq_getElem hlt⟩
 obtain ⟨vs,ty,hh,hsz,hcell⟩:=h.mem.obj s b cs hs hb
 have Fu:=h.mem.pG s b cs hs hne hb
 have qH:blk γ e ah ts w (.obj s) b:=hb
 refine ⟨fun x=>if x=b then vs.toList else C x, ?_⟩
 generalize u0:(fun x=>if x=b then vs.toList else C x)=C'
 have c0:C' b=vs.toList:=by rw [←u0];simp
 have c1:∀x,x≠b→C' x=C x:=fun x hx=>by rw [←u0];simp [hx]
 have hpre:∀x,C x <+: C' x:=by
  intro x
  by_cases hx:x=b
  · subst hx;rw [Fu];exact List.nil_prefix
  · rw [c1 x hx];exact List.prefix_refl _
 have gU:∀(s':Nat),s'≠s→(ah.set s [])[s']? =ah[s']? :=fun s' hn=>List.getElem?_set_ne (Ne.symm hn)
 have fO:(ah.set s [])[s]? =some []:=List.getElem?_set_self (by rw [←h.mem.len];exact hlt)
 have tR:∀(s':Nat),γ[s']? =some b→s'=s:=fun s' hs'=>by
  have:=h.dF (.obj s') (.obj s) b hs' hb;injection this
 have hbk:∀p x,blk γ e' (ah.set s []) ts w p x→blk γ e ah ts w p x:=by
  intro p x hp
  cases p with
  |obj s'=>exact hp
  |cell s' i=>
   obtain ⟨ds,a,b0,h1,h2,h3,h4⟩:=hp
   by_cases hn:s'=s
   · subst hn;rw [fO] at h1;injection h1 with h1;subst h1;simp at h2
   · rw [gU s' hn] at h1;exact ⟨ds,a,b0,h1,h2,h3,h4⟩
  |tmp t=>
   simp only [blk] at hp ⊢
   rcases he t with h1|⟨o,h1,h2⟩
   · rwa [h1] at hp
   · rw [h2] at hp;simp [bR] at hp
 have nI:∀(a:AV) (v:Value),TC w C a v→(∀x,bR a v=some x→x≠b)→TC w C' a v:=fun a v ht hn=>ht.mono fun x hx=>⟨rfl,c1 x (hn x hx)⟩
 refine ⟨⟨⟨by simp [h.mem.len],fun s' x ds h1 h2=> ?_,fun x hx=> ?_,fun s' x ds h1 h0 h2=> ?_,fun s' x ds us ty' fr h1 h2 h3=> ?_⟩,h.sz,fun t=> ?_,fun p q x hp hq=>h.dF p q x (hbk p x hp) (hbk q x hq),fun p x hp=>h.nf p x (hbk p x hp),h.jV,fun t l k xs ht=> ?_⟩,
  ⟨hpre,fun x hx=>⟨rfl,c1 x (fun e=>h.nf _ _ qH (e▸hx))⟩,Nat.le_refl _,rfl,rfl,rfl⟩⟩
 · by_cases hn:s'=s
   · subst hn
     rw [fO] at h1;injection h1 with h1;subst h1
     rw [hb] at h2;injection h2 with h2;subst h2
     exact ⟨vs,ty,hh,by simp,by simp⟩
   · rw [gU s' hn] at h1
     obtain ⟨us,ty',g1,g2,g3⟩:=h.mem.obj s' x ds h1 h2
     refine ⟨us,ty',g1,g2,fun i a hi=>⟨(g3 i a hi).1.mono hpre _ (fun _ _ h=>h),nI _ _ (g3 i a hi).2 fun y hy e=> ?_⟩⟩
     subst e
     obtain ⟨v,hv, -, -⟩:=cellAt h.mem h1 hi h2
     have Hh:v=us.getD i undef:=by
      have hlt:i<us.size:=Nat.lt_of_lt_of_le (List.getElem?_eq_some_iff.1 hi).1 g2
      rw [dc g1,Array.getElem?_eq_getElem hlt] at hv
      simp [Array.getD_eq_getD_getElem?,Array.getElem?_eq_getElem hlt,Option.some.inj hv]
     have:blk γ e ah ts w (.cell s' i) y:=⟨ds,a,x,h1,hi,h2,by rw [hv,Hh];exact hy⟩
     have:=h.dF _ _ _ this qH
     cases this
 · by_cases KD:x=b
   · subst KD;exact ⟨vs,ty.1,ty.2,hh,by rw [c0];exact List.prefix_refl _⟩
   · rw [c1 x KD] at hx ⊢;exact h.mem.tN x hx
 · have hn:s'≠s:=by
    rintro rfl
    rw [fO] at h1;injection h1 with h1;exact h0 h1.symm
   rw [gU s' hn] at h1
   rw [c1 x (fun e=>hn (tR s' (e▸h2)))]
   exact h.mem.pG s' x ds h1 h0 h2
 · by_cases hn:s'=s
   · subst hn
     rw [fO] at h1;injection h1 with h1;subst h1
     intro i hi;simp at hi
   · rw [gU s' hn] at h1
     exact h.mem.Bj s' x ds us ty' fr h1 h2 h3
 · rcases he t with h1|⟨o,h1,h2⟩
   · rw [h1]
     refine ⟨(h.env t).1.mono hpre _ (fun _ _ h=>h),nI _ _ (h.env t).2 fun y hy e=> ?_⟩
     subst e
     have:=h.dF (.tmp t) (.obj s) y hy qH
     cases this
   · have hv:=(h.env t).1
     rw [h1] at hv
     obtain ⟨b',hb',hv⟩:=hv.gK
     rw [hb] at hb';injection hb' with hb';subst hb'
     rw [h2,hv]
     refine ⟨?_,by trivial⟩
     have hep:=VR.ep (C:=C') γ (.agg ds) o b 0 (by rw [c0];simpa [AV.cells,hw.len] using hsz) (fun j a hj=>by
      have hj2:ds[j]? =some a:=hj
      have hjl:j<cs.length:=by rw [←hw.len];exact (List.getElem?_eq_some_iff.1 hj2).1
      have hj':cs[j]? =some cs[j]:=List.getElem?_eq_getElem hjl
      have:=(Wk.iP (hw.get j _ _ hj' hj2)).vr ((hcell j _ hj').1.mono hpre γ (fun _ _ h=>h))
      rw [c0,Nat.zero_add]
      have e1:vs.toList.getD j undef=vs.getD j undef:=by simp [List.getD_eq_getElem?_getD,Array.getD_eq_getD_getElem?]
      rw [e1];exact this)
     rwa [Nat.zero_add] at hep
 · rcases he t with h1|⟨o,h1,h2⟩
   · have hf:=h.fr t l k xs (by rw [←h1];exact ht)
     cases l with
     |tmp u=>
      refine ⟨hf.1,fun hu=>hf.2 ?_⟩
      rcases he u with g1|⟨o,g1,g2⟩
      · rwa [g1] at hu
      · rw [g2] at hu;cases hu
     |cell s' o=>
      intro ds a x g1 g2 g3 g4
      by_cases hn:s'=s
      · subst hn;rw [fO] at g1;injection g1 with g1;subst g1;simp at g2
      · rw [gU s' hn] at g1;exact hf ds a x g1 g2 g3 g4
   · rw [h2] at ht;cases ht
theorem AW.freeze {c:Code} {s:Nat} {cs ds:List AV} (hs:ah[s]? =some cs) (hne:cs≠[]) (hw:cv cs ds)
 (he:∀t,get e' t=get e t∨∃o,get e t= .ptr s o∧get e' t= .ep (.agg ds) o) (h:AW P L N n0 c Q e' (ah.set s [])):AW P L N n0 c Q e ah:=by
 intro F γ C ts w kP hn
 obtain ⟨C',h1,h2⟩:=kP.freeze hs hne hw he
 refine wp_mono (h F γ C' ts w h1 hn) ?_
 rintro x a w' ⟨q1,q2,e2,qI,γ2,C2,q3,q4,q5,q6⟩
 exact ⟨q1,q2,e2,qI,γ2,C2,q3,q4,q5,h2.trans q6⟩
inductive FZ (s:Nat) (cs:List AV):Env→Env→Prop
 |nil:FZ s cs [] []
 |same (i:Nat) (a:AV) (r r':Env):FZ s cs r r'→FZ s cs ((i,a)::r) ((i,a)::r')
 |ep (i o:Nat) (r r':Env):FZ s cs r r'→FZ s cs ((i, .ptr s o)::r) ((i, .ep (.agg cs) o)::r')
theorem FZ.get {s:Nat} {cs:List AV} {e e':Env} (h:FZ s cs e e') (t:Nat):Am.get e' t=Am.get e t∨∃o,Am.get e t= .ptr s o∧Am.get e' t= .ep (.agg cs) o:=by
 induction h with
 |nil=>exact .inl rfl
 |same i a r r' _ ih=>
  simp only [Am.get]
  by_cases hi:i=t
  · simp [hi]
  · simpa [hi] using ih
 |ep i o r r' _ ih=>
  simp only [Am.get]
  by_cases hi:i=t
  · exact .inr ⟨o,by simp [hi],by simp [hi]⟩
  · simpa [hi] using ih
theorem AX.freeze {c:aD} {s:Nat} {cs ds:List AV} (hs:ah[s]? =some cs) (hw:cv cs ds) (hne:cs≠[]) (he:FZ s ds e e') (h:AX P L N n0 c K e' (ah.set s [])):AX P L N n0 c K e ah:=
 fun c' cj=>AW.freeze hs hne hw he.get (h c' cj)
end
end Go.Am
end
