import Derived.Test.YtboghagbiokafaaGreatDoorM1
import Derived.Scope
import Derived.Lib.SlBytesConst
import Derived.OrdersHeld
set_option linter.unusedSimpArgs false
set_option linter.unusedVariables false
set_option linter.unusedSectionVars false
set_option linter.defProp false
section
namespace Go.Am
open Go
variable [Tabs]
section
variable {P:Program} {L:List Nat} {N:Nat} {F:Nat→Prop} {γ:List Nat} {C C':Nat→List Value} {e:Env} {ah:AH} {ts:Array Value} {ds:List Deferred} {w w':World} {m:Bool}
variable {e':Env} {aH:AH}
def fH.n5:fH→Bool
 | .call _ _=>true
 | .k7 _ _ _ _=>true
 | .nq _ _=>true
 |_=>false
theorem Lq {o:Oper} {op:fH} (h:SR L N F γ C e ah ts w) (hd:∀x,o.dst=some x→x<N) (hc:cop P o=some op) (eN:op.n5=false)
 (hm:m=true∨((∀x n,op≠ .ld x n)∧∀x,op≠ .jt .bs x))
 (hev:bL L ⟨o.dst,op,none⟩ e ah=some (e',aH)):bt m P L N F γ C o ts ds w e' aH:=by
 obtain ⟨d,o,ty,pos,af,g⟩:=o
 simp only at hd hev
 cases o with
 |move x=>
  simp only [cop,Option.map_eq_some_iff] at hc
  obtain ⟨a,ha,rfl⟩:=hc
  simp only [bL,Option.some.injEq,Prod.mk.injEq] at hev
  obtain ⟨rfl,rfl⟩:=hev
  exact Y3 h hd ha
 |assign x=>
  simp only [cop,Option.map_eq_some_iff] at hc
  obtain ⟨a,ha,rfl⟩:=hc
  exact VQ h hd ha hev
 |pick c a b=>
  simp only [cop] at hc
  split at hc
  · rename_i c' a' b' h1 h2 h3
    injection hc with hc;subst hc
    exact R1 h hd h1 h2 h3 hev
  · cases hc
 |alloc t=>
  simp only [cop,Option.map_eq_some_iff] at hc
  obtain ⟨a,ha,rfl⟩:=hc
  exact ON h hd ha hev
 |box t x=>
  simp only [cop,Option.map_eq_some_iff] at hc
  obtain ⟨a,ha,rfl⟩:=hc
  exact Wd h hd ha hev
 |build t parts=>
  simp only [cop] at hc
  split at hc
  case h_3=>cases hc
  case h_2=>
   rename_i mm el hu
   split at hc
   case h_2=>cases hc
   rename_i z ps hz hp
   split at hc
   case isFalse=>cases hc
   rename_i hall
   split at hc
   · rename_i iW
     simp only [Option.map_eq_some_iff] at hc
     obtain ⟨z',hz',rfl⟩:=hc
     refine DC h hd hu hz hp hall ?_
     rw [←hev]
     simp only [bL]
     rw [I8 e ps z iW,hz']
     rfl
   · injection hc with hc;subst hc
     exact DC h hd hu hz hp hall hev
  rename_i fs hu
  split at hc
  case h_2=>cases hc
  rename_i z ps hz hp
  split at hc
  case isFalse=>cases hc
  rename_i hall
  injection hc with hc;subst hc
  exact OT h hd hu hz hp hall hev
 |buildSlice t n parts=>
  simp only [cop] at hc
  split at hc
  case h_2=>cases hc
  rename_i el hel
  split at hc
  case isFalse=>cases hc
  rename_i hh
  obtain ⟨h1,h2,h3⟩:=hh
  simp only [Option.map_eq_some_iff] at hc
  obtain ⟨zq,ha,rfl⟩:=hc
  refine Wl h hd ?_ h1 h2 h3 ha hev
  unfold E8 at hel
  split at hel
  · rename_i e hu;injection hel with hel;subst hel;exact hu
  · cases hel
 |load t x=>
  simp only [cop] at hc
  split at hc
  case isFalse=>cases hc
  rename_i ht
  simp only [Option.map_eq_some_iff] at hc
  obtain ⟨a,ha,rfl⟩:=hc
  obtain rfl:m=true:=hm.resolve_right (fun h=>h.1 _ _ rfl)
  exact Y5 h hd ha ht hev
 |store t a x=>
  simp only [cop] at hc
  split at hc
  case h_2=>cases hc
  rename_i a' x' ha hx
  split at hc
  case isFalse=>cases hc
  rename_i ht
  simp only [Bool.and_eq_true,Option.isNone_iff_eq_none] at ht
  obtain ⟨ht,rfl⟩:=ht
  injection hc with hc;subst hc
  exact Ze h ha hx ht hev
 |nilCheck x=>
  simp only [cop,Option.map_eq_some_iff] at hc
  obtain ⟨a,ha,rfl⟩:=hc
  exact VS h hd ha hev
 |fieldAddr t x f=>
  simp only [cop] at hc
  split at hc
  case h_2=>cases hc
  rename_i x' fd hx hf
  split at hc
  case isTrue=>cases hc
  rename_i hs
  injection hc with hc;subst hc
  exact VT h hd hx hf hs hev
 |field t x f=>
  simp only [cop] at hc
  split at hc
  case h_2=>cases hc
  rename_i x' fd hx hf
  split at hc
  case isFalse=>cases hc
  rename_i hs
  injection hc with hc;subst hc
  exact R3 h hd hx hf hs hev
 |binOp Wn t x y oL=>
  simp only [cop] at hc
  split at hc
  case h_3=>cases hc
  case h_2=>
   rename_i x' hx hy
   split at hc
   · rename_i ms hu
     injection hc with hc;subst hc;exact Sh h hd hx hu rfl hev
   · rename_i ms hu
     injection hc with hc;subst hc;exact Sh h hd hx hu rfl hev
   · injection hc with hc;subst hc;cases eN
   · injection hc with hc;subst hc;cases eN
   · cases hc
  rename_i x' y' hx hy
  split at hc
  · rename_i fs hu
    split at hc
    case h_2=>cases hc
    rename_i ks hk
    split at hc
    · injection hc with hc;subst hc;exact NR h hd hx hy hu hk rfl hev
    · injection hc with hc;subst hc;exact NR h hd hx hy hu hk rfl hev
    · cases hc
  · injection hc with hc;subst hc;exact NQ h hd hx hy hev
  · injection hc with hc;subst hc;exact NQ h hd hx hy hev
  · rename_i hu
    split at hc
    · injection hc with hc;subst hc;exact R4 h hd hx hy hu rfl hev
    · injection hc with hc;subst hc;exact R4 h hd hx hy hu rfl hev
    · cases hc
  · rename_i u hu
    split at hc
    · injection hc with hc;subst hc;exact R5 h hd hx hy hu rfl hev
    · injection hc with hc;subst hc;exact R5 h hd hx hy hu rfl hev
    · cases hc
  · cases hc
 |unOp Wn t x=>
  simp only [cop,Option.map_eq_some_iff] at hc
  obtain ⟨a,ha,rfl⟩:=hc
  exact Y6 h hd ha hev
 |convert s t x=>
  simp only [cop] at hc
  split at hc
  case h_2=>cases hc
  rename_i hh x' n6 hx
  injection hc with hc;subst hc
  exact We h hd hx n6 (hm.imp id fun q=>by rintro rfl;exact q.2 _ rfl) hev
 |makeFunc fn first cs=>
  cases fn with
  |func f=>
   simp only [cop] at hc
   split at hc
   case isFalse=>cases hc
   rename_i hf
   simp only [Option.map_eq_some_iff] at hc
   obtain ⟨a,ha,rfl⟩:=hc
   exact V0 h hd hf ha hev
  |_=>simp [cop] at hc
 |slice t x lo hi mx=>
  simp only [cop] at hc
  split at hc
  case h_2=>cases hc
  rename_i x' lo' hi' Y9 hx hlo hhi OM
  split at hc
  · rename_i hu
    split at hc
    · injection hc with hc;subst hc
      have:mx=none:=by
       cases mx with
       |none=>rfl
       |some y=>simp only [oI] at OM;cases hy:bA y<;>rw [hy] at OM<;>simp at OM
      subst this
      exact V9 h hd hx hlo hhi hu hev
    · cases hc
  · rename_i el hu
    split at hc
    case isFalse=>cases hc
    rename_i ht
    injection hc with hc;subst hc
    exact Wa h hd hx hlo hhi OM hu ht hev
  · cases hc
 |indexAddr t x i=>
  simp only [cop] at hc
  split at hc
  case h_3=>cases hc
  case h_2=>
   rename_i x' i' hel hx hi
   split at hc
   case h_2=>cases hc
   rename_i mm el hu
   split at hc
   case isFalse=>cases hc
   rename_i ht
   injection hc with hc;subst hc
   exact V6 h hd hx hi hu ht hev
  rename_i el x' i' hel hx hi
  split at hc
  case isFalse=>cases hc
  rename_i ht
  injection hc with hc;subst hc
  unfold E8 at hel
  split at hel
  · rename_i e hu;injection hel with hel;subst hel;exact V5 h hd hx hi hu ht hev
  · cases hel
 |index t x i=>
  simp only [cop] at hc
  split at hc
  case h_2=>cases hc
  rename_i x' i' hu hx hi
  injection hc with hc;subst hc
  exact V4 h hd hx hi hu hev
 |extract x i=>
  simp only [cop,Option.map_eq_some_iff] at hc
  obtain ⟨a,ha,rfl⟩:=hc
  exact V1 h hd ha hev
 |call c=>
  obtain ⟨callee,args,argTypes⟩:=c
  simp only [cop] at hc
  split at hc
  · rename_i x t h1 h2
    have e1:args= #[x]:=by rw [←Array.toArray_toList (xs:=args),h1]
    have e2:argTypes= #[t]:=by rw [←Array.toArray_toList (xs:=argTypes),h2]
    subst e1;subst e2
    split at hc
    · rename_i x' hu hx;injection hc with hc;subst hc;exact R6 h hd hx hu hev
    · rename_i s x' hu hx;injection hc with hc;subst hc;exact V3 h hd hx hu hev
    · cases hc
  · rename_i x y t u h1 h2
    have e1:args= #[x,y]:=by rw [←Array.toArray_toList (xs:=args),h1]
    have e2:argTypes= #[t,u]:=by rw [←Array.toArray_toList (xs:=argTypes),h2]
    subst e1;subst e2
    split at hc
    case h_2=>cases hc
    rename_i x' y' _ _ hx hy
    split at hc
    case isFalse=>cases hc
    rename_i htu
    injection hc with hc;subst hc
    obtain ⟨rfl, -⟩:=htu
    exact Si (mx:=true) h hd hx hy hev
  · rename_i x y t u h1 h2
    have e1:args= #[x,y]:=by rw [←Array.toArray_toList (xs:=args),h1]
    have e2:argTypes= #[t,u]:=by rw [←Array.toArray_toList (xs:=argTypes),h2]
    subst e1;subst e2
    split at hc
    case h_2=>cases hc
    rename_i x' y' _ _ hx hy
    split at hc
    case isFalse=>cases hc
    rename_i htu
    injection hc with hc;subst hc
    obtain ⟨rfl, -⟩:=htu
    exact Si (mx:=false) h hd hx hy hev
  · rename_i x y t u h1 h2
    have e1:args= #[x,y]:=by rw [←Array.toArray_toList (xs:=args),h1]
    have e2:argTypes= #[t,u]:=by rw [←Array.toArray_toList (xs:=argTypes),h2]
    subst e1;subst e2
    split at hc
    case h_2=>cases hc
    rename_i el x' hel hx
    have ht:P.underlying t=some (.slice el):=by
     unfold E8 at hel
     split at hel
     · rename_i e hu;injection hel with hel;subst hel;exact hu
     · cases hel
    split at hc
    · rename_i s y' hu hy
      split at hc
      case isFalse=>cases hc
      rename_i hz
      injection hc with hc;subst hc
      exact Wi h hd hx hy ht hu hz hev
    · rename_i y' hu hy
      split at hc
      case isFalse=>cases hc
      rename_i hz
      injection hc with hc;subst hc
      exact Sl h hd hx hy ht hu hz.2 hz.1 hev
    · cases hc
  · split at hc
    · injection hc with hc;subst hc;cases eN
    · cases hc
  · cases hc
 |_=>simp [cop] at hc
theorem Wo {o:Oper} {op:fH} (h:SR L N F γ C e ah ts w) (hd:∀x,o.dst=some x→x<N) (hc:ew P m o=some op) (eN:op.n5=false)
 (hev:bL L ⟨o.dst,op,none⟩ e ah=some (e',aH)):bt m P L N F γ C o ts ds w e' aH:=by
 cases m with
 |true=>exact Lq h hd (by simpa [ew] using hc) eN (.inl rfl) hev
 |false=>
  simp only [ew,Bool.false_eq_true,if_false,Option.map_eq_some_iff] at hc
  obtain ⟨op',ho,rfl⟩:=hc
  by_cases CB:∃x,op'= .jt .bs x
  · obtain ⟨x,rfl⟩:=CB
    obtain ⟨d,oo,ty,pos,af,g⟩:=o
    cases oo with
    |convert s t y=>
     simp only [cop] at ho
     split at ho
     case h_2=>cases ho
     rename_i hh x' n6 hx
     injection ho with ho
     injection ho with e1 e2
     subst e1;subst e2
     exact Se h hd hx n6 hev
    |makeFunc fn first cs=>
     cases fn with
     |func f=>simp only [cop] at ho;split at ho<;>simp at ho
     |_=>simp [cop] at ho
    |_=>
     exfalso
     simp only [cop] at ho
     first
      |cases ho;done
      |(simp at ho;done)
      |(repeat' (split at ho))<;>(first|(cases ho;done)|(simp at ho;done))
  by_cases hl:∃x n,op'= .ld x n
  · obtain ⟨x,n,rfl⟩:=hl
    obtain ⟨d,oo,ty,pos,af,g⟩:=o
    cases oo with
    |load t y=>
     simp only [cop] at ho
     split at ho
     case isFalse=>cases ho
     rename_i ht
     simp only [Option.map_eq_some_iff] at ho
     obtain ⟨a,ha,he⟩:=ho
     injection he with e1 e2
     subst e1;subst e2
     exact NP h hd ha ht hev
    |makeFunc fn first cs=>
     cases fn with
     |func f=>simp only [cop] at ho;split at ho<;>simp at ho
     |_=>simp [cop] at ho
    |_=>
     exfalso
     simp only [cop] at ho
     first
      |cases ho;done
      |(simp at ho;done)
      |(repeat' (split at ho))<;>(first|(cases ho;done)|(simp at ho;done))
  · have:op'.Lb=op':=by
     cases op' with
     |ld x n=>exact absurd ⟨_,_,rfl⟩ hl
     |jt hh x=>cases hh<;>first|rfl|exact absurd ⟨_,rfl⟩ CB
     |_=>rfl
    rw [this] at eN hev
    exact Lq h hd ho eN (.inr ⟨fun x n he=>hl ⟨x,n,he⟩,fun x he=>CB ⟨x,he⟩⟩) hev
theorem Sv {o:Oper} {x':Ar} (hc:cop P o=some (.aP x')):∃x,o=⟨o.dst, .assign x,o.type,o.pos,o.after,o.guard⟩∧cX P o.type x=some x':=by
 obtain ⟨d,oo,ty,pos,af,g⟩:=o
 cases oo with
 |assign y=>
  simp only [cop,Option.map_eq_some_iff] at hc
  obtain ⟨a,ha,he⟩:=hc
  injection he with he
  subst he
  exact ⟨y,rfl,ha⟩
 |makeFunc fn first cs=>
  cases fn with
  |func f=>simp only [cop] at hc;split at hc<;>simp at hc
  |_=>simp [cop] at hc
 |_=>
  exfalso
  simp only [cop] at hc
  first
   |cases hc;done
   |(simp at hc;done)
   |(repeat' (split at hc))<;>(first|(cases hc;done)|(simp at hc;done))
theorem DD {o:Oper} {k b:Nat} {x' y':Ar} (hop:cop P o=some (.app k b x' y')):
 ∃x y t u el s,o=⟨o.dst, .call {callee:= .builtin .append,args:= #[x,y],argTypes:= #[t,u]},o.type,o.pos,o.after,o.guard⟩∧cX P t x=some x'∧cX P u y=some y'∧
  P.underlying t=some (.slice el)∧P.underlying u=some (.slice s)∧(zeroOf P el).map List.length=some (cG P el)∧k=cG P el∧b=GC P el:=by
 obtain ⟨d,oo,ty,pos,af,g⟩:=o
 cases oo with
 |call c=>
  obtain ⟨callee,args,argTypes⟩:=c
  simp only [cop] at hop
  split at hop
  · split at hop<;>simp at hop
  · split at hop
    · split at hop<;>simp at hop
    · cases hop
  · split at hop
    · split at hop<;>simp at hop
    · cases hop
  · rename_i x y t u h1 h2
    have e1:args= #[x,y]:=by rw [←Array.toArray_toList (xs:=args),h1]
    have e2:argTypes= #[t,u]:=by rw [←Array.toArray_toList (xs:=argTypes),h2]
    subst e1;subst e2
    split at hop
    case h_2=>cases hop
    rename_i el x2 hel hx
    have ht:P.underlying t=some (.slice el):=by
     unfold E8 at hel
     split at hel
     · rename_i e hu;injection hel with hel;subst hel;exact hu
     · cases hel
    split at hop
    · rename_i s y2 hu hy
      split at hop
      case isFalse=>cases hop
      rename_i hz
      injection hop with hop
      injection hop with q1 q2 q3 q4
      subst q1;subst q2;subst q3;subst q4
      exact ⟨x,y,t,u,el,s,rfl,hx,hy,ht,hu,hz,rfl,rfl⟩
    · split at hop<;>simp at hop
    · cases hop
  · split at hop<;>simp at hop
  · cases hop
 |makeFunc fn first cs=>
  cases fn with
  |func f=>simp only [cop] at hop;split at hop<;>simp at hop
  |_=>simp [cop] at hop
 |_=>
  exfalso
  simp only [cop] at hop
  first
   |cases hop;done
   |(simp at hop;done)
   |(repeat' (split at hop))<;>(first|(cases hop;done)|(simp at hop;done))
theorem NW {o:Oper} {neq:Bool} {x':Ar} (hop:cop P o=some (.nq neq x')):
 ∃op t x oL el,o=⟨o.dst, .binOp op t x (.const (.slice none 0 0)) oL,o.type,o.pos,o.after,o.guard⟩∧bA x=some x'∧P.underlying t=some (.slice el)∧op=if neq then .neq else .eql:=by
 obtain ⟨d,oo,ty,pos,af,g⟩:=o
 cases oo with
 |binOp op t x y oL=>
  simp only [cop] at hop
  split at hop
  case h_3=>cases hop
  case h_2=>
   rename_i x2 hx hy
   split at hop
   · cases hop
   · cases hop
   · rename_i el hu
     injection hop with hop;injection hop with h1 h2;subst h1;subst h2
     exact ⟨_,t,x,oL,el,rfl,hx,hu,rfl⟩
   · rename_i el hu
     injection hop with hop;injection hop with h1 h2;subst h1;subst h2
     exact ⟨_,t,x,oL,el,rfl,hx,hu,rfl⟩
   · cases hop
  exfalso
  (repeat' (split at hop))<;>(first|(cases hop;done)|(simp at hop;done))
 |makeFunc fn first cs=>
  cases fn with
  |func f=>simp only [cop] at hop;split at hop<;>simp at hop
  |_=>simp [cop] at hop
 |_=>
  exfalso
  simp only [cop] at hop
  first
   |cases hop;done
   |(simp at hop;done)
   |(repeat' (split at hop))<;>(first|(cases hop;done)|(simp at hop;done))
theorem Wp {op:fH} {n:Bool} {x:Ar} (h:op.Lb= .nq n x):op= .nq n x:=by
 cases op with
 |jt hh x=>cases hh<;>cases h
 |ld x n=>cases h
 |_=>exact h
theorem Sw {op:fH} {k b:Nat} {x y:Ar} (h:op.Lb= .app k b x y):op= .app k b x y:=by
 cases op with
 |jt hh x=>cases hh<;>cases h
 |ld x n=>cases h
 |_=>exact h
theorem Sx {op:fH} {x:Ar} (h:op.Lb= .aP x):op= .aP x:=by
 cases op with
 |jt hh x=>cases hh<;>cases h
 |ld x n=>cases h
 |_=>exact h
theorem Bi {o:Oper} {k b:Nat} {x y:Ar} (hc:ew P m o=some (.app k b x y)):cop P o=some (.app k b x y):=by
 cases m with
 |true=>simpa [ew] using hc
 |false=>
  simp only [ew,Bool.false_eq_true,if_false,Option.map_eq_some_iff] at hc
  obtain ⟨op',ho,hE⟩:=hc
  rw [ho,Sw hE]
theorem OW {o:Oper} {x:Ar} (hc:ew P m o=some (.aP x)):cop P o=some (.aP x):=by
 cases m with
 |true=>simpa [ew] using hc
 |false=>
  simp only [ew,Bool.false_eq_true,if_false,Option.map_eq_some_iff] at hc
  obtain ⟨op',ho,hE⟩:=hc
  rw [ho,Sx hE]
theorem I9 {o:Oper} {n:Bool} {x:Ar} (hc:ew P m o=some (.nq n x)):cop P o=some (.nq n x):=by
 cases m with
 |true=>simpa [ew] using hc
 |false=>
  simp only [ew,Bool.false_eq_true,if_false,Option.map_eq_some_iff] at hc
  obtain ⟨op',ho,hE⟩:=hc
  rw [ho,Wp hE]
theorem GX {o:Oper} {n:Bool} {x:Ar} {K:Env→AH→Prop} (h:SR L N F γ C e ah ts w) (hd:∀x,o.dst=some x→x<N) (hc:ew P m o=some (fH.er (.nq n x)))
 (hk:Dp L o.dst n x e ah K):∃e' aH,K e' aH∧bt m P L N F γ C o ts ds w e' aH:=by
 obtain ⟨op,t,x0,oL,el,ho,hx,hu,hop⟩:=NW (I9 hc)
 rw [ho]
 exact Zg (d:=o.dst) h hd hx hu hop hk
theorem Gh {o:Oper} {k b:Nat} {x y:Ar} {K:Env→AH→Prop} (h:SR L N F γ C e ah ts w) (hd:∀x,o.dst=some x→x<N) (hc:ew P m o=some (fH.er (.k7 k b x y)))
 (hk:oH L o.dst k b x y e ah K):∃e' aH,K e' aH∧bt m P L N F γ C o ts ds w e' aH:=by
 obtain ⟨x0,y0,t,u,el,s,ho,hx,hy,ht,hu,hz,rfl,rfl⟩:=DD (Bi hc)
 rw [ho]
 exact Sr (d:=o.dst) h hd hx hy ht hu hz hk
theorem Ja {o:Oper} {k:Nat} {x:Ar} (h:SR L N F γ C e ah ts w) (hd:∀x,o.dst=some x→x<N) (hc:ew P m o=some (fH.er (.Be k x)))
 (hev:bL L ⟨o.dst, .Be k x,none⟩ e ah=some (e',aH)):bt m P L N F γ C o ts ds w e' aH:=by
 obtain ⟨x0,ho,hx⟩:=Sv (OW hc)
 rw [ho]
 exact V7 (d:=o.dst) h hd hx hev
theorem Gi {op:fH} {f:Ar} {zq:List Ar} (h:op.Lb= .call f zq):op= .call f zq:=by
 cases op with
 |jt hh x=>cases hh<;>cases h
 |ld x n=>cases h
 |_=>exact h
theorem abD {op:fH} {f:Ar} {zq:List Ar} (h:op.er= .call f zq):op= .call f zq:=by
 cases op with
 |qT x=>cases h
 |k7=>cases h
 |Be=>cases h
 |_=>exact h
theorem GY {o:Oper} {op:fH} (h:SR L N F γ C e ah ts w) (hd:∀x,o.dst=some x→x<N) (hc:cop P o=some op.er) (eN:op.n5=false)
 (hev:bL L ⟨o.dst,op,none⟩ e ah=some (e',aH)):bt true P L N F γ C o ts ds w e' aH:=by
 by_cases hx:∃x,op= .qT x
 · obtain ⟨x,rfl⟩:=hx
   obtain ⟨d,oo,ty,pos,af,g⟩:=o
   have hc:cop P ⟨d,oo,ty,pos,af,g⟩=some (.jt .sb x):=hc
   cases oo with
   |convert s t y=>
    simp only [cop] at hc
    split at hc
    case h_2=>cases hc
    rename_i hh x' n6 hx
    injection hc with hc
    injection hc with e1 e2
    subst e1;subst e2
    exact Sf h hd hx n6 hev
   |makeFunc fn first cs=>
    cases fn with
    |func f=>simp only [cop] at hc;split at hc<;>simp at hc
    |_=>simp [cop] at hc
   |_=>
    exfalso
    simp only [cop] at hc
    first
     |cases hc;done
     |(simp at hc;done)
     |(repeat' (split at hc))<;>(first|(cases hc;done)|(simp at hc;done))
 · by_cases hy:∃k x,op= .Be k x
   · obtain ⟨k,x,rfl⟩:=hy
     exact Ja (m:=true) h hd (by simpa [ew] using hc) hev
   have:op.er=op:=by
    cases op<;>first|rfl|exact absurd ⟨_,rfl⟩ hx|exact absurd ⟨_,_,rfl⟩ hy|cases eN|rfl
   rw [this] at hc
   exact Lq h hd hc eN (.inl rfl) hev
theorem Jb {o:Oper} {op:fH} (h:SR L N F γ C e ah ts w) (hd:∀x,o.dst=some x→x<N) (hc:ew P m o=some op.er) (eN:op.n5=false)
 (hev:bL L ⟨o.dst,op,none⟩ e ah=some (e',aH)):bt m P L N F γ C o ts ds w e' aH:=by
 cases m with
 |true=>exact GY h hd (by simpa [ew] using hc) eN hev
 |false=>
  by_cases hx:∃x,op= .qT x
  · obtain ⟨x,rfl⟩:=hx
    simp only [ew,Bool.false_eq_true,if_false,Option.map_eq_some_iff] at hc
    obtain ⟨op',ho,hE⟩:=hc
    have hE:op'.Lb= .jt .sb x:=hE
    have:op'= .jt .sb x:=by
     cases op' with
     |jt hh y=>cases hh<;>first|exact hE|cases hE
     |ld y n=>cases hE
     |_=>exact hE
    subst this
    obtain ⟨v,w',γ',C',h1,h2,h3,h4,h5,h6⟩:=GY (op:= .qT x) (ds:=ds) h hd ho rfl hev
    refine ⟨v,w',γ',C',h1,h2,h3,h4,h5,fun hq=> ?_⟩
    exfalso
    obtain ⟨d,oo,ty,pos,af,g⟩:=o
    cases oo with
    |convert s t y=>
     simp only [cop] at ho
     split at ho
     case h_2=>cases ho
     rename_i hh x' n6 hx
     injection ho with ho
     injection ho with e1 e2
     subst e1
     unfold GG at n6
     split at n6
     · cases n6
     · cases n6
     · rename_i el hs ht
       simp [eo,ht] at hq
     · split at n6
       · split at n6<;>cases n6
       · cases n6
     · cases n6
    |makeFunc fn first cs=>
     cases fn with
     |func f=>simp only [cop] at ho;split at ho<;>simp at ho
     |_=>simp [cop] at ho
    |_=>
     simp only [cop] at ho
     first
      |cases ho;done
      |(simp at ho;done)
      |(repeat' (split at ho))<;>(first|(cases ho;done)|(simp at ho;done))
  · by_cases hy:∃k x,op= .Be k x
    · obtain ⟨k,x,rfl⟩:=hy
      exact Ja h hd hc hev
    have:op.er=op:=by
     cases op<;>first|rfl|exact absurd ⟨_,rfl⟩ hx|exact absurd ⟨_,_,rfl⟩ hy|cases eN|rfl
    rw [this] at hc
    exact Wo h hd hc eN hev
theorem wD (L:List Nat) (d:Option Nat) (op:fH) (g:Option (Nat×Bool)) (e:Env) (ah:AH):bL L ⟨d,op,g⟩ e ah=bL L ⟨d,op,none⟩ e ah:=by
 cases op<;>rfl
def iX (P:Program) (f:Nat):Bool:=match P.funcs[f]? with
 |some fn=>fn.body.isSome&&fn.name != "runtime.NumGoroutine"
 |none=>false
def eS:Nat→List AV→Env
 |_,[]=>[]
 |i,a::r=>(i,a)::eS (i+1) r
theorem eC:∀(l:List AV) (i t:Nat),get (eS i l) t=if i≤t then (l[t - i]?).getD .un else .un:=by
 intro l
 induction l with
 |nil=>intro i t;simp [eS,get]
 |cons a r ih=>
  intro i t
  simp only [eS,get]
  by_cases h:i=t
  · subst h;simp
  · rw [if_neg h,ih]
    by_cases h1:i≤t
    · obtain ⟨q,hq⟩:∃q,t - i=q+1:=⟨t - i - 1,by omega⟩
      rw [if_pos h1,if_pos (by omega),hq,show t - (i+1)=q by omega];simp
    · rw [if_neg h1,if_neg (by omega)]
def aG (P:Program) (f:Nat) (args:List AV) (ah:AH) (R:AV→AH→Prop):Prop:=
 iX P f=true∧∀(F:Nat→Prop) (γ:List Nat) (C:Nat→List Value) (w:World) (vs:Array Value),SR [] args.length F γ C (eS 0 args) ah vs w→
  Calls P f vs w fun en w'=>∃r v aH γ' C',en= .returned v∧R r aH∧γ <+: γ'∧SR [] 1 F γ' C' [(0,r)] aH #[v] w'∧Ext F C w C' w'
theorem aG.mono {f:Nat} {args:List AV} {ah:AH} {R R':AV→AH→Prop} (h:aG P f args ah R) (hr:∀r aH,R r aH→R' r aH):aG P f args ah R':=
 ⟨h.1,fun F γ C w vs hs=>(h.2 F γ C w vs hs).mono fun _ _ ⟨r,v,aH,γ',C',h1,h2,h3⟩=>⟨r,v,aH,γ',C',h1,hr _ _ h2,h3⟩⟩
def AV.iE:AV→AV
 | .sl (.fr (.cell _ _)) k xs=> .sl .n k xs
 |a=>a
def wE:Env→Env
 |[]=>[]
 |(i,a)::r=>(i,a.iE)::wE r
theorem z7 (e:Env) (t:Nat):get (wE e) t=(get e t).iE:=by
 induction e with
 |nil=>rfl
 |cons p r ih=>
  obtain ⟨i,b⟩:=p
  simp only [wE,get]
  by_cases h:i=t<;>simp [h,ih]
theorem Wk.iE (a:AV):Wk a a.iE:=by
 cases a with
 |sl t k xs=>
  cases t with
  |fr m=>cases m<;>first|exact .n .. |exact .same _
  |_=>exact .same _
 |_=>exact .same _
theorem Sy (a:AV):a.iE.bQ=a.bQ:=by
 cases a with
 |sl t k xs=>
  cases t with
  |fr m=>cases m<;>rfl
  |_=>rfl
 |_=>rfl
theorem OX (a:AV) (v:Value):bS a.iE v=bS a v:=by
 cases a with
 |sl t k xs=>
  cases t with
  |fr m=>cases m<;>simp [AV.iE,bS]
  |_=>rfl
 |_=>rfl
theorem Wq {a:AV} {l:Loc} {k:Nat} {xs:List AV} (h:a.iE= .sl (.fr l) k xs):a= .sl (.fr l) k xs∧∃t,l= .tmp t:=by
 cases a with
 |sl t k' xs'=>
  cases t with
  |fr m=>cases m with
   |tmp u=>simp only [AV.iE] at h;exact ⟨h,u,by injection h with h;injection h with h;exact h.symm⟩
   |cell s o=>simp [AV.iE] at h
  |_=>simp [AV.iE] at h
 |_=>simp [AV.iE] at h
theorem Jc {f:Nat} {zq:List AV} {vs:Array Value} {R:AV→AH→Prop} {d:Option Nat} (h:SR L N F γ C e ah ts w) (hd:∀x,d=some x→x<N) (hac:aG P f zq ah R)
 (hlen:vs.size=zq.length) (has:∀(i:Nat) (a:AV),zq[i]? =some a→VR C γ a (vs.getD i undef)∧TC w C a (vs.getD i undef)∧a.plain=true):
 Calls P f vs w fun en w'=>∃r v aH γ' C',en= .returned v∧R r aH∧γ <+: γ'∧SR L N F γ' C' (Am.aI L (wE e) d r.df) aH (Act.put ⟨ts,ds⟩ d v).tmps w'∧Ext F C w C' w':=by
 let F':Nat→Prop:=fun b=>F b∨∃t,blk γ e ah ts w (.tmp t) b
 have OY:∀t,get (eS 0 zq) t=(zq[t]?).getD .un:=fun t=>by rw [eC];simp
 have hnot:∀t,(get (eS 0 zq) t).bQ=false:=by
  intro t
  rw [OY]
  cases ht:zq[t]? with
  |none=>rfl
  |some a=>exact gH (has t a ht).2.2
 have hsub:∀p b,blk γ (eS 0 zq) ah vs w p b→blk γ e ah ts w p b∧∀t,p≠ .tmp t:=by
  intro p b hp
  cases p with
  |obj s=>exact ⟨hp,by simp⟩
  |cell s i=>exact ⟨hp,by simp⟩
  |tmp t=>simp only [blk] at hp;rw [ic _ (hnot t)] at hp;cases hp
 have hs:SR [] zq.length F' γ C (eS 0 zq) ah vs w:=by
  refine ⟨h.mem,hlen,fun t=> ?_,fun p q b hp hq=>h.ey p q b (hsub p b hp).1 (hsub q b hq).1,fun p b hp=> ?_,⟨fun b hb=> ?_,fun e he=>by obtain ⟨h1,h2⟩:=h.j9.IU e he;exact ⟨.inl h1,h2⟩⟩,fun t l k xs ht=> ?_⟩
  · rw [OY]
    cases ht:zq[t]? with
    |none=>exact ⟨.un ..,by cases vs.getD t undef<;>trivial⟩
    |some a=>exact ⟨(has t a ht).1,(has t a ht).2.1⟩
  · rintro (hF|⟨t,ht⟩)
    · exact h.nf p b (hsub p b hp).1 hF
    · exact (hsub p b hp).2 t (h.ey p (.tmp t) b (hsub p b hp).1 ht)
  · rcases hb with hF|⟨t,ht⟩
    · exact h.j9.lt b hF
    · exact gf h ht
  · rw [OY] at ht
    cases hq:zq[t]? with
    |none=>rw [hq] at ht;simp at ht
    |some a=>rw [hq] at ht;exact absurd ht (xB (has t a hq).2.2 l k xs)
 refine (hac.2 F' γ C w vs hs).mono ?_
 rintro en w' ⟨r,v,aH,γ',C',rfl,hR,hγ,ko,hx⟩
 refine ⟨r,v,aH,γ',C',rfl,hR,hγ, ?_,⟨hx.pre,fun b hb=>hx.keep b (.inl hb),hx.size,hx.out⟩⟩
 have hg:∀(s b:Nat),γ[s]? =some b→γ'[s]? =some b:=by
  intro s b hs
  obtain ⟨q,rfl⟩:=hγ
  rw [List.getElem?_append_left (List.getElem?_eq_some_iff.1 hs).1];exact hs
 have hown:∀t b,bS (get e t) (ts.getD t undef)=some b→F' b:=fun t b hb=> .inr ⟨t,hb⟩
 have hbk:∀p b,blk γ' (wE e) aH ts w' p b→(∃t,p= .tmp t∧blk γ e ah ts w (.tmp t) b)∨((∀t,p≠ .tmp t)∧blk γ' [(0,r)] aH #[v] w' p b):=by
  intro p b hp
  cases p with
  |obj s=>exact .inr ⟨by simp,hp⟩
  |cell s i=>exact .inr ⟨by simp,hp⟩
  |tmp t=>simp only [blk,z7,OX] at hp;exact .inl ⟨t,rfl,hp⟩
 have h2:SR L N F γ' C' (wE e) aH ts w':=by
  refine ⟨ko.mem,h.sz,fun t=> ?_,fun p q b hp hq=> ?_,fun p b hp=> ?_,h.j9.keep hx.size (fun b hb=>(hx.keep b (.inl hb)).1),fun t l k xs ht=> ?_⟩
  · rw [z7]
    refine ⟨(Wk.iE _).vr ((h.env t).1.mono hx.pre _ hg),(Wk.iE _).tc ((h.env t).2.mono fun b hb=> ?_)⟩
    exact hx.keep b (hown t b hb)
  · rcases hbk p b hp with ⟨t,rfl,h1⟩|⟨h1,h2⟩<;>rcases hbk q b hq with ⟨u,rfl,h3⟩|⟨h3,h4⟩
    · exact h.ey _ _ b h1 h3
    · exact absurd (hown t b h1) (ko.nf q b h4)
    · exact absurd (hown u b h3) (ko.nf p b h2)
    · exact ko.ey p q b h2 h4
  · rcases hbk p b hp with ⟨t,rfl,h1⟩|⟨h1,h2⟩
    · exact h.nf _ b h1
    · exact fun hF=>ko.nf p b h2 (.inl hF)
  · rw [z7] at ht
    obtain ⟨h1,u,rfl⟩:=Wq ht
    have:=h.fr t _ k xs h1
    exact ⟨this.1,fun hu=>this.2 (by rw [z7,Sy] at hu;exact hu)⟩
 have hr:=ko.env 0
 simp only [get,if_true] at hr
 have hv0:(#[v]:Array Value).getD 0 undef=v:=rfl
 rw [hv0] at hr
 by_cases ho:r.bQ=true
 · cases r with
   |sl t k xs=>
    cases t with
    |own=>
     simp only [AV.df]
     refine h2.th hd hr.1 hr.2 fun b hb=> ?_
     have hb0:blk γ' [(0, .sl .own k xs)] aH #[v] w' (.tmp 0) b:=hb
     refine ⟨fun hF=>ko.nf _ b hb0 (.inl hF),fun p hp=> ?_⟩
     rcases hbk p b hp with ⟨t,rfl,h1⟩|⟨h1,h3⟩
     · exact ko.nf _ b hb0 (hown t b h1)
     · exact h1 0 (ko.ey p (.tmp 0) b h3 hb0)
    |_=>cases ho
   |_=>cases ho
 · have ho':r.bQ=false:=by simpa using ho
   exact h2.aI hd ((Wk.df r).vr hr.1) ((Wk.df r).tc hr.2) (NO ho') (fun l k xs hl=>absurd hl (Lc r l k xs))
end
end Go.Am
end
section
namespace Go.Am
open Go
variable [Tabs]
def z8 (P:Program) (L:List Nat) (o:aL) (e:Env) (ah:AH) (K:Env→AH→Prop):Prop:=
 match o.op with
 | .call f zq=>
   match ev e f with
   | .fn f caps=>aU caps=true∧aG P f (zq.map (fun x=>(ev e x).sh)++caps.map AV.s1) ah fun r aH=>K (aI L (wE e) o.d r.df) aH
   |_=>False
 | .k7 k b x y=>oH L o.d k b x y e ah K
 | .nq n x=>Dp L o.d n x e ah K
 |_=>match bL L o e ah with
  |some (e',aH)=>K e' aH
  |none=>False
def oO (e:Env):Option Nat→Env
 |some d=>put e d (.bB [])
 |none=>e
def ez (P:Program) (L:List Nat):List aL→Env→AH→(Env→AH→Prop)→Prop
 |[],e,ah,K=>K e ah
 |o::r,e,ah,K=>match gj e o with
  |some true=>z8 P L o e ah fun e ah=>ez P L r e ah K
  |some false=>ez P L r (oO e o.d) ah K
  |none=>False
def ke (N:Nat):List aL→Bool
 |[]=>true
 |o::r=>(match o.d with|some d=>decide (d<N)|none=>true)&&(match o.op with| .lit y _=>decide (y<N)|_=>true)&&ke N r
theorem NX (N:Nat):∀zq:List aL,ke N (zq.map aL.er)=ke N zq:=by
 intro zq
 induction zq with
 |nil=>rfl
 |cons o r ih=>
  obtain ⟨d,op,g⟩:=o
  simp only [List.map_cons,ke,ih,aL.er]
  cases op<;>rfl
def NG:Exit→Prop
 | .goto _=>False
 |_=>True
def AW (P:Program) (L:List Nat) (N n0:Nat) (c:Code) (Q:Exit→Env→AH→Prop) (e:Env) (ah:AH):Prop:=
 ∀(F:Nat→Prop) (γ:List Nat) (C:Nat→List Value) (ts:Array Value) (w:World),SR L N F γ C e ah ts w→n0≤γ.length→
  c.wp P (fun x a' w'=>a'.defers=[]∧NG x∧∃e' aH γ' C',Q x e' aH∧γ.take n0 <+: γ'∧SR L N F γ' C' e' aH a'.tmps w'∧Ext F C w C' w') ⟨ts,[]⟩ w
section
variable {P:Program} {L:List Nat} {N n0:Nat} {F:Nat→Prop} {γ:List Nat} {C C':Nat→List Value} {e:Env} {ah:AH} {ts:Array Value} {w w':World}
variable {e':Env} {aH:AH}
theorem Gj {γ γ':List Nat} {n:Nat} (h:γ <+: γ'):γ.take n <+: γ':=(List.take_prefix n γ).trans h
theorem oP {γ γ' γ'':List Nat} {n:Nat} (h0:n≤γ.length) (h:γ.take n <+: γ') (h':γ'.take n <+: γ''):γ.take n <+: γ'':=by
 obtain ⟨r,rfl⟩:=h
 have:(γ.take n++r).take n=γ.take n:=by
  rw [List.take_append_of_le_length (by simp;omega),List.take_take,Nat.min_self]
 rwa [this] at h'
theorem Jd {γ γ':List Nat} {n:Nat} (h0:n≤γ.length) (h:γ.take n <+: γ'):n≤γ'.length:=by
 have:=h.length_le;simp at this;omega
theorem AW.mono {c:Code} {Q Q':Exit→Env→AH→Prop} (h:AW P L N n0 c Q e ah) (hq:∀x e ah,Q x e ah→Q' x e ah):AW P L N n0 c Q' e ah:=
 fun F γ C ts w hs hn=>wp_mono (h F γ C ts w hs hn) fun _ _ _ ⟨hd,hg,e',aH,γ',C',h1,h2⟩=>⟨hd,hg,e',aH,γ',C',hq _ _ _ h1,h2⟩
theorem AW.skip {Q:Exit→Env→AH→Prop} (h:Q .normal e ah):AW P L N n0 .skip Q e ah:=
 fun F γ C ts w hs hn=>wp_skip ⟨rfl,trivial,e,ah,γ,C,h,List.take_prefix _ _,hs,Ext.refl ..⟩
theorem AW.label {Q:Exit→Env→AH→Prop} {l:Nat} (h:Q .normal e ah):AW P L N n0 (.label l) Q e ah:=
 fun F γ C ts w hs hn=>wp_label ⟨rfl,trivial,e,ah,γ,C,h,List.take_prefix _ _,hs,Ext.refl ..⟩
theorem AW.ret {Q:Exit→Env→AH→Prop} (h:Q .ret e ah):AW P L N n0 .ret Q e ah:=
 fun F γ C ts w hs hn=>wp_ret ⟨rfl,trivial,e,ah,γ,C,h,List.take_prefix _ _,hs,Ext.refl ..⟩
theorem AW.exit {Q:Exit→Env→AH→Prop} {i:Nat} (h:Q (.exit i) e ah):AW P L N n0 (.exit i) Q e ah:=
 fun F γ C ts w hs hn=>wp_exit ⟨rfl,trivial,e,ah,γ,C,h,List.take_prefix _ _,hs,Ext.refl ..⟩
theorem AW.seq {a b:Code} {Q:Exit→Env→AH→Prop} (h:AW P L N n0 a (fun x e ah=>match x with| .normal=>AW P L N n0 b Q e ah|x=>Q x e ah) e ah):AW P L N n0 (.seq a b) Q e ah:=by
 intro F γ C ts w hs hn
 refine wp_seq (wp_mono (h F γ C ts w hs hn) ?_)
 rintro x ⟨ts',ds'⟩ w' ⟨rfl,hg,e',aH,γ',C',h1,h2,h3,h4⟩
 cases x with
 |normal=>
  refine wp_mono (h1 F γ' C' ts' w' h3 (Jd hn h2)) ?_
  rintro x ⟨Sz,ds2⟩ w2 ⟨rfl,hg,e2,tq,γ2,C2,g1,g2,g3,g4⟩
  exact ⟨rfl,hg,e2,tq,γ2,C2,g1,oP hn h2 g2,g3,h4.trans g4⟩
 |_=>exact ⟨rfl,hg,e',aH,γ',C',h1,h2,h3,h4⟩
theorem AW.cond {c:Operand} {c':Ar} {a b:Code} {t:Bool} {Q:Exit→Env→AH→Prop} (hc:bA c=some c') (ht:ev e c'= .bool t) (h:AW P L N n0 (if t then a else b) Q e ah):
 AW P L N n0 (.cond c a b) Q e ah:=by
 intro F γ C ts w hs hn
 have:=(bO (ds:=[]) hs hc).1
 rw [ht] at this
 exact wp_cond (t:=t) this.gl (h F γ C ts w hs hn)
theorem AW.blk {c:Code} {i:Nat} {Q:Exit→Env→AH→Prop} (h:AW P L N n0 c (fun x e ah=>match x with| .exit j=>if j=i then Q .normal e ah else Q (.exit j) e ah|x=>Q x e ah) e ah):
 AW P L N n0 (.block i c) Q e ah:=by
 intro F γ C ts w hs hn
 refine wp_block (wp_mono (h F γ C ts w hs hn) ?_)
 rintro x a w' ⟨hd,hg,e',aH,γ',C',h1,h2⟩
 cases x with
 |exit j=>
  simp only [Exit.inBlock] at h1 ⊢
  by_cases hj:j=i
  · rw [if_pos hj] at h1 ⊢;exact ⟨hd,trivial,e',aH,γ',C',h1,h2⟩
  · rw [if_neg hj] at h1 ⊢;exact ⟨hd,trivial,e',aH,γ',C',h1,h2⟩
 |_=>exact ⟨hd,hg,e',aH,γ',C',h1,h2⟩
theorem AW.loop {c:Code} {Q:Exit→Env→AH→Prop} (I:Nat→Env→AH→Prop) {k0:Nat}
 (round:∀k e ah,I k e ah→AW P L N n0 c (fun x e' aH=>match x with| .normal=>∃k',k'<k∧I k' e' aH|x=>Q x e' aH) e ah) (h0:I k0 e ah):AW P L N n0 (.loop c) Q e ah:=by
 intro F γ C ts w hs hn
 refine wp_loop_ghost (fun k a w'=>a.defers=[]∧∃e' aH γ' C',I k e' aH∧γ.take n0 <+: γ'∧SR L N F γ' C' e' aH a.tmps w'∧Ext F C w C' w') k0
  ⟨rfl,e,ah,γ,C,h0,List.take_prefix _ _,hs,Ext.refl ..⟩ ?_
 rintro k ⟨DE,ds1⟩ w1 ⟨rfl,e1,bU,γ1,C1,h1,h2,h3,h4⟩
 refine wp_mono (round k e1 bU h1 F γ1 C1 DE w1 h3 (Jd hn h2)) ?_
 rintro x ⟨Sz,ds2⟩ w2 ⟨rfl,hg,e2,tq,γ2,C2,g1,g2,g3,g4⟩
 cases x with
 |normal=>obtain ⟨k',hk',hI⟩:=g1;exact ⟨k',hk',rfl,e2,tq,γ2,C2,hI,oP hn h2 g2,g3,h4.trans g4⟩
 |_=>exact ⟨rfl,hg,e2,tq,γ2,C2,g1,oP hn h2 g2,g3,h4.trans g4⟩
theorem AW.scope {c:Code} {Q:Exit→Env→AH→Prop} (h:AW P L N n0 c Q e ah):AW P L N n0 (.scope c) Q e ah:=
 fun F γ C ts w hs hn=>wp_scope_straight (wp_mono (h F γ C ts w hs hn) fun x _ _ h=>by cases x<;>first|exact h|exact h.2.1.elim)
theorem AW.weak {c:Code} {Q:Exit→Env→AH→Prop} {e1:Env} (hw:∀t,Wk (get e t) (get e1 t)) (h:AW P L N n0 c Q e1 ah):AW P L N n0 c Q e ah:=
 fun F γ C ts w hs hn=>h F γ C ts w (hs.wk hw) hn
theorem ie {ops:Array Oper} {o:Oper} {g:Option (Nat×Bool)} {d:Option Nat} {op:fH} {b:Bool} (h:SR L N F γ C e ah ts w) (hg:gE ops o.guard=some g) (hb:gj e ⟨d,op,g⟩=some b):
 Region.wanted o (yielded ops ts)=b:=by
 unfold Region.wanted
 cases ho:o.guard with
 |none=>
  rw [ho] at hg
  simp only [gE,Option.some.injEq] at hg
  subst hg
  simp only [gj,Option.some.injEq] at hb
  exact hb
 |some jw=>
  obtain ⟨j,want⟩:=jw
  rw [ho] at hg
  simp only [gE,Option.map_eq_some_iff] at hg
  obtain ⟨t,ht,rfl⟩:=hg
  simp only [gj] at hb
  split at hb
  · rename_i b' he
    have hv:=(h.env t).1
    rw [he] at hv
    have hv:=hv.gl
    have hy:yielded ops ts j=some b':=by
     unfold yielded
     rw [ht]
     simp only [Option.bind_some]
     have:ts[t]? =some (.bool b'):=by
      rw [Array.getD_eq_getD_getElem?] at hv
      cases hq:ts[t]? with
      |none=>rw [hq] at hv;simp [undef] at hv
      |some v=>rw [hq] at hv;simp at hv;rw [hv]
     rw [this]
    simp only [hy]
    simp only [Option.some.injEq] at hb
    rw [←hb]
    simp
  · rename_i he
    have hv:=(h.env t).1
    rw [he] at hv
    obtain ⟨vs,hv, -⟩:=hv.we
    have hy:yielded ops ts j=none:=by
     unfold yielded
     rw [ht]
     simp only [Option.bind_some]
     rw [Array.getD_eq_getD_getElem?] at hv
     cases hq:ts[t]? with
     |none=>rfl
     |some v=>rw [hq] at hv;simp at hv;rw [hv]
    simp only [hy]
    simp only [Option.some.injEq] at hb
    exact hb
  · cases hb
  · cases hb
theorem Gk (h:SR L N F γ C e ah ts w):∀(tys:List TypeId) (l:List Operand) (zq:List Ar),yt P tys l=some zq→zq.length=l.length∧
 ∀(i:Nat) (x:Operand) (a:Ar),l[i]? =some x→zq[i]? =some a→VR C γ (ev e a) (Act.eval ⟨ts,[]⟩ x)∧TC w C (ev e a) (Act.eval ⟨ts,[]⟩ x):=by
 intro tys l
 induction l generalizing tys with
 |nil=>intro zq hc;cases tys<;>(simp [yt] at hc;subst hc;simp)
 |cons x r ih=>
  intro zq hc
  cases tys with
  |nil=>simp [yt] at hc
  |cons t tys=>
   simp only [yt] at hc
   split at hc
   case h_2=>cases hc
   rename_i a zq' ha has
   simp only [Option.some.injEq] at hc
   subst hc
   obtain ⟨h1,h2⟩:=ih tys zq' has
   refine ⟨by simp [h1],fun j y b hy hb=> ?_⟩
   cases j with
   |zero=>simp at hy hb;subst hy;subst hb;exact fC h ha
   |succ j=>exact h2 j y b (by simpa using hy) (by simpa using hb)
theorem DF {f:Nat} (hf:iX P f=true) {d:Option Nat} {x:Operand} {args:Array Operand} {tys:Array TypeId} {ty:TypeId} {pos:String} {af:Array Edge} {g:Option (Nat×Bool)} {caps:Array Value} {ρ:Operand→Value}
 (hx:ρ x= .func (.func f) #[] caps):
 (execOp ρ ⟨d, .call {callee:= .value x,args:=args,argTypes:=tys},ty,pos,af,g⟩).run P w= .ok (.enter f (args.map ρ++caps)) w:=by
 unfold iX at hf
 split at hf
 case h_2=>cases hf
 rename_i fn hfn
 simp only [Bool.and_eq_true,bne_iff_ne] at hf
 obtain ⟨h1,h2⟩:=hf
 have h3:fn.body.isNone=false:=by cases hb:fn.body<;>simp_all
 have h4:(fn.name== "runtime.NumGoroutine")=false:=by simpa using h2
 have h5:fn.body≠none:=by intro h0;rw [h0] at h1;cases h1
 simp [execOp,resolve,Deferred.ofValue,hx,invoke,callFunc,program,Sem.run,hfn,h2,h5]
theorem Bj {o:Oper} {f:Ar} {wF:List Ar} (hop:cop P o=some (.call f wF)):
 ∃x args tys,o=⟨o.dst, .call {callee:= .value x,args:=args,argTypes:=tys},o.type,o.pos,o.after,o.guard⟩∧bA x=some f∧yt P tys.toList args.toList=some wF:=by
 obtain ⟨d,oo,ty,pos,af,gd⟩:=o
 cases oo with
 |call c=>
  obtain ⟨callee,args,tys⟩:=c
  simp only [cop] at hop
  split at hop
  · split at hop<;>simp at hop
  · split at hop
    · split at hop
      · simp at hop
      · cases hop
    · cases hop
  · split at hop
    · split at hop
      · simp at hop
      · cases hop
    · cases hop
  · split at hop
    · split at hop
      · split at hop<;>simp at hop
      · split at hop<;>simp at hop
      · cases hop
    · cases hop
  · rename_i x
    split at hop
    · rename_i f2 as2 h1 h2
      injection hop with hop
      injection hop with e1 e2
      subst e1;subst e2
      exact ⟨x,args,tys,rfl,h1,h2⟩
    · cases hop
  · cases hop
 |makeFunc fn first cs=>
  cases fn with
  |func f=>simp only [cop] at hop;split at hop<;>simp at hop
  |_=>simp [cop] at hop
 |_=>
  exfalso
  simp only [cop] at hop
  first
   |cases hop;done
   |(simp at hop;done)
   |(repeat' (split at hop))<;>(first|(cases hop;done)|(simp at hop;done))
theorem DG (hs:SR L N F γ C e ah ts w) {wF:List Ar} {caps:List AV} {args:Array Operand} {vs:Array Value} (hfl:aU caps=true) (hcl:caps.length=vs.size)
 (n6:∀(i:Nat) (a:AV),caps[i]? =some a→VR C γ a (vs.getD i undef)) (c1:wF.length=args.toList.length)
 (c2:∀(i:Nat) (x:Operand) (a:Ar),args.toList[i]? =some x→wF[i]? =some a→VR C γ (ev e a) (Act.eval ⟨ts,[]⟩ x)∧TC w C (ev e a) (Act.eval ⟨ts,[]⟩ x)):
 ∀(i:Nat) (a:AV),(wF.map (fun x=>(ev e x).sh)++caps.map AV.s1)[i]? =some a→
  VR C γ a ((args.map (Act.eval ⟨ts,[]⟩)++vs).getD i undef)∧TC w C a ((args.map (Act.eval ⟨ts,[]⟩)++vs).getD i undef)∧a.plain=true:=by
 intro i a hi
 by_cases hlt:i<wF.length
 · rw [List.getElem?_append_left (by simpa using hlt),List.getElem?_map,List.getElem?_eq_getElem hlt] at hi
   obtain rfl:(ev e wF[i]).sh=a:=by simpa using hi
   have I5:i<args.toList.length:=by omega
   have:=c2 i _ _ (List.getElem?_eq_getElem I5) (List.getElem?_eq_getElem hlt)
   have hgd:(args.map (Act.eval ⟨ts,[]⟩)++vs).getD i undef=Act.eval ⟨ts,[]⟩ args.toList[i]:=by
    rw [Array.length_toList] at I5
    simp [Array.getD_eq_getD_getElem?,Array.getElem?_append,I5]
   rw [hgd]
   exact ⟨(Wk.sh _).vr this.1,(Wk.sh _).tc this.2,tj _⟩
 · rw [List.getElem?_append_right (by simpa using hlt),List.getElem?_map] at hi
   simp only [List.length_map] at hi
   cases Fg:caps[i - wF.length]? with
   |none=>rw [Fg] at hi;simp at hi
   |some b=>
    rw [Fg] at hi
    obtain rfl:b.s1=a:=by simpa using hi
    have hgd:(args.map (Act.eval ⟨ts,[]⟩)++vs).getD i undef=vs.getD (i - wF.length) undef:=by
     have c1':wF.length=args.size:=by simpa using c1
     simp only [Array.getD_eq_getD_getElem?]
     rw [Array.getElem?_append_right (by simp;omega)]
     simp [c1']
    rw [hgd]
    exact ⟨(Wk.jW (Wk.s1 _)).vr (n6 _ _ Fg),R2 b (iV hfl Fg) _,Gc b⟩
theorem Je {o:Oper} {a:fH} (h:NM P o=some a):cop P o=some a∨a= .bad:=by
 unfold NM at h
 cases hc:cop P o with
 |none=>rw [hc] at h;injection h with h;exact .inr h.symm
 |some b=>rw [hc] at h;exact .inl h
theorem Wr {op:fH} (h:op.er= .bad):op= .bad:=by cases op<;>first|rfl|cases h
theorem Cd {ops:Array Oper} {l:List Oper} {zq:List aL} (h:jy P ops l=some zq):(l=[]∧zq=[])∨
 (∃o o2 r a zq',l=o::o2::r∧lu P o o2=some a∧jy P ops r=some zq'∧zq=a::zq')∨
 (∃o o2 r ag zq',l=o::o2::r∧IQ P ops o o2=some ag∧jy P ops r=some zq'∧zq=ag++zq')∨
 ∃o r op g zq',l=o::r∧(cop P o=some op∨op= .bad)∧gE ops o.guard=some g∧jy P ops r=some zq'∧zq=⟨o.dst,op,g⟩::zq':=by
 cases l with
 |nil=>simp only [jy,Option.some.injEq] at h;exact .inl ⟨rfl,h.symm⟩
 |cons o r=>
  cases r with
  |nil=>
   simp only [jy] at h
   split at h
   case h_2=>cases h
   rename_i a g h1 h2
   injection h with h
   exact .inr (.inr (.inr ⟨o,[],a,g,[],rfl,Je h1,h2,rfl,h.symm⟩))
  |cons o2 r=>
   rw [jy] at h
   split at h
   · rename_i a ha
     simp only [Option.map_eq_some_iff] at h
     obtain ⟨zq',h1,rfl⟩:=h
     exact .inr (.inl ⟨o,o2,r,a,zq',rfl,ha,h1,rfl⟩)
   · split at h
     · rename_i ag hag
       simp only [Option.map_eq_some_iff] at h
       obtain ⟨zq',h1,rfl⟩:=h
       exact .inr (.inr (.inl ⟨o,o2,r,ag,zq',rfl,hag,h1,rfl⟩))
     · split at h
       case h_2=>cases h
       rename_i a g zq' h1 h2 h3
       injection h with h
       exact .inr (.inr (.inr ⟨o,o2::r,a,g,zq',rfl,Je h1,h2,h3,h.symm⟩))
theorem NY {a b:aL} {y:Nat} {bs:List UInt8} (h:a.er=b) (hb:b.op= .lit y bs):a=b:=by
 obtain ⟨d,op,g⟩:=a
 subst h
 cases op<;>first|rfl|(simp [aL.er,fH.er] at hb)
theorem DH {o o2:Oper} {a:aL} (h:lu P o o2=some a):∃y bs,a.op= .lit y bs:=by
 unfold lu at h
 split at h
 case h_2=>cases h
 split at h
 case isFalse=>cases h
 split at h
 case h_2=>cases h
 split at h
 case h_2=>cases h
 split at h
 case isFalse=>cases h
 split at h
 case h_2=>cases h
 simp only [Option.map_eq_some_iff] at h
 obtain ⟨bs, -,rfl⟩:=h
 exact ⟨_,_,rfl⟩
theorem Bk {ops:Array Oper} {o o2:Oper} {ag:List aL} (h:IQ P ops o o2=some ag):∃d y bs t w g,ag=[⟨some y, .mv (.c .un),some (t,w)⟩,⟨d, .lit y bs,some (t,w)⟩]∧t≠y∧
 lu P (bare o) (bare o2)=some ⟨d, .lit y bs,g⟩∧gE ops o.guard=some (some (t,w))∧gE ops o2.guard=some (some (t,w)):=by
 unfold IQ at h
 split at h
 case isFalse=>cases h
 rename_i hg
 split at h
 case h_2=>cases h
 rename_i x t w d y bs g h1 h2 h3
 split at h
 · cases h
 · rename_i hty
   injection h with h
   exact ⟨d,y,bs,t,w,g,h.symm,hty,h3,h2,by rw [←hg];exact h2⟩
theorem Zh {a b:aL} {x:Ar} (h:a.er=b) (hb:b.op= .mv x):a=b:=by
 obtain ⟨d,op,g⟩:=a
 subst h
 cases op<;>first|rfl|(simp [aL.er,fH.er] at hb)
theorem G0 {ops:Array Oper} {l:List Oper} {zq:List aL} (h:jy P ops l=some (zq.map aL.er)):(l=[]∧zq=[])∨
 (∃o o2 r a zq',l=o::o2::r∧lu P o o2=some a∧jy P ops r=some (zq'.map aL.er)∧zq=a::zq')∨
 (∃o o2 r ag zq',l=o::o2::r∧IQ P ops o o2=some ag∧jy P ops r=some (zq'.map aL.er)∧zq=ag++zq')∨
 ∃o r op g zq',l=o::r∧(cop P o=some op.er∨op= .bad)∧gE ops o.guard=some g∧jy P ops r=some (zq'.map aL.er)∧zq=⟨o.dst,op,g⟩::zq':=by
 rcases Cd h with ⟨h1,h2⟩|⟨o,o2,r,a,zq',h1,h2,h3,h4⟩|⟨o,o2,r,ag,zq',h1,h2,h3,h4⟩|⟨o,r,op,g,zq',h1,h2,h3,h4,h5⟩
 · exact .inl ⟨h1,by simpa using h2⟩
 · cases zq with
   |nil=>simp at h4
   |cons x xs=>
    simp only [List.map_cons,List.cons.injEq] at h4
    obtain ⟨y,bs,hl⟩:=DH h2
    have:=NY h4.1 hl
    subst this
    exact .inr (.inl ⟨o,o2,r,x,xs,h1,h2,by rw [h3,h4.2],rfl⟩)
 · obtain ⟨d,y,bs,t,w,g,rfl, -⟩:=Bk h2
   cases zq with
   |nil=>simp at h4
   |cons x xs=>
    cases xs with
    |nil=>simp at h4
    |cons x2 xs=>
     simp only [List.map_cons,List.cons_append,List.nil_append,List.cons.injEq] at h4
     have e1:=Zh h4.1 rfl
     have e2:=NY h4.2.1 rfl
     subst e1;subst e2
     exact .inr (.inr (.inl ⟨o,o2,r,_,xs,h1,h2,by rw [h3,h4.2.2],rfl⟩))
 · cases zq with
   |nil=>simp at h5
   |cons x xs=>
    simp only [List.map_cons,List.cons.injEq] at h5
    obtain ⟨d,op',g'⟩:=x
    obtain ⟨h6,h7⟩:=h5
    simp only [aL.er] at h6
    injection h6 with e1 e2 e3
    subst e1;subst e2;subst e3
    exact .inr (.inr (.inr ⟨o,r,op',g',xs,h1,h2.imp id Wr,h3,by rw [h4,h7],rfl⟩))
theorem Jf {ops:Array Oper} {o o2:Oper} {l:List Oper} {a:aL} {zq:List aL} {K:Env→AH→Prop} {Q:Exit→Act→World→Prop} (gC:lu P (bare o) (bare o2)=some a)
 (hw1:Region.wanted o (yielded ops ts)=true) (Dy:∀y bs v,a.op= .lit y bs→Region.wanted o2 (yielded ops ((⟨ts,[]⟩:Act).put (some y) v).tmps)=true) (hd:ke N (a::zq)=true)
 (hs:SR L N F γ C e ah ts w) (hk:ez P L (a::zq) e ah K)
 (next:∀e1 bU C1 DE w1,ez P L zq e1 bU K→ke N zq=true→SR L N F γ C1 e1 bU DE w1→Ext F C w C1 w1→wpList P ops Q l ⟨DE,[]⟩ w1):wpList P ops Q (o::o2::l) ⟨ts,[]⟩ w:=by
 obtain ⟨d1,op1,ty1,pos1,af1,g1⟩:=o
 obtain ⟨d2,Wn,oL,pos2,af2,g2⟩:=o2
 unfold lu bare at gC
 split at gC
 case h_2=>cases gC
 rename_i t n parts s d x y h1 h2 h3
 simp only at h1 h2 h3
 subst h1;subst h2;subst h3
 split at gC
 case isFalse=>cases gC
 rename_i hcs
 obtain ⟨rfl,rfl,rfl,Ws,SA,hyd,hn,hn2⟩:=hcs
 split at gC
 case h_2=>cases gC
 rename_i el hel
 split at gC
 case h_2=>cases gC
 rename_i hu8
 split at gC
 case isFalse=>cases gC
 rename_i hsz
 split at gC
 case h_2=>cases gC
 rename_i wF abE
 simp only [Option.map_eq_some_iff] at gC
 obtain ⟨bs,Lm,rfl⟩:=gC
 have Dy:=fun v=>Dy _ _ v rfl
 simp only [ke,Bool.and_eq_true] at hd
 obtain ⟨⟨hd1,Jg⟩,hd3⟩:=hd
 have hy:x<N:=by simpa using Jg
 have ji:∀z,d2=some z→z<N:=by
  intro z hz
  rw [hz] at hd1
  simpa using hd1
 simp only [ez,gj,z8,bL] at hk
 have ht:P.underlying d=some (.slice el):=by
  unfold E8 at hel
  split at hel
  · rename_i h;injection hel with hel;subst hel;exact h
  · cases hel
 obtain ⟨q1,q2⟩:=So Lm e
 obtain ⟨r,hrs,hrun,key⟩:=Gg (ds:=[]) (d:=d2) hs ji ht hn (by rw [hsz.1];omega) hsz.2 abE (by rw [hsz.1];exact q2)
 obtain ⟨C',k1,k2⟩:=key (r.size,r.size+1) (.inr rfl)
 rw [q1,hsz.1] at k1
 have k3:=k1.Cb (d:=x) (a:= .un) (v:= .slice (some ⟨w.heap.size,0,none⟩) n n) hy (.un ..) trivial rfl (by simp)
 unfold wpList
 rw [if_pos hw1]
 refine .inl ?_
 unfold Oper.wp
 have e1:(execOp (Act.eval ⟨ts,[]⟩) ⟨some x, .buildSlice d n parts,ty1,pos1,af1,g1⟩).run P w= .ok (.value (.slice (some ⟨w.heap.size,0,none⟩) n n)) (w.alloc (.cells r el)):=by
  simp [execOp,hrun]
 rw [e1]
 simp only [Oper.upon]
 unfold wpList
 rw [if_pos (Dy _)]
 refine .inl ?_
 unfold Oper.wp
 have hlt:x<ts.size:=by rw [hs.sz];exact hy
 have e2:(execOp (Act.eval ((⟨ts,[]⟩:Act).put (some x) (.slice (some ⟨w.heap.size,0,none⟩) n n))) ⟨d2, .convert d d (.tmp x),oL,pos2,af2,g2⟩).run P (w.alloc (.cells r el))= .ok (.value (.slice (some ⟨w.heap.size,0,none⟩) n n)) (w.alloc (.cells r el (r.size,r.size+1))):=by
  have hev:Act.eval ((⟨ts,[]⟩:Act).put (some x) (.slice (some ⟨w.heap.size,0,none⟩) n n)) (.tmp x)= .slice (some ⟨w.heap.size,0,none⟩) n n:=by
   simp [Act.eval,Act.put,hlt]
  have:=Lib.run_convert_bytes_const (P:=P) w d el r n n ht hu8
  simp only [execOp,hev,Sem.run_bind,this,Result.andThen_ok,Sem.run_pure]
 rw [e2]
 simp only [Oper.upon]
 rw [←SR.DA ts [] hyd]
 have hput:(((⟨ts,[]⟩:Act).put d2 (.slice (some ⟨w.heap.size,0,none⟩) n n)).put (some x) (.slice (some ⟨w.heap.size,0,none⟩) n n))=
  ⟨(((⟨ts,[]⟩:Act).put d2 (.slice (some ⟨w.heap.size,0,none⟩) n n)).tmps).setIfInBounds x (.slice (some ⟨w.heap.size,0,none⟩) n n),[]⟩:=by
  cases d2<;>rfl
 rw [hput]
 exact next _ _ C' _ _ hk hd3 k3 k2
theorem Wt {ops:Array Oper} {o o2:Oper} {l:List Oper} {a:aL} {zq:List aL} {K:Env→AH→Prop} {Q:Exit→Act→World→Prop} (gC:lu P o o2=some a) (hd:ke N (a::zq)=true)
 (hs:SR L N F γ C e ah ts w) (hk:ez P L (a::zq) e ah K)
 (next:∀e1 bU C1 DE w1,ez P L zq e1 bU K→ke N zq=true→SR L N F γ C1 e1 bU DE w1→Ext F C w C1 w1→wpList P ops Q l ⟨DE,[]⟩ w1):wpList P ops Q (o::o2::l) ⟨ts,[]⟩ w:=by
 have hg:o.guard=none∧o2.guard=none:=by
  unfold lu at gC
  split at gC
  case h_2=>cases gC
  split at gC
  case isFalse=>cases gC
  rename_i hcs
  exact ⟨by simpa using hcs.2.2.2.1,by simpa using hcs.2.2.2.2.1⟩
 have e1:bare o=o:=by obtain ⟨d,op,ty,pos,af,g⟩:=o;simp only at hg;simp [bare,hg.1]
 have e2:bare o2=o2:=by obtain ⟨d,op,ty,pos,af,g⟩:=o2;simp only at hg;simp [bare,hg.2]
 exact Jf (by rw [e1,e2];exact gC) (by simp [Region.wanted,hg.1]) (fun _ _ _ _=>by simp [Region.wanted,hg.2]) hd hs hk next
theorem SB {ops:Array Oper}:∀(n:Nat) (l:List Oper) (zq:List aL) (e:Env) (ah:AH) (K:Env→AH→Prop) (F:Nat→Prop) (γ:List Nat) (C:Nat→List Value) (ts:Array Value) (w:World)
 (Q:Exit→Act→World→Prop),l.length≤n→jy P ops l=some (zq.map aL.er)→ke N zq=true→SR L N F γ C e ah ts w→ez P L zq e ah K→
 (∀e' aH γ' C' ts' w',K e' aH→γ <+: γ'→SR L N F γ' C' e' aH ts' w'→Ext F C w C' w'→Q .normal ⟨ts',[]⟩ w')→wpList P ops Q l ⟨ts,[]⟩ w:=by
 intro n
 induction n with
 |zero=>
  intro l zq e ah K F γ C ts w Q hn hc hd hs hk hq
  obtain rfl:l=[]:=List.eq_nil_of_length_eq_zero (by omega)
  simp only [jy,Option.some.injEq] at hc
  obtain rfl:zq=[]:=by simpa using hc.symm
  exact wpList_nil (hq e ah γ C ts w hk (List.prefix_refl _) hs (Ext.refl ..))
 |succ n ih=>
  intro l zq e ah K F γ C ts w Q hn hc hd hs hk hq
  rcases G0 hc with ⟨rfl,rfl⟩|⟨o,o2,l,a,zq',rfl,gC,has,rfl⟩|⟨o,o2,l,ag,zq',rfl,gC,has,rfl⟩|⟨o,l,op,g,zq',rfl,hop,hg,has,rfl⟩
  · exact wpList_nil (hq e ah γ C ts w hk (List.prefix_refl _) hs (Ext.refl ..))
  · exact Wt gC hd hs hk fun e1 bU C1 DE w1 Bg hd1 hs1 hx1=>ih l zq' e1 bU K F γ C1 DE w1 Q (by simp at hn;omega) has hd1 hs1 Bg
     fun e' aH γ' C' ts' w' g1 g2 g3 g4=>hq e' aH γ' C' ts' w' g1 g2 g3 (hx1.trans g4)
  · obtain ⟨d,y,bs,tg,want,g0,rfl,hty,hlo,Ws,SA⟩:=Bk gC
    have hd:ke N [⟨some y, .mv (.c .un),some (tg,want)⟩,⟨d, .lit y bs,some (tg,want)⟩]=true∧ke N zq'=true:=by
     simp only [List.cons_append,List.nil_append,ke,Bool.and_eq_true,Bool.and_true] at hd ⊢
     exact ⟨⟨hd.1,hd.2.1⟩,hd.2.2⟩
    have hyN:y<N:=by
     have:=hd.1
     simp only [ke,Bool.and_eq_true] at this
     simpa using this.1.1
    have abF:∀v,SR L N F γ C (put e y .un) ah (ts.setIfInBounds y v) w:=fun v=>hs.Cb hyN (.un ..) trivial rfl (by simp)
    have hge:∀a,get (put e y a) tg=get e tg:=fun a=>by rw [eR,if_neg hty]
    have zX:∀a (d d2:Option Nat) (op Wn:fH),gj (put e y a) ⟨d,op,some (tg,want)⟩=gj e ⟨d2,Wn,some (tg,want)⟩:=fun a _ _ _ _=>by simp only [gj,hge]
    rw [List.cons_append,List.cons_append,List.nil_append] at hk
    simp only [ez] at hk
    split at hk
    · rename_i uz
      have hw1:=ie hs Ws uz
      have e0:aI L e (some y) (cp L (.c .un) (ev e (.c .un)))=put e y .un:=by
       simp only [ev,cp,aI];split<;>rfl
      simp only [z8,bL] at hk
      rw [e0,zX .un d (some y) (.lit y bs) (.mv (.c .un)),uz] at hk
      simp only at hk
      have hk3:ez P L (⟨d, .lit y bs,g0⟩::zq') (put e y .un) ah K:=by
       have h0:g0=none:=by
        unfold lu at hlo
        split at hlo
        case h_2=>cases hlo
        split at hlo
        case isFalse=>cases hlo
        split at hlo
        case h_2=>cases hlo
        split at hlo
        case h_2=>cases hlo
        split at hlo
        case isFalse=>cases hlo
        split at hlo
        case h_2=>cases hlo
        simp only [Option.map_eq_some_iff] at hlo
        obtain ⟨_, -,hlo⟩:=hlo
        injection hlo with _ _ h3
        exact h3.symm
       subst h0
       exact hk
      refine Jf hlo hw1 (fun y' bs' v h=> ?_) (by
       have h1:=hd.1
       simp only [ke,Bool.and_eq_true] at h1 ⊢
       exact ⟨h1.2.1,hd.2⟩) (hs.tf (.un _)) hk3 fun e1 bU C1 DE w1 Bg hd1 hs1 hx1=>ih l zq' e1 bU K F γ C1 DE w1 Q (by simp at hn;omega) has hd1 hs1 Bg
       fun e' aH γ' C' ts' w' g1 g2 g3 g4=>hq e' aH γ' C' ts' w' g1 g2 g3 (hx1.trans g4)
      injection h with h1 h2
      subst h1
      exact ie (abF v) SA (d:=d) (op:= .lit y bs) ((zX .un d (some y) (.lit y bs) (.mv (.c .un))).trans uz)
    · rename_i uz
      have hw1:=ie hs Ws uz
      rw [show oO e (some y)=put e y (.bB []) from rfl,zX (.bB []) d (some y) (.lit y bs) (.mv (.c .un)),uz] at hk
      simp only at hk
      obtain ⟨hdo,hdy⟩:o.dst=some y∧o2.dst=d:=by
       unfold lu bare at hlo
       split at hlo
       case h_2=>cases hlo
       rename_i h1 h2 h3
       simp only at h3
       split at hlo
       case isFalse=>cases hlo
       split at hlo
       case h_2=>cases hlo
       split at hlo
       case h_2=>cases hlo
       split at hlo
       case isFalse=>cases hlo
       split at hlo
       case h_2=>cases hlo
       simp only [Option.map_eq_some_iff] at hlo
       obtain ⟨_, -,hlo⟩:=hlo
       injection hlo with q1 q2 _
       injection q2 with q2 _
       subst q2
       exact ⟨h3,q1⟩
      have hs1:SR L N F γ C (put e y (.bB [])) ah (ts.setIfInBounds y undef) w:=hs.Cb hyN (.bB _ [] #[] rfl (by simp)) (by simp [undef,TC]) rfl (by simp)
      unfold wpList
      rw [if_neg (by rw [hw1];simp)]
      unfold wpList
      have Zi:(⟨ts,[]⟩:Act).put o.dst undef=⟨ts.setIfInBounds y undef,[]⟩:=by rw [hdo];rfl
      rw [Zi]
      have Dy:=ie hs1 SA (d:=d) (op:= .lit y bs) ((zX (.bB []) d (some y) (.lit y bs) (.mv (.c .un))).trans uz)
      rw [if_neg (by show ¬(Region.wanted o2 (yielded ops (ts.setIfInBounds y undef))=true);rw [Dy];simp)]
      have hput:(⟨ts.setIfInBounds y undef,[]⟩:Act).put o2.dst undef=⟨((⟨ts.setIfInBounds y undef,[]⟩:Act).put o2.dst undef).tmps,[]⟩:=by cases o2.dst<;>rfl
      rw [hput]
      refine ih l zq' _ ah K F γ C _ w Q (by simp at hn;omega) has hd.2 ?_ hk hq
      rw [hdy]
      cases hdd:d with
      |none=>exact hs1
      |some d'=>
       have hdN:d'<N:=by
        have:=hd.1
        simp only [ke,Bool.and_eq_true,hdd] at this
        simpa using this.2.1.1
       exact hs1.Cb hdN (.bB _ [] #[] rfl (by simp)) (by simp [undef,TC]) rfl (by simp)
    · exact hk.elim
  have hn':l.length≤n:=by simp at hn;omega
  simp only [ke,Bool.and_eq_true] at hd
  have ji:∀x,o.dst=some x→x<N:=by
   intro x hx
   have:=hd.1.1
   rw [hx] at this
   simpa using this
  simp only [ez] at hk
  split at hk
  · rename_i uz
    have hw:=ie hs hg uz
    unfold wpList
    rw [if_pos hw]
    refine .inl ?_
    rcases hop with hop|rfl
    case inr=>exact hk.elim
    by_cases eN:op.n5=true
    · cases op with
      |call f wF=>
       simp only [z8] at hk
       split at hk
       case h_2=>exact hk.elim
       rename_i f' caps Zj
       obtain ⟨hfl,hk⟩:=hk
       obtain ⟨x,args,tys,ho,hx,hargs⟩:=Bj hop
       have h1:=bO (ds:=[]) hs hx
       rw [Zj] at h1
       obtain ⟨vs,Zk,hcl,n6⟩:=h1.1.GJ
       obtain ⟨c1,c2⟩:=Gk hs _ _ _ hargs
       have DI:=Jc (d:=o.dst) (ds:=[]) (vs:=args.map (Act.eval ⟨ts,[]⟩)++vs) hs ji hk (by simp [c1,hcl]) (DG hs hfl hcl n6 c1 c2)
       have Lr:(execOp (Act.eval ⟨ts,[]⟩) o).run P w= .ok (.enter f' (args.map (Act.eval ⟨ts,[]⟩)++vs)) w:=by
        rw [ho];exact DF hk.1 Zk
       unfold Oper.wp
       rw [Lr]
       simp only [Oper.upon]
       refine DI.mono ?_
       rintro en w1 ⟨r,v,bU,γ1,C1,rfl,hR,hγ,hs1,hx1⟩
       have hput:(⟨ts,[]⟩:Act).put o.dst v=⟨((⟨ts,[]⟩:Act).put o.dst v).tmps,[]⟩:=by cases o.dst<;>rfl
       show wpList P ops Q l ((⟨ts,[]⟩:Act).put o.dst v) w1
       rw [hput]
       exact ih l zq' _ bU K F γ1 C1 _ w1 Q hn' has hd.2 hs1 hR fun e' aH γ' C' ts' w' g1 g2 g3 g4=>hq e' aH γ' C' ts' w' g1 (hγ.trans g2) g3 (hx1.trans g4)
      |k7 k b x y=>
       simp only [z8] at hk
       obtain ⟨e1,bU,hk',v,w1,γ1,C1,hr,hγ,hs1,hx1, -, -⟩:=Gh (m:=true) (ds:=[]) hs ji (by simpa [ew] using hop) hk
       have next:wpList P ops Q l ((⟨ts,[]⟩:Act).put o.dst v) w1:=by
        have hput:(⟨ts,[]⟩:Act).put o.dst v=⟨((⟨ts,[]⟩:Act).put o.dst v).tmps,[]⟩:=by cases o.dst<;>rfl
        rw [hput]
        exact ih l zq' e1 bU K F γ1 C1 _ w1 Q hn' has hd.2 hs1 hk' fun e' aH γ' C' ts' w' g1 g2 g3 g4=>hq e' aH γ' C' ts' w' g1 (hγ.trans g2) g3 (hx1.trans g4)
       unfold Oper.wp
       rcases hr with hr|⟨hr,rfl⟩<;>rw [hr]<;>exact next
      |nq n x=>
       simp only [z8] at hk
       obtain ⟨e1,bU,hk',v,w1,γ1,C1,hr,hγ,hs1,hx1, -, -⟩:=GX (m:=true) (ds:=[]) hs ji (by simpa [ew] using hop) hk
       have next:wpList P ops Q l ((⟨ts,[]⟩:Act).put o.dst v) w1:=by
        have hput:(⟨ts,[]⟩:Act).put o.dst v=⟨((⟨ts,[]⟩:Act).put o.dst v).tmps,[]⟩:=by cases o.dst<;>rfl
        rw [hput]
        exact ih l zq' e1 bU K F γ1 C1 _ w1 Q hn' has hd.2 hs1 hk' fun e' aH γ' C' ts' w' g1 g2 g3 g4=>hq e' aH γ' C' ts' w' g1 (hγ.trans g2) g3 (hx1.trans g4)
       unfold Oper.wp
       rcases hr with hr|⟨hr,rfl⟩<;>rw [hr]<;>exact next
      |_=>cases eN
    · have qX:op.n5=false:=by simpa using eN
      have hk':match bL L ⟨o.dst,op,g⟩ e ah with|some (e',aH)=>ez P L zq' e' aH K|none=>False:=by
       cases op<;>first|exact hk|cases qX
      rw [wD] at hk'
      cases hev:bL L ⟨o.dst,op,none⟩ e ah with
      |none=>rw [hev] at hk';exact hk'.elim
      |some ea=>
       obtain ⟨e1,bU⟩:=ea
       rw [hev] at hk'
       obtain ⟨v,w1,γ1,C1,hr,hγ,hs1,hx1, -, -⟩:=GY (ds:=[]) hs ji hop qX hev
       have next:wpList P ops Q l ((⟨ts,[]⟩:Act).put o.dst v) w1:=by
        have hput:(⟨ts,[]⟩:Act).put o.dst v=⟨((⟨ts,[]⟩:Act).put o.dst v).tmps,[]⟩:=by cases o.dst<;>rfl
        rw [hput]
        exact ih l zq' e1 bU K F γ1 C1 _ w1 Q hn' has hd.2 hs1 hk' fun e' aH γ' C' ts' w' g1 g2 g3 g4=>hq e' aH γ' C' ts' w' g1 (hγ.trans g2) g3 (hx1.trans g4)
       unfold Oper.wp
       rcases hr with hr|⟨hr,rfl⟩<;>rw [hr]<;>exact next
  · rename_i uz
    have hw:=ie hs hg uz
    unfold wpList
    rw [if_neg (by rw [hw];simp)]
    have hput:(⟨ts,[]⟩:Act).put o.dst undef=⟨((⟨ts,[]⟩:Act).put o.dst undef).tmps,[]⟩:=by cases o.dst<;>rfl
    rw [hput]
    refine ih l zq' _ ah K F γ C _ w Q hn' has hd.2 ?_ hk hq
    cases ho:o.dst with
    |none=>exact hs
    |some d=>exact hs.Cb (ji d ho) (.bB _ [] #[] rfl (by simp)) (by simp [undef,TC]) rfl (by simp)
  · exact hk.elim
theorem Wu {ops:Array Oper} (l:List Oper) (zq:List aL) (e:Env) (ah:AH) (K:Env→AH→Prop) (F:Nat→Prop) (γ:List Nat) (C:Nat→List Value) (ts:Array Value) (w:World)
 (Q:Exit→Act→World→Prop) (hc:jy P ops l=some (zq.map aL.er)) (hd:ke N zq=true) (hs:SR L N F γ C e ah ts w) (hk:ez P L zq e ah K)
 (hq:∀e' aH γ' C' ts' w',K e' aH→γ <+: γ'→SR L N F γ' C' e' aH ts' w'→Ext F C w C' w'→Q .normal ⟨ts',[]⟩ w'):wpList P ops Q l ⟨ts,[]⟩ w:=
 SB l.length l zq e ah K F γ C ts w Q (Nat.le_refl _) hc hd hs hk hq
end
end Go.Am
end
section
namespace Go.Am
open Go
variable [Tabs]
section
variable {P:Program} {ops:Array Oper} {Q:Exit→Act→World→Prop} {md:Region.Mode} {S:World→Prop} {D:Nat→Bool}
def wpS (P:Program) (ops:Array Oper) (Q:Exit→Act→World→Prop) (S:World→Prop) (D:Nat→Bool):Nat→Array Bool→Act→World→Prop
 |0,listed,a,w=>Region.ready .any ops listed=[]∧Q .normal a w
 |n+1,listed,a,w=>(Region.ready .any ops listed=[]→Q .normal a w)∧
  ∀i∈Region.ready .any ops listed,wpOp P ops Q i (fun a' w'=>(D i=false→S w')∧wpS P ops Q S D n (listed.setIfInBounds i true) a' w') a w
theorem wpS.any:∀ {n:Nat} {listed:Array Bool} {a:Act} {w:World},wpS P ops Q S D n listed a w→wpAny P .any ops Q n listed a w
 |0,_,_,_,h=>h
 |_+1,_,_,_,h=>⟨h.1,fun i hi=>wpOp_mono (fun _ _ h'=>h'.2.any) (h.2 i hi)⟩
theorem wpS.mono {S':World→Prop} (hS:∀w,S' w→S w):∀ {n:Nat} {listed:Array Bool} {a:Act} {w:World},wpS P ops Q S' D n listed a w→wpS P ops Q S D n listed a w
 |0,_,_,_,h=>h
 |_+1,_,_,_,h=>⟨h.1,fun i hi=>wpOp_mono (fun _ _ h'=>⟨fun hd=>hS _ (h'.1 hd),h'.2.mono hS⟩) (h.2 i hi)⟩
theorem gS {listed:Array Bool} {i j:Nat} (h:(listed.setIfInBounds i true).getD j true=false):listed.getD j true=false:=by
 by_cases hij:i=j
 · subst hij
   by_cases hlt:i<listed.size
   · simp [hlt] at h
   · simp [Array.getElem?_eq_none (Nat.le_of_not_lt hlt)] at h
 · rwa [getD_set_ne true hij] at h
theorem Ce:∀ {n:Nat} {listed:Array Bool} {a:Act} {w:World},(∀j,listed.getD j true=false→D j=true)→wpAny P .any ops Q n listed a w→wpS P ops Q S D n listed a w
 |0,_,_,_,_,h=>h
 |_+1,listed,_,_,hD,h=>⟨h.1,fun i hi=>wpOp_mono (fun _ _ h'=>⟨fun hd=>Bool.noConfusion ((hD i (mem_ready.1 hi).1).symm.trans hd),Ce (fun j hj=>hD j (gS hj)) h'⟩) (h.2 i hi)⟩
theorem Ls {i:Nat} {oi:Oper} {v:Value} (hi:ops[i]? =some oi) (hsel:∀(j:Nat) (o:Oper) cs b,ops[j]? =some o→o.op≠ .select cs b)
 (hQ:∀c a w,¬Q (.panic c) a w) (W:Nat→Prop):
 ∀(n:Nat) (listed:Array Bool) (a:Act) (w:World),
  (∀j oj,ops[j]? =some oj→j≠i→listed.getD j true=false→(∀e∈oj.after,Region.binds .any e=true→e.on≠i)→oi.apart ops oj=true)→
  (∀j,W j→listed.getD j true=false∧∃oj,ops[j]? =some oj∧∃e∈oj.after,Region.binds .any e=true∧(e.on=i∨W e.on))→(∀j,j<ops.size→D j=true→listed.getD j true=false→W j)→
  i∈Region.ready .any ops listed→YieldsIf P ops S oi v a→S w→
  wpS P ops Q S D n (listed.setIfInBounds i true) (a.put oi.dst v) w→wpS P ops Q S D (n+1) listed a w:=by
 intro n
 induction n with
 |zero=>
  intro listed a w _ _ _ hr hy hS H
  refine ⟨fun h=>(by rw [h] at hr;cases hr),fun j hj=> ?_⟩
  by_cases hji:j=i
  · subst hji;exact hy.wpOp hi hS ⟨fun _=>hS,H⟩
  · have:=ready_mono hj hji
    rw [H.1] at this
    cases this
 |succ n ih=>
  intro listed a w hfree wG hDW hr hy hS H
  refine ⟨fun h=>(by rw [h] at hr;cases hr),fun j hj=> ?_⟩
  by_cases hji:j=i
  · subst hji;exact hy.wpOp hi hS ⟨fun _=>hS,H⟩
  · have h1:=H.2 j (ready_mono hj hji)
    obtain ⟨YA,oj,Lt,hall⟩:=mem_ready.1 hj
    have hun:∀k,listed.getD k true=false→listed.getD k false=false:=fun k hk=>by
     rcases Nat.lt_or_ge k listed.size with h'|h'
     · simp [h'] at hk ⊢;exact hk
     · simp [Array.getElem?_eq_none h'] at hk
    have hnot:∀e∈oj.after,Region.binds .any e=true→listed.getD e.on true=false→False:=fun e he hb hu=>by
     have h1:=hall e he hb
     rw [hun _ hu] at h1
     cases h1
    have hni:∀e∈oj.after,Region.binds .any e=true→e.on≠i:=fun e he hb heq=>hnot e he hb (by rw [heq];exact (mem_ready.1 hr).1)
    have hWj:¬W j:=by
     intro hw
     obtain ⟨-,oj',NZ,e,he,hb,h0⟩:=wG j hw
     rw [Lt] at NZ
     injection NZ with NZ
     subst NZ
     rcases h0 with h0|h0
     · exact hni e he hb h0
     · exact hnot e he hb (wG _ h0).1
    have Zl:D j=false:=by
     cases hd:D j with
     |false=>rfl
     |true=>exact absurd (hDW j (Array.getElem?_eq_some_iff.1 Lt).1 hd YA) hWj
    have h2:=wpOp_putIf Lt (hfree j oj Lt hji YA hni) (fun cs b=>hsel i oi cs b hi) (fun cs b=>hsel j oj cs b Lt) (fun c a w hq=>(hQ c _ w hq).elim) hy h1
    refine wpOp_mono (fun a' w' h3=> ?_) h2
    have hS':=h3.2.1 Zl
    refine ⟨fun _=>hS',ih (listed.setIfInBounds j true) a' w' ?_ ?_ ?_ (ready_mono hr (Ne.symm hji)) h3.1 hS' ?_⟩
    · exact fun k ok hk hki Zm hno=>hfree k ok hk hki (gS Zm) hno
    · intro k hk
      obtain ⟨h5,h6⟩:=wG k hk
      refine ⟨?_,h6⟩
      rw [getD_set_ne true (fun h7=>hWj (by rw [h7];exact hk))]
      exact h5
    · exact fun k hk hd Zm=>hDW k hk hd (gS Zm)
    · rw [Array.setIfInBounds_comm _ _ hji]
      exact h3.2.2
end
section
variable {P:Program} {L:List Nat} {N n0:Nat} {F:Nat→Prop} {γ:List Nat} {C C':Nat→List Value} {e:Env} {ah:AH} {ts:Array Value} {w w':World} {m:Bool}
variable {e':Env} {aH:AH} {ops:Array Oper} {Q:Exit→Act→World→Prop}
theorem KA.trans {γ':List Nat} {w2:World} (hg:∀(s b:Nat),γ[s]? =some b→γ'[s]? =some b) (hC:∀b,C b <+: C' b) (h:KA m γ C w w') (h':KA m γ' C' w' w2):KA m γ C w w2:=
 ⟨fun b i hi=>(h'.1 b i (Nat.lt_of_lt_of_le hi (hC b).length_le)).trans (h.1 b i hi),fun hm s b hs=>(h'.2 hm s b (hg s b hs)).trans (h.2 hm s b hs)⟩
theorem SC {γ γ':List Nat} (h:γ <+: γ') {s b:Nat} (hs:γ[s]? =some b):γ'[s]? =some b:=by
 obtain ⟨q,rfl⟩:=h
 rw [List.getElem?_append_left (List.getElem?_eq_some_iff.1 hs).1];exact hs
theorem KA.G1 {e ah ts e' aH ts'} {γ':List Nat} (h:SR L N F γ C e ah ts w) (h':SR L N F γ' C' e' aH ts' w') (hx:Ext F C w C' w')
 (ho:m=true→∀(s b:Nat),γ[s]? =some b→w'.heap[b]? =w.heap[b]?):KA m γ C w w':=by
 refine ⟨fun b i hi=> ?_,ho⟩
 rw [oC h hi,oC h' (Nat.lt_of_lt_of_le hi (hx.pre b).length_le),gG (hx.pre b) hi]
theorem Bl (a:Act) (d:Option Nat) (v:Value) (h:a.defers=[]):a.put d v=⟨(a.put d v).tmps,[]⟩:=by
 obtain ⟨ts,ds⟩:=a
 simp only at h
 subst h
 cases d<;>rfl
theorem Jh {o:Oper} {i:Nat} {op:fH} {g:Option (Nat×Bool)} {zq:List aL} {K:Env→AH→Prop} {R:Act→World→Prop} (hi:ops[i]? =some o) (hop:ew P m o=some op.er) (hg:gE ops o.guard=some g)
 (ji:∀x,o.dst=some x→x<N) (hs:SR L N F γ C e ah ts w) (hk:ez P L (⟨o.dst,op,g⟩::zq) e ah K)
 (next:∀v e' aH γ' C' w',ez P L zq e' aH K→γ <+: γ'→SR L N F γ' C' e' aH ((⟨ts,[]⟩:Act).put o.dst v).tmps w'→Ext F C w C' w'→(Gb P m o=true→KA m γ C w w')→R ((⟨ts,[]⟩:Act).put o.dst v) w'):
 wpOp P ops Q i R ⟨ts,[]⟩ w:=by
 unfold wpOp
 simp only [hi]
 simp only [ez] at hk
 split at hk
 · rename_i uz
   rw [if_pos (ie hs hg uz)]
   refine .inl ?_
   by_cases eN:op.n5=true
   · cases op with
     |call f wF=>
      have hop:cop P o=some (.call f wF):=by
       cases m with
       |true=>simpa [ew,fH.er] using hop
       |false=>
        simp only [ew,Bool.false_eq_true,if_false,Option.map_eq_some_iff] at hop
        obtain ⟨op',h1,h2⟩:=hop
        rw [h1,Gi h2]
      simp only [z8] at hk
      split at hk
      case h_2=>exact hk.elim
      rename_i f' caps Zj
      obtain ⟨hfl,hk⟩:=hk
      obtain ⟨x,args,tys,ho,hx,hargs⟩:=Bj hop
      have h1:=bO (ds:=[]) hs hx
      rw [Zj] at h1
      obtain ⟨vs,Zk,hcl,n6⟩:=h1.1.GJ
      obtain ⟨c1,c2⟩:=Gk hs _ _ _ hargs
      have DI:=Jc (d:=o.dst) (ds:=[]) (vs:=args.map (Act.eval ⟨ts,[]⟩)++vs) hs ji hk (by simp [c1,hcl]) (DG hs hfl hcl n6 c1 c2)
      have Lr:(execOp (Act.eval ⟨ts,[]⟩) o).run P w= .ok (.enter f' (args.map (Act.eval ⟨ts,[]⟩)++vs)) w:=by
       rw [ho];exact DF hk.1 Zk
      unfold Oper.wp
      rw [Lr]
      simp only [Oper.upon]
      refine DI.mono ?_
      rintro en w1 ⟨r,v,bU,γ1,C1,rfl,hR,hγ,hs1,hx1⟩
      refine next v _ bU γ1 C1 w1 hR hγ hs1 hx1 fun hst=>KA.G1 hs hs1 hx1 fun hm=> ?_
      rw [ho] at hst
      simp [Gb,eo,gF,zS,hm] at hst
     |k7 k b x y=>
      simp only [z8] at hk
      obtain ⟨e1,bU,hk',v,w1,γ1,C1,hr,hγ,hs1,hx1,hst, -⟩:=Gh (ds:=[]) hs ji hop hk
      have nx:=next v e1 bU γ1 C1 w1 hk' hγ hs1 hx1 fun h=>KA.G1 hs hs1 hx1 fun hm=>by
       refine hst ?_
       obtain ⟨_,_,_,_,_,_,ho, -⟩:=DD (Bi hop)
       rw [ho] at h
       simp [Gb,eo,gF,hm] at h
      unfold Oper.wp
      rcases hr with hr|⟨hr,rfl⟩<;>rw [hr]<;>exact nx
     |nq n x=>
      simp only [z8] at hk
      obtain ⟨e1,bU,hk',v,w1,γ1,C1,hr,hγ,hs1,hx1,hst, -⟩:=GX (ds:=[]) hs ji hop hk
      have nx:=next v e1 bU γ1 C1 w1 hk' hγ hs1 hx1 fun h=>KA.G1 hs hs1 hx1 fun hm=>by
       refine hst ?_
       obtain ⟨_,_,_,_,_,ho, -⟩:=NW (I9 hop)
       rw [ho];rfl
      unfold Oper.wp
      rcases hr with hr|⟨hr,rfl⟩<;>rw [hr]<;>exact nx
     |_=>cases eN
   · have qX:op.n5=false:=by simpa using eN
     have hk':match bL L ⟨o.dst,op,g⟩ e ah with|some (e',aH)=>ez P L zq e' aH K|none=>False:=by
      cases op<;>first|exact hk|cases qX
     rw [wD] at hk'
     cases hev:bL L ⟨o.dst,op,none⟩ e ah with
     |none=>rw [hev] at hk';exact hk'.elim
     |some ea=>
      obtain ⟨e1,bU⟩:=ea
      rw [hev] at hk'
      obtain ⟨v,w1,γ1,C1,hr,hγ,hs1,hx1,hst, -⟩:=Jb (ds:=[]) hs ji hop qX hev
      have nx:=next v e1 bU γ1 C1 w1 hk' hγ hs1 hx1 fun h=>KA.G1 hs hs1 hx1 fun hm=>by
       refine hst ?_
       cases GV:gF o.op with
       |false=>rfl
       |true=>
        exfalso
        cases ho:o.op with
        |call c=>
         rw [ho] at GV
         obtain ⟨ce,_,_⟩:=c
         cases ce with
         |builtin b=>cases b<;>simp [gF] at GV;simp [Gb,eo,gF,ho,hm] at h
         |_=>simp [gF] at GV
        |store a b c=>simp [Gb,eo,gF,ho,hm] at h
        |_=>rw [ho] at GV;simp [gF] at GV
      unfold Oper.wp
      rcases hr with hr|⟨hr,rfl⟩<;>rw [hr]<;>exact nx
 · rename_i uz
   have hw:=ie hs hg uz
   rw [if_neg (by rw [hw];simp)]
   refine next undef _ ah γ C w hk (List.prefix_refl _) ?_ (Ext.refl ..) fun _=>KA.refl ..
   cases ho:o.dst with
   |none=>exact hs
   |some d=>exact hs.Cb (ji d ho) (.bB _ [] #[] rfl (by simp)) (by simp [undef,TC]) rfl (by simp)
 · exact hk.elim
theorem OZ {o:Oper} {op:fH} {g:Option (Nat×Bool)} {zq:List aL} {K:Env→AH→Prop} (hq:eo P o.op=true) (hop:ew P m o=some op.er) (hg:gE ops o.guard=some g)
 (ji:∀x,o.dst=some x→x<N) (hs:SR L N F γ C e ah ts w) (hk:ez P L (⟨o.dst,op,g⟩::zq) e ah K):
 ∃v e' aH,YieldsIf P ops (KA m γ C w) o v ⟨ts,[]⟩∧ez P L zq e' aH K∧SR L N F γ C e' aH ((⟨ts,[]⟩:Act).put o.dst v).tmps w:=by
 simp only [ez] at hk
 split at hk
 · rename_i uz
   have hw:=ie hs hg uz
   by_cases hnq:∃n x,op= .nq n x
   · obtain ⟨n,x,rfl⟩:=hnq
     simp only [z8] at hk
     obtain ⟨e1,bU,hk',v,w1,γ1,C1,hr,hγ,hs1,hx1,hst,Zn⟩:=GX (ds:=[]) hs ji hop hk
     obtain ⟨rfl,rfl,rfl,hrun⟩:=Zn hq
     exact ⟨v,e1,bU, .inl ⟨hw,hrun⟩,hk',hs1⟩
   have qX:op.n5=false:=by
    cases op with
    |call f wF=>
     exfalso
     have hop:cop P o=some (.call f wF):=by
      cases m with
      |true=>simpa [ew,fH.er] using hop
      |false=>
       simp only [ew,Bool.false_eq_true,if_false,Option.map_eq_some_iff] at hop
       obtain ⟨op',h1,h2⟩:=hop
       rw [h1,Gi h2]
     obtain ⟨x,args,tys,ho, -, -⟩:=Bj hop
     rw [ho] at hq
     simp [eo] at hq
    |k7 k b x y=>
     exfalso
     obtain ⟨_,_,_,_,_,_,ho, -⟩:=DD (Bi hop)
     rw [ho] at hq
     simp [eo] at hq
    |nq n x=>exact absurd ⟨_,_,rfl⟩ hnq
    |_=>rfl
   have hk':match bL L ⟨o.dst,op,g⟩ e ah with|some (e',aH)=>ez P L zq e' aH K|none=>False:=by
    cases op<;>first|exact hk|cases qX
   rw [wD] at hk'
   cases hev:bL L ⟨o.dst,op,none⟩ e ah with
   |none=>rw [hev] at hk';exact hk'.elim
   |some ea=>
    obtain ⟨e1,bU⟩:=ea
    rw [hev] at hk'
    obtain ⟨v,w1,γ1,C1,hr,hγ,hs1,hx1,hst,Zn⟩:=Jb (ds:=[]) hs ji hop qX hev
    obtain ⟨rfl,rfl,rfl,hrun⟩:=Zn hq
    exact ⟨v,e1,bU, .inl ⟨hw,hrun⟩,hk',hs1⟩
 · rename_i uz
   refine ⟨undef,_,ah, .inr ⟨ie hs hg uz,rfl⟩,hk, ?_⟩
   cases ho:o.dst with
   |none=>exact hs
   |some d=>exact hs.Cb (ji d ho) (.bB _ [] #[] rfl (by simp)) (by simp [undef,TC]) rfl (by simp)
 · exact hk.elim
theorem Lu:∀(l r:List (Bool×Nat)) (zq:List aL),fo P ops (l++r)=some zq→∃a1 a2,fo P ops l=some a1∧fo P ops r=some a2∧zq=a1++a2:=by
 intro l
 induction l with
 |nil=>intro r zq h;exact ⟨[],zq,rfl,h,rfl⟩
 |cons p l ih=>
  intro r zq h
  obtain ⟨m,i⟩:=p
  simp only [List.cons_append,fo] at h
  split at h
  case h_2=>cases h
  rename_i o ho
  split at h
  case h_2=>cases h
  rename_i a g zq' h1 h2 h3
  injection h with h
  obtain ⟨a1,a2,g1,g2,rfl⟩:=ih r zq' h3
  exact ⟨⟨o.dst,a,g⟩::a1,a2,by simp [fo,ho,h1,h2,g1],g2,by rw [←h];rfl⟩
theorem Ji (l r:List (Bool×Nat)) (zq:List aL) (h:fo P ops (l++r)=some (zq.map aL.er)):∃a1 a2,fo P ops l=some (a1.map aL.er)∧fo P ops r=some (a2.map aL.er)∧zq=a1++a2:=by
 obtain ⟨b1,b2,h1,h2,h3⟩:=Lu _ _ _ h
 obtain ⟨a1,a2,rfl,rfl,rfl⟩:=List.map_eq_append_iff.1 h3
 exact ⟨a1,a2,h1,h2,rfl⟩
theorem O0:∀(l r:List aL) (e:Env) (ah:AH) (K:Env→AH→Prop),ez P L (l++r) e ah K=ez P L l e ah fun e ah=>ez P L r e ah K:=by
 intro l
 induction l with
 |nil=>intros;rfl
 |cons o l ih=>
  intro r e ah K
  simp only [List.cons_append,ez,ih]
theorem SD:∀(l r:List aL),ke N (l++r)=true→ke N l=true∧ke N r=true:=by
 intro l
 induction l with
 |nil=>intro r h;exact ⟨rfl,h⟩
 |cons o l ih=>
  intro r h
  simp only [List.cons_append,ke,Bool.and_eq_true] at h ⊢
  obtain ⟨h1,h2⟩:=ih r h.2
  exact ⟨⟨h.1,h1⟩,h2⟩
theorem N0 {o:Oper} {a:fH} {g:Option (Nat×Bool)} {zq:List aL} (h:ke N (⟨o.dst,a,g⟩::zq)=true):(∀x,o.dst=some x→x<N)∧ke N zq=true:=by
 simp only [ke,Bool.and_eq_true] at h
 refine ⟨fun x hx=> ?_,h.2⟩
 have:=h.1.1
 rw [hx] at this
 simpa using this
theorem Cf {i:Nat} {r:List (Bool×Nat)} {zq:List aL} (h:fo P ops ((m,i)::r)=some zq):
 ∃o a g zq',ops[i]? =some o∧ew P m o=some a∧gE ops o.guard=some g∧fo P ops r=some zq'∧zq=⟨o.dst,a,g⟩::zq':=by
 simp only [fo] at h
 split at h
 case h_2=>cases h
 rename_i o ho
 split at h
 case h_2=>cases h
 rename_i a g zq' h1 h2 h3
 injection h with h
 exact ⟨o,a,g,zq',ho,h1,h2,h3,h.symm⟩
theorem Aa {i:Nat} {r:List (Bool×Nat)} {zq:List aL} (h:fo P ops ((m,i)::r)=some (zq.map aL.er)):
 ∃o a g zq',ops[i]? =some o∧ew P m o=some (fH.er a)∧gE ops o.guard=some g∧fo P ops r=some (zq'.map aL.er)∧zq=⟨o.dst,a,g⟩::zq':=by
 obtain ⟨o,a,g,zq',h1,h2,h3,h4,h5⟩:=Cf h
 cases zq with
 |nil=>simp at h5
 |cons x xs=>
  simp only [List.map_cons,List.cons.injEq] at h5
  obtain ⟨d,op',g'⟩:=x
  obtain ⟨h6,h7⟩:=h5
  simp only [aL.er] at h6
  injection h6 with e1 e2 e3
  subst e1;subst e2;subst e3
  exact ⟨o,op',g',xs,h1,h2,h3,by rw [h4,h7],rfl⟩
theorem O1 {D:Nat→Bool} (hsel:Region.noSelect ops=true) (hQ:∀c a w,¬Q (.panic c) a w):∀(l:List Nat) (zq:List aL) (e:Env) (ah:AH) (γ:List Nat) (C:Nat→List Value) (ts:Array Value) (w:World) (listed:Array Bool) (n:Nat)
 (K:Env→AH→Prop),fo P ops (l.map fun i=>(m,i))=some (zq.map aL.er)→ke N zq=true→SR L N F γ C e ah ts w→ez P L zq e ah K→v8 P ops m D l listed=true→
 (∀e' aH γ' C' ts' w',K e' aH→γ <+: γ'→SR L N F γ' C' e' aH ts' w'→Ext F C w C' w'→wpS P ops Q (KA m γ' C' w') D n (l.foldl (fun a i=>a.setIfInBounds i true) listed) ⟨ts',[]⟩ w')→
 wpS P ops Q (KA m γ C w) D (l.length+n) listed ⟨ts,[]⟩ w:=by
 intro l
 induction l with
 |nil=>
  intro zq e ah γ C ts w listed n K hc hd hs hk hst cont
  simp only [List.map_nil,fo,Option.some.injEq] at hc
  obtain rfl:zq=[]:=by simpa using hc.symm
  have:=cont e ah γ C ts w hk (List.prefix_refl _) hs (Ext.refl ..)
  simpa using this
 |cons i l ih=>
  intro zq e ah γ C ts w listed n K hc hd hs hk hst cont
  obtain ⟨o,a,g,zq',ho,hop,hg,has,rfl⟩:=Aa hc
  obtain ⟨ji,hd'⟩:=N0 hd
  simp only [v8,ho,Bool.and_eq_true,Bool.or_eq_true] at hst
  obtain ⟨hst,DJ⟩:=hst
  have hlen:(i::l).length+n=(l.length+n)+1:=by simp;omega
  rw [hlen]
  rcases hst with ⟨⟨⟨⟨hq,hDi⟩,hr⟩,hfree⟩,wG⟩|⟨hok,hr⟩
  · obtain ⟨v,e1,bU,hy,Bg,hs1⟩:=OZ hq hop hg ji hs hk
    refine Ls ho (Region.noSelect_spec hsel) hQ (fun j=>j∈IT ops i) _ listed _ w (Region.free_spec ho hfree) (fun j hj=> ?_) (fun j hj Zl hju=> ?_) (by simpa using hr) hy (KA.refl ..) ?_
    · simp only [GI,GH,Bool.and_eq_true,List.all_eq_true] at wG
      obtain ⟨h1,h2⟩:=wG.1 j hj
      refine ⟨by simpa using h1, ?_⟩
      split at h2
      · rename_i oj Lt
        obtain ⟨x,hx,hb⟩:=Array.any_eq_true'.1 h2
        simp only [Bool.and_eq_true,Bool.or_eq_true,beq_iff_eq,List.contains_iff_mem] at hb
        exact ⟨oj,Lt,x,hx,hb.1,hb.2⟩
      · cases h2
    · simp only [GI,GH,Bool.and_eq_true,List.all_eq_true,List.mem_range] at wG
      have:=wG.2 j hj
      simpa [Zl,hju] using this
    · rw [Bl _ _ _ rfl]
      exact ih zq' e1 bU γ C _ w _ n K has hd' hs1 Bg DJ cont
  · have hr:Region.ready .any ops listed=[i]:=by simpa using hr
    refine ⟨fun h=>(by rw [hr] at h;cases h),fun j hj=> ?_⟩
    rw [hr] at hj
    obtain rfl:j=i:=by simpa using hj
    refine Jh ho hop hg ji hs hk fun v e1 bU γ1 C1 w1 Bg hγ hs1 hx1 hka=>⟨fun _=>hka hok, ?_⟩
    rw [Bl _ _ _ rfl]
    refine (ih zq' e1 bU γ1 C1 _ w1 _ n K has hd' hs1 Bg DJ fun e' aH γ' C' ts' w' g1 g2 g3 g4=> ?_).mono fun w2 h2=>(hka hok).trans (fun s b hs=>SC hγ hs) hx1.pre h2
    exact cont e' aH γ' C' ts' w' g1 (hγ.trans g2) g3 (hx1.trans g4)
theorem Fh:∀(l:List Nat) (listed:Array Bool) (j:Nat),(l.foldl (fun a i=>a.setIfInBounds i true) listed).getD j true=false→listed.getD j true=false∧j∉l:=by
 intro l
 induction l with
 |nil=>intro listed j h;exact ⟨h,by simp⟩
 |cons i l ih=>
  intro listed j h
  obtain ⟨h1,h2⟩:=ih _ j h
  refine ⟨gS h1, ?_⟩
  rw [List.mem_cons,not_or]
  refine ⟨fun hj=> ?_,h2⟩
  subst hj
  by_cases hlt:j<listed.size
  · simp [hlt] at h1
  · have:=gS h1
    simp [Array.getElem?_eq_none (Nat.le_of_not_lt hlt)] at this
theorem Lv (hsel:Region.noSelect ops=true) (hQ:∀c a w,¬Q (.panic c) a w):∀(st:List (Bool×List Nat)) (zq:List aL) (e:Env) (ah:AH) (γ:List Nat) (C:Nat→List Value) (ts:Array Value) (w:World) (listed:Array Bool)
 (K:Env→AH→Prop),fo P ops (sI st)=some (zq.map aL.er)→ke N zq=true→SR L N F γ C e ah ts w→ez P L zq e ah K→oB P ops st listed=true→
 (∀e' aH γ' C' ts' w',K e' aH→γ <+: γ'→SR L N F γ' C' e' aH ts' w'→Ext F C w C' w'→Q .normal ⟨ts',[]⟩ w')→
 wpAny P .any ops Q (sI st).length listed ⟨ts,[]⟩ w:=by
 intro st
 induction st with
 |nil=>
  intro zq e ah γ C ts w listed K hc hd hs hk hst cont
  simp only [sI,fo,Option.some.injEq] at hc
  obtain rfl:zq=[]:=by simpa using hc.symm
  exact ⟨by simpa [oB] using hst,cont e ah γ C ts w hk (List.prefix_refl _) hs (Ext.refl ..)⟩
 |cons s st ih=>
  intro zq e ah γ C ts w listed K hc hd hs hk hst cont
  obtain ⟨m,l⟩:=s
  simp only [sI] at hc ⊢
  obtain ⟨a1,a2,hc1,O2,rfl⟩:=Ji _ _ _ hc
  obtain ⟨hd1,Jg⟩:=SD _ _ hd
  rw [O0] at hk
  unfold oB at hst
  rw [Bool.and_eq_true] at hst
  obtain ⟨hst,DJ⟩:=hst
  have key:∀(Q':Nat→Bool),v8 P ops m Q' l listed=true→(∀j,Q' j= !l.contains j)→wpAny P .any ops Q (l.map (fun i=>(m,i))++sI st).length listed ⟨ts,[]⟩ w:=by
   intro D abG hD
   rw [List.length_append,List.length_map]
   refine (O1 hsel hQ l a1 e ah γ C ts w listed _ _ hc1 hd1 hs hk abG fun e' aH γ' C' ts' w' g1 g2 g3 g4=> ?_).any
   refine Ce (fun j hj=> ?_) (ih a2 e' aH γ' C' ts' w' _ K O2 Jg g3 g1 DJ fun e2 tq γ2 C2 Sz w2 q1 q2 q3 q4=>cont e2 tq γ2 C2 Sz w2 q1 (g2.trans q2) q3 (g4.trans q4))
   rw [hD]
   simpa using (Fh l listed j hj).2
  split at hst
  · rename_i i
    simp only [Bool.and_eq_true,beq_iff_eq] at hst
    obtain ⟨rfl,hr⟩:=hst
    obtain ⟨o,a,g,zq',ho,hop,hg,has,rfl⟩:=Aa hc1
    simp only [List.map_nil,fo,Option.some.injEq] at has
    obtain rfl:zq'=[]:=by simpa using has.symm
    obtain ⟨ji, -⟩:=N0 hd1
    refine ⟨fun h=>(by rw [hr] at h;cases h),fun j hj=> ?_⟩
    rw [hr] at hj
    obtain rfl:j=i:=by simpa using hj
    refine Jh ho hop hg ji hs hk fun v e1 bU γ1 C1 w1 Bg hγ hs1 hx1 hka=> ?_
    rw [Bl _ _ _ rfl]
    exact ih a2 e1 bU γ1 C1 _ w1 _ K O2 Jg hs1 Bg DJ fun e2 tq γ2 C2 Sz w2 q1 q2 q3 q4=>cont e2 tq γ2 C2 Sz w2 q1 (hγ.trans q2) q3 (hx1.trans q4)
  · exact key _ hst fun _=>rfl
theorem O3 {st:List (Bool×List Nat)} (h:sched P ops=some st):oB P ops st (Array.replicate ops.size false)=true∧(sI st).length=ops.size:=by
 have:zU P ops st=true:=by
  unfold sched at h
  split at h
  · rename_i s hs
    injection h with h;subst h
    exact (Option.filter_eq_some_iff.1 hs).2
  · exact (Option.filter_eq_some_iff.1 h).2
 simpa [zU] using this
theorem AW.drawn {id:Nat} {st:List (Bool×List Nat)} {zq:List aL} {Q:Exit→Env→AH→Prop} (hm:P.follows .mixedOrders=true) (hsel:Region.noSelect ops=true) (hst:sched P ops=some st) (hc:fo P ops (sI st)=some (zq.map aL.er))
 (hd:ke N zq=true) (h:ez P L zq e ah fun e ah=>Q .normal (keep L e) ah):AW P L N n0 (.region id ops true) Q e ah:=by
 intro F γ C ts w hs hn
 obtain ⟨h1,h2⟩:=O3 hst
 refine wp_mono (Q:=fun x a' w'=>x= .normal∧a'.defers=[]∧NG x∧∃e' aH γ' C',Q x e' aH∧γ.take n0 <+: γ'∧SR L N F γ' C' e' aH a'.tmps w'∧Ext F C w C' w') ?_ (fun _ _ _ h=>h.2)
 refine wp_region_any hm ?_
 have hw0:∀b,b<w.heap.size→({w with drawn:=w.drawn+1}:World).heap[b]? =w.heap[b]? :=fun _ _=>rfl
 obtain ⟨hs1,hx1⟩:=hs.grow (w':= {w with drawn:=w.drawn+1}) (C':=C) hw0 (Nat.le_refl _) (fun _ _=>rfl) (fun b hb hne=>absurd (wA hs hb) hne)
 have Cg:=fun q=>Lv (Q:=fun x a' w'=>x= .normal∧a'.defers=[]∧NG x∧∃e' aH γ' C',Q x e' aH∧γ.take n0 <+: γ'∧SR L N F γ' C' e' aH a'.tmps w'∧Ext F C w C' w') hsel (fun c a w hq=>by cases hq.1) st zq e ah γ C ts _ _ _ hc hd hs1 h h1 q
 rw [h2] at Cg
 refine Cg fun e' aH γ' C' ts' w' q1 q2 q3 q4=> ?_
 exact ⟨rfl,rfl,trivial,keep L e',aH,γ',C',q1,Gj q2,q3.keep L,hx1.trans q4⟩
end
end Go.Am
end
section
namespace Go.Am
open Go
variable [Tabs]
def qE (N:Nat):ax→Bool
 | .rg ops=>ke N ops
 | .seq a b| .cond _ a b=>qE N a&&qE N b
 | .blk _ c| .loop c=>qE N c
 |_=>true
def AX (P:Program) (L:List Nat) (N n0:Nat) (c:ax) (Q:Exit→Env→AH→Prop) (e:Env) (ah:AH):Prop:=
 ∀c',bM P c'=some c→AW P L N n0 c' Q e ah
def jv (P:Program) (L:List Nat) (N n0:Nat):ax→(Exit→Env→AH→Prop)→Env→AH→Prop
 | .skip,Q,e,ah=>Q .normal e ah
 | .ret,Q,e,ah=>Q .ret e ah
 | .exit i,Q,e,ah=>Q (.exit i) e ah
 | .rg ops,Q,e,ah=>ez P L ops e ah fun e ah=>Q .normal (keep L e) ah
 | .seq a b,Q,e,ah=>jv P L N n0 a (fun x e ah=>match x with| .normal=>jv P L N n0 b Q e ah|x=>Q x e ah) e ah
 | .cond c a b,Q,e,ah=>match ev e c with
   | .bool t=>if t then jv P L N n0 a Q e ah else jv P L N n0 b Q e ah
   |_=>False
 | .blk i c,Q,e,ah=>jv P L N n0 c (fun x e ah=>match x with| .exit j=>if j=i then Q .normal e ah else Q (.exit j) e ah|x=>Q x e ah) e ah
 | .loop c,Q,e,ah=>AX P L N n0 (.loop c) Q e ah
 | .sem c,Q,e,ah=>AX P L N n0 c Q e ah
section
variable {P:Program} {L:List Nat} {N n0:Nat} {e:Env} {ah:AH}
theorem AW.region {id:Nat} {ops:Array Oper} {zq:List aL} {Q:Exit→Env→AH→Prop} (hc:jy P ops ops.toList=some (zq.map aL.er)) (hd:ke N zq=true)
 (h:ez P L zq e ah fun e ah=>Q .normal (keep L e) ah):AW P L N n0 (.region id ops false) Q e ah:=by
 intro F γ C ts w hs hn
 refine wp_region_list (Wu ops.toList zq e ah _ F γ C ts w _ hc hd hs h ?_)
 intro e' aH γ' C' ts' w' hq hγ hs' hx
 exact ⟨rfl,trivial,keep L e',aH,γ',C',hq,Gj hγ,hs'.keep L,hx⟩
theorem oD:∀(c':Code) (c:ax) (Q:Exit→Env→AH→Prop) (e:Env) (ah:AH),bM P c'=some (erase c)→qE N (erase c)=true→jv P L N n0 c Q e ah→AW P L N n0 c' Q e ah:=by
 intro c'
 induction c' with
 |skip=>
  intro c Q e ah hc ho h
  cases c with
  |sem c0=>exact h _ hc
  |skip=>exact AW.skip h
  |_=>simp [bM,erase] at hc
 |label l=>
  intro c Q e ah hc ho h
  cases c with
  |sem c0=>exact h _ hc
  |skip=>exact AW.label h
  |_=>simp [bM,erase] at hc
 |ret=>
  intro c Q e ah hc ho h
  cases c with
  |sem c0=>exact h _ hc
  |ret=>exact AW.ret h
  |_=>simp [bM,erase] at hc
 |exit i=>
  intro c Q e ah hc ho h
  cases c with
  |sem c0=>exact h _ hc
  |exit j=>simp [bM,erase] at hc;subst hc;exact AW.exit h
  |_=>simp [bM,erase] at hc
 |region id ops draw=>
  intro c Q e ah hc ho h
  cases c with
  |sem c0=>exact h _ hc
  |rg zq=>
   simp only [bM,erase] at hc
   cases draw with
   |true=>
    simp only [if_true] at hc
    split at hc
    case isFalse=>cases hc
    rename_i hmn
    simp only [Bool.and_eq_true] at hmn
    split at hc
    case h_2=>cases hc
    rename_i st hst
    simp only [Option.map_eq_some_iff] at hc
    obtain ⟨zq',has,he⟩:=hc
    injection he with he
    subst he
    exact AW.drawn hmn.1 hmn.2 hst has (by simpa only [erase,qE,NX] using ho) h
   |false=>
    simp only [Bool.false_eq_true,if_false,Option.map_eq_some_iff] at hc
    obtain ⟨zq',has,he⟩:=hc
    injection he with he
    subst he
    exact AW.region has (by simpa only [erase,qE,NX] using ho) h
  |_=>simp only [bM,erase] at hc;repeat' (split at hc)<;>simp at hc
 |seq a b DK DL=>
  intro c Q e ah hc ho h
  cases c with
  |sem c0=>exact h _ hc
  |seq x y=>
   simp only [bM,erase] at hc
   split at hc
   case h_2=>cases hc
   rename_i a' b' ha hb
   injection hc with hc
   injection hc with h1 h2
   subst h1;subst h2
   simp only [erase,qE,Bool.and_eq_true] at ho
   refine AW.seq ((DK x _ e ah ha ho.1 h).mono fun x e ah hx=> ?_)
   cases x with
   |normal=>exact DL y _ e ah hb ho.2 hx
   |_=>exact hx
  |_=>simp only [bM,erase] at hc;split at hc<;>simp at hc
 |cond c0 a b DK DL=>
  intro c Q e ah hc ho h
  cases c with
  |sem c0=>exact h _ hc
  |cond c2 x y=>
   simp only [bM,erase] at hc
   split at hc
   case h_2=>cases hc
   rename_i c1 a' b' h1 ha hb
   injection hc with hc
   injection hc with g0 g1 g2
   subst g0;subst g1;subst g2
   simp only [erase,qE,Bool.and_eq_true] at ho
   simp only [jv] at h
   split at h
   case h_2=>exact h.elim
   rename_i t ht
   refine AW.cond h1 ht ?_
   cases t with
   |true=>exact DK x Q e ah ha ho.1 h
   |false=>exact DL y Q e ah hb ho.2 h
  |_=>simp only [bM,erase] at hc;split at hc<;>simp at hc
 |block i c0 ih=>
  intro c Q e ah hc ho h
  cases c with
  |sem c0=>exact h _ hc
  |blk j x=>
   simp only [bM,erase,Option.map_eq_some_iff] at hc
   obtain ⟨a,ha,he⟩:=hc
   injection he with h1 h2
   subst h1;subst h2
   exact AW.blk (ih x _ e ah ha ho h)
  |_=>simp [bM,erase] at hc
 |loop c0 ih=>
  intro c Q e ah hc ho h
  cases c with
  |sem c0=>exact h _ hc
  |loop x=>exact h _ hc
  |_=>simp [bM,erase] at hc
 |rangeFunc=>intro c Q e ah hc;simp [bM] at hc
 |goto=>intro c Q e ah hc;simp [bM] at hc
 |scope c0 ih=>intro c Q e ah hc ho h;exact AW.scope (ih c Q e ah hc ho h)
 |refuse=>intro c Q e ah hc;simp [bM] at hc
theorem Bm {o:Oper} {x:Ar} (h:cop P o=some (.qT x)):False:=by
 obtain ⟨d,oo,ty,pos,af,gd⟩:=o
 cases oo with
 |makeFunc fn first cs=>
  cases fn with
  |func f=>simp only [cop] at h;split at h<;>simp at h
  |_=>simp [cop] at h
 |call c=>
  obtain ⟨callee,args,tys⟩:=c
  simp only [cop] at h
  (repeat' (split at h))<;>(first|(cases h;done)|(simp at h;done))
 |_=>
  simp only [cop] at h
  first
   |cases h;done
   |(simp at h;done)
   |(repeat' (split at h))<;>(first|(cases h;done)|(simp at h;done))
theorem yy {o:Oper} {k b:Nat} {x y:Ar} (h:cop P o=some (.k7 k b x y)):False:=by
 obtain ⟨d,oo,ty,pos,af,gd⟩:=o
 cases oo with
 |makeFunc fn first cs=>
  cases fn with
  |func f=>simp only [cop] at h;split at h<;>simp at h
  |_=>simp [cop] at h
 |call c=>
  obtain ⟨callee,args,tys⟩:=c
  simp only [cop] at h
  (repeat' (split at h))<;>(first|(cases h;done)|(simp at h;done))
 |_=>
  simp only [cop] at h
  first
   |cases h;done
   |(simp at h;done)
   |(repeat' (split at h))<;>(first|(cases h;done)|(simp at h;done))
theorem Bn {o:Oper} {k:Nat} {x:Ar} (h:cop P o=some (.Be k x)):False:=by
 obtain ⟨d,oo,ty,pos,af,gd⟩:=o
 cases oo with
 |makeFunc fn first cs=>
  cases fn with
  |func f=>simp only [cop] at h;split at h<;>simp at h
  |_=>simp [cop] at h
 |call c=>
  obtain ⟨callee,args,tys⟩:=c
  simp only [cop] at h
  (repeat' (split at h))<;>(first|(cases h;done)|(simp at h;done))
 |_=>
  simp only [cop] at h
  first
   |cases h;done
   |(simp at h;done)
   |(repeat' (split at h))<;>(first|(cases h;done)|(simp at h;done))
theorem Wv {o:Oper} {op:fH} (h:cop P o=some op):op.er=op:=by
 cases op with
 |qT x=>exact (Bm h).elim
 |k7=>exact (yy h).elim
 |Be=>exact (Bn h).elim
 |_=>rfl
theorem SE {m:Bool} {o:Oper} {op:fH} (h:ew P m o=some op):op.er=op:=by
 cases op with
 |qT x=>
  exfalso
  cases m with
  |true=>exact Bm (by simpa [ew] using h)
  |false=>
   simp only [ew,Bool.false_eq_true,if_false,Option.map_eq_some_iff] at h
   obtain ⟨op',h1,h2⟩:=h
   cases op' with
   |jt hh y=>cases hh<;>cases h2
   |ld y n=>cases h2
   |qT y=>exact Bm h1
   |_=>cases h2
 |k7=>
  exfalso
  cases m with
  |true=>exact yy (by simpa [ew] using h)
  |false=>
   simp only [ew,Bool.false_eq_true,if_false,Option.map_eq_some_iff] at h
   obtain ⟨op',h1,h2⟩:=h
   cases op' with
   |jt hh y=>cases hh<;>cases h2
   |ld y n=>cases h2
   |k7=>exact yy h1
   |_=>cases h2
 |Be=>
  exfalso
  cases m with
  |true=>exact Bn (by simpa [ew] using h)
  |false=>
   simp only [ew,Bool.false_eq_true,if_false,Option.map_eq_some_iff] at h
   obtain ⟨op',h1,h2⟩:=h
   cases op' with
   |jt hh y=>cases hh<;>cases h2
   |ld y n=>cases h2
   |Be=>exact Bn h1
   |_=>cases h2
 |_=>rfl
theorem SF {ops:Array Oper}:∀(n:Nat) (l:List Oper) (zq:List aL),l.length≤n→jy P ops l=some zq→zq.map aL.er=zq:=by
 intro n
 induction n with
 |zero=>
  intro l zq hn h
  obtain rfl:l=[]:=List.eq_nil_of_length_eq_zero (by omega)
  simp only [jy,Option.some.injEq] at h;subst h;rfl
 |succ n ih=>
  intro l zq hn h
  rcases Cd h with ⟨rfl,rfl⟩|⟨o,o2,r,a,zq',rfl,h2,h3,rfl⟩|⟨o,o2,r,ag,zq',rfl,h2,h3,rfl⟩|⟨o,r,op,g,zq',rfl,h2,h3,h4,rfl⟩
  · rfl
  · obtain ⟨y,bs,hl⟩:=DH h2
    obtain ⟨d,op,g⟩:=a
    simp only at hl;subst hl
    simp only [List.map_cons,ih r zq' (by simp at hn;omega) h3];rfl
  · obtain ⟨d,y,bs,t,w,g,rfl, -⟩:=Bk h2
    simp only [List.cons_append,List.nil_append,List.map_cons,ih r zq' (by simp at hn;omega) h3];rfl
  · have he:op.er=op:=by
     rcases h2 with h2|rfl
     · exact Wv h2
     · rfl
    simp only [List.map_cons,ih r zq' (by simp at hn;omega) h4,aL.er,he]
theorem O4 {ops:Array Oper}:∀(l:List (Bool×Nat)) (zq:List aL),fo P ops l=some zq→zq.map aL.er=zq:=by
 intro l
 induction l with
 |nil=>intro zq h;simp only [fo,Option.some.injEq] at h;subst h;rfl
 |cons p r ih=>
  intro zq h
  obtain ⟨m,i⟩:=p
  obtain ⟨o,a,g,zq',h1,h2,h3,h4,rfl⟩:=Cf h
  simp only [List.map_cons,ih zq' h4,aL.er,SE h2]
theorem iY:∀(c':Code) (c:ax),bM P c'=some c→erase c=c:=by
 intro c'
 induction c' with
 |skip=>intro c hc;simp [bM] at hc;subst hc;rfl
 |label l=>intro c hc;simp [bM] at hc;subst hc;rfl
 |ret=>intro c hc;simp [bM] at hc;subst hc;rfl
 |exit i=>intro c hc;simp [bM] at hc;subst hc;rfl
 |region id ops draw=>
  intro c hc
  simp only [bM] at hc
  cases draw with
  |true=>
   simp only [if_true] at hc
   split at hc
   · split at hc
     · simp only [Option.map_eq_some_iff] at hc;obtain ⟨zq,has,rfl⟩:=hc;simp only [erase,O4 _ _ has]
     · cases hc
   · cases hc
  |false=>simp only [Bool.false_eq_true,if_false,Option.map_eq_some_iff] at hc;obtain ⟨zq,has,rfl⟩:=hc;simp only [erase,SF _ _ _ (Nat.le_refl _) has]
 |seq a b DK DL=>
  intro c hc
  simp only [bM] at hc
  split at hc
  case h_2=>cases hc
  rename_i a' b' ha hb
  injection hc with hc
  subst hc
  simp only [erase,DK _ ha,DL _ hb]
 |cond c0 a b DK DL=>
  intro c hc
  simp only [bM] at hc
  split at hc
  case h_2=>cases hc
  rename_i c1 a' b' h1 ha hb
  injection hc with hc
  subst hc
  simp only [erase,DK _ ha,DL _ hb]
 |block i c0 ih=>intro c hc;simp only [bM,Option.map_eq_some_iff] at hc;obtain ⟨a,ha,rfl⟩:=hc;simp only [erase,ih _ ha]
 |loop c0 ih=>intro c hc;simp only [bM,Option.map_eq_some_iff] at hc;obtain ⟨a,ha,rfl⟩:=hc;rfl
 |rangeFunc=>intro c hc;simp [bM] at hc
 |goto=>intro c hc;simp [bM] at hc
 |scope c0 ih=>intro c hc;exact ih c hc
 |refuse=>intro c hc;simp [bM] at hc
inductive It where
 |ops (r:List aL)
 |keep
 |code (c:ax)
 |blk (i:Nat)
def U (P:Program) (L:List Nat) (N n0:Nat):List It→(Exit→Env→AH→Prop)→Exit→Env→AH→Prop
 |[],Q,x,e,ah=>Q x e ah
 | .code c::t,Q, .normal,e,ah=>jv P L N n0 c (fun x e ah=>U P L N n0 t Q x e ah) e ah
 | .ops r::t,Q, .normal,e,ah=>ez P L r e ah fun e ah=>U P L N n0 t Q .normal e ah
 | .keep::t,Q, .normal,e,ah=>U P L N n0 t Q .normal (keep L e) ah
 | .blk i::t,Q, .exit j,e,ah=>if j=i then U P L N n0 t Q .normal e ah else U P L N n0 t Q (.exit j) e ah
 | .blk _::t,Q,x,e,ah=>U P L N n0 t Q x e ah
 | .code _::t,Q,x,e,ah=>U P L N n0 t Q x e ah
 | .ops _::t,Q,x,e,ah=>U P L N n0 t Q x e ah
 | .keep::t,Q,x,e,ah=>U P L N n0 t Q x e ah
def UK (P:Program) (L:List Nat) (N n0 f:Nat) (zq:List AV) (d:Option Nat) (r:List aL) (t:List It) (Q:Exit→Env→AH→Prop) (e:Env) (ah:AH):Prop:=
 aG P f zq ah fun v aH=>U P L N n0 (.ops r::t) Q .normal (aI L (wE e) d v.df) aH
def UF (P:Program) (L:List Nat) (N n0:Nat) (zq:List Ar) (d:Option Nat) (r:List aL) (t:List It) (Q:Exit→Env→AH→Prop) (e:Env) (ah:AH):AV→Prop
 | .fn f caps=>if aU caps then UK P L N n0 f (zq.map (fun x=>(ev e x).sh)++caps.map AV.s1) d r t Q e ah else False
 |_=>False
def US (P:Program) (L:List Nat) (N n0:Nat) (r:List aL) (t:List It) (Q:Exit→Env→AH→Prop):Option (Env×AH)→Prop
 |some (e,ah)=>U P L N n0 (.ops r::t) Q .normal e ah
 |none=>False
def UG (P:Program) (L:List Nat) (N n0:Nat) (o:aL) (r:List aL) (t:List It) (Q:Exit→Env→AH→Prop) (e:Env) (ah:AH):Option Bool→Prop
 |some true=>match o.op with
  | .call f zq=>UF P L N n0 zq o.d r t Q e ah (ev e f)
  | .k7 k b x y=>oH L o.d k b x y e ah fun e ah=>U P L N n0 (.ops r::t) Q .normal e ah
  | .nq n x=>Dp L o.d n x e ah fun e ah=>U P L N n0 (.ops r::t) Q .normal e ah
  |_=>US P L N n0 r t Q (bL L o e ah)
 |some false=>U P L N n0 (.ops r::t) Q .normal (oO e o.d) ah
 |none=>False
def UC (P:Program) (L:List Nat) (N n0:Nat) (a b:ax) (t:List It) (Q:Exit→Env→AH→Prop) (e:Env) (ah:AH):AV→Prop
 | .bool true=>U P L N n0 (.code a::t) Q .normal e ah
 | .bool false=>U P L N n0 (.code b::t) Q .normal e ah
 |_=>False
def UX (P:Program) (L:List Nat) (N n0:Nat) (c:ax) (t:List It) (Q:Exit→Env→AH→Prop) (e:Env) (ah:AH):Prop:=
 AX P L N n0 c (fun x e ah=>U P L N n0 t Q x e ah) e ah
variable {t:List It} {Q:Exit→Env→AH→Prop} {x:Exit}
@[simp] theorem Zo:U P L N n0 [] Q x e ah=Q x e ah:=rfl
@[simp] theorem Ww:U P L N n0 (.code .skip::t) Q .normal e ah=U P L N n0 t Q .normal e ah:=rfl
@[simp] theorem Zp:U P L N n0 (.code .ret::t) Q .normal e ah=U P L N n0 t Q .ret e ah:=rfl
@[simp] theorem Wy {i:Nat}:U P L N n0 (.code (.exit i)::t) Q .normal e ah=U P L N n0 t Q (.exit i) e ah:=rfl
theorem SG (b:ax):(fun x e ah=>match x with| .normal=>jv P L N n0 b (fun x e ah=>U P L N n0 t Q x e ah) e ah|x=>U P L N n0 t Q x e ah)=fun x e ah=>U P L N n0 (.code b::t) Q x e ah:=by
 funext x e ah
 cases x<;>rfl
@[simp] theorem Zq {a b:ax}:U P L N n0 (.code (.seq a b)::t) Q .normal e ah=U P L N n0 (.code a:: .code b::t) Q .normal e ah:=by
  simp only [U,jv]
  exact congrArg (fun K=>jv P L N n0 a K e ah) (SG b)
@[simp] theorem Zr {i:Nat} {c:ax}:U P L N n0 (.code (.blk i c)::t) Q .normal e ah=U P L N n0 (.code c:: .blk i::t) Q .normal e ah:=by
  have:(fun x e ah=>match x with| .exit j=>if j=i then U P L N n0 t Q .normal e ah else U P L N n0 t Q (.exit j) e ah|x=>U P L N n0 t Q x e ah)=fun x e ah=>U P L N n0 (.blk i::t) Q x e ah:=by
   funext x e ah
   cases x<;>rfl
  exact congrArg (fun K=>jv P L N n0 c K e ah) this
@[simp] theorem abH {ops:List aL}:U P L N n0 (.code (.rg ops)::t) Q .normal e ah=U P L N n0 (.ops ops:: .keep::t) Q .normal e ah:=rfl
@[simp] theorem Wz {c:ax}:U P L N n0 (.code (.loop c)::t) Q .normal e ah=UX P L N n0 (.loop c) t Q e ah:=rfl
@[simp] theorem Zs {c:ax}:U P L N n0 (.code (.sem c)::t) Q .normal e ah=UX P L N n0 c t Q e ah:=rfl
@[simp] theorem WA {c:Ar} {a b:ax}:U P L N n0 (.code (.cond c a b)::t) Q .normal e ah=UC P L N n0 a b t Q e ah (ev e c):=by
  simp only [U,jv]
  cases ev e c with
  |bool t=>cases t<;>rfl
  |_=>rfl
@[simp] theorem WC:U P L N n0 (.keep::t) Q .normal e ah=U P L N n0 t Q .normal (keep L e) ah:=rfl
@[simp] theorem SH {i:Nat}:U P L N n0 (.blk i::t) Q .normal e ah=U P L N n0 t Q .normal e ah:=rfl
@[simp] theorem SI {i:Nat}:U P L N n0 (.blk i::t) Q .ret e ah=U P L N n0 t Q .ret e ah:=rfl
@[simp] theorem SJ {i j:Nat}:U P L N n0 (.blk i::t) Q (.exit j) e ah=if j=i then U P L N n0 t Q .normal e ah else U P L N n0 t Q (.exit j) e ah:=rfl
@[simp] theorem O5 {c:ax}:U P L N n0 (.code c::t) Q .ret e ah=U P L N n0 t Q .ret e ah:=by cases c<;>rfl
@[simp] theorem O6 {c:ax} {j:Nat}:U P L N n0 (.code c::t) Q (.exit j) e ah=U P L N n0 t Q (.exit j) e ah:=by cases c<;>rfl
@[simp] theorem Lw:U P L N n0 (.ops []::t) Q .normal e ah=U P L N n0 t Q .normal e ah:=rfl
@[simp] theorem Zt {o:aL} {r:List aL}:U P L N n0 (.ops (o::r)::t) Q .normal e ah=UG P L N n0 o r t Q e ah (gj e o):=by
  simp only [U,ez]
  cases gj e o with
  |none=>rfl
  |some b=>
   cases b with
   |false=>rfl
   |true=>
    obtain ⟨d,op,g⟩:=o
    cases op with
    |call f zq=>
     simp only [z8,UG]
     cases ev e f with
     |fn f' caps=>
      simp only [UF,UK]
      by_cases hf:aU caps=true
      · simp only [hf,if_true,true_and];rfl
      · simp [hf]
     |_=>rfl
    |k7 k b x y=>rfl
    |nq n x=>rfl
    |_=>
     simp only [z8,UG,US]
     cases bL L ⟨d,_,g⟩ e ah with
     |none=>rfl
     |some ea=>obtain ⟨e',aH⟩:=ea;rfl
@[simp] theorem SK {r:List aL} {e':Env} {aH:AH}:US P L N n0 r t Q (some (e',aH))=U P L N n0 (.ops r::t) Q .normal e' aH:=rfl
@[simp] theorem O7 {o:aL} {r:List aL}:UG P L N n0 o r t Q e ah (some false)=U P L N n0 (.ops r::t) Q .normal (oO e o.d) ah:=rfl
@[simp] theorem SL {a b:ax}:UC P L N n0 a b t Q e ah (.bool true)=U P L N n0 (.code a::t) Q .normal e ah:=rfl
@[simp] theorem O8 {a b:ax}:UC P L N n0 a b t Q e ah (.bool false)=U P L N n0 (.code b::t) Q .normal e ah:=rfl
@[simp] theorem Zu {zq:List Ar} {d:Option Nat} {r:List aL} {f:Nat} {caps:List AV}:UF P L N n0 zq d r t Q e ah (.fn f caps)=
 if aU caps then UK P L N n0 f (zq.map (fun x=>(ev e x).sh)++caps.map AV.s1) d r t Q e ah else False:=rfl
theorem abi {a b:ax} {v:Bool} (h1:v=true→U P L N n0 (.code a::t) Q .normal e ah) (h2:v=false→U P L N n0 (.code b::t) Q .normal e ah):UC P L N n0 a b t Q e ah (.bool v):=by
 cases v
 · exact h2 rfl
 · exact h1 rfl
theorem ado {f:Nat} {zq:List AV} {d:Option Nat} {r:List aL} {R:AV→AH→Prop} (h:aG P f zq ah R) (hk:∀v aH,R v aH→U P L N n0 (.ops r::t) Q .normal (aI L (wE e) d v.df) aH):
 UK P L N n0 f zq d r t Q e ah:=h.mono hk
theorem abI {c:ax} (I:Nat→Env→AH→Prop) {k0:Nat} (ho:qE N c=true)
 (round:∀k e ah,I k e ah→U P L N n0 [.code c] (fun x e' aH=>match x with| .normal=>∃k',k'<k∧I k' e' aH|x=>U P L N n0 t Q x e' aH) .normal e ah) (h0:I k0 e ah):
 UX P L N n0 (.loop c) t Q e ah:=by
 intro c'
 induction c' with
 |loop c0 _=>
  intro cc
  simp only [bM,Option.map_eq_some_iff] at cc
  obtain ⟨a,ha,he⟩:=cc
  injection he with he
  subst he
  exact AW.loop I (fun k e ah hI=>oD c0 a _ e ah (by rw [iY c0 a ha];exact ha) (by rw [iY c0 a ha];exact ho) (round k e ah hI)) h0
 |scope c0 ih=>exact fun cc=>AW.scope (ih cc)
 |region id ops draw=>intro cc;simp only [bM] at cc;repeat' (split at cc)<;>simp at cc
 |block i c0=>intro cc;simp only [bM,Option.map_eq_some_iff] at cc;obtain ⟨a, -,h⟩:=cc;cases h
 |seq a b=>intro cc;simp only [bM] at cc;split at cc<;>simp at cc
 |cond a b c=>intro cc;simp only [bM] at cc;split at cc<;>simp at cc
 |_=>intro cc;simp [bM] at cc
end
end Go.Am
end
section
namespace Go.Am
open Go
variable [Tabs]
def AV.eK:AV→Bool
 | .bB _=>true
 |_=>false
def gm (P:Program) (e:Env) (ah:AH):List ResultVar→Option (List AV)
 |[]=>some []
 | .tmp t::r=>if (get e t).eK then none else match gm P e ah r with
   |some vs=>some (get e t::vs)
   |none=>none
 | .cell a ty::r=>if tok P ty then
  match get e a with
  | .ptr s o=>match ah[s]? with
    |some cs=>match kg (tn P ty) s o cs,gm P e ah r with
     |some v,some vs=>some (v.sh::vs)
     |_,_=>none
    |none=>none
  |_=>none
   else none
def fin:List AV→AV
 |[a]=>a.df
 |l=> .bB (l.map AV.sh)
inductive Cl (n:Nat):AV→Prop
 |ptr (s o):s<n→Cl n (.ptr s o)
 |fn (f cs):(∀a∈cs,Cl n a)→Cl n (.fn f cs)
 |agg (cs):(∀a∈cs,Cl n a)→Cl n (.agg cs)
 |bB (cs):(∀a∈cs,Cl n a)→Cl n (.bB cs)
 |v (x):Cl n (.v x)
 |int (k i):Cl n (.int k i)
 |bool (b):Cl n (.bool b)
 |str (l):Cl n (.str l)
 |sl (t k xs):Cl n (.sl t k xs)
 |ep (e o):Cl n (.ep e o)
 |cz (s k o m):s<n→Cl n (.cz s k o m)
 |qV (s k):Cl n (.cu s k 0 0)
 |cu (s k m c):s<n→Cl n (.cu s k m c)
 |dQ:Cl n .dQ
 |un:Cl n .un
@[simp] theorem WD {n s k o m:Nat}:Cl n (.cz s k o m)↔s<n:=⟨fun h=>by cases h;assumption, .cz _ _ _ _⟩
@[simp] theorem ac6 {n:Nat}:Cl n .dQ:= .dQ
@[simp] theorem WI {n s o:Nat}:Cl n (.ptr s o)↔s<n:=⟨fun h=>by cases h;assumption, .ptr _ _⟩
@[simp] theorem Zv {n f:Nat} {cs:List AV}:Cl n (.fn f cs)↔∀a∈cs,Cl n a:=⟨fun h=>by cases h;assumption, .fn _ _⟩
@[simp] theorem WJ {n:Nat} {cs:List AV}:Cl n (.agg cs)↔∀a∈cs,Cl n a:=⟨fun h=>by cases h;assumption, .agg _⟩
@[simp] theorem WK {n:Nat} {cs:List AV}:Cl n (.bB cs)↔∀a∈cs,Cl n a:=⟨fun h=>by cases h;assumption, .bB _⟩
@[simp] theorem adP {n:Nat} {x:Value}:Cl n (.v x):= .v _
@[simp] theorem ac7 {n:Nat} {k:IntKind} {i:Int}:Cl n (.int k i):= .int ..
@[simp] theorem abJ {n:Nat} {b:Bool}:Cl n (.bool b):= .bool _
@[simp] theorem ac8 {n:Nat} {l:List UInt8}:Cl n (.str l):= .str _
@[simp] theorem adp {n:Nat} {t:Tg} {k:Nat} {xs:List AV}:Cl n (.sl t k xs):= .sl ..
@[simp] theorem adq {n:Nat} {e:AV} {o:Nat}:Cl n (.ep e o):= .ep ..
@[simp] theorem adQ {n:Nat}:Cl n .un:= .un
def kV (n:Nat) (ah:AH):Prop:=∀(s:Nat) (cs:List AV),ah[s]? =some cs→∀a∈cs,Cl n a
def Lx (P:Program) (n:Nat) (rs:List ResultVar) (R:AV→AH→Prop) (x:Exit) (e:Env) (ah:AH):Prop:=
 (x= .normal∨x= .ret)∧match gm P e ah rs with
  |some vs=>Cl n (fin vs)∧kV n (ah.take n)∧n≤ah.length∧R (fin vs) (ah.take n)
  |none=>False
section
variable {P:Program} {L:List Nat} {N n0:Nat} {F:Nat→Prop} {γ:List Nat} {C C':Nat→List Value} {e:Env} {ah:AH} {ts:Array Value} {w w':World}
theorem VR.take {a:AV} {v:Value} {n:Nat} (h:VR C γ a v):Cl n a→VR C (γ.take n) a v:=by
 induction h with
 |v _ _ hs=>intro _;exact .v _ _ hs
 |un=>intro _;exact .un ..
 |int=>intro _;exact .int ..
 |bool=>intro _;exact .bool ..
 |str=>intro _;exact .str ..
 |ptr _ s o b hb=>intro hn;exact .ptr _ _ _ _ (by rw [List.getElem?_take_of_lt (WI.1 hn)];exact hb)
 |cz _ s k o n b c hb hn'=>intro hn;exact .cz _ _ _ _ _ _ _ (by rw [List.getElem?_take_of_lt (WD.1 hn)];exact hb) hn'
 |qV=>intro _;exact .qV ..
 |cu _ s k n b c hb hn'=>
  intro hn
  cases hn with
  |qV=>exact .qV ..
  |cu _ _ _ _ hs=>exact .cu _ _ _ _ _ _ (by rw [List.getElem?_take_of_lt hs];exact hb) hn'
 |dQ=>intro _;exact .dQ ..
 |sJ=>intro _;exact .sJ ..
 |sl _ _ _ _ b o n c hn' hc hk hl ho hx=>intro _;exact .sl _ _ _ _ _ _ _ _ hn' hc hk hl ho hx
 |ep _ _ _ b p hl hx=>intro _;exact .ep _ _ _ _ _ hl hx
 |agg _ cs vs hl hx ih=>intro hn;exact .agg _ _ _ hl fun i a hi=>ih i a hi (WJ.1 hn a (List.mem_of_getElem? hi))
 |bB _ cs vs hl hx ih=>intro hn;exact .bB _ _ _ hl fun i a hi=>ih i a hi (WK.1 hn a (List.mem_of_getElem? hi))
 |fn _ f cs vs hl hx ih=>intro hn;exact .fn _ _ _ _ hl fun i a hi=>ih i a hi (Zv.1 hn a (List.mem_of_getElem? hi))
theorem VR.cl {a:AV} {v:Value} (h:VR C γ a v):Cl γ.length a:=by
 have mem:∀ {cs:List AV} {a:AV},a∈cs→∃i:Nat,cs[i]? =some a:=fun ha=>by
  obtain ⟨i,hi,rfl⟩:=List.getElem_of_mem ha;exact ⟨i,List.getElem?_eq_getElem hi⟩
 induction h with
 |ptr _ s o b hb=>exact .ptr _ _ (List.getElem?_eq_some_iff.1 hb).1
 |agg _ cs vs hl hx ih=>exact .agg _ fun a ha=>by obtain ⟨i,hi⟩:=mem ha;exact ih i a hi
 |bB _ cs vs hl hx ih=>exact .bB _ fun a ha=>by obtain ⟨i,hi⟩:=mem ha;exact ih i a hi
 |fn _ f cs vs hl hx ih=>exact .fn _ _ fun a ha=>by obtain ⟨i,hi⟩:=mem ha;exact ih i a hi
 |cz _ s k o n b c hb _=>exact .cz _ _ _ _ (List.getElem?_eq_some_iff.1 hb).1
 |qV=>exact .qV ..
 |cu _ s k n b c hb _=>exact .cu _ _ _ _ (List.getElem?_eq_some_iff.1 hb).1
 |dQ=>exact .dQ
 |v=>exact .v _
 |un=>exact .un
 |int=>exact .int ..
 |bool=>exact .bool _
 |str=>exact .str _
 |sJ=>exact .sl ..
 |sl=>exact .sl ..
 |ep=>exact .ep ..
theorem Ly (h:SR L N F γ C e ah ts w) {a s o:Nat} {ty:TypeId} (ht:tok P ty=true) (hp:get e a= .ptr s o) {cs:List AV} (hs:ah[s]? =some cs) {v:AV} (hl:kg (tn P ty) s o cs=some v):
 ∃u ad,ts.getD a undef= .pointer (some ad)∧(loadVar ty ad).run P w= .ok u w∧VR C γ v.sh u∧TC w C v.sh u:=by
 have hv:=(h.env a).1
 rw [hp] at hv
 obtain ⟨b,hb,hv⟩:=hv.iH
 obtain ⟨vs,tv,hh,hsz,hcell⟩:=h.mem.obj s b cs hs hb
 have wm:=dF hh
 cases hn:tn P ty with
 |some n=>
  simp only [hn,kg] at hl
  split at hl
  case isFalse=>cases hl
  rename_i hq
  obtain ⟨hq,hfl⟩:=hq
  injection hl with hl
  subst hl
  obtain ⟨r,hr,hrs,hrc⟩:=(run_load (w:=w) ht (b:=b) (o:=o)).1 n hn (fun j hj=>by
   rw [wm];exact ⟨_,Array.getElem?_eq_getElem (by omega)⟩)
  obtain rfl:r=vs.extract o (o+n):=by
   apply Array.ext_getElem?
   intro j
   by_cases hj:j<n
   · rw [hrc j hj,wm,Array.getElem?_extract,if_pos (by omega)]
   · rw [Array.getElem?_eq_none (by omega),Array.getElem?_eq_none (by simp;omega)]
  refine ⟨_,_,hv,hr, ?_, ?_⟩
  · exact (Wk.sh _).vr ((Wk.n4 _ Wk.bu _).vr (Dw hsz (fun i a hi=>(hcell i a hi).1) hq))
  · exact (Wk.sh _).tc ((Wk.n4 _ Wk.bu _).tc (wj hsz (fun i a hi hin=>zW (hcell _ a hi).2 (iV hfl (i:=i) (by rw [List.getElem?_take_of_lt hin,List.getElem?_drop];exact hi))) hq))
 |none=>
  simp only [hn,kg] at hl
  have wo:∀c,cs[o]? =some c→w.cell? ⟨b,o,none⟩=some (vs.getD o undef):=by
   intro c iW
   have hlt:o<vs.size:=Nat.lt_of_lt_of_le (List.getElem?_eq_some_iff.1 iW).1 hsz
   rw [wm];simp [Array.getD_eq_getD_getElem?,Array.getElem?_eq_getElem hlt]
  split at hl
  · rename_i k xs iW
    injection hl with hl
    subst hl
    have hr:=(run_load (w:=w) ht (b:=b) (o:=o)).2 _ hn (wo _ iW)
    exact ⟨_,_,hv,hr,(hcell o _ iW).1.ju _,by simp only [AV.sh,AV.bu,Tg.sh];cases (vs.getD o undef)<;>trivial⟩
  · rename_i c hno iW
    split at hl
    case isFalse=>cases hl
    rename_i hfl
    injection hl with hl
    subst hl
    have hr:=(run_load (w:=w) ht (b:=b) (o:=o)).2 _ hn (wo _ iW)
    refine ⟨_,_,hv,hr, ?_, ?_⟩
    · exact (Wk.sh _).vr ((Wk.jW (Wk.bu c)).vr (hcell o _ iW).1)
    · exact (Wk.sh _).tc (Df (zW (hcell o _ iW).2 hfl))
  · cases hl
theorem WN (h:SR L N F γ C e ah ts w):∀(rs:List ResultVar) (vs:List AV),gm P e ah rs=some vs→
 ∃us:List Value,(rs.mapM fun| .tmp t=>pure (ts.getD t undef)| .cell a t=>do loadVar t (←asAddr (ts.getD a undef)):Sem (List Value)).run P w= .ok us w∧us.length=vs.length∧
  (∀(i:Nat) (a:AV),vs[i]? =some a→VR C γ a (us.getD i undef)∧TC w C a (us.getD i undef))∧
  (∀(i:Nat) (a:AV) (b:Nat),vs[i]? =some a→bS a (us.getD i undef)=some b→∃t,blk γ e ah ts w (.tmp t) b)∧∀(i:Nat) (a:AV),vs[i]? =some a→a.eK=false:=by
 intro rs
 induction rs with
 |nil=>intro vs hr;simp [gm] at hr;subst hr;exact ⟨[],rfl,rfl,by simp,by simp,by simp⟩
 |cons r rs ih=>
  intro vs hr
  cases r with
  |tmp t=>
   simp only [gm] at hr
   split at hr
   case isTrue=>cases hr
   rename_i hnt
   split at hr
   case h_2=>cases hr
   rename_i vs' hvs
   injection hr with hr
   subst hr
   obtain ⟨us,h1,h2,h3,h4,h5⟩:=ih vs' hvs
   refine ⟨ts.getD t undef::us, ?_,by simp [h2],fun i a hi=> ?_,fun i a b hi hb=> ?_,fun i a hi=>by
    cases i with
    |zero=>simp at hi;subst hi;simpa using hnt
    |succ i=>exact h5 i a (by simpa using hi)⟩
   · simp only [List.mapM_cons,Sem.run_bind,Sem.run_pure,Result.andThen_ok,h1]
   · cases i with
     |zero=>simp at hi;subst hi;exact h.env t
     |succ i=>exact h3 i a (by simpa using hi)
   · cases i with
     |zero=>simp at hi;subst hi;exact ⟨t,hb⟩
     |succ i=>exact h4 i a b (by simpa using hi) hb
  |cell a ty=>
   simp only [gm] at hr
   split at hr
   case isFalse=>cases hr
   rename_i ht
   split at hr
   case h_2=>cases hr
   rename_i s o hp
   split at hr
   case h_2=>cases hr
   rename_i cs hs
   split at hr
   case h_2=>cases hr
   rename_i v vs' hv hvs
   injection hr with hr
   subst hr
   obtain ⟨us,h1,h2,h3,h4,h5⟩:=ih vs' hvs
   obtain ⟨u,ad,g1,g2,g3,g4⟩:=Ly (P:=P) h ht hp hs hv
   have hnt:v.sh.eK=false:=by
    unfold kg at hv
    split at hv
    · split at hv<;>simp at hv;subst hv;rfl
    · split at hv
      · injection hv with hv;subst hv;rfl
      · split at hv<;>simp at hv
        rename_i c _ _ hf
        subst hv
        cases c<;>first|rfl|cases hf
      · cases hv
   refine ⟨u::us, ?_,by simp [h2],fun i a hi=> ?_,fun i a b hi hb=> ?_,fun i a hi=>by
    cases i with
    |zero=>simp at hi;subst hi;exact hnt
    |succ i=>exact h5 i a (by simpa using hi)⟩
   · have hA:(asAddr (ts.getD a undef)).run P w= .ok ad w:=by rw [g1];rfl
     simp only [List.mapM_cons,Sem.run_bind,hA,Sem.run_pure,Result.andThen_ok,g2,h1]
   · cases i with
     |zero=>simp at hi;subst hi;exact ⟨g3,g4⟩
     |succ i=>exact h3 i a (by simpa using hi)
   · cases i with
     |zero=>simp at hi;subst hi;rw [ic _ (gH (tj v))] at hb;cases hb
     |succ i=>exact h4 i a b (by simpa using hi) hb
def YB (P:Program) (n0:Nat) (rs:List ResultVar) (R:AV→AH→Prop) (x:Exit) (e:Env) (ah:AH):Prop:=
 (∃m,n0≤m∧Lx P m rs R x e ah)∨((x= .normal∨x= .ret)∧match gm P e ah rs with
  |some vs=>R (fin vs) ah
  |none=>False)
theorem aG.N1 {f:Nat} {fn:Func} {c:Code} {ac:ax} {args:List AV} {R:AV→AH→Prop} (L:List Nat) (hf:P.funcs[f]? =some fn) (hname:fn.name≠ "runtime.NumGoroutine") (hb:fn.body=some c)
 (hc:bM P c=some ac) (ho:qE fn.ntmps ac=true) (hN:args.length≤fn.ntmps)
 (h:kV ah.length ah→(∀a∈args,∀s o,a= .ptr s o→s<ah.length)→AX P L fn.ntmps ah.length ac (YB P ah.length fn.results.toList R) (eS 0 args) ah):aG P f args ah R:=by
 refine ⟨by simp [iX,hf,hb,hname],fun F γ C w vs hs=> ?_⟩
 have hlen:=hs.mem.len
 have hcl:kV ah.length ah:=by
  intro s cs Jj
  have hlt:s<γ.length:=by rw [hlen];exact (List.getElem?_eq_some_iff.1 Jj).1
  obtain ⟨us,ty, -,hsz,hcell⟩:=hs.mem.obj s _ cs Jj (List.getElem?_eq_getElem hlt)
  intro a ha
  obtain ⟨i,hi,rfl⟩:=List.getElem_of_mem ha
  rw [←hlen]
  exact (hcell i _ (List.getElem?_eq_getElem hi)).1.cl
 have hargs:∀a∈args,∀s o,a= .ptr s o→s<ah.length:=by
  intro a ha s o he
  obtain ⟨i,hi,rfl⟩:=List.getElem_of_mem ha
  have:=(hs.env i).1
  rw [eC] at this
  simp only [Nat.zero_le,if_true,Nat.sub_zero,List.getElem?_eq_getElem hi,Option.getD_some,he] at this
  obtain ⟨b,hb, -⟩:=this.iH
  rw [←hlen];exact (List.getElem?_eq_some_iff.1 hb).1
 have hU:=h hcl hargs
 have hW:AW P L fn.ntmps ah.length c (YB P ah.length fn.results.toList R) (eS 0 args) ah:=hU c hc
 have hvs:vs.size=args.length:=hs.sz
 have hs2:SR L fn.ntmps F γ C (eS 0 args) ah (vs++Array.replicate (fn.ntmps - vs.size) undef) w:=by
  have hg:∀t,t<vs.size→(vs++Array.replicate (fn.ntmps - vs.size) undef).getD t undef=vs.getD t undef:=by
   intro t ht;simp [Array.getD_eq_getD_getElem?,Array.getElem?_append,ht]
  have hx:∀t,¬t<vs.size→get (eS 0 args) t= .un:=by
   intro t ht;rw [eC];simp only [Nat.zero_le,if_true,Nat.sub_zero];rw [List.getElem?_eq_none (by omega)];rfl
  have hbk:∀p b,blk γ (eS 0 args) ah (vs++Array.replicate (fn.ntmps - vs.size) undef) w p b→blk γ (eS 0 args) ah vs w p b:=by
   intro p b hp
   cases p with
   |obj s=>exact hp
   |cell s i=>exact hp
   |tmp t=>
    by_cases ht:t<vs.size
    · simp only [blk,hg t ht] at hp ⊢;exact hp
    · simp only [blk,hx t ht,bS] at hp;cases hp
  refine ⟨hs.mem,by simp;omega,fun t=> ?_,fun p q b hp hq=>hs.ey p q b (hbk p b hp) (hbk q b hq),fun p b hp=>hs.nf p b (hbk p b hp),hs.j9,fun t l k xs htl=> ?_⟩
  · by_cases ht:t<vs.size
    · rw [hg t ht];exact hs.env t
    · rw [hx t ht];exact ⟨.un ..,by generalize (vs++Array.replicate (fn.ntmps - vs.size) undef).getD t undef=v;cases v<;>trivial⟩
  · by_cases ht:t<vs.size
    · have:=hs.fr t l k xs htl
      cases l with
      |tmp u=>have:=this.1;simp at this
      |cell s o=>intro cs a b h1 h2 h3 h4;rw [hg t ht];exact this cs a b h1 h2 h3 h4
    · rw [hx t ht] at htl;cases htl
 refine calls_of_wp hf hb (wp_mono (hW F γ C _ w hs2 (by omega)) ?_)
 rintro x ⟨ts',ds'⟩ w' ⟨rfl, -,e',aH,γ',C',Zw,hγ,hs',abK⟩
 have hx:x= .normal∨x= .ret:=by
  rcases Zw with ⟨m, -,h, -⟩|⟨h, -⟩<;>exact h
 obtain ⟨wH,Lf⟩:∃wH,gm P e' aH fn.results.toList=some wH:=by
  rcases Zw with ⟨m, -, -,h⟩|⟨-,h⟩
  · split at h
    · rename_i vs hv;exact ⟨vs,hv⟩
    · exact h.elim
  · split at h
    · rename_i vs hv;exact ⟨vs,hv⟩
    · exact h.elim
 obtain ⟨us,u1,u2,u3,u4,u5⟩:=WN (P:=P) hs' _ _ Lf
 have hres:(results fn ts').run P w'= .ok (if us.length=1 then us.getD 0 undef else .tuple us.toArray) w':=by
  unfold results
  rw [Array.mapM_eq_mapM_toList,map_eq_pure_bind]
  simp only [Sem.run_bind,Sem.run_pure]
  refine (congrArg (fun r=>Result.andThen (Result.andThen r fun (a:List Value) w'=> .ok a.toArray w') fun (a:Array Value) w'=> .ok (if h:a.size=1 then a[0] else Value.tuple a) w') u1).trans ?_
  simp only [Result.andThen_ok]
  by_cases h1:us.length=1
  · rw [if_pos h1]
    have:us.toArray.size=1:=by simpa using h1
    rw [dif_pos this]
    simp [List.getD_eq_getElem?_getD,h1]
  · rw [if_neg h1]
    have:¬us.toArray.size=1:=by simpa using h1
    rw [dif_neg this]
 generalize hv:(if us.length=1 then us.getD 0 undef else .tuple us.toArray)=v at hres
 have Cg:VR C' γ' (fin wH) v∧TC w' C' (fin wH) v∧(∀b,bS (fin wH) v=some b→∃t,blk γ' e' aH ts' w' (.tmp t) b)∧∀l k xs,fin wH≠ .sl (.fr l) k xs:=by
  by_cases h1:us.length=1
  · rw [if_pos h1] at hv
    obtain ⟨a,rfl⟩:∃a,wH=[a]:=by
     cases wH with
     |nil=>rw [h1] at u2;simp at u2
     |cons a r=>cases r with
      |nil=>exact ⟨a,rfl⟩
      |cons b r=>rw [h1] at u2;simp at u2
    have h3:=u3 0 a rfl
    rw [hv] at h3
    refine ⟨(Wk.df a).vr h3.1,(Wk.df a).tc h3.2,fun b hb=>u4 0 a b rfl ?_,fun l k xs=>Lc a l k xs⟩
    rw [hv];exact (Wk.df a).own hb
  · rw [if_neg h1] at hv
    have hf:fin wH= .bB (wH.map AV.sh):=by
     cases wH with
     |nil=>rfl
     |cons a r=>cases r with
      |nil=>exact absurd (by simpa using u2) h1
      |cons b r=>rfl
    rw [hf]
    subst hv
    refine ⟨.bB _ _ _ (by simp [u2]) fun i a hi=> ?_,fun i a hi=> ?_,fun b hb=>by simp [bS] at hb,by simp⟩
    · rw [List.getElem?_map] at hi
      cases hq:wH[i]? with
      |none=>rw [hq] at hi;simp at hi
      |some y=>
       rw [hq] at hi
       obtain rfl:y.sh=a:=by simpa using hi
       have:=(Wk.sh y).vr (u3 i y hq).1
       rwa [←gI]
    · rw [List.getElem?_map] at hi
      cases hq:wH[i]? with
      |none=>rw [hq] at hi;simp at hi
      |some y=>
       rw [hq] at hi
       obtain rfl:y.sh=a:=by simpa using hi
       have h3:=(Wk.sh y).tc (u3 i y hq).2
       have h4:=(Wk.sh y).vr (u3 i y hq).1
       rw [←gI]
       show GM y.sh (us.getD i undef)
       have h5:y.sh.eK=false:=by have:=u5 i y hq;cases y<;>first|rfl|cases this
       generalize us.getD i undef=u at h3 h4
       generalize hz:y.sh=z at h3 h4 h5
       cases z with
       |agg cs=>obtain ⟨vs,rfl, -⟩:=h4.l5;exact h3
       |bB cs=>cases h5
       |sl t k xs=>cases t<;>cases u<;>first|trivial|exact h3|(exfalso;cases y<;>simp [AV.sh,AV.bu] at hz;done)|skip
       |_=>cases u<;>trivial
 obtain ⟨m,hm,hrc,abL,adR,hRR⟩:∃m,ah.length≤m∧Cl m (fin wH)∧kV m (aH.take m)∧m≤aH.length∧R (fin wH) (aH.take m):=by
  rcases Zw with ⟨m,hm, -,h⟩|⟨-,h⟩
  · rw [Lf] at h
    exact ⟨m,hm,h⟩
  · rw [Lf] at h
    have hl:aH.take aH.length=aH:=List.take_length
    refine ⟨aH.length, ?_, ?_, ?_,Nat.le_refl _,by rw [hl];exact h⟩
    · rw [←hs'.mem.len]
      have:=hγ.length_le
      rw [←hlen,List.take_length] at this
      omega
    · rw [←hs'.mem.len];exact Cg.1.cl
    · rw [hl]
      intro s cs Jj
      have hlt:s<γ'.length:=by rw [hs'.mem.len];exact (List.getElem?_eq_some_iff.1 Jj).1
      obtain ⟨us',ty', -,adS,Dh⟩:=hs'.mem.obj s _ cs Jj (List.getElem?_eq_getElem hlt)
      intro a ha
      obtain ⟨i,hi,rfl⟩:=List.getElem_of_mem ha
      rw [←hs'.mem.len]
      exact (Dh i _ (List.getElem?_eq_getElem hi)).1.cl
 have hm0:ah.length≤m:=hm
 have hlen':=hs'.mem.len
 have hpre:γ <+: γ'.take m:=by
  rw [←hlen,List.take_length] at hγ
  obtain ⟨q,rfl⟩:=hγ
  rw [List.take_append]
  rw [List.take_of_length_le (l:=γ) (i:=m) (by omega)]
  exact List.prefix_append _ _
 have hbp:bodyPost P fn (fun en w'=>∃r v aH γ' C',en= .returned v∧R r aH∧γ <+: γ'∧SR [] 1 F γ' C' [(0,r)] aH #[v] w'∧Ext F C w C' w') x ⟨ts',[]⟩ w':=by
  have key:∃v',(results fn ts').run P w'= .ok v' w'∧∃r v aH γ' C',Ending.returned v'= .returned v∧R r aH∧γ <+: γ'∧SR [] 1 F γ' C' [(0,r)] aH #[v] w'∧Ext F C w C' w':=by
   refine ⟨v,hres,fin wH,v,aH.take m,γ'.take m,C',rfl,hRR,hpre, ?_,abK⟩
   have hgt:∀(s b:Nat),(γ'.take m)[s]? =some b→γ'[s]? =some b∧s<m:=by
    intro s b hsb
    by_cases WO:s<m
    · rw [List.getElem?_take_of_lt WO] at hsb;exact ⟨hsb,WO⟩
    · rw [List.getElem?_eq_none (by simp;omega)] at hsb;cases hsb
   have yz:∀(s:Nat) (cs:List AV),(aH.take m)[s]? =some cs→aH[s]? =some cs:=by
    intro s cs hsb
    by_cases WO:s<m
    · rwa [List.getElem?_take_of_lt WO] at hsb
    · rw [List.getElem?_eq_none (by simp;omega)] at hsb;cases hsb
   have hbk:∀p b,blk (γ'.take m) [(0,fin wH)] (aH.take m) #[v] w' p b→(∃t,p= .tmp 0∧blk γ' e' aH ts' w' (.tmp t) b)∨((∀t,p≠ .tmp t)∧blk γ' e' aH ts' w' p b):=by
    intro p b hp
    cases p with
    |obj s=>exact .inr ⟨by simp,(hgt s b hp).1⟩
    |cell s i=>
     obtain ⟨cs,a,b0,g1,g2,g3,g4⟩:=hp
     exact .inr ⟨by simp,cs,a,b0,yz s cs g1,g2,(hgt s b0 g3).1,g4⟩
    |tmp t=>
     simp only [blk,get] at hp
     by_cases ht:0=t
     · subst ht
       simp only [if_true] at hp
       obtain ⟨t,ht⟩:=Cg.2.2.1 b hp
       exact .inl ⟨t,rfl,ht⟩
     · rw [if_neg ht] at hp;simp [bS] at hp
   refine ⟨⟨by simp [hlen'],fun s b cs g1 g2=> ?_,hs'.mem.wh,fun s b cs g1 g0 hsb=>hs'.mem.u0 s b cs (yz s cs g1) g0 (hgt s b hsb).1,fun s b cs us ty fr g1 hsb hh=>hs'.mem.Dt s b cs us ty fr (yz s cs g1) (hgt s b hsb).1 hh⟩,rfl,fun t=> ?_,fun p q b hp hq=> ?_,fun p b hp=> ?_,hs'.j9,fun t l k xs htl=> ?_⟩
   · obtain ⟨vs,ty,q1,q2,q3⟩:=hs'.mem.obj s b cs (yz s cs g1) (hgt s b g2).1
     exact ⟨vs,ty,q1,q2,fun i a hi=>⟨(q3 i a hi).1.take (abL s cs g1 a (List.mem_of_getElem? hi)),(q3 i a hi).2⟩⟩
   · by_cases ht:0=t
     · subst ht
       simp only [get,if_true]
       exact ⟨Cg.1.take hrc,Cg.2.1⟩
     · simp only [get,if_neg ht]
       exact ⟨.un ..,by generalize (#[v]:Array Value).getD t undef=u;cases u<;>trivial⟩
   · rcases hbk p b hp with ⟨t,rfl,h1⟩|⟨h1,h2⟩<;>rcases hbk q b hq with ⟨u,rfl,h3⟩|⟨h3,h4⟩
     · rfl
     · exact absurd (hs'.ey _ _ b h1 h4) (fun e=>h3 t e.symm)
     · exact absurd (hs'.ey _ _ b h2 h3) (h1 u)
     · exact hs'.ey p q b h2 h4
   · rcases hbk p b hp with ⟨t,rfl,h1⟩|⟨h1,h2⟩
     · exact hs'.nf _ b h1
     · exact hs'.nf p b h2
   · by_cases ht:0=t
     · subst ht
       simp only [get,if_true] at htl
       exact absurd htl (Cg.2.2.2 l k xs)
     · simp only [get,if_neg ht] at htl;cases htl
  rcases hx with rfl|rfl
  · exact ⟨rfl,key⟩
  · exact ⟨rfl,key⟩
 exact hbp
theorem AX.up {c:ax} {Q Q':Exit→Env→AH→Prop} {e:Env} {ah:AH} {n0:Nat} (h:AX P L N n0 c Q e ah) (hq:∀x e ah,Q x e ah→Q' x e ah):AX P L N n0 c Q' e ah:=fun c' cc=>(h c' cc).mono hq
theorem aG.enter {f:Nat} {fn:Func} {c:Code} {ac:ax} {args:List AV} {R:AV→AH→Prop} (L:List Nat) (m:Nat) (hf:P.funcs[f]? =some fn) (hname:fn.name≠ "runtime.NumGoroutine") (hb:fn.body=some c)
 (hc:bM P c=some ac) (ho:qE fn.ntmps ac=true) (hN:args.length≤fn.ntmps) (hm:ah.length≤m)
 (h:kV ah.length ah→(∀a∈args,∀s o,a= .ptr s o→s<ah.length)→U P L fn.ntmps ah.length [.code ac] (Lx P m fn.results.toList R) .normal (eS 0 args) ah):aG P f args ah R:=
 aG.N1 L hf hname hb hc ho hN fun h1 h2=>AX.up (fun c' cc=>oD c' ac _ _ _ (by rw [iY c ac hc];exact cc) (by rw [iY c ac hc];exact ho) (h h1 h2)) fun x e H hR=> .inl ⟨m,hm,hR⟩
end
end Go.Am
end
section
namespace Go.Am
open Go
variable [Tabs]
def bN (P:Program) (f N:Nat) (rs:List ResultVar) (ac:ax):Prop:=
 ∃fn c,P.funcs[f]? =some fn∧fn.name≠ "runtime.NumGoroutine" ∧fn.body=some c∧bM P c=some ac∧fn.ntmps=N∧fn.results.toList=rs
theorem aG.go {P:Program} {f N:Nat} {rs:List ResultVar} {ac:ax} (hF:bN P f N rs ac) {args:List AV} {ah:AH} {R:AV→AH→Prop} (L:List Nat) (m:Nat)
 (ho:qE N ac=true) (hN:args.length≤N) (hm:ah.length≤m)
 (h:kV ah.length ah→(∀a∈args,∀s o,a= .ptr s o→s<ah.length)→U P L N ah.length [.code ac] (Lx P m rs R) .normal (eS 0 args) ah):aG P f args ah R:=by
 obtain ⟨fn,c,h1,h2,h3,h4,rfl,rfl⟩:=hF
 exact aG.enter L m h1 h2 h3 h4 ho hN hm h
section
variable {P:Program} {L:List Nat} {N n0:Nat} {e:Env} {ah:AH} {t:List It} {Q:Exit→Env→AH→Prop} {r:List aL} {d:Option Nat} {g:Option (Nat×Bool)}
def Zx (want:Bool):AV→Option Bool
 | .bool b=>some (b==want)
 | .bB []=>some false
 |_=>none
theorem WQ {op:fH}:gj e ⟨d,op,none⟩=some true:=rfl
theorem WR {op:fH} {x:Nat} {want:Bool}:gj e ⟨d,op,some (x,want)⟩=Zx want (get e x):=by
 simp only [gj]
 cases get e x with
 |bB cs=>cases cs<;>rfl
 |_=>rfl
theorem WT {want:Bool}:Zx want (.bB [])=some false:=rfl
theorem O9 {b want:Bool}:Zx want (.bool b)=some (b==want):=rfl
theorem abM {x:Ar}:UG P L N n0 ⟨d, .mv x,g⟩ r t Q e ah (some true)=U P L N n0 (It.ops r::t) Q Exit.normal (aI L e d (cp L x (ev e x))) ah:=rfl
def jj (P:Program) (L:List Nat) (N n0:Nat) (e:Env) (ah:AH) (d:Option Nat) (r:List aL) (t:List It) (Q:Exit→Env→AH→Prop) (x:Ar):AV→Prop
 | .sl .own k xs=>match x with
   | .t y=>U P L N n0 (.ops r::t) Q .normal (aI L (put e y (.sl .n k xs)) d (.sl .own k xs)) ah
   | .c a=>U P L N n0 (.ops r::t) Q .normal (aI L e d (cp L (.c a) (.sl .own k xs))) ah
 |a=>U P L N n0 (.ops r::t) Q .normal (aI L e d (cp L x a)) ah
theorem Zy {x:Ar}:UG P L N n0 ⟨d, .aP x,g⟩ r t Q e ah (some true)=jj P L N n0 e ah d r t Q x (ev e x):=by
 simp only [UG,bL]
 cases h:ev e x with
 |sl tg k xs=>cases tg<;>cases x<;>rfl
 |_=>rfl
def Lz (L:List Nat) (e:Env) (ah:AH) (d:Option Nat) (a b:Ar):AV→Option (Env×AH)
 | .bool t=>some (aI L e d (if t then (ev e a).sh else (ev e b).sh),ah)
 |_=>none
theorem WX {c a b:Ar}:UG P L N n0 ⟨d, .pick c a b,g⟩ r t Q e ah (some true)=US P L N n0 r t Q (Lz L e ah d a b (ev e c)):=by
 simp only [UG,bL];cases ev e c<;>rfl
theorem SM {cs:List AV}:UG P L N n0 ⟨d, .alloc cs,g⟩ r t Q e ah (some true)=U P L N n0 (.ops r::t) Q .normal (aI L e d (.ptr ah.length 0)) (ah++[cs]):=rfl
theorem Zz {x:Ar}:UG P L N n0 ⟨d, .box x,g⟩ r t Q e ah (some true)=US P L N n0 r t Q (if b7 (ev e x).cells then some (aI L e d (.ptr ah.length 0),ah++[(ev e x).cells.map AV.bu]) else none):=rfl
theorem SN {z:List AV} {ps:List (Nat×Nat×Ar)}:UG P L N n0 ⟨d, .build z ps,g⟩ r t Q e ah (some true)=US P L N n0 r t Q ((fill e z ps).map fun cs=>(aI L e d (.agg cs),ah)):=rfl
theorem ZA {k:Nat} {ps:List Ar}:UG P L N n0 ⟨d, .qD k ps,g⟩ r t Q e ah (some true)=US P L N n0 r t Q (if ps.all (fun p=>(ev e p).cells.length=k&&b7 (ev e p).cells&&fW (ev e p).cells) then some (aI L e d (.sl .ex k (ps.map fun p=>(ev e p).s0)),ah) else none):=rfl
theorem adr {y:Nat} {bs:List UInt8}:UG P L N n0 ⟨d, .lit y bs,g⟩ r t Q e ah (some true)=U P L N n0 (It.ops r::t) Q Exit.normal (put (aI L e d (.sl .ex 1 (bs.map b8))) y .un) ah:=rfl
def SO (L:List Nat) (e:Env) (ah:AH) (d:Option Nat):AV→Option (Env×AH)
 | .ptr s p=>some (aI L e d (.ptr s p),ah)
 | .ep a p=>some (aI L e d (.ep a p),ah)
 |_=>none
theorem ZB {x:Ar}:UG P L N n0 ⟨d, .iy x,g⟩ r t Q e ah (some true)=US P L N n0 r t Q (SO L e ah d (ev e x)):=by
 simp only [UG,bL];cases ev e x<;>rfl
def SP (L:List Nat) (e:Env) (ah:AH) (d:Option Nat) (q:Nat):AV→Option (Env×AH)
 | .ptr s p=>some (aI L e d (.ptr s (p+q)),ah)
 | .ep a p=>some (aI L e d (.ep a (p+q)),ah)
 |_=>none
theorem ZC {x:Ar} {q:Nat}:UG P L N n0 ⟨d, .cF x q,g⟩ r t Q e ah (some true)=US P L N n0 r t Q (SP L e ah d q (ev e x)):=by
 simp only [UG,bL];cases ev e x<;>rfl
theorem ac9 {x:Ar} {q:Nat} {n:Option Nat}:UG P L N n0 ⟨d, .F8 x q n,g⟩ r t Q e ah (some true)=US P L N n0 r t Q (bL L ⟨d, .F8 x q n,none⟩ e ah):=by simp only [UG,wD L d _ g]
def WY (L:List Nat) (d:Option Nat) (n:Option Nat) (s p:Nat) (e:Env) (ah:AH):Option (List AV)→Option (Env×AH)
 |some cs=>(kg n s p cs).map fun a=>(aI L e d a,ah)
 |none=>none
def Pa (L:List Nat) (d:Option Nat) (e:Env) (ah:AH):Option AV→Option (Env×AH)
 |some c=>if c.flat then some (aI L e d c.s1,ah) else none
 |none=>none
def G2 (L:List Nat) (d:Option Nat) (n:Option Nat) (e:Env) (ah:AH):AV→Option (Env×AH)
 | .ptr s p=>WY L d n s p e ah (ah[s]?)
 | .ep a p=>match n with
   |some n=>if p+n≤a.cells.length∧aU ((a.cells.drop p).take n) then some (aI L e d (.agg (((a.cells.drop p).take n).map AV.s1)),ah) else none
   |none=>Pa L d e ah (a.cells[p]?)
 |_=>none
theorem abN {x:Ar} {n:Option Nat}:UG P L N n0 ⟨d, .ld x n,g⟩ r t Q e ah (some true)=US P L N n0 r t Q (G2 L d n e ah (ev e x)):=by
 simp only [UG,bL]
 cases ev e x with
 |ptr s p=>simp only [G2,WY];cases ah[s]? <;>rfl
 |ep a p=>cases n with
  |some n=>rfl
  |none=>simp only [G2,Pa];cases a.cells[p]? <;>rfl
 |_=>rfl
def dP (s o:Nat):Option AV→Option AV
 |some (.sl .own k xs)=>some (.sl (.fr (.cell s o)) k xs)
 |some a=>if a.flat then some a.bu else none
 |none=>none
theorem bF {s o:Nat} {cs:List AV}:kg none s o cs=dP s o (cs[o]?):=by
 simp only [kg,dP]
 cases cs[o]? with
 |none=>rfl
 |some a=>cases a with
  |sl t k xs=>cases t<;>rfl
  |_=>rfl
theorem bG {n s o:Nat} {cs:List AV}:kg (some n) s o cs=if o+n≤cs.length∧aU ((cs.drop o).take n) then some (.agg (((cs.drop o).take n).map AV.bu)) else none:=rfl
theorem ads {x:Ar} {n:Option Nat}:UG P L N n0 ⟨d, .E9 x n,g⟩ r t Q e ah (some true)=US P L N n0 r t Q (bL L ⟨d, .E9 x n,none⟩ e ah):=by simp only [UG,wD L d _ g]
theorem adT {a x:Ar} {n:Nat}:UG P L N n0 ⟨d, .st a x n,g⟩ r t Q e ah (some true)=US P L N n0 r t Q (bL L ⟨none, .st a x n,none⟩ e ah):=by simp only [UG,bL]
theorem ZD {op:BinOp} {x y:Ar}:UG P L N n0 ⟨d, .bin op x y,g⟩ r t Q e ah (some true)=US P L N n0 r t Q ((bw op (ev e x) (ev e y)).map fun a=>(aI L e d a,ah)):=rfl
theorem abO {neq:Bool} {x y:Ar}:UG P L N n0 ⟨d, .bq neq x y,g⟩ r t Q e ah (some true)=US P L N n0 r t Q ((K7 (ev e x) (ev e y)).map fun b=>(aI L e d (.bool (if neq then !b else b)),ah)):=rfl
theorem abP {neq:Bool} {x y:Ar}:UG P L N n0 ⟨d, .pq neq x y,g⟩ r t Q e ah (some true)=US P L N n0 r t Q ((K8 (ev e x) (ev e y)).map fun b=>(aI L e d (.bool (if neq then !b else b)),ah)):=rfl
def YC (L:List Nat) (e:Env) (ah:AH) (d:Option Nat) (ks:List Pk) (neq:Bool):AV→AV→Option (Env×AH)
 | .agg zq, .agg bs=>(cm ks zq bs).map fun b=>(aI L e d (.bool (if neq then !b else b)),ah)
 |_,_=>none
theorem ZE {ks:List Pk} {neq:Bool} {x y:Ar}:UG P L N n0 ⟨d, .seq ks neq x y,g⟩ r t Q e ah (some true)=US P L N n0 r t Q (YC L e ah d ks neq (ev e x) (ev e y)):=by
 simp only [UG,bL];cases ev e x<;>cases ev e y<;>rfl
theorem abQ {op:UnOp} {x:Ar}:UG P L N n0 ⟨d, .un op x,g⟩ r t Q e ah (some true)=US P L N n0 r t Q ((La op (ev e x)).map fun a=>(aI L e d a,ah)):=rfl
def N2 (L:List Nat) (e:Env) (ah:AH) (d:Option Nat) (p n:Nat) (cs:List AV):Option (Env×AH):=
 if p+n≤cs.length then (bytesOf ((cs.drop p).take n)).map fun l=>(aI L e d (.str l),ah) else none
def SQ (L:List Nat) (e:Env) (ah:AH) (d:Option Nat) (p n:Nat):Option (List AV)→Option (Env×AH)
 |some cs=>N2 L e ah d p n cs
 |none=>none
def DM (L:List Nat) (e:Env) (ah:AH) (d:Option Nat) (h:Cv):AV→Option (Env×AH)
 | .cz s k p n=>match h with
   | .bs=>if k=1 then SQ L e ah d p n (ah[s]?) else none
   |h=>(fc h (.cz s k p n)).map fun a=>(aI L e d a,ah)
 |a=>(fc h a).map fun a=>(aI L e d a,ah)
theorem ZF {h:Cv} {x:Ar}:UG P L N n0 ⟨d, .jt h x,g⟩ r t Q e ah (some true)=US P L N n0 r t Q (DM L e ah d h (ev e x)):=by
 simp only [UG,bL]
 congr 1
 cases ev e x with
 |cz s k p n=>
  cases h with
  |bs=>
   simp only [DM]
   split
   · cases ah[s]? <;>rfl
   · rfl
  |_=>rfl
 |_=>cases h<;>rfl
theorem WZ {x:Ar}:UG P L N n0 ⟨d, .IN x,g⟩ r t Q e ah (some true)=US P L N n0 r t Q ((fc .bs (ev e x)).map fun a=>(aI L e d a,ah)):=rfl
def SS (L:List Nat) (e:Env) (ah:AH) (d:Option Nat):AV→Option (Env×AH)
 | .str l=>some (aI L e d (.cz ah.length 1 0 l.length),ah++[l.map b8])
 |_=>none
theorem W0 {x:Ar}:UG P L N n0 ⟨d, .qT x,g⟩ r t Q e ah (some true)=US P L N n0 r t Q (SS L e ah d (ev e x)):=by
 simp only [UG,bL];cases ev e x<;>rfl
theorem abR {neq:Bool} {x y:Ar}:UG P L N n0 ⟨d, .iq neq x y,g⟩ r t Q e ah (some true)=US P L N n0 r t Q ((K9 (ev e x) (ev e y)).map fun b=>(aI L e d (.bool (if neq then !b else b)),ah)):=rfl
theorem abS {mx:Bool} {x y:Ar}:UG P L N n0 ⟨d, .mm mx x y,g⟩ r t Q e ah (some true)=US P L N n0 r t Q ((IP mx (ev e x) (ev e y)).map fun a=>(aI L e d a,ah)):=rfl
theorem ZG {f:Nat} {cs:List Ar}:UG P L N n0 ⟨d, .VN f cs,g⟩ r t Q e ah (some true)=U P L N n0 (It.ops r::t) Q Exit.normal (aI L e d (.fn f (cs.map (ev e)))) ah:=rfl
def u6:AV→Option Nat
 | .int _ i=>if 0≤i then some i.toNat else none
 |_=>none
theorem adt {dflt:Nat}:kU e dflt none=some dflt:=rfl
theorem SU {dflt:Nat} {x:Ar}:kU e dflt (some x)=u6 (ev e x):=by
 simp only [kU];cases ev e x<;>rfl
def N3 (L:List Nat) (e:Env) (ah:AH) (d:Option Nat) (l:List UInt8):Option Nat→Option Nat→Option (Env×AH)
 |some i,some j=>if i≤j∧j≤l.length then some (aI L e d (.str ((l.take j).drop i)),ah) else none
 |_,_=>none
def N4 (L:List Nat) (e:Env) (ah:AH) (d:Option Nat) (lo hi:Option Ar):AV→Option (Env×AH)
 | .str l=>N3 L e ah d l (kU e 0 lo) (kU e l.length hi)
 |_=>none
theorem ZH {x:Ar} {lo hi:Option Ar}:UG P L N n0 ⟨d, .gR x lo hi,g⟩ r t Q e ah (some true)=US P L N n0 r t Q (N4 L e ah d lo hi (ev e x)):=by
 simp only [UG,bL]
 cases ev e x with
 |str l=>simp only [N4,N3];cases kU e 0 lo<;>cases kU e l.length hi<;>rfl
 |_=>rfl
def N5 (L:List Nat) (e:Env) (ah:AH) (d:Option Nat) (k k':Nat) (xs:List AV):Option Nat→Option Nat→Option (Env×AH)
 |some i,some j=>if k'=k∧i≤j∧j≤xs.length then some (aI L e d (.sl .n k ((xs.take j).drop i)),ah) else none
 |_,_=>none
def N6 (L:List Nat) (e:Env) (ah:AH) (d:Option Nat) (k:Nat) (lo hi:Option Ar):AV→Option (Env×AH)
 | .sl _ k' xs=>N5 L e ah d k k' xs (kU e 0 lo) (kU e xs.length hi)
 |_=>none
theorem ZI {k:Nat} {x:Ar} {lo hi:Option Ar}:UG P L N n0 ⟨d, .slc k x lo hi none,g⟩ r t Q e ah (some true)=US P L N n0 r t Q (N6 L e ah d k lo hi (ev e x)):=by
 simp only [UG,bL]
 cases ev e x with
 |sl t k' xs=>simp only [N6,N5];cases kU e 0 lo<;>cases kU e xs.length hi<;>rfl
 |_=>rfl
def G3 (L:List Nat) (e:Env) (ah:AH) (d:Option Nat) (k k':Nat) (xs:List AV):Option Nat→Option Nat→Option Nat→Option (Env×AH)
 |some i,some j,some m=>if k'=k∧i≤j∧j=m∧m≤xs.length then some (aI L e d (.sl .ex k ((xs.take j).drop i)),ah) else none
 |_,_,_=>none
def G4 (L:List Nat) (e:Env) (ah:AH) (d:Option Nat) (k:Nat) (lo:Option Ar) (hi m:Ar):AV→Option (Env×AH)
 | .sl _ k' xs=>G3 L e ah d k k' xs (kU e 0 lo) (kU e xs.length (some hi)) (kU e 0 (some m))
 |_=>none
theorem W3 {k:Nat} {x:Ar} {lo:Option Ar} {hi m:Ar}:UG P L N n0 ⟨d, .slc k x lo (some hi) (some m),g⟩ r t Q e ah (some true)=US P L N n0 r t Q (G4 L e ah d k lo hi m (ev e x)):=by
 simp only [UG,bL]
 cases ev e x with
 |sl t k' xs=>
  simp only [G4,G3]
  cases kU e 0 lo with
  |none=>rfl
  |some i=>
   cases kU e xs.length (some hi) with
   |none=>rfl
   |some j=>
    simp only [Option.isNone_some,Bool.false_eq_true,if_false]
    cases kU e 0 (some m)<;>rfl
 |_=>rfl
def N7 (L:List Nat) (e:Env) (ah:AH) (d:Option Nat) (k k':Nat):Option AV→Option (Env×AH)
 |some a=>if k'=k then some (aI L e d (.ep a 0),ah) else none
 |none=>none
def Ab (L:List Nat) (e:Env) (ah:AH) (d:Option Nat) (k:Nat):AV→AV→Option (Env×AH)
 | .sl _ k' xs, .int _ i=>if 0≤i then N7 L e ah d k k' (xs[i.toNat]?) else none
 | .cz s k' p n, .int _ i=>if 0≤i∧i<n∧k'=k then some (aI L e d (.ptr s (p+i.toNat*k)),ah) else none
 | .cu s k' n _, .int _ i=>if 0≤i∧i<n∧k'=k then some (aI L e d (.ptr s (i.toNat*k)),ah) else none
 |_,_=>none
def Jk (L:List Nat) (e:Env) (ah:AH) (d:Option Nat) (k m:Nat):AV→AV→Option (Env×AH)
 | .ptr s p, .int _ i=>if 0≤i∧i<m then some (aI L e d (.ptr s (p+i.toNat*k)),ah) else none
 | .ep a p, .int _ i=>if 0≤i∧i<m then some (aI L e d (.ep a (p+i.toNat*k)),ah) else none
 |_,_=>none
theorem ZJ {k m:Nat} {x i:Ar}:UG P L N n0 ⟨d, .VO k m x i,g⟩ r t Q e ah (some true)=US P L N n0 r t Q (Jk L e ah d k m (ev e x) (ev e i)):=by
 simp only [UG,bL]
 cases ev e x with
 |ptr s p=>cases ev e i<;>rfl
 |ep a p=>cases ev e i<;>rfl
 |_=>cases ev e i<;>rfl
def N8 (L:List Nat) (e:Env) (ah:AH) (d:Option Nat) (u k:Nat) (xs:List AV):AV→Option (Env×AH)
 | .sl .own k2 zs=>if k2=k then some (aI L (put e u (.sl .n k2 zs)) d (.sl .own k xs),ah) else none
 |_=>none
def Jl (L:List Nat) (e:Env) (ah:AH) (d:Option Nat) (k:Nat):AV→Option (Env×AH)
 | .sl .ex k' []=>if k'=k then some (aI L e d (.cu 0 k 0 0),ah) else none
 | .cu s k' n c=>some (aI L e d (.cu s k' n c),ah)
 | .sl (.fr (.tmp u)) k' xs=>N8 L e ah d u k' xs (get e u)
 |_=>none
theorem ZK {k:Nat} {x:Ar}:UG P L N n0 ⟨d, .Be k x,g⟩ r t Q e ah (some true)=US P L N n0 r t Q (Jl L e ah d k (ev e x)):=by
 simp only [UG,bL]
 cases ev e x with
 |sl t k' xs=>cases t<;>cases xs<;>rfl
 |_=>rfl
theorem ZL {k:Nat} {x i:Ar}:UG P L N n0 ⟨d, .vF k x i,g⟩ r t Q e ah (some true)=US P L N n0 r t Q (Ab L e ah d k (ev e x) (ev e i)):=by
 simp only [UG,bL]
 cases ev e x with
 |sl t k' xs=>cases ev e i with
  |int ki n=>simp only [Ab,N7];cases xs[n.toNat]? <;>rfl
  |_=>rfl
 |cz s k' p n=>cases ev e i<;>rfl
 |cu s k' n c=>cases ev e i<;>rfl
 |_=>cases ev e i<;>rfl
def SV (L:List Nat) (e:Env) (ah:AH) (d:Option Nat):Option UInt8→Option (Env×AH)
 |some c=>some (aI L e d (b8 c),ah)
 |none=>none
def Jm (L:List Nat) (e:Env) (ah:AH) (d:Option Nat):AV→AV→Option (Env×AH)
 | .str l, .int _ i=>if 0≤i then SV L e ah d (l[i.toNat]?) else none
 |_,_=>none
theorem ZM {x i:Ar}:UG P L N n0 ⟨d, .ixs x i,g⟩ r t Q e ah (some true)=US P L N n0 r t Q (Jm L e ah d (ev e x) (ev e i)):=by
 simp only [UG,bL]
 cases ev e x with
 |str l=>cases ev e i with
  |int ki n=>simp only [Jm,SV];cases l[n.toNat]? <;>rfl
  |_=>rfl
 |_=>cases ev e i<;>rfl
theorem ada {l:List UInt8} {i j:Nat}:N3 L e ah d l (some i) (some j)=if i≤j∧j≤l.length then some (aI L e d (.str ((l.take j).drop i)),ah) else none:=rfl
theorem adb {k k' i j:Nat} {xs:List AV}:N5 L e ah d k k' xs (some i) (some j)=if k'=k∧i≤j∧j≤xs.length then some (aI L e d (.sl .n k ((xs.take j).drop i)),ah) else none:=rfl
theorem abT {k k' i j m:Nat} {xs:List AV}:G3 L e ah d k k' xs (some i) (some j) (some m)=if k'=k∧i≤j∧j=m∧m≤xs.length then some (aI L e d (.sl .ex k ((xs.take j).drop i)),ah) else none:=rfl
theorem ade {k k':Nat} {a:AV}:N7 L e ah d k k' (some a)=if k'=k then some (aI L e d (.ep a 0),ah) else none:=rfl
theorem adf {c:UInt8}:SV L e ah d (some c)=some (aI L e d (b8 c),ah):=rfl
theorem ZN {n:Option Nat} {s p:Nat} {cs:List AV}:WY L d n s p e ah (some cs)=(kg n s p cs).map fun a=>(aI L e d a,ah):=rfl
theorem ZO {c:AV}:Pa L d e ah (some c)=if c.flat then some (aI L e d c.s1,ah) else none:=rfl
theorem adg {α:Type} {c:Prop} [Decidable c] {x:Option α} (h:c):(if c then x else none)=x:=by rw [if_pos h]
theorem abU {α:Type} {c:Prop} [Decidable c] {x:Option α} (h:¬c):(if c then none else x)=x:=by rw [if_neg h]
theorem adu {x:Ar} {i:Nat}:UG P L N n0 ⟨d, .ext x i,g⟩ r t Q e ah (some true)=US P L N n0 r t Q (bL L ⟨d, .ext x i,none⟩ e ah):=by simp only [UG,wD L d _ g]
theorem adv {x:Ar}:UG P L N n0 ⟨d, .len x,g⟩ r t Q e ah (some true)=US P L N n0 r t Q (bL L ⟨d, .len x,none⟩ e ah):=by simp only [UG,wD L d _ g]
theorem adh {x:Ar}:UG P L N n0 ⟨d, .lens x,g⟩ r t Q e ah (some true)=US P L N n0 r t Q (bL L ⟨d, .lens x,none⟩ e ah):=by simp only [UG,wD L d _ g]
def SW (L:List Nat) (e:Env) (ah:AH) (d:Option Nat) (k b:Nat) (x:Ar):AV→Option (Env×AH)
 | .sl _ k' ys=>if k'=k then yd L e ah d k b x ys else none
 |_=>none
theorem ZP {k b:Nat} {x y:Ar}:UG P L N n0 ⟨d, .app k b x y,g⟩ r t Q e ah (some true)=US P L N n0 r t Q (SW L e ah d k b x (ev e y)):=by
 simp only [UG,bL];cases ev e y<;>rfl
def SX (L:List Nat) (e:Env) (ah:AH) (d:Option Nat) (b:Nat) (x:Ar):AV→Option (Env×AH)
 | .str l=>yd L e ah d 1 b x (l.map b8)
 |_=>none
theorem W4 {b:Nat} {x y:Ar}:UG P L N n0 ⟨d, .apps b x y,g⟩ r t Q e ah (some true)=US P L N n0 r t Q (SX L e ah d b x (ev e y)):=by
 simp only [UG,bL];cases ev e y<;>rfl
theorem W5 {f:Ar} {zq:List Ar}:UG P L N n0 ⟨d, .call f zq,g⟩ r t Q e ah (some true)=UF P L N n0 zq d r t Q e ah (ev e f):=rfl
theorem abV {o:aL} {b:Bool}:UG P L N n0 o r t Q e ah (some b)=if b then (UG P L N n0 o r t Q e ah (some true)) else U P L N n0 (.ops r::t) Q .normal (oO e o.d) ah:=by
 cases b<;>rfl
theorem abj {o:aL} {b:Bool} (h1:b=true→UG P L N n0 o r t Q e ah (some true)) (h2:b=false→U P L N n0 (.ops r::t) Q .normal (oO e o.d) ah):UG P L N n0 o r t Q e ah (some b):=by
 cases b
 · exact h2 rfl
 · exact h1 rfl
end
end Go.Am
namespace Go.Am
open Go
variable [Tabs]
theorem kV.set {n:Nat} {ah:AH} (h:kV n ah) {s:Nat} {cs:List AV} (hc:∀a∈cs,Cl n a):kV n (ah.set s cs):=by
 intro t ds ht a ha
 rw [List.getElem?_set] at ht
 split at ht
 · split at ht
   · injection ht with ht;subst ht;exact hc a ha
   · cases ht
 · exact h t ds ht a ha
theorem Lx.old {P:Program} {n:Nat} {rs:List ResultVar} {R:AV→AH→Prop} {x:Exit} {e:Env} {ah:AH} {vs:List AV} (hx:x= .normal∨x= .ret) (hr:gm P e ah rs=some vs)
 (hc:Cl n (fin vs)) (hh:kV n ah) (hn:ah.length=n) (h:R (fin vs) ah):Lx P n rs R x e ah:=by
 refine ⟨hx, ?_⟩
 rw [hr]
 have:ah.take n=ah:=List.take_of_length_le (by omega)
 simp only [this]
 exact ⟨hc,hh,by omega,h⟩
theorem w64 {n:Int} (h1: -9223372036854775808≤n) (h2:n≤9223372036854775807):IntKind.wrap .i64 n=n:=by
 simp only [IntKind.wrap,IntKind.bits,IntKind.signed,Bool.true_and,decide_eq_true_eq,Int.reducePow,Nat.reduceSub,ge_iff_le]
 split<;>omega
theorem w8 {n:Int} (h1:0≤n) (h2:n≤255):IntKind.wrap .u8 n=n:=by
 simp only [IntKind.wrap,IntKind.bits,IntKind.signed,Bool.false_and,if_false,Bool.false_eq_true]
 omega
theorem YD {j:Nat}:((j:Int)+1).toNat=j+1:=by omega
theorem adw {P:Program} {L:List Nat} {N n0:Nat} {t:List It} {Q:Exit→Env→AH→Prop} {r:List aL} {c:Prop} [Decidable c] {x:Option (Env×AH)} (h:c):
 US P L N n0 r t Q (if c then x else none)=US P L N n0 r t Q x:=by rw [if_pos h]
theorem map_if {α β:Type} {f:α→β} {c:Prop} [Decidable c] {x:Option α} (h:c):Option.map f (if c then x else none)=Option.map f x:=by rw [if_pos h]
theorem Jn {L:List Nat} {d:Option Nat} {k b:Nat} {x y:Ar} {e:Env} {ah:AH} {K K':Env→AH→Prop} (h:oH L d k b x y e ah K) (hk:∀e ah,K e ah→K' e ah):oH L d k b x y e ah K':=by
 unfold oH at h ⊢
 split at h
 · obtain ⟨h1,h2,h3,h4,h5,h6⟩:=h
   refine ⟨h1,h2,h3,h4,h5, ?_⟩
   rcases h6 with ⟨g1,g2,g3⟩|⟨cs,g1,g2,g3,g4,g5,g6,g7⟩
   · exact .inl ⟨g1,g2,fun c hc=>hk _ _ (g3 c hc)⟩
   · exact .inr ⟨cs,g1,g2,g3,g4,g5,fun h=>hk _ _ (g6 h),fun h c hc=>hk _ _ (g7 h c hc)⟩
 · exact h
theorem Pb {L:List Nat} {d:Option Nat} {n:Bool} {x:Ar} {e:Env} {ah:AH} {K K':Env→AH→Prop} (h:Dp L d n x e ah K) (hk:∀e ah,K e ah→K' e ah):Dp L d n x e ah K':=by
 unfold Dp at h ⊢
 split at h
 · exact ⟨fun h0 b=>hk _ _ (h.1 h0 b),fun h0=>hk _ _ (h.2 h0)⟩
 · exact h
theorem LA {P:Program} {L:List Nat}:∀(l:List aL) {K K':Env→AH→Prop} {e:Env} {ah:AH},ez P L l e ah K→(∀e ah,K e ah→K' e ah)→ez P L l e ah K':=by
 intro l
 induction l with
 |nil=>intro K K' e ah h hk;exact hk _ _ h
 |cons o r ih=>
  intro K K' e ah h hk
  simp only [ez] at h ⊢
  split at h
  · rename_i hg
    obtain ⟨d,op,g⟩:=o
    cases op with
    |call f zq=>
     simp only [z8] at h ⊢
     split at h
     · exact ⟨h.1,h.2.mono fun v aH h=>ih h hk⟩
     · exact h
    |k7 k b x y=>
     have h':oH L d k b x y e ah (fun e ah=>ez P L r e ah K):=h
     exact Jn h' fun e ah h=>ih h hk
    |nq n x=>
     have h':Dp L d n x e ah (fun e ah=>ez P L r e ah K):=h
     exact Pb h' fun e ah h=>ih h hk
    |_=>
     simp only [z8] at h ⊢
     split at h
     · exact ih h hk
     · exact h
  · exact ih h hk
  · exact h
theorem Jo {P:Program} {L:List Nat} {N n0:Nat}:∀(c:ax) {Q Q':Exit→Env→AH→Prop} {e:Env} {ah:AH},jv P L N n0 c Q e ah→(∀x e ah,Q x e ah→Q' x e ah)→jv P L N n0 c Q' e ah:=by
 intro c
 induction c with
 |skip=>intro Q Q' e ah h hq;exact hq _ _ _ h
 |ret=>intro Q Q' e ah h hq;exact hq _ _ _ h
 |exit i=>intro Q Q' e ah h hq;exact hq _ _ _ h
 |rg ops=>intro Q Q' e ah h hq;exact LA ops h fun e ah h=>hq _ _ _ h
 |seq a b DK DL=>
  intro Q Q' e ah h hq
  refine DK h fun x e ah h=> ?_
  cases x with
  |normal=>exact DL h hq
  |_=>exact hq _ _ _ h
 |cond c a b DK DL=>
  intro Q Q' e ah h hq
  simp only [jv] at h ⊢
  split at h
  · split at h
    · rename_i h1;rw [if_pos h1];exact DK h hq
    · rename_i h1;rw [if_neg h1];exact DL h hq
  · exact h.elim
 |blk i c ih=>
  intro Q Q' e ah h hq
  refine ih h fun x e ah h=> ?_
  cases x with
  |exit j=>
   simp only at h ⊢
   split at h
   · rename_i h1;rw [if_pos h1];exact hq _ _ _ h
   · rename_i h1;rw [if_neg h1];exact hq _ _ _ h
  |_=>exact hq _ _ _ h
 |loop c ih=>
  intro Q Q' e ah h hq
  exact fun c' cc=>(h c' cc).mono hq
 |sem c ih=>
  intro Q Q' e ah h hq
  exact fun c' cc=>(h c' cc).mono hq
theorem W6 {P:Program} {L:List Nat} {N n0:Nat} {c:ax} {Q Q':Exit→Env→AH→Prop} {e:Env} {ah:AH} (h:U P L N n0 [.code c] Q .normal e ah) (hq:∀x e ah,Q x e ah→Q' x e ah):U P L N n0 [.code c] Q' .normal e ah:=
 Jo c h hq
theorem SY {e e2:Env} (h:∀p∈e2,p.2= .un∨Am.get e p.1=p.2∨∃t k xs,Am.get e p.1= .sl t k xs∧p.2= .sl .n k xs):∀t,Wk (Am.get e t) (Am.get e2 t):=by
 intro t
 have key:∀e2:Env,Am.get e2 t= .un∨∃p∈e2,p.1=t∧Am.get e2 t=p.2:=by
  intro e2
  induction e2 with
  |nil=>exact .inl rfl
  |cons p r ih=>
   obtain ⟨i,a⟩:=p
   simp only [Am.get]
   split
   · rename_i h;exact .inr ⟨(i,a),by simp,h,rfl⟩
   · rcases ih with h|⟨p,hp,h1,h2⟩
     · exact .inl h
     · exact .inr ⟨p,List.mem_cons_of_mem _ hp,h1,h2⟩
 rcases key e2 with h0|⟨p,hp,rfl,h2⟩
 · rw [h0];exact .un _
 · rw [h2]
   rcases h p hp with h3|h3|⟨tg,k,xs,h3,h4⟩
   · rw [h3];exact .un _
   · rw [h3];exact .same _
   · rw [h3,h4];exact .n ..
def Bo (e e2:Env):Prop:=∀p∈e2,p.2= .un∨Am.get e p.1=p.2∨∃t k xs,Am.get e p.1= .sl t k xs∧p.2= .sl .n k xs
theorem Pc {P:Program} {L:List Nat} {N n0:Nat} {e:Env} {ah:AH} {t:List It} {Q:Exit→Env→AH→Prop} {c:ax} (J:Nat→Env→AH→Prop) (k0:Nat) (e0:Env) (ho:qE N c=true)
 (hw:∀p∈e0,p.2= .un∨Am.get e p.1=p.2∨∃t k xs,Am.get e p.1= .sl t k xs∧p.2= .sl .n k xs) (h0:J k0 e0 ah)
 (round:∀k e ah,J k e ah→U P L N n0 [.code c] (fun x e' aH=>match x with
  | .normal=>∃k' e2,k'<k∧(∀p∈e2,p.2= .un∨Am.get e' p.1=p.2∨∃t k xs,Am.get e' p.1= .sl t k xs∧p.2= .sl .n k xs)∧J k' e2 aH
  |x=>U P L N n0 t Q x e' aH) .normal e ah):
 UX P L N n0 (.loop c) t Q e ah:=by
 intro c'
 induction c' with
 |loop c0 _=>
  intro cc
  simp only [bM,Option.map_eq_some_iff] at cc
  obtain ⟨a,ha,he⟩:=cc
  injection he with he
  subst he
  refine AW.loop (fun k e ah=>∃e1,(∀t,Wk (Am.get e t) (Am.get e1 t))∧J k e1 ah) (k0:=k0) ?_ ⟨e0,SY hw,h0⟩
  rintro k e ah ⟨e1,hw1,hJ⟩
  refine AW.weak hw1 (oD c0 a _ e1 ah (by rw [iY c0 a ha];exact ha) (by rw [iY c0 a ha];exact ho) ?_)
  have:=round k e1 ah hJ
  refine W6 this fun x e' aH h=> ?_
  cases x with
  |normal=>obtain ⟨k',e2,h1,h2,h3⟩:=h;exact ⟨k',h1,e2,SY h2,h3⟩
  |_=>exact h
 |scope c0 ih=>exact fun cc=>AW.scope (ih cc)
 |region id ops draw=>intro cc;simp only [bM] at cc;repeat' (split at cc)<;>simp at cc
 |block i c0=>intro cc;simp only [bM,Option.map_eq_some_iff] at cc;obtain ⟨a, -,h⟩:=cc;cases h
 |seq a b=>intro cc;simp only [bM] at cc;split at cc<;>simp at cc
 |cond a b c=>intro cc;simp only [bM] at cc;split at cc<;>simp at cc
 |_=>intro cc;simp [bM] at cc
theorem abk {P:Program} {L:List Nat} {N n0:Nat} {e:Env} {ah:AH} {t:List It} {Q:Exit→Env→AH→Prop} {c:ax} (J:Nat→Env→AH→Prop) (k0:Nat) (e0:Env) (ho:qE N c=true)
 (hw:Bo e e0) (h0:J k0 e0 ah)
 (round:∀(K:Exit→Env→AH→Prop) k e ah,J k e ah→(∀k' e' e2 aH,k'<k→Bo e' e2→J k' e2 aH→K .normal e' aH)→(∀e' aH,U P L N n0 t Q .ret e' aH→K .ret e' aH)→
  (∀i e' aH,U P L N n0 t Q (.exit i) e' aH→K (.exit i) e' aH)→U P L N n0 [.code c] K .normal e ah):UX P L N n0 (.loop c) t Q e ah:=
 Pc J k0 e0 ho hw h0 fun k e ah hJ=>round _ k e ah hJ (fun k' e' e2 aH h1 h2 h3=>⟨k',e2,h1,h2,h3⟩) (fun _ _ h=>h) (fun _ _ _ h=>h)
theorem Bo.nil {e:Env}:Bo e []:=by intro p hp;cases hp
theorem Bo.same {e r:Env} {i:Nat} {a:AV} (h:Am.get e i=a) (hr:Bo e r):Bo e ((i,a)::r):=by
 intro p hp
 rcases List.mem_cons.1 hp with rfl|hp
 · exact .inr (.inl h)
 · exact hr p hp
theorem Bo.un {e r:Env} {i:Nat} (hr:Bo e r):Bo e ((i, .un)::r):=by
 intro p hp
 rcases List.mem_cons.1 hp with rfl|hp
 · exact .inl rfl
 · exact hr p hp
theorem Bo.sl {e r:Env} {i k:Nat} {tg:Tg} {xs:List AV} (h:Am.get e i= .sl tg k xs) (hr:Bo e r):Bo e ((i, .sl .n k xs)::r):=by
 intro p hp
 rcases List.mem_cons.1 hp with rfl|hp
 · exact .inr (.inr ⟨_,_,_,h,rfl⟩)
 · exact hr p hp
theorem aG.weak {P:Program} {f:Nat} {args args':List AV} {ah:AH} {R:AV→AH→Prop} (hl:args'.length=args.length) (hw:∀(i:Nat) (a a':AV),args[i]? =some a→args'[i]? =some a'→Wk a a') (h:aG P f args' ah R):
 aG P f args ah R:=by
 refine ⟨h.1,fun F γ C w vs hs=>h.2 F γ C w vs ?_⟩
 rw [hl]
 refine hs.wk fun t=> ?_
 rw [eC,eC]
 simp only [Nat.zero_le,if_true,Nat.sub_zero]
 cases h1:args[t]? with
 |none=>
  have:args'[t]? =none:=by
   rw [List.getElem?_eq_none_iff] at h1 ⊢
   omega
  rw [this];exact .same _
 |some a=>
  have hlt:t<args'.length:=by rw [hl];exact (List.getElem?_eq_some_iff.1 h1).1
  rw [List.getElem?_eq_getElem hlt]
  exact hw t a _ h1 (List.getElem?_eq_getElem hlt)
theorem Jp:∀l:List UInt8,bytesOf (l.map b8)=some l:=by
 intro l
 induction l with
 |nil=>rfl
 |cons c r ih=>
  simp only [List.map_cons,b8,bytesOf]
  rw [ih]
  simp
theorem Pd {ah:AH} {i:Nat} {x:List AV} (h:ah[i]? =some x):ah.set i x=ah:=by
 have hlt:=(List.getElem?_eq_some_iff.1 h).1
 apply List.ext_getElem?
 intro j
 rw [List.getElem?_set]
 split
 · rename_i hj;subst hj;simp only [h,ite_eq_left_iff];try exact fun h0=>absurd hlt h0
 · rfl
theorem Lx.new {P:Program} {n:Nat} {rs:List ResultVar} {R:AV→AH→Prop} {x:Exit} {e:Env} {ah aH:AH} {vs:List AV} (hx:x= .normal∨x= .ret) (hr:gm P e ah rs=some vs) (ht:ah.take n=aH)
 (hc:Cl n (fin vs)) (hh:kV n aH) (hn:n≤ah.length) (h:R (fin vs) aH):Lx P n rs R x e ah:=by
 refine ⟨hx, ?_⟩
 rw [hr]
 simp only [ht]
 exact ⟨hc,hh,hn,h⟩
theorem Bp {P:Program} {e:Env} {ah:AH}:gm P e ah []=some []:=rfl
theorem xD {P:Program} {e:Env} {ah:AH} {t:Nat} {rs:List ResultVar} {a:AV} {vs:List AV} (h:Am.get e t=a) (ht:a.eK=false) (hr:gm P e ah rs=some vs):gm P e ah (.tmp t::rs)=some (a::vs):=by
 subst h
 simp only [gm,ht,hr,Bool.false_eq_true,if_false]
theorem bn {P:Program} {e:Env} {ah:AH} {a:Nat} {ty:TypeId} {n:Option Nat} {rs:List ResultVar} {s o:Nat} {cs vs:List AV} {v:AV} (ht:tok P ty=true) (hn:tn P ty=n) (h:Am.get e a= .ptr s o) (hs:ah[s]? =some cs)
 (hl:kg n s o cs=some v) (hr:gm P e ah rs=some vs):gm P e ah (.cell a ty::rs)=some (v.sh::vs):=by
 subst hn
 simp only [gm,ht,if_true,h,hs,hl,hr]
theorem aG.wkR {P:Program} {f:Nat} {args:List AV} {ah:AH} {R R':AV→AH→Prop} (h:aG P f args ah R) (hr:∀r aH,R r aH→∃r',Wk r r'∧R' r' aH):aG P f args ah R':=by
 refine ⟨h.1,fun F γ C w vs hs=>(h.2 F γ C w vs hs).mono ?_⟩
 rintro en w' ⟨r,v,aH,γ',C',rfl,h1,h2,h3,h4⟩
 obtain ⟨r',g1,g2⟩:=hr r aH h1
 refine ⟨r',v,aH,γ',C',rfl,g2,h2,h3.wk fun t=> ?_,h4⟩
 simp only [Am.get]
 split
 · exact g1
 · exact .same _
theorem Cl.up {n:Nat} {a:AV} (h:Cl n a) {m:Nat} (hm:n≤m):Cl m a:=by
 induction h with
 |ptr s o hs=>exact .ptr _ _ (by omega)
 |fn f cs _ ih=>exact .fn _ _ fun a ha=>ih a ha
 |agg cs _ ih=>exact .agg _ fun a ha=>ih a ha
 |bB cs _ ih=>exact .bB _ fun a ha=>ih a ha
 |v=>exact .v _
 |int=>exact .int ..
 |bool=>exact .bool _
 |str=>exact .str _
 |sl=>exact .sl ..
 |ep=>exact .ep ..
 |cz s k o n hs=>exact .cz _ _ _ _ (by omega)
 |qV=>exact .qV ..
 |cu s k o n hs=>exact .cu _ _ _ _ (by omega)
 |dQ=>exact .dQ
 |un=>exact .un
theorem kV.up {n m:Nat} {ah:AH} (h:kV n ah) (hm:n≤m):kV m ah:=fun s cs hs a ha=>(h s cs hs a ha).up hm
theorem kV.app {n:Nat} {ah tq:AH} (h:kV n ah) (h2:kV n tq):kV n (ah++tq):=by
 intro s cs hs a ha
 rw [List.getElem?_append] at hs
 split at hs
 · exact h s cs hs a ha
 · exact h2 _ cs hs a ha
theorem kV.one {n:Nat} {cs:List AV} (h:∀a∈cs,Cl n a):kV n [cs]:=by
 intro s ds hs a ha
 rcases s with _|s
 · simp at hs;subst hs;exact h a ha
 · simp at hs
end Go.Am
end
section
namespace Go.Am
open Go
variable [Tabs]
def W1 (a a':AV):Prop:=a'=a∨∃t k xs,a= .sl t k xs∧a'= .sl .n k xs
def gT:List AV→List AV→Prop
 |[],[]=>True
 |a::r,a'::r'=>W1 a a'∧gT r r'
 |_,_=>False
theorem gT.len:∀ {cs cs':List AV},gT cs cs'→cs'.length=cs.length:=by
 intro cs
 induction cs with
 |nil=>intro cs' h;cases cs' with|nil=>rfl|cons=>exact h.elim
 |cons a r ih=>intro cs' h;cases cs' with|nil=>exact h.elim|cons a' r'=>simp [ih h.2]
theorem gT.get:∀ {cs cs':List AV},gT cs cs'→∀(i:Nat) (a a':AV),cs[i]? =some a→cs'[i]? =some a'→W1 a a':=by
 intro cs
 induction cs with
 |nil=>intro cs' _ i a a' h;simp at h
 |cons a r ih=>
  intro cs' h i b b' h1 h2
  cases cs' with
  |nil=>exact h.elim
  |cons a' r'=>
   rcases i with _|i
   · simp at h1 h2;subst h1;subst h2;exact h.1
   · exact ih h.2 i b b' (by simpa using h1) (by simpa using h2)
def W2 (a a':AV):Prop:=W1 a a'∨∃ds ds',a= .agg ds∧a'= .agg ds'∧gT ds ds'
def n7:List AV→List AV→Prop
 |[],[]=>True
 |a::r,a'::r'=>W2 a a'∧n7 r r'
 |_,_=>False
theorem n7.len:∀ {cs cs':List AV},n7 cs cs'→cs'.length=cs.length:=by
 intro cs
 induction cs with
 |nil=>intro cs' h;cases cs' with|nil=>rfl|cons=>exact h.elim
 |cons a r ih=>intro cs' h;cases cs' with|nil=>exact h.elim|cons a' r'=>simp [ih h.2]
theorem n7.get:∀ {cs cs':List AV},n7 cs cs'→∀(i:Nat) (a a':AV),cs[i]? =some a→cs'[i]? =some a'→W2 a a':=by
 intro cs
 induction cs with
 |nil=>intro cs' _ i a a' h;simp at h
 |cons a r ih=>
  intro cs' h i b b' h1 h2
  cases cs' with
  |nil=>exact h.elim
  |cons a' r'=>
   rcases i with _|i
   · simp at h1 h2;subst h1;subst h2;exact h.1
   · exact ih h.2 i b b' (by simpa using h1) (by simpa using h2)
theorem W2.wk {a a':AV} (h:W2 a a'):Wk a a':=by
 rcases h with (rfl|⟨t,k,xs,rfl,rfl⟩)|⟨ds,ds',rfl,rfl,h⟩
 · exact .same _
 · exact .n ..
 · exact .agg _ _ h.len h.get
theorem W2.tcy {a a':AV} {v:Value} (h:W2 a a') (ht:GM a v):GM a' v:=by
 rcases h with (rfl|⟨t,k,xs,rfl,rfl⟩)|⟨ds,ds',rfl,rfl,h⟩
 · exact ht
 · exact RZ ..
 · cases v with
   |agg vs=>
    intro i a' hi
    have hlt:i<ds.length:=by rw [←h.len];exact (List.getElem?_eq_some_iff.1 hi).1
    rcases h.get i _ _ (List.getElem?_eq_getElem hlt) hi with e|⟨t,k,xs,e1,rfl⟩
    · rw [e];exact ht i _ (List.getElem?_eq_getElem hlt)
    · exact GN ..
   |_=>trivial
inductive Wx:AV→AV→Prop
 |wk (a a'):Wk a a'→(∀l k xs,a'≠ .sl (.fr l) k xs)→Wx a a'
 |own (k xs):Wx (.sl .ex k xs) (.sl .own k xs)
 |N9 (cs cs'):n7 cs cs'→Wx (.bB cs) (.bB cs')
def wI (cs cs':List AV):Prop:=cs'.length=cs.length∧∀(i:Nat) (a a':AV),cs[i]? =some a→cs'[i]? =some a'→Wx a a'
def gp (ah aH:AH):Prop:=aH.length=ah.length∧∀(s:Nat) (cs':List AV),aH[s]? =some cs'→∃cs,ah[s]? =some cs∧(cs'=cs∨wI cs cs')
def WS (e:Env) (ah:AH) (e1:Env) (bU:AH):Prop:=(∀t,Wx (get e t) (get e1 t))∧gp ah bU
theorem Wx.vr {C:Nat→List Value} {γ:List Nat} {a a':AV} {v:Value} (hw:Wx a a') (h:VR C γ a v):VR C γ a' v:=by
 cases hw with
 |wk _ _ hk=>exact hk.vr h
 |own=>exact h.ju _
 |N9 cs cs' hc=>
  obtain ⟨vs,rfl,hs,hv⟩:=h.we
  refine .bB _ _ _ (by rw [hc.len];exact hs) fun i a' hi=> ?_
  have hlt:i<cs.length:=by rw [←hc.len];exact (List.getElem?_eq_some_iff.1 hi).1
  exact (hc.get i _ _ (List.getElem?_eq_getElem hlt) hi).wk.vr (hv i _ (List.getElem?_eq_getElem hlt))
theorem Wx.tc {w:World} {C:Nat→List Value} {γ:List Nat} {a a':AV} {v:Value} (hw:Wx a a') (hv:VR C γ a v) (h:TC w C a v):TC w C a' v:=by
 cases hw with
 |wk _ _ hk=>exact hk.tc h
 |own k xs=>
  obtain ⟨ad,c,rfl, -⟩:=hv.eU
  exact .inl h
 |N9 cs cs' hc=>
  obtain ⟨vs,rfl, -, -⟩:=hv.we
  intro i a' hi
  have hlt:i<cs.length:=by rw [←hc.len];exact (List.getElem?_eq_some_iff.1 hi).1
  exact (hc.get i _ _ (List.getElem?_eq_getElem hlt) hi).tcy (h i _ (List.getElem?_eq_getElem hlt))
theorem Wx.bS {w:World} {C:Nat→List Value} {γ:List Nat} {a a':AV} {v:Value} {b:Nat} (hw:Wx a a') (hv:VR C γ a v) (ht:TC w C a v) (h:bS a' v=some b):Am.bS a v=some b:=by
 cases hw with
 |wk _ _ hk=>exact hk.own h
 |own k xs=>
  obtain ⟨ad,c,rfl, -⟩:=hv.eU
  have hc:c=xs.length:=ht
  subst hc
  cases ad<;>simp [Am.bS] at h
 |N9=>simp [Am.bS] at h
theorem SR.wx {L N F γ C e ah ts w} (h:SR L N F γ C e ah ts w) {e':Env} {aH:AH} (hw:WS e ah e' aH):SR L N F γ C e' aH ts w:=by
 obtain ⟨he,hl,hh⟩:=hw
 have hb:∀p b,blk γ e' aH ts w p b→blk γ e ah ts w p b:=by
  intro p b hp
  cases p with
  |obj s=>exact hp
  |tmp t=>exact (he t).bS (h.env t).1 (h.env t).2 hp
  |cell s i=>
   obtain ⟨cs',a',b0,h1,h2,h3,h4⟩:=hp
   obtain ⟨cs,g1,g2⟩:=hh s cs' h1
   rcases g2 with rfl|⟨g2,g3⟩
   · exact ⟨_,a',b0,g1,h2,h3,h4⟩
   · have hlt:i<cs.length:=by rw [←g2];exact (List.getElem?_eq_some_iff.1 h2).1
     have h0:cs[i]? =some cs[i]:=List.getElem?_eq_getElem hlt
     refine ⟨cs,cs[i],b0,g1,h0,h3, ?_⟩
     obtain ⟨vs,ty,q1,q2,q3⟩:=h.mem.obj s b0 cs g1 h3
     have hc:(w.cell? ⟨b0,i,none⟩).getD undef=vs.getD i undef:=by
      rw [dF q1];simp [Array.getD_eq_getD_getElem?]
     rw [hc] at h4 ⊢
     exact (g3 i _ _ h0 h2).bS (q3 i _ h0).1 (q3 i _ h0).2 h4
 refine ⟨⟨by rw [h.mem.len,hl],fun s b cs' h1 h2=> ?_,h.mem.wh,fun s b cs' h1 hne h2=> ?_,fun s b cs' us ty fr h1 h2 h3=> ?_⟩,h.sz,fun t=>⟨(he t).vr (h.env t).1,(he t).tc (h.env t).1 (h.env t).2⟩,fun p q b hp hq=>h.ey p q b (hb p b hp) (hb q b hq),
  fun p b hp=>h.nf p b (hb p b hp),h.j9,fun t l k xs ht=> ?_⟩
 · obtain ⟨cs,g1,g2⟩:=hh s cs' h1
   obtain ⟨vs,ty,q1,q2,q3⟩:=h.mem.obj s b cs g1 h2
   rcases g2 with rfl|⟨g2,g3⟩
   · exact ⟨vs,ty,q1,q2,q3⟩
   · refine ⟨vs,ty,q1,by omega,fun i a' hi=> ?_⟩
     have hlt:i<cs.length:=by rw [←g2];exact (List.getElem?_eq_some_iff.1 hi).1
     have h0:cs[i]? =some cs[i]:=List.getElem?_eq_getElem hlt
     exact ⟨(g3 i _ _ h0 hi).vr (q3 i _ h0).1,(g3 i _ _ h0 hi).tc (q3 i _ h0).1 (q3 i _ h0).2⟩
 · obtain ⟨cs,g1,g2⟩:=hh s cs' h1
   refine h.mem.u0 s b cs g1 ?_ h2
   rintro rfl
   rcases g2 with rfl|⟨g2, -⟩
   · exact hne rfl
   · exact hne (List.eq_nil_of_length_eq_zero g2)
 · obtain ⟨cs,g1,g2⟩:=hh s cs' h1
   have hl':cs'.length=cs.length:=by
    rcases g2 with rfl|⟨g2, -⟩
    · rfl
    · exact g2
   rw [hl']
   exact h.mem.Dt s b cs us ty fr g1 h2 h3
 · exfalso
   have:=he t
   rw [ht] at this
   generalize get e t=a at this
   cases this with
   |wk _ _ _ hn=>exact hn l k xs rfl
theorem gp.refl (ah:AH):gp ah ah:=⟨rfl,fun s cs h=>⟨cs,h, .inl rfl⟩⟩
theorem gp.set {ah:AH} {q:Nat} {cs cs':List AV} (hq:ah[q]? =some cs) (hc:wI cs cs'):gp ah (ah.set q cs'):=by
 refine ⟨by simp,fun s ds hs=> ?_⟩
 rw [List.getElem?_set] at hs
 split at hs
 · rename_i h;subst h
   split at hs
   · injection hs with hs;subst hs;exact ⟨cs,hq, .inr hc⟩
   · cases hs
 · exact ⟨ds,hs, .inl rfl⟩
theorem Wx.un (a:AV):Wx a .un:= .wk _ _ (.un _) (by simp)
theorem Wx.n {t:Tg} {k:Nat} {xs:List AV}:Wx (.sl t k xs) (.sl .n k xs):= .wk _ _ (.n ..) (by simp)
theorem Wx.same {a:AV} (h:∀l k xs,a≠ .sl (.fr l) k xs):Wx a a:= .wk _ _ (.same _) h
theorem Wx.int {k:IntKind} {i:Int}:Wx (.int k i) (.int k i):= .same (by simp)
theorem Wx.b8 {c:UInt8}:Wx (b8 c) (b8 c):= .same (by simp [Am.b8])
theorem Wx.bool {b:Bool}:Wx (.bool b) (.bool b):= .same (by simp)
theorem Wx.str {l:List UInt8}:Wx (.str l) (.str l):= .same (by simp)
theorem Wx.ptr {s o:Nat}:Wx (.ptr s o) (.ptr s o):= .same (by simp)
theorem Wx.v {x:Value}:Wx (.v x) (.v x):= .same (by simp)
theorem Wx.fn {f:Nat} {cs:List AV}:Wx (.fn f cs) (.fn f cs):= .same (by simp)
theorem Wx.ep {a:AV} {o:Nat}:Wx (.ep a o) (.ep a o):= .same (by simp)
theorem Wx.ex {k:Nat} {xs:List AV}:Wx (.sl .ex k xs) (.sl .ex k xs):= .same (by simp)
theorem Wx.nn {k:Nat} {xs:List AV}:Wx (.sl .n k xs) (.sl .n k xs):= .same (by simp)
theorem Wx.oo {k:Nat} {xs:List AV}:Wx (.sl .own k xs) (.sl .own k xs):= .same (by simp)
theorem Wx.agg {cs cs':List AV} (h:gT cs cs'):Wx (.agg cs) (.agg cs'):= .wk _ _ (.agg _ _ h.len h.get) (by simp)
theorem Wx.bB {cs cs':List AV} (h:gT cs cs'):Wx (.bB cs) (.bB cs'):= .wk _ _ (.bB _ _ h.len h.get) (by simp)
theorem Wx.abW {cs cs':List AV} (h:n7 cs cs'):Wx (.bB cs) (.bB cs'):= .N9 _ _ h
theorem n7.nil:n7 [] []:=trivial
theorem n7.same {a:AV} {r r':List AV} (h:n7 r r'):n7 (a::r) (a::r'):=⟨.inl (.inl rfl),h⟩
theorem n7.n {t:Tg} {k:Nat} {xs:List AV} {r r':List AV} (h:n7 r r'):n7 (.sl t k xs::r) (.sl .n k xs::r'):=⟨.inl (.inr ⟨_,_,_,rfl,rfl⟩),h⟩
theorem n7.agg {ds ds':List AV} {r r':List AV} (hd:gT ds ds') (h:n7 r r'):n7 (.agg ds::r) (.agg ds'::r'):=⟨.inr ⟨_,_,rfl,rfl,hd⟩,h⟩
theorem gT.nil:gT [] []:=trivial
theorem gT.same {a:AV} {r r':List AV} (h:gT r r'):gT (a::r) (a::r'):=⟨.inl rfl,h⟩
theorem gT.n {t:Tg} {k:Nat} {xs:List AV} {r r':List AV} (h:gT r r'):gT (.sl t k xs::r) (.sl .n k xs::r'):=⟨.inr ⟨_,_,_,rfl,rfl⟩,h⟩
theorem wI.nil:wI [] []:=⟨rfl,fun i a a' h=>by simp at h⟩
theorem wI.cons {a a':AV} {r r':List AV} (h:Wx a a') (hr:wI r r'):wI (a::r) (a'::r'):=by
 refine ⟨by simp [hr.1],fun i b b' h1 h2=> ?_⟩
 rcases i with _|i
 · simp at h1 h2;subst h1;subst h2;exact h
 · exact hr.2 i b b' (by simpa using h1) (by simpa using h2)
def WE (e e1:Env):Prop:=∀p∈e1,Wx (Am.get e p.1) p.2
theorem WE.nil {e:Env}:WE e []:=by intro p hp;cases hp
theorem WE.cons {e r:Env} {i:Nat} {a:AV} (h:Wx (Am.get e i) a) (hr:WE e r):WE e ((i,a)::r):=by
 intro p hp
 rcases List.mem_cons.1 hp with rfl|hp
 · exact h
 · exact hr p hp
theorem WE.all {e e1:Env} (h:WE e e1):∀t,Wx (Am.get e t) (Am.get e1 t):=by
 intro t
 have key:∀e1:Env,Am.get e1 t= .un∨∃p∈e1,p.1=t∧Am.get e1 t=p.2:=by
  intro e1
  induction e1 with
  |nil=>exact .inl rfl
  |cons p r ih=>
   obtain ⟨i,a⟩:=p
   simp only [Am.get]
   split
   · rename_i h;exact .inr ⟨(i,a),by simp,h,rfl⟩
   · rcases ih with h|⟨p,hp,h1,h2⟩
     · exact .inl h
     · exact .inr ⟨p,List.mem_cons_of_mem _ hp,h1,h2⟩
 rcases key e1 with h0|⟨p,hp,rfl,h2⟩
 · rw [h0];exact Wx.un _
 · rw [h2];exact h p hp
section
variable {P:Program} {L:List Nat} {N n0:Nat} {e:Env} {ah:AH} {t:List It} {Q K:Exit→Env→AH→Prop} {r:List aL} {d:Option Nat}
theorem AW.G5 {c:Code} {e1:Env} {bU:AH} (hw:WS e ah e1 bU) (h:AW P L N n0 c Q e1 bU):AW P L N n0 c Q e ah:=
 fun F γ C ts w hs hn=>h F γ C ts w (hs.wx hw) hn
theorem AW.closed {c:Code} (h:AW P L N n0 c (fun x e ah=>Q x e ah∨∃e1 bU,WS e ah e1 bU∧Q x e1 bU) e ah):AW P L N n0 c Q e ah:=by
 intro F γ C ts w hs hn
 refine wp_mono (h F γ C ts w hs hn) ?_
 rintro x a w' ⟨hd,hg,e',aH,γ',C',h1,h2,h3,h4⟩
 rcases h1 with h1|⟨e1,bU,hw,h1⟩
 · exact ⟨hd,hg,e',aH,γ',C',h1,h2,h3,h4⟩
 · exact ⟨hd,hg,e1,bU,γ',C',h1,h2,h3.wx hw,h4⟩
theorem AX.weak {c:ax} {e1:Env} {bU:AH} (he:WE e e1) (hh:gp ah bU) (h:AX P L N n0 c Q e1 bU):AX P L N n0 c Q e ah:=
 fun c' cc=>AW.G5 ⟨he.all,hh⟩ (h c' cc)
theorem AX.mono {c:ax} {Q':Exit→Env→AH→Prop} (h:AX P L N n0 c Q e ah) (hq:∀x e ah,Q x e ah→Q' x e ah):AX P L N n0 c Q' e ah:=
 fun c' cc=>(h c' cc).mono hq
theorem AX.go {m c:ax} (hm:erase m=c) (ho:qE N c=true)
 (h:∀K':Exit→Env→AH→Prop,(∀x e ah e1 bU,WE e e1→gp ah bU→K x e1 bU→K' x e ah)→U P L N n0 [.code m] K' .normal e ah):AX P L N n0 c K e ah:=by
 subst hm
 intro c' cc
 refine AW.closed (oD c' m _ e ah cc ho (h _ ?_))
 intro x e ah e1 bU h1 h2 h3
 exact .inr ⟨e1,bU,⟨h1.all,h2⟩,h3⟩
theorem ZQ {c:ax} (h:AX P L N n0 c (fun x e ah=>U P L N n0 t Q x e ah) e ah):UX P L N n0 c t Q e ah:=h
inductive St (ρ τ σ:Type) where
 |ret (r:ρ)
 |dR (t:τ)
 |cY (s:σ)
def iter {ρ τ σ:Type} (body:σ→Option (St ρ τ σ)):Nat→σ→Option (ρ⊕τ)
 |0,_=>none
 |n+1,s=>match body s with
  |none=>none
  |some (.ret r)=>some (.inl r)
  |some (.dR t)=>some (.inr t)
  |some (.cY s')=>iter body n s'
theorem AX.iter {ρ τ σ:Type} {body:σ→Option (St ρ τ σ)} {m c:ax} (hm:erase m=c) (ho:qE N c=true) (J:σ→Env→AH→Prop) {F:Nat} {s0:σ} {o:ρ⊕τ} (hit:Am.iter body F s0=some o) (h0:J s0 e ah)
 (round:∀(K':Exit→Env→AH→Prop) s st e ah,J s e ah→body s=some st→
  (∀s',st= .cY s'→∀e' aH e1 bU,WE e' e1→gp aH bU→J s' e1 bU→K' .normal e' aH)→
  (∀t,st= .dR t→o= .inr t)→(∀r,st= .ret r→o= .inl r)→
  (∀x e' aH e1 bU,x≠ .normal→WE e' e1→gp aH bU→K x e1 bU→K' x e' aH)→U P L N n0 [.code m] K' .normal e ah):AX P L N n0 (.loop c) K e ah:=by
 subst hm
 intro c'
 induction c' with
 |loop c0 _=>
  intro cc
  simp only [bM,Option.map_eq_some_iff] at cc
  obtain ⟨a,ha,he⟩:=cc
  injection he with he
  subst he
  refine AW.loop (fun k e ah=>∃s e1 bU,WS e ah e1 bU∧J s e1 bU∧Am.iter body k s=some o∨(J s e ah∧Am.iter body k s=some o)) (k0:=F) ?_ ⟨s0,e,ah, .inr ⟨h0,hit⟩⟩
  have main:∀k s e ah,J s e ah→Am.iter body k s=some o→AW P L N n0 c0 (fun x e' aH=>match x with
   | .normal=>∃k',k'<k∧∃s e1 bU,WS e' aH e1 bU∧J s e1 bU∧Am.iter body k' s=some o∨(J s e' aH∧Am.iter body k' s=some o)|x=>K x e' aH) e ah:=by
   intro k s e ah hJ hk
   cases k with
   |zero=>simp [Am.iter] at hk
   |succ k=>
    cases hb:body s with
    |none=>simp [Am.iter,hb] at hk
    |some st=>
     simp only [Am.iter,hb] at hk
     refine AW.closed (oD c0 m _ e ah ha ho (round _ s st e ah hJ hb ?_ ?_ ?_ ?_))
     · rintro s' rfl e' aH e1 bU g1 g2 g3
       exact .inl ⟨k,Nat.lt_succ_self k,s',e1,bU, .inl ⟨⟨g1.all,g2⟩,g3,hk⟩⟩
     · rintro t rfl;simp only [Option.some.injEq] at hk;exact hk.symm
     · rintro r rfl;simp only [Option.some.injEq] at hk;exact hk.symm
     · intro x e' aH e1 bU hx g1 g2 g3
       cases x with
       |normal=>exact absurd rfl hx
       |_=>exact .inr ⟨e1,bU,⟨g1.all,g2⟩,g3⟩
  rintro k e ah ⟨s,e1,bU,⟨hw,hJ,hk⟩|⟨hJ,hk⟩⟩
  · exact AW.G5 hw (main k s e1 bU hJ hk)
  · exact main k s e ah hJ hk
 |scope c0 ih=>exact fun cc=>AW.scope (ih cc)
 |region id ops draw=>intro cc;simp only [bM] at cc;repeat' (split at cc)<;>simp at cc
 |block i c0=>intro cc;simp only [bM,Option.map_eq_some_iff] at cc;obtain ⟨a, -,h⟩:=cc;cases h
 |seq a b=>intro cc;simp only [bM] at cc;split at cc<;>simp at cc
 |cond a b c=>intro cc;simp only [bM] at cc;split at cc<;>simp at cc
 |_=>intro cc;simp [bM] at cc
theorem aG.wkx {f:Nat} {args:List AV} {ah:AH} {R R':AV→AH→Prop} (h:aG P f args ah R) (hr:∀r aH,R r aH→∃r' DN,Wx r r'∧gp aH DN∧R' r' DN):aG P f args ah R':=by
 refine ⟨h.1,fun F γ C w vs hs=>(h.2 F γ C w vs hs).mono ?_⟩
 rintro en w' ⟨r,v,aH,γ',C',rfl,h1,h2,h3,h4⟩
 obtain ⟨r',DN,g1,g2,g3⟩:=hr r aH h1
 refine ⟨r',v,DN,γ',C',rfl,g3,h2,h3.wx ⟨fun t=> ?_,g2⟩,h4⟩
 simp only [Am.get]
 split
 · exact g1
 · exact Wx.un _
def WL:List AV→List AV→Prop
 |[],[]=>True
 |a::r,a'::r'=>Wx a a'∧WL r r'
 |_,_=>False
theorem WL.nil:WL [] []:=trivial
theorem WL.cons {a a':AV} {r r':List AV} (h:Wx a a') (hr:WL r r'):WL (a::r) (a'::r'):=⟨h,hr⟩
theorem WL.len:∀ {zq zq':List AV},WL zq zq'→zq'.length=zq.length:=by
 intro zq
 induction zq with
 |nil=>intro zq' h;cases zq' with|nil=>rfl|cons=>exact h.elim
 |cons a r ih=>intro zq' h;cases zq' with|nil=>exact h.elim|cons a' r'=>simp [ih h.2]
theorem WL.get:∀ {zq zq':List AV},WL zq zq'→∀(i:Nat) (a a':AV),zq[i]? =some a→zq'[i]? =some a'→Wx a a':=by
 intro zq
 induction zq with
 |nil=>intro zq' _ i a a' h;simp at h
 |cons a r ih=>
  intro zq' h i b b' h1 h2
  cases zq' with
  |nil=>exact h.elim
  |cons a' r'=>
   rcases i with _|i
   · simp at h1 h2;subst h1;subst h2;exact h.1
   · exact ih h.2 i b b' (by simpa using h1) (by simpa using h2)
theorem aG.G5 {f:Nat} {args args':List AV} {ah bU:AH} {R:AV→AH→Prop} (hw:WL args args') (hh:gp ah bU) (h:aG P f args' bU R):aG P f args ah R:=by
 refine ⟨h.1,fun F γ C w vs hs=>h.2 F γ C w vs ?_⟩
 rw [hw.len]
 refine hs.wx ⟨fun t=> ?_,hh⟩
 rw [eC,eC]
 simp only [Nat.zero_le,if_true,Nat.sub_zero]
 cases h1:args[t]? with
 |none=>
  have:args'[t]? =none:=by
   rw [List.getElem?_eq_none_iff] at h1 ⊢
   rw [hw.len];exact h1
  rw [this];exact Wx.un _
 |some a=>
  have hlt:t<args'.length:=by rw [hw.len];exact (List.getElem?_eq_some_iff.1 h1).1
  rw [List.getElem?_eq_getElem hlt]
  exact hw.get t a _ h1 (List.getElem?_eq_getElem hlt)
theorem YE {f:Nat} {zq zq':List AV} {bU:AH} {R:AV→AH→Prop} (h:aG P f zq' bU R) (hw:WL zq zq') (hh:gp ah bU) (hk:∀v aH,R v aH→U P L N n0 (.ops r::t) Q .normal (aI L (wE e) d v.df) aH):
 UK P L N n0 f zq d r t Q e ah:=(h.G5 hw hh).mono hk
def wJ (P:Program) (ah:AH) (rs:List ResultVar) (R:AV→AH→Prop) (e':Env) (H:AH):Prop:=
 ∃vs r' aH,gm P e' H rs=some vs∧Wx (fin vs) r'∧R r' aH∧
  ((Cl ah.length (fin vs)∧kV ah.length (H.take ah.length)∧ah.length≤H.length∧gp (H.take ah.length) aH)∨gp H aH)
theorem aG.ZR {f:Nat} {rs:List ResultVar} {ac m:ax} (hF:bN P f N rs ac) (hm:erase m=ac) {args:List AV} {R:AV→AH→Prop} (L:List Nat)
 (ho:qE N ac=true) (hN:args.length≤N)
 (h:kV ah.length ah→∀K:Exit→Env→AH→Prop,(∀x e' H,x= .normal∨x= .ret→wJ P ah rs R e' H→K x e' H)→
  AX P L N ah.length ac K (eS 0 args) ah):aG P f args ah R:=by
 refine aG.wkx (R:=fun r aH=>∃r' DN,Wx r r'∧gp aH DN∧R r' DN) ?_ (fun r aH h=>h)
 obtain ⟨fn,c,h1,h2,h3,h4,rfl,rfl⟩:=hF
 refine aG.N1 L h1 h2 h3 h4 ho hN ?_
 intro hcl hargs
 refine h hcl _ ?_
 rintro x e' H hx ⟨vs,r',aH,g1,g2,g3,⟨g4,g5,g6,g7⟩|g4⟩
 · refine .inl ⟨ah.length,Nat.le_refl _,hx, ?_⟩
   rw [g1]
   exact ⟨g4,g5,g6,r',aH,g2,g7,g3⟩
 · refine .inr ⟨hx, ?_⟩
   rw [g1]
   exact ⟨r',aH,g2,g4,g3⟩
end
end Go.Am
end
section
namespace Go.Am
open Go
variable [Tabs]
def idx {α:Type} (l:List α) (i:Int):Option α:=if 0≤i then l[i.toNat]? else none
def sub {α:Type} (l:List α) (i j:Int):Option (List α):=if 0≤i∧i≤j∧j≤l.length then some ((l.take j.toNat).drop i.toNat) else none
def fe {α:Type} (b:Nat) (xs ys:List α):Option (List α):=if (xs.length+ys.length)*b≤140737488355328∧xs.length+ys.length≤4611686018427387904 then some (xs++ys) else none
def cat (l m:List UInt8):Option (List UInt8):=if l.length+m.length≤9223372036854775807 then some (l++m) else none
def ml {α:Type} (f:α→AV) (xs:List α):List AV:=xs.map f
def dv (k:IntKind) (i j:Int):Option Int:=if j=0 then none else some (k.wrap (i.tdiv j))
def rm (k:IntKind) (i j:Int):Option Int:=if j=0 then none else some (i.tmod j)
def shl (k:IntKind) (i j:Int):Int:=k.wrap (i*2 ^ (min j.toNat k.bits))
def shr (k:IntKind) (i j:Int):Int:=i.fdiv (2 ^ (min j.toNat k.bits))
def SZ (k:IntKind) (i j:Int):Int:=k.wrap (BitVec.ofInt k.bits i &&& BitVec.ofInt k.bits j).toNat
def ZS (k:IntKind) (i j:Int):Int:=k.wrap (BitVec.ofInt k.bits i ||| BitVec.ofInt k.bits j).toNat
def S0 (k:IntKind) (i j:Int):Int:=k.wrap (BitVec.ofInt k.bits i ^^^ BitVec.ofInt k.bits j).toNat
def Oa (k:IntKind) (i:Int):AV:= .int k i
theorem aq {α β:Type} {o:Option α} {f:α→Option β} {r:β} (h:o.bind f=some r):∃x,o=some x∧f x=some r:=Option.bind_eq_some_iff.1 h
theorem ifb {β:Type} {B:Bool} {x y:Option β} {r:β} (h:(if B=true then x else y)=some r):(B=true∧x=some r)∨(B=false∧y=some r):=by
 cases B
 · exact .inr ⟨rfl,h⟩
 · exact .inl ⟨rfl,h⟩
theorem G6 {β:Type} {p:Prop} [Decidable p] {x:Option β} {r:β} (h:(if p then x else none)=some r):p∧x=some r:=by
 split at h
 · exact ⟨by assumption,h⟩
 · cases h
theorem Ob {α:Type} (f:α→AV) (l:List α) (i:Int):idx (ml f l) i=(idx l i).map f:=by
 unfold idx ml;split<;>simp
theorem G7 {α:Type} (f:α→AV) (l:List α) (i j:Int):sub (ml f l) i j=(sub l i j).map (ml f):=by
 unfold sub ml;simp only [List.length_map];split<;>simp [List.map_take,List.map_drop,ml]
theorem G8 {α:Type} (f:α→AV) (l:List α):(ml f l).length=l.length:=by simp [ml]
theorem lR {α:Type} {f:α→AV} {b:Nat} {xs ys zs:List α} (h:fe b xs ys=some zs):fe b (ml f xs) (ml f ys)=some (ml f zs):=by
 unfold fe at h ⊢
 simp only [G8]
 obtain ⟨hc,h⟩:=G6 h
 rw [if_pos hc]
 injection h with h
 subst h
 simp [ml]
theorem Ch (l:List UInt8):bytesOf (ml b8 l)=some l:=Jp l
section
variable {P:Program} {L:List Nat} {N n0:Nat} {e:Env} {ah:AH} {t:List It} {Q:Exit→Env→AH→Prop} {r:List aL} {d:Option Nat} {g:Option (Nat×Bool)}
theorem ZT {y:Nat} {bs:List UInt8}:UG P L N n0 ⟨d, .lit y bs,g⟩ r t Q e ah (some true)=U P L N n0 (It.ops r::t) Q Exit.normal (put (aI L e d (.sl .ex 1 (ml b8 bs))) y .un) ah:=rfl
theorem Oc {l:List UInt8} {k:IntKind} {i:Int}:Jm L e ah d (.str l) (.int k i)=(idx l i).map fun c=>(aI L e d (b8 c),ah):=by
 simp only [Jm,idx]
 split
 · cases l[i.toNat]? <;>rfl
 · rfl
theorem Od {tg:Tg} {k:Nat} {xs:List AV} {ki:IntKind} {i:Int}:Ab L e ah d k (.sl tg k xs) (.int ki i)=(idx xs i).map fun a=>(aI L e d (.ep a 0),ah):=by
 simp only [Ab,idx]
 split
 · cases xs[i.toNat]? <;>simp [N7]
 · rfl
def bI (e:Env) (dflt:Int):Option Ar→AV
 |none=> .int .i64 dflt
 |some x=>ev e x
def Oe (L:List Nat) (e:Env) (ah:AH) (d:Option Nat) (l:List UInt8):AV→AV→Option (Env×AH)
 | .int _ i, .int _ j=>(sub l i j).map fun m=>(aI L e d (.str m),ah)
 |_,_=>none
theorem G9 {n:Nat} {x:Option Ar}:kU e n x=u6 (bI e n x):=by
 cases x with
 |none=>simp [kU,bI,u6]
 |some x=>simp only [SU,bI]
theorem DO {x:Option Ar}:kU e 0 x=u6 (bI e 0 x):=G9 (n:=0)
theorem abl {k:IntKind} {i:Int}:u6 (.int k i)=if 0≤i then some i.toNat else none:=rfl
theorem DP {α:Type} (l:List α) (i j:Int):sub l i j=if 0≤i then if 0≤j then if i.toNat≤j.toNat∧j.toNat≤l.length then some ((l.take j.toNat).drop i.toNat) else none else none else none:=by
 unfold sub
 by_cases h1:0≤i
 · by_cases h2:0≤j
   · simp only [if_pos h1,if_pos h2]
     have:(0≤i∧i≤j∧j≤(l.length:Int))↔(i.toNat≤j.toNat∧j.toNat≤l.length):=by omega
     simp only [this]
   · rw [if_neg (by omega)];simp [h2]
 · rw [if_neg (by omega)];simp [h1]
theorem W7 {l:List UInt8} {lo hi:Option Ar}:N4 L e ah d lo hi (.str l)=Oe L e ah d l (bI e 0 lo) (bI e l.length hi):=by
 simp only [N4,DO,G9]
 generalize bI e 0 lo=a
 generalize bI e l.length hi=b
 cases a with
 |int k i=>
  cases b with
  |int k' j=>
   simp only [u6,Oe,DP]
   by_cases h1:0≤i<;>by_cases h2:0≤j<;>simp only [h1,h2,if_true,if_false,N3,Option.map_none]
   split<;>rfl
  |_=>simp only [u6,Oe];split<;>rfl
 |_=>cases b<;>rfl
def Og (L:List Nat) (e:Env) (ah:AH) (d:Option Nat) (k:Nat) (xs:List AV):AV→AV→Option (Env×AH)
 | .int _ i, .int _ j=>(sub xs i j).map fun ys=>(aI L e d (.sl .n k ys),ah)
 |_,_=>none
theorem W8 {tg:Tg} {k:Nat} {xs:List AV} {lo hi:Option Ar}:N6 L e ah d k lo hi (.sl tg k xs)=Og L e ah d k xs (bI e 0 lo) (bI e xs.length hi):=by
 simp only [N6,DO,G9]
 generalize bI e 0 lo=a
 generalize bI e xs.length hi=b
 cases a with
 |int k i=>
  cases b with
  |int k' j=>
   simp only [u6,Og,DP]
   by_cases h1:0≤i<;>by_cases h2:0≤j<;>simp only [h1,h2,if_true,if_false,N5,Option.map_none,true_and]
   split<;>rfl
  |_=>simp only [u6,Og];split<;>rfl
 |_=>cases b<;>rfl
def Ci {α:Type} (l:List α) (i j m:Int):Option (List α):=if j=m then sub l i j else none
theorem Jq {α:Type} (f:α→AV) (l:List α) (i j m:Int):Ci (ml f l) i j m=(Ci l i j m).map (ml f):=by
 unfold Ci;split
 · exact G7 ..
 · rfl
def DQ (L:List Nat) (e:Env) (ah:AH) (d:Option Nat) (k:Nat) (xs:List AV):AV→AV→AV→Option (Env×AH)
 | .int _ i, .int _ j, .int _ m=>(Ci xs i j m).map fun ys=>(aI L e d (.sl .ex k ys),ah)
 |_,_,_=>none
theorem S1 {tg:Tg} {k:Nat} {xs:List AV} {lo:Option Ar} {hi m:Ar}:G4 L e ah d k lo hi m (.sl tg k xs)=DQ L e ah d k xs (bI e 0 lo) (ev e hi) (ev e m):=by
 simp only [G4,DO,SU]
 generalize bI e 0 lo=a
 generalize ev e hi=b
 generalize ev e m=c
 cases a with
 |int k i=>
  cases b with
  |int k' j=>
   cases c with
   |int k'' l=>
    simp only [u6,DQ,Ci,DP]
    by_cases h1:0≤i<;>by_cases h2:0≤j<;>by_cases h3:0≤l<;>by_cases h4:j=l<;>simp only [h1,h2,h3,h4,if_true,if_false,G3,Option.map_none,true_and]
    all_goals first
     |rfl
     |(exfalso;omega)
     |(subst h4;split<;>rename_i q<;>split<;>rename_i q2<;>first|rfl|(exfalso;omega))
     |(split<;>first|rfl|(exfalso;omega))
   |_=>simp only [u6,DQ];repeat' split
       all_goals first|rfl|skip
  |_=>simp only [u6,DQ];repeat' split
      all_goals first|rfl|skip
 |_=>cases b<;>cases c<;>rfl
theorem W9 {tg:Tg} {k b:Nat} {x:Ar} {ys:List AV}:SW L e ah d k b x (.sl tg k ys)=yd L e ah d k b x ys:=by simp [SW]
theorem S3 {b:Nat} {x:Ar} {l:List UInt8}:SX L e ah d b x (.str l)=yd L e ah d 1 b x (ml b8 l):=rfl
def sM (L:List Nat) (e:Env) (ah:AH) (d:Option Nat) (k:Nat) (x:Ar) (xs zs:List AV):Tg→Option (Env×AH)
 | .ex=>some (aI L e d (.sl .own k zs),ah)
 | .own=>match x with
   | .t x=>some (aI L (put e x (.sl .n k xs)) d (.sl .own k zs),ah)
   |_=>none
 | .fr (.tmp t)=>match get e t with
   | .sl .own k' us=>if k'=k then some (aI L (put e t (.sl .n k' us)) d (.sl .own k zs),ah) else none
   |_=>none
 | .fr (.cell s q)=>match ah[s]? with
   |some cs=>match cs[q]? with
    |some (.sl .own k' us)=>if k'=k then (over cs q [.sl .n k' us]).map fun cs=>(aI L e d (.sl .own k zs),ah.set s cs) else none
    |_=>none
   |none=>none
 | .n=>none
def DR (L:List Nat) (e:Env) (ah:AH) (d:Option Nat) (k:Nat) (x:Ar) (xs:List AV) (tg:Tg):Option (List AV)→Option (Env×AH)
 |some zs=>sM L e ah d k x xs zs tg
 |none=>none
theorem S4 {L:List Nat} {e:Env} {ah:AH} {d:Option Nat} {k:Nat} {x:Ar} {xs zs:List AV} {tg:Tg}:DR L e ah d k x xs tg (some zs)=sM L e ah d k x xs zs tg:=rfl
def He (L:List Nat) (e:Env) (ah:AH) (d:Option Nat) (k b:Nat) (x:Ar) (ys:List AV):AV→Option (Env×AH)
 | .sl tg k' xs=>if k'=k then DR L e ah d k x xs tg (fe b xs ys) else none
 |_=>none
theorem Xa {k b:Nat} {x:Ar} {ys:List AV}:yd L e ah d k b x ys=He L e ah d k b x ys (ev e x):=by
 simp only [yd]
 cases ev e x with
 |sl tg k' xs=>
  simp only [He,fe]
  by_cases h1:k'=k
  · subst h1
    simp only [true_and,if_true]
    by_cases h2:(xs.length+ys.length)*b≤140737488355328∧xs.length+ys.length≤4611686018427387904
    · simp only [if_pos h2,DR]
      cases tg with
      |fr l=>cases l with
       |tmp u=>
        simp only [sM]
        cases get e u with
        |sl Xb k2 zs=>cases Xb<;>rfl
        |_=>rfl
       |cell s q=>
        simp only [sM]
        cases ah[s]? with
        |none=>rfl
        |some cs=>
         simp only []
         cases cs[q]? with
         |none=>rfl
         |some a=>cases a with
          |sl Xb k2 zs=>cases Xb<;>rfl
          |_=>rfl
      |own=>cases x<;>rfl
      |_=>rfl
    · simp only [if_neg h2,DR]
  · simp [h1]
 |_=>rfl
end
theorem S5 {k:IntKind} {i j:Int}:bw .add (.int k i) (.int k j)=some (.int k (k.wrap (i+j))):=by simp [bw,cE]
theorem S6 {k:IntKind} {i j:Int}:bw .sub (.int k i) (.int k j)=some (.int k (k.wrap (i - j))):=by simp [bw,cE]
theorem ZU {k:IntKind} {i j:Int}:bw .mul (.int k i) (.int k j)=some (.int k (k.wrap (i*j))):=by simp [bw,cE]
theorem ZV {k:IntKind} {i j:Int}:bw .quo (.int k i) (.int k j)=(dv k i j).map (.int k):=by simp [bw,cE,dv];split<;>rfl
theorem S7 {k:IntKind} {i j:Int}:bw .rem (.int k i) (.int k j)=(rm k i j).map (.int k):=by simp [bw,cE,rm];split<;>rfl
theorem S8 {k:IntKind} {i j:Int}:bw .and (.int k i) (.int k j)=some (.int k (SZ k i j)):=by simp [bw,cE,SZ]
theorem YF {k:IntKind} {i j:Int}:bw .or (.int k i) (.int k j)=some (.int k (ZS k i j)):=by simp [bw,cE,ZS]
theorem S9 {k:IntKind} {i j:Int}:bw .xor (.int k i) (.int k j)=some (.int k (S0 k i j)):=by simp [bw,cE,S0]
theorem adx {k k':IntKind} {i j:Int}:bw .shl (.int k i) (.int k' j)=if j<0 then none else some (.int k (shl k i j)):=by simp [bw,shl]
theorem ady {k k':IntKind} {i j:Int}:bw .shr (.int k i) (.int k' j)=if j<0 then none else some (.int k (shr k i j)):=by simp [bw,shr]
theorem Ta {k:IntKind} {i j:Int}:bw .eql (.int k i) (.int k j)=some (.bool (decide (i=j))):=by simp [bw,cE]
theorem Tb {k:IntKind} {i j:Int}:bw .neq (.int k i) (.int k j)=some (.bool (!decide (i=j))):=by simp [bw,cE]
theorem Tc {k:IntKind} {i j:Int}:bw .lss (.int k i) (.int k j)=some (.bool (decide (i<j))):=by simp [bw,cE]
theorem Td {k:IntKind} {i j:Int}:bw .leq (.int k i) (.int k j)=some (.bool (decide (i≤j))):=by simp [bw,cE]
theorem Te {k:IntKind} {i j:Int}:bw .gtr (.int k i) (.int k j)=some (.bool (decide (j<i))):=by simp [bw,cE]
theorem Tf {k:IntKind} {i j:Int}:bw .geq (.int k i) (.int k j)=some (.bool (decide (j≤i))):=by simp [bw,cE]
theorem Xc {k k':IntKind} {i:Int}:bw .shr (.int k i) (.int k' 1)=some (.int k (shr k i 1)):=by simp [bw,shr]
theorem Xd {k k':IntKind} {i:Int}:bw .shl (.int k i) (.int k' 1)=some (.int k (shl k i 1)):=by simp [bw,shl]
theorem Xe {k k':IntKind} {i:Int}:bw .shr (.int k i) (.int k' 2)=some (.int k (shr k i 2)):=by simp [bw,shr]
theorem Xf {k k':IntKind} {i:Int}:bw .shl (.int k i) (.int k' 2)=some (.int k (shl k i 2)):=by simp [bw,shl]
theorem Xg {k k':IntKind} {i:Int}:bw .shr (.int k i) (.int k' 3)=some (.int k (shr k i 3)):=by simp [bw,shr]
theorem Xh {k k':IntKind} {i:Int}:bw .shl (.int k i) (.int k' 3)=some (.int k (shl k i 3)):=by simp [bw,shl]
theorem Xi {k k':IntKind} {i:Int}:bw .shr (.int k i) (.int k' 4)=some (.int k (shr k i 4)):=by simp [bw,shr]
theorem Xj {k k':IntKind} {i:Int}:bw .shl (.int k i) (.int k' 4)=some (.int k (shl k i 4)):=by simp [bw,shl]
theorem Xk {k k':IntKind} {i:Int}:bw .shr (.int k i) (.int k' 5)=some (.int k (shr k i 5)):=by simp [bw,shr]
theorem Xl {k k':IntKind} {i:Int}:bw .shl (.int k i) (.int k' 5)=some (.int k (shl k i 5)):=by simp [bw,shl]
theorem Xm {k k':IntKind} {i:Int}:bw .shr (.int k i) (.int k' 6)=some (.int k (shr k i 6)):=by simp [bw,shr]
theorem Xn {k k':IntKind} {i:Int}:bw .shl (.int k i) (.int k' 6)=some (.int k (shl k i 6)):=by simp [bw,shl]
theorem Xo {k k':IntKind} {i:Int}:bw .shr (.int k i) (.int k' 7)=some (.int k (shr k i 7)):=by simp [bw,shr]
theorem Xp {k k':IntKind} {i:Int}:bw .shl (.int k i) (.int k' 7)=some (.int k (shl k i 7)):=by simp [bw,shl]
theorem Xq {k k':IntKind} {i:Int}:bw .shr (.int k i) (.int k' 8)=some (.int k (shr k i 8)):=by simp [bw,shr]
theorem Xr {k k':IntKind} {i:Int}:bw .shl (.int k i) (.int k' 8)=some (.int k (shl k i 8)):=by simp [bw,shl]
theorem Th {k k':IntKind} {i:Int}:bw .shr (.int k i) (.int k' 16)=some (.int k (shr k i 16)):=by simp [bw,shr]
theorem Ti {k k':IntKind} {i:Int}:bw .shl (.int k i) (.int k' 16)=some (.int k (shl k i 16)):=by simp [bw,shl]
theorem Tj {k k':IntKind} {i:Int}:bw .shr (.int k i) (.int k' 24)=some (.int k (shr k i 24)):=by simp [bw,shr]
theorem Tk {k k':IntKind} {i:Int}:bw .shl (.int k i) (.int k' 24)=some (.int k (shl k i 24)):=by simp [bw,shl]
theorem ZW {l m:List UInt8}:bw .add (.str l) (.str m)=(cat l m).map .str:=by simp only [bw,cat];split<;>rfl
theorem ZX {l m:List UInt8}:bw .eql (.str l) (.str m)=some (.bool (decide (l=m))):=rfl
theorem ZY {l m:List UInt8}:bw .neq (.str l) (.str m)=some (.bool (!decide (l=m))):=rfl
theorem Tl (n:Int):IntKind.wrap .u8 n=((UInt8.ofInt n).toNat:Int):=by
 have:(UInt8.ofInt n).toNat=(n % 256).toNat:=by
  rw [UInt8.ofInt]
  simp
  omega
 rw [this]
 simp only [IntKind.wrap,IntKind.bits,IntKind.signed,Bool.false_and,if_false,Bool.false_eq_true]
 omega
theorem Xs (a b:UInt8):IntKind.wrap .u8 ((a.toNat:Int)+b.toNat)=((a+b).toNat:Int):=by
 have h1:=a.toNat_lt
 have h2:=b.toNat_lt
 simp only [IntKind.wrap,IntKind.bits,IntKind.signed,Bool.false_and,if_false,Bool.false_eq_true,UInt8.toNat_add]
 omega
theorem Xt (a b:UInt8):IntKind.wrap .u8 ((a.toNat:Int) - b.toNat)=((a - b).toNat:Int):=by
 have h1:=a.toNat_lt
 have h2:=b.toNat_lt
 simp only [IntKind.wrap,IntKind.bits,IntKind.signed,Bool.false_and,if_false,Bool.false_eq_true,UInt8.toNat_sub]
 omega
theorem Hf (a:UInt8):IntKind.wrap .u8 (a.toNat:Int)=(a.toNat:Int):=by
 have h1:=a.toNat_lt
 simp only [IntKind.wrap,IntKind.bits,IntKind.signed,Bool.false_and,if_false,Bool.false_eq_true]
 omega
theorem ofInt8 (a:UInt8):BitVec.ofInt 8 (a.toNat:Int)=a.toBitVec:=by
 apply BitVec.eq_of_toNat_eq;simp
theorem ZZ {a b:UInt8}:bw .add (b8 a) (b8 b)=some (b8 (a+b)):=by simp only [b8];rw [S5,Xs]
theorem Z0 {a b:UInt8}:bw .sub (b8 a) (b8 b)=some (b8 (a - b)):=by simp only [b8];rw [S6,Xt]
theorem Z1 {a b:UInt8}:bw .and (b8 a) (b8 b)=some (b8 (a &&& b)):=by
 simp only [b8];rw [S8,SZ]
 have:((BitVec.ofInt IntKind.u8.bits (a.toNat:Int) &&& BitVec.ofInt IntKind.u8.bits (b.toNat:Int)).toNat:Int)=((a &&& b).toNat:Int):=by
  simp only [IntKind.bits,ofInt8];rfl
 rw [this,Hf]
theorem abX {a b:UInt8}:bw .or (b8 a) (b8 b)=some (b8 (a ||| b)):=by
 simp only [b8];rw [YF,ZS]
 have:((BitVec.ofInt IntKind.u8.bits (a.toNat:Int) ||| BitVec.ofInt IntKind.u8.bits (b.toNat:Int)).toNat:Int)=((a ||| b).toNat:Int):=by
  simp only [IntKind.bits,ofInt8];rfl
 rw [this,Hf]
theorem Z2 {a b:UInt8}:bw .xor (b8 a) (b8 b)=some (b8 (a ^^^ b)):=by
 simp only [b8];rw [S9,S0]
 have:((BitVec.ofInt IntKind.u8.bits (a.toNat:Int) ^^^ BitVec.ofInt IntKind.u8.bits (b.toNat:Int)).toNat:Int)=((a ^^^ b).toNat:Int):=by
  simp only [IntKind.bits,ofInt8];rfl
 rw [this,Hf]
theorem Z3 {a b:UInt8}:bw .rem (b8 a) (b8 b)=if b=0 then none else some (b8 (a % b)):=by
 simp only [b8];rw [S7,rm]
 by_cases h:b=0
 · subst h;simp
 · have h2:¬(b.toNat:Int)=0:=by
    intro h0;apply h;apply UInt8.toNat_inj.1;simp;omega
   rw [if_neg h,if_neg h2]
   simp only [Option.map_some,UInt8.toNat_mod]
   rw [Int.tmod_eq_emod_of_nonneg (by omega)]
   simp
theorem Z4 {a b:UInt8}:bw .eql (b8 a) (b8 b)=some (.bool (decide (a=b))):=by
 simp only [b8];rw [Ta];simp [←UInt8.toNat_inj,Int.ofNat_inj]
theorem Z5 {a b:UInt8}:bw .neq (b8 a) (b8 b)=some (.bool (!decide (a=b))):=by
 simp only [b8];rw [Tb];simp [←UInt8.toNat_inj,Int.ofNat_inj]
theorem Z6 {a b:UInt8}:bw .lss (b8 a) (b8 b)=some (.bool (decide (a<b))):=by
 simp only [b8];rw [Tc];simp [UInt8.lt_iff_toNat_lt]
theorem Z7 {a b:UInt8}:bw .leq (b8 a) (b8 b)=some (.bool (decide (a≤b))):=by
 simp only [b8];rw [Td];simp [UInt8.le_iff_toNat_le]
theorem Z8 {a b:UInt8}:bw .gtr (b8 a) (b8 b)=some (.bool (decide (b<a))):=by
 simp only [b8];rw [Te];simp [UInt8.lt_iff_toNat_lt]
theorem Z9 {a b:UInt8}:bw .geq (b8 a) (b8 b)=some (.bool (decide (b≤a))):=by
 simp only [b8];rw [Tf];simp [UInt8.le_iff_toNat_le]
theorem abY {k:IntKind} {c:UInt8}:fc (.int k) (b8 c)=some (.int k (k.wrap c.toNat)):=rfl
theorem abZ {k:IntKind} {i:Int}:fc (.int .u8) (.int k i)=some (b8 (UInt8.ofInt i)):=by simp only [fc,b8,Tl]
theorem ab0 {c:UInt8}:fc (.int .u8) (b8 c)=some (b8 c):=by simp only [fc,b8,Hf]
theorem ab1 {k':IntKind} {i:Int}:fc (.int .i8) (.int k' i)=some (.int .i8 (IntKind.wrap .i8 i)):=rfl
theorem aaa {k':IntKind} {i:Int}:fc (.int .i16) (.int k' i)=some (.int .i16 (IntKind.wrap .i16 i)):=rfl
theorem aab {k':IntKind} {i:Int}:fc (.int .i32) (.int k' i)=some (.int .i32 (IntKind.wrap .i32 i)):=rfl
theorem aac {k':IntKind} {i:Int}:fc (.int .i64) (.int k' i)=some (.int .i64 (IntKind.wrap .i64 i)):=rfl
theorem aad {k':IntKind} {i:Int}:fc (.int .u16) (.int k' i)=some (.int .u16 (IntKind.wrap .u16 i)):=rfl
theorem aae {k':IntKind} {i:Int}:fc (.int .u32) (.int k' i)=some (.int .u32 (IntKind.wrap .u32 i)):=rfl
theorem aaf {k':IntKind} {i:Int}:fc (.int .u64) (.int k' i)=some (.int .u64 (IntKind.wrap .u64 i)):=rfl
theorem ab2 {l:List UInt8}:fc .same (.str l)=some (.str l):=rfl
theorem ab3 {l:List UInt8}:fc .sb (.str l)=some (.sl .own 1 (ml b8 l)):=rfl
theorem ab4 {tg:Tg} {xs:List AV}:fc .bs (.sl tg 1 xs)=(bytesOf xs).map .str:=rfl
theorem aag {k:IntKind} {i:Int}:La .neg (.int k i)=some (.int k (k.wrap (0 - i))):=rfl
theorem aah {b:Bool}:La .not (.bool b)=some (.bool !b):=rfl
def ab5 (k:IntKind) (i:Int):Int:=k.wrap (BitVec.ofInt k.bits (if k.signed then -1 else k.max) ^^^ BitVec.ofInt k.bits i).toNat
theorem aai {k:IntKind} {i:Int}:La .xor (.int k i)=some (.int k (ab5 k i)):=rfl
theorem Hg:bytesOf []=some []:=rfl
theorem LB {c:UInt8} {r:List AV}:bytesOf (b8 c::r)=(bytesOf r).map (c:: ·):=by
 simp [b8,bytesOf]
theorem Q_i {ks:List Pk} {k:IntKind} {i j:Int} {zq bs:List AV}:cm (.i::ks) (.int k i::zq) (.int k j::bs)=(cm ks zq bs).map (decide (i=j)&& ·):=by simp [cm]
theorem Q_s {ks:List Pk} {l m:List UInt8} {zq bs:List AV}:cm (.s::ks) (.str l::zq) (.str m::bs)=(cm ks zq bs).map (decide (l=m)&& ·):=rfl
theorem Q_b {ks:List Pk} {x y:Bool} {zq bs:List AV}:cm (.b::ks) (.bool x::zq) (.bool y::bs)=(cm ks zq bs).map ((x==y)&& ·):=rfl
theorem Q_n:cm [] [] []=some true:=rfl
theorem ab6 {x y:Bool}:K7 (.bool x) (.bool y)=some (x==y):=rfl
theorem ab7 {s o:Nat}:K8 (.ptr s o) (.v (.pointer none))=some false:=rfl
theorem ab8 {s o:Nat}:K8 (.v (.pointer none)) (.ptr s o)=some false:=rfl
theorem ab9:K8 (.v (.pointer none)) (.v (.pointer none))=some true:=rfl
section
variable {P:Program} {L:List Nat} {N n0:Nat} {e:Env} {ah:AH} {t:List It} {Q:Exit→Env→AH→Prop} {r:List aL} {d:Option Nat}
theorem cy {c:UInt8}:(b8 c).bu=b8 c:=rfl
theorem YG {c:UInt8}:(b8 c).sh=b8 c:=rfl
theorem adU {c:UInt8}:(b8 c).s1=b8 c:=rfl
theorem adV {c:UInt8}:(b8 c).s0=b8 c:=rfl
theorem YH {c:UInt8}:(b8 c).df=b8 c:=rfl
theorem adz {c:UInt8}:(b8 c).iE=b8 c:=rfl
theorem adA {c:UInt8}:(b8 c).qC=b8 c:=rfl
theorem adi {c:UInt8} {l:Loc}:(b8 c).eu l=b8 c:=rfl
theorem adB {c:UInt8}:(b8 c).bQ=false:=rfl
theorem bZ {c:UInt8}:(b8 c).flat=true:=rfl
theorem adC {c:UInt8}:(b8 c).iG=true:=rfl
theorem adW {c:UInt8}:(b8 c).np=true:=rfl
theorem acd {c:UInt8}:(b8 c).cells=[b8 c]:=rfl
theorem adD {c:UInt8}:(b8 c).eK=false:=rfl
theorem adX {c:UInt8} {x:Ar}:cp L x (b8 c)=b8 c:=rfl
theorem adE {c:UInt8} {x:Ar}:jj P L N n0 e ah d r t Q x (b8 c)=U P L N n0 (.ops r::t) Q .normal (aI L e d (b8 c)) ah:=rfl
theorem Oh {n:Nat} {c:UInt8}:Cl n (b8 c):= .int ..
theorem aaj {l:List UInt8} {c:UInt8}:Jm L e ah d (.str l) (b8 c)=(idx l c.toNat).map fun c=>(aI L e d (b8 c),ah):=Oc
theorem aak {tg:Tg} {k:Nat} {xs:List AV} {c:UInt8}:Ab L e ah d k (.sl tg k xs) (b8 c)=(idx xs c.toNat).map fun a=>(aI L e d (.ep a 0),ah):=Od
theorem adF {s o:Nat} {c:UInt8}:dP s o (some (b8 c))=some (b8 c):=rfl
theorem aal {c:UInt8}:Pa L d e ah (some (b8 c))=some (aI L e d (b8 c),ah):=rfl
end
theorem h_eq {H:AH} {q:Nat} {c:List AV} (h:q<H.length):(H.set q c)[q]? =some c:=List.getElem?_set_self h
theorem YI {H:AH} {s q:Nat} {c:List AV} (h:s≠q):(H.set s c)[q]? =H[q]? :=List.getElem?_set_ne h
theorem Tm {H T:AH} {q:Nat} (h:q<H.length):(H++T)[q]? =H[q]? :=List.getElem?_append_left h
theorem aam {H:AH} {c:List AV}:(H++[c])[H.length]? =some c:=by simp
theorem Oi {H:AH} {q:Nat} {c:List AV} (h:q=H.length):(H++[c])[q]? =some c:=by subst h;simp
theorem aQ {H:AH} {q:Nat} {c:List AV} (h:H[q]? =some c):q<H.length:=(List.getElem?_eq_some_iff.1 h).1
theorem Ac {H:AH} {q:Nat} {c:List AV}:(H.set q c).length=H.length:=List.length_set
theorem Ad {H:AH} {c:List AV}:(H++[c]).length=H.length+1:=by simp
structure Fr (ah:AH) (n0:Nat) (S:List Nat) (H:AH):Prop where
 le:n0≤H.length
 eq:∀j,j<n0→j∉S→H[j]? =ah[j]?
theorem Fr.refl (ah:AH) (S:List Nat):Fr ah ah.length S ah:=⟨Nat.le_refl _,fun _ _ _=>rfl⟩
theorem Fr.set {ah H:AH} {n0 s:Nat} {S:List Nat} {c:List AV} (h:Fr ah n0 S H) (hs:s∈S∨n0≤s):Fr ah n0 S (H.set s c):=by
 refine ⟨by simpa using h.le,fun j hj DS=> ?_⟩
 rw [List.getElem?_set_ne,h.eq j hj DS]
 rintro rfl
 rcases hs with hs|hs
 · exact DS hs
 · omega
theorem Fr.app {ah H T:AH} {n0:Nat} {S:List Nat} (h:Fr ah n0 S H):Fr ah n0 S (H++T):=by
 have:=h.le
 exact ⟨by simp;omega,fun j hj DS=>by rw [List.getElem?_append_left (by omega),h.eq j hj DS]⟩
theorem Fr.YJ {ah H:AH} (h:Fr ah ah.length [] H):H.take ah.length=ah:=by
 apply List.ext_getElem?
 intro j
 by_cases hj:j<ah.length
 · rw [List.getElem?_take_of_lt hj,h.eq j hj (by simp)]
 · rw [List.getElem?_eq_none (by simp;omega),List.getElem?_eq_none (by omega)]
theorem Fr.YK {ah H:AH} {s:Nat} {c:List AV} (h:Fr ah ah.length [s] H) (hs:H[s]? =some c) (hl:s<ah.length):H.take ah.length=ah.set s c:=by
 apply List.ext_getElem?
 intro j
 by_cases hj:j<ah.length
 · rw [List.getElem?_take_of_lt hj]
   by_cases he:j=s
   · subst he;rw [hs,List.getElem?_set_self hl]
   · rw [List.getElem?_set_ne (Ne.symm he),h.eq j hj (by simpa using he)]
 · rw [List.getElem?_eq_none (by simp;omega),List.getElem?_eq_none (by simp;omega)]
theorem Fr.YL {ah H:AH} {s s2:Nat} {c c2:List AV} (h:Fr ah ah.length [s,s2] H) (hs:H[s]? =some c) (hs2:H[s2]? =some c2) (hl:s<ah.length) (CB:s2<ah.length) (hne:s≠s2):H.take ah.length=(ah.set s c).set s2 c2:=by
 apply List.ext_getElem?
 intro j
 by_cases hj:j<ah.length
 · rw [List.getElem?_take_of_lt hj]
   by_cases he:j=s2
   · subst he;rw [hs2,List.getElem?_set_self (by simpa using CB)]
   · rw [List.getElem?_set_ne (Ne.symm he)]
     by_cases he1:j=s
     · subst he1;rw [hs,List.getElem?_set_self hl]
     · rw [List.getElem?_set_ne (Ne.symm he1),h.eq j hj (by simp;exact ⟨he1,he⟩)]
 · rw [List.getElem?_eq_none (by simp;omega),List.getElem?_eq_none (by simp;omega)]
end Go.Am
end
section
namespace Go.Am
open Go
variable [Tabs]
def dN:Bool→AV
 |true=> .dQ
 |false=> .v .nilIface
def Oj (L:List Nat) (e:Env) (ah:AH) (d:Option Nat):AV→Option (Env×AH)
 | .sl _ _ xs=>some (aI L e d (.int .i64 xs.length),ah)
 | .cz _ _ _ n=>some (aI L e d (.int .i64 n),ah)
 | .cu _ _ n _=>some (aI L e d (.int .i64 n),ah)
 |_=>none
def Tn (L:List Nat) (e:Env) (ah:AH) (d:Option Nat):AV→Option (Env×AH)
 | .str l=>some (aI L e d (.int .i64 l.length),ah)
 |_=>none
def To (L:List Nat) (e:Env) (ah:AH) (d:Option Nat):Option AV→Option (Env×AH)
 |some a=>some (aI L e d a.sh,ah)
 |none=>none
def Tp (L:List Nat) (e:Env) (ah:AH) (d:Option Nat) (i:Nat):AV→Option (Env×AH)
 | .bB cs=>To L e ah d (cs[i]?)
 |_=>none
def LC (L:List Nat) (e:Env) (ah:AH) (d:Option Nat):Option AV→Option (Env×AH)
 |some a=>some (aI L e d a.bu,ah)
 |none=>none
def Hh (L:List Nat) (e:Env) (ah:AH) (d:Option Nat) (q:Nat):Option Nat→AV→Option (Env×AH)
 |some n, .agg cs=>if q+n≤cs.length then some (aI L e d (.agg (((cs.drop q).take n).map AV.bu)),ah) else none
 |none, .agg cs=>LC L e ah d (cs[q]?)
 |_,_=>none
def Tq (L:List Nat) (e:Env) (ah:AH) (d:Option Nat) (n:Option Nat):AV→Option (Env×AH)
 | .ep a p=>G2 L d n e ah (.ep a p)
 |_=>none
theorem Tr {z:Value}:AV.bu (.v z)=(.v z:AV):=rfl
theorem LD {k:IntKind} {i:Int}:AV.bu (.int k i)=(.int k i:AV):=rfl
theorem Jr {b:Bool}:AV.bu (.bool b)=(.bool b:AV):=rfl
theorem LF {l:List UInt8}:AV.bu (.str l)=(.str l:AV):=rfl
theorem LG {s o:Nat}:AV.bu (.ptr s o)=(.ptr s o:AV):=rfl
theorem Pe {a:AV} {o:Nat}:AV.bu (.ep a o)=(.ep a o:AV):=rfl
theorem Pf {f:Nat} {cs:List AV}:AV.bu (.fn f cs)=(.fn f cs:AV):=rfl
theorem Pg:AV.bu (.un)=(.un:AV):=rfl
theorem Ph {c:UInt8}:AV.bu (b8 c)=(b8 c:AV):=rfl
theorem Pj {k:Nat} {xs:List AV}:AV.bu (.sl .n k xs)=(.sl .n k xs:AV):=rfl
theorem LH {k:Nat} {xs:List AV}:AV.bu (.sl .ex k xs)=(.sl .ex k xs:AV):=rfl
theorem Js {k:Nat} {xs:List AV}:AV.bu (.sl .own k xs)=(.sl .n k xs:AV):=rfl
theorem LI {l:Loc} {k:Nat} {xs:List AV}:AV.bu (.sl (.fr l) k xs)=(.sl .n k xs:AV):=rfl
theorem LJ {cs:List AV}:AV.bu (.agg cs)=(.agg cs:AV):=rfl
theorem LK {cs:List AV}:AV.bu (.bB cs)=(.bB cs:AV):=rfl
theorem LL {q0 k0 o0 m0:Nat}:AV.bu (.cz q0 k0 o0 m0)=(.cz q0 k0 o0 m0:AV):=rfl
theorem LM {q0 k0 m0 c0:Nat}:AV.bu (.cu q0 k0 m0 c0)=(.cu q0 k0 m0 c0:AV):=rfl
theorem LN:AV.bu (.dQ)=(.dQ:AV):=rfl
theorem Pm {eb:Bool}:AV.bu (dN eb)=(dN eb:AV):=by cases eb<;>rfl
theorem Xu {z:Value}:AV.sh (.v z)=(.v z:AV):=rfl
theorem Pn {k:IntKind} {i:Int}:AV.sh (.int k i)=(.int k i:AV):=rfl
theorem LO {b:Bool}:AV.sh (.bool b)=(.bool b:AV):=rfl
theorem Po {l:List UInt8}:AV.sh (.str l)=(.str l:AV):=rfl
theorem Pp {s o:Nat}:AV.sh (.ptr s o)=(.ptr s o:AV):=rfl
theorem Ts {a:AV} {o:Nat}:AV.sh (.ep a o)=(.ep a o:AV):=rfl
theorem Tt {f:Nat} {cs:List AV}:AV.sh (.fn f cs)=(.fn f cs:AV):=rfl
theorem Tu:AV.sh (.un)=(.un:AV):=rfl
theorem Tv {c:UInt8}:AV.sh (b8 c)=(b8 c:AV):=rfl
theorem Tw {k:Nat} {xs:List AV}:AV.sh (.sl .n k xs)=(.sl .n k xs:AV):=rfl
theorem Pq {k:Nat} {xs:List AV}:AV.sh (.sl .ex k xs)=(.sl .ex k xs:AV):=rfl
theorem LP {k:Nat} {xs:List AV}:AV.sh (.sl .own k xs)=(.sl .n k xs:AV):=rfl
theorem Pr {l:Loc} {k:Nat} {xs:List AV}:AV.sh (.sl (.fr l) k xs)=(.sl .n k xs:AV):=rfl
theorem Pt {cs:List AV}:AV.sh (.agg cs)=(.agg (cs.map AV.bu):AV):=rfl
theorem Pu {cs:List AV}:AV.sh (.bB cs)=(.bB (cs.map AV.bu):AV):=rfl
theorem Pv {q0 k0 o0 m0:Nat}:AV.sh (.cz q0 k0 o0 m0)=(.cz q0 k0 o0 m0:AV):=rfl
theorem Pw {q0 k0 m0 c0:Nat}:AV.sh (.cu q0 k0 m0 c0)=(.cu q0 k0 m0 c0:AV):=rfl
theorem Px:AV.sh (.dQ)=(.dQ:AV):=rfl
theorem Tx {eb:Bool}:AV.sh (dN eb)=(dN eb:AV):=by cases eb<;>rfl
theorem Xv {z:Value}:AV.s1 (.v z)=(.v z:AV):=rfl
theorem Py {k:IntKind} {i:Int}:AV.s1 (.int k i)=(.int k i:AV):=rfl
theorem LQ {b:Bool}:AV.s1 (.bool b)=(.bool b:AV):=rfl
theorem Pz {l:List UInt8}:AV.s1 (.str l)=(.str l:AV):=rfl
theorem PA {s o:Nat}:AV.s1 (.ptr s o)=(.ptr s o:AV):=rfl
theorem Ty {a:AV} {o:Nat}:AV.s1 (.ep a o)=(.ep a o:AV):=rfl
theorem Tz {f:Nat} {cs:List AV}:AV.s1 (.fn f cs)=(.fn f cs:AV):=rfl
theorem TA:AV.s1 (.un)=(.un:AV):=rfl
theorem TB {c:UInt8}:AV.s1 (b8 c)=(b8 c:AV):=rfl
theorem TD {k:Nat} {xs:List AV}:AV.s1 (.sl .n k xs)=(.sl .n k xs:AV):=rfl
theorem PB {k:Nat} {xs:List AV}:AV.s1 (.sl .ex k xs)=(.sl .n k xs:AV):=rfl
theorem LR {k:Nat} {xs:List AV}:AV.s1 (.sl .own k xs)=(.sl .n k xs:AV):=rfl
theorem PD {l:Loc} {k:Nat} {xs:List AV}:AV.s1 (.sl (.fr l) k xs)=(.sl .n k xs:AV):=rfl
theorem PF {cs:List AV}:AV.s1 (.agg cs)=(.agg cs:AV):=rfl
theorem PG {cs:List AV}:AV.s1 (.bB cs)=(.bB cs:AV):=rfl
theorem PI {q0 k0 o0 m0:Nat}:AV.s1 (.cz q0 k0 o0 m0)=(.cz q0 k0 o0 m0:AV):=rfl
theorem PJ {q0 k0 m0 c0:Nat}:AV.s1 (.cu q0 k0 m0 c0)=(.cu q0 k0 m0 c0:AV):=rfl
theorem PK:AV.s1 (.dQ)=(.dQ:AV):=rfl
theorem TE {eb:Bool}:AV.s1 (dN eb)=(dN eb:AV):=by cases eb<;>rfl
theorem Xw {z:Value}:AV.s0 (.v z)=(.v z:AV):=rfl
theorem PL {k:IntKind} {i:Int}:AV.s0 (.int k i)=(.int k i:AV):=rfl
theorem LS {b:Bool}:AV.s0 (.bool b)=(.bool b:AV):=rfl
theorem PM {l:List UInt8}:AV.s0 (.str l)=(.str l:AV):=rfl
theorem PN {s o:Nat}:AV.s0 (.ptr s o)=(.ptr s o:AV):=rfl
theorem TF {a:AV} {o:Nat}:AV.s0 (.ep a o)=(.ep a o:AV):=rfl
theorem TG {f:Nat} {cs:List AV}:AV.s0 (.fn f cs)=(.fn f cs:AV):=rfl
theorem TH:AV.s0 (.un)=(.un:AV):=rfl
theorem TI {c:UInt8}:AV.s0 (b8 c)=(b8 c:AV):=rfl
theorem TJ {k:Nat} {xs:List AV}:AV.s0 (.sl .n k xs)=(.sl .n k xs:AV):=rfl
theorem PO {k:Nat} {xs:List AV}:AV.s0 (.sl .ex k xs)=(.sl .n k xs:AV):=rfl
theorem LU {k:Nat} {xs:List AV}:AV.s0 (.sl .own k xs)=(.sl .n k xs:AV):=rfl
theorem PR {l:Loc} {k:Nat} {xs:List AV}:AV.s0 (.sl (.fr l) k xs)=(.sl .n k xs:AV):=rfl
theorem PS {cs:List AV}:AV.s0 (.agg cs)=(.agg (cs.map AV.s1):AV):=rfl
theorem PT {cs:List AV}:AV.s0 (.bB cs)=(.bB cs:AV):=rfl
theorem PU {q0 k0 o0 m0:Nat}:AV.s0 (.cz q0 k0 o0 m0)=(.cz q0 k0 o0 m0:AV):=rfl
theorem PV {q0 k0 m0 c0:Nat}:AV.s0 (.cu q0 k0 m0 c0)=(.cu q0 k0 m0 c0:AV):=rfl
theorem PW:AV.s0 (.dQ)=(.dQ:AV):=rfl
theorem TK {eb:Bool}:AV.s0 (dN eb)=(dN eb:AV):=by cases eb<;>rfl
theorem Xx {z:Value}:AV.df (.v z)=(.v z:AV):=rfl
theorem PX {k:IntKind} {i:Int}:AV.df (.int k i)=(.int k i:AV):=rfl
theorem LV {b:Bool}:AV.df (.bool b)=(.bool b:AV):=rfl
theorem PY {l:List UInt8}:AV.df (.str l)=(.str l:AV):=rfl
theorem PZ {s o:Nat}:AV.df (.ptr s o)=(.ptr s o:AV):=rfl
theorem TL {a:AV} {o:Nat}:AV.df (.ep a o)=(.ep a o:AV):=rfl
theorem TM {f:Nat} {cs:List AV}:AV.df (.fn f cs)=(.fn f cs:AV):=rfl
theorem TN:AV.df (.un)=(.un:AV):=rfl
theorem TO {c:UInt8}:AV.df (b8 c)=(b8 c:AV):=rfl
theorem TP {k:Nat} {xs:List AV}:AV.df (.sl .n k xs)=(.sl .n k xs:AV):=rfl
theorem P0 {k:Nat} {xs:List AV}:AV.df (.sl .ex k xs)=(.sl .ex k xs:AV):=rfl
theorem LW {k:Nat} {xs:List AV}:AV.df (.sl .own k xs)=(.sl .own k xs:AV):=rfl
theorem P1 {l:Loc} {k:Nat} {xs:List AV}:AV.df (.sl (.fr l) k xs)=(.sl .n k xs:AV):=rfl
theorem P2 {cs:List AV}:AV.df (.agg cs)=(.agg cs:AV):=rfl
theorem P3 {cs:List AV}:AV.df (.bB cs)=(.bB cs:AV):=rfl
theorem P4 {q0 k0 o0 m0:Nat}:AV.df (.cz q0 k0 o0 m0)=(.cz q0 k0 o0 m0:AV):=rfl
theorem P5 {q0 k0 m0 c0:Nat}:AV.df (.cu q0 k0 m0 c0)=(.cu q0 k0 m0 c0:AV):=rfl
theorem P6:AV.df (.dQ)=(.dQ:AV):=rfl
theorem TQ {eb:Bool}:AV.df (dN eb)=(dN eb:AV):=by cases eb<;>rfl
theorem LX {z:Value}:AV.bQ (.v z)=false:=rfl
theorem Hi {k:IntKind} {i:Int}:AV.bQ (.int k i)=false:=rfl
theorem Fi {b:Bool}:AV.bQ (.bool b)=false:=rfl
theorem Hj {l:List UInt8}:AV.bQ (.str l)=false:=rfl
theorem Hl {s o:Nat}:AV.bQ (.ptr s o)=false:=rfl
theorem Jt {a:AV} {o:Nat}:AV.bQ (.ep a o)=false:=rfl
theorem Ju {f:Nat} {cs:List AV}:AV.bQ (.fn f cs)=false:=rfl
theorem Jv:AV.bQ (.un)=false:=rfl
theorem Jw {c:UInt8}:AV.bQ (b8 c)=false:=rfl
theorem Jx {k:Nat} {xs:List AV}:AV.bQ (.sl .n k xs)=false:=rfl
theorem Ho {k:Nat} {xs:List AV}:AV.bQ (.sl .ex k xs)=false:=rfl
theorem Fj {k:Nat} {xs:List AV}:AV.bQ (.sl .own k xs)=true:=rfl
theorem Hp {l:Loc} {k:Nat} {xs:List AV}:AV.bQ (.sl (.fr l) k xs)=false:=rfl
theorem Hq {cs:List AV}:AV.bQ (.agg cs)=false:=rfl
theorem Hr {cs:List AV}:AV.bQ (.bB cs)=false:=rfl
theorem Hs {q0 k0 o0 m0:Nat}:AV.bQ (.cz q0 k0 o0 m0)=false:=rfl
theorem Ht {q0 k0 m0 c0:Nat}:AV.bQ (.cu q0 k0 m0 c0)=false:=rfl
theorem Hu:AV.bQ (.dQ)=false:=rfl
theorem Jy {eb:Bool}:AV.bQ (dN eb)=false:=by cases eb<;>rfl
theorem TR {z:Value}:AV.qC (.v z)=(.v z:AV):=rfl
theorem LY {k:IntKind} {i:Int}:AV.qC (.int k i)=(.int k i:AV):=rfl
theorem Jz {b:Bool}:AV.qC (.bool b)=(.bool b:AV):=rfl
theorem LZ {l:List UInt8}:AV.qC (.str l)=(.str l:AV):=rfl
theorem L0 {s o:Nat}:AV.qC (.ptr s o)=(.ptr s o:AV):=rfl
theorem P7 {a:AV} {o:Nat}:AV.qC (.ep a o)=(.ep a o:AV):=rfl
theorem P8 {f:Nat} {cs:List AV}:AV.qC (.fn f cs)=(.fn f cs:AV):=rfl
theorem P9:AV.qC (.un)=(.un:AV):=rfl
theorem Qa {c:UInt8}:AV.qC (b8 c)=(b8 c:AV):=rfl
theorem Qb {k:Nat} {xs:List AV}:AV.qC (.sl .n k xs)=(.sl .n k xs:AV):=rfl
theorem L1 {k:Nat} {xs:List AV}:AV.qC (.sl .ex k xs)=(.sl .ex k xs:AV):=rfl
theorem JA {k:Nat} {xs:List AV}:AV.qC (.sl .own k xs)=(.sl .n k xs:AV):=rfl
theorem L2 {l:Loc} {k:Nat} {xs:List AV}:AV.qC (.sl (.fr l) k xs)=(.sl (.fr l) k xs:AV):=rfl
theorem L3 {cs:List AV}:AV.qC (.agg cs)=(.agg cs:AV):=rfl
theorem L4 {cs:List AV}:AV.qC (.bB cs)=(.bB cs:AV):=rfl
theorem L5 {q0 k0 o0 m0:Nat}:AV.qC (.cz q0 k0 o0 m0)=(.cz q0 k0 o0 m0:AV):=rfl
theorem L6 {q0 k0 m0 c0:Nat}:AV.qC (.cu q0 k0 m0 c0)=(.cu q0 k0 m0 c0:AV):=rfl
theorem L7:AV.qC (.dQ)=(.dQ:AV):=rfl
theorem Qc {eb:Bool}:AV.qC (dN eb)=(dN eb:AV):=by cases eb<;>rfl
theorem Qd {z:Value} {l0:Loc}:AV.eu l0 (.v z)=(.v z:AV):=rfl
theorem JB {k:IntKind} {i:Int} {l0:Loc}:AV.eu l0 (.int k i)=(.int k i:AV):=rfl
theorem Hv {b:Bool} {l0:Loc}:AV.eu l0 (.bool b)=(.bool b:AV):=rfl
theorem JC {l:List UInt8} {l0:Loc}:AV.eu l0 (.str l)=(.str l:AV):=rfl
theorem JD {s o:Nat} {l0:Loc}:AV.eu l0 (.ptr s o)=(.ptr s o:AV):=rfl
theorem L8 {a:AV} {o:Nat} {l0:Loc}:AV.eu l0 (.ep a o)=(.ep a o:AV):=rfl
theorem L9 {f:Nat} {cs:List AV} {l0:Loc}:AV.eu l0 (.fn f cs)=(.fn f cs:AV):=rfl
theorem Ma {l0:Loc}:AV.eu l0 (.un)=(.un:AV):=rfl
theorem Mb {c:UInt8} {l0:Loc}:AV.eu l0 (b8 c)=(b8 c:AV):=rfl
theorem Mc {k:Nat} {xs:List AV} {l0:Loc}:AV.eu l0 (.sl .n k xs)=(.sl .n k xs:AV):=rfl
theorem JE {k:Nat} {xs:List AV} {l0:Loc}:AV.eu l0 (.sl .ex k xs)=(.sl .ex k xs:AV):=rfl
theorem Hw {k:Nat} {xs:List AV} {l0:Loc}:AV.eu l0 (.sl .own k xs)=(.sl .own k xs:AV):=rfl
theorem JF {l:Loc} {k:Nat} {xs:List AV} {l0:Loc}:AV.eu l0 (.sl (.fr l) k xs)=if l=l0 then .sl .n k xs else .sl (.fr l) k xs:=rfl
theorem JG {cs:List AV} {l0:Loc}:AV.eu l0 (.agg cs)=(.agg cs:AV):=rfl
theorem JH {cs:List AV} {l0:Loc}:AV.eu l0 (.bB cs)=(.bB cs:AV):=rfl
theorem JI {q0 k0 o0 m0:Nat} {l0:Loc}:AV.eu l0 (.cz q0 k0 o0 m0)=(.cz q0 k0 o0 m0:AV):=rfl
theorem JJ {q0 k0 m0 c0:Nat} {l0:Loc}:AV.eu l0 (.cu q0 k0 m0 c0)=(.cu q0 k0 m0 c0:AV):=rfl
theorem JK {l0:Loc}:AV.eu l0 (.dQ)=(.dQ:AV):=rfl
theorem Md {eb:Bool} {l0:Loc}:AV.eu l0 (dN eb)=(dN eb:AV):=by cases eb<;>rfl
theorem TS {z:Value}:AV.iE (.v z)=(.v z:AV):=rfl
theorem Me {k:IntKind} {i:Int}:AV.iE (.int k i)=(.int k i:AV):=rfl
theorem JL {b:Bool}:AV.iE (.bool b)=(.bool b:AV):=rfl
theorem Mf {l:List UInt8}:AV.iE (.str l)=(.str l:AV):=rfl
theorem Mg {s o:Nat}:AV.iE (.ptr s o)=(.ptr s o:AV):=rfl
theorem Qe {a:AV} {o:Nat}:AV.iE (.ep a o)=(.ep a o:AV):=rfl
theorem Qf {f:Nat} {cs:List AV}:AV.iE (.fn f cs)=(.fn f cs:AV):=rfl
theorem Qg:AV.iE (.un)=(.un:AV):=rfl
theorem Qh {c:UInt8}:AV.iE (b8 c)=(b8 c:AV):=rfl
theorem Qi {k:Nat} {xs:List AV}:AV.iE (.sl .n k xs)=(.sl .n k xs:AV):=rfl
theorem Mh {k:Nat} {xs:List AV}:AV.iE (.sl .ex k xs)=(.sl .ex k xs:AV):=rfl
theorem JM {k:Nat} {xs:List AV}:AV.iE (.sl .own k xs)=(.sl .own k xs:AV):=rfl
theorem Mi {cs:List AV}:AV.iE (.agg cs)=(.agg cs:AV):=rfl
theorem Mj {cs:List AV}:AV.iE (.bB cs)=(.bB cs:AV):=rfl
theorem Mk {q0 k0 o0 m0:Nat}:AV.iE (.cz q0 k0 o0 m0)=(.cz q0 k0 o0 m0:AV):=rfl
theorem Ml {q0 k0 m0 c0:Nat}:AV.iE (.cu q0 k0 m0 c0)=(.cu q0 k0 m0 c0:AV):=rfl
theorem Mm:AV.iE (.dQ)=(.dQ:AV):=rfl
theorem Qj {eb:Bool}:AV.iE (dN eb)=(dN eb:AV):=by cases eb<;>rfl
theorem TT {a b k:Nat} {xs:List AV}:AV.iE (.sl (.fr (.cell a b)) k xs)= .sl .n k xs:=rfl
theorem TU {a k:Nat} {xs:List AV}:AV.iE (.sl (.fr (.tmp a)) k xs)= .sl (.fr (.tmp a)) k xs:=rfl
theorem Mn {z:Value}:AV.cells (.v z)=[.v z]:=rfl
theorem Hx {k:IntKind} {i:Int}:AV.cells (.int k i)=[.int k i]:=rfl
theorem Fk {b:Bool}:AV.cells (.bool b)=[.bool b]:=rfl
theorem Hy {l:List UInt8}:AV.cells (.str l)=[.str l]:=rfl
theorem Hz {s o:Nat}:AV.cells (.ptr s o)=[.ptr s o]:=rfl
theorem JN {a:AV} {o:Nat}:AV.cells (.ep a o)=[.ep a o]:=rfl
theorem JO {f:Nat} {cs:List AV}:AV.cells (.fn f cs)=[.fn f cs]:=rfl
theorem JP:AV.cells (.un)=[.un]:=rfl
theorem JQ {c:UInt8}:AV.cells (b8 c)=[b8 c]:=rfl
theorem JR {k:Nat} {xs:List AV}:AV.cells (.sl .n k xs)=[.sl .n k xs]:=rfl
theorem HA {k:Nat} {xs:List AV}:AV.cells (.sl .ex k xs)=[.sl .ex k xs]:=rfl
theorem Fl {k:Nat} {xs:List AV}:AV.cells (.sl .own k xs)=[.sl .own k xs]:=rfl
theorem HB {l:Loc} {k:Nat} {xs:List AV}:AV.cells (.sl (.fr l) k xs)=[.sl (.fr l) k xs]:=rfl
theorem HC {cs:List AV}:AV.cells (.agg cs)=cs:=rfl
theorem HD {cs:List AV}:AV.cells (.bB cs)=[.bB cs]:=rfl
theorem HF {q0 k0 o0 m0:Nat}:AV.cells (.cz q0 k0 o0 m0)=[.cz q0 k0 o0 m0]:=rfl
theorem HG {q0 k0 m0 c0:Nat}:AV.cells (.cu q0 k0 m0 c0)=[.cu q0 k0 m0 c0]:=rfl
theorem HH:AV.cells (.dQ)=[.dQ]:=rfl
theorem JS {eb:Bool}:AV.cells (dN eb)=[dN eb]:=by cases eb<;>rfl
theorem TV {z:Value}:AV.iG (.v z)=true:=rfl
theorem Mo {k:IntKind} {i:Int}:AV.iG (.int k i)=true:=rfl
theorem JT {b:Bool}:AV.iG (.bool b)=true:=rfl
theorem Mp {l:List UInt8}:AV.iG (.str l)=true:=rfl
theorem Mq {s o:Nat}:AV.iG (.ptr s o)=true:=rfl
theorem Qk {a:AV} {o:Nat}:AV.iG (.ep a o)=true:=rfl
theorem Ql {f:Nat} {cs:List AV}:AV.iG (.fn f cs)=true:=rfl
theorem Qm:AV.iG (.un)=false:=rfl
theorem Qn {c:UInt8}:AV.iG (b8 c)=true:=rfl
theorem Qo {k:Nat} {xs:List AV}:AV.iG (.sl .n k xs)=true:=rfl
theorem Mr {k:Nat} {xs:List AV}:AV.iG (.sl .ex k xs)=true:=rfl
theorem JU {k:Nat} {xs:List AV}:AV.iG (.sl .own k xs)=true:=rfl
theorem Ms {l:Loc} {k:Nat} {xs:List AV}:AV.iG (.sl (.fr l) k xs)=true:=rfl
theorem Mt {cs:List AV}:AV.iG (.agg cs)=false:=rfl
theorem Mu {cs:List AV}:AV.iG (.bB cs)=false:=rfl
theorem Mv {q0 k0 o0 m0:Nat}:AV.iG (.cz q0 k0 o0 m0)=true:=rfl
theorem Mw {q0 k0 m0 c0:Nat}:AV.iG (.cu q0 k0 m0 c0)=true:=rfl
theorem Mx:AV.iG (.dQ)=true:=rfl
theorem Qp {eb:Bool}:AV.iG (dN eb)=true:=by cases eb<;>rfl
theorem Qq {z:Value}:AV.flat (.v z)=true:=rfl
theorem JV {k:IntKind} {i:Int}:AV.flat (.int k i)=true:=rfl
theorem HI {b:Bool}:AV.flat (.bool b)=true:=rfl
theorem JW {l:List UInt8}:AV.flat (.str l)=true:=rfl
theorem JX {s o:Nat}:AV.flat (.ptr s o)=true:=rfl
theorem My {a:AV} {o:Nat}:AV.flat (.ep a o)=true:=rfl
theorem Mz {f:Nat} {cs:List AV}:AV.flat (.fn f cs)=true:=rfl
theorem MA:AV.flat (.un)=true:=rfl
theorem MB {c:UInt8}:AV.flat (b8 c)=true:=rfl
theorem MC {k:Nat} {xs:List AV}:AV.flat (.sl .n k xs)=true:=rfl
theorem JY {k:Nat} {xs:List AV}:AV.flat (.sl .ex k xs)=true:=rfl
theorem HJ {k:Nat} {xs:List AV}:AV.flat (.sl .own k xs)=true:=rfl
theorem JZ {l:Loc} {k:Nat} {xs:List AV}:AV.flat (.sl (.fr l) k xs)=true:=rfl
theorem J0 {cs:List AV}:AV.flat (.agg cs)=false:=rfl
theorem J1 {cs:List AV}:AV.flat (.bB cs)=false:=rfl
theorem J2 {q0 k0 o0 m0:Nat}:AV.flat (.cz q0 k0 o0 m0)=true:=rfl
theorem J3 {q0 k0 m0 c0:Nat}:AV.flat (.cu q0 k0 m0 c0)=true:=rfl
theorem J4:AV.flat (.dQ)=true:=rfl
theorem MD {eb:Bool}:AV.flat (dN eb)=true:=by cases eb<;>rfl
theorem Xy {z:Value}:AV.np (.v z)=true:=rfl
theorem Qr {k:IntKind} {i:Int}:AV.np (.int k i)=true:=rfl
theorem ME {b:Bool}:AV.np (.bool b)=true:=rfl
theorem Qs {l:List UInt8}:AV.np (.str l)=true:=rfl
theorem Qt {s o:Nat}:AV.np (.ptr s o)=false:=rfl
theorem TW {a:AV} {o:Nat}:AV.np (.ep a o)=true:=rfl
theorem TX {f:Nat} {cs:List AV}:AV.np (.fn f cs)=cs.isEmpty:=rfl
theorem TY:AV.np (.un)=true:=rfl
theorem TZ {c:UInt8}:AV.np (b8 c)=true:=rfl
theorem T0 {k:Nat} {xs:List AV}:AV.np (.sl .n k xs)=true:=rfl
theorem Qu {k:Nat} {xs:List AV}:AV.np (.sl .ex k xs)=true:=rfl
theorem MF {k:Nat} {xs:List AV}:AV.np (.sl .own k xs)=true:=rfl
theorem Qv {l:Loc} {k:Nat} {xs:List AV}:AV.np (.sl (.fr l) k xs)=true:=rfl
theorem Qw {cs:List AV}:AV.np (.agg cs)=false:=rfl
theorem Qx {cs:List AV}:AV.np (.bB cs)=false:=rfl
theorem Qy {q0 k0 o0 m0:Nat}:AV.np (.cz q0 k0 o0 m0)=false:=rfl
theorem Qz {q0 k0 m0 c0:Nat}:AV.np (.cu q0 k0 m0 c0)=false:=rfl
theorem QA:AV.np (.dQ)=true:=rfl
theorem T3 {eb:Bool}:AV.np (dN eb)=true:=by cases eb<;>rfl
theorem MG {z:Value}:AV.eK (.v z)=false:=rfl
theorem HK {k:IntKind} {i:Int}:AV.eK (.int k i)=false:=rfl
theorem Fm {b:Bool}:AV.eK (.bool b)=false:=rfl
theorem HL {l:List UInt8}:AV.eK (.str l)=false:=rfl
theorem HM {s o:Nat}:AV.eK (.ptr s o)=false:=rfl
theorem J5 {a:AV} {o:Nat}:AV.eK (.ep a o)=false:=rfl
theorem J6 {f:Nat} {cs:List AV}:AV.eK (.fn f cs)=false:=rfl
theorem J7:AV.eK (.un)=false:=rfl
theorem J8 {c:UInt8}:AV.eK (b8 c)=false:=rfl
theorem J9 {k:Nat} {xs:List AV}:AV.eK (.sl .n k xs)=false:=rfl
theorem HN {k:Nat} {xs:List AV}:AV.eK (.sl .ex k xs)=false:=rfl
theorem Fo {k:Nat} {xs:List AV}:AV.eK (.sl .own k xs)=false:=rfl
theorem HO {l:Loc} {k:Nat} {xs:List AV}:AV.eK (.sl (.fr l) k xs)=false:=rfl
theorem HP {cs:List AV}:AV.eK (.agg cs)=false:=rfl
theorem HQ {cs:List AV}:AV.eK (.bB cs)=true:=rfl
theorem HR {q0 k0 o0 m0:Nat}:AV.eK (.cz q0 k0 o0 m0)=false:=rfl
theorem HS {q0 k0 m0 c0:Nat}:AV.eK (.cu q0 k0 m0 c0)=false:=rfl
theorem HT:AV.eK (.dQ)=false:=rfl
theorem Ka {eb:Bool}:AV.eK (dN eb)=false:=by cases eb<;>rfl
theorem Xz {L:List Nat} {x:Ar} {z:Value}:cp L x (.v z)= .v z:=rfl
theorem QB {L:List Nat} {x:Ar} {k:IntKind} {i:Int}:cp L x (.int k i)= .int k i:=rfl
theorem MH {L:List Nat} {x:Ar} {b:Bool}:cp L x (.bool b)= .bool b:=rfl
theorem QC {L:List Nat} {x:Ar} {l:List UInt8}:cp L x (.str l)= .str l:=rfl
theorem QD {L:List Nat} {x:Ar} {s o:Nat}:cp L x (.ptr s o)= .ptr s o:=rfl
theorem T4 {L:List Nat} {x:Ar} {a:AV} {o:Nat}:cp L x (.ep a o)= .ep a o:=rfl
theorem T5 {L:List Nat} {x:Ar} {f:Nat} {cs:List AV}:cp L x (.fn f cs)= .fn f cs:=rfl
theorem T6 {L:List Nat} {x:Ar}:cp L x (.un)= .un:=rfl
theorem T7 {L:List Nat} {x:Ar} {c:UInt8}:cp L x (b8 c)=b8 c:=rfl
theorem T8 {L:List Nat} {x:Ar} {k:Nat} {xs:List AV}:cp L x (.sl .n k xs)= .sl .n k xs:=rfl
theorem QE {L:List Nat} {x:Ar} {k:Nat} {xs:List AV}:cp L x (.sl .ex k xs)= .sl .ex k xs:=rfl
theorem QF {L:List Nat} {x:Ar} {l:Loc} {k:Nat} {xs:List AV}:cp L x (.sl (.fr l) k xs)= .sl (.fr l) k xs:=rfl
theorem QG {L:List Nat} {x:Ar} {cs:List AV}:cp L x (.agg cs)= .agg (cs.map AV.bu):=rfl
theorem QH {L:List Nat} {x:Ar} {cs:List AV}:cp L x (.bB cs)= .bB (cs.map AV.bu):=rfl
theorem QI {L:List Nat} {x:Ar} {q0 k0 o0 m0:Nat}:cp L x (.cz q0 k0 o0 m0)= .cz q0 k0 o0 m0:=rfl
theorem QJ {L:List Nat} {x:Ar} {q0 k0 m0 c0:Nat}:cp L x (.cu q0 k0 m0 c0)= .cu q0 k0 m0 c0:=rfl
theorem QK {L:List Nat} {x:Ar}:cp L x (.dQ)= .dQ:=rfl
theorem T9 {L:List Nat} {x:Ar} {eb:Bool}:cp L x (dN eb)=dN eb:=by cases eb<;>rfl
theorem Ua {L:List Nat} {u k:Nat} {xs:List AV}:cp L (.t u) (.sl .own k xs)=if L.contains u then .sl (.fr (.tmp u)) k xs else .sl .n k xs:=rfl
theorem Ub {L:List Nat} {a:AV} {k:Nat} {xs:List AV}:cp L (.c a) (.sl .own k xs)= .sl .n k xs:=rfl
theorem Uc {P:Program} {L:List Nat} {N n0:Nat} {e:Env} {ah:AH} {t:List It} {Q:Exit→Env→AH→Prop} {r:List aL} {d:Option Nat} {x:Ar} {z:Value}:jj P L N n0 e ah d r t Q x (.v z)=U P L N n0 (.ops r::t) Q .normal (aI L e d (cp L x (.v z))) ah:=rfl
theorem MI {P:Program} {L:List Nat} {N n0:Nat} {e:Env} {ah:AH} {t:List It} {Q:Exit→Env→AH→Prop} {r:List aL} {d:Option Nat} {x:Ar} {k:IntKind} {i:Int}:jj P L N n0 e ah d r t Q x (.int k i)=U P L N n0 (.ops r::t) Q .normal (aI L e d (cp L x (.int k i))) ah:=rfl
theorem Kb {P:Program} {L:List Nat} {N n0:Nat} {e:Env} {ah:AH} {t:List It} {Q:Exit→Env→AH→Prop} {r:List aL} {d:Option Nat} {x:Ar} {b:Bool}:jj P L N n0 e ah d r t Q x (.bool b)=U P L N n0 (.ops r::t) Q .normal (aI L e d (cp L x (.bool b))) ah:=rfl
theorem MJ {P:Program} {L:List Nat} {N n0:Nat} {e:Env} {ah:AH} {t:List It} {Q:Exit→Env→AH→Prop} {r:List aL} {d:Option Nat} {x:Ar} {l:List UInt8}:jj P L N n0 e ah d r t Q x (.str l)=U P L N n0 (.ops r::t) Q .normal (aI L e d (cp L x (.str l))) ah:=rfl
theorem MK {P:Program} {L:List Nat} {N n0:Nat} {e:Env} {ah:AH} {t:List It} {Q:Exit→Env→AH→Prop} {r:List aL} {d:Option Nat} {x:Ar} {s o:Nat}:jj P L N n0 e ah d r t Q x (.ptr s o)=U P L N n0 (.ops r::t) Q .normal (aI L e d (cp L x (.ptr s o))) ah:=rfl
theorem QL {P:Program} {L:List Nat} {N n0:Nat} {e:Env} {ah:AH} {t:List It} {Q:Exit→Env→AH→Prop} {r:List aL} {d:Option Nat} {x:Ar} {a:AV} {o:Nat}:jj P L N n0 e ah d r t Q x (.ep a o)=U P L N n0 (.ops r::t) Q .normal (aI L e d (cp L x (.ep a o))) ah:=rfl
theorem QM {P:Program} {L:List Nat} {N n0:Nat} {e:Env} {ah:AH} {t:List It} {Q:Exit→Env→AH→Prop} {r:List aL} {d:Option Nat} {x:Ar} {f:Nat} {cs:List AV}:jj P L N n0 e ah d r t Q x (.fn f cs)=U P L N n0 (.ops r::t) Q .normal (aI L e d (cp L x (.fn f cs))) ah:=rfl
theorem QN {P:Program} {L:List Nat} {N n0:Nat} {e:Env} {ah:AH} {t:List It} {Q:Exit→Env→AH→Prop} {r:List aL} {d:Option Nat} {x:Ar}:jj P L N n0 e ah d r t Q x (.un)=U P L N n0 (.ops r::t) Q .normal (aI L e d (cp L x (.un))) ah:=rfl
theorem QO {P:Program} {L:List Nat} {N n0:Nat} {e:Env} {ah:AH} {t:List It} {Q:Exit→Env→AH→Prop} {r:List aL} {d:Option Nat} {x:Ar} {c:UInt8}:jj P L N n0 e ah d r t Q x (b8 c)=U P L N n0 (.ops r::t) Q .normal (aI L e d (cp L x (b8 c))) ah:=rfl
theorem QS {P:Program} {L:List Nat} {N n0:Nat} {e:Env} {ah:AH} {t:List It} {Q:Exit→Env→AH→Prop} {r:List aL} {d:Option Nat} {x:Ar} {k:Nat} {xs:List AV}:jj P L N n0 e ah d r t Q x (.sl .n k xs)=U P L N n0 (.ops r::t) Q .normal (aI L e d (cp L x (.sl .n k xs))) ah:=rfl
theorem ML {P:Program} {L:List Nat} {N n0:Nat} {e:Env} {ah:AH} {t:List It} {Q:Exit→Env→AH→Prop} {r:List aL} {d:Option Nat} {x:Ar} {k:Nat} {xs:List AV}:jj P L N n0 e ah d r t Q x (.sl .ex k xs)=U P L N n0 (.ops r::t) Q .normal (aI L e d (cp L x (.sl .ex k xs))) ah:=rfl
theorem MM {P:Program} {L:List Nat} {N n0:Nat} {e:Env} {ah:AH} {t:List It} {Q:Exit→Env→AH→Prop} {r:List aL} {d:Option Nat} {x:Ar} {l:Loc} {k:Nat} {xs:List AV}:jj P L N n0 e ah d r t Q x (.sl (.fr l) k xs)=U P L N n0 (.ops r::t) Q .normal (aI L e d (cp L x (.sl (.fr l) k xs))) ah:=rfl
theorem MN {P:Program} {L:List Nat} {N n0:Nat} {e:Env} {ah:AH} {t:List It} {Q:Exit→Env→AH→Prop} {r:List aL} {d:Option Nat} {x:Ar} {cs:List AV}:jj P L N n0 e ah d r t Q x (.agg cs)=U P L N n0 (.ops r::t) Q .normal (aI L e d (cp L x (.agg cs))) ah:=rfl
theorem MO {P:Program} {L:List Nat} {N n0:Nat} {e:Env} {ah:AH} {t:List It} {Q:Exit→Env→AH→Prop} {r:List aL} {d:Option Nat} {x:Ar} {cs:List AV}:jj P L N n0 e ah d r t Q x (.bB cs)=U P L N n0 (.ops r::t) Q .normal (aI L e d (cp L x (.bB cs))) ah:=rfl
theorem MP {P:Program} {L:List Nat} {N n0:Nat} {e:Env} {ah:AH} {t:List It} {Q:Exit→Env→AH→Prop} {r:List aL} {d:Option Nat} {x:Ar} {q0 k0 o0 m0:Nat}:jj P L N n0 e ah d r t Q x (.cz q0 k0 o0 m0)=U P L N n0 (.ops r::t) Q .normal (aI L e d (cp L x (.cz q0 k0 o0 m0))) ah:=rfl
theorem MQ {P:Program} {L:List Nat} {N n0:Nat} {e:Env} {ah:AH} {t:List It} {Q:Exit→Env→AH→Prop} {r:List aL} {d:Option Nat} {x:Ar} {q0 k0 m0 c0:Nat}:jj P L N n0 e ah d r t Q x (.cu q0 k0 m0 c0)=U P L N n0 (.ops r::t) Q .normal (aI L e d (cp L x (.cu q0 k0 m0 c0))) ah:=rfl
theorem MR {P:Program} {L:List Nat} {N n0:Nat} {e:Env} {ah:AH} {t:List It} {Q:Exit→Env→AH→Prop} {r:List aL} {d:Option Nat} {x:Ar}:jj P L N n0 e ah d r t Q x (.dQ)=U P L N n0 (.ops r::t) Q .normal (aI L e d (cp L x (.dQ))) ah:=rfl
theorem QT {P:Program} {L:List Nat} {N n0:Nat} {e:Env} {ah:AH} {t:List It} {Q:Exit→Env→AH→Prop} {r:List aL} {d:Option Nat} {x:Ar} {eb:Bool}:jj P L N n0 e ah d r t Q x (dN eb)=U P L N n0 (.ops r::t) Q .normal (aI L e d (cp L x (dN eb))) ah:=by cases eb<;>rfl
theorem QU {P:Program} {L:List Nat} {N n0:Nat} {e:Env} {ah:AH} {t:List It} {Q:Exit→Env→AH→Prop} {r:List aL} {d:Option Nat} {y k:Nat} {xs:List AV}:jj P L N n0 e ah d r t Q (.t y) (.sl .own k xs)=U P L N n0 (.ops r::t) Q .normal (aI L (put e y (.sl .n k xs)) d (.sl .own k xs)) ah:=rfl
theorem QV {P:Program} {L:List Nat} {N n0:Nat} {e:Env} {ah:AH} {t:List It} {Q:Exit→Env→AH→Prop} {r:List aL} {d:Option Nat} {a:AV} {k:Nat} {xs:List AV}:jj P L N n0 e ah d r t Q (.c a) (.sl .own k xs)=U P L N n0 (.ops r::t) Q .normal (aI L e d (cp L (.c a) (.sl .own k xs))) ah:=rfl
theorem QW {L:List Nat} {e:Env} {ah:AH} {d:Option Nat} {a b:Ar}:Lz L e ah d a b (.bool true)=some (aI L e d (ev e a).sh,ah):=rfl
theorem QX {L:List Nat} {e:Env} {ah:AH} {d:Option Nat} {a b:Ar}:Lz L e ah d a b (.bool false)=some (aI L e d (ev e b).sh,ah):=rfl
theorem MS {L:List Nat} {e:Env} {ah:AH} {d:Option Nat} {s o:Nat}:SO L e ah d (.ptr s o)=some (aI L e d (.ptr s o),ah):=rfl
theorem QY {L:List Nat} {e:Env} {ah:AH} {d:Option Nat} {a:AV} {o:Nat}:SO L e ah d (.ep a o)=some (aI L e d (.ep a o),ah):=rfl
theorem MT {L:List Nat} {e:Env} {ah:AH} {d:Option Nat} {q s o:Nat}:SP L e ah d q (.ptr s o)=some (aI L e d (.ptr s (o+q)),ah):=rfl
theorem QZ {L:List Nat} {e:Env} {ah:AH} {d:Option Nat} {q o:Nat} {a:AV}:SP L e ah d q (.ep a o)=some (aI L e d (.ep a (o+q)),ah):=rfl
theorem Q0 {L:List Nat} {e:Env} {ah:AH} {d:Option Nat} {n:Option Nat} {s o:Nat}:G2 L d n e ah (.ptr s o)=WY L d n s o e ah (ah[s]?):=rfl
theorem Ud {L:List Nat} {e:Env} {ah:AH} {d:Option Nat} {o:Nat} {a:AV}:G2 L d none e ah (.ep a o)=Pa L d e ah (a.cells[o]?):=rfl
theorem Ue {L:List Nat} {e:Env} {ah:AH} {d:Option Nat} {n o:Nat} {a:AV}:G2 L d (some n) e ah (.ep a o)=if o+n≤a.cells.length∧aU ((a.cells.drop o).take n) then some (aI L e d (.agg (((a.cells.drop o).take n).map AV.s1)),ah) else none:=rfl
theorem Uf {s1 o1:Nat} {z:Value}:dP s1 o1 (some (.v z))=some (AV.bu (.v z)):=rfl
theorem MU {s1 o1:Nat} {k:IntKind} {i:Int}:dP s1 o1 (some (.int k i))=some (AV.bu (.int k i)):=rfl
theorem Kc {s1 o1:Nat} {b:Bool}:dP s1 o1 (some (.bool b))=some (AV.bu (.bool b)):=rfl
theorem MV {s1 o1:Nat} {l:List UInt8}:dP s1 o1 (some (.str l))=some (AV.bu (.str l)):=rfl
theorem MW {s1 o1:Nat} {s o:Nat}:dP s1 o1 (some (.ptr s o))=some (AV.bu (.ptr s o)):=rfl
theorem Q1 {s1 o1:Nat} {a:AV} {o:Nat}:dP s1 o1 (some (.ep a o))=some (AV.bu (.ep a o)):=rfl
theorem Q2 {s1 o1:Nat} {f:Nat} {cs:List AV}:dP s1 o1 (some (.fn f cs))=some (AV.bu (.fn f cs)):=rfl
theorem Q3 {s1 o1:Nat}:dP s1 o1 (some (.un))=some (AV.bu (.un)):=rfl
theorem Q4 {s1 o1:Nat} {c:UInt8}:dP s1 o1 (some (b8 c))=some (AV.bu (b8 c)):=rfl
theorem Q5 {s1 o1:Nat} {k:Nat} {xs:List AV}:dP s1 o1 (some (.sl .n k xs))=some (AV.bu (.sl .n k xs)):=rfl
theorem MX {s1 o1:Nat} {k:Nat} {xs:List AV}:dP s1 o1 (some (.sl .ex k xs))=some (AV.bu (.sl .ex k xs)):=rfl
theorem MY {s o k:Nat} {xs:List AV}:dP s o (some (.sl .own k xs))=some (.sl (.fr (.cell s o)) k xs):=rfl
theorem MZ {s1 o1:Nat} {l:Loc} {k:Nat} {xs:List AV}:dP s1 o1 (some (.sl (.fr l) k xs))=some (AV.bu (.sl (.fr l) k xs)):=rfl
theorem M0 {s1 o1:Nat} {q0 k0 o0 m0:Nat}:dP s1 o1 (some (.cz q0 k0 o0 m0))=some (AV.bu (.cz q0 k0 o0 m0)):=rfl
theorem M1 {s1 o1:Nat} {q0 k0 m0 c0:Nat}:dP s1 o1 (some (.cu q0 k0 m0 c0))=some (AV.bu (.cu q0 k0 m0 c0)):=rfl
theorem M3 {s1 o1:Nat}:dP s1 o1 (some (.dQ))=some (AV.bu (.dQ)):=rfl
theorem Q6 {s1 o1:Nat} {eb:Bool}:dP s1 o1 (some (dN eb))=some (AV.bu (dN eb)):=by cases eb<;>rfl
theorem XA {L:List Nat} {e:Env} {ah:AH} {d:Option Nat} {ks:List Pk} {neq:Bool} {zq bs:List AV}:YC L e ah d ks neq (.agg zq) (.agg bs)=(cm ks zq bs).map fun b=>(aI L e d (.bool (if neq then !b else b)),ah):=rfl
theorem XB {L:List Nat} {e:Env} {ah:AH} {d:Option Nat} {l:List UInt8} {k k2:IntKind} {i j:Int}:Oe L e ah d l (.int k i) (.int k2 j)=(sub l i j).map fun m=>(aI L e d (.str m),ah):=rfl
theorem XC {L:List Nat} {e:Env} {ah:AH} {d:Option Nat} {q:Nat} {xs:List AV} {k k2:IntKind} {i j:Int}:Og L e ah d q xs (.int k i) (.int k2 j)=(sub xs i j).map fun ys=>(aI L e d (.sl .n q ys),ah):=rfl
theorem Ug {L:List Nat} {e:Env} {ah:AH} {d:Option Nat} {q:Nat} {xs:List AV} {k k2 k3:IntKind} {i j m:Int}:DQ L e ah d q xs (.int k i) (.int k2 j) (.int k3 m)=(Ci xs i j m).map fun ys=>(aI L e d (.sl .ex q ys),ah):=rfl
theorem Uh {L:List Nat} {e:Env} {ah:AH} {d:Option Nat} {k b:Nat} {x:Ar} {ys xs:List AV} {tg:Tg}:He L e ah d k b x ys (.sl tg k xs)=DR L e ah d k x xs tg (fe b xs ys):=by simp [He]
theorem Ui {L:List Nat} {e:Env} {ah:AH} {d:Option Nat} {k:Nat} {x:Ar} {xs zs:List AV}:sM L e ah d k x xs zs .ex=some (aI L e d (.sl .own k zs),ah):=rfl
theorem Q7 {L:List Nat} {e:Env} {ah:AH} {d:Option Nat} {k y:Nat} {xs zs:List AV}:sM L e ah d k (.t y) xs zs .own=some (aI L (put e y (.sl .n k xs)) d (.sl .own k zs),ah):=rfl
def aTt (L:List Nat) (e:Env) (ah:AH) (d:Option Nat) (k u:Nat) (zs:List AV):AV→Option (Env×AH)
 | .sl .own k' us=>if k'=k then some (aI L (put e u (.sl .n k' us)) d (.sl .own k zs),ah) else none
 |_=>none
def XD (L:List Nat) (e:Env) (ah:AH) (d:Option Nat) (k s q:Nat) (zs cs:List AV):Option AV→Option (Env×AH)
 |some (.sl .own k' us)=>if k'=k then (over cs q [.sl .n k' us]).map fun cs=>(aI L e d (.sl .own k zs),ah.set s cs) else none
 |_=>none
def aTh (L:List Nat) (e:Env) (ah:AH) (d:Option Nat) (k s q:Nat) (zs:List AV):Option (List AV)→Option (Env×AH)
 |some cs=>XD L e ah d k s q zs cs (cs[q]?)
 |none=>none
theorem XE {L:List Nat} {e:Env} {ah:AH} {d:Option Nat} {k u:Nat} {x:Ar} {xs zs:List AV}:sM L e ah d k x xs zs (.fr (.tmp u))=aTt L e ah d k u zs (Am.get e u):=by simp only [sM];cases Am.get e u with|sl tg k2 us=>cases tg<;>rfl|_=>rfl
theorem XF {L:List Nat} {e:Env} {ah:AH} {d:Option Nat} {k s q:Nat} {x:Ar} {xs zs:List AV}:sM L e ah d k x xs zs (.fr (.cell s q))=aTh L e ah d k s q zs (ah[s]?):=by simp only [sM];cases ah[s]? with|none=>rfl|some cs=>simp only [aTh];cases cs[q]? with|none=>rfl|some a=>cases a with|sl tg k2 us=>cases tg<;>rfl|_=>rfl
theorem aan {L:List Nat} {e:Env} {ah:AH} {d:Option Nat} {k u:Nat} {zs us:List AV}:aTt L e ah d k u zs (.sl .own k us)=some (aI L (put e u (.sl .n k us)) d (.sl .own k zs),ah):=by simp [aTt]
theorem aao {L:List Nat} {e:Env} {ah:AH} {d:Option Nat} {k s q:Nat} {zs cs:List AV}:aTh L e ah d k s q zs (some cs)=XD L e ah d k s q zs cs (cs[q]?):=rfl
theorem aap {L:List Nat} {e:Env} {ah:AH} {d:Option Nat} {k s q:Nat} {zs cs us:List AV}:XD L e ah d k s q zs cs (some (.sl .own k us))=(over cs q [.sl .n k us]).map fun cs=>(aI L e d (.sl .own k zs),ah.set s cs):=by simp [XD]
theorem aaq:aU []=true:=rfl
theorem aar {a:AV} {r:List AV}:aU (a::r)=(a.flat&&aU r):=rfl
theorem aas:b7 []=true:=rfl
theorem ace {a:AV} {r:List AV}:b7 (a::r)=(a.iG&&b7 r):=rfl
theorem aat:fW []=true:=rfl
theorem acf {a:AV} {r:List AV}:fW (a::r)=(a.np&&fW r):=rfl
theorem acg {t:Nat}:Am.get [] t= .un:=rfl
theorem ach {i t:Nat} {a:AV} {r:Env}:Am.get ((i,a)::r) t=if i=t then a else Am.get r t:=rfl
theorem aci {d:Nat} {a:AV}:put [] d a=[(d,a)]:=rfl
theorem acj {i d:Nat} {a b:AV} {r:Env}:put ((i,b)::r) d a=if i=d then (d,a)::r else if d<i then (d,a)::(i,b)::r else (i,b)::put r d a:=rfl
theorem ack {L:List Nat}:keep L []=[]:=rfl
theorem acm {L:List Nat} {i:Nat} {a:AV} {r:Env}:keep L ((i,a)::r)=if L.contains i then (i,a)::keep L r else keep L r:=rfl
theorem acn {l:Loc}:jU l []=[]:=rfl
theorem aco {l:Loc} {i:Nat} {a:AV} {r:Env}:jU l ((i,a)::r)=(i,a.eu l)::jU l r:=rfl
theorem acp:wE []=[]:=rfl
theorem acq {i:Nat} {a:AV} {r:Env}:wE ((i,a)::r)=(i,a.iE)::wE r:=rfl
theorem acr {e:Env}:oO e none=e:=rfl
theorem acs {e:Env} {d:Nat}:oO e (some d)=put e d (.bB []):=rfl
theorem acu {L:List Nat} {e:Env} {a:AV}:aI L e none a=e:=rfl
theorem acv {L:List Nat} {e:Env} {d:Nat} {a:AV}:aI L e (some d) a=if L.contains d then (if a.bQ then put (jU (.tmp d) e) d a else put e d a.df) else put e d a:=rfl
theorem acw {i:Nat}:eS i []=[]:=rfl
theorem acy {i:Nat} {a:AV} {r:List AV}:eS i (a::r)=(i,a)::eS (i+1) r:=rfl
theorem acz {k:IntKind} {i:Int}:Oa k i= .int k i:=rfl
theorem acA {a b:Nat}:(Loc.tmp a=Loc.tmp b)=(a=b):=by simp
theorem acB {a b c d:Nat}:(Loc.cell a b=Loc.cell c d)=(a=c∧b=d):=by simp
theorem aau {a c d:Nat}:(Loc.tmp a=Loc.cell c d)=False:=by simp
theorem aav {a c d:Nat}:(Loc.cell c d=Loc.tmp a)=False:=by simp
def uA (e:Env) (ah:AH) (s p n:Nat) (x:Ar) (cs:List AV):AV→Option (Env×AH)
 | .sl .own k xs=>match x with
   | .t y=>if n=1 then (over cs p [.sl .own k xs]).map fun cs=>(jU (.cell s p) (put e y (.sl .n k xs)),ah.set s cs) else none
   | .c a=>if (AV.sl .own k xs).cells.length=n∧b7 (AV.sl .own k xs).cells then (over cs p ((AV.sl .own k xs).cells.map AV.bu)).map fun cs=>(e,ah.set s cs) else none
 |w=>if w.cells.length=n∧b7 w.cells then (over cs p (w.cells.map AV.bu)).map fun cs=>(e,ah.set s cs) else none
def XG (e:Env) (ah:AH) (s p n:Nat) (x:Ar):Option (List AV)→Option (Env×AH)
 |some cs=>uA e ah s p n x cs (ev e x)
 |none=>none
def stK (e:Env) (ah:AH) (n:Nat) (x:Ar):AV→Option (Env×AH)
 | .ptr s p=>XG e ah s p n x (ah[s]?)
 |_=>none
theorem YM {P:Program} {L:List Nat} {N n0:Nat} {e:Env} {ah:AH} {t:List It} {Q:Exit→Env→AH→Prop} {r:List aL} {d:Option Nat} {a x:Ar} {n:Nat} {g:Option (Nat×Bool)}:UG P L N n0 ⟨d, .st a x n,g⟩ r t Q e ah (some true)=US P L N n0 r t Q (stK e ah n x (ev e a)):=by
 simp only [UG,bL]
 congr 1
 cases ev e a with
 |ptr s p=>
  simp only [stK]
  cases ah[s]? with
  |none=>rfl
  |some cs=>
   simp only [XG]
   cases ev e x with
   |sl tg k xs=>cases tg<;>cases x<;>rfl
   |_=>rfl
 |_=>rfl
theorem aaw {e:Env} {ah:AH} {s p n:Nat} {x:Ar}:stK e ah n x (.ptr s p)=XG e ah s p n x (ah[s]?):=rfl
theorem aax {e:Env} {ah:AH} {s p n:Nat} {x:Ar} {cs:List AV}:XG e ah s p n x (some cs)=uA e ah s p n x cs (ev e x):=rfl
theorem Q8 {e:Env} {ah:AH} {s p n y k:Nat} {cs xs:List AV}:uA e ah s p n (.t y) cs (.sl .own k xs)=if n=1 then (over cs p [.sl .own k xs]).map fun cs=>(jU (.cell s p) (put e y (.sl .n k xs)),ah.set s cs) else none:=rfl
theorem Uj {e:Env} {ah:AH} {s p n:Nat} {x:Ar} {cs:List AV} {z:Value}:uA e ah s p n x cs (.v z)=if (AV.cells (.v z)).length=n∧b7 (AV.cells (.v z)) then (over cs p ((AV.cells (.v z)).map AV.bu)).map fun cs=>(e,ah.set s cs) else none:=rfl
theorem M4 {e:Env} {ah:AH} {s p n:Nat} {x:Ar} {cs:List AV} {k:IntKind} {i:Int}:uA e ah s p n x cs (.int k i)=if (AV.cells (.int k i)).length=n∧b7 (AV.cells (.int k i)) then (over cs p ((AV.cells (.int k i)).map AV.bu)).map fun cs=>(e,ah.set s cs) else none:=rfl
theorem Kd {e:Env} {ah:AH} {s p n:Nat} {x:Ar} {cs:List AV} {b:Bool}:uA e ah s p n x cs (.bool b)=if (AV.cells (.bool b)).length=n∧b7 (AV.cells (.bool b)) then (over cs p ((AV.cells (.bool b)).map AV.bu)).map fun cs=>(e,ah.set s cs) else none:=rfl
theorem M5 {e:Env} {ah:AH} {s p n:Nat} {x:Ar} {cs:List AV} {l:List UInt8}:uA e ah s p n x cs (.str l)=if (AV.cells (.str l)).length=n∧b7 (AV.cells (.str l)) then (over cs p ((AV.cells (.str l)).map AV.bu)).map fun cs=>(e,ah.set s cs) else none:=rfl
theorem M6 {e:Env} {ah:AH} {s p n:Nat} {x:Ar} {cs:List AV} {s0 o:Nat}:uA e ah s p n x cs (.ptr s0 o)=if (AV.cells (.ptr s0 o)).length=n∧b7 (AV.cells (.ptr s0 o)) then (over cs p ((AV.cells (.ptr s0 o)).map AV.bu)).map fun cs=>(e,ah.set s cs) else none:=rfl
theorem Q9 {e:Env} {ah:AH} {s p n:Nat} {x:Ar} {cs:List AV} {a:AV} {o:Nat}:uA e ah s p n x cs (.ep a o)=if (AV.cells (.ep a o)).length=n∧b7 (AV.cells (.ep a o)) then (over cs p ((AV.cells (.ep a o)).map AV.bu)).map fun cs=>(e,ah.set s cs) else none:=rfl
theorem Ra {e:Env} {ah:AH} {s p n:Nat} {x:Ar} {cs:List AV} {f:Nat} {ds:List AV}:uA e ah s p n x cs (.fn f ds)=if (AV.cells (.fn f ds)).length=n∧b7 (AV.cells (.fn f ds)) then (over cs p ((AV.cells (.fn f ds)).map AV.bu)).map fun cs=>(e,ah.set s cs) else none:=rfl
theorem Rb {e:Env} {ah:AH} {s p n:Nat} {x:Ar} {cs:List AV} {c:UInt8}:uA e ah s p n x cs (b8 c)=if (AV.cells (b8 c)).length=n∧b7 (AV.cells (b8 c)) then (over cs p ((AV.cells (b8 c)).map AV.bu)).map fun cs=>(e,ah.set s cs) else none:=rfl
theorem Rc {e:Env} {ah:AH} {s p n:Nat} {x:Ar} {cs:List AV} {k:Nat} {xs:List AV}:uA e ah s p n x cs (.sl .n k xs)=if (AV.cells (.sl .n k xs)).length=n∧b7 (AV.cells (.sl .n k xs)) then (over cs p ((AV.cells (.sl .n k xs)).map AV.bu)).map fun cs=>(e,ah.set s cs) else none:=rfl
theorem M7 {e:Env} {ah:AH} {s p n:Nat} {x:Ar} {cs:List AV} {k:Nat} {xs:List AV}:uA e ah s p n x cs (.sl .ex k xs)=if (AV.cells (.sl .ex k xs)).length=n∧b7 (AV.cells (.sl .ex k xs)) then (over cs p ((AV.cells (.sl .ex k xs)).map AV.bu)).map fun cs=>(e,ah.set s cs) else none:=rfl
theorem M8 {e:Env} {ah:AH} {s p n:Nat} {x:Ar} {cs:List AV} {l:Loc} {k:Nat} {xs:List AV}:uA e ah s p n x cs (.sl (.fr l) k xs)=if (AV.cells (.sl (.fr l) k xs)).length=n∧b7 (AV.cells (.sl (.fr l) k xs)) then (over cs p ((AV.cells (.sl (.fr l) k xs)).map AV.bu)).map fun cs=>(e,ah.set s cs) else none:=rfl
theorem M9 {e:Env} {ah:AH} {s p n:Nat} {x:Ar} {cs:List AV} {ds:List AV}:uA e ah s p n x cs (.agg ds)=if (AV.cells (.agg ds)).length=n∧b7 (AV.cells (.agg ds)) then (over cs p ((AV.cells (.agg ds)).map AV.bu)).map fun cs=>(e,ah.set s cs) else none:=rfl
theorem Na {e:Env} {ah:AH} {s p n:Nat} {x:Ar} {cs:List AV} {q0 k0 o0 m0:Nat}:uA e ah s p n x cs (.cz q0 k0 o0 m0)=if (AV.cells (.cz q0 k0 o0 m0)).length=n∧b7 (AV.cells (.cz q0 k0 o0 m0)) then (over cs p ((AV.cells (.cz q0 k0 o0 m0)).map AV.bu)).map fun cs=>(e,ah.set s cs) else none:=rfl
theorem Nb {e:Env} {ah:AH} {s p n:Nat} {x:Ar} {cs:List AV} {q0 k0 m0 c0:Nat}:uA e ah s p n x cs (.cu q0 k0 m0 c0)=if (AV.cells (.cu q0 k0 m0 c0)).length=n∧b7 (AV.cells (.cu q0 k0 m0 c0)) then (over cs p ((AV.cells (.cu q0 k0 m0 c0)).map AV.bu)).map fun cs=>(e,ah.set s cs) else none:=rfl
theorem Nc {e:Env} {ah:AH} {s p n:Nat} {x:Ar} {cs:List AV}:uA e ah s p n x cs (.dQ)=if (AV.cells (.dQ)).length=n∧b7 (AV.cells (.dQ)) then (over cs p ((AV.cells (.dQ)).map AV.bu)).map fun cs=>(e,ah.set s cs) else none:=rfl
theorem Rd {e:Env} {ah:AH} {s p n:Nat} {x:Ar} {cs:List AV} {eb:Bool}:uA e ah s p n x cs (dN eb)=if (AV.cells (dN eb)).length=n∧b7 (AV.cells (dN eb)) then (over cs p ((AV.cells (dN eb)).map AV.bu)).map fun cs=>(e,ah.set s cs) else none:=by cases eb<;>rfl
theorem XH {c0:AV} {cs ws:List AV} {o:Nat}:over (c0::cs) o ws=if o+ws.length≤(c0::cs).length then some ((c0::cs).take o++ws++(c0::cs).drop (o+ws.length)) else none:=rfl
theorem acC {e:Env} {cs:List AV}:fill e cs []=some cs:=rfl
def Uk (e:Env) (r:List (Nat×Nat×Ar)):Option (List AV)→Option (List AV)
 |some cs=>fill e cs r
 |none=>none
theorem acD {e:Env} {cs:List AV} {o n:Nat} {x:Ar} {r:List (Nat×Nat×Ar)}:fill e cs ((o,n,x)::r)=if (ev e x).cells.length=n∧b7 (ev e x).cells then Uk e r (over cs o ((ev e x).cells.map AV.bu)) else none:=by
 simp only [fill]
 split
 · cases over cs o ((ev e x).cells.map AV.bu)<;>rfl
 · rfl
theorem acE {e:Env} {cs:List AV} {r:List (Nat×Nat×Ar)}:Uk e r (some cs)=fill e cs r:=rfl
theorem Ul {P:Program} {L:List Nat} {N n0:Nat} {e:Env} {ah:AH} {t:List It} {Q:Exit→Env→AH→Prop} {r:List aL} {d:Option Nat} {x:Ar} {g:Option (Nat×Bool)}:UG P L N n0 ⟨d, .len x,g⟩ r t Q e ah (some true)=US P L N n0 r t Q (Oj L e ah d (ev e x)):=by simp only [UG,bL];cases ev e x<;>rfl
theorem XI {L:List Nat} {e:Env} {ah:AH} {d:Option Nat} {tg:Tg} {k:Nat} {xs:List AV}:Oj L e ah d (.sl tg k xs)=some (aI L e d (.int .i64 xs.length),ah):=rfl
theorem Ok {P:Program} {L:List Nat} {N n0:Nat} {e:Env} {ah:AH} {t:List It} {Q:Exit→Env→AH→Prop} {r:List aL} {d:Option Nat} {x:Ar} {g:Option (Nat×Bool)}:UG P L N n0 ⟨d, .lens x,g⟩ r t Q e ah (some true)=US P L N n0 r t Q (Tn L e ah d (ev e x)):=by simp only [UG,bL];cases ev e x<;>rfl
theorem Um {L:List Nat} {e:Env} {ah:AH} {d:Option Nat} {l:List UInt8}:Tn L e ah d (.str l)=some (aI L e d (.int .i64 l.length),ah):=rfl
theorem Un {P:Program} {L:List Nat} {N n0:Nat} {e:Env} {ah:AH} {t:List It} {Q:Exit→Env→AH→Prop} {r:List aL} {d:Option Nat} {x:Ar} {i:Nat} {g:Option (Nat×Bool)}:UG P L N n0 ⟨d, .ext x i,g⟩ r t Q e ah (some true)=US P L N n0 r t Q (Tp L e ah d i (ev e x)):=by simp only [UG,bL];cases ev e x with|bB cs=>simp only [Tp];cases cs[i]? <;>rfl|_=>rfl
theorem XJ {L:List Nat} {e:Env} {ah:AH} {d:Option Nat} {i:Nat} {cs:List AV}:Tp L e ah d i (.bB cs)=To L e ah d (cs[i]?):=rfl
theorem XK {L:List Nat} {e:Env} {ah:AH} {d:Option Nat} {a:AV}:To L e ah d (some a)=some (aI L e d a.sh,ah):=rfl
theorem Ol {P:Program} {L:List Nat} {N n0:Nat} {e:Env} {ah:AH} {t:List It} {Q:Exit→Env→AH→Prop} {r:List aL} {d:Option Nat} {x:Ar} {q:Nat} {n:Option Nat} {g:Option (Nat×Bool)}:UG P L N n0 ⟨d, .F8 x q n,g⟩ r t Q e ah (some true)=US P L N n0 r t Q (Hh L e ah d q n (ev e x)):=by
 simp only [UG,bL]
 cases ev e x with
 |agg cs=>
  cases n with
  |some n=>rfl
  |none=>simp only [Hh];cases cs[q]? <;>rfl
 |_=>cases n<;>rfl
theorem aay {L:List Nat} {e:Env} {ah:AH} {d:Option Nat} {q:Nat} {cs:List AV}:Hh L e ah d q none (.agg cs)=LC L e ah d (cs[q]?):=rfl
theorem aaz {L:List Nat} {e:Env} {ah:AH} {d:Option Nat} {a:AV}:LC L e ah d (some a)=some (aI L e d a.bu,ah):=rfl
theorem aaA {L:List Nat} {e:Env} {ah:AH} {d:Option Nat} {q n:Nat} {cs:List AV}:Hh L e ah d q (some n) (.agg cs)=if q+n≤cs.length then some (aI L e d (.agg (((cs.drop q).take n).map AV.bu)),ah) else none:=rfl
theorem Uo {P:Program} {L:List Nat} {N n0:Nat} {e:Env} {ah:AH} {t:List It} {Q:Exit→Env→AH→Prop} {r:List aL} {d:Option Nat} {x:Ar} {n:Option Nat} {g:Option (Nat×Bool)}:UG P L N n0 ⟨d, .E9 x n,g⟩ r t Q e ah (some true)=US P L N n0 r t Q (Tq L e ah d n (ev e x)):=by
 simp only [UG,bL]
 cases ev e x with
 |ep a p=>
  cases n with
  |some n=>rfl
  |none=>simp only [Tq,G2,Pa];cases a.cells[p]? <;>rfl
 |_=>cases n<;>rfl
theorem aaB {L:List Nat} {e:Env} {ah:AH} {d:Option Nat} {n:Option Nat} {a:AV} {p:Nat}:Tq L e ah d n (.ep a p)=G2 L d n e ah (.ep a p):=rfl
def WA0:=And.intro @Tr<|And.intro @LD<|And.intro @Jr<|And.intro @LF<|And.intro @LG<|And.intro @Pe<|And.intro @Pf<|And.intro @Pg<|And.intro @Ph<|And.intro @Pj<|And.intro @LH<|And.intro @Js<|And.intro @LI<|And.intro @LJ<|And.intro @LK<|And.intro @LL<|And.intro @LM<|And.intro @LN<|And.intro @Pm<|And.intro @Xu<|And.intro @Pn<|And.intro @LO<|And.intro @Po<|And.intro @Pp<|And.intro @Ts<|And.intro @Tt<|And.intro @Tu<|And.intro @Tv<|And.intro @Tw<|And.intro @Pq<|And.intro @LP<|And.intro @Pr<|And.intro @Pt<|And.intro @Pu<|And.intro @Pv<|And.intro @Pw<|And.intro @Px<|And.intro @Tx<|And.intro @Xv<|And.intro @Py<|And.intro @LQ<|And.intro @Pz<|And.intro @PA<|And.intro @Ty<|And.intro @Tz<|And.intro @TA<|And.intro @TB<|And.intro @TD<|And.intro @PB<|And.intro @LR<|And.intro @PD<|And.intro @PF<|And.intro @PG<|And.intro @PI<|And.intro @PJ<|And.intro @PK<|And.intro @TE<|And.intro @Xw<|And.intro @PL<|@LS
def WA1:=And.intro @PM<|And.intro @PN<|And.intro @TF<|And.intro @TG<|And.intro @TH<|And.intro @TI<|And.intro @TJ<|And.intro @PO<|And.intro @LU<|And.intro @PR<|And.intro @PS<|And.intro @PT<|And.intro @PU<|And.intro @PV<|And.intro @PW<|And.intro @TK<|And.intro @Xx<|And.intro @PX<|And.intro @LV<|And.intro @PY<|And.intro @PZ<|And.intro @TL<|And.intro @TM<|And.intro @TN<|And.intro @TO<|And.intro @TP<|And.intro @P0<|And.intro @LW<|And.intro @P1<|And.intro @P2<|And.intro @P3<|And.intro @P4<|And.intro @P5<|And.intro @P6<|And.intro @TQ<|And.intro @LX<|And.intro @Hi<|And.intro @Fi<|And.intro @Hj<|And.intro @Hl<|And.intro @Jt<|And.intro @Ju<|And.intro @Jv<|And.intro @Jw<|And.intro @Jx<|And.intro @Ho<|And.intro @Fj<|And.intro @Hp<|And.intro @Hq<|And.intro @Hr<|And.intro @Hs<|And.intro @Ht<|And.intro @Hu<|And.intro @Jy<|And.intro @TR<|And.intro @LY<|And.intro @Jz<|And.intro @LZ<|And.intro @L0<|@P7
def WA2:=And.intro @P8<|And.intro @P9<|And.intro @Qa<|And.intro @Qb<|And.intro @L1<|And.intro @JA<|And.intro @L2<|And.intro @L3<|And.intro @L4<|And.intro @L5<|And.intro @L6<|And.intro @L7<|And.intro @Qc<|And.intro @Qd<|And.intro @JB<|And.intro @Hv<|And.intro @JC<|And.intro @JD<|And.intro @L8<|And.intro @L9<|And.intro @Ma<|And.intro @Mb<|And.intro @Mc<|And.intro @JE<|And.intro @Hw<|And.intro @JF<|And.intro @JG<|And.intro @JH<|And.intro @JI<|And.intro @JJ<|And.intro @JK<|And.intro @Md<|And.intro @TS<|And.intro @Me<|And.intro @JL<|And.intro @Mf<|And.intro @Mg<|And.intro @Qe<|And.intro @Qf<|And.intro @Qg<|And.intro @Qh<|And.intro @Qi<|And.intro @Mh<|And.intro @JM<|And.intro @Mi<|And.intro @Mj<|And.intro @Mk<|And.intro @Ml<|And.intro @Mm<|And.intro @Qj<|And.intro @TT<|And.intro @TU<|And.intro @Mn<|And.intro @Hx<|And.intro @Fk<|And.intro @Hy<|And.intro @Hz<|And.intro @JN<|And.intro @JO<|@JP
def WA3:=And.intro @JQ<|And.intro @JR<|And.intro @HA<|And.intro @Fl<|And.intro @HB<|And.intro @HC<|And.intro @HD<|And.intro @HF<|And.intro @HG<|And.intro @HH<|And.intro @JS<|And.intro @TV<|And.intro @Mo<|And.intro @JT<|And.intro @Mp<|And.intro @Mq<|And.intro @Qk<|And.intro @Ql<|And.intro @Qm<|And.intro @Qn<|And.intro @Qo<|And.intro @Mr<|And.intro @JU<|And.intro @Ms<|And.intro @Mt<|And.intro @Mu<|And.intro @Mv<|And.intro @Mw<|And.intro @Mx<|And.intro @Qp<|And.intro @Qq<|And.intro @JV<|And.intro @HI<|And.intro @JW<|And.intro @JX<|And.intro @My<|And.intro @Mz<|And.intro @MA<|And.intro @MB<|And.intro @MC<|And.intro @JY<|And.intro @HJ<|And.intro @JZ<|And.intro @J0<|And.intro @J1<|And.intro @J2<|And.intro @J3<|And.intro @J4<|And.intro @MD<|And.intro @Xy<|And.intro @Qr<|And.intro @ME<|And.intro @Qs<|And.intro @Qt<|And.intro @TW<|And.intro @TX<|And.intro @TY<|And.intro @TZ<|And.intro @T0<|@Qu
def WA4:=And.intro @MF<|And.intro @Qv<|And.intro @Qw<|And.intro @Qx<|And.intro @Qy<|And.intro @Qz<|And.intro @QA<|And.intro @T3<|And.intro @MG<|And.intro @HK<|And.intro @Fm<|And.intro @HL<|And.intro @HM<|And.intro @J5<|And.intro @J6<|And.intro @J7<|And.intro @J8<|And.intro @J9<|And.intro @HN<|And.intro @Fo<|And.intro @HO<|And.intro @HP<|And.intro @HQ<|And.intro @HR<|And.intro @HS<|And.intro @HT<|And.intro @Ka<|And.intro @Xz<|And.intro @QB<|And.intro @MH<|And.intro @QC<|And.intro @QD<|And.intro @T4<|And.intro @T5<|And.intro @T6<|And.intro @T7<|And.intro @T8<|And.intro @QE<|And.intro @QF<|And.intro @QG<|And.intro @QH<|And.intro @QI<|And.intro @QJ<|And.intro @QK<|And.intro @T9<|And.intro @Ua<|And.intro @Ub<|And.intro @Uc<|And.intro @MI<|And.intro @Kb<|And.intro @MJ<|And.intro @MK<|And.intro @QL<|And.intro @QM<|And.intro @QN<|And.intro @QO<|And.intro @QS<|And.intro @ML<|And.intro @MM<|@MN
def WA5:=And.intro @MO<|And.intro @MP<|And.intro @MQ<|And.intro @MR<|And.intro @QT<|And.intro @QU<|And.intro @QV<|And.intro @QW<|And.intro @QX<|And.intro @MS<|And.intro @QY<|And.intro @MT<|And.intro @QZ<|And.intro @Q0<|And.intro @Ud<|And.intro @Ue<|And.intro @Uf<|And.intro @MU<|And.intro @Kc<|And.intro @MV<|And.intro @MW<|And.intro @Q1<|And.intro @Q2<|And.intro @Q3<|And.intro @Q4<|And.intro @Q5<|And.intro @MX<|And.intro @MY<|And.intro @MZ<|And.intro @M0<|And.intro @M1<|And.intro @M3<|And.intro @Q6<|And.intro @XA<|And.intro @XB<|And.intro @XC<|And.intro @Ug<|And.intro @Uh<|And.intro @Ui<|And.intro @Q7<|And.intro @XE<|And.intro @XF<|And.intro @aan<|And.intro @aao<|And.intro @aap<|And.intro @aaq<|And.intro @aar<|And.intro @aas<|And.intro @ace<|And.intro @aat<|And.intro @acf<|And.intro @acg<|And.intro @ach<|And.intro @aci<|And.intro @acj<|And.intro @ack<|And.intro @acm<|And.intro @acn<|And.intro @aco<|@acp
def WA6:=And.intro @acq<|And.intro @acr<|And.intro @acs<|And.intro @acu<|And.intro @acv<|And.intro @acw<|And.intro @acy<|And.intro @acz<|And.intro @acA<|And.intro @acB<|And.intro @aau<|And.intro @aav<|And.intro @YM<|And.intro @aaw<|And.intro @aax<|And.intro @Q8<|And.intro @Uj<|And.intro @M4<|And.intro @Kd<|And.intro @M5<|And.intro @M6<|And.intro @Q9<|And.intro @Ra<|And.intro @Rb<|And.intro @Rc<|And.intro @M7<|And.intro @M8<|And.intro @M9<|And.intro @Na<|And.intro @Nb<|And.intro @Nc<|And.intro @Rd<|And.intro @XH<|And.intro @acC<|And.intro @acD<|And.intro @acE<|And.intro @Ul<|And.intro @XI<|And.intro @Ok<|And.intro @Um<|And.intro @Un<|And.intro @XJ<|And.intro @XK<|And.intro @Ol<|And.intro @aay<|And.intro @aaz<|And.intro @aaA<|And.intro @Uo<|@aaB
end Go.Am
end
section
namespace Go.Am
open Go
variable [Tabs]
def Bq (n:Nat) (i:Int):Option Nat:=if 0≤i∧i<n then some i.toNat else none
def Gl {α:Type} (xs:List α) (j:Nat) (c:α):Option (List α):=if j<xs.length then some (xs.set j c) else none
section
variable {P:Program} {L:List Nat} {e:Env} {ah:AH} {d:Option Nat}
theorem XL {xs:List UInt8} {j:Nat} {c:UInt8}:over (ml b8 xs) j [b8 c]=(Gl xs j c).map (ml b8):=by
 unfold over Gl ml
 simp only [List.length_map,List.length_cons,List.length_nil]
 by_cases h:j<xs.length
 · rw [if_pos (by omega),if_pos h]
   simp only [Option.map_some,Option.some.injEq,List.map_set]
   rw [List.set_eq_take_append_cons_drop,if_pos (by simpa using h)]
   simp
 · rw [if_neg (by omega),if_neg h];rfl
theorem aaC {xs:List UInt8} {j:Nat}:(ml b8 xs)[j]? =(xs[j]?).map b8:=by simp [ml]
theorem acF {s n:Nat} {ki:IntKind} {i:Int}:Ab L e ah d 1 (.cz s 1 0 n) (.int ki i)=(Bq n i).map fun j=>(aI L e d (.ptr s j),ah):=by
 simp only [Ab,Bq,and_true]
 split<;>simp
theorem aaD {s k o n:Nat}:Oj L e ah d (.cz s k o n)=some (aI L e d (.int .i64 n),ah):=rfl
theorem Up {h:Cv} {l:List UInt8}:DM L e ah d h (.str l)=(fc h (.str l)).map fun a=>(aI L e d a,ah):=rfl
theorem Uq {h:Cv} {k:IntKind} {i:Int}:DM L e ah d h (.int k i)=(fc h (.int k i)).map fun a=>(aI L e d a,ah):=rfl
theorem XM {h:Cv} {c:UInt8}:DM L e ah d h (b8 c)=(fc h (b8 c)).map fun a=>(aI L e d a,ah):=rfl
theorem XN {h:Cv} {t:Tg} {k:Nat} {xs:List AV}:DM L e ah d h (.sl t k xs)=(fc h (.sl t k xs)).map fun a=>(aI L e d a,ah):=rfl
theorem Ur {s n:Nat}:DM L e ah d .bs (.cz s 1 0 n)=SQ L e ah d 0 n (ah[s]?):=rfl
theorem M_s {p n:Nat} {cs:List AV}:SQ L e ah d p n (some cs)=N2 L e ah d p n cs:=rfl
theorem M_t {n:Nat} {xs:List UInt8}:N2 L e ah d 0 n (ml b8 xs)=(sub xs 0 (n:Int)).map fun l=>(aI L e d (.str l),ah):=by
 unfold N2 sub
 have hb:bytesOf (((ml b8 xs).drop 0).take n)=some (xs.take n):=by
  have:((ml b8 xs).drop 0).take n=(ml b8 (xs.take n)):=by simp [ml,List.map_take]
  rw [this];exact Ch _
 rw [hb]
 by_cases h:n≤xs.length
 · rw [if_pos (by simp [ml];exact h),if_pos (by omega)];simp
 · rw [if_neg (by simp [ml];omega),if_neg (by omega)];rfl
theorem M_o {l:List UInt8}:SS L e ah d (.str l)=some (aI L e d (.cz ah.length 1 0 l.length),ah++[ml b8 l]):=rfl
theorem aaE:K9 .dQ (.v .nilIface)=some false:=rfl
theorem aaF:K9 (.v .nilIface) (.v .nilIface)=some true:=rfl
theorem aaG {b:Bool}:K9 (dN b) (.v .nilIface)=some (!b):=by cases b<;>rfl
theorem aaH {k:IntKind} {i j:Int}:IP true (.int k i) (.int k j)=some (.int k (max i j)):=by simp [IP]
theorem aaI {k:IntKind} {i j:Int}:IP false (.int k i) (.int k j)=some (.int k (min i j)):=by simp [IP]
end
def WM:=And.intro @XL<|And.intro @aaC<|And.intro @acF<|And.intro @aaD<|And.intro @Up<|And.intro @Uq<|And.intro @XM<|And.intro @XN<|And.intro @Ur<|And.intro @M_s<|And.intro @M_t<|And.intro @M_o<|And.intro @aaE<|And.intro @aaF<|And.intro @aaG<|And.intro @Bool.not_not<|And.intro @aaH<|And.intro @aaI<|And.intro @WZ<|And.intro @W0<|And.intro @abR @abS
theorem Wx.cz {s k o n:Nat}:Wx (.cz s k o n) (.cz s k o n):= .same (by simp)
theorem Wx.dQ:Wx .dQ .dQ:= .same (by simp)
theorem Wx.epE {a b:AV} {o:Nat} (h:a=b):Wx (.ep a o) (.ep b o):=by subst h;exact Wx.ep
theorem Wx.err {b:Bool}:Wx (dN b) (dN b):= .same (by cases b<;>simp [dN])
end Go.Am
end
section
namespace Go.Am
open Go
variable [Tabs]
section
variable {P:Program} {L:List Nat} {N n0:Nat} {F:Nat→Prop} {γ:List Nat} {C:Nat→List Value} {e e':Env} {ah:AH} {ts:Array Value} {w:World} {Q K:Exit→Env→AH→Prop}
theorem SR.freeze (h:SR L N F γ C e ah ts w) {s:Nat} {cs ds:List AV} (hs:ah[s]? =some cs) (hne:cs≠[]) (hnp:fW cs=true) (hw:gT cs ds)
 (he:∀t,get e' t=get e t∨∃o,get e t= .ptr s o∧get e' t= .ep (.agg ds) o):∃C',SR L N F γ C' e' (ah.set s []) ts w∧Ext F C w C' w:=by
 have hlt:s<γ.length:=by rw [h.mem.len];exact (List.getElem?_eq_some_iff.1 hs).1
 obtain ⟨b,hb⟩:∃b,γ[s]? =some b:=⟨_,List.getElem?_eq_getElem hlt⟩
 obtain ⟨vs,ty,hh,hsz,hcell⟩:=h.mem.obj s b cs hs hb
 have IZ:=h.mem.u0 s b cs hs hne hb
 have zZ:blk γ e ah ts w (.obj s) b:=hb
 refine ⟨fun x=>if x=b then vs.toList else C x, ?_⟩
 generalize yu:(fun x=>if x=b then vs.toList else C x)=C'
 have c0:C' b=vs.toList:=by rw [←yu];simp
 have c1:∀x,x≠b→C' x=C x:=fun x hx=>by rw [←yu];simp [hx]
 have hpre:∀x,C x <+: C' x:=by
  intro x
  by_cases hx:x=b
  · subst hx;rw [IZ];exact List.nil_prefix
  · rw [c1 x hx];exact List.prefix_refl _
 have hset:∀(s':Nat),s'≠s→(ah.set s [])[s']? =ah[s']? :=fun s' hn=>List.getElem?_set_ne (Ne.symm hn)
 have iI:(ah.set s [])[s]? =some []:=List.getElem?_set_self (by rw [←h.mem.len];exact hlt)
 have yw:∀(s':Nat),γ[s']? =some b→s'=s:=fun s' hs'=>by
  have:=h.ey (.obj s') (.obj s) b hs' hb;injection this
 have hbk:∀p x,blk γ e' (ah.set s []) ts w p x→blk γ e ah ts w p x:=by
  intro p x hp
  cases p with
  |obj s'=>exact hp
  |cell s' i=>
   obtain ⟨ds,a,b0,h1,h2,h3,h4⟩:=hp
   by_cases hn:s'=s
   · subst hn;rw [iI] at h1;injection h1 with h1;subst h1;simp at h2
   · rw [hset s' hn] at h1;exact ⟨ds,a,b0,h1,h2,h3,h4⟩
  |tmp t=>
   simp only [blk] at hp ⊢
   rcases he t with h1|⟨o,h1,h2⟩
   · rwa [h1] at hp
   · rw [h2] at hp;simp [bS] at hp
 have oK:∀(a:AV) (v:Value),TC w C a v→(∀x,bS a v=some x→x≠b)→TC w C' a v:=fun a v ht hn=>ht.mono fun x hx=>⟨rfl,c1 x (hn x hx)⟩
 refine ⟨⟨⟨by simp [h.mem.len],fun s' x ds h1 h2=> ?_,fun x hx=> ?_,fun s' x ds h1 h0 h2=> ?_,fun s' x ds us ty' fr h1 h2 h3=> ?_⟩,h.sz,fun t=> ?_,fun p q x hp hq=>h.ey p q x (hbk p x hp) (hbk q x hq),fun p x hp=>h.nf p x (hbk p x hp),h.j9,fun t l k xs ht=> ?_⟩,
  ⟨hpre,fun x hx=>⟨rfl,c1 x (fun e=>h.nf _ _ zZ (e▸hx))⟩,Nat.le_refl _,rfl,rfl,rfl⟩⟩
 · by_cases hn:s'=s
   · subst hn
     rw [iI] at h1;injection h1 with h1;subst h1
     rw [hb] at h2;injection h2 with h2;subst h2
     exact ⟨vs,ty,hh,by simp,by simp⟩
   · rw [hset s' hn] at h1
     obtain ⟨us,ty',g1,g2,g3⟩:=h.mem.obj s' x ds h1 h2
     refine ⟨us,ty',g1,g2,fun i a hi=>⟨(g3 i a hi).1.mono hpre _ (fun _ _ h=>h),oK _ _ (g3 i a hi).2 fun y hy e=> ?_⟩⟩
     subst e
     obtain ⟨v,hv, -, -⟩:=cellAt h.mem h1 hi h2
     have Lj:v=us.getD i undef:=by
      have hlt:i<us.size:=Nat.lt_of_lt_of_le (List.getElem?_eq_some_iff.1 hi).1 g2
      rw [dF g1,Array.getElem?_eq_getElem hlt] at hv
      simp [Array.getD_eq_getD_getElem?,Array.getElem?_eq_getElem hlt,Option.some.inj hv]
     have:blk γ e ah ts w (.cell s' i) y:=⟨ds,a,x,h1,hi,h2,by rw [hv,Lj];exact hy⟩
     have:=h.ey _ _ _ this zZ
     cases this
 · by_cases Us:x=b
   · subst Us;exact ⟨vs,ty.1,ty.2,hh,by rw [c0];exact List.prefix_refl _⟩
   · rw [c1 x Us] at hx ⊢;exact h.mem.wh x hx
 · have hn:s'≠s:=by
    rintro rfl
    rw [iI] at h1;injection h1 with h1;exact h0 h1.symm
   rw [hset s' hn] at h1
   rw [c1 x (fun e=>hn (yw s' (e▸h2)))]
   exact h.mem.u0 s' x ds h1 h0 h2
 · by_cases hn:s'=s
   · subst hn
     rw [iI] at h1;injection h1 with h1;subst h1
     intro i hi;simp at hi
   · rw [hset s' hn] at h1
     exact h.mem.Dt s' x ds us ty' fr h1 h2 h3
 · rcases he t with h1|⟨o,h1,h2⟩
   · rw [h1]
     refine ⟨(h.env t).1.mono hpre _ (fun _ _ h=>h),oK _ _ (h.env t).2 fun y hy e=> ?_⟩
     subst e
     have:=h.ey (.tmp t) (.obj s) y hy zZ
     cases this
   · have hv:=(h.env t).1
     rw [h1] at hv
     obtain ⟨b',hb',hv⟩:=hv.iH
     rw [hb] at hb';injection hb' with hb';subst hb'
     rw [h2,hv]
     refine ⟨?_,by trivial⟩
     have hep:=VR.ep (C:=C') γ (.agg ds) o b 0 (by rw [c0];simpa [AV.cells,hw.len] using hsz) (fun j a hj=>by
      have hj2:ds[j]? =some a:=hj
      have hjl:j<cs.length:=by rw [←hw.len];exact (List.getElem?_eq_some_iff.1 hj2).1
      have hj':cs[j]? =some cs[j]:=List.getElem?_eq_getElem hjl
      have:=(Wk.jW (hw.get j _ _ hj' hj2)).vr (((hcell j _ hj').1.np (uy hnp hj')).mono hpre [] (fun _ _ h=>h))
      rw [c0,Nat.zero_add]
      have e1:vs.toList.getD j undef=vs.getD j undef:=by simp [List.getD_eq_getElem?_getD,Array.getD_eq_getD_getElem?]
      rw [e1];exact this)
     rwa [Nat.zero_add] at hep
 · rcases he t with h1|⟨o,h1,h2⟩
   · have hf:=h.fr t l k xs (by rw [←h1];exact ht)
     cases l with
     |tmp u=>
      refine ⟨hf.1,fun hu=>hf.2 ?_⟩
      rcases he u with g1|⟨o,g1,g2⟩
      · rwa [g1] at hu
      · rw [g2] at hu;cases hu
     |cell s' o=>
      intro ds a x g1 g2 g3 g4
      by_cases hn:s'=s
      · subst hn;rw [iI] at g1;injection g1 with g1;subst g1;simp at g2
      · rw [hset s' hn] at g1;exact hf ds a x g1 g2 g3 g4
   · rw [h2] at ht;cases ht
theorem AW.freeze {c:Code} {s:Nat} {cs ds:List AV} (hs:ah[s]? =some cs) (hne:cs≠[]) (hnp:fW cs=true) (hw:gT cs ds)
 (he:∀t,get e' t=get e t∨∃o,get e t= .ptr s o∧get e' t= .ep (.agg ds) o) (h:AW P L N n0 c Q e' (ah.set s [])):AW P L N n0 c Q e ah:=by
 intro F γ C ts w ko hn
 obtain ⟨C',h1,h2⟩:=ko.freeze hs hne hnp hw he
 refine wp_mono (h F γ C' ts w h1 hn) ?_
 rintro x a w' ⟨q1,q2,e2,tq,γ2,C2,q3,q4,q5,q6⟩
 exact ⟨q1,q2,e2,tq,γ2,C2,q3,q4,q5,h2.trans q6⟩
inductive FZ (s:Nat) (cs:List AV):Env→Env→Prop
 |nil:FZ s cs [] []
 |same (i:Nat) (a:AV) (r r':Env):FZ s cs r r'→FZ s cs ((i,a)::r) ((i,a)::r')
 |ep (i o:Nat) (r r':Env):FZ s cs r r'→FZ s cs ((i, .ptr s o)::r) ((i, .ep (.agg cs) o)::r')
theorem FZ.get {s:Nat} {cs:List AV} {e e':Env} (h:FZ s cs e e') (t:Nat):Am.get e' t=Am.get e t∨∃o,Am.get e t= .ptr s o∧Am.get e' t= .ep (.agg cs) o:=by
 induction h with
 |nil=>exact .inl rfl
 |same i a r r' _ ih=>
  simp only [Am.get]
  by_cases hi:i=t
  · simp [hi]
  · simpa [hi] using ih
 |ep i o r r' _ ih=>
  simp only [Am.get]
  by_cases hi:i=t
  · exact .inr ⟨o,by simp [hi],by simp [hi]⟩
  · simpa [hi] using ih
theorem AX.freeze {c:ax} {s:Nat} {cs ds:List AV} (hs:ah[s]? =some cs) (hw:gT cs ds) (hne:cs≠[]) (hnp:fW cs=true) (he:FZ s ds e e') (h:AX P L N n0 c K e' (ah.set s [])):AX P L N n0 c K e ah:=
 fun c' cc=>AW.freeze hs hne hnp hw he.get (h c' cc)
end
end Go.Am
end
